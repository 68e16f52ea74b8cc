/-
  Chapter 46: own rows of targets and of circles: copied, appended, stored to. (Printed by wip/ebc.py.)
  Chapter 46: lists that are changed from the front on; cells that are stored to.
  Top 23: the law TopPlatesBox.
-/
import Derived.Test.YtlmolhblmlojnaaGreatDoorKU
import Derived.Test.YtlmolhblmlojnaaGreatDoorKAB
import Derived.Test.YtlmolhblmlojnaaGreatDoorKAE
section
namespace Go.Proofs.YtlmolhblmlojnaaGreatDoor
open Go Go.RowKit Go.Deep

def OwnG (w : World) (B : Nat) (v : Value) (l : List M.Tg) : Prop := w.ownsRow B 38 7 v l.length (csG l)
theorem OwnG.below {w w' : World} {B : Nat} {v : Value} {l : List M.Tg} (h : OwnG w B v l) (hb : Below w.heap.size w w') : OwnG w' B v l :=
  World.ownsRow.kept (row := none) h ⟨hb.os, hb.tape, hb.output, hb.size, fun k hk _ => hb.block k hk⟩ (Classical.em _)
theorem OwnG.cells {w : World} {B g cap : Nat} {l : List M.Tg} (h : OwnG w B (.slice (some ⟨g, 0, none⟩) l.length cap) l) (j : Nat) (u : Value) (hu : (csG l)[j]? = some u) : w.cell? ⟨g, j, none⟩ = some u := by
  have hj : j < l.length * 7 := by rw [← csG_len]; exact (List.getElem?_eq_some_iff.1 hu).1
  rw [World.ownsRow.cellAt h j hj, hu]
theorem OwnG.form {w : World} {B : Nat} {v : Value} {l : List M.Tg} (h : OwnG w B v l) (h0 : 0 < l.length) : ∃ g cap, v = .slice (some ⟨g, 0, none⟩) l.length cap ∧ B ≤ g ∧ g < w.heap.size := by
  obtain ⟨h1, h2⟩ := h
  rcases h2 with ⟨hv, hn⟩ | ⟨g, cap, cur, hv, hB, hh, _⟩
  · omega
  · exact ⟨g, cap, hv, hB, lt_of_block hh⟩
theorem OwnG.rd {w : World} {B : Nat} {v : Value} {l : List M.Tg} (h : OwnG w B v l) : RdG w v l := by
  by_cases h0 : 0 < l.length
  · obtain ⟨g, cap, rfl, hB, hlt⟩ := h.form h0
    refine ⟨_, _, rfl, Or.inr ⟨g, 0, rfl, hlt, fun i hi => ?_⟩⟩
    have hg := csG_get l i hi
    simp only [Nat.zero_add]
    exact ⟨h.cells _ _ hg.1, h.cells _ _ hg.2.1, h.cells _ _ hg.2.2.1, h.cells _ _ hg.2.2.2.1, h.cells _ _ hg.2.2.2.2.1, h.cells _ _ hg.2.2.2.2.2.1, h.cells _ _ hg.2.2.2.2.2.2⟩
  · obtain rfl : l = [] := List.length_eq_zero_iff.1 (by omega)
    rcases h.2 with ⟨e, _⟩ | ⟨g, cap, _, e, _⟩
    · exact ⟨_, _, e, Or.inl rfl⟩
    · exact ⟨_, _, e, Or.inl rfl⟩
theorem srcRdG {w : World} {A : Option Addr} {n cap : Nat} {l : List M.Tg} (h : RdG w (.slice A n cap) l) (h0 : 0 < l.length) : ∃ b o, A = some ⟨b, o, none⟩ ∧ n = l.length ∧ ∀ j u, (csG l)[j]? = some u → w.cell? ((⟨b, o, none⟩ : Addr).add j) = some u := by
  obtain ⟨A', cap', e, h2⟩ := h
  injection e with e1 e2 e3
  subst e1 e2 e3
  rcases h2 with rfl | ⟨b, o, rfl, hs⟩
  · simp at h0
  · refine ⟨b, o, rfl, rfl, fun j u hu => ?_⟩
    have hj : j < l.length * 7 := by rw [← csG_len]; exact (List.getElem?_eq_some_iff.1 hu).1
    have hi : j / 7 < l.length := by omega
    have hadd : (⟨b, o, none⟩ : Addr).add j = ⟨b, o + j, none⟩ := by unfold Addr.add; split <;> simp_all
    rw [hadd]
    have hg := csG_get l (j / 7) hi
    have hv := hs.val (j / 7) hi
    rcases (by omega : j = j / 7 * 7 ∨ j = j / 7 * 7 + 1 ∨ j = j / 7 * 7 + 2 ∨ j = j / 7 * 7 + 3 ∨ j = j / 7 * 7 + 4 ∨ j = j / 7 * 7 + 5 ∨ j = j / 7 * 7 + 6) with e | e | e | e | e | e | e
    · rw [e, hg.1] at hu
      rw [e, ← Option.some.inj hu]
      exact hv.1
    · rw [e, hg.2.1] at hu
      rw [e, ← Option.some.inj hu]
      exact (by rw [← Nat.add_assoc]; exact hv.2.1)
    · rw [e, hg.2.2.1] at hu
      rw [e, ← Option.some.inj hu]
      exact (by rw [← Nat.add_assoc]; exact hv.2.2.1)
    · rw [e, hg.2.2.2.1] at hu
      rw [e, ← Option.some.inj hu]
      exact (by rw [← Nat.add_assoc]; exact hv.2.2.2.1)
    · rw [e, hg.2.2.2.2.1] at hu
      rw [e, ← Option.some.inj hu]
      exact (by rw [← Nat.add_assoc]; exact hv.2.2.2.2.1)
    · rw [e, hg.2.2.2.2.2.1] at hu
      rw [e, ← Option.some.inj hu]
      exact (by rw [← Nat.add_assoc]; exact hv.2.2.2.2.2.1)
    · rw [e, hg.2.2.2.2.2.2] at hu
      rw [e, ← Option.some.inj hu]
      exact (by rw [← Nat.add_assoc]; exact hv.2.2.2.2.2.2)
theorem csG_one {l : List M.Tg} : ∀ u ∈ csG l, u.oneCell' = true := by
  intro u hu
  simp only [csG, List.mem_flatMap] at hu
  obtain ⟨x, hx, hx2⟩ := hu
  simp at hx2
  rcases hx2 with rfl | rfl | rfl | rfl | rfl | rfl | rfl <;> rfl
theorem infoTarget : (Tryz.prog.info? 38).map (fun i => (i.zero, i.size, i.bytes)) = some (some (.agg #[.int .i64 0, .int .i64 0, .int .i64 0, .int .i64 0, .int .i64 0, .int .i64 0, .bool false]), 7, 56) := by kernel_rfl
theorem OwnG.fresh (w : World) (B A : Nat) (hA : A = w.heap.size) (hB : B ≤ A) : OwnG (w.alloc (.cells #[] 38 (0, 0))) B (.slice (some ⟨A, 0, none⟩) 0 0) [] := by
  subst hA
  refine ⟨rfl, Or.inr ⟨w.heap.size, 0, #[], rfl, hB, ?_, Nat.le_refl _, by unfold maxLen; omega, rfl, rfl⟩⟩
  show (w.heap.push _)[w.heap.size]? = _
  simp
theorem run_app_OwnG {w : World} {B : Nat} {v : Value} {l m : List M.Tg} {ad : Addr} {cap : Nat} (ty : TypeId) (h : OwnG w B v l) (hc : ∀ j u, (csG m)[j]? = some u → w.cell? (ad.add j) = some u) (hB : B ≤ w.heap.size) (hn : (l.length + m.length) * 56 ≤ 140737488355328) :
    ∃ v' w', (Builtin.append_ #[22, 22] ty #[v, .slice (some ad) m.length cap]).run Tryz.prog w = .ok v' w' ∧ OwnG w' B v' (l ++ m) ∧ w.grownBy w' v.ownBlock := by
  obtain ⟨i, h1, h2, h3, h4⟩ := info_parts infoTarget
  obtain ⟨v', w', k1, k2, k3, _⟩ := run_append_own (P := Tryz.prog) w B _ ty _ i _ 7 56 Tryz.underlying22 h1 h2 h3 h4 rfl (by decide) v l.length (csG l) h ad m.length cap (csG m) (csG_len m)
      hc csG_one (by unfold maxLen; omega) hn hB
  refine ⟨v', w', k1, ?_, k3⟩
  unfold OwnG
  rw [csG_append, List.length_append]
  exact k2
theorem wpList_app_OwnG {ops : Array Oper} {rest : List Oper} {o : Oper} {a : Act} {Q : Exit → Act → World → Prop} {w : World} {B : Nat} {v xv : Value} {l m : List M.Tg} {ad : Addr} {cap : Nat} (hgd : o.guard = none) (s x : Operand)
    (ho : o.op = .call { callee := .builtin .append, args := #[s, x], argTypes := #[22, 22] }) (hs : a.eval s = v) (hx : a.eval x = xv) (hxv : xv = .slice (some ad) m.length cap)
    (h : OwnG w B v l) (hc : ∀ j u, (csG m)[j]? = some u → w.cell? (ad.add j) = some u) (hB : B ≤ w.heap.size) (hn : (l.length + m.length) * 56 ≤ 140737488355328)
    (hK : ∀ v' w', OwnG w' B v' (l ++ m) → w.grownBy w' v.ownBlock → wpList Tryz.prog ops Q rest (a.put o.dst v') w') : wpList Tryz.prog ops Q (o :: rest) a w :=
  wpList_plain hgd fun _ hK2 => by
    subst hxv
    obtain ⟨v', w', hr, h2, h3⟩ := run_app_OwnG (cap := cap) o.type h hc hB hn
    unfold Oper.wp execOp
    simp only [ho, resolve, invoke, builtin, Sem.run_bind, Sem.run_pure, Result.andThen_ok, List.map_toArray, List.map_cons, List.map_nil, hs, hx, hr]
    exact hK2 _ _ (hK v' w' h2 h3)
theorem app_belOwnG {W w w' : World} {B : Nat} {v : Value} {l : List M.Tg} (h : OwnG w B v l) (hb : Below W.heap.size W w) (hB : W.heap.size ≤ B) (hg : w.grownBy w' v.ownBlock) : Below W.heap.size W w' :=
  hb.grown hg hb.size fun k hk => Nat.le_trans hB (World.ownsRow.lt h k hk).1

namespace W
open M
attribute [local go_sem] bs_size bs_toList bs_get bs_extract bs_append bs_lit0 bs_lit1 lit1_bs
set_option maxHeartbeats 1000000
set_option maxRecDepth 20000

theorem pcloneOwnG (vl : Value) (l : List Tg) (w : World) (hs : RdG w vl l) (h0 : 0 < l.length) (hn : l.length ≤ 1000000) :
    Calls Tryz.prog 12 #[vl] w (fun e w' => ∃ g cap, e = .returned (.slice (some ⟨g, 0, none⟩) l.length cap) ∧ w.heap.size ≤ g ∧ OwnG w' w.heap.size (.slice (some ⟨g, 0, none⟩) l.length cap) l ∧ Below w.heap.size w w') := by
  obtain ⟨A, cap, rfl⟩ := hs.len
  obtain ⟨b, o, rfl, _, hc⟩ := srcRdG hs h0
  have hq : ∀ w, (binOp .eql 22 (.slice (some ⟨b, o, none⟩) l.length cap) (.slice none 0 0)).run Tryz.prog w = .ok (.bool false) w := fun w => rfl
  have hb0 : Below w.heap.size w (w.alloc (.cells #[] 38 (0, 0))) := bel_alloc (Below.refl _ _) _
  have HS := Lib.hid (And.intro (fun j u e => (hb0.cell (block_lt_of_cell (hc j u e))).trans (hc j u e)) hb0)
  have HN := Lib.hid hn
  have H0 := Lib.hid h0
  clear hs hc hb0 hn h0
  go_enter Tryz.func12, Tryz.ntmps12
  go_wp2_with (at_builtin; refine wpList_app_OwnG rfl (.tmp 5) (.tmp 6) rfl rfl rfl rfl (OwnG.fresh w w.heap.size w.heap.size rfl (Nat.le_refl _)) HS.out.1 HS.out.2.size (by have := HN.out; simp; omega) ?_; intro v2 w2 ho2 hk2)
  rw [List.nil_append] at ho2
  have HB := Lib.hid (app_belOwnG (OwnG.fresh w w.heap.size w.heap.size rfl (Nat.le_refl _)) HS.out.2 (Nat.le_refl _) hk2)
  obtain ⟨g, cap2, rfl, hg, _⟩ := ho2.form H0.out
  have HF := Lib.hid ho2
  clear ho2 hk2 HS
  go_wp2
  go_ret
  exact ⟨_, _, rfl, hg, HF.out, HB.out⟩

end W
end Go.Proofs.YtlmolhblmlojnaaGreatDoor
end
section
namespace Go.Proofs.YtlmolhblmlojnaaGreatDoor
open Go Go.RowKit Go.Deep
def mixL {α : Type} (f : α → α) (k : Nat) (l : List α) : List α := (l.take k).map f ++ l.drop k
theorem mixL_zero {α : Type} (f : α → α) (l : List α) : mixL f 0 l = l := by simp [mixL]
theorem mixL_all {α : Type} (f : α → α) (l : List α) : mixL f l.length l = l.map f := by simp [mixL]
theorem mixL_len {α : Type} (f : α → α) (k : Nat) (l : List α) (hk : k ≤ l.length) : (mixL f k l).length = l.length := by simp [mixL]; omega
theorem mixL_get {α : Type} (f : α → α) (k : Nat) (l : List α) (hk : k < l.length) : (mixL f k l)[k]'(by rw [mixL_len f k l (by omega)]; exact hk) = l[k] := by
  unfold mixL
  rw [List.getElem_append_right (by simp; omega)]
  simp [Nat.min_eq_left (Nat.le_of_lt hk)]
theorem mixL_set {α : Type} (f : α → α) (k : Nat) (l : List α) (hk : k < l.length) : (mixL f k l).set k (f l[k]) = mixL f (k + 1) l := by
  unfold mixL
  have h1 : ((l.take k).map f).length = k := by simp; omega
  rw [List.set_append_right _ _ (by omega), h1, Nat.sub_self, List.drop_eq_getElem_cons hk, List.set_cons_zero, List.take_add_one, List.getElem?_eq_getElem hk, List.map_append]
  simp
theorem csG_cons (x : M.Tg) (t : List M.Tg) : csG (x :: t) = .int .i64 x.x :: .int .i64 x.y :: .int .i64 x.lo :: .int .i64 x.hi :: .int .i64 x.tol :: .int .i64 x.mat :: .bool x.pin :: csG t := rfl
theorem csG_tol : ∀ (l : List M.Tg) (i : Nat) (h : i < l.length) (z : Int), (csG l).set (i * 7 + 4) (.int .i64 z) = csG (l.set i { l[i] with tol := z })
  | [], _, h, _ => by cases h
  | x :: t, 0, _, z => by rw [csG_cons]; rfl
  | x :: t, i + 1, h, z => by
    have hi : i < t.length := by simpa using h
    rw [csG_cons, show (i + 1) * 7 + 4 = i * 7 + 4 + 1 + 1 + 1 + 1 + 1 + 1 + 1 by omega]
    simp only [List.set_cons_succ, List.getElem_cons_succ, csG_cons]
    rw [csG_tol t i hi z]
theorem OwnG.setTol {w : World} {B g cap : Nat} {l : List M.Tg} (h : OwnG w B (.slice (some ⟨g, 0, none⟩) l.length cap) l) (i : Nat) (hi : i < l.length) (z : Int) :
    OwnG (w.setCell ⟨g, i * 7 + 4, none⟩ (.int .i64 z)) B (.slice (some ⟨g, 0, none⟩) l.length cap) (l.set i { l[i] with tol := z }) := by
  have h2 := (World.ownsRow.stored h (i * 7 + 4) (.int .i64 z)).1
  unfold OwnG
  rw [List.length_set, ← csG_tol l i hi z]
  exact h2
end Go.Proofs.YtlmolhblmlojnaaGreatDoor
end
section
namespace Go.Proofs.YtlmolhblmlojnaaGreatDoor
open Go Go.RowKit Go.Deep Go.Sort
namespace M
def bxP (p : Tg × Cc) : Tg × Cc := ({ p.1 with tol := p.1.tol + (wide p.1 p.2 + 1) / 2 }, p.2)
def mixB (i : Nat) (pl : Pl) : List Tg := (mixL bxP i pl).map Prod.fst
theorem mixB_len (i : Nat) (pl : Pl) (h : i ≤ pl.length) : (mixB i pl).length = pl.length := by rw [mixB, List.length_map, mixL_len _ _ _ h]
theorem mixB_get (i : Nat) (pl : Pl) (h : i < pl.length) (h2 : i < (mixB i pl).length) : (mixB i pl)[i] = pl[i].1 := by
  simp only [mixB, List.getElem_map]
  rw [mixL_get bxP i pl h]
theorem mixB_set (i : Nat) (pl : Pl) (h : i < pl.length) : (mixB i pl).set i (bxP pl[i]).1 = mixB (i + 1) pl := by
  unfold mixB
  rw [← mixL_set bxP i pl h, List.map_set]
theorem mixB_zero {ts : List Tg} {cs : List Cc} (h : cs.length = ts.length) : mixB 0 (ts.zip cs) = ts := by
  rw [mixB, mixL_zero, List.map_fst_zip (by omega)]
theorem mixB_zip : ∀ (ts : List Tg) (cs : List Cc), (((ts.zip cs).map bxP).map Prod.fst).zip cs = (ts.zip cs).map bxP
  | [], _ => by simp
  | _ :: _, [] => by simp
  | t :: ts, c :: cs => by
    simp only [List.zip_cons_cons, List.map_cons]
    rw [mixB_zip ts cs]
    rfl
theorem mixB_all (ts : List Tg) (cs : List Cc) : (mixB (ts.zip cs).length (ts.zip cs)).zip cs = (ts.zip cs).map bxP := by
  rw [mixB, mixL_all, mixB_zip]
theorem wide_bx (p : Tg × Cc) : wide (bxP p).1 (bxP p).2 = wide p.1 p.2 + (wide p.1 p.2 + 1) / 2 := by
  have h : ∀ k, wide { p.1 with tol := p.1.tol + k } p.2 = wide p.1 p.2 + k := fun k => by unfold wide extr; simp only; omega
  exact h _
theorem box_in {pl : Pl} (hw : ∀ p ∈ pl, 0 ≤ wide p.1 p.2) (h : shOk pl = true) : ∀ d ∈ (pl.map bxP).map dkP, powD d (shX pl) (shY pl) ≤ 0 := by
  intro d hd
  obtain ⟨q, hq, rfl⟩ := List.mem_map.1 hd
  obtain ⟨p, hp, rfl⟩ := List.mem_map.1 hq
  refine box_round hw (Sx.shift_fz h) (bxP p) p hp rfl rfl rfl ?_
  rw [wide_bx]
  have := hw p hp
  omega
theorem box_some {pl : Pl} (hne : pl ≠ []) (hw : ∀ p ∈ pl, 0 ≤ wide p.1 p.2) (h : shOk pl = true) : (firstD ((pl.map bxP).map dkP)).isSome = true :=
  (first_iff (by simpa using hne)).2 ⟨_, _, box_in hw h⟩
theorem mx_b8 {pl : Pl} (hne : 0 < pl.length) (f : Tg × Cc → Int) (h : ∀ p ∈ pl, (f p).natAbs < 10 ^ 8) : (mxZ (pl.map f)).natAbs < 10 ^ 8 := by
  obtain ⟨k, hk, e⟩ := mxTo_mem (pl.map f) (by simpa using hne) (pl.map f).length (Nat.le_refl _)
  have e2 : mxZ (pl.map f) = (pl.map f).getD k 0 := e
  rw [e2]
  have hk2 : k < pl.length := by simpa using hk
  rw [Sx.getD_get (pl.map f) 0 hk, List.getElem_map]
  exact h _ (List.getElem_mem hk2)
theorem lo_b8 {p : Tg × Cc} (h : RtH p) : (lowX p).natAbs < 10 ^ 8 ∧ (lowY p).natAbs < 10 ^ 8 := by
  obtain ⟨ht, hc, h1, h2⟩ := h
  have hw := RtH.wide ⟨ht, hc, h1, h2⟩
  have q1 := ht.x
  have q2 := ht.y
  have q3 := hc.x
  have q4 := hc.y
  unfold lowX lowY
  omega
theorem shift_b8 {ts : List Tg} {cs : List Cc} (h : chk46 ts cs = 0) : Bq 8 (shX (ts.zip cs)) ∧ Bq 8 (shY (ts.zip cs)) := by
  obtain ⟨h1, _, hl, hr⟩ := chk46_iff.1 h
  have hz : 0 < (ts.zip cs).length := by rw [List.length_zip]; omega
  refine ⟨Bq_frac (n := mxZ ((ts.zip cs).map lowX)) (d := 2) ?_ (by decide) (mx_b8 hz lowX fun p hp => (lo_b8 (hr p hp)).1) (by decide),
    Bq_frac (n := mxZ ((ts.zip cs).map lowY)) (d := 2) ?_ (by decide) (mx_b8 hz lowY fun p hp => (lo_b8 (hr p hp)).2) (by decide)⟩
  · unfold shX; simp; grind
  · unfold shY; simp; grind
theorem shV_full (pl : Pl) : ∃ s1 s2, shV pl = .tuple #[.bool (shOk pl), .agg #[.string (bs s1), .string (bs s2)], .int .i64 0] ∧ (shOk pl = true → s1 = R (shX pl) ∧ s2 = R (shY pl)) := by
  unfold shV
  by_cases h : shOk pl = true
  · rw [if_pos h, h]; exact ⟨_, _, rfl, fun _ => ⟨rfl, rfl⟩⟩
  · rw [if_neg h, Bool.eq_false_iff.2 h]; exact ⟨_, _, rfl, fun h => by cases h⟩
end M
namespace W
open M
attribute [local go_sem] bs_size bs_toList bs_get bs_extract bs_append bs_lit0 bs_lit1 lit1_bs
set_option maxHeartbeats 1000000
set_option maxRecDepth 20000
theorem box_not (vt vc : Value) (ts : List Tg) (cs : List Cc) (w : World) (hg : Glob w) (hs : Sig w) (ht : RdG w vt ts) (hc : RdC w vc cs) (nt : ts.length ≤ maxLen) (nc : cs.length ≤ maxLen) (hr : (decide (ts.length ≤ 4) && decide (chk46 ts cs = 0)) = false) :
    Calls Tryz.prog 3 #[vt, vc] w (Ret w (.bool true)) := by
  have hp := pplayRight vt vc ts cs w ht hc nt nc
  rw [hr] at hp
  have HP := Lib.hid hp
  have HY := Lib.hid (fun W (hW : Below w.heap.size w W) => pplayShift W (hg.of hW) (hs.below hW))
  obtain ⟨At, ct, rfl⟩ := ht.len
  obtain ⟨Ac, cc, rfl⟩ := hc.len
  clear ht hc hg hs hr hp
  go_enter Tryz.func3, Tryz.ntmps3
  go_wp2_with fail
  refine (HP.out).mono ?_
  rintro e w1 ⟨rfl, hb1⟩
  go_wp2_with fail
  refine (HY.out _ hb1).mono ?_
  rintro e w2 ⟨rfl, hb2⟩
  go_wp2
  go_ret
  exact Ret.of rfl (bel_to hb1 hb2)
theorem bothB_ok {t : Tg} {c : Cc} (ht : RtT t) (hc : RtC c) : bothC t c = 0 := by
  unfold bothC
  rw [(chkT_iff t).2 ht, if_neg (by simp), (ringC_iff c).2 hc]
theorem wthB_ok {t : Tg} {n : Int} (h : t.lo ≤ n ∧ n ≤ t.hi) : wth t n = true := by
  unfold wth
  simp [h.1, h.2]
theorem box_yes (vt vc : Value) (ts : List Tg) (cs : List Cc) (w : World) (hg : Glob w) (hs : Sig w) (ht : RdG w vt ts) (hc : RdC w vc cs) (nt : ts.length ≤ maxLen) (nc : cs.length ≤ maxLen) (h4 : ts.length ≤ 4) (h0 : chk46 ts cs = 0) :
    Calls Tryz.prog 3 #[vt, vc] w (Ret w (.bool true)) := by
  have hp := pplayRight vt vc ts cs w ht hc nt nc
  rw [show decide (ts.length ≤ 4) = true by simp [h4], show decide (chk46 ts cs = 0) = true by simp [h0], Bool.true_and] at hp
  have HP := Lib.hid hp
  have HY := Lib.hid (fun W (hW : Below w.heap.size w W) => pplayShift W (hg.of hW) (hs.below hW))
  obtain ⟨h1, h16, hlen, hrt⟩ := chk46_iff.1 h0
  have hpn : (ts.zip cs).length = ts.length := by rw [List.length_zip]; omega
  have hwd : ∀ p ∈ ts.zip cs, 0 ≤ wide p.1 p.2 := fun p hp => (hrt p hp).wide.1
  have hsh := fun W (hW : Below w.heap.size w W) => pshift_ok vt vc ts cs W (hg.of hW) (hs.below hW) (ht.below hW) (hc.below hW) h0
  obtain ⟨s1, s2, hsv, hs12⟩ := shV_full (ts.zip cs)
  rw [hsv] at hsh
  have HS := Lib.hid hsh
  have HCL := Lib.hid (fun W (hW : Below w.heap.size w W) => pcloneOwnG vt ts W (ht.below hW) (by omega) (by omega))
  have hml : (mixB ts.length (ts.zip cs)).length = ts.length := by rw [mixB_len _ _ (by omega), hpn]
  have hmz : (mixB ts.length (ts.zip cs)).zip cs = (ts.zip cs).map bxP := by
    have := mixB_all ts cs
    rwa [hpn] at this
  have hmc := (fun vm W (hW : Below w.heap.size w W) (hv : RdG W vm (mixB ts.length (ts.zip cs))) => rcheck46 vm vc _ cs W hv (hc.below hW) (by rw [hml]; exact nt) nc)
  have hdo : shOk (ts.zip cs) = true → chk46 (mixB ts.length (ts.zip cs)) cs = 0 → ∀ vm W, Below w.heap.size w W → RdG W vm (mixB ts.length (ts.zip cs)) →
      Calls Tryz.prog 15 #[tkV vm vc (-1), .agg #[.string (bs s1), .string (bs s2)]] W (Ret W (.tuple #[.bool true, .int .i64 0])) := by
    intro hb hk vm W hW hv
    obtain ⟨e1, e2⟩ := hs12 hb
    rw [e1, e2]
    refine sdoes vm vc _ cs (-1) (((ts.zip cs).map bxP).map dkP) (shX (ts.zip cs)) (shY (ts.zip cs)) W (hg.of hW) hv (hc.below hW) (fun W2 hW2 => ?_) (fun d hd => ?_) (by rw [List.length_map, List.length_map]; omega) (shift_b8 h0).1 (shift_b8 h0).2 (box_in hwd hb)
    · have hb2 := bel_to hW hW2
      have := szones_no vm vc _ cs W2 (hg.of hb2) (hs.below hb2) (hv.below hW2) (hc.below hb2) hk
      rwa [hmz] at this
    · obtain ⟨q, hq, rfl⟩ := List.mem_map.1 hd
      rw [← hmz] at hq
      exact dkP_sm ((chk46_iff.1 hk).2.2.2 q hq)
  have hfe : shOk (ts.zip cs) = true → chk46 (mixB ts.length (ts.zip cs)) cs = 0 → ∀ vm W, Below w.heap.size w W → RdG W vm (mixB ts.length (ts.zip cs)) →
      ∃ x : Wn, Calls Tryz.prog 16 #[tkV vm vc (-1)] W (Ret W (.tuple #[.bool true, wnV x, .int .i64 0])) := by
    intro hb hk vm W hW hv
    have := sfeasible vm vc _ cs W (hg.of hW) (hs.below hW) hv (hc.below hW) hk
    rw [hmz, box_some (zip_ne h0) hwd hb] at this
    exact ⟨_, this⟩
  generalize chk46 (mixB ts.length (ts.zip cs)) cs = ck at hmc hdo hfe
  have HM := Lib.hid hmc
  have HD := Lib.hid hdo
  have HF := Lib.hid hfe
  have hz : ∀ i (hi : i < ts.length), ∃ p : Tg × Cc, p.1 = ts[i] ∧ (∀ hi2 : i < cs.length, p.2 = cs[i]) ∧ (∀ hp : i < (ts.zip cs).length, (ts.zip cs)[i] = p) ∧ RtH p := by
    intro i hi
    refine ⟨(ts.zip cs)[i]'(by omega), by simp, fun _ => by simp, fun _ => rfl, hrt _ (List.getElem_mem _)⟩
  have HZ := Lib.hid (fun (p : Tg × Cc) (h : RtH p) W (hW : Below w.heap.size w W) => (show Calls Tryz.prog 13 #[tgV p.1, ccV p.2] W (Ret W (.tuple #[.int .i64 (wide p.1 p.2), .int .i64 0])) from by
    have hzc := zone_ok (bothB_ok h.1 h.2.1) (wthB_ok h.2.2)
    have h := pzone p.1 p.2 W (hs.below hW)
    rw [hzc.1, hzc.2] at h
    exact h))
  have HPI := Lib.hid hz
  have HLC := Lib.hid (show cs.length = ts.length from hlen)
  have HPN := Lib.hid hpn
  have HMG := Lib.hid (fun i hi hi2 => mixB_get i (ts.zip cs) hi hi2)
  have HMS := Lib.hid (fun i hi => mixB_set i (ts.zip cs) hi)
  have HML := Lib.hid (fun i hi => mixB_len i (ts.zip cs) hi)
  have HM0 := Lib.hid (mixB_zero (ts := ts) (cs := cs) hlen)
  have HT := Lib.hid ht
  have HC := Lib.hid hc
  have hl0 : 0 < ts.length := by omega
  obtain ⟨At, ct, rfl⟩ := ht.len
  obtain ⟨Ac, cc, rfl⟩ := hc.len
  obtain ⟨bt, ot, rfl, hst⟩ := ht.row 0 hl0
  obtain ⟨bc, oc, rfl, hsc⟩ := hc.row 0 (by omega)
  have HST := Lib.hid hst
  have HSC := Lib.hid hsc
  clear hst hsc HT HC hz hfe hdo hmc hsh hsv hs12 hmz hml hwd hrt hp h0 h1 h4 ht hc hg hs nt nc hlen
  generalize shOk (ts.zip cs) = box at *
  go_enter Tryz.func3, Tryz.ntmps3
  go_wp2_with fail
  refine (HP.out).mono ?_
  rintro e w1 ⟨rfl, hb1⟩
  go_wp2_with fail
  refine (HS.out _ hb1).mono ?_
  rintro e w2 ⟨rfl, hb2⟩
  have hw4 := And.intro (bel_to (bel_to hb1 hb2) (bel_al w2 (.cells #[.string (bs s1), .string (bs s2)] 28 (0, 0)))) (rnw (w := w2) (t := 28) (xs := [.string (bs s1), .string (bs s2)]))
  have H4 := Lib.hid hw4
  clear hw4 hb1 hb2 HP HS
  go_wp2_with fail
  generalize w2.alloc (.cells #[.string (bs s1), .string (bs s2)] 28 (0, 0)) = w4 at *
  generalize w2.heap.size = bp at *
  refine (HCL.out _ H4.out.1).mono ?_
  rintro e w5 ⟨g, cap, rfl, hgB, ho, hb5⟩
  have H5 := Lib.hid (And.intro hb5 (show OwnG w5 w4.heap.size (.slice (some ⟨g, 0, none⟩) ts.length cap) (mixB 0 (ts.zip cs)) by rw [HM0.out]; exact ho))
  clear ho hb5 HCL
  go_wp2_with fail
  go_loopw [35] (fun iv wr => ∃ i : Nat, iv = .int .i64 (i : Int) ∧ i ≤ ts.length ∧ Hid (Below w4.heap.size w4 wr ∧ OwnG wr w4.heap.size (.slice (some ⟨g, 0, none⟩) ts.length cap) (mixB i (ts.zip cs)))) (fun iv _ => ts.length - (intOf iv).toNat)
  case atStart => exact ⟨0, rfl, by omega, H5⟩
  case round =>
    clear H5
    obtain ⟨i, rfl, hi, hin⟩ := hrel
    by_cases hlt : i < ts.length
    · have hlc : i < cs.length := by have := HLC.out; omega
      obtain ⟨⟨x, z⟩, e1', e2', e3', hp⟩ := HPI.out i hlt
      dsimp only at e1' e2'
      have hbw := bel_to H4.out.1 hin.out.1
      obtain ⟨c0, c1, c2, c3, c4, c5, c6⟩ := (HST.out.below' hbw).val i hlt
      obtain ⟨d0, d1, d2⟩ := (HSC.out.below' hbw).val i hlc
      rw [← e1'] at c0 c1 c2 c3 c4 c5 c6
      rw [← e2' hlc] at d0 d1 d2
      have m0 := cell_regrown c0
      have m1 := cell_regrown c1
      have m2 := cell_regrown c2
      have m3 := cell_regrown c3
      have m4 := cell_regrown c4
      have m5 := cell_regrown c5
      have m6 := cell_regrown c6
      have m7 := cell_regrown d0
      have m8 := cell_regrown d1
      have m9 := cell_regrown d2
      have e1 : ∀ args w, (callFunc 13 args).run Tryz.prog w = .ok (.enter 13 args) w := enters_of Tryz.func13 (by kernel_rfl) rfl
      have hzc := fun W (hW : Below wr.heap.size wr W) => HZ.out (x, z) hp W (bel_to hbw hW)
      have hwd := hp.wide
      have htol := hp.1.tol
      dsimp only at hzc hwd htol
      obtain ⟨E, hE⟩ : ∃ E, E = wide x z := ⟨_, rfl⟩
      rw [← hE] at hzc hwd
      have k1 := reg_of (w := wr) (fun W hW => hzc W hW)
      have HN0 := Lib.hid (And.intro hE (And.intro e3' (And.intro hwd htol)))
      clear hzc hE e1' e2' e3' hwd htol hp
      have hi0 : (0 : Int) ≤ (i : Int) := by omega
      have hit : (i : Int) < (ts.length : Int) := by omega
      have hic : (i : Int) < (cs.length : Int) := by omega
      clear c0 c1 c2 c3 c4 c5 c6 d0 d1 d2 hbw
      go_wp2_with fail
      refine wp_region_quiet_below (by kernel_rfl) (by kernel_rfl) ?_
      repeat (go_big_quiet_step (fail))
      go_big_quiet_step (exact k1 _ _)
      repeat (go_big_quiet_step (fail))
      refine wpQuiet_nil ?_
      intro W6 hw'
      have hb6 : Below wr.heap.size wr W6 := by obtain ⟨p, e⟩ := hw'; rw [e]; exact below_regrown wr p.d p.os
      clear hw'
      have hin6 := And.intro (bel_to hin.out.1 hb6) (hin.out.2.below hb6)
      clear m0 m1 m2 m3 m4 m5 m6 m7 m8 m9 e1 k1 hb6 hin
      obtain ⟨hE, e3', hwd, htol⟩ := HN0.out
      have hlm : (mixB i (ts.zip cs)).length = ts.length := by rw [HML.out i (by rw [HPN.out]; omega), HPN.out]
      have hin2 := hin6.2
      rw [← hlm] at hin2
      have him : i < (mixB i (ts.zip cs)).length := by omega
      have hip : i < (ts.zip cs).length := by rw [HPN.out]; exact hlt
      have hcell := hin2.cells _ _ (csG_get _ i him).2.2.2.2.1
      rw [HMG.out i hip him, e3' hip] at hcell
      have hfz := World.ownsRow.frozenAt hin2 (i * 7 + 4)
      have hst2 := hin2.setTol i him (x.tol + (E + 1) / 2)
      rw [HMG.out i hip him, e3' hip, show ({ x with tol := x.tol + (E + 1) / 2 } : Tg) = (bxP (x, z)).1 from by rw [hE]; rfl, ← e3' hip, HMS.out i hip, hlm] at hst2
      have HN := Lib.hid (show Below w4.heap.size w4 (W6.setCell ⟨g, i * 7 + 4, none⟩ (.int .i64 (x.tol + (E + 1) / 2))) ∧ OwnG (W6.setCell ⟨g, i * 7 + 4, none⟩ (.int .i64 (x.tol + (E + 1) / 2))) w4.heap.size (.slice (some ⟨g, 0, none⟩) ts.length cap) (mixB (i + 1) (ts.zip cs)) from ⟨Below.setCell (p := ⟨g, i * 7 + 4, none⟩) hin6.1 hgB _, hst2⟩)
      clear hin6 hin2 hlm him hip hst2 e3' hE HN0
      generalize x.tol = tl at *
      have hw1 : wrap64 (E + 1) = E + 1 := by unfold wrap64; omega
      obtain ⟨K, hK⟩ : ∃ K, K = (E + 1) / 2 := ⟨_, rfl⟩
      have hq : (E + 1).tdiv 2 = K := by rw [hK, Int.tdiv_eq_ediv_of_nonneg (by omega)]
      rw [← hK] at HN
      have hw2 : wrap64 K = K := by unfold wrap64; omega
      have hw3 : wrap64 (tl + K) = tl + K := by unfold wrap64; omega
      clear hK
      go_wp2
      go_roundw
      case rel => exact ⟨i + 1, by go_num, by omega, HN⟩
      case measure => simp [intOf]; omega
    · obtain rfl : i = ts.length := by omega
      have HRM := Lib.hid (And.intro (bel_to H4.out.1 hin.out.1) (And.intro (OwnG.rd hin.out.2) (H4.out.2.below' hin.out.1)))
      clear hin hlt H4 HMG HMS HML HPI HST HSC HZ HM0 HLC HPN
      cases box with
      | false =>
        go_wp2_with fail
        refine (HY.out _ HRM.out.1).mono ?_
        rintro e w6 ⟨rfl, hb6⟩
        go_wp2
        go_ret
        exact Ret.of rfl (bel_to HRM.out.1 hb6)
      | true =>
        by_cases hk : ck = 0
        · subst hk
          go_wp2_with fail
          refine (HM.out _ _ HRM.out.1 HRM.out.2.1).mono ?_
          rintro e w6 ⟨rfl, hb6⟩
          have H6 := Lib.hid (And.intro (bel_to HRM.out.1 hb6) (And.intro (HRM.out.2.1.below hb6) (HRM.out.2.2.below' hb6)))
          clear hb6 HRM HM
          obtain ⟨vs, hvs⟩ : ∃ vs : List Value, vs = [.slice (some ⟨g, 0, none⟩) ts.length cap, .slice (some ⟨bc, oc, none⟩) cs.length cc, .int .i64 (-1)] := ⟨_, rfl⟩
          have h7 := bel_al w6 (.cells #[.slice (some ⟨g, 0, none⟩) ts.length cap, .slice (some ⟨bc, oc, none⟩) cs.length cc, .int .i64 (-1)] 45 (0, 0))
          have H7 := Lib.hid (And.intro (bel_to H6.out.1 h7) (And.intro (H6.out.2.1.below h7) (And.intro (H6.out.2.2.below' h7) (rnw (w := w6) (t := 45) (xs := [.slice (some ⟨g, 0, none⟩) ts.length cap, .slice (some ⟨bc, oc, none⟩) cs.length cc, .int .i64 (-1)])))))
          have y0 := H7.out.2.2.1.cell (i := 0) rfl
          have y1 := H7.out.2.2.1.cell (i := 1) rfl
          have x0 := H7.out.2.2.2.cell (i := 0) rfl
          have x1 := H7.out.2.2.2.cell (i := 1) rfl
          have x2 := H7.out.2.2.2.cell (i := 2) rfl
          have HD2 := HD.out (by trivial) (by trivial)
          have HF2 := HF.out (by trivial) (by trivial)
          unfold tkV at HD2 HF2
          have HD3 := Lib.hid HD2
          have HF3 := Lib.hid HF2
          clear HD2 HF2 HD HF hvs h7 H6
          go_wp2_with fail
          refine (HD3.out _ _ H7.out.1 H7.out.2.1).mono ?_
          rintro e w8 ⟨rfl, hb8⟩
          clear x0 x1 x2 y0 y1
          have H8 := Lib.hid (And.intro (bel_to H7.out.1 hb8) (And.intro (H7.out.2.1.below hb8) (H7.out.2.2.2.below' hb8)))
          have x0 := H8.out.2.2.cell (i := 0) rfl
          have x1 := H8.out.2.2.cell (i := 1) rfl
          have x2 := H8.out.2.2.cell (i := 2) rfl
          clear hb8 H7 HD3
          obtain ⟨x, hf⟩ := HF3.out _ _ H8.out.1 H8.out.2.1
          have HFF := Lib.hid hf
          clear hf HF3
          go_wp2_with fail
          refine (HFF.out).mono ?_
          rintro e w9 ⟨rfl, hb9⟩
          have hb9 := bel_to (bel_to H8.out.1 hb9) (bel_al w9 (.cells #[.int .i64 (x.i : Int), .int .i64 (x.j : Int), .int .i64 x.side] 49 (0, 0)))
          have H9 := Lib.hid hb9
          clear hb9 H8 x0 x1 x2 HFF
          go_wp2_with fail
          refine (HY.out _ H9.out).mono ?_
          rintro e w10 ⟨rfl, hb10⟩
          go_wp2
          go_ret
          exact Ret.of rfl (bel_to H9.out hb10)
        · have hkz : ((ck : Int) == 0) = false := by rw [beq_eq_false_iff_ne]; omega
          have hkn : ((ck : Int) != 0) = true := by rw [bne_iff_ne]; omega
          go_wp2_with fail
          refine (HM.out _ _ HRM.out.1 HRM.out.2.1).mono ?_
          rintro e w6 ⟨rfl, hb6⟩
          have H6 := Lib.hid (bel_to HRM.out.1 hb6)
          clear hb6 HRM HM HD HF
          go_wp2_with fail
          refine (HY.out _ H6.out).mono ?_
          rintro e w7 ⟨rfl, hb7⟩
          go_wp2
          go_ret
          exact Ret.of rfl (bel_to H6.out hb7)
theorem box_law (vt vc : Value) (ts : List Tg) (cs : List Cc) (w : World) (hg : Glob w) (hs : Sig w) (ht : RdG w vt ts) (hc : RdC w vc cs) (nt : ts.length ≤ maxLen) (nc : cs.length ≤ maxLen) :
    Calls Tryz.prog 3 #[vt, vc] w (Ret w (.bool true)) := by
  by_cases hr : (decide (ts.length ≤ 4) && decide (chk46 ts cs = 0)) = true
  · rw [Bool.and_eq_true, decide_eq_true_eq, decide_eq_true_eq] at hr
    exact box_yes vt vc ts cs w hg hs ht hc nt nc hr.1 hr.2
  · exact box_not vt vc ts cs w hg hs ht hc nt nc (by simpa using hr)
end W
end Go.Proofs.YtlmolhblmlojnaaGreatDoor
end
