/-
  Chapters 44 and 47 of the program: virtual sizes of right targets at maximum material.
  Chapter 47 of the program: 'mapped' to numbers, 'virtual'.
  Chapter 47: lists of elements, and of tools. (Printed by wip/otc.py.)
-/
import Derived.Test.YtellemlhhlafcaaGreatDoorMQ
import Derived.Test.YtellemlhhlafcaaGreatDoorMU
import Derived.Test.YtellemlhhlafcaaGreatDoorMM
import Derived.Maps.AppendAt
section
namespace Go.Proofs.YtellemlhhlafcaaGreatDoor
open Go Go.RowKit Go.Deep Go.Sort
namespace M
def virt (t : Tg) : Int := if t.pin = true then t.hi + t.tol else t.lo - t.tol
theorem virt_rng {t : Tg} (h : RtT t) : 1 ≤ virt t ∧ virt t ≤ 200000 := by
  have h1 := h.lo
  have h2 := h.hi
  have h3 := h.tol
  have h4 := h.pin
  unfold virt
  cases hp : t.pin with
  | true => rw [if_pos rfl]; omega
  | false =>
    have := h4 hp
    rw [if_neg (by decide)]
    omega
theorem virt_side {t : Tg} (hm : t.mat = 1) : (if sideT t < 0 then t.lo else t.hi) + sideT t * t.tol = virt t ∧ (sideT t = 1 ∨ sideT t = -1) := by
  unfold sideT virt
  rw [hm]
  cases t.pin with
  | true => simp
  | false => simp; omega
end M
namespace W
open M
attribute [local go_sem] bs_size bs_toList bs_get bs_extract bs_append bs_lit0 bs_lit1 lit1_bs
set_option maxHeartbeats 1000000
set_option maxRecDepth 20000
theorem bvirtual (t : Tg) (w : World) (hs : Sig w) (ht : RtT t) (hm : t.mat = 1) : Calls Tryz.prog 49 #[tgV t] w (Ret w (.tuple #[.int .i64 (virt t), .int .i64 0])) := by
  have HB0 := Lib.hid (bel_al w (tgO t))
  have HX := Lib.hid (rnw (w := w) (t := 27) (xs := tgC t))
  have hc := fun W => bcheck t W
  rw [(chkT_iff t).2 ht] at hc
  have HC := Lib.hid hc
  have HO := Lib.hid (fun W (hW : Below w.heap.size w W) => bof t W (hs.below hW) ht.mat)
  obtain ⟨hv, hsd⟩ := virt_side hm
  have hr := virt_rng ht
  have htl := ht.tol
  have hlo := ht.lo
  have hhi := ht.hi
  have hpr : wrap64 (sideT t * t.tol) = sideT t * t.tol := by
    rcases hsd with e | e <;> rw [e] <;> unfold wrap64 <;> omega
  have hsm : wrap64 ((if sideT t < 0 then t.lo else t.hi) + sideT t * t.tol) = virt t := by rw [hv]; unfold wrap64; omega
  have HE := Lib.hid (fun W => bend t (sideT t) (sideT t) W)
  generalize virt t = V at *
  generalize sideT t = s at *
  generalize (if s < 0 then t.lo else t.hi) = ed at *
  clear hs ht hm hc hv hsd hr htl hlo hhi
  unfold tgO tgC at *
  obtain ⟨x, y, lo, hi, tol, mat, pin⟩ := t
  simp only at *
  have x0 := HX.out.cell (i := 0) rfl
  go_enter Tryz.func49, Tryz.ntmps49
  go_wp2_with fail
  refine (HC.out _).mono ?_
  rintro e w1 ⟨rfl, hb1⟩
  have HX1 := Lib.hid (HX.out.below' hb1)
  have HB1 := Lib.hid (bel_to HB0.out hb1)
  clear x0
  have x0 := HX1.out.cell (i := 0) rfl
  have x1 := HX1.out.cell (i := 1) rfl
  have x2 := HX1.out.cell (i := 2) rfl
  have x3 := HX1.out.cell (i := 3) rfl
  have x4 := HX1.out.cell (i := 4) rfl
  have x5 := HX1.out.cell (i := 5) rfl
  have x6 := HX1.out.cell (i := 6) rfl
  clear hb1 HX HB0 HC
  go_wp2_with fail
  refine (HO.out _ HB1.out).mono ?_
  rintro e w2 ⟨rfl, hb2⟩
  have hal := bel_al w2 (.cells #[.int .i64 x, .int .i64 y, .int .i64 lo, .int .i64 hi, .int .i64 tol, .int .i64 mat, .bool pin, .int .i64 s] 177 (0, 0))
  have hrw : Row (w2.alloc (.cells #[.int .i64 x, .int .i64 y, .int .i64 lo, .int .i64 hi, .int .i64 tol, .int .i64 mat, .bool pin, .int .i64 s] 177 (0, 0))) w2.heap.size 177 [.int .i64 x, .int .i64 y, .int .i64 lo, .int .i64 hi, .int .i64 tol, .int .i64 mat, .bool pin, .int .i64 s] := rnw
  have HB2 := Lib.hid (bel_to (bel_to HB1.out hb2) hal)
  have HR := Lib.hid hrw
  clear hb2 hal hrw HX1 HB1 HO x0 x1 x2 x3 x4 x5 x6
  go_wp2_with fail
  generalize w2.alloc (.cells #[.int .i64 x, .int .i64 y, .int .i64 lo, .int .i64 hi, .int .i64 tol, .int .i64 mat, .bool pin, .int .i64 s] 177 (0, 0)) = V2 at *
  generalize w2.heap.size = vb at *
  have m0 := cell_regrown (HR.out.cell (i := 0) rfl)
  have m1 := cell_regrown (HR.out.cell (i := 1) rfl)
  have m2 := cell_regrown (HR.out.cell (i := 2) rfl)
  have m3 := cell_regrown (HR.out.cell (i := 3) rfl)
  have m4 := cell_regrown (HR.out.cell (i := 4) rfl)
  have m5 := cell_regrown (HR.out.cell (i := 5) rfl)
  have m6 := cell_regrown (HR.out.cell (i := 6) rfl)
  have m7 := cell_regrown (HR.out.cell (i := 7) rfl)
  have k1 := reg_of (w := V2) (fun W _ => HE.out W)
  have e1 : ∀ args w, (callFunc 88 args).run Tryz.prog w = .ok (.enter 88 args) w := enters_of Tryz.func88 (by kernel_rfl) rfl
  refine wp_region_quiet_below (by kernel_rfl) (by kernel_rfl) ?_
  repeat (go_big_quiet_step (fail))
  go_big_quiet_step (exact k1 _ _)
  repeat (go_big_quiet_step (fail))
  refine wpQuiet_nil ?_
  intro W6 hw'
  have hb6 : Below V2.heap.size V2 W6 := by obtain ⟨p, e⟩ := hw'; rw [e]; exact below_regrown V2 p.d p.os
  clear hw'
  have hb6' := bel_to HB2.out hb6
  clear hb6 k1 e1 m0 m1 m2 m3 m4 m5 m6 m7 HB2 HR HE
  go_wp2
  go_ret2
  exact Ret.of (by rw [← hsm]; rfl) hb6'
end W
end Go.Proofs.YtellemlhhlafcaaGreatDoor
end
section
namespace Go.Proofs.YtellemlhhlafcaaGreatDoor
open Go Go.RowKit Go.Deep Go.Sort
theorem OwnI.shape {w : World} {B : Nat} {v : Value} {l : List Int} (h : OwnI w B v l) : ∃ A n c, v = .slice A n c := by
  rcases h.2 with ⟨e, _⟩ | ⟨g, cap, _, e, _⟩
  · exact ⟨_, _, _, e⟩
  · exact ⟨_, _, _, e⟩
namespace W
open M
attribute [local go_sem] bs_size bs_toList bs_get bs_extract bs_append bs_lit0 bs_lit1 lit1_bs
set_option maxHeartbeats 1000000
set_option maxRecDepth 20000
end W
end Go.Proofs.YtellemlhhlafcaaGreatDoor
end
section
namespace Go.Proofs.YtellemlhhlafcaaGreatDoor
open Go Go.RowKit Go.Deep Go.Sort
namespace M
structure To where
  x : Int
  y : Int
  hole : Bool
  n : Int
end M
structure SlTL (w : World) (b o : Nat) (l : List M.To) : Prop where
  lt : b < w.heap.size
  val : ∀ i (h : i < l.length), w.cell? ⟨b, o + i * 4, none⟩ = some (.int .i64 l[i].x) ∧ w.cell? ⟨b, o + i * 4 + 1, none⟩ = some (.int .i64 l[i].y) ∧ w.cell? ⟨b, o + i * 4 + 2, none⟩ = some (.bool l[i].hole) ∧ w.cell? ⟨b, o + i * 4 + 3, none⟩ = some (.int .i64 l[i].n)
theorem SlTL.below' {w w' : World} {b o : Nat} {l : List M.To} (h : SlTL w b o l) (hb : Below w.heap.size w w') : SlTL w' b o l :=
  ⟨Nat.lt_of_lt_of_le h.lt hb.size, fun i hi => by
    have h1 := h.val i hi
    have hc : ∀ o v, w.cell? ⟨b, o, none⟩ = some v → w'.cell? ⟨b, o, none⟩ = some v := fun o v e => (hb.cell (by exact h.lt)).trans e
    exact ⟨hc _ _ h1.1, hc _ _ h1.2.1, hc _ _ h1.2.2.1, hc _ _ h1.2.2.2⟩⟩
def RdTL (w : World) (v : Value) (l : List M.To) : Prop := ∃ A cap, v = .slice A l.length cap ∧ (l = [] ∨ ∃ b o, A = some ⟨b, o, none⟩ ∧ SlTL w b o l)
theorem RdTL.below {w w' : World} {v : Value} {l : List M.To} (h : RdTL w v l) (hb : Below w.heap.size w w') : RdTL w' v l := by
  obtain ⟨A, cap, e, h2⟩ := h
  refine ⟨A, cap, e, ?_⟩
  rcases h2 with h2 | ⟨b, o, e2, h3⟩
  · exact Or.inl h2
  · exact Or.inr ⟨b, o, e2, h3.below' hb⟩
theorem RdTL.len {w : World} {v : Value} {l : List M.To} (h : RdTL w v l) : ∃ A cap, v = .slice A l.length cap := by
  obtain ⟨A, cap, e, _⟩ := h; exact ⟨A, cap, e⟩
theorem RdTL.row {w : World} {A : Option Addr} {n cap : Nat} {l : List M.To} (h : RdTL w (.slice A n cap) l) (i : Nat) (hi : i < l.length) : ∃ b o, A = some ⟨b, o, none⟩ ∧ SlTL w b o l := by
  obtain ⟨A', cap', e, h2⟩ := h
  injection e with e
  subst e
  exact h2.resolve_left (fun e => by rw [e] at hi; cases hi)
def csTL (l : List M.To) : List Value := l.flatMap fun x => [.int .i64 x.x, .int .i64 x.y, .bool x.hole, .int .i64 x.n]
theorem csTL_append (a b : List M.To) : csTL (a ++ b) = csTL a ++ csTL b := by simp [csTL]
theorem csTL_len (l : List M.To) : (csTL l).length = l.length * 4 := by
  induction l with
  | nil => rfl
  | cons x t ih => simp only [csTL, List.flatMap_cons, List.length_append, List.length_cons, List.length_nil] at *; omega
theorem csTL_get (l : List M.To) (i : Nat) (h : i < l.length) : (csTL l)[i * 4]? = some (.int .i64 l[i].x) ∧ (csTL l)[i * 4 + 1]? = some (.int .i64 l[i].y) ∧ (csTL l)[i * 4 + 2]? = some (.bool l[i].hole) ∧ (csTL l)[i * 4 + 3]? = some (.int .i64 l[i].n) := by
  induction l generalizing i with
  | nil => cases h
  | cons x t ih =>
    rcases i with _ | j
    · exact ⟨rfl, rfl, rfl, rfl⟩
    · have hj : j < t.length := by simpa using h
      have e1 : csTL (x :: t) = (.int .i64 x.x : Value) :: (.int .i64 x.y : Value) :: (.bool x.hole : Value) :: (.int .i64 x.n : Value) :: csTL t := rfl
      have k := ih j hj
      rw [e1]
      have hs : ∀ m v, (csTL t)[m]? = some v → ((.int .i64 x.x : Value) :: (.int .i64 x.y : Value) :: (.bool x.hole : Value) :: (.int .i64 x.n : Value) :: csTL t)[m + 4]? = some v := fun m v e => e
      exact ⟨(by have := hs _ _ k.1; rwa [show j * 4 + 4 = (j + 1) * 4 by omega] at this), (by have := hs _ _ k.2.1; rwa [show j * 4 + 1 + 4 = (j + 1) * 4 + 1 by omega] at this), (by have := hs _ _ k.2.2.1; rwa [show j * 4 + 2 + 4 = (j + 1) * 4 + 2 by omega] at this), (by have := hs _ _ k.2.2.2; rwa [show j * 4 + 3 + 4 = (j + 1) * 4 + 3 by omega] at this)⟩
def OwnTL (w : World) (B : Nat) (v : Value) (l : List M.To) : Prop := w.ownsRow B 67 4 v l.length (csTL l)
theorem OwnTL.below {w w' : World} {B : Nat} {v : Value} {l : List M.To} (h : OwnTL w B v l) (hb : Below w.heap.size w w') : OwnTL w' B v l :=
  World.ownsRow.kept (row := none) h ⟨hb.os, hb.tape, hb.output, hb.size, fun k hk _ => hb.block k hk⟩ (Classical.em _)
theorem OwnTL.cells {w : World} {B g cap : Nat} {l : List M.To} (h : OwnTL w B (.slice (some ⟨g, 0, none⟩) l.length cap) l) (j : Nat) (u : Value) (hu : (csTL l)[j]? = some u) : w.cell? ⟨g, j, none⟩ = some u := by
  have hj : j < l.length * 4 := by rw [← csTL_len]; exact (List.getElem?_eq_some_iff.1 hu).1
  rw [World.ownsRow.cellAt h j hj, hu]
theorem OwnTL.form {w : World} {B : Nat} {v : Value} {l : List M.To} (h : OwnTL w B v l) (h0 : 0 < l.length) : ∃ g cap, v = .slice (some ⟨g, 0, none⟩) l.length cap ∧ B ≤ g ∧ g < w.heap.size := by
  obtain ⟨h1, h2⟩ := h
  rcases h2 with ⟨hv, hn⟩ | ⟨g, cap, cur, hv, hB, hh, _⟩
  · omega
  · exact ⟨g, cap, hv, hB, lt_of_block hh⟩
theorem OwnTL.shape {w : World} {B : Nat} {v : Value} {l : List M.To} (h : OwnTL w B v l) : ∃ A n c, v = .slice A n c := by
  rcases h.2 with ⟨e, _⟩ | ⟨g, cap, _, e, _⟩
  · exact ⟨_, _, _, e⟩
  · exact ⟨_, _, _, e⟩
theorem OwnTL.rd {w : World} {B : Nat} {v : Value} {l : List M.To} (h : OwnTL w B v l) : RdTL w v l := by
  by_cases h0 : 0 < l.length
  · obtain ⟨g, cap, rfl, hB, hlt⟩ := h.form h0
    refine ⟨_, _, rfl, Or.inr ⟨g, 0, rfl, hlt, fun i hi => ?_⟩⟩
    have hg := csTL_get l i hi
    simp only [Nat.zero_add]
    exact ⟨h.cells _ _ hg.1, h.cells _ _ hg.2.1, h.cells _ _ hg.2.2.1, h.cells _ _ hg.2.2.2⟩
  · obtain rfl : l = [] := List.length_eq_zero_iff.1 (by omega)
    rcases h.2 with ⟨e, _⟩ | ⟨g, cap, _, e, _⟩
    · exact ⟨_, _, e, Or.inl rfl⟩
    · exact ⟨_, _, e, Or.inl rfl⟩
theorem csTL_one {l : List M.To} : ∀ u ∈ csTL l, u.oneCell' = true := by
  intro u hu
  simp only [csTL, List.mem_flatMap] at hu
  obtain ⟨x, hx, hx2⟩ := hu
  simp at hx2
  rcases hx2 with rfl | rfl | rfl | rfl <;> rfl
theorem infoTool : (Tryz.prog.info? 67).map (fun i => (i.zero, i.size, i.bytes)) = some (some (.agg #[.int .i64 0, .int .i64 0, .bool false, .int .i64 0]), 4, 32) := by kernel_rfl
theorem OwnTL.nil (w : World) (B : Nat) : OwnTL w B (.slice none 0 0) [] := World.ownsRow_nil _ _ _ _
theorem run_app_OwnTL {w : World} {B : Nat} {v : Value} {l m : List M.To} {ad : Addr} {cap : Nat} (ty : TypeId) (h : OwnTL w B v l) (hc : ∀ j u, (csTL m)[j]? = some u → w.cell? (ad.add j) = some u) (hB : B ≤ w.heap.size) (hn : (l.length + m.length) * 32 ≤ 140737488355328) :
    ∃ v' w', (Builtin.append_ #[53, 53] ty #[v, .slice (some ad) m.length cap]).run Tryz.prog w = .ok v' w' ∧ OwnTL w' B v' (l ++ m) ∧ w.grownBy w' v.ownBlock := by
  obtain ⟨i, h1, h2, h3, h4⟩ := info_parts infoTool
  obtain ⟨v', w', k1, k2, k3, _⟩ := run_append_own (P := Tryz.prog) w B _ ty _ i _ 4 32 Tryz.underlying53 h1 h2 h3 h4 rfl (by decide) v l.length (csTL l) h ad m.length cap (csTL m) (csTL_len m)
      hc csTL_one (by unfold maxLen; omega) hn hB
  refine ⟨v', w', k1, ?_, k3⟩
  unfold OwnTL
  rw [csTL_append, List.length_append]
  exact k2
theorem wpList_app_OwnTL {ops : Array Oper} {rest : List Oper} {o : Oper} {a : Act} {Q : Exit → Act → World → Prop} {w : World} {B : Nat} {v xv : Value} {l m : List M.To} {ad : Addr} {cap : Nat} (hgd : o.guard = none) (s x : Operand)
    (ho : o.op = .call { callee := .builtin .append, args := #[s, x], argTypes := #[53, 53] }) (hs : a.eval s = v) (hx : a.eval x = xv) (hxv : xv = .slice (some ad) m.length cap)
    (h : OwnTL w B v l) (hc : ∀ j u, (csTL m)[j]? = some u → w.cell? (ad.add j) = some u) (hB : B ≤ w.heap.size) (hn : (l.length + m.length) * 32 ≤ 140737488355328)
    (hK : ∀ v' w', OwnTL w' B v' (l ++ m) → w.grownBy w' v.ownBlock → wpList Tryz.prog ops Q rest (a.put o.dst v') w') : wpList Tryz.prog ops Q (o :: rest) a w :=
  wpList_plain hgd fun _ hK2 => by
    subst hxv
    obtain ⟨v', w', hr, h2, h3⟩ := run_app_OwnTL (cap := cap) o.type h hc hB hn
    unfold Oper.wp execOp
    simp only [ho, resolve, invoke, builtin, Sem.run_bind, Sem.run_pure, Result.andThen_ok, List.map_toArray, List.map_cons, List.map_nil, hs, hx, hr]
    exact hK2 _ _ (hK v' w' h2 h3)
theorem app_belOwnTL {W w w' : World} {B : Nat} {v : Value} {l : List M.To} (h : OwnTL w B v l) (hb : Below W.heap.size W w) (hB : W.heap.size ≤ B) (hg : w.grownBy w' v.ownBlock) : Below W.heap.size W w' :=
  hb.grown hg hb.size fun k hk => Nat.le_trans hB (World.ownsRow.lt h k hk).1
end Go.Proofs.YtellemlhhlafcaaGreatDoor
end
