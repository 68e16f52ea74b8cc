/-
  Short numbers, plain: bounds with short numbers are decided; weak duality.
  Outcomes of the simplex, plain: each excludes the others; the dual program.
  Chapter 5: 'Most' of the program decides: for few bounds with short numbers, and for the dual program.
  Chapter 5's laws: lists of bounds that are copied and appended to.
  How long the greatest value can be, plain: the rows brought to whole numbers first.
  The text of the greatest value has at most 299 characters, plain, for few bounds with short numbers.
  Chapter 5's laws: 'Implied' of the program, 'right' of the laws.
  Chapter 46: the reference's checks of plates; the bonus, the allowed tolerance and 'Zone' on both sides.
  Chapter 46: the allowed tolerance and 'Zone' on both sides; 'Check' of the reference; 'Of' of layer 2.
-/
import Derived.Test.YtellemlhhlafcaaGreatDoorKP
import Derived.Test.YtellemlhhlafcaaGreatDoorKN
import Derived.Test.YtellemlhhlafcaaGreatDoorKI
import Derived.Sort.BigQuietIn
import Derived.Deep.QuietTactic
import Derived.BigQuiet
section
namespace Go.Proofs.YtellemlhhlafcaaGreatDoor
open Go
namespace Sx
open M
theorem sm_const (m : Nat) (K : Rat) : sm m (fun _ => K) = (m : Rat) * K := by
  induction m with
  | zero => simp only [sm]; rw [show ((0 : Nat) : Rat) = 0 from rfl]; grind
  | succ m ih => rw [sm, ih, Rat.natCast_add, show ((1 : Nat) : Rat) = 1 from rfl]; grind
theorem pf_cast (n a : Nat) : pf n (fun _ => (a : Rat)) = ((a ^ n : Nat) : Rat) := by
  induction n with
  | zero => rfl
  | succ n ih => rw [pf, ih, Nat.pow_succ, Rat.natCast_mul]; grind
theorem getD_mem {l : List BQ} {j : Nat} (hj : j < l.length) : l.getD j ([], 0) ∈ l := by
  rw [show l.getD j ([], 0) = l[j] by simp [hj]]; exact List.getElem_mem hj
theorem fits_of {n m e : Nat} {Q : Nat} (h : m + 1 ≤ Q) (h2 : Q ^ n * (m + 1) * Q < 10 ^ e ∨ Q ^ m * Q < 10 ^ e) : Fits n m ((Q : Nat) : Rat) e := by
  refine ⟨Rat.natCast_le_natCast.2 h, ?_⟩
  rw [pf_cast, pf_cast, ← Rat.natCast_mul, ← Rat.natCast_mul, ← Rat.natCast_mul]
  rcases h2 with h2 | h2
  · exact Or.inl (Rat.natCast_lt_natCast.2 h2)
  · exact Or.inr (Rat.natCast_lt_natCast.2 h2)
section
variable {n : Nat} {l : List BQ} {goal p q w : List Rat} {v : Rat}
theorem sum_rows (l : List BQ) (w p : List Rat) (n : Nat) : sm l.length (fun j => nth w j * dotP (l.getD j ([], 0)).1 p n) = sm n fun k => wrow l w l.length k * nth p k := by
  have e1 : sm l.length (fun j => nth w j * dotP (l.getD j ([], 0)).1 p n) = sm l.length (fun j => sm n fun k => nth w j * nth (l.getD j ([], 0)).1 k * nth p k) := sm_congr fun j _ => by
    rw [dotP_sm, ← sm_mul]
    exact sm_congr fun k _ => by grind
  rw [e1, sm_swap]
  exact sm_congr fun k _ => by rw [wrow_sm, ← sm_mul_right]
theorem nth_nonneg (h : ∀ x ∈ w, 0 ≤ x) (j : Nat) : 0 ≤ nth w j := by
  unfold nth
  by_cases hk : j < w.length
  · rw [show w.getD j 0 = w[j] by simp [hk]]; exact h _ (List.getElem_mem hk)
  · rw [show w.getD j 0 = 0 by simp [Nat.not_lt.1 hk]]; exact Rat.le_refl
theorem weak (hp : ∀ b ∈ l, dotP b.1 p n ≤ b.2) (hw : ∀ x ∈ w, 0 ≤ x) : sm n (fun k => wrow l w l.length k * nth p k) ≤ wmost l w l.length := by
  rw [← sum_rows, wmost_sm]
  exact sm_le fun j hj => Rat.mul_le_mul_of_nonneg_left (hp _ (getD_mem hj)) (nth_nonneg hw j)
theorem keeps_contra (hp : Keeps n l p) (hw : Contra n l w) : False := by
  have h1 := weak hp.2 hw.2.1
  rw [sm_zero fun k hk => by rw [hw.2.2.1 k hk, Rat.zero_mul]] at h1
  have := hw.2.2.2
  grind
theorem Optim.le {p' : List Rat} (h : Optim n l goal v p w) (hp : Keeps n l p') : dotP goal p' n ≤ v := by
  have h1 := weak hp.2 h.2.2.2.1
  rw [sm_congr (g := fun k => nth goal k * nth p' k) fun k hk => by rw [h.2.2.2.2.1 k hk], h.2.2.2.2.2] at h1
  rw [dotP_sm]; exact h1
theorem Optim.keeps (h : Optim n l goal v p w) : Keeps n l p := h.1
end
end Sx
end Go.Proofs.YtellemlhhlafcaaGreatDoor
end
section
namespace Go.Proofs.YtellemlhhlafcaaGreatDoor
open Go
namespace Sx
open M
section
variable {n e : Nat} {l : List BQ} {goal : List Rat} {r : (Rat × List Rat × List Rat) ⊕ Nat}
theorem Found.cases (h : Found e n l goal r) : (∃ v p w, r = .inl (v, p, w) ∧ Optim n l goal v p w) ∨ (r = .inr 6 ∧ ∃ w, Contra n l w) ∨ (r = .inr 14 ∧ NoEnd n l goal) := by
  match r, h with
  | .inl (v, p, w), h => exact Or.inl ⟨v, p, w, rfl, h.1⟩
  | .inr k, h =>
    rcases h with ⟨rfl, h⟩ | ⟨rfl, h⟩
    · exact Or.inr (Or.inl ⟨rfl, h⟩)
    · exact Or.inr (Or.inr ⟨rfl, h⟩)
end
section
variable {n : Nat} {l : List BQ} {goal y : List Rat}
end
end Sx
end Go.Proofs.YtellemlhhlafcaaGreatDoor
end
section
namespace Go.Proofs.YtellemlhhlafcaaGreatDoor
open Go Go.RowKit Go.Deep Go.Sort
namespace W
open M Sx
end W
end Go.Proofs.YtellemlhhlafcaaGreatDoor
end
section
namespace Go.Proofs.YtellemlhhlafcaaGreatDoor
open Go Go.RowKit Go.Deep Go.Sort
open M in
/-- The cells of bounds, each with the value of its row. -/
def bcs (es : List (Value × M.BT)) : List Value := es.flatMap fun x => [x.1, .string (bs x.2.2)]
theorem bcs_append (a b : List (Value × M.BT)) : bcs (a ++ b) = bcs a ++ bcs b := by simp [bcs]
theorem bcs_len (l : List (Value × M.BT)) : (bcs l).length = l.length * 2 := by
  induction l with
  | nil => rfl
  | cons x t ih => simp only [bcs, List.flatMap_cons, List.length_append, List.length_cons, List.length_nil] at *; omega
theorem bcs_get (l : List (Value × M.BT)) (i : Nat) (h : i < l.length) : (bcs l)[i * 2]? = some l[i].1 ∧ (bcs l)[i * 2 + 1]? = some (.string (bs l[i].2.2)) := by
  induction l generalizing i with
  | nil => cases h
  | cons x t ih =>
    rcases i with _ | j
    · exact ⟨rfl, rfl⟩
    · have hj : j < t.length := by simpa using h
      have e1 : bcs (x :: t) = x.1 :: .string (bs x.2.2) :: bcs t := rfl
      have k := ih j hj
      rw [e1, show (j + 1) * 2 = (j * 2 + 1) + 1 by omega, show (j * 2 + 1) + 1 + 1 = (j * 2 + 1 + 1) + 1 by omega]
      exact k
def GoodE (w : World) (es : List (Value × M.BT)) : Prop := ∀ x ∈ es, RdT w x.1 x.2.1 ∧ Shp x.1
theorem GoodE.one {w : World} {es : List (Value × M.BT)} (h : GoodE w es) : ∀ u ∈ bcs es, u.oneCell' = true := by
  intro u hu
  simp only [bcs, List.mem_flatMap] at hu
  obtain ⟨x, hx, hx2⟩ := hu
  simp at hx2
  rcases hx2 with rfl | rfl
  · rcases (h x hx).2 with e | ⟨_, _, _, e⟩ <;> rw [e] <;> rfl
  · rfl
def OwnE (w : World) (B : Nat) (v : Value) (es : List (Value × M.BT)) : Prop := w.ownsRow B 138 2 v es.length (bcs es)
def SrcE (w : World) (x : Value) (es : List (Value × M.BT)) : Prop :=
  (x = .slice none 0 0 ∧ es = []) ∨ ∃ a cap, x = .slice (some a) es.length cap ∧ ∀ j u, (bcs es)[j]? = some u → w.cell? (a.add j) = some u
theorem OwnE.below {w w' : World} {B : Nat} {v : Value} {es : List (Value × M.BT)} (h : OwnE w B v es) (hb : Below w.heap.size w w') : OwnE w' B v es :=
  World.ownsRow.kept (row := none) h ⟨hb.os, hb.tape, hb.output, hb.size, fun k hk _ => hb.block k hk⟩ (Classical.em _)
theorem OwnE.rd {w : World} {B : Nat} {v : Value} {es : List (Value × M.BT)} (h : OwnE w B v es) (hg : GoodE w es) : RdB w v (es.map (·.2)) := by
  obtain ⟨h1, h2⟩ := h
  rcases h2 with ⟨hv, hn⟩ | ⟨g, cap, cur, hv, hB, hh, hn, hm, hs, ht⟩
  · refine ⟨none, 0, ?_, Or.inl (by rw [List.length_eq_zero_iff.1 hn]; rfl)⟩
    rw [hv, List.length_map, hn]
  · refine ⟨some ⟨g, 0, none⟩, cap, by rw [hv, List.length_map], ?_⟩
    by_cases hl : es = []
    · exact Or.inl (by rw [hl]; rfl)
    · refine Or.inr ⟨g, 0, rfl, lt_of_block hh, fun i hi => ?_, fun i hi => ?_⟩
      · have hi2 : i < es.length := by simpa using hi
        have hx := hg _ (List.getElem_mem hi2)
        refine ⟨es[i].1, ?_, ?_, hx.2⟩
        · have := (bcs_get es i hi2).1
          rw [← ht, List.getElem?_take] at this
          split at this
          · simp [World.cell?, hh]; simpa using this
          · cases this
        · simpa using hx.1
      · have hi2 : i < es.length := by simpa using hi
        have := (bcs_get es i hi2).2
        rw [← ht, List.getElem?_take] at this
        split at this
        · simp [World.cell?, hh]; simpa using this
        · cases this
theorem SrcE.new (w : World) (u : Value) (b : M.BT) : SrcE (w.alloc (.cells #[u, .string (bs b.2)] 138 (0, 0))) (.slice (some ⟨w.heap.size, 0, none⟩) 1 1) [(u, b)] := by
  refine Or.inr ⟨⟨w.heap.size, 0, none⟩, 1, rfl, fun j v hj => ?_⟩
  have hadd : (⟨w.heap.size, 0, none⟩ : Addr).add j = ⟨w.heap.size, j, none⟩ := by unfold Addr.add; split <;> simp_all
  rw [hadd]
  exact (Row.new w 138 [u, .string (bs b.2)]).cell hj
theorem infoBd : (Tryz.prog.info? 138).map (fun i => (i.zero, i.size, i.bytes)) = some (some (.agg #[.slice none 0 0, .string ⟨#[]⟩]), 2, 40) := by kernel_rfl
theorem run_app_e {w : World} {B : Nat} {v x : Value} {l m : List (Value × M.BT)} (ty : TypeId) (h : OwnE w B v l) (hx : SrcE w x m) (hg : GoodE w m) (hB : B ≤ w.heap.size) (hn : (l.length + m.length) * 40 ≤ 140737488355328) :
    ∃ v' w', (Builtin.append_ #[135, 135] ty #[v, x]).run Tryz.prog w = .ok v' w' ∧ OwnE w' B v' (l ++ m) ∧ w.grownBy w' v.ownBlock := by
  obtain ⟨i, h1, h2, h3, h4⟩ := info_parts infoBd
  rcases hx with ⟨rfl, rfl⟩ | ⟨ad, cap, rfl, hc⟩
  · refine ⟨v, w, run_append_owned_none (P := Tryz.prog) (w := w) B _ ty _ i 2 Tryz.underlying135 h1 v l.length (bcs l) h, ?_, grown_same _ _⟩
    rw [List.append_nil]; exact h
  · obtain ⟨v', w', k1, k2, k3, _⟩ := run_append_own (P := Tryz.prog) w B _ ty _ i _ 2 40 Tryz.underlying135 h1 h2 h3 h4 rfl (by decide) v l.length (bcs l) h ad m.length cap (bcs m) (bcs_len m)
      hc hg.one (by unfold maxLen; omega) hn hB
    refine ⟨v', w', k1, ?_, k3⟩
    unfold OwnE
    rw [bcs_append, List.length_append]
    exact k2
theorem step_app_e {ops : Array Oper} {o : Oper} {a : Act} {K : Act → World → Prop} {Q : Exit → Act → World → Prop} {E : Prop} {w : World} {B : Nat} {v xv : Value} {l m : List (Value × M.BT)} (hgd : o.guard = none) (s x : Operand)
    (ho : o.op = .call { callee := .builtin .append, args := #[s, x], argTypes := #[135, 135] }) (hs : a.eval s = v) (hx : a.eval x = xv)
    (h : OwnE w B v l) (hsrc : SrcE w xv m) (hg : GoodE w m) (hB : B ≤ w.heap.size) (hn : (l.length + m.length) * 40 ≤ 140737488355328)
    (hK : ∀ v' w', OwnE w' B v' (l ++ m) → w.grownBy w' v.ownBlock → K (a.put o.dst v') w') : if Region.wanted o (yielded ops a.tmps) = true then Oper.wp Tryz.prog o a w K Q else E := by
  have hw : Region.wanted o (yielded ops a.tmps) = true := by simp [Region.wanted, hgd]
  rw [if_pos hw]
  obtain ⟨v', w', hr, h2, h3⟩ := run_app_e o.type h hsrc hg hB hn
  unfold Oper.wp execOp
  simp only [ho, resolve, invoke, builtin, Sem.run_bind, Sem.run_pure, Result.andThen_ok, List.map_toArray, List.map_cons, List.map_nil, hs, hx, hr]
  exact hK v' w' h2 h3
theorem wpList_app_e {ops : Array Oper} {rest : List Oper} {o : Oper} {a : Act} {Q : Exit → Act → World → Prop} {w : World} {B : Nat} {v xv : Value} {l m : List (Value × M.BT)} (hgd : o.guard = none) (s x : Operand)
    (ho : o.op = .call { callee := .builtin .append, args := #[s, x], argTypes := #[135, 135] }) (hs : a.eval s = v) (hx : a.eval x = xv)
    (h : OwnE w B v l) (hsrc : SrcE w xv m) (hg : GoodE w m) (hB : B ≤ w.heap.size) (hn : (l.length + m.length) * 40 ≤ 140737488355328)
    (hK : ∀ v' w', OwnE w' B v' (l ++ m) → w.grownBy w' v.ownBlock → wpList Tryz.prog ops Q rest (a.put o.dst v') w') : wpList Tryz.prog ops Q (o :: rest) a w :=
  wpList_plain hgd fun _ hK2 => by
    obtain ⟨v', w', hr, h2, h3⟩ := run_app_e o.type h hsrc hg hB hn
    unfold Oper.wp execOp
    simp only [ho, resolve, invoke, builtin, Sem.run_bind, Sem.run_pure, Result.andThen_ok, List.map_toArray, List.map_cons, List.map_nil, hs, hx, hr]
    exact hK2 _ _ (hK v' w' h2 h3)
theorem app_belE {W w w' : World} {B : Nat} {v : Value} {l : List (Value × M.BT)} (h : OwnE w B v l) (hb : Below W.heap.size W w) (hB : W.heap.size ≤ B) (hg : w.grownBy w' v.ownBlock) : Below W.heap.size W w' :=
  hb.grown hg hb.size fun k hk => Nat.le_trans hB (World.ownsRow.lt h k hk).1
namespace W
open M
attribute [local go_sem] bs_size bs_toList bs_get bs_extract bs_append bs_lit0 bs_lit1 lit1_bs
set_option maxHeartbeats 1000000
set_option maxRecDepth 20000
end W
end Go.Proofs.YtellemlhhlafcaaGreatDoor
end
section
namespace Go.Proofs.YtellemlhhlafcaaGreatDoor
open Go
namespace Sx
open M
theorem frac_parts {y P Q : Rat} {a d : Nat} (hP : IsI P) (hQ : IsI Q) (h0 : Q ≠ 0) (h : y * Q = P) (hp : ab P < (a : Rat)) (hq : ab Q < (d : Rat)) : y.num.natAbs < a ∧ y.den < d := by
  obtain ⟨p, rfl⟩ := hP
  obtain ⟨q, rfl⟩ := hQ
  have hd : q ≠ 0 := fun e => h0 (by rw [e]; rfl)
  have hy : y = Rat.divInt p q := by rw [Rat.divInt_eq_div]; grind
  rw [ab_int] at hp hq
  have ha := Rat.natCast_lt_natCast.1 hp
  have hb := Rat.natCast_lt_natCast.1 hq
  rw [hy]
  refine ⟨?_, ?_⟩
  · rw [Rat.num_divInt]
    refine Nat.lt_of_le_of_lt ?_ ha
    rw [Int.natAbs_ediv_of_dvd (by exact Int.dvd_mul_of_dvd_right (Int.gcd_dvd_right ..)), Int.natAbs_mul]
    have h1 : q.sign.natAbs ≤ 1 := by rw [Int.natAbs_sign]; split <;> omega
    refine Nat.le_trans (Nat.div_le_self _ _) ?_
    have := Nat.mul_le_mul_right p.natAbs h1
    omega
  · rw [Rat.den_divInt, if_neg hd]
    exact Nat.lt_of_le_of_lt (Nat.div_le_self _ _) hb
section
variable {n m : Nat} {E A : Mx} {b : Nat → Nat} {s : Nat → Rat}
end
end Sx
end Go.Proofs.YtellemlhhlafcaaGreatDoor
end
section
namespace Go.Proofs.YtellemlhhlafcaaGreatDoor
open Go
namespace Sx
open M
end Sx
end Go.Proofs.YtellemlhhlafcaaGreatDoor
end
section
namespace Go.Proofs.YtellemlhhlafcaaGreatDoor
open Go Go.RowKit Go.Deep Go.Sort
namespace W
open M Sx
attribute [local go_sem] bs_size bs_toList bs_get bs_extract bs_append bs_lit0 bs_lit1 lit1_bs
set_option maxHeartbeats 1000000
set_option maxRecDepth 20000
end W
end Go.Proofs.YtellemlhhlafcaaGreatDoor
end
section
namespace Go.Proofs.YtellemlhhlafcaaGreatDoor
open Go Go.RowKit Go.Deep
def Sig (w : World) : Prop := w.cell? ⟨0, 0, none⟩ = some (.int .i64 (-1)) ∧ w.cell? ⟨0, 1, none⟩ = some (.int .i64 (-1)) ∧ w.cell? ⟨0, 2, none⟩ = some (.int .i64 1) ∧
  w.cell? ⟨0, 3, none⟩ = some (.int .i64 1) ∧ w.cell? ⟨0, 4, none⟩ = some (.int .i64 1) ∧ w.cell? ⟨0, 5, none⟩ = some (.int .i64 (-1))
theorem Sig.below {w w' : World} (h : Sig w) (hb : Below w.heap.size w w') : Sig w' := by
  have hc : ∀ o v, w.cell? ⟨0, o, none⟩ = some v → w'.cell? ⟨0, o, none⟩ = some v := fun o v e => (hb.cell (block_lt_of_cell e)).trans e
  obtain ⟨h0, h1, h2, h3, h4, h5⟩ := h
  exact ⟨hc _ _ h0, hc _ _ h1, hc _ _ h2, hc _ _ h3, hc _ _ h4, hc _ _ h5⟩
namespace M
def sideT (t : Tg) : Int := if t.pin = true then (if t.mat = 2 then -1 else 1) else (if t.mat = 2 then 1 else -1)
end M
abbrev cdV (t : M.Tg) (s : Int) : Value := .agg #[.int .i64 t.x, .int .i64 t.y, .int .i64 t.lo, .int .i64 t.hi, .int .i64 t.tol, .int .i64 t.mat, .bool t.pin, .int .i64 s]
namespace W
open M
attribute [local go_sem] bs_size bs_toList bs_get bs_extract bs_append bs_lit0 bs_lit1 lit1_bs
set_option maxHeartbeats 1000000
set_option maxRecDepth 20000
theorem rplate44 (vt vc : Value) (ts : List Tg) (cs : List Cc) (w : World) (ht : RdG w vt ts) (hc : RdC w vc cs) (nt : ts.length ≤ maxLen) (nc : cs.length ≤ maxLen) :
    Calls Tryz.prog 55 #[vt, vc] w (Ret w (.int .i64 ((chkPl ts cs : Nat) : Int))) := by
  unfold maxLen at nt nc
  obtain ⟨At, ct, rfl⟩ := ht.len
  obtain ⟨Ac, cc, rfl⟩ := hc.len
  by_cases h16 : 16 < ts.length
  · unfold chkPl
    rw [if_pos h16]
    have hd : decide (16 < (ts.length : Int)) = true := by simp; omega
    clear ht hc
    go_enter Tryz.func55, Tryz.ntmps55
    go_wp2
    go_ret
    exact Ret.of rfl (Below.refl _ _)
  · have hd : decide (16 < (ts.length : Int)) = false := by simp; omega
    have HT := Lib.hid ht
    have HC := Lib.hid hc
    have hp : chkPl ts cs = if chkTs ts ≠ 0 then chkTs ts else if cs.length ≠ ts.length then 8 else chkCs cs := by unfold chkPl; rw [if_neg h16]
    generalize hch : ((chkPl ts cs : Nat) : Int) = ch
    rw [hp] at hch
    have HCH := Lib.hid hch
    clear ht hc hp hch
    have hts : ts.length ≤ 16 := by omega
    go_enter Tryz.func55, Tryz.ntmps55
    go_wp2
    go_loopw [5] (fun iv wr => ∃ i : Nat, iv = .int .i64 (i : Int) ∧ i ≤ ts.length ∧ Hid (chkTs ts = chkTs (ts.drop i)) ∧ Hid (Below w.heap.size w wr)) (fun iv _ => ts.length - (intOf iv).toNat)
    case atStart => exact ⟨0, rfl, by omega, Lib.hid (by rw [List.drop_zero]), Lib.hid (Below.refl _ _)⟩
    case round =>
      obtain ⟨i, rfl, hi, hk, hbw⟩ := hrel
      by_cases hlt : i < ts.length
      · obtain ⟨b1, o1, rfl, hw⟩ := HT.out.row i hlt
        obtain ⟨c0, c1, c2, c3, c4, c5, c6⟩ := (hw.below' hbw.out).val i hlt
        have hk2 := hk.out
        rw [chkTs_drop ts i hlt] at hk2
        clear hk hw
        generalize ts[i] = x at *
        have HCK := Lib.hid (rcheck44 x wr)
        by_cases h0 : chkT x = 0
        · rw [if_pos h0] at hk2
          rw [h0] at HCK
          have HK := Lib.hid hk2
          clear hk2 h0
          go_wp2_with fail
          refine (HCK.out).mono ?_
          rintro e w1 ⟨rfl, hb1⟩
          have HB1 := Lib.hid (bel_to hbw.out hb1)
          clear hb1 HCK
          go_wp2
          go_roundw
          case rel => exact ⟨i + 1, by go_num, by omega, HK, HB1⟩
          case measure => simp [intOf]; omega
        · rw [if_neg h0] at hk2
          have hz : (((chkT x : Nat) : Int) != 0) = true := by rw [bne_iff_ne]; omega
          have HK := Lib.hid (show ch = ((chkT x : Nat) : Int) by rw [← HCH.out, hk2, if_pos h0])
          clear hk2 h0
          generalize ((chkT x : Nat) : Int) = c at *
          go_wp2_with fail
          refine (HCK.out).mono ?_
          rintro e w1 ⟨rfl, hb1⟩
          have HB1 := Lib.hid (bel_to hbw.out hb1)
          clear hb1 HCK
          go_wp2
          go_ret
          exact Ret.of (by rw [HK.out]; rfl) HB1.out
      · obtain rfl : i = ts.length := by omega
        have hk2 := hk.out
        rw [List.drop_length] at hk2
        rw [hk2] at HCH
        have hch := HCH.out
        rw [if_neg (by simp [chkTs])] at hch
        clear hk hk2 HCH HT
        by_cases hl : cs.length = ts.length
        · have hz : ((cs.length : Int) != (ts.length : Int)) = false := by rw [hl]; simp
          rw [if_neg (by simpa using hl)] at hch
          have HCH := Lib.hid hch
          clear hch hl
          go_wp2
          go_loopw [7] (fun iv wr => ∃ i : Nat, iv = .int .i64 (i : Int) ∧ i ≤ cs.length ∧ Hid (chkCs cs = chkCs (cs.drop i)) ∧ Hid (Below w.heap.size w wr)) (fun iv _ => cs.length - (intOf iv).toNat)
          case atStart => exact ⟨0, rfl, by omega, Lib.hid (by rw [List.drop_zero]), hbw⟩
          case round =>
            clear hbw
            obtain ⟨i, rfl, hi, hk, hbw⟩ := hrel
            by_cases hlt : i < cs.length
            · obtain ⟨b1, o1, rfl, hw⟩ := HC.out.row i hlt
              obtain ⟨c0, c1, c2⟩ := (hw.below' hbw.out).val i hlt
              have hk2 := hk.out
              rw [chkCs_drop cs i hlt] at hk2
              clear hk hw
              generalize cs[i] = x at *
              have HCK := Lib.hid (fun W => rring44 x W)
              by_cases h0 : ringC x = 0
              · rw [if_pos h0] at hk2
                rw [h0] at HCK
                have HK := Lib.hid hk2
                clear hk2 h0
                go_wp2_with fail
                refine (HCK.out _).mono ?_
                rintro e w1 ⟨rfl, hb1⟩
                have HB1 := Lib.hid (bel_to hbw.out hb1)
                clear hb1 HCK
                go_wp2
                go_roundw
                case rel => exact ⟨i + 1, by go_num, by omega, HK, HB1⟩
                case measure => simp [intOf]; omega
              · rw [if_neg h0] at hk2
                have hz : (((ringC x : Nat) : Int) != 0) = true := by rw [bne_iff_ne]; omega
                have HK := Lib.hid (show ch = ((ringC x : Nat) : Int) by rw [← HCH.out, hk2])
                clear hk2 h0
                generalize ((ringC x : Nat) : Int) = c at *
                go_wp2_with fail
                refine (HCK.out _).mono ?_
                rintro e w1 ⟨rfl, hb1⟩
                have HB1 := Lib.hid (bel_to hbw.out hb1)
                clear hb1 HCK
                go_wp2
                go_ret
                exact Ret.of (by rw [HK.out]; rfl) HB1.out
            · obtain rfl : i = cs.length := by omega
              have hk2 := hk.out
              rw [List.drop_length] at hk2
              have HK := Lib.hid (show ch = 0 by rw [← HCH.out, hk2]; rfl)
              clear hk hk2
              go_wp2
              go_ret
              exact Ret.of (by rw [HK.out]; rfl) hbw.out
        · have hz : ((cs.length : Int) != (ts.length : Int)) = true := by rw [bne_iff_ne]; omega
          rw [if_pos hl] at hch
          have HCH := Lib.hid hch
          clear hch
          go_wp2
          go_ret
          exact Ret.of (by rw [← HCH.out]; rfl) hbw.out
theorem bof (t : Tg) (w : World) (hs : Sig w) (hm : t.mat = 0 ∨ t.mat = 1 ∨ t.mat = 2) : Calls Tryz.prog 87 #[tgV t] w (Ret w (cdV t (sideT t))) := by
  have hb1 : Below w.heap.size w ((w.alloc (tgO t)).alloc (.cells #[.int .i64 0, .int .i64 0, .int .i64 0, .int .i64 0, .int .i64 0, .int .i64 0, .bool false, .int .i64 0] 177 (0, 0))) := (bel_al w _).alloc (bel_al w _).size _
  have HB := Lib.hid (fun o : Obj => RowKit.Below.drew ((bel_al w (tgO t)).alloc (bel_al w (tgO t)).size o))
  obtain ⟨s0, s1, s2, s3, s4, s5⟩ := hs.below hb1
  clear hb1 hs
  unfold sideT
  obtain ⟨x, y, lo, hi, tol, mat, pin⟩ := t
  simp only at *
  rcases hm with rfl | rfl | rfl
  · cases pin
    · go_enter Tryz.func87, Tryz.ntmps87
      go_wp2
      go_region
      go_wp2
      refine bodyPost_ret (v := cdV ⟨x, y, lo, hi, tol, 0, false⟩ (-1)) (by simp [results, Tryz.results87, go_sem]) rfl ⟨rfl, HB.out _⟩
    · go_enter Tryz.func87, Tryz.ntmps87
      go_wp2
      go_region
      go_wp2
      refine bodyPost_ret (v := cdV ⟨x, y, lo, hi, tol, 0, true⟩ 1) (by simp [results, Tryz.results87, go_sem]) rfl ⟨rfl, HB.out _⟩
  · cases pin
    · go_enter Tryz.func87, Tryz.ntmps87
      go_wp2
      go_region
      go_wp2
      refine bodyPost_ret (v := cdV ⟨x, y, lo, hi, tol, 1, false⟩ (-1)) (by simp [results, Tryz.results87, go_sem]) rfl ⟨rfl, HB.out _⟩
    · go_enter Tryz.func87, Tryz.ntmps87
      go_wp2
      go_region
      go_wp2
      refine bodyPost_ret (v := cdV ⟨x, y, lo, hi, tol, 1, true⟩ 1) (by simp [results, Tryz.results87, go_sem]) rfl ⟨rfl, HB.out _⟩
  · cases pin
    · go_enter Tryz.func87, Tryz.ntmps87
      go_wp2
      go_region
      go_wp2
      refine bodyPost_ret (v := cdV ⟨x, y, lo, hi, tol, 2, false⟩ 1) (by simp [results, Tryz.results87, go_sem]) rfl ⟨rfl, HB.out _⟩
    · go_enter Tryz.func87, Tryz.ntmps87
      go_wp2
      go_region
      go_wp2
      refine bodyPost_ret (v := cdV ⟨x, y, lo, hi, tol, 2, true⟩ (-1)) (by simp [results, Tryz.results87, go_sem]) rfl ⟨rfl, HB.out _⟩
theorem bend (t : Tg) (s z : Int) (w : World) : Calls Tryz.prog 88 #[cdV t s, .int .i64 z] w (Ret w (.int .i64 (if z < 0 then t.lo else t.hi))) := by
  have hb := bel_al w (.cells #[.int .i64 t.x, .int .i64 t.y, .int .i64 t.lo, .int .i64 t.hi, .int .i64 t.tol, .int .i64 t.mat, .bool t.pin, .int .i64 s] 177 (0, 0))
  obtain ⟨x, y, lo, hi, tol, mat, pin⟩ := t
  simp only at *
  by_cases h : z < 0
  · rw [if_pos h]
    go_enter Tryz.func88, Tryz.ntmps88
    go_wp2
    go_ret
    exact Ret.of rfl hb
  · rw [if_neg h]
    go_enter Tryz.func88, Tryz.ntmps88
    go_wp2
    go_ret
    exact Ret.of rfl hb
theorem bextra (t : Tg) (n : Int) (w : World) (ht : RtT t) (hn : 1 ≤ n ∧ n ≤ 100000) : Calls Tryz.prog 119 #[cdV t (sideT t), .int .i64 n] w (Ret w (.int .i64 (extr t n))) := by
  have a1 := ht.lo
  have a2 := ht.hi
  have hm := ht.mat
  obtain ⟨s, hs⟩ : ∃ s, s = sideT t := ⟨_, rfl⟩
  rw [← hs]
  have hs2 : s = -1 ∨ s = 1 := by
    rw [hs]; unfold sideT
    repeat' split
    all_goals simp
  obtain ⟨E, hE⟩ : ∃ E, E = if s < 0 then t.lo else t.hi := ⟨_, rfl⟩
  have hE2 : 1 ≤ E ∧ E ≤ 100000 := by rw [hE]; split <;> omega
  have hx : t.mat ≠ 0 → extr t n = s * (E - n) := fun h0 => by
    rw [hE, hs]
    unfold extr sideT
    rw [if_neg h0]
    rcases hm with h | h | h
    · exact absurd h h0
    · rw [h]; cases t.pin <;> simp <;> omega
    · rw [h]; cases t.pin <;> simp <;> omega
  have HN := Lib.hid (fun W => bend t s s W)
  rw [← hE] at HN
  have HB := Lib.hid (bel_al w (.cells #[.int .i64 t.x, .int .i64 t.y, .int .i64 t.lo, .int .i64 t.hi, .int .i64 t.tol, .int .i64 t.mat, .bool t.pin, .int .i64 s] 177 (0, 0)))
  have HR := Lib.hid (Row.new w 177 [.int .i64 t.x, .int .i64 t.y, .int .i64 t.lo, .int .i64 t.hi, .int .i64 t.tol, .int .i64 t.mat, .bool t.pin, .int .i64 s])
  clear hE hs ht
  by_cases h0 : t.mat = 0
  · have hx0 : extr t n = 0 := by unfold extr; rw [if_pos h0]
    rw [hx0]
    obtain ⟨x, y, lo, hi, tol, mat, pin⟩ := t
    simp only at *
    subst h0
    clear hx hm HR
    go_enter Tryz.func119, Tryz.ntmps119
    go_wp2
    go_ret
    exact Ret.of rfl HB.out
  · rw [hx h0]
    have hz : (t.mat == 0) = false := by simpa using h0
    have hw1 : wrap64 (E - n) = E - n := by unfold wrap64; omega
    have hw2 : wrap64 (s * (E - n)) = s * (E - n) := by
      unfold wrap64
      rcases hs2 with rfl | rfl <;> omega
    have hw3 : IntKind.i64.wrap (E - n) = E - n := IntWalk.i64_in _ (by omega)
    have hw4 : IntKind.i64.wrap (s * (E - n)) = s * (E - n) := IntWalk.i64_in _ (by rcases hs2 with rfl | rfl <;> omega)
    have k1 := reg_of (w := w.alloc (.cells #[.int .i64 t.x, .int .i64 t.y, .int .i64 t.lo, .int .i64 t.hi, .int .i64 t.tol, .int .i64 t.mat, .bool t.pin, .int .i64 s] 177 (0, 0))) (fun W _ => HN.out W)
    obtain ⟨x, y, lo, hi, tol, mat, pin⟩ := t
    simp only at *
    clear hx hm h0 a1 a2
    go_enter Tryz.func119, Tryz.ntmps119
    go_wp2_with fail
    have m0 := cell_regrown (HR.out.cell (i := 0) rfl)
    have m1 := cell_regrown (HR.out.cell (i := 1) rfl)
    have m2 := cell_regrown (HR.out.cell (i := 2) rfl)
    have m3 := cell_regrown (HR.out.cell (i := 3) rfl)
    have m4 := cell_regrown (HR.out.cell (i := 4) rfl)
    have m5 := cell_regrown (HR.out.cell (i := 5) rfl)
    have m6 := cell_regrown (HR.out.cell (i := 6) rfl)
    have m7 := cell_regrown (HR.out.cell (i := 7) rfl)
    have e1 : ∀ args w, (callFunc 88 args).run Tryz.prog w = .ok (.enter 88 args) w := enters_of Tryz.func88 (by kernel_rfl) rfl
    generalize w.alloc (.cells #[.int .i64 x, .int .i64 y, .int .i64 lo, .int .i64 hi, .int .i64 tol, .int .i64 mat, .bool pin, .int .i64 s] 177 (0, 0)) = wr at *
    refine wp_region_quiet_below (by kernel_rfl) (by kernel_rfl) ?_
    repeat (go_big_quiet_step (fail))
    go_big_quiet_step (exact k1 _ _)
    repeat (go_big_quiet_step (fail))
    refine wpQuiet_nil ?_
    intro W6 hw'
    have hb6 : Below wr.heap.size wr W6 := by obtain ⟨p, e⟩ := hw'; rw [e]; exact below_regrown wr p.d p.os
    clear hw'
    have HB6 := Lib.hid (bel_to HB.out hb6)
    go_wp2
    go_ret
    exact Ret.of rfl HB6.out
end W
end Go.Proofs.YtellemlhhlafcaaGreatDoor
end
section
namespace Go.Proofs.YtellemlhhlafcaaGreatDoor
open Go Go.RowKit Go.Deep
abbrev tgC (t : M.Tg) : List Value := [.int .i64 t.x, .int .i64 t.y, .int .i64 t.lo, .int .i64 t.hi, .int .i64 t.tol, .int .i64 t.mat, .bool t.pin]
abbrev ccC (c : M.Cc) : List Value := [.int .i64 c.x, .int .i64 c.y, .int .i64 c.d]
def Bx (W : World) (b : Nat) (t : M.Tg) (c : M.Cc) : Prop := Row W b 27 (tgC t) ∧ Row W (b + 1) 30 (ccC c)
theorem Bx.below {W W' : World} {b : Nat} {t : M.Tg} {c : M.Cc} (h : Bx W b t c) (hb : Below W.heap.size W W') : Bx W' b t c := ⟨h.1.below' hb, h.2.below' hb⟩
theorem Bx.new (w : World) (t : M.Tg) (c : M.Cc) : Bx ((w.alloc (tgO t)).alloc (ccO c)) w.heap.size t c :=
  ⟨(rnw (w := w) (t := 27) (xs := tgC t)).alloc _, rnew0 (w := w.alloc (tgO t)) (b := w.heap.size + 1) (t := 30) (xs := ccC c) (World.size_alloc _ _).symm⟩
theorem bel_al2 (w : World) (o o2 : Obj) : Below w.heap.size w ((w.alloc o).alloc o2) := (bel_al w o).alloc (bel_al w o).size o2
theorem Bx.t {W : World} {b : Nat} {t : M.Tg} {c : M.Cc} (h : Bx W b t c) : W.cell? ⟨b, 0, none⟩ = some (.int .i64 t.x) ∧ W.cell? ⟨b, 1, none⟩ = some (.int .i64 t.y) ∧ W.cell? ⟨b, 2, none⟩ = some (.int .i64 t.lo) ∧ W.cell? ⟨b, 3, none⟩ = some (.int .i64 t.hi) ∧
    W.cell? ⟨b, 4, none⟩ = some (.int .i64 t.tol) ∧ W.cell? ⟨b, 5, none⟩ = some (.int .i64 t.mat) ∧ W.cell? ⟨b, 6, none⟩ = some (.bool t.pin) :=
  ⟨h.1.cell rfl, h.1.cell rfl, h.1.cell rfl, h.1.cell rfl, h.1.cell rfl, h.1.cell rfl, h.1.cell rfl⟩
theorem Bx.c {W : World} {b : Nat} {t : M.Tg} {c : M.Cc} (h : Bx W b t c) : W.cell? ⟨b + 1, 0, none⟩ = some (.int .i64 c.x) ∧ W.cell? ⟨b + 1, 1, none⟩ = some (.int .i64 c.y) ∧ W.cell? ⟨b + 1, 2, none⟩ = some (.int .i64 c.d) := ⟨h.2.cell rfl, h.2.cell rfl, h.2.cell rfl⟩
namespace M
def bothC (t : Tg) (c : Cc) : Nat := if chkT t ≠ 0 then chkT t else ringC c
def bonC (t : Tg) (n : Int) : Nat := if chkT t ≠ 0 then chkT t else if wth t n = true then 0 else 2
def bonN (t : Tg) (n : Int) : Int := if bonC t n = 0 then extr t n else 0
theorem bon_bad {t : Tg} {n : Int} (h : chkT t ≠ 0) : bonC t n = chkT t ∧ bonN t n = 0 := by
  have e : bonC t n = chkT t := by unfold bonC; rw [if_pos h]
  exact ⟨e, by unfold bonN; rw [e, if_neg h]⟩
theorem bon_out {t : Tg} {n : Int} (h : chkT t = 0) (hw : wth t n = false) : bonC t n = 2 ∧ bonN t n = 0 := by
  have e : bonC t n = 2 := by unfold bonC; rw [if_neg (fun h2 => h2 h), hw]; rfl
  exact ⟨e, by unfold bonN; rw [e]; rfl⟩
theorem bon_ok {t : Tg} {n : Int} (h : chkT t = 0) (hw : wth t n = true) : bonC t n = 0 ∧ bonN t n = extr t n := by
  have e : bonC t n = 0 := by unfold bonC; rw [if_neg (fun h2 => h2 h), hw]; rfl
  exact ⟨e, by unfold bonN; rw [e]; rfl⟩
theorem zone_bad1 {t : Tg} {c : Cc} (h : bothC t c ≠ 0) : zoneC t c = bothC t c ∧ zoneN t c = 0 := by
  have e : zoneC t c = bothC t c := by
    unfold zoneC bothC at *
    by_cases h1 : chkT t = 0
    · simp only [h1, ne_eq, not_true_eq_false, if_false] at *
      rw [if_pos h]
    · simp only [h1, ne_eq, not_false_eq_true, if_true]
  exact ⟨e, by unfold zoneN; rw [e, if_neg h]⟩
theorem both_zero {t : Tg} {c : Cc} (h : bothC t c = 0) : chkT t = 0 ∧ ringC c = 0 := by
  unfold bothC at h
  by_cases h1 : chkT t = 0
  · rw [if_neg (fun h2 => h2 h1)] at h
    exact ⟨h1, h⟩
  · rw [if_pos h1] at h; exact absurd h h1
theorem zone_out {t : Tg} {c : Cc} (h : bothC t c = 0) (hw : wth t c.d = false) : zoneC t c = 14 ∧ zoneN t c = 0 := by
  obtain ⟨h1, h2⟩ := both_zero h
  have e : zoneC t c = 14 := by
    unfold zoneC
    rw [if_neg (fun h3 => h3 h1), if_neg (fun h3 => h3 h2), hw]; rfl
  exact ⟨e, by unfold zoneN; rw [e]; rfl⟩
theorem zone_ok {t : Tg} {c : Cc} (h : bothC t c = 0) (hw : wth t c.d = true) : zoneC t c = 0 ∧ zoneN t c = wide t c := by
  obtain ⟨h1, h2⟩ := both_zero h
  have e : zoneC t c = 0 := by
    unfold zoneC
    rw [if_neg (fun h3 => h3 h1), if_neg (fun h3 => h3 h2), hw]; rfl
  exact ⟨e, by unfold zoneN; rw [e]; rfl⟩
theorem wth_rng {t : Tg} {n : Int} (h : RtT t) (hw : wth t n = true) : 1 ≤ n ∧ n ≤ 100000 := by
  unfold wth at hw
  simp only [Bool.and_eq_true, decide_eq_true_eq] at hw
  have := h.lo
  have := h.hi
  omega
theorem extr_rng {t : Tg} {n : Int} (h : RtT t) (hw : wth t n = true) : 0 ≤ extr t n ∧ extr t n ≤ 100000 := by
  unfold wth at hw
  simp only [Bool.and_eq_true, decide_eq_true_eq] at hw
  have := h.lo
  have := h.hi
  unfold extr
  split
  · omega
  · split <;> omega
end M
namespace W
open M
attribute [local go_sem] bs_size bs_toList bs_get bs_extract bs_append bs_lit0 bs_lit1 lit1_bs
set_option maxHeartbeats 1000000
set_option maxRecDepth 20000
theorem nz_bne {n : Nat} (h : n ≠ 0) : (((n : Nat) : Int) != 0) = true := by rw [bne_iff_ne]; omega
theorem bboth (t : Tg) (c : Cc) (w : World) : Calls Tryz.prog 63 #[tgV t, ccV c] w (Ret w (.int .i64 ((bothC t c : Nat) : Int))) := by
  have HB0 := Lib.hid (bel_al2 w (tgO t) (ccO c))
  have HX := Lib.hid (Bx.new w t c)
  have HC := Lib.hid (fun W => bcheck t W)
  have HR := Lib.hid (fun W => bring c W)
  unfold bothC
  obtain ⟨x, y, lo, hi, tol, mat, pin⟩ := t
  obtain ⟨x1, y1, d⟩ := c
  (try simp only at *)
  by_cases h : chkT ⟨x, y, lo, hi, tol, mat, pin⟩ = 0
  · rw [if_neg (by simpa using h)]
    rw [h] at HC
    clear h
    go_enter Tryz.func63, Tryz.ntmps63
    go_wp2_with fail
    refine (HC.out _).mono ?_
    rintro e w1 ⟨rfl, hb1⟩
    have HX1 := Lib.hid (HX.out.below hb1)
    obtain ⟨c0, c1, c2⟩ := HX1.out.c
    have HB1 := Lib.hid (bel_to HB0.out hb1)
    clear hb1 HX HX1 HB0 HC
    go_wp2_with fail
    refine (HR.out _).mono ?_
    rintro e w2 ⟨rfl, hb2⟩
    have hb2' := bel_to HB1.out hb2
    clear hb2 HB1
    go_wp2
    go_ret
    exact Ret.of rfl hb2'
  · rw [if_pos h]
    have hz := nz_bne h
    clear h
    generalize ((chkT ⟨x, y, lo, hi, tol, mat, pin⟩ : Nat) : Int) = k at *
    go_enter Tryz.func63, Tryz.ntmps63
    go_wp2_with fail
    refine (HC.out _).mono ?_
    rintro e w1 ⟨rfl, hb1⟩
    have hb1' := bel_to HB0.out hb1
    clear hb1 HX HB0 HC
    go_wp2
    go_ret
    exact Ret.of rfl hb1'
theorem bgap (t : Tg) (c : Cc) (w : World) : Calls Tryz.prog 64 #[tgV t, ccV c] w fun e w' => ∃ a b : Int, e = .returned (.tuple #[.int .i64 a, .int .i64 b]) ∧ Below w.heap.size w w' := by
  have HB0 := Lib.hid (bel_al2 w (tgO t) (ccO c))
  obtain ⟨c0, c1, c2⟩ := (Bx.new w t c).c
  obtain ⟨t0, t1, t2, t3, t4, t5, t6⟩ := (Bx.new w t c).t
  obtain ⟨x, y, lo, hi, tol, mat, pin⟩ := t
  obtain ⟨x1, y1, d⟩ := c
  (try simp only at *)
  go_enter Tryz.func64, Tryz.ntmps64
  go_wp2
  go_quiet (fail)
  go_wp2
  go_ret2
  exact ⟨_, _, rfl, Below.drewN HB0.out _⟩
theorem bdist (t : Tg) (c : Cc) (w : World) : Calls Tryz.prog 29 #[tgV t, ccV c] w fun e w' => ∃ n : Int, e = .returned (.tuple #[.int .i64 n, .int .i64 ((bothC t c : Nat) : Int)]) ∧ Below w.heap.size w w' := by
  have HB0 := Lib.hid (bel_al2 w (tgO t) (ccO c))
  have HX := Lib.hid (Bx.new w t c)
  have HC := Lib.hid (fun W => bboth t c W)
  have HG := Lib.hid (fun W => bgap t c W)
  obtain ⟨x, y, lo, hi, tol, mat, pin⟩ := t
  obtain ⟨x1, y1, d⟩ := c
  (try simp only at *)
  by_cases h : bothC ⟨x, y, lo, hi, tol, mat, pin⟩ ⟨x1, y1, d⟩ = 0
  · rw [h] at HC ⊢
    clear h
    go_enter Tryz.func29, Tryz.ntmps29
    go_wp2_with fail
    refine (HC.out _).mono ?_
    rintro e w1 ⟨rfl, hb1⟩
    have HX1 := Lib.hid (HX.out.below hb1)
    obtain ⟨c0, c1, c2⟩ := HX1.out.c
    obtain ⟨t0, t1, t2, t3, t4, t5, t6⟩ := HX1.out.t
    have HB1 := Lib.hid (bel_to HB0.out hb1)
    clear hb1 HX HX1 HB0 HC
    go_wp2_with fail
    refine (HG.out _).mono ?_
    rintro e w2 ⟨z1, z2, rfl, hb2⟩
    have hb2' := bel_to HB1.out hb2
    clear hb2 HB1 c0 c1 c2 t0 t1 t2 t3 t4 t5 t6
    go_wp2
    go_ret2
    exact ⟨_, rfl, hb2'⟩
  · have hz := nz_bne h
    clear h
    generalize ((bothC ⟨x, y, lo, hi, tol, mat, pin⟩ ⟨x1, y1, d⟩ : Nat) : Int) = k at *
    go_enter Tryz.func29, Tryz.ntmps29
    go_wp2_with fail
    refine (HC.out _).mono ?_
    rintro e w1 ⟨rfl, hb1⟩
    have hb1' := bel_to HB0.out hb1
    clear hb1 HX HB0 HC
    go_wp2
    go_ret2
    exact ⟨_, rfl, hb1'⟩
theorem bbonus (t : Tg) (n : Int) (w : World) (hs : Sig w) : Calls Tryz.prog 65 #[tgV t, .int .i64 n] w (Ret w (.tuple #[.int .i64 (bonN t n), .int .i64 ((bonC t n : Nat) : Int)])) := by
  have HB0 := Lib.hid (bel_al w (tgO t))
  have HX := Lib.hid (rnw (w := w) (t := 27) (xs := tgC t))
  have HC := Lib.hid (fun W => bcheck t W)
  have HW := Lib.hid (fun W => bwithin t n W)
  have HS := Lib.hid hs
  have HO := Lib.hid (fun W (hW : Sig W) (ht : RtT t) => bof t W hW ht.mat)
  have HE := Lib.hid (fun W (ht : RtT t) (hn : 1 ≤ n ∧ n ≤ 100000) => bextra t n W ht hn)
  have HT := Lib.hid (chkT_iff t)
  have HG := Lib.hid (fun ht hw => wth_rng (t := t) (n := n) ht hw)
  clear hs
  by_cases h : chkT t = 0
  · have ht := HT.out.1 h
    rw [h] at HC
    cases hw : wth t n with
    | true =>
      rw [hw] at HW
      rw [(bon_ok h hw).1, (bon_ok h hw).2]
      have hn := HG.out ht hw
      have HO2 := Lib.hid (fun W hW => HO.out W hW ht)
      have HE2 := Lib.hid (fun W => HE.out W ht hn)
      clear HG HT HO HE h ht hw hn
      obtain ⟨s, hs⟩ : ∃ s, s = sideT t := ⟨_, rfl⟩
      obtain ⟨E, hE⟩ : ∃ E, E = extr t n := ⟨_, rfl⟩
      rw [← hs] at HO2 HE2
      rw [← hE] at HE2 ⊢
      clear hs hE
      obtain ⟨x, y, lo, hi, tol, mat, pin⟩ := t
      (try simp only at *)
      go_enter Tryz.func65, Tryz.ntmps65
      go_wp2_with fail
      refine (HC.out _).mono ?_
      rintro e w1 ⟨rfl, hb1⟩
      have HX1 := Lib.hid (HX.out.below' hb1)
      have HB1 := Lib.hid (bel_to HB0.out hb1)
      have x0 := HX1.out.cell (i := 0) rfl
      have x1 := HX1.out.cell (i := 1) rfl
      have x2 := HX1.out.cell (i := 2) rfl
      have x3 := HX1.out.cell (i := 3) rfl
      have x4 := HX1.out.cell (i := 4) rfl
      have x5 := HX1.out.cell (i := 5) rfl
      have x6 := HX1.out.cell (i := 6) rfl
      clear hb1 HX HB0 HC
      go_wp2_with fail
      refine (HW.out _).mono ?_
      rintro e w2 ⟨rfl, hb2⟩
      have HX2 := Lib.hid (HX1.out.below' hb2)
      have HB2 := Lib.hid (bel_to HB1.out hb2)
      clear hb2 HX1 HB1 HW x0 x1 x2 x3 x4 x5 x6
      have x0 := HX2.out.cell (i := 0) rfl
      have x1 := HX2.out.cell (i := 1) rfl
      have x2 := HX2.out.cell (i := 2) rfl
      have x3 := HX2.out.cell (i := 3) rfl
      have x4 := HX2.out.cell (i := 4) rfl
      have x5 := HX2.out.cell (i := 5) rfl
      have x6 := HX2.out.cell (i := 6) rfl
      go_wp2_with fail
      refine (HO2.out _ (HS.out.below HB2.out)).mono ?_
      rintro e w3 ⟨rfl, hb3⟩
      have HB3 := Lib.hid (bel_to HB2.out hb3)
      clear hb3 HB2 HX2 x0 x1 x2 x3 x4 x5 x6
      go_wp2_with fail
      refine (HE2.out _).mono ?_
      rintro e w4 ⟨rfl, hb4⟩
      have hb4' := bel_to HB3.out hb4
      clear hb4 HB3
      go_wp2
      go_ret2
      exact Ret.of rfl hb4'
    | false =>
      rw [hw] at HW
      rw [(bon_out h hw).1, (bon_out h hw).2]
      clear HG HT HO HE h ht hw
      obtain ⟨x, y, lo, hi, tol, mat, pin⟩ := t
      (try simp only at *)
      go_enter Tryz.func65, Tryz.ntmps65
      go_wp2_with fail
      refine (HC.out _).mono ?_
      rintro e w1 ⟨rfl, hb1⟩
      have HX1 := Lib.hid (HX.out.below' hb1)
      have HB1 := Lib.hid (bel_to HB0.out hb1)
      have x0 := HX1.out.cell (i := 0) rfl
      have x1 := HX1.out.cell (i := 1) rfl
      have x2 := HX1.out.cell (i := 2) rfl
      have x3 := HX1.out.cell (i := 3) rfl
      have x4 := HX1.out.cell (i := 4) rfl
      have x5 := HX1.out.cell (i := 5) rfl
      have x6 := HX1.out.cell (i := 6) rfl
      clear hb1 HX HB0 HC
      go_wp2_with fail
      refine (HW.out _).mono ?_
      rintro e w2 ⟨rfl, hb2⟩
      have hb2' := bel_to HB1.out hb2
      clear hb2 HB1
      go_wp2
      go_ret2
      exact Ret.of rfl hb2'
  · rw [(bon_bad h).1, (bon_bad h).2]
    have hz := nz_bne h
    clear h HG HT HO HE HW
    generalize ((chkT t : Nat) : Int) = k at *
    obtain ⟨x, y, lo, hi, tol, mat, pin⟩ := t
    (try simp only at *)
    go_enter Tryz.func65, Tryz.ntmps65
    go_wp2_with fail
    refine (HC.out _).mono ?_
    rintro e w1 ⟨rfl, hb1⟩
    have hb1' := bel_to HB0.out hb1
    clear hb1 HX HB0 HC
    go_wp2
    go_ret2
    exact Ret.of rfl hb1'
theorem ballowed (t : Tg) (n : Int) (w : World) (hs : Sig w) : Calls Tryz.prog 30 #[tgV t, .int .i64 n] w (Ret w (.tuple #[.int .i64 (if bonC t n = 0 then t.tol + extr t n else 0), .int .i64 ((bonC t n : Nat) : Int)])) := by
  have HB0 := Lib.hid (bel_al w (tgO t))
  have HX := Lib.hid (rnw (w := w) (t := 27) (xs := tgC t))
  have HC := Lib.hid (bbonus t n (w.alloc (tgO t)) (hs.below (bel_al w (tgO t))))
  by_cases h : bonC t n = 0
  · rw [if_pos h]
    have h1 : chkT t = 0 := by
      refine Classical.byContradiction fun h2 => ?_
      rw [(bon_bad h2).1] at h; exact h2 h
    have h2 : wth t n = true := by
      cases hw : wth t n with
      | true => rfl
      | false => rw [(bon_out h1 hw).1] at h; cases h
    have hr := extr_rng ((chkT_iff t).1 h1) h2
    have htol := ((chkT_iff t).1 h1).tol
    have hw1 : wrap64 (t.tol + extr t n) = t.tol + extr t n := by unfold wrap64; omega
    rw [(bon_ok h1 h2).2, h] at HC
    rw [h]
    clear h h1 h2 hr htol hs
    generalize extr t n = E at *
    obtain ⟨x, y, lo, hi, tol, mat, pin⟩ := t
    (try simp only at *)
    go_enter Tryz.func30, Tryz.ntmps30
    go_wp2_with fail
    refine (HC.out).mono ?_
    rintro e w1 ⟨rfl, hb1⟩
    have x4 := (HX.out.below' hb1).cell (i := 4) rfl
    have hb1' := bel_to HB0.out hb1
    clear hb1 HX HB0 HC
    go_wp2
    go_ret2
    exact Ret.of (by show Value.tuple #[.int .i64 (wrap64 (tol + E)), .int .i64 0] = _; rw [hw1]; rfl) hb1'
  · rw [if_neg h]
    have hN : bonN t n = 0 := by unfold bonN; rw [if_neg h]
    have hz := nz_bne h
    rw [hN] at HC
    clear h hN hs
    generalize ((bonC t n : Nat) : Int) = k at *
    obtain ⟨x, y, lo, hi, tol, mat, pin⟩ := t
    (try simp only at *)
    go_enter Tryz.func30, Tryz.ntmps30
    go_wp2_with fail
    refine (HC.out).mono ?_
    rintro e w1 ⟨rfl, hb1⟩
    have hb1' := bel_to HB0.out hb1
    clear hb1 HX HB0 HC
    go_wp2
    go_ret2
    exact Ret.of rfl hb1'
theorem pzone (t : Tg) (c : Cc) (w : World) (hs : Sig w) : Calls Tryz.prog 9 #[tgV t, ccV c] w (Ret w (.tuple #[.int .i64 (zoneN t c), .int .i64 ((zoneC t c : Nat) : Int)])) := by
  have HB0 := Lib.hid (bel_al2 w (tgO t) (ccO c))
  have HX := Lib.hid (Bx.new w t c)
  have HC := Lib.hid (fun W => bdist t c W)
  have HA := Lib.hid (fun W (hW : Below w.heap.size w W) => ballowed t c.d W (hs.below hW))
  clear hs
  by_cases h : bothC t c = 0
  · rw [h] at HC
    have h1 := (both_zero h).1
    obtain ⟨ZN, hZN⟩ : ∃ ZN, ZN = zoneN t c := ⟨_, rfl⟩
    obtain ⟨ZC, hZC⟩ : ∃ ZC, ZC = ((zoneC t c : Nat) : Int) := ⟨_, rfl⟩
    rw [← hZN, ← hZC]
    obtain ⟨AN, hAN⟩ : ∃ AN, AN = (if bonC t c.d = 0 then t.tol + extr t c.d else 0) := ⟨_, rfl⟩
    obtain ⟨AC, hAC⟩ : ∃ AC, AC = ((bonC t c.d : Nat) : Int) := ⟨_, rfl⟩
    rw [← hAN, ← hAC] at HA
    have hcase : (AC = 2 ∧ ZC = 14 ∧ ZN = 0) ∨ (AC = 0 ∧ ZC = 0 ∧ ZN = AN) := by
      cases hw : wth t c.d with
      | true =>
        right
        rw [hAC, hZC, hZN, hAN, (bon_ok h1 hw).1, (zone_ok h hw).1, (zone_ok h hw).2]
        exact ⟨rfl, rfl, rfl⟩
      | false =>
        left
        rw [hAC, hZC, hZN, (bon_out h1 hw).1, (zone_out h hw).1, (zone_out h hw).2]
        exact ⟨rfl, rfl, rfl⟩
    clear h h1 hZN hZC hAN hAC
    obtain ⟨x, y, lo, hi, tol, mat, pin⟩ := t
    obtain ⟨x1, y1, d⟩ := c
    (try simp only at *)
    go_enter Tryz.func9, Tryz.ntmps9
    go_wp2_with fail
    refine (HC.out _).mono ?_
    rintro e w1 ⟨nd, rfl, hb1⟩
    have HX1 := Lib.hid (HX.out.below hb1)
    obtain ⟨c0, c1, c2⟩ := HX1.out.c
    obtain ⟨t0, t1, t2, t3, t4, t5, t6⟩ := HX1.out.t
    have HB1 := Lib.hid (bel_to HB0.out hb1)
    clear hb1 HX HX1 HB0 HC
    go_wp2_with fail
    refine (HA.out _ HB1.out).mono ?_
    rintro e w2 ⟨rfl, hb2⟩
    have hb2' := bel_to HB1.out hb2
    clear hb2 HB1 HA t0 t1 t2 t3 t4 t5 t6 c0 c1 c2
    rcases hcase with ⟨rfl, rfl, rfl⟩ | ⟨rfl, rfl, rfl⟩ <;>
    · go_wp2
      go_ret2
      exact Ret.of rfl hb2'
  · rw [(zone_bad1 h).1, (zone_bad1 h).2]
    have hz := nz_bne h
    clear h
    generalize ((bothC t c : Nat) : Int) = k at *
    obtain ⟨x, y, lo, hi, tol, mat, pin⟩ := t
    obtain ⟨x1, y1, d⟩ := c
    (try simp only at *)
    go_enter Tryz.func9, Tryz.ntmps9
    go_wp2_with fail
    refine (HC.out _).mono ?_
    rintro e w1 ⟨nd, rfl, hb1⟩
    have hb1' := bel_to HB0.out hb1
    clear hb1 HX HB0 HC
    go_wp2
    go_ret2
    exact Ret.of rfl hb1'
end W
end Go.Proofs.YtellemlhhlafcaaGreatDoor
end
