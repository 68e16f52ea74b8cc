/-
  What the simplex finds, plain: the end of the first phase, and what its tables say of points and weights.
  The simplex decides, plain: for bounds that fit, 'mostT' and 'feasT' end, and what they return is proved.
  Short numbers, plain: bounds with short numbers are decided; weak duality.
  Outcomes of the simplex, plain: each excludes the others; the dual program.
  Chapter 5: 'Most' of the program decides: for few bounds with short numbers, and for the dual program.
-/
import Derived.Test.YtfcffheboncmbaaGreatDoorKR
import Derived.Test.YtfcffheboncmbaaGreatDoorKP
section
namespace Go.Proofs.YtfcffheboncmbaaGreatDoor
open Go
namespace Sx
open M
theorem dotP_sm (a b : List Rat) : ∀ i, dotP a b i = sm i fun k => nth a k * nth b k
  | 0 => rfl
  | i + 1 => by rw [dotP, sm, dotP_sm a b i]
theorem wrow_sm (l : List BQ) (q : List Rat) (k : Nat) : ∀ i, wrow l q i k = sm i fun j => nth q j * nth (l.getD j ([], 0)).1 k
  | 0 => rfl
  | i + 1 => by rw [wrow, sm, wrow_sm l q k i]
theorem wmost_sm (l : List BQ) (q : List Rat) : ∀ i, wmost l q i = sm i fun j => nth q j * (l.getD j ([], 0)).2
  | 0 => rfl
  | i + 1 => by rw [wmost, sm, wmost_sm l q i]
/-- The sum over all columns, by kind. -/
theorem exp_sum (n m : Nat) (f : Nat → Rat) : sm (wdt n m) f = sm n (fun k => f k + f (n + k)) + sm m (fun i => f (2 * n + i)) + f (2 * n + m) := by
  have e : wdt n m = n + (n + (m + 1)) := by unfold wdt; omega
  rw [e, sm_split n, sm_split n, sm_add, sm]
  have e1 : sm m (fun k => f (n + (n + k))) = sm m fun i => f (2 * n + i) := sm_congr fun i _ => by rw [show n + (n + i) = 2 * n + i by omega]
  rw [e1, show n + (n + m) = 2 * n + m by omega]; grind
/-- The first table's rows, the goal's row empty, determine the slacks. -/
theorem laid_bas (n : Nat) (l : List BQ) : Bas l.length (wdt n l.length) (laidA n l) fun i => 2 * n + i := by
  have L := laid_of n l
  have hm : ∀ k, laidA n l l.length k = 0 := fun k => by unfold laidA; rw [if_neg (by omega)]
  exact ⟨fun i hi => by unfold wdt; omega, fun i hi => by rw [L.slk i hi i hi, if_pos rfl], fun i j hi hj e => by
    by_cases h1 : j < l.length
    · rw [L.slk j h1 i hi, if_neg e]
    · rw [show j = l.length by omega, hm]⟩
section
variable {n : Nat} {l : List BQ} {A : Mx} {b : Nat → Nat} {c : Nat → Rat}
/-- The goal's row is the goal less the rows, weighted by what the slacks lose. -/
theorem Rep.dual (h : Rep n l.length (laidA n l) A b c) {s : Nat} (hs : s ≤ wdt n l.length) : A l.length s - c s = sm l.length fun i => (A l.length (2 * n + i) - c (2 * n + i)) * laidA n l i s := by
  have hB := laid_bas n l
  have e0 : sm l.length (fun i => (A l.length (2 * n + i) - c (2 * n + i)) * laidA n l i s) = sm l.length (fun i => A l.length (2 * n + i) * laidA n l i s) - sm l.length (fun i => c (2 * n + i) * laidA n l i s) := by
    rw [← sm_sub]
    exact sm_congr fun i _ => by grind
  rw [e0]
  rcases Nat.lt_or_eq_of_le hs with h1 | h1
  · have h2 := (h.inv.sol 0 _).2 (dir_sol hB h1)
    have h3 := h.zv 0 _ h2
    unfold Zv at h3
    rw [dir_sum h1, dir_sum h1, bv_sum hB.lt, bv_sum hB.lt] at h3
    grind
  · have h2 := (h.inv.sol 1 _).2 (bas_sol hB)
    have h3 := h.zv 1 _ h2
    unfold Zv at h3
    rw [bv_sum hB.lt, bv_sum hB.lt] at h3
    rw [h1]; grind
/-- The goal's numbers in both columns of an unknown. -/
theorem Rep.two (h : Rep n l.length (laidA n l) A b c) {k : Nat} (hk : k < n) (h0 : c k + c (n + k) = 0) : A l.length k + A l.length (n + k) = 0 := by
  have h1 := h.dual (s := k) (by unfold wdt; omega)
  have h2 := h.dual (s := n + k) (by unfold wdt; omega)
  have h3 : sm l.length (fun i => (A l.length (2 * n + i) - c (2 * n + i)) * laidA n l i k) + sm l.length (fun i => (A l.length (2 * n + i) - c (2 * n + i)) * laidA n l i (n + k)) = 0 := by
    rw [← sm_add]
    exact sm_zero fun i hi => by rw [(laid_of n l).neg i hi k hk]; grind
  grind
theorem laid_un {j k : Nat} (hj : j < l.length) (hk : k < n) : laidA n l j k = nth (l.getD j ([], 0)).1 k := by unfold laidA; rw [if_pos hj, if_pos hk]
theorem laid_most {j : Nat} (hj : j < l.length) : laidA n l j (wdt n l.length) = (l.getD j ([], 0)).2 := by
  unfold laidA wdt
  rw [if_pos hj, if_neg (by omega), if_neg (by omega), if_neg (by omega), if_neg (by omega), if_pos (by omega)]
/-- A row's sum at a solution. -/
theorem laid_sum {j : Nat} (hj : j < l.length) (x : Nat → Rat) : sm (wdt n l.length) (fun k => laidA n l j k * x k) = sm n (fun k => nth (l.getD j ([], 0)).1 k * (x k - x (n + k))) + x (2 * n + j) - x (2 * n + l.length) := by
  have L := laid_of n l
  rw [exp_sum]
  have e1 : sm n (fun k => laidA n l j k * x k + laidA n l j (n + k) * x (n + k)) = sm n (fun k => nth (l.getD j ([], 0)).1 k * (x k - x (n + k))) := sm_congr fun k hk => by
    rw [L.neg j hj k hk, laid_un hj hk]; grind
  have e2 : sm l.length (fun i => laidA n l j (2 * n + i) * x (2 * n + i)) = x (2 * n + j) := by
    rw [sm_one hj fun i hi e => by rw [L.slk j hj i hi, if_neg (Ne.symm e), Rat.zero_mul], L.slk j hj j hj, if_pos rfl, Rat.one_mul]
  rw [e1, e2, L.art j hj]; grind
theorem goal_sum (goal : List Rat) (x : Nat → Rat) (m : Nat) : sm (wdt n m) (fun k => goalF n goal k * x k) = sm n (fun k => nth goal k * (x k - x (n + k))) := by
  rw [exp_sum]
  have e1 : sm n (fun k => goalF n goal k * x k + goalF n goal (n + k) * x (n + k)) = sm n (fun k => nth goal k * (x k - x (n + k))) := sm_congr fun k hk => by
    unfold goalF
    rw [if_pos hk, if_neg (by omega), if_pos (by omega), show n + k - n = k by omega]; grind
  have e2 : sm m (fun i => goalF n goal (2 * n + i) * x (2 * n + i)) = 0 := sm_zero fun i _ => by
    unfold goalF; rw [if_neg (by omega), if_neg (by omega), Rat.zero_mul]
  have e3 : goalF n goal (2 * n + m) = 0 := by unfold goalF; rw [if_neg (by omega), if_neg (by omega)]
  rw [e1, e2, e3]; grind
/-- The numbers of the columns are the table's point. -/
theorem allS_bv {m wd : Nat} {b : Nat → Nat} : ∀ i, (∀ j k, j < i → k < i → b j = b k → j = k) → ∀ k, allS A b wd i k = bv i b (fun j => A j wd) k
  | 0, _, _ => rfl
  | i + 1, h, k => by
    have ih := allS_bv (m := m) (wd := wd) (b := b) i (fun j k hj hk e => h j k (by omega) (by omega) e) k
    rw [allS]
    unfold bv at ih ⊢
    rw [sm]
    by_cases e : k = b i
    · subst e
      rw [upd_same, sm_zero fun j hj => if_neg fun e2 => by have := h j i (by omega) (by omega) e2; omega, if_pos rfl]; grind
    · rw [upd_other _ e, ih, if_neg (Ne.symm e)]; grind
theorem Inv.pointF (h : Inv n l.length (laidA n l) A b) (k : Nat) : M.pointF n l.length A b k = bv l.length b (fun j => A j (wdt n l.length)) k - bv l.length b (fun j => A j (wdt n l.length)) (n + k) := by
  have hi : ∀ j k, j < l.length → k < l.length → b j = b k → j = k := fun j k hj hk e => h.bas.inj hj hk e
  unfold M.pointF
  rw [allS_bv (m := l.length) _ hi, allS_bv (m := l.length) _ hi]
end
/-- What a table's point keeps, by the numbers of a solution. -/
theorem sol_keeps {n : Nat} {l : List BQ} {x : Nat → Rat} (h : Sol l.length (wdt n l.length) (laidA n l) 1 x) (h0 : ∀ k, 0 ≤ x k) (ha : x (2 * n + l.length) = 0) {j : Nat} (hj : j < l.length) :
    sm n (fun k => nth (l.getD j ([], 0)).1 k * (x k - x (n + k))) ≤ (l.getD j ([], 0)).2 := by
  have h1 := h j hj
  rw [laid_sum hj, laid_most hj, ha] at h1
  have h2 := h0 (2 * n + j)
  grind
theorem sol_falls {n : Nat} {l : List BQ} {x : Nat → Rat} (h : Sol l.length (wdt n l.length) (laidA n l) 0 x) (h0 : ∀ k, 0 ≤ x k) (ha : x (2 * n + l.length) = 0) {j : Nat} (hj : j < l.length) :
    sm n (fun k => nth (l.getD j ([], 0)).1 k * (x k - x (n + k))) ≤ 0 := by
  have h1 := h j hj
  rw [laid_sum hj, ha] at h1
  have h2 := h0 (2 * n + j)
  grind
theorem nth_range (f : Nat → Rat) {n k : Nat} (h : k < n) : nth ((List.range n).map f) k = f k := nth_map f n k h
/-- A point keeps all bounds; weights contradict; an optimum; a way without an end. -/
def Keeps (n : Nat) (l : List BQ) (p : List Rat) : Prop := p.length = n ∧ ∀ b ∈ l, dotP b.1 p n ≤ b.2
def Contra (n : Nat) (l : List BQ) (w : List Rat) : Prop := w.length = l.length ∧ (∀ x ∈ w, 0 ≤ x) ∧ (∀ k, k < n → wrow l w l.length k = 0) ∧ wmost l w l.length < 0
def Optim (n : Nat) (l : List BQ) (goal : List Rat) (v : Rat) (p w : List Rat) : Prop :=
  Keeps n l p ∧ dotP goal p n = v ∧ w.length = l.length ∧ (∀ x ∈ w, 0 ≤ x) ∧ (∀ k, k < n → wrow l w l.length k = nth goal k) ∧ wmost l w l.length = v
def NoEnd (n : Nat) (l : List BQ) (goal : List Rat) : Prop := ∃ p q, Keeps n l p ∧ q.length = n ∧ (∀ b ∈ l, dotP b.1 q n ≤ 0) ∧ 0 < dotP goal q n
section
variable {n : Nat} {l : List BQ} {A : Mx} {b : Nat → Nat} {c : Nat → Rat}
theorem get_of {x : BQ} (h : x ∈ l) : ∃ j, j < l.length ∧ l.getD j ([], 0) = x := by
  obtain ⟨j, hj, e⟩ := List.getElem_of_mem h
  exact ⟨j, hj, by simp [hj, e]⟩
theorem point_keeps (h : Inv n l.length (laidA n l) A b) (hf : ∀ i, i < l.length → 0 ≤ A i (wdt n l.length)) (ha : bv l.length b (fun i => A i (wdt n l.length)) (2 * n + l.length) = 0) :
    Keeps n l ((List.range n).map (M.pointF n l.length A b)) := by
  refine ⟨by simp, fun x hx => ?_⟩
  obtain ⟨j, hj, rfl⟩ := get_of hx
  have h1 := sol_keeps ((h.sol 1 _).1 (bas_sol h.bas)) (bv_nonneg hf) ha hj
  rw [dotP_sm]
  rw [sm_congr (g := fun k => nth (l.getD j ([], 0)).1 k * (bv l.length b (fun j => A j (wdt n l.length)) k - bv l.length b (fun j => A j (wdt n l.length)) (n + k))) fun k hk => by rw [nth_range _ hk, h.pointF]]
  exact h1
theorem point_goal (h : Inv n l.length (laidA n l) A b) (goal : List Rat) : dotP goal ((List.range n).map (M.pointF n l.length A b)) n = sm (wdt n l.length) (fun k => goalF n goal k * bv l.length b (fun j => A j (wdt n l.length)) k) := by
  rw [goal_sum, dotP_sm]
  exact sm_congr fun k hk => by rw [nth_range _ hk, h.pointF]
theorem weight_sum (h : Rep n l.length (laidA n l) A b c) (hs : ∀ j, j < l.length → c (2 * n + j) = 0) {s : Nat} (hs2 : s ≤ wdt n l.length) :
    sm l.length (fun i => nth ((List.range l.length).map (weightF n l.length A)) i * laidA n l i s) = c s - A l.length s := by
  have h1 := h.dual hs2
  have e : sm l.length (fun i => nth ((List.range l.length).map (weightF n l.length A)) i * laidA n l i s) = - sm l.length (fun i => (A l.length (2 * n + i) - c (2 * n + i)) * laidA n l i s) := by
    rw [← sm_neg]
    exact sm_congr fun i hi => by rw [nth_range _ hi, hs i hi]; unfold weightF; grind
  rw [e]; grind
theorem weight_row (h : Rep n l.length (laidA n l) A b c) (hs : ∀ j, j < l.length → c (2 * n + j) = 0) {k : Nat} (hk : k < n) : wrow l ((List.range l.length).map (weightF n l.length A)) l.length k = c k - A l.length k := by
  rw [← weight_sum h hs (by unfold wdt; omega), wrow_sm]
  exact sm_congr fun i hi => by rw [laid_un hi hk]
theorem weight_most (h : Rep n l.length (laidA n l) A b c) (hs : ∀ j, j < l.length → c (2 * n + j) = 0) : wmost l ((List.range l.length).map (weightF n l.length A)) l.length = c (wdt n l.length) - A l.length (wdt n l.length) := by
  rw [← weight_sum h hs (Nat.le_refl _), wmost_sm]
  exact sm_congr fun i hi => by rw [laid_most hi]
theorem weight_pos (h : ∀ k, k < wdt n l.length → k ≠ 2 * n + l.length → A l.length k ≤ 0) : ∀ x ∈ (List.range l.length).map (weightF n l.length A), 0 ≤ x := fun x hx => by
  obtain ⟨i, hi, rfl⟩ := List.mem_map.1 hx
  have := h (2 * n + i) (by have := List.mem_range.1 hi; unfold wdt; omega) (by have := List.mem_range.1 hi; omega)
  unfold weightF; grind
/-- The first phase's end with something missing: weights that contradict. -/
theorem contra_of {T : Tbl} (h : Ended n l.length none (laidA n l) (artG n l.length) true T) (h0 : T.A l.length (wdt n l.length) ≠ 0) : Contra n l ((List.range l.length).map (weightF n l.length T.A)) := by
  have hs : ∀ j, j < l.length → artG n l.length (2 * n + j) = 0 := fun j hj => by unfold artG; rw [if_neg (by omega)]
  have htop := h.top rfl
  have hD : artG n l.length (wdt n l.length) = 0 := by unfold artG wdt; rw [if_neg (by omega)]
  refine ⟨by simp, weight_pos fun k hk _ => htop k hk (by simp), fun k hk => ?_, ?_⟩
  · have h1 : artG n l.length k = 0 := by unfold artG; rw [if_neg (by omega)]
    have h2 : artG n l.length (n + k) = 0 := by unfold artG; rw [if_neg (by omega)]
    have h3 := h.rep.two hk (by rw [h1, h2]; decide +kernel)
    have h4 := htop k (by unfold wdt; omega) (by simp)
    have h5 := htop (n + k) (by unfold wdt; omega) (by simp)
    rw [weight_row h.rep hs hk, h1]; grind
  · rw [weight_most h.rep hs, hD]
    have h1 := h.rep.pt.2
    rw [art_sum, hD] at h1
    have h2 := bv_nonneg (b := T.b) h.feas (2 * n + l.length)
    grind
/-- The second phase's end. -/
theorem optim_of {T : Tbl} {goal : List Rat} (h : Ended n l.length (some (2 * n + l.length)) (laidA n l) (goalF n goal) true T) (ha : NoArt n l.length T) :
    Optim n l goal (dotP goal ((List.range n).map (M.pointF n l.length T.A T.b)) n) ((List.range n).map (M.pointF n l.length T.A T.b)) ((List.range l.length).map (weightF n l.length T.A)) := by
  have hs : ∀ j, j < l.length → goalF n goal (2 * n + j) = 0 := fun j hj => by unfold goalF; rw [if_neg (by omega), if_neg (by omega)]
  have htop := h.top rfl
  have hD : goalF n goal (wdt n l.length) = 0 := by unfold goalF wdt; rw [if_neg (by omega), if_neg (by omega)]
  have hx := ha.pt h.rep.inv.bas
  refine ⟨point_keeps h.rep.inv h.feas hx, rfl, by simp, weight_pos fun k hk hne => htop k hk (by simp; exact hne), fun k hk => ?_, ?_⟩
  · have h1 : goalF n goal k = nth goal k := by unfold goalF; rw [if_pos hk]
    have h2 : goalF n goal (n + k) = - nth goal k := by unfold goalF; rw [if_neg (by omega), if_pos (by omega), show n + k - n = k by omega]
    have h3 := h.rep.two hk (by rw [h1, h2]; grind)
    have h4 := htop k (by unfold wdt; omega) (by simp; omega)
    have h5 := htop (n + k) (by unfold wdt; omega) (by simp; omega)
    rw [weight_row h.rep hs hk, h1]; grind
  · rw [weight_most h.rep hs, hD, point_goal h.rep.inv]
    have h1 := h.rep.pt.2
    rw [hD] at h1
    grind
theorem noend_of {T : Tbl} {goal : List Rat} (h : Ended n l.length (some (2 * n + l.length)) (laidA n l) (goalF n goal) false T) (ha : NoArt n l.length T) : NoEnd n l goal := by
  obtain ⟨q, hq, hb, hp, hc⟩ := h.free rfl
  obtain ⟨r1, r2, r3⟩ := h.rep.ray hq hc
  have hq2 : q < 2 * n + l.length := by
    unfold wdt at hq
    have : q ≠ 2 * n + l.length := fun e => hb (by rw [e])
    omega
  have hx := ha.pt h.rep.inv.bas
  have hd : dirV l.length T.A T.b q (2 * n + l.length) = 0 := by
    unfold dirV
    rw [if_neg (by omega)]
    rcases ha with ha | ⟨r, a1, a2, a3, a4⟩
    · rw [bv_off _ ha]; grind
    · rw [← a2, bv_at h.rep.inv.bas _ a1, a4 q hq2]; grind
  refine ⟨(List.range n).map (M.pointF n l.length T.A T.b), (List.range n).map fun k => dirV l.length T.A T.b q k - dirV l.length T.A T.b q (n + k), point_keeps h.rep.inv h.feas hx, by simp, fun x hx => ?_, ?_⟩
  · obtain ⟨j, hj, rfl⟩ := get_of hx
    have h1 := sol_falls r1 r2 hd hj
    rw [dotP_sm]
    rw [sm_congr (g := fun k => nth (l.getD j ([], 0)).1 k * (dirV l.length T.A T.b q k - dirV l.length T.A T.b q (n + k))) fun k hk => by rw [nth_range _ hk]]
    exact h1
  · rw [dotP_sm]
    rw [sm_congr (g := fun k => nth goal k * (dirV l.length T.A T.b q k - dirV l.length T.A T.b q (n + k))) fun k hk => by rw [nth_range _ hk], ← goal_sum goal _ l.length, r3]
    exact hp
end
end Sx
end Go.Proofs.YtfcffheboncmbaaGreatDoor
end
section
namespace Go.Proofs.YtfcffheboncmbaaGreatDoor
open Go
namespace Sx
open M
theorem wd1 (n m : Nat) : wdt n m - 1 = 2 * n + m := by unfold wdt; omega
theorem find_range_none {n : Nat} {p : Nat → Bool} (h : (List.range n).find? p = none) : ∀ k, k < n → p k = false := fun k hk => by
  rw [List.find?_eq_none] at h
  have := h k (List.mem_range.2 hk)
  simpa using this
theorem find_range_some {n c : Nat} {p : Nat → Bool} (h : (List.range n).find? p = some c) : c < n ∧ p c = true := by
  rw [List.find?_range_eq_some] at h
  exact ⟨List.mem_range.1 h.2.1, h.1⟩
/-- What is missing leaves the table. -/
theorem out_end {n : Nat} {l : List BQ} {T : Tbl} (h : Rep n l.length (laidA n l) T.A T.b (artG n l.length)) (hf : ∀ i, i < l.length → 0 ≤ T.A i (wdt n l.length)) (h0 : T.A l.length (wdt n l.length) = 0) :
    Rep n l.length (laidA n l) (outT n l.length T).A (outT n l.length T).b (artG n l.length) ∧ (∀ i, i < l.length → 0 ≤ (outT n l.length T).A i (wdt n l.length)) ∧ NoArt n l.length (outT n l.length T) := by
  have hD : artG n l.length (wdt n l.length) = 0 := by unfold artG wdt; rw [if_neg (by omega)]
  have hx := h.pt.2
  rw [art_sum, hD, h0] at hx
  unfold outT
  rw [wd1]
  cases hr : (List.range l.length).find? fun i => decide (T.b i = 2 * n + l.length) with
  | none =>
    refine ⟨h, hf, Or.inl fun i hi => ?_⟩
    have := find_range_none hr i hi
    simpa using this
  | some r =>
    obtain ⟨h1, h2⟩ := find_range_some hr
    have h2 : T.b r = 2 * n + l.length := by simpa using h2
    have h3 : T.A r (wdt n l.length) = 0 := by
      rw [← h2, bv_at h.inv.bas _ h1] at hx
      grind
    simp only
    cases hc : (List.range (2 * n + l.length)).find? fun c => decide (T.A r c ≠ 0) with
    | none =>
      refine ⟨h, hf, Or.inr ⟨r, h1, h2, h3, fun k hk => ?_⟩⟩
      have := find_range_none hc k hk
      simpa using this
    | some c =>
      obtain ⟨h4, h5⟩ := find_range_some hc
      have h5 : T.A r c ≠ 0 := by simpa using h5
      have pA : ∀ j, j ≤ l.length → ∀ k, k ≤ wdt n l.length → (pivT n l.length T r c).A j k = pivA T.A r c j k := fun j hj k hk => tab_A _ _ hj hk
      have pb : ∀ i, i < l.length → (pivT n l.length T r c).b i = upd T.b r c i := fun i hi => tab_b _ _ hi
      refine ⟨h.piv h1 (by unfold wdt; omega) h5 pA pb, fun i hi => ?_, Or.inl fun i hi => ?_⟩
      · show 0 ≤ (pivT n l.length T r c).A i (wdt n l.length)
        rw [pA i (by omega) _ (Nat.le_refl _)]
        by_cases e : i = r
        · subst e; rw [piv_r, h3]; grind
        · rw [piv_row e, h3]
          have := hf i hi
          grind
      · show (pivT n l.length T r c).b i ≠ 2 * n + l.length
        rw [pb i hi]
        by_cases e : i = r
        · subst e; rw [upd_same]; omega
        · rw [upd_other _ e]
          intro e2
          exact e (h.inv.bas.inj hi h1 (by rw [e2, h2]))
/-- The first phase. -/
theorem ready_end {n e : Nat} {l : List BQ} {c : Nat → Rat} {Q : Rat} (hc : Szd n l.length (laidA n l) c Q) (hF : Fits n l.length Q e) :
    ∃ f ok T, (∀ d, readyT e n l.length (f + d) (laidT n l) = some (ok, T)) ∧ (ok = false → Ended n l.length none (laidA n l) (artG n l.length) true T ∧ T.A l.length (wdt n l.length) ≠ 0) ∧
      (ok = true → (∃ c', Rep n l.length (laidA n l) T.A T.b c') ∧ (∀ i, i < l.length → 0 ≤ T.A i (wdt n l.length)) ∧ NoArt n l.length T) ∧ ∀ j, j ≤ l.length → ∀ k, k ≤ wdt n l.length → Bq e (T.A j k) := by
  have L := laid_of n l
  have R0 := laid_rep n l
  have hA : ∀ j, j ≤ l.length → ∀ k, k ≤ wdt n l.length → (laidT n l).A j k = laidA n l j k := fun j hj k hk => tab_A _ _ hj hk
  have hb : ∀ i, i < l.length → (laidT n l).b i = 2 * n + i := fun i hi => tab_b _ _ hi
  have hm : ∀ k, laidA n l l.length k = 0 := fun k => by unfold laidA; rw [if_neg (by omega)]
  have hs0 : ∀ j, j ≤ l.length → ∀ k, k ≤ wdt n l.length → Bq e ((laidT n l).A j k) := fun j hj k hk => R0.small L hc.zero hF hj hk
  have hsm0 : ¬ smallT e n l.length (laidT n l) = false := by rw [smallT_of hs0]; decide
  have hws := ws_spec (A := (laidT n l).A) (wd := wdt n l.length) l.length
  cases hw : wsS (laidT n l).A (wdt n l.length) l.length with
  | none =>
    rw [hw] at hws
    have hrc : ∀ f, readyT e n l.length f (laidT n l) = some (true, laidT n l) := fun f => by
      unfold readyT readyC
      rw [if_neg hsm0, hw]
      simp only
      rw [if_pos (smallT_of hs0)]
    exact ⟨0, true, laidT n l, fun d => hrc _, (fun e => by cases e), fun _ => ⟨⟨_, R0⟩, hws, Or.inl fun i hi => by rw [hb i hi]; omega⟩, hs0⟩
  | some w =>
    rw [hw] at hws
    obtain ⟨w1, w2, w3⟩ := hws
    have hpv : (laidT n l).A w (2 * n + l.length) = -1 := by rw [hA w (by omega) _ (by unfold wdt; omega)]; exact L.art w w1
    -- the goal's row, and the first pivot
    have R1 : Rep n l.length (laidA n l) (upd (laidT n l).A l.length (upd ((laidT n l).A l.length) (2 * n + l.length) (-1))) (laidT n l).b (artG n l.length) := by
      refine R0.regoal (fun j hj k _ => by rw [upd_other _ (by omega)]) (fun _ _ => rfl) fun k hk => ?_
      rw [upd_same]
      have e1 : zc l.length (laidT n l).A (laidT n l).b (artG n l.length) k = artG n l.length k := by
        unfold zc
        rw [sm_zero fun i hi => by rw [hb i hi]; unfold artG; rw [if_neg (by omega)]; grind]; grind
      rw [e1]
      unfold artG
      by_cases e2 : k = 2 * n + l.length
      · rw [e2, upd_same, if_pos rfl]
      · rw [upd_other _ e2, if_neg e2, hA _ (Nat.le_refl _) k hk, hm]
    obtain ⟨A1, hA1⟩ : ∃ A1, A1 = upd (laidT n l).A l.length (upd ((laidT n l).A l.length) (2 * n + l.length) (-1)) := ⟨_, rfl⟩
    rw [← hA1] at R1
    have hA1r : ∀ j, j < l.length → A1 j = (laidT n l).A j := fun j hj => by rw [hA1, upd_other _ (by omega)]
    have h0 : A1 w (2 * n + l.length) ≠ 0 := by rw [hA1r w w1, hpv]; decide +kernel
    obtain ⟨T1, hT1⟩ : ∃ T1, T1 = tab n l.length (pivA A1 w (2 * n + l.length)) (upd (laidT n l).b w (2 * n + l.length)) := ⟨_, rfl⟩
    have pA : ∀ j, j ≤ l.length → ∀ k, k ≤ wdt n l.length → T1.A j k = pivA A1 w (2 * n + l.length) j k := fun j hj k hk => by rw [hT1]; exact tab_A _ _ hj hk
    have pb : ∀ i, i < l.length → T1.b i = upd (laidT n l).b w (2 * n + l.length) i := fun i hi => by rw [hT1]; exact tab_b _ _ hi
    have R2 := R1.piv w1 (by unfold wdt; omega) h0 pA pb
    have hf2 : ∀ i, i < l.length → 0 ≤ T1.A i (wdt n l.length) := fun i hi => by
      rw [pA i (by omega) _ (Nat.le_refl _)]
      by_cases e1 : i = w
      · subst e1
        rw [piv_r, hA1r i hi, hpv]
        grind
      · have e2 : (laidT n l).A i (2 * n + l.length) = -1 := by rw [hA i (by omega) _ (by unfold wdt; omega)]; exact L.art i hi
        have e3 := w3 i hi
        rw [piv_row e1, hA1r i hi, hA1r w w1, e2, hpv]
        grind
    obtain ⟨f, ok, T2, hcl, hE, _⟩ := climb_end (e := e) (ban := none) L hc.art1 hF T1 R2 hf2 (fun _ => True) trivial (fun _ _ _ _ _ _ _ => trivial)
    have hok : ok = true := by
      cases ok with
      | true => rfl
      | false =>
        obtain ⟨q, q1, _, q3, q4⟩ := hE.free rfl
        exact (art_ended hE.rep q1 q3 q4).elim
    subst hok
    have hs2 : ∀ j, j ≤ l.length → ∀ k, k ≤ wdt n l.length → Bq e (T2.A j k) := fun j hj k hk => hE.rep.small L hc.art1 hF hj hk
    have hrc : ∀ d, readyC e n l.length (f + d) (laidT n l) = if T2.A l.length (wdt n l.length) ≠ 0 then some (false, T2) else some (true, outT n l.length T2) := fun d => by
      unfold readyC
      rw [if_neg hsm0, hw]
      simp only
      rw [wd1, if_neg (by rw [hpv]; decide +kernel), ← hA1, ← hT1, hcl d]
    by_cases h1 : T2.A l.length (wdt n l.length) ≠ 0
    · refine ⟨f, false, T2, fun d => ?_, fun _ => ⟨hE, h1⟩, (fun e => by cases e), hs2⟩
      unfold readyT
      rw [hrc d, if_pos h1]
      simp only
      rw [if_pos (smallT_of hs2)]
    · have h2 : T2.A l.length (wdt n l.length) = 0 := by simpa using h1
      obtain ⟨o1, o2, o3⟩ := out_end hE.rep hE.feas h2
      have hs3 : ∀ j, j ≤ l.length → ∀ k, k ≤ wdt n l.length → Bq e ((outT n l.length T2).A j k) := fun j hj k hk => o1.small L hc.art1 hF hj hk
      refine ⟨f, true, outT n l.length T2, fun d => ?_, (fun e => by cases e), fun _ => ⟨⟨_, o1⟩, o2, o3⟩, hs3⟩
      unfold readyT
      rw [hrc d, if_neg h1]
      simp only
      rw [if_pos (smallT_of hs3)]
/-- What the goal has left when the first i rows are taken out. -/
def pz (n : Nat) (A : Mx) (b : Nat → Nat) (goal : List Rat) (i k : Nat) : Rat := goalF n goal k - sm i fun j => A j k * goalF n goal (b j)
theorem bq_neg {k : Nat} {q : Rat} (h : Bq k q) : Bq k (-q) := by
  unfold Bq at *; rw [Rat.neg_num, Rat.neg_den, Int.natAbs_neg]; exact h
theorem goalF_bq {n e : Nat} {goal : List Rat} (h : ∀ x ∈ goal, Bq e x) (he : 1 ≤ e) (k : Nat) : Bq e (goalF n goal k) := by
  have h1 : ∀ k, Bq e (nth goal k) := fun k => by
    unfold nth
    by_cases hk : k < goal.length
    · rw [show goal.getD k 0 = goal[k] by simp [hk]]; exact h _ (List.getElem_mem hk)
    · rw [show goal.getD k 0 = 0 by simp [Nat.not_lt.1 hk]]; exact Bq_nil.mono he
  unfold goalF
  split
  · exact h1 k
  · split
    · exact bq_neg (h1 _)
    · exact Bq_nil.mono he
section
variable {n e : Nat} {l : List BQ} {A : Mx} {b : Nat → Nat} {c : Nat → Rat} {goal : List Rat} {Q : Rat}
theorem pz_bq (h : Inv n l.length (laidA n l) A b) (hc : Szd n l.length (laidA n l) (goalF n goal) Q) (hF : Fits n l.length Q e) (hg : ∀ x ∈ goal, Bq e x) (he : 1 ≤ e) {i k : Nat} (hi : i ≤ l.length) (hk : k ≤ wdt n l.length) : Bq e (pz n A b goal i k) := by
  by_cases hex : ∃ i', i ≤ i' ∧ i' < l.length ∧ b i' = k
  · obtain ⟨i', h1, h2, rfl⟩ := hex
    have e1 : pz n A b goal i (b i') = goalF n goal (b i') := by
      unfold pz
      rw [sm_zero fun j hj => by rw [h.bas.zer i' j h2 (by omega) (by omega), Rat.zero_mul]]; grind
    rw [e1]; exact goalF_bq hg he _
  · obtain ⟨c', hc'⟩ : ∃ c' : Nat → Rat, c' = fun j => if ((List.range l.length).any fun i' => decide (i ≤ i') && decide (b i' = j)) = true then 0 else goalF n goal j := ⟨_, rfl⟩
    have hany : ∀ j, ((List.range l.length).any fun i' => decide (i ≤ i') && decide (b i' = j)) = true ↔ ∃ i', i' < l.length ∧ i ≤ i' ∧ b i' = j := fun j => by simp
    have hor : ∀ j, c' j = goalF n goal j ∨ c' j = 0 := fun j => by
      rw [hc']; simp only
      split
      · exact Or.inr rfl
      · exact Or.inl rfl
    have hz : ∀ j, goalF n goal j = 0 → c' j = 0 := fun j h0 => by
      rcases hor j with h1 | h1
      · rw [h1, h0]
      · exact h1
    have hart : goalF n goal (2 * n + l.length) = 0 := by unfold goalF; rw [if_neg (by omega), if_neg (by omega)]
    have hS : Szd n l.length (laidA n l) c' Q := hc.less (fun j hj => hz _ (hc.slk j hj)) (by rw [hz _ hart]; exact ⟨0, rfl⟩) (by rw [hz _ hart]; decide +kernel) fun k _ => hor k
    have hb := h.size (laid_of n l) hS hF hk (j := 0) (by omega)
    have e1 : ys l.length A b c' k 0 = pz n A b goal i k := by
      show zc l.length A b c' k = _
      unfold zc pz
      have e2 : c' k = goalF n goal k := by
        rw [hc']; simp only
        rw [if_neg (by rw [hany]; rintro ⟨i', h1, h2, h3⟩; exact hex ⟨i', h2, h1, h3⟩)]
      have e3 : sm l.length (fun j => A j k * c' (b j)) = sm i fun j => A j k * goalF n goal (b j) := by
        rw [show l.length = i + (l.length - i) by omega, sm_split]
        rw [sm_zero (n := l.length - i) fun j hj => by
          rw [hc']; simp only
          rw [if_pos (by rw [hany]; exact ⟨i + j, by omega, by omega, rfl⟩), Rat.mul_zero]]
        rw [sm_congr (g := fun j => A j k * goalF n goal (b j)) fun j hj => by
          rw [hc']; simp only
          rw [if_neg (by
            rw [hany]
            rintro ⟨i', h1, h2, h3⟩
            have := h.bas.inj h1 (by omega) h3
            omega)]]
        grind
      rw [e2, e3]
    rw [← e1]; exact hb
theorem aim_end (h : Inv n l.length (laidA n l) A b) (hc : Szd n l.length (laidA n l) (goalF n goal) Q) (hF : Fits n l.length Q e) (hg : ∀ x ∈ goal, Bq e x) (he : 1 ≤ e) :
    ∀ i, i ≤ l.length → ∃ F : Nat → Rat, aimT e n l.length A b goal i = some ((List.range (wdt n l.length + 1)).map F) ∧ ∀ k, k ≤ wdt n l.length → F k = pz n A b goal i k
  | 0, _ => ⟨goalF n goal, rfl, fun k _ => by unfold pz; simp only [sm]; grind⟩
  | i + 1, hi => by
    obtain ⟨F, h1, h2⟩ := aim_end h hc hF hg he i (by omega)
    have hsm : smallL e ((List.range (wdt n l.length + 1)).map F) = true := by
      unfold smallL
      rw [List.all_eq_true]
      intro x hx
      obtain ⟨k, hk, rfl⟩ := List.mem_map.1 hx
      have hk := List.mem_range.1 hk
      rw [h2 k (by omega)]
      exact bq_small (pz_bq h hc hF hg he (by omega) (by omega))
    have hbi := h.bas.lt i (by omega)
    refine ⟨fun k => nth ((List.range (wdt n l.length + 1)).map F) k - nth ((List.range (wdt n l.length + 1)).map F) (b i) * A i k, ?_, fun k hk => ?_⟩
    · rw [aimT, h1]
      simp only
      rw [if_pos hsm]
    · have e1 : pz n A b goal i (b i) = goalF n goal (b i) := by
        unfold pz
        rw [sm_zero fun j hj => by rw [h.bas.zer i j (by omega) (by omega) (by omega), Rat.zero_mul]]; grind
      show nth ((List.range (wdt n l.length + 1)).map F) k - nth ((List.range (wdt n l.length + 1)).map F) (b i) * A i k = _
      rw [nth_range _ (show k < wdt n l.length + 1 by omega), nth_range _ (show b i < wdt n l.length + 1 by omega), h2 k hk, h2 _ (by omega), e1]
      unfold pz
      rw [sm]; grind
theorem point_bq (h : Inv n l.length (laidA n l) A b) (hA : ∀ j, j ≤ l.length → ∀ k, k ≤ wdt n l.length → Bq e (A j k)) (he : 1 ≤ e) {k : Nat} (hk : k < n) : Bq e (M.pointF n l.length A b k) := by
  rw [h.pointF]
  by_cases h1 : ∃ i, i < l.length ∧ b i = k
  · obtain ⟨i, hi, e1⟩ := h1
    rw [bv_off (k := n + k) _ fun j hj e2 => h.nopair (laid_of n l) hk hi hj e1 e2, ← e1, bv_at h.bas _ hi]
    rw [show A i (wdt n l.length) - 0 = A i (wdt n l.length) by grind]
    exact hA i (by omega) _ (Nat.le_refl _)
  · rw [bv_off (k := k) _ fun j hj e2 => h1 ⟨j, hj, e2⟩]
    by_cases h2 : ∃ i, i < l.length ∧ b i = n + k
    · obtain ⟨i, hi, e1⟩ := h2
      rw [← e1, bv_at h.bas _ hi, show 0 - A i (wdt n l.length) = - A i (wdt n l.length) by grind]
      exact bq_neg (hA i (by omega) _ (Nat.le_refl _))
    · rw [bv_off (k := n + k) _ fun j hj e2 => h2 ⟨j, hj, e2⟩]
      rw [show (0 : Rat) - 0 = 0 by grind]
      exact Bq_nil.mono he
theorem weight_bq (hA : ∀ j, j ≤ l.length → ∀ k, k ≤ wdt n l.length → Bq e (A j k)) : ∀ x ∈ (List.range l.length).map (weightF n l.length A), Bq e x := fun x hx => by
  obtain ⟨i, hi, rfl⟩ := List.mem_map.1 hx
  unfold weightF
  have h1 := List.mem_range.1 hi
  exact bq_neg (hA _ (Nat.le_refl _) (2 * n + i) (by unfold wdt; omega))
end
/-- What 'mostT' finds. -/
def Found (e n : Nat) (l : List BQ) (goal : List Rat) : (Rat × List Rat × List Rat) ⊕ Nat → Prop
  | .inl (v, p, w) => Optim n l goal v p w ∧ (∀ x ∈ p, Bq e x) ∧ (∀ x ∈ w, Bq e x) ∧ ∃ A b, Inv n l.length (laidA n l) A b ∧ v = - zc l.length A b (goalF n goal) (wdt n l.length)
  | .inr k => (k = 6 ∧ ∃ w, Contra n l w) ∨ (k = 14 ∧ NoEnd n l goal)
/-- The simplex decides. -/
theorem most_end {n e : Nat} {l : List BQ} {goal : List Rat} {Q : Rat} (hc : Szd n l.length (laidA n l) (goalF n goal) Q) (hF : Fits n l.length Q e) (hg : ∀ x ∈ goal, Bq e x) (he : 1 ≤ e) :
    ∃ f r, mostT e f n l goal = some r ∧ Found e n l goal r := by
  have L := laid_of n l
  obtain ⟨f1, ok, T, h1, h2, h3, _⟩ := ready_end hc hF
  cases ok with
  | false =>
    obtain ⟨a1, a2⟩ := h2 rfl
    refine ⟨f1, .inr 6, ?_, Or.inl ⟨rfl, _, contra_of a1 a2⟩⟩
    have := h1 0
    rw [Nat.add_zero] at this
    unfold mostT
    rw [this]
  | true =>
    obtain ⟨⟨c', R⟩, hf, hna⟩ := h3 rfl
    obtain ⟨F, g1, g2⟩ := aim_end R.inv hc hF hg he l.length (Nat.le_refl _)
    obtain ⟨T3, hT3⟩ : ∃ T3, T3 = tab n l.length (upd T.A l.length (nth ((List.range (wdt n l.length + 1)).map F))) T.b := ⟨_, rfl⟩
    have pA : ∀ j, j < l.length → ∀ k, k ≤ wdt n l.length → T3.A j k = T.A j k := fun j hj k hk => by rw [hT3, tab_A _ _ (by omega) hk, upd_other _ (by omega)]
    have pb : ∀ i, i < l.length → T3.b i = T.b i := fun i hi => by rw [hT3]; exact tab_b _ _ hi
    have R3 : Rep n l.length (laidA n l) T3.A T3.b (goalF n goal) := R.regoal pA pb fun k hk => by
      rw [hT3, tab_A _ _ (Nat.le_refl _) hk, upd_same, nth_range _ (by omega), g2 k hk]
      rfl
    have hna3 : NoArt n l.length T3 := by
      rcases hna with h | ⟨r, a1, a2, a3, a4⟩
      · exact Or.inl fun i hi => by rw [pb i hi]; exact h i hi
      · exact Or.inr ⟨r, a1, by rw [pb r a1]; exact a2, by rw [pA r a1 _ (Nat.le_refl _)]; exact a3, fun k hk => by rw [pA r a1 k (by unfold wdt; omega)]; exact a4 k hk⟩
    obtain ⟨f2, ok2, T4, hcl, hE, hna4⟩ := climb_end (e := e) (ban := some (2 * n + l.length)) L hc hF T3 R3 (fun i hi => by rw [pA i hi _ (Nat.le_refl _)]; exact hf i hi) (NoArt n l.length) hna3 (fun _ _ _ hp _ _ s => noart_step hp s)
    have hA4 : ∀ j, j ≤ l.length → ∀ k, k ≤ wdt n l.length → Bq e (T4.A j k) := fun j hj k hk => hE.rep.small L hc hF hj hk
    have hpb : ∀ x ∈ (List.range n).map (M.pointF n l.length T4.A T4.b), Bq e x := fun x hx => by
      obtain ⟨k, hk, rfl⟩ := List.mem_map.1 hx
      exact point_bq hE.rep.inv hA4 he (List.mem_range.1 hk)
    have hsp : smallL e ((List.range n).map (M.pointF n l.length T4.A T4.b)) = true := by
      unfold smallL
      rw [List.all_eq_true]
      exact fun x hx => bq_small (hpb x hx)
    have hm : mostT e (f1 + f2) n l goal = if ok2 = true then some (.inl (dotP goal ((List.range n).map (M.pointF n l.length T4.A T4.b)) n, (List.range n).map (M.pointF n l.length T4.A T4.b), (List.range l.length).map (weightF n l.length T4.A))) else some (.inr 14) := by
      have hcl1 := hcl f1
      rw [show f2 + f1 = f1 + f2 by omega] at hcl1
      unfold mostT
      rw [h1 f2]
      simp only
      rw [g1]
      simp only
      rw [wd1, ← hT3, hcl1]
      simp only
      rw [if_pos hsp]
    cases ok2 with
    | true =>
      refine ⟨_, _, hm, optim_of hE hna4, hpb, weight_bq hA4, T4.A, T4.b, hE.rep.inv, ?_⟩
      have hD : goalF n goal (wdt n l.length) = 0 := by unfold goalF wdt; rw [if_neg (by omega), if_neg (by omega)]
      have h5 := hE.rep.pt.2
      rw [point_goal hE.rep.inv, ← hE.rep.goal (Nat.le_refl _)]
      rw [hD] at h5
      grind
    | false => exact ⟨_, _, hm, Or.inr ⟨rfl, noend_of hE hna4⟩⟩
theorem feas_end {n e : Nat} {l : List BQ} {c : Nat → Rat} {Q : Rat} (hc : Szd n l.length (laidA n l) c Q) (hF : Fits n l.length Q e) (he : 1 ≤ e) :
    ∃ f r, feasT e f n l = some r ∧ match r with
      | .inl p => Keeps n l p ∧ ∀ x ∈ p, Bq e x
      | .inr w => Contra n l w ∧ ∀ x ∈ w, Bq e x := by
  obtain ⟨f, ok, T, h1, h2, h3, hA⟩ := ready_end hc hF
  have h0 := h1 0
  rw [Nat.add_zero] at h0
  cases ok with
  | false =>
    obtain ⟨a1, a2⟩ := h2 rfl
    exact ⟨f, .inr ((List.range l.length).map (weightF n l.length T.A)), by unfold feasT; rw [h0], contra_of a1 a2, weight_bq hA⟩
  | true =>
    obtain ⟨⟨c', R⟩, hf, hna⟩ := h3 rfl
    exact ⟨f, .inl ((List.range n).map (M.pointF n l.length T.A T.b)), by unfold feasT; rw [h0], point_keeps R.inv hf (hna.pt R.inv.bas), fun x hx => by
      obtain ⟨k, hk, rfl⟩ := List.mem_map.1 hx
      exact point_bq R.inv hA he (List.mem_range.1 hk)⟩
end Sx
end Go.Proofs.YtfcffheboncmbaaGreatDoor
end
section
namespace Go.Proofs.YtfcffheboncmbaaGreatDoor
open Go
namespace Sx
open M
/-- A number of at most eight characters. -/
def Sq (q : Rat) : Prop := q.num.natAbs < 10 ^ 8 ∧ q.den < 10 ^ 6
theorem Sq.bq {q : Rat} (h : Sq q) : Bq 8 q := ⟨h.1, Nat.lt_trans h.2 (by decide)⟩
theorem Sq.neg {q : Rat} (h : Sq q) : Sq (-q) := by
  unfold Sq at *; rw [Rat.neg_num, Rat.neg_den, Int.natAbs_neg]; exact h
theorem Sq.zero : Sq 0 := by unfold Sq; decide +kernel
theorem IsI.pf : ∀ {n : Nat} {f : Nat → Rat}, (∀ k, k < n → IsI (f k)) → IsI (pf n f)
  | 0, _, _ => ⟨1, rfl⟩
  | n + 1, f, h => by rw [Sx.pf]; exact (h 0 (by omega)).mul (IsI.pf fun k hk => h (k + 1) (by omega))
theorem sm_const (m : Nat) (K : Rat) : sm m (fun _ => K) = (m : Rat) * K := by
  induction m with
  | zero => simp only [sm]; rw [show ((0 : Nat) : Rat) = 0 from rfl]; grind
  | succ m ih => rw [sm, ih, Rat.natCast_add, show ((1 : Nat) : Rat) = 1 from rfl]; grind
theorem pf_cast (n a : Nat) : pf n (fun _ => (a : Rat)) = ((a ^ n : Nat) : Rat) := by
  induction n with
  | zero => rfl
  | succ n ih => rw [pf, ih, Nat.pow_succ, Rat.natCast_mul]; grind
/-- Bounds on n unknowns with short numbers. -/
def RightS (n : Nat) (l : List BQ) : Prop := ∀ b ∈ l, b.1.length = n ∧ (∀ x ∈ b.1, Sq x) ∧ Sq b.2
theorem RightS.right {n : Nat} {l : List BQ} (h : RightS n l) : RightB n l := fun b hb => ⟨(h b hb).1, fun x hx => ((h b hb).2.1 x hx).bq, (h b hb).2.2.bq⟩
theorem getD_mem {l : List BQ} {j : Nat} (hj : j < l.length) : l.getD j ([], 0) ∈ l := by
  rw [show l.getD j ([], 0) = l[j] by simp [hj]]; exact List.getElem_mem hj
theorem fits_of {n m e : Nat} {Q : Nat} (h : m + 1 ≤ Q) (h2 : Q ^ n * (m + 1) * Q < 10 ^ e ∨ Q ^ m * Q < 10 ^ e) : Fits n m ((Q : Nat) : Rat) e := by
  refine ⟨Rat.natCast_le_natCast.2 h, ?_⟩
  rw [pf_cast, pf_cast, ← Rat.natCast_mul, ← Rat.natCast_mul, ← Rat.natCast_mul]
  rcases h2 with h2 | h2
  · exact Or.inl (Rat.natCast_lt_natCast.2 h2)
  · exact Or.inr (Rat.natCast_lt_natCast.2 h2)
section
variable {n : Nat} {l : List BQ} {goal p q w : List Rat} {v : Rat}
theorem sum_rows (l : List BQ) (w p : List Rat) (n : Nat) : sm l.length (fun j => nth w j * dotP (l.getD j ([], 0)).1 p n) = sm n fun k => wrow l w l.length k * nth p k := by
  have e1 : sm l.length (fun j => nth w j * dotP (l.getD j ([], 0)).1 p n) = sm l.length (fun j => sm n fun k => nth w j * nth (l.getD j ([], 0)).1 k * nth p k) := sm_congr fun j _ => by
    rw [dotP_sm, ← sm_mul]
    exact sm_congr fun k _ => by grind
  rw [e1, sm_swap]
  exact sm_congr fun k _ => by rw [wrow_sm, ← sm_mul_right]
theorem nth_nonneg (h : ∀ x ∈ w, 0 ≤ x) (j : Nat) : 0 ≤ nth w j := by
  unfold nth
  by_cases hk : j < w.length
  · rw [show w.getD j 0 = w[j] by simp [hk]]; exact h _ (List.getElem_mem hk)
  · rw [show w.getD j 0 = 0 by simp [Nat.not_lt.1 hk]]; exact Rat.le_refl
/-- Weights bound what their rows add up to. -/
theorem weak (hp : ∀ b ∈ l, dotP b.1 p n ≤ b.2) (hw : ∀ x ∈ w, 0 ≤ x) : sm n (fun k => wrow l w l.length k * nth p k) ≤ wmost l w l.length := by
  rw [← sum_rows, wmost_sm]
  exact sm_le fun j hj => Rat.mul_le_mul_of_nonneg_left (hp _ (getD_mem hj)) (nth_nonneg hw j)
/-- No point keeps bounds that weights contradict. -/
theorem keeps_contra (hp : Keeps n l p) (hw : Contra n l w) : False := by
  have h1 := weak hp.2 hw.2.1
  rw [sm_zero fun k hk => by rw [hw.2.2.1 k hk, Rat.zero_mul]] at h1
  have := hw.2.2.2
  grind
/-- No point has a greater value than an optimum. -/
theorem Optim.le {p' : List Rat} (h : Optim n l goal v p w) (hp : Keeps n l p') : dotP goal p' n ≤ v := by
  have h1 := weak hp.2 h.2.2.2.1
  rw [sm_congr (g := fun k => nth goal k * nth p' k) fun k hk => by rw [h.2.2.2.2.1 k hk], h.2.2.2.2.2] at h1
  rw [dotP_sm]; exact h1
theorem Optim.keeps (h : Optim n l goal v p w) : Keeps n l p := h.1
end
end Sx
end Go.Proofs.YtfcffheboncmbaaGreatDoor
end
section
namespace Go.Proofs.YtfcffheboncmbaaGreatDoor
open Go
namespace Sx
open M
section
variable {n e : Nat} {l : List BQ} {goal : List Rat} {r : (Rat × List Rat × List Rat) ⊕ Nat}
/-- The cases of an outcome. -/
theorem Found.cases (h : Found e n l goal r) : (∃ v p w, r = .inl (v, p, w) ∧ Optim n l goal v p w) ∨ (r = .inr 6 ∧ ∃ w, Contra n l w) ∨ (r = .inr 14 ∧ NoEnd n l goal) := by
  match r, h with
  | .inl (v, p, w), h => exact Or.inl ⟨v, p, w, rfl, h.1⟩
  | .inr k, h =>
    rcases h with ⟨rfl, h⟩ | ⟨rfl, h⟩
    · exact Or.inr (Or.inl ⟨rfl, h⟩)
    · exact Or.inr (Or.inr ⟨rfl, h⟩)
end
section
variable {n : Nat} {l : List BQ} {goal y : List Rat}
end
end Sx
end Go.Proofs.YtfcffheboncmbaaGreatDoor
end
section
namespace Go.Proofs.YtfcffheboncmbaaGreatDoor
open Go Go.RowKit Go.Deep Go.Sort
namespace W
open M Sx
end W
end Go.Proofs.YtfcffheboncmbaaGreatDoor
end
