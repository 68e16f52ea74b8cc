/-
  Short numbers, plain: bounds with short numbers are decided; weak duality.
  Outcomes of the simplex, plain: each excludes the others; the dual program.
  Chapter 5: 'Most' of the program decides: for few bounds with short numbers, and for the dual program.
  Chapter 5's laws: lists of bounds that are copied and appended to.
  How long the greatest value can be, plain: the rows brought to whole numbers first.
-/
import Derived.Test.YtijpgddpejiohaaGreatDoorLT
import Derived.Test.YtijpgddpejiohaaGreatDoorLR
section
namespace Go.Proofs.YtijpgddpejiohaaGreatDoor
open Go
namespace Sx
open M
/-- A number of at most eight characters. -/
def Sq (q : Rat) : Prop := q.num.natAbs < 10 ^ 8 ∧ q.den < 10 ^ 6
theorem Sq.bq {q : Rat} (h : Sq q) : Bq 8 q := ⟨h.1, Nat.lt_trans h.2 (by decide)⟩
theorem Sq.neg {q : Rat} (h : Sq q) : Sq (-q) := by
  unfold Sq at *; rw [Rat.neg_num, Rat.neg_den, Int.natAbs_neg]; exact h
theorem Sq.zero : Sq 0 := by unfold Sq; decide +kernel
theorem IsI.pf : ∀ {n : Nat} {f : Nat → Rat}, (∀ k, k < n → IsI (f k)) → IsI (pf n f)
  | 0, _, _ => ⟨1, rfl⟩
  | n + 1, f, h => by rw [Sx.pf]; exact (h 0 (by omega)).mul (IsI.pf fun k hk => h (k + 1) (by omega))
theorem num_den (q : Rat) : (q.den : Rat) * q = (q.num : Rat) := by
  have h : (q.num : Rat) / (q.den : Rat) = q := by
    have h1 := Rat.num_divInt_den q
    rw [Rat.divInt_eq_div] at h1
    exact h1
  have hd : (q.den : Rat) ≠ 0 := by
    have := Rat.natCast_pos.2 q.den_pos
    grind
  have : q = (q.num : Rat) / (q.den : Rat) := h.symm
  grind
theorem one_le_pf : ∀ {n : Nat} {f : Nat → Rat}, (∀ k, k < n → 1 ≤ f k) → 1 ≤ pf n f
  | 0, _, _ => Rat.le_refl
  | n + 1, f, h => by
    rw [pf]
    have h0 := h 0 (by omega)
    have h1 : 1 ≤ pf n fun k => f (k + 1) := one_le_pf fun k hk => h (k + 1) (by omega)
    have h2 := Rat.mul_le_mul_of_nonneg_right h0 (show 0 ≤ pf n fun k => f (k + 1) by grind)
    grind
/-- A column of short numbers has a common denominator. -/
theorem col_short {m : Nat} (x β : Nat → Rat) (K : Rat) (h : ∀ r, r < m + 1 → ((x r).den : Rat) ≤ β r ∧ ((x r).num.natAbs : Rat) ≤ ((10 ^ 8 : Nat) : Rat)) (hK : ∀ r, r < m + 1 → ((10 ^ 8 : Nat) : Rat) * pf (m + 1) (upd β r 1) ≤ K) :
    ∃ σ : Rat, IsI σ ∧ 1 ≤ σ ∧ σ ≤ pf (m + 1) β ∧ (∀ r, r < m + 1 → IsI (σ * x r)) ∧ ∀ r, r < m + 1 → ab (σ * x r) ≤ K := by
  have hd1 : ∀ r, 1 ≤ ((x r).den : Rat) := fun r => by
    have := Rat.natCast_le_natCast.2 (x r).den_pos
    exact this
  have hdI : ∀ r, IsI ((x r).den : Rat) := fun r => ⟨((x r).den : Int), rfl⟩
  have hx : ∀ r, r < m + 1 → pf (m + 1) (fun r => ((x r).den : Rat)) * x r = pf (m + 1) (upd (fun r => ((x r).den : Rat)) r 1) * ((x r).num : Rat) := fun r hr => by
    have h1 := pf_upd (n := m + 1) (fun r => ((x r).den : Rat)) hr 1
    rw [← num_den (x r)]
    have h2 : pf (m + 1) (upd (fun r => ((x r).den : Rat)) r 1) * ((x r).den : Rat) * x r = pf (m + 1) (fun r => ((x r).den : Rat)) * 1 * x r := by rw [h1]
    grind
  have hui : ∀ r, IsI (pf (m + 1) (upd (fun r => ((x r).den : Rat)) r 1)) := fun r => IsI.pf fun k _ => by
    by_cases e : k = r
    · subst e; rw [upd_same]; exact ⟨1, rfl⟩
    · rw [upd_other _ e]; exact hdI k
  have hu0 : ∀ r, 0 ≤ pf (m + 1) (upd (fun r => ((x r).den : Rat)) r 1) ∧ (r < m + 1 → pf (m + 1) (upd (fun r => ((x r).den : Rat)) r 1) ≤ pf (m + 1) (upd β r 1)) := fun r => by
    have h1 : ∀ k, 0 ≤ upd (fun r => ((x r).den : Rat)) r 1 k := fun k => by
      by_cases e : k = r
      · subst e; rw [upd_same]; decide +kernel
      · rw [upd_other _ e]; have := hd1 k; grind
    refine ⟨pf_nonneg fun k _ => h1 k, fun _ => pf_le fun k hk => ⟨h1 k, ?_⟩⟩
    by_cases e : k = r
    · subst e; rw [upd_same, upd_same]; exact Rat.le_refl
    · rw [upd_other _ e, upd_other _ e]; exact (h k hk).1
  refine ⟨pf (m + 1) fun r => ((x r).den : Rat), IsI.pf fun k _ => hdI k, one_le_pf fun k _ => hd1 k, pf_le fun k hk => ⟨by have := hd1 k; grind, (h k hk).1⟩, fun r hr => ?_, fun r hr => ?_⟩
  · rw [hx r hr]; exact (hui r).mul ⟨_, rfl⟩
  · rw [hx r hr, ab_mul, ab_int]
    have e1 : ab (pf (m + 1) (upd (fun r => ((x r).den : Rat)) r 1)) = pf (m + 1) (upd (fun r => ((x r).den : Rat)) r 1) := by unfold ab; rw [if_pos (hu0 r).1]
    rw [e1]
    have a1 := Rat.mul_le_mul_of_nonneg_left (h r hr).2 (hu0 r).1
    have a2 := Rat.mul_le_mul_of_nonneg_right ((hu0 r).2 hr) (show (0 : Rat) ≤ ((10 ^ 8 : Nat) : Rat) from Rat.natCast_nonneg)
    have a3 := hK r hr
    grind
theorem sm_const (m : Nat) (K : Rat) : sm m (fun _ => K) = (m : Rat) * K := by
  induction m with
  | zero => simp only [sm]; rw [show ((0 : Nat) : Rat) = 0 from rfl]; grind
  | succ m ih => rw [sm, ih, Rat.natCast_add, show ((1 : Nat) : Rat) = 1 from rfl]; grind
theorem pf_cast (n a : Nat) : pf n (fun _ => (a : Rat)) = ((a ^ n : Nat) : Rat) := by
  induction n with
  | zero => rfl
  | succ n ih => rw [pf, ih, Nat.pow_succ, Rat.natCast_mul]; grind
/-- The size of the columns of m bounds with short numbers. -/
def capN (m : Nat) : Nat := (m + 1) * (10 ^ 8 * 10 ^ (6 * m))
theorem pf_upd6 {m r : Nat} (hr : r < m + 1) : pf (m + 1) (upd (fun _ => ((10 ^ 6 : Nat) : Rat)) r 1) = ((10 ^ (6 * m) : Nat) : Rat) := by
  have h1 := pf_upd (n := m + 1) (fun _ => ((10 ^ 6 : Nat) : Rat)) hr 1
  rw [pf_cast, ← Nat.pow_mul, show 6 * (m + 1) = 6 * m + 6 by omega, Nat.pow_add, Rat.natCast_mul] at h1
  have h2 : ((10 ^ 6 : Nat) : Rat) ≠ 0 := by decide +kernel
  grind
theorem sq_cast {q : Rat} (h : Sq q) : (q.den : Rat) ≤ ((10 ^ 6 : Nat) : Rat) ∧ (q.num.natAbs : Rat) ≤ ((10 ^ 8 : Nat) : Rat) :=
  ⟨Rat.natCast_le_natCast.2 (Nat.le_of_lt h.2), Rat.natCast_le_natCast.2 (Nat.le_of_lt h.1)⟩
/-- A column of m + 1 short numbers. -/
theorem col_few {m : Nat} (x : Nat → Rat) (h : ∀ r, r < m + 1 → Sq (x r)) :
    ∃ σ : Rat, IsI σ ∧ 1 ≤ σ ∧ σ ≤ ((capN m : Nat) : Rat) ∧ (∀ r, r < m + 1 → IsI (σ * x r)) ∧ sm (m + 1) (fun r => ab (σ * x r)) ≤ ((capN m : Nat) : Rat) := by
  obtain ⟨σ, h1, h2, h3, h4, h5⟩ := col_short x (fun _ => ((10 ^ 6 : Nat) : Rat)) (((10 ^ 8 * 10 ^ (6 * m) : Nat)) : Rat) (fun r hr => sq_cast (h r hr)) fun r hr => by rw [pf_upd6 hr, ← Rat.natCast_mul]; exact Rat.le_refl
  refine ⟨σ, h1, h2, Rat.le_trans h3 ?_, h4, ?_⟩
  · rw [pf_cast, ← Nat.pow_mul]
    refine Rat.natCast_le_natCast.2 ?_
    unfold capN
    rw [show 6 * (m + 1) = 6 * m + 6 by omega, Nat.pow_add]
    have : 0 < 10 ^ (6 * m) := Nat.pow_pos (by decide)
    have h6 : 10 ^ (6 * m) * 10 ^ 6 ≤ 10 ^ 8 * 10 ^ (6 * m) := by omega
    exact Nat.le_trans h6 (Nat.le_mul_of_pos_left _ (by omega))
  · have h6 := sm_le h5
    rw [sm_const, ← Rat.natCast_mul] at h6
    exact h6
/-- Bounds on n unknowns with short numbers. -/
def RightS (n : Nat) (l : List BQ) : Prop := ∀ b ∈ l, b.1.length = n ∧ (∀ x ∈ b.1, Sq x) ∧ Sq b.2
theorem RightS.right {n : Nat} {l : List BQ} (h : RightS n l) : RightB n l := fun b hb => ⟨(h b hb).1, fun x hx => ((h b hb).2.1 x hx).bq, (h b hb).2.2.bq⟩
theorem nth_sq {l : List Rat} (h : ∀ x ∈ l, Sq x) (k : Nat) : Sq (nth l k) := by
  unfold nth
  by_cases hk : k < l.length
  · rw [show l.getD k 0 = l[k] by simp [hk]]; exact h _ (List.getElem_mem hk)
  · rw [show l.getD k 0 = 0 by simp [Nat.not_lt.1 hk]]; exact Sq.zero
theorem getD_mem {l : List BQ} {j : Nat} (hj : j < l.length) : l.getD j ([], 0) ∈ l := by
  rw [show l.getD j ([], 0) = l[j] by simp [hj]]; exact List.getElem_mem hj
theorem szd_few {n : Nat} {l : List BQ} {goal : List Rat} (hr : RightS n l) (hg : ∀ x ∈ goal, Sq x) : Szd n l.length (laidA n l) (goalF n goal) ((capN l.length : Nat) : Rat) := by
  have hart : goalF n goal (2 * n + l.length) = 0 := by unfold goalF; rw [if_neg (by omega), if_neg (by omega)]
  refine ⟨fun j _ => by unfold goalF; rw [if_neg (by omega), if_neg (by omega)], by rw [hart]; exact ⟨0, rfl⟩, by rw [hart]; decide +kernel, ?_⟩
  have key : ∀ k, (k < 2 * n ∨ k = 2 * n + l.length + 1) → ∀ r, r < l.length + 1 → Sq (xt (laidA n l) (goalF n goal) k r) := fun k hk r hr2 => by
    cases r with
    | zero =>
      show Sq (goalF n goal k)
      unfold goalF
      split
      · exact nth_sq hg _
      · split
        · exact (nth_sq hg _).neg
        · exact Sq.zero
    | succ r =>
      show Sq (laidA n l r k)
      have hb := hr _ (getD_mem (show r < l.length by omega))
      unfold laidA wdt
      rw [if_pos (by omega)]
      split
      · exact nth_sq hb.2.1 _
      · split
        · exact (nth_sq hb.2.1 _).neg
        · rw [if_neg (by omega), if_neg (by omega), if_pos (by omega)]; exact hb.2.2
  refine ⟨fun k => if hk : k < 2 * n ∨ k = 2 * n + l.length + 1 then (col_few _ (key k hk)).choose else 1, fun k hk => ?_⟩
  simp only [dif_pos hk]
  exact (col_few _ (key k hk)).choose_spec
theorem fits_of {n m e : Nat} {Q : Nat} (h : m + 1 ≤ Q) (h2 : Q ^ n * (m + 1) * Q < 10 ^ e ∨ Q ^ m * Q < 10 ^ e) : Fits n m ((Q : Nat) : Rat) e := by
  refine ⟨Rat.natCast_le_natCast.2 h, ?_⟩
  rw [pf_cast, pf_cast, ← Rat.natCast_mul, ← Rat.natCast_mul, ← Rat.natCast_mul]
  rcases h2 with h2 | h2
  · exact Or.inl (Rat.natCast_lt_natCast.2 h2)
  · exact Or.inr (Rat.natCast_lt_natCast.2 h2)
theorem cap_pos (m : Nat) : m + 1 ≤ capN m := Nat.le_mul_of_pos_right _ (Nat.mul_pos (by decide) (Nat.pow_pos (by decide)))
theorem fitsA : ∀ n, n < 4 → ∀ m, m < 10 → (n = 3 → m < 8) → capN m ^ n * (m + 1) * capN m < 10 ^ 210 := by decide +kernel
theorem fitsB : ∀ m, m < 2 → capN m ^ m * capN m < 10 ^ 60 := by decide +kernel
/-- What 'Few' lets by, of right bounds. -/
def FewS (n m : Nat) : Prop := 1 ≤ n ∧ n ≤ 8 ∧ m ≤ 9 ∧ (n = 2 ∨ (m ≤ 7 ∧ n ≤ 3) ∨ m ≤ 1)
theorem fits_few {n m : Nat} (h : FewS n m) : ∃ e, e ≤ 210 ∧ 20 ≤ e ∧ (8 + e + 1) * n + 1 ≤ 1000 ∧ Fits n m ((capN m : Nat) : Rat) e := by
  obtain ⟨h1, h2, h3, h4⟩ := h
  by_cases hm : m ≤ 1
  · exact ⟨60, by decide, by decide, by omega, fits_of (cap_pos m) (Or.inr (fitsB m (by omega)))⟩
  · exact ⟨210, by decide, by decide, by omega, fits_of (cap_pos m) (Or.inl (fitsA n (by omega) m (by omega) (by omega)))⟩
/-- 'Most' and 'Feasible' decide few bounds with short numbers. -/
theorem most_few {n : Nat} {l : List BQ} {goal : List Rat} (hr : RightS n l) (hg : ∀ x ∈ goal, Sq x) (hf : FewS n l.length) :
    ∃ e f r, e ≤ 210 ∧ 20 ≤ e ∧ (8 + e + 1) * n + 1 ≤ 1000 ∧ mostT e f n l goal = some r ∧ Found e n l goal r := by
  obtain ⟨e, h1, h2, h3, h4⟩ := fits_few hf
  obtain ⟨f, r, h5, h6⟩ := most_end (szd_few hr hg) h4 (fun x hx => (hg x hx).bq.mono (by omega)) (by omega)
  exact ⟨e, f, r, h1, h2, h3, h5, h6⟩
section
variable {n : Nat} {l : List BQ} {goal p q w : List Rat} {v : Rat}
theorem sum_rows (l : List BQ) (w p : List Rat) (n : Nat) : sm l.length (fun j => nth w j * dotP (l.getD j ([], 0)).1 p n) = sm n fun k => wrow l w l.length k * nth p k := by
  have e1 : sm l.length (fun j => nth w j * dotP (l.getD j ([], 0)).1 p n) = sm l.length (fun j => sm n fun k => nth w j * nth (l.getD j ([], 0)).1 k * nth p k) := sm_congr fun j _ => by
    rw [dotP_sm, ← sm_mul]
    exact sm_congr fun k _ => by grind
  rw [e1, sm_swap]
  exact sm_congr fun k _ => by rw [wrow_sm, ← sm_mul_right]
theorem nth_nonneg (h : ∀ x ∈ w, 0 ≤ x) (j : Nat) : 0 ≤ nth w j := by
  unfold nth
  by_cases hk : j < w.length
  · rw [show w.getD j 0 = w[j] by simp [hk]]; exact h _ (List.getElem_mem hk)
  · rw [show w.getD j 0 = 0 by simp [Nat.not_lt.1 hk]]; exact Rat.le_refl
/-- Weights bound what their rows add up to. -/
theorem weak (hp : ∀ b ∈ l, dotP b.1 p n ≤ b.2) (hw : ∀ x ∈ w, 0 ≤ x) : sm n (fun k => wrow l w l.length k * nth p k) ≤ wmost l w l.length := by
  rw [← sum_rows, wmost_sm]
  exact sm_le fun j hj => Rat.mul_le_mul_of_nonneg_left (hp _ (getD_mem hj)) (nth_nonneg hw j)
theorem weak0 (hp : ∀ b ∈ l, dotP b.1 p n ≤ 0) (hw : ∀ x ∈ w, 0 ≤ x) : sm n (fun k => wrow l w l.length k * nth p k) ≤ 0 := by
  rw [← sum_rows]
  exact sm_nonpos fun j hj => by
    have := Rat.mul_le_mul_of_nonneg_left (hp _ (getD_mem hj)) (nth_nonneg hw j)
    grind
/-- No point keeps bounds that weights contradict. -/
theorem keeps_contra (hp : Keeps n l p) (hw : Contra n l w) : False := by
  have h1 := weak hp.2 hw.2.1
  rw [sm_zero fun k hk => by rw [hw.2.2.1 k hk, Rat.zero_mul]] at h1
  have := hw.2.2.2
  grind
/-- No point has a greater value than an optimum. -/
theorem Optim.le {p' : List Rat} (h : Optim n l goal v p w) (hp : Keeps n l p') : dotP goal p' n ≤ v := by
  have h1 := weak hp.2 h.2.2.2.1
  rw [sm_congr (g := fun k => nth goal k * nth p' k) fun k hk => by rw [h.2.2.2.2.1 k hk], h.2.2.2.2.2] at h1
  rw [dotP_sm]; exact h1
theorem Optim.keeps (h : Optim n l goal v p w) : Keeps n l p := h.1
/-- An optimum has an end. -/
theorem optim_noend (h : Optim n l goal v p w) (h2 : NoEnd n l goal) : False := by
  obtain ⟨p', q, _, _, hq, hp⟩ := h2
  have h1 := weak0 hq h.2.2.2.1
  rw [sm_congr (g := fun k => nth goal k * nth q k) fun k hk => by rw [h.2.2.2.2.1 k hk], ← dotP_sm] at h1
  grind
end
end Sx
end Go.Proofs.YtijpgddpejiohaaGreatDoor
end
section
namespace Go.Proofs.YtijpgddpejiohaaGreatDoor
open Go
namespace Sx
open M
section
variable {n e : Nat} {l : List BQ} {goal : List Rat} {r : (Rat × List Rat × List Rat) ⊕ Nat}
theorem Found.opt (h : Found e n l goal r) {v : Rat} {p w : List Rat} (ho : Optim n l goal v p w) : ∃ p' w', r = .inl (v, p', w') ∧ Optim n l goal v p' w' := by
  match r, h with
  | .inl (v', p', w'), h =>
    have h1 := ho.le h.1.keeps
    have h2 := h.1.le ho.keeps
    rw [h.1.2.1] at h1
    rw [ho.2.1] at h2
    have e1 : v' = v := Rat.le_antisymm h1 h2
    subst e1
    exact ⟨p', w', rfl, h.1⟩
  | .inr k, h =>
    rcases h with ⟨_, w', hw⟩ | ⟨_, hn⟩
    · exact (keeps_contra ho.keeps hw).elim
    · exact (optim_noend ho hn).elim
theorem Found.contra (h : Found e n l goal r) {w : List Rat} (hw : Contra n l w) : r = .inr 6 := by
  match r, h with
  | .inl (v', p', w'), h => exact (keeps_contra h.1.keeps hw).elim
  | .inr k, h =>
    rcases h with ⟨e1, _⟩ | ⟨_, p, _, hp, _⟩
    · rw [e1]
    · exact (keeps_contra hp hw).elim
theorem Found.noend (h : Found e n l goal r) (hn : NoEnd n l goal) : r = .inr 14 := by
  match r, h with
  | .inl (v', p', w'), h => exact (optim_noend h.1 hn).elim
  | .inr k, h =>
    rcases h with ⟨_, w, hw⟩ | ⟨e1, _⟩
    · obtain ⟨p, _, hp, _⟩ := hn
      exact (keeps_contra hp hw).elim
    · rw [e1]
/-- The cases of an outcome. -/
theorem Found.cases (h : Found e n l goal r) : (∃ v p w, r = .inl (v, p, w) ∧ Optim n l goal v p w) ∨ (r = .inr 6 ∧ ∃ w, Contra n l w) ∨ (r = .inr 14 ∧ NoEnd n l goal) := by
  match r, h with
  | .inl (v, p, w), h => exact Or.inl ⟨v, p, w, rfl, h.1⟩
  | .inr k, h =>
    rcases h with ⟨rfl, h⟩ | ⟨rfl, h⟩
    · exact Or.inr (Or.inl ⟨rfl, h⟩)
    · exact Or.inr (Or.inr ⟨rfl, h⟩)
end
/-- The dual program: its unknowns are the weights. -/
def unitL (m i : Nat) : List Rat := (zs m).set i (-1)
def colL (l : List BQ) (k : Nat) : List Rat := l.map fun b => nth b.1 k
def dualL (n : Nat) (l : List BQ) (goal : List Rat) : List BQ :=
  (List.range l.length).map (fun i => (unitL l.length i, 0)) ++ (List.range n).flatMap fun k => [(colL l k, nth goal k), ((colL l k).map (fun x => -x), - nth goal k)]
def leastL (l : List BQ) : List Rat := l.map fun b => - b.2
theorem unit_len (m i : Nat) : (unitL m i).length = m := by unfold unitL zs; simp
theorem nth_unit {m i k : Nat} (hk : k < m) : nth (unitL m i) k = if k = i then -1 else 0 := by
  unfold nth unitL zs
  rw [List.getD_eq_getElem?_getD, List.getElem?_set]
  by_cases e : i = k
  · rw [if_pos e, if_pos e.symm]
    simp [e, hk]
  · rw [if_neg e, if_neg (Ne.symm e)]
    simp [hk]
theorem nth_col (l : List BQ) {k j : Nat} (hj : j < l.length) : nth (colL l k) j = nth (l.getD j ([], 0)).1 k := by
  unfold colL
  rw [show nth (l.map fun b => nth b.1 k) j = (l.map fun b => nth b.1 k).getD j 0 from rfl]
  simp [hj]
theorem nth_negL (a : List Rat) (j : Nat) : nth (a.map fun x => -x) j = - nth a j := by
  unfold nth
  by_cases hj : j < a.length
  · simp [hj]
  · simp [Nat.not_lt.1 hj]
theorem nth_least (l : List BQ) {j : Nat} (hj : j < l.length) : nth (leastL l) j = - (l.getD j ([], 0)).2 := by
  unfold leastL
  rw [show nth (l.map fun b => - b.2) j = (l.map fun b => - b.2).getD j 0 from rfl]
  simp [hj]
section
variable {n : Nat} {l : List BQ} {goal y : List Rat}
theorem dot_unit {i : Nat} (hi : i < l.length) : dotP (unitL l.length i) y l.length = - nth y i := by
  rw [dotP_sm, sm_one hi fun j hj e => by rw [nth_unit hj, if_neg e, Rat.zero_mul], nth_unit hi, if_pos rfl]; grind
theorem dot_col (k : Nat) : dotP (colL l k) y l.length = wrow l y l.length k := by
  rw [dotP_sm, wrow_sm]
  exact sm_congr fun j hj => by rw [nth_col l hj]; grind
theorem dot_colneg (k : Nat) : dotP ((colL l k).map fun x => -x) y l.length = - wrow l y l.length k := by
  rw [← dot_col, dotP_sm, dotP_sm, ← sm_neg]
  exact sm_congr fun j hj => by rw [nth_negL]; grind
theorem dot_least : dotP (leastL l) y l.length = - wmost l y l.length := by
  rw [dotP_sm, wmost_sm, ← sm_neg]
  exact sm_congr fun j hj => by rw [nth_least l hj]; grind
theorem mem_dual {b : BQ} : b ∈ dualL n l goal ↔ (∃ i, i < l.length ∧ b = (unitL l.length i, 0)) ∨ ∃ k, k < n ∧ (b = (colL l k, nth goal k) ∨ b = ((colL l k).map (fun x => -x), - nth goal k)) := by
  unfold dualL
  rw [List.mem_append, List.mem_map, List.mem_flatMap]
  constructor
  · rintro (⟨i, hi, rfl⟩ | ⟨k, hk, hb⟩)
    · exact Or.inl ⟨i, List.mem_range.1 hi, rfl⟩
    · refine Or.inr ⟨k, List.mem_range.1 hk, ?_⟩
      simpa using hb
  · rintro (⟨i, hi, rfl⟩ | ⟨k, hk, hb⟩)
    · exact Or.inl ⟨i, List.mem_range.2 hi, rfl⟩
    · exact Or.inr ⟨k, List.mem_range.2 hk, by simpa using hb⟩
theorem pos_of_nth (h : ∀ i, i < y.length → 0 ≤ nth y i) : ∀ x ∈ y, 0 ≤ x := fun x hx => by
  obtain ⟨i, hi, rfl⟩ := List.getElem_of_mem hx
  have := h i hi
  unfold nth at this
  simpa [hi] using this
/-- Points of the dual program are weights that add up to the goal. -/
theorem dual_keeps : Keeps l.length (dualL n l goal) y ↔ y.length = l.length ∧ (∀ x ∈ y, 0 ≤ x) ∧ ∀ k, k < n → wrow l y l.length k = nth goal k := by
  constructor
  · rintro ⟨h1, h2⟩
    refine ⟨h1, pos_of_nth fun i hi => ?_, fun k hk => ?_⟩
    · have := h2 _ (mem_dual.2 (Or.inl ⟨i, by omega, rfl⟩))
      rw [dot_unit (by omega)] at this
      grind
    · have a := h2 _ (mem_dual.2 (Or.inr ⟨k, hk, Or.inl rfl⟩))
      have b := h2 _ (mem_dual.2 (Or.inr ⟨k, hk, Or.inr rfl⟩))
      rw [dot_col] at a
      rw [dot_colneg] at b
      grind
  · rintro ⟨h1, h2, h3⟩
    refine ⟨h1, fun b hb => ?_⟩
    rcases mem_dual.1 hb with ⟨i, hi, rfl⟩ | ⟨k, hk, rfl | rfl⟩
    · rw [dot_unit hi]
      have := nth_nonneg h2 i
      grind
    · rw [dot_col, h3 k hk]; exact Rat.le_refl
    · rw [dot_colneg, h3 k hk]; exact Rat.le_refl
theorem dual_falls (h : ∀ b ∈ dualL n l goal, dotP b.1 y l.length ≤ 0) (hl : y.length = l.length) : (∀ x ∈ y, 0 ≤ x) ∧ ∀ k, k < n → wrow l y l.length k = 0 := by
  refine ⟨pos_of_nth fun i hi => ?_, fun k hk => ?_⟩
  · have := h _ (mem_dual.2 (Or.inl ⟨i, by omega, rfl⟩))
    rw [dot_unit (by omega)] at this
    grind
  · have a := h _ (mem_dual.2 (Or.inr ⟨k, hk, Or.inl rfl⟩))
    have b := h _ (mem_dual.2 (Or.inr ⟨k, hk, Or.inr rfl⟩))
    rw [dot_col] at a
    rw [dot_colneg] at b
    grind
theorem wrow_add (l : List BQ) (y w : List Rat) (i k : Nat) (_ : y.length = l.length) (hw : w.length = l.length) (hi : i ≤ l.length) (s : Rat) :
    wrow l ((List.range l.length).map fun j => nth y j + s * nth w j) i k = wrow l y i k + s * wrow l w i k := by
  rw [wrow_sm, wrow_sm, wrow_sm, ← sm_mul, ← sm_add]
  exact sm_congr fun j hj => by rw [nth_range _ (by omega)]; grind
theorem wmost_add (l : List BQ) (y w : List Rat) (s : Rat) : wmost l ((List.range l.length).map fun j => nth y j + s * nth w j) l.length = wmost l y l.length + s * wmost l w l.length := by
  rw [wmost_sm, wmost_sm, wmost_sm, ← sm_mul, ← sm_add]
  exact sm_congr fun j hj => by rw [nth_range _ hj]; grind
/-- Duality. -/
theorem duals {e1 e2 : Nat} {r1 r2 : (Rat × List Rat × List Rat) ⊕ Nat} (h1 : Found e1 n l goal r1) (h2 : Found e2 l.length (dualL n l goal) (leastL l) r2) :
    (∃ v p w y z, r1 = .inl (v, p, w) ∧ r2 = .inl (-v, y, z)) ∨ (r1 = .inr 14 ∧ r2 = .inr 6) ∨ (r1 = .inr 6 ∧ (r2 = .inr 14 ∨ r2 = .inr 6)) := by
  rcases h1.cases with ⟨v, p, w, e1, ho⟩ | ⟨e1, w, hw⟩ | ⟨e1, p, q, hp, hq1, hq2, hq3⟩
  · refine Or.inl ⟨v, p, w, ?_⟩
    have hwk : Keeps l.length (dualL n l goal) w := dual_keeps.2 ⟨ho.2.2.1, ho.2.2.2.1, ho.2.2.2.2.1⟩
    rcases h2.cases with ⟨u, y, z, e2, hu⟩ | ⟨_, z, hz⟩ | ⟨_, p', q', hp', hq1', hq2', hq3'⟩
    · have a1 := hu.le hwk
      rw [dot_least, ho.2.2.2.2.2] at a1
      obtain ⟨b1, b2, b3⟩ := dual_keeps.1 hu.keeps
      have a2 := weak (n := n) ho.1.2 b2
      rw [sm_congr (g := fun k => nth goal k * nth p k) fun k hk => by rw [b3 k hk], ← dotP_sm, ho.2.1] at a2
      have a3 := hu.2.1
      rw [dot_least] at a3
      have : u = -v := by grind
      subst this
      exact ⟨y, z, e1, e2⟩
    · exact (keeps_contra hwk hz).elim
    · obtain ⟨b1, b2⟩ := dual_falls hq2' hq1'
      rw [dot_least] at hq3'
      exact (keeps_contra ho.keeps ⟨hq1', b1, b2, by grind⟩).elim
  · refine Or.inr (Or.inr ⟨e1, ?_⟩)
    rcases h2.cases with ⟨u, y, z, e2, hu⟩ | ⟨e2, _⟩ | ⟨e2, _⟩
    · exfalso
      obtain ⟨b1, b2, b3⟩ := dual_keeps.1 hu.keeps
      have hk : Keeps l.length (dualL n l goal) ((List.range l.length).map fun j => nth y j + 1 * nth w j) := dual_keeps.2 ⟨by simp, fun x hx => by
        obtain ⟨j, _, rfl⟩ := List.mem_map.1 hx
        have c1 := nth_nonneg b2 j
        have c2 := nth_nonneg hw.2.1 j
        grind, fun k hk => by rw [wrow_add l y w _ k b1 hw.1 (Nat.le_refl _), b3 k hk, hw.2.2.1 k hk]; grind⟩
      have a1 := hu.le hk
      have a2 := hu.2.1
      rw [dot_least] at a1 a2
      rw [wmost_add] at a1
      have := hw.2.2.2
      grind
    · exact Or.inr e2
    · exact Or.inl e2
  · refine Or.inr (Or.inl ⟨e1, ?_⟩)
    have hno : ∀ y, ¬ Keeps l.length (dualL n l goal) y := fun y hy => by
      obtain ⟨b1, b2, b3⟩ := dual_keeps.1 hy
      have a1 := weak0 (n := n) hq2 b2
      rw [sm_congr (g := fun k => nth goal k * nth q k) fun k hk => by rw [b3 k hk], ← dotP_sm] at a1
      grind
    rcases h2.cases with ⟨u, y, z, _, hu⟩ | ⟨e2, _⟩ | ⟨_, p', _, hp', _⟩
    · exact (hno _ hu.keeps).elim
    · exact e2
    · exact (hno _ hp').elim
/-- The dual program's numbers. -/
def betaD (m r : Nat) : Rat := if r = 0 ∨ m < r then ((10 ^ 6 : Nat) : Rat) else 1
theorem beta_cap : ∀ n, n < 3 → ∀ m, m < 5 → pf (m + 2 * n + 1) (betaD m) ≤ ((10 ^ 30 : Nat) : Rat) := by decide +kernel
theorem dual_len : (dualL n l goal).length = l.length + 2 * n := by
  unfold dualL
  rw [List.length_append, List.length_map, List.length_range]
  have e : ∀ n : Nat, ((List.range n).flatMap fun k => [(colL l k, nth goal k), ((colL l k).map (fun x => -x), - nth goal k)]).length = 2 * n := fun n => by
    induction n with
    | zero => rfl
    | succ n ih => rw [List.range_succ, List.flatMap_append, List.length_append, ih]; simp; omega
  rw [e]
theorem dual_right (hr : RightS n l) (hg : ∀ x ∈ goal, Sq x) : RightS l.length (dualL n l goal) := fun b hb => by
  have hm1 : Sq (-1) := by unfold Sq; decide +kernel
  rcases mem_dual.1 hb with ⟨i, hi, rfl⟩ | ⟨k, hk, h⟩
  · refine ⟨unit_len _ _, fun x hx => ?_, Sq.zero⟩
    obtain ⟨j, hj, rfl⟩ := List.getElem_of_mem hx
    have h1 : (unitL l.length i)[j] = nth (unitL l.length i) j := by unfold nth; simp [hj]
    rw [unit_len] at hj
    rw [h1, nth_unit hj]
    split
    · exact hm1
    · exact Sq.zero
  · have hc : ∀ x ∈ colL l k, Sq x := fun x hx => by
      obtain ⟨b, hb, rfl⟩ := List.mem_map.1 hx
      exact nth_sq (hr b hb).2.1 k
    have hl : (colL l k).length = l.length := by unfold colL; simp
    rcases h with rfl | rfl
    · exact ⟨hl, hc, nth_sq hg k⟩
    · refine ⟨by simp [hl], fun x hx => ?_, (nth_sq hg k).neg⟩
      obtain ⟨z, hz, rfl⟩ := List.mem_map.1 hx
      exact (hc z hz).neg
theorem least_sq (hr : RightS n l) : ∀ x ∈ leastL l, Sq x := fun x hx => by
  obtain ⟨b, hb, rfl⟩ := List.mem_map.1 hx
  exact ((hr b hb).2.2).neg
theorem szd_dual (hr : RightS n l) (hg : ∀ x ∈ goal, Sq x) (hn : n < 3) (hm : l.length < 5) :
    Szd l.length (dualL n l goal).length (laidA l.length (dualL n l goal)) (goalF l.length (leastL l)) ((10 ^ 39 : Nat) : Rat) := by
  have hS := szd_few (dual_right hr hg) (least_sq hr)
  refine ⟨hS.slk, hS.artI, hS.art, ?_⟩
  have hlen := dual_len (n := n) (l := l) (goal := goal)
  have hDR := dual_right hr hg
  have key : ∀ k, (k < 2 * l.length ∨ k = 2 * l.length + (dualL n l goal).length + 1) → ∀ r, r < (dualL n l goal).length + 1 →
      ((xt (laidA l.length (dualL n l goal)) (goalF l.length (leastL l)) k r).den : Rat) ≤ betaD l.length r ∧ ((xt (laidA l.length (dualL n l goal)) (goalF l.length (leastL l)) k r).num.natAbs : Rat) ≤ ((10 ^ 8 : Nat) : Rat) := fun k hk r hr2 => by
    have hsq : Sq (xt (laidA l.length (dualL n l goal)) (goalF l.length (leastL l)) k r) := by
      cases r with
      | zero =>
        show Sq (goalF l.length (leastL l) k)
        unfold goalF
        split
        · exact nth_sq (least_sq hr) _
        · split
          · exact (nth_sq (least_sq hr) _).neg
          · exact Sq.zero
      | succ r =>
        show Sq (laidA l.length (dualL n l goal) r k)
        have hb := hDR _ (getD_mem (show r < (dualL n l goal).length by omega))
        unfold laidA wdt
        rw [if_pos (by omega)]
        split
        · exact nth_sq hb.2.1 _
        · split
          · exact (nth_sq hb.2.1 _).neg
          · rw [if_neg (by omega), if_neg (by omega), if_pos (by omega)]; exact hb.2.2
    obtain ⟨h1, h2⟩ := sq_cast hsq
    refine ⟨?_, h2⟩
    unfold betaD
    by_cases hc : r = 0 ∨ l.length < r
    · rw [if_pos hc]; exact h1
    · rw [if_neg hc]
      obtain ⟨q, rfl⟩ : ∃ q, r = q + 1 := ⟨r - 1, by omega⟩
      have hq : q < l.length := by omega
      have hg0 : (dualL n l goal).getD q ([], 0) = (unitL l.length q, 0) := by
        unfold dualL
        rw [List.getD_eq_getElem?_getD, List.getElem?_append_left (by simp; exact hq)]
        simp [hq]
      have h3 : ∃ z : Int, (laidA l.length (dualL n l goal) q k) = (z : Rat) := by
        unfold laidA wdt
        rw [if_pos (by omega), hg0]
        have hu : ∀ k, k < l.length → ∃ z : Int, nth (unitL l.length q) k = (z : Rat) := fun k hk => by
          rw [nth_unit hk]
          split
          · exact ⟨-1, by decide +kernel⟩
          · exact ⟨0, rfl⟩
        split
        · exact hu k (by assumption)
        · split
          · obtain ⟨z, hz⟩ := hu (k - l.length) (by omega)
            exact ⟨-z, by simp only [hz]; exact (Rat.intCast_neg z).symm⟩
          · rw [if_neg (by omega), if_neg (by omega), if_pos (by omega)]
            exact ⟨0, rfl⟩
      obtain ⟨z, hz⟩ := h3
      show (((laidA l.length (dualL n l goal) q k)).den : Rat) ≤ 1
      rw [hz]
      exact Rat.le_refl
  have hb1 : ∀ r, 1 ≤ betaD l.length r := fun r => by unfold betaD; split <;> decide +kernel
  have hcap := beta_cap n hn l.length hm
  rw [← hlen] at hcap
  have hp0 : 0 ≤ pf ((dualL n l goal).length + 1) (betaD l.length) := pf_nonneg fun r _ => by have := hb1 r; grind
  have hK : ∀ r, r < (dualL n l goal).length + 1 → ((10 ^ 8 : Nat) : Rat) * pf ((dualL n l goal).length + 1) (upd (betaD l.length) r 1) ≤ ((10 ^ 38 : Nat) : Rat) := fun r hr2 => by
    have h1 := pf_upd (n := (dualL n l goal).length + 1) (betaD l.length) hr2 1
    have h2 : 0 ≤ pf ((dualL n l goal).length + 1) (upd (betaD l.length) r 1) := pf_nonneg fun k _ => by
      by_cases e : k = r
      · subst e; rw [upd_same]; decide +kernel
      · rw [upd_other _ e]; have := hb1 k; grind
    have h3 := Rat.mul_le_mul_of_nonneg_left (hb1 r) h2
    have h4 : pf ((dualL n l goal).length + 1) (upd (betaD l.length) r 1) ≤ ((10 ^ 30 : Nat) : Rat) := by grind
    have h5 := Rat.mul_le_mul_of_nonneg_left h4 (show (0 : Rat) ≤ ((10 ^ 8 : Nat) : Rat) from Rat.natCast_nonneg)
    have h6 : ((10 ^ 8 : Nat) : Rat) * ((10 ^ 30 : Nat) : Rat) = ((10 ^ 38 : Nat) : Rat) := by rw [← Rat.natCast_mul]
    rw [h6] at h5
    exact h5
  have hall : ∀ k, (k < 2 * l.length ∨ k = 2 * l.length + (dualL n l goal).length + 1) → ∃ σ : Rat, IsI σ ∧ 1 ≤ σ ∧ σ ≤ ((10 ^ 39 : Nat) : Rat) ∧ (∀ r, r < (dualL n l goal).length + 1 → IsI (σ * xt (laidA l.length (dualL n l goal)) (goalF l.length (leastL l)) k r)) ∧
      sm ((dualL n l goal).length + 1) (fun r => ab (σ * xt (laidA l.length (dualL n l goal)) (goalF l.length (leastL l)) k r)) ≤ ((10 ^ 39 : Nat) : Rat) := fun k hk => by
    obtain ⟨σ, a1, a2, a3, a4, a5⟩ := col_short (m := (dualL n l goal).length) _ (betaD l.length) ((10 ^ 38 : Nat) : Rat) (key k hk) hK
    refine ⟨σ, a1, a2, Rat.le_trans a3 (Rat.le_trans hcap (Rat.natCast_le_natCast.2 (by decide))), a4, Rat.le_trans (sm_le a5) ?_⟩
    rw [sm_const, ← Rat.natCast_mul]
    refine Rat.natCast_le_natCast.2 ?_
    have h1 : (dualL n l goal).length + 1 ≤ 10 := by omega
    have h2 := Nat.mul_le_mul_right (10 ^ 38) h1
    exact Nat.le_trans h2 (by decide)
  refine ⟨fun k => if hk : k < 2 * l.length ∨ k = 2 * l.length + (dualL n l goal).length + 1 then (hall k hk).choose else 1, fun k hk => ?_⟩
  simp only [dif_pos hk]
  exact (hall k hk).choose_spec
theorem fitsD : ∀ m, m < 5 → ∀ M, M < 9 → (10 ^ 39) ^ m * (M + 1) * 10 ^ 39 < 10 ^ 200 := by decide +kernel
theorem dual_end (hr : RightS n l) (hg : ∀ x ∈ goal, Sq x) (hn : n < 3) (hm : l.length < 5) : ∃ f r, mostT 200 f l.length (dualL n l goal) (leastL l) = some r ∧ Found 200 l.length (dualL n l goal) (leastL l) r := by
  have hlen := dual_len (n := n) (l := l) (goal := goal)
  exact most_end (szd_dual hr hg hn hm) (fits_of (Nat.le_trans (show (dualL n l goal).length + 1 ≤ 10 by omega) (by decide)) (Or.inl (fitsD _ hm _ (by omega)))) (fun x hx => (least_sq hr x hx).bq.mono (by decide)) (by decide)
end
end Sx
end Go.Proofs.YtijpgddpejiohaaGreatDoor
end
section
namespace Go.Proofs.YtijpgddpejiohaaGreatDoor
open Go Go.RowKit Go.Deep Go.Sort
namespace W
open M Sx
theorem text8s {p : List UInt8} (h8 : p.length ≤ 8) (h0 : chkR p = 0) : ∃ q, p = R q ∧ Sq q := by
  obtain ⟨q, rfl, hq⟩ := text8 h8 h0
  refine ⟨q, rfl, hq.1, ?_⟩
  unfold R at h8
  split at h8
  · rename_i e
    rw [e]; decide
  · rw [List.length_append, List.length_cons] at h8
    have h1 : 1 ≤ (I q.num).length := by
      have h2 := D_le_I q.num
      have h3 : 1 ≤ (D q.num.natAbs).length := by
        rcases Nat.eq_zero_or_pos (D q.num.natAbs).length with h4 | h4
        · exact absurd (List.eq_nil_of_length_eq_zero h4) (D_ne _)
        · exact h4
      omega
    have h5 := I_short (z := (q.den : Int)) (k := 6) (by omega) (by decide)
    rwa [Int.natAbs_natCast] at h5
theorem texts8s : ∀ {l : List (List UInt8)}, (∀ p ∈ l, p.length ≤ 8) → chkRs l = 0 → ∃ zl : List Rat, l = rx zl ∧ ∀ x ∈ zl, Sq x
  | [], _, _ => ⟨[], rfl, fun x h => by cases h⟩
  | p :: t, hl, h => by
    rw [chkRs] at h
    by_cases hp : chkR p = 0
    · rw [if_pos hp] at h
      obtain ⟨q, e1, hq⟩ := text8s (hl p List.mem_cons_self) hp
      obtain ⟨zl, e2, hz⟩ := texts8s (fun r hr => hl r (List.mem_cons_of_mem _ hr)) h
      refine ⟨q :: zl, by rw [e1, e2]; rfl, fun x hx => ?_⟩
      rcases List.mem_cons.1 hx with rfl | hx
      · exact hq
      · exact hz x hx
    · rw [if_neg hp] at h; exact absurd h hp
theorem R_inj' {a b : Rat} (h : R a = R b) : a = b := R_inj h
theorem rx_inj : ∀ {a b : List Rat}, rx a = rx b → a = b
  | [], [], _ => rfl
  | [], _ :: _, h => by cases h
  | _ :: _, [], h => by cases h
  | x :: a, y :: b, h => by
    have h1 : R x :: rx a = R y :: rx b := h
    injection h1 with h2 h3
    rw [R_inj h2, rx_inj h3]
/-- What 'Few' lets by, if it is right. -/
theorem few_rightS {n : Int} {l : List BT} (h : few5 n l = true) (h0 : chk5 n l = 0) : ∃ (k : Nat) (zl : List BQ), n = (k : Int) ∧ l = bx zl ∧ RightS k zl ∧ FewS k zl.length := by
  obtain ⟨k, zl, rfl, k1, k8, rfl, hr, hl9⟩ := few_right h h0
  refine ⟨k, zl, rfl, rfl, fun b hb => ?_, k1, k8, hl9, ?_⟩
  · unfold few5 at h
    rw [bx_len, if_neg (by omega), Bool.and_eq_true, List.all_eq_true] at h
    have h1 := fewOne_len (h.1 (rx b.1, R b.2) (List.mem_map.2 ⟨b, hb, rfl⟩))
    have hb2 := hr b hb
    refine ⟨hb2.1, fun x hx => ?_, ?_⟩
    · obtain ⟨q, e, hq⟩ := text8s (h1.2.1 (R x) (List.mem_map.2 ⟨x, hx, rfl⟩)) ((hb2.2.1 x hx).chk (by decide))
      rw [R_inj e]; exact hq
    · obtain ⟨q, e, hq⟩ := text8s h1.2.2 (hb2.2.2.chk (by decide))
      rw [R_inj e]; exact hq
  · unfold few5 at h
    rw [bx_len, if_neg (by omega), Bool.and_eq_true] at h
    have h2 := h.2
    unfold fewN at h2
    rw [decide_eq_true_eq] at h2
    omega
theorem short_sq {p : List (List UInt8)} (hs : short5 p = true) (h0 : chkRs p = 0) : ∃ zp : List Rat, p = rx zp ∧ ∀ x ∈ zp, Sq x := texts8s (short5_len hs).1 h0
theorem pmost_found {n : Nat} {l : List BQ} {goal : List Rat} (hr : RightS n l) (hgl : goal.length = n) (hg : ∀ x ∈ goal, Sq x) (hf : FewS n l.length) (hl1 : 1 ≤ l.length) :
    ∃ e r, Sx.Found e n l goal r ∧ ∀ (vl vg : Value) (W : World), Glob W → RdB W vl (bx l) → RdT W vg (rx goal) → Calls Tryz.prog 18 #[.int .i64 (n : Int), vl, vg] W (MostP W r) := by
  obtain ⟨e, f, r, h1, h2, h3, h4, h5⟩ := most_few hr hg hf
  exact ⟨e, r, h5, fun vl vg W hW hl hgo => pmost e f n h1 h2 h3 l goal r h4 vl vg W hW hl hgo hf.1 hf.2.1 hr.right hl1 (by have := hf.2.2.1; omega) hgl fun x hx => (hg x hx).bq⟩
theorem pmost_dual {n : Nat} {l : List BQ} {goal : List Rat} (hr : RightS n l) (hg : ∀ x ∈ goal, Sq x) (hn : n < 3) (hm1 : 1 ≤ l.length) (hm : l.length < 5) :
    ∃ r, Sx.Found 200 l.length (dualL n l goal) (leastL l) r ∧ ∀ (vl vg : Value) (W : World), Glob W → RdB W vl (bx (dualL n l goal)) → RdT W vg (rx (leastL l)) → Calls Tryz.prog 18 #[.int .i64 (l.length : Int), vl, vg] W (MostP W r) := by
  obtain ⟨f, r, h4, h5⟩ := dual_end hr hg hn hm
  have hlen := dual_len (n := n) (l := l) (goal := goal)
  exact ⟨r, h5, fun vl vg W hW hl hgo => pmost 200 f l.length (by decide) (by decide) (by omega) (dualL n l goal) (leastL l) r h4 vl vg W hW hl hgo hm1 (by omega) (dual_right hr hg).right (by omega) (by omega) (by unfold leastL; simp) fun x hx => (least_sq hr x hx).bq⟩
end W
end Go.Proofs.YtijpgddpejiohaaGreatDoor
end
section
namespace Go.Proofs.YtijpgddpejiohaaGreatDoor
open Go Go.RowKit Go.Deep Go.Sort
open M in
/-- The cells of bounds, each with the value of its row. -/
def bcs (es : List (Value × M.BT)) : List Value := es.flatMap fun x => [x.1, .string (bs x.2.2)]
theorem bcs_append (a b : List (Value × M.BT)) : bcs (a ++ b) = bcs a ++ bcs b := by simp [bcs]
theorem bcs_len (l : List (Value × M.BT)) : (bcs l).length = l.length * 2 := by
  induction l with
  | nil => rfl
  | cons x t ih => simp only [bcs, List.flatMap_cons, List.length_append, List.length_cons, List.length_nil] at *; omega
theorem bcs_get (l : List (Value × M.BT)) (i : Nat) (h : i < l.length) : (bcs l)[i * 2]? = some l[i].1 ∧ (bcs l)[i * 2 + 1]? = some (.string (bs l[i].2.2)) := by
  induction l generalizing i with
  | nil => cases h
  | cons x t ih =>
    rcases i with _ | j
    · exact ⟨rfl, rfl⟩
    · have hj : j < t.length := by simpa using h
      have e1 : bcs (x :: t) = x.1 :: .string (bs x.2.2) :: bcs t := rfl
      have k := ih j hj
      rw [e1, show (j + 1) * 2 = (j * 2 + 1) + 1 by omega, show (j * 2 + 1) + 1 + 1 = (j * 2 + 1 + 1) + 1 by omega]
      exact k
/-- The rows' values read as their texts. -/
def GoodE (w : World) (es : List (Value × M.BT)) : Prop := ∀ x ∈ es, RdT w x.1 x.2.1 ∧ Shp x.1
theorem GoodE.below {w w' : World} {es : List (Value × M.BT)} (h : GoodE w es) (hb : Below w.heap.size w w') : GoodE w' es := fun x hx => ⟨(h x hx).1.below hb, (h x hx).2⟩
theorem GoodE.append {w : World} {a b : List (Value × M.BT)} (h : GoodE w a) (h2 : GoodE w b) : GoodE w (a ++ b) := fun x hx => (List.mem_append.1 hx).elim (h x) (h2 x)
theorem GoodE.one {w : World} {es : List (Value × M.BT)} (h : GoodE w es) : ∀ u ∈ bcs es, u.oneCell' = true := by
  intro u hu
  simp only [bcs, List.mem_flatMap] at hu
  obtain ⟨x, hx, hx2⟩ := hu
  simp at hx2
  rcases hx2 with rfl | rfl
  · rcases (h x hx).2 with e | ⟨_, _, _, e⟩ <;> rw [e] <;> rfl
  · rfl
/-- An own row of bounds; a value whose cells are those of bounds. -/
def OwnE (w : World) (B : Nat) (v : Value) (es : List (Value × M.BT)) : Prop := w.ownsRow B 31 2 v es.length (bcs es)
def SrcE (w : World) (x : Value) (es : List (Value × M.BT)) : Prop :=
  (x = .slice none 0 0 ∧ es = []) ∨ ∃ a cap, x = .slice (some a) es.length cap ∧ ∀ j u, (bcs es)[j]? = some u → w.cell? (a.add j) = some u
theorem OwnE.below {w w' : World} {B : Nat} {v : Value} {es : List (Value × M.BT)} (h : OwnE w B v es) (hb : Below w.heap.size w w') : OwnE w' B v es :=
  World.ownsRow.kept (row := none) h ⟨hb.os, hb.tape, hb.output, hb.size, fun k hk _ => hb.block k hk⟩ (Classical.em _)
theorem OwnE.rd {w : World} {B : Nat} {v : Value} {es : List (Value × M.BT)} (h : OwnE w B v es) (hg : GoodE w es) : RdB w v (es.map (·.2)) := by
  obtain ⟨h1, h2⟩ := h
  rcases h2 with ⟨hv, hn⟩ | ⟨g, cap, cur, hv, hB, hh, hn, hm, hs, ht⟩
  · refine ⟨none, 0, ?_, Or.inl (by rw [List.length_eq_zero_iff.1 hn]; rfl)⟩
    rw [hv, List.length_map, hn]
  · refine ⟨some ⟨g, 0, none⟩, cap, by rw [hv, List.length_map], ?_⟩
    by_cases hl : es = []
    · exact Or.inl (by rw [hl]; rfl)
    · refine Or.inr ⟨g, 0, rfl, lt_of_block hh, fun i hi => ?_, fun i hi => ?_⟩
      · have hi2 : i < es.length := by simpa using hi
        have hx := hg _ (List.getElem_mem hi2)
        refine ⟨es[i].1, ?_, ?_, hx.2⟩
        · have := (bcs_get es i hi2).1
          rw [← ht, List.getElem?_take] at this
          split at this
          · simp [World.cell?, hh]; simpa using this
          · cases this
        · simpa using hx.1
      · have hi2 : i < es.length := by simpa using hi
        have := (bcs_get es i hi2).2
        rw [← ht, List.getElem?_take] at this
        split at this
        · simp [World.cell?, hh]; simpa using this
        · cases this
/-- A list of bounds that is read, with its rows' values. -/
theorem RdB.src {w : World} {v : Value} {l : List M.BT} (h : RdB w v l) (hs : Shp v) : ∃ es, l = es.map (·.2) ∧ GoodE w es ∧ SrcE w v es := by
  obtain ⟨A, cap, rfl, h2⟩ := h
  rcases h2 with rfl | ⟨b, o, rfl, h3⟩
  · refine ⟨[], rfl, (fun x hx => by cases hx), ?_⟩
    rcases hs with e | ⟨a, n, c, e⟩
    · exact Or.inl ⟨e, rfl⟩
    · injection e with e1 e2 e3
      subst e1
      exact Or.inr ⟨a, cap, rfl, fun j u hj => by simp [bcs] at hj⟩
  · obtain ⟨F, hF⟩ : ∃ F : Nat → Value, ∀ i (hi : i < l.length), w.cell? ⟨b, o + i * 2, none⟩ = some (F i) ∧ RdT w (F i) l[i].1 ∧ Shp (F i) :=
      ⟨fun i => if hi : i < l.length then (h3.row i hi).choose else .slice none 0 0, fun i hi => by
        simp only [dif_pos hi]
        exact (h3.row i hi).choose_spec⟩
    refine ⟨(List.range l.length).map fun i => (F i, l.getD i ([], [])), ?_, ?_, Or.inr ⟨⟨b, o, none⟩, cap, by simp, fun j u hj => ?_⟩⟩
    · apply List.ext_getElem
      · simp
      · intro i h1 h2
        simp [h1]
    · intro x hx
      obtain ⟨i, hi, rfl⟩ := List.mem_map.1 hx
      have hi := List.mem_range.1 hi
      have := hF i hi
      simp only [show l.getD i ([], []) = l[i] by simp [hi]]
      exact ⟨this.2.1, this.2.2⟩
    · have hadd : (⟨b, o, none⟩ : Addr).add j = ⟨b, o + j, none⟩ := by unfold Addr.add; split <;> simp_all
      rw [hadd]
      have hlen := (List.getElem?_eq_some_iff.1 hj).1
      rw [bcs_len] at hlen
      have hlen2 : j < l.length * 2 := by simpa using hlen
      have hi : j / 2 < l.length := by omega
      have hg := bcs_get ((List.range l.length).map fun i => (F i, l.getD i ([], []))) (j / 2) (by simp; exact hi)
      simp only [List.getElem_map, List.getElem_range] at hg
      rcases Nat.mod_two_eq_zero_or_one j with h4 | h4
      · have e : j = j / 2 * 2 := by omega
        rw [e, hg.1] at hj
        rw [e, ← Option.some.inj hj]
        exact (hF _ hi).1
      · have e : j = j / 2 * 2 + 1 := by omega
        rw [e, hg.2] at hj
        rw [e, ← Option.some.inj hj]
        have := h3.most _ hi
        rw [← Nat.add_assoc, this]
        simp [hi]
theorem SrcE.below {w w' : World} {x : Value} {es : List (Value × M.BT)} (h : SrcE w x es) (hb : Below w.heap.size w w') : SrcE w' x es := by
  rcases h with h | ⟨a, cap, e, h⟩
  · exact Or.inl h
  · refine Or.inr ⟨a, cap, e, fun j u hj => ?_⟩
    have h1 := h j u hj
    exact (hb.cell (block_lt_of_cell h1)).trans h1
theorem SrcE.new (w : World) (u : Value) (b : M.BT) : SrcE (w.alloc (.cells #[u, .string (bs b.2)] 31 (0, 0))) (.slice (some ⟨w.heap.size, 0, none⟩) 1 1) [(u, b)] := by
  refine Or.inr ⟨⟨w.heap.size, 0, none⟩, 1, rfl, fun j v hj => ?_⟩
  have hadd : (⟨w.heap.size, 0, none⟩ : Addr).add j = ⟨w.heap.size, j, none⟩ := by unfold Addr.add; split <;> simp_all
  rw [hadd]
  exact (Row.new w 31 [u, .string (bs b.2)]).cell hj
theorem infoBd : (Tryz.prog.info? 31).map (fun i => (i.zero, i.size, i.bytes)) = some (some (.agg #[.slice none 0 0, .string ⟨#[]⟩]), 2, 40) := by kernel_rfl
theorem run_app_e {w : World} {B : Nat} {v x : Value} {l m : List (Value × M.BT)} (ty : TypeId) (h : OwnE w B v l) (hx : SrcE w x m) (hg : GoodE w m) (hB : B ≤ w.heap.size) (hn : (l.length + m.length) * 40 ≤ 140737488355328) :
    ∃ v' w', (Builtin.append_ #[22, 22] ty #[v, x]).run Tryz.prog w = .ok v' w' ∧ OwnE w' B v' (l ++ m) ∧ w.grownBy w' v.ownBlock := by
  obtain ⟨i, h1, h2, h3, h4⟩ := info_parts infoBd
  rcases hx with ⟨rfl, rfl⟩ | ⟨ad, cap, rfl, hc⟩
  · refine ⟨v, w, run_append_owned_none (P := Tryz.prog) (w := w) B _ ty _ i 2 Tryz.underlying22 h1 v l.length (bcs l) h, ?_, grown_same _ _⟩
    rw [List.append_nil]; exact h
  · obtain ⟨v', w', k1, k2, k3, _⟩ := run_append_own (P := Tryz.prog) w B _ ty _ i _ 2 40 Tryz.underlying22 h1 h2 h3 h4 rfl (by decide) v l.length (bcs l) h ad m.length cap (bcs m) (bcs_len m)
      hc hg.one (by unfold maxLen; omega) hn hB
    refine ⟨v', w', k1, ?_, k3⟩
    unfold OwnE
    rw [bcs_append, List.length_append]
    exact k2
theorem step_app_e {ops : Array Oper} {o : Oper} {a : Act} {K : Act → World → Prop} {Q : Exit → Act → World → Prop} {E : Prop} {w : World} {B : Nat} {v xv : Value} {l m : List (Value × M.BT)} (hgd : o.guard = none) (s x : Operand)
    (ho : o.op = .call { callee := .builtin .append, args := #[s, x], argTypes := #[22, 22] }) (hs : a.eval s = v) (hx : a.eval x = xv)
    (h : OwnE w B v l) (hsrc : SrcE w xv m) (hg : GoodE w m) (hB : B ≤ w.heap.size) (hn : (l.length + m.length) * 40 ≤ 140737488355328)
    (hK : ∀ v' w', OwnE w' B v' (l ++ m) → w.grownBy w' v.ownBlock → K (a.put o.dst v') w') : if Region.wanted o (yielded ops a.tmps) = true then Oper.wp Tryz.prog o a w K Q else E := by
  have hw : Region.wanted o (yielded ops a.tmps) = true := by simp [Region.wanted, hgd]
  rw [if_pos hw]
  obtain ⟨v', w', hr, h2, h3⟩ := run_app_e o.type h hsrc hg hB hn
  unfold Oper.wp execOp
  simp only [ho, resolve, invoke, builtin, Sem.run_bind, Sem.run_pure, Result.andThen_ok, List.map_toArray, List.map_cons, List.map_nil, hs, hx, hr]
  exact hK v' w' h2 h3
theorem wpList_app_e {ops : Array Oper} {rest : List Oper} {o : Oper} {a : Act} {Q : Exit → Act → World → Prop} {w : World} {B : Nat} {v xv : Value} {l m : List (Value × M.BT)} (hgd : o.guard = none) (s x : Operand)
    (ho : o.op = .call { callee := .builtin .append, args := #[s, x], argTypes := #[22, 22] }) (hs : a.eval s = v) (hx : a.eval x = xv)
    (h : OwnE w B v l) (hsrc : SrcE w xv m) (hg : GoodE w m) (hB : B ≤ w.heap.size) (hn : (l.length + m.length) * 40 ≤ 140737488355328)
    (hK : ∀ v' w', OwnE w' B v' (l ++ m) → w.grownBy w' v.ownBlock → wpList Tryz.prog ops Q rest (a.put o.dst v') w') : wpList Tryz.prog ops Q (o :: rest) a w :=
  wpList_plain hgd fun _ hK2 => by
    obtain ⟨v', w', hr, h2, h3⟩ := run_app_e o.type h hsrc hg hB hn
    unfold Oper.wp execOp
    simp only [ho, resolve, invoke, builtin, Sem.run_bind, Sem.run_pure, Result.andThen_ok, List.map_toArray, List.map_cons, List.map_nil, hs, hx, hr]
    exact hK2 _ _ (hK v' w' h2 h3)
theorem OwnE.fresh (w : World) (B A : Nat) (hA : A = w.heap.size) (hB : B ≤ A) : OwnE (w.alloc (.cells #[] 31 (0, 0))) B (.slice (some ⟨A, 0, none⟩) 0 0) [] := by
  subst hA
  refine ⟨rfl, Or.inr ⟨w.heap.size, 0, #[], rfl, hB, ?_, Nat.le_refl _, by unfold maxLen; omega, rfl, rfl⟩⟩
  show (w.heap.push _)[w.heap.size]? = _
  simp
theorem app_belE {W w w' : World} {B : Nat} {v : Value} {l : List (Value × M.BT)} (h : OwnE w B v l) (hb : Below W.heap.size W w) (hB : W.heap.size ≤ B) (hg : w.grownBy w' v.ownBlock) : Below W.heap.size W w' :=
  hb.grown hg hb.size fun k hk => Nat.le_trans hB (World.ownsRow.lt h k hk).1
namespace W
open M
attribute [local go_sem] bs_size bs_toList bs_get bs_extract bs_append bs_lit0 bs_lit1 lit1_bs
set_option maxHeartbeats 1000000
set_option maxRecDepth 20000
end W
end Go.Proofs.YtijpgddpejiohaaGreatDoor
end
section
namespace Go.Proofs.YtijpgddpejiohaaGreatDoor
open Go
namespace Sx
open M
theorem pf_skip : ∀ (n : Nat) (g : Nat → Rat) (r : Nat), r ≤ n → pf (n + 1) g = g r * pf n fun i => g (skip r i)
  | 0, g, r, h => by
    obtain rfl : r = 0 := by omega
    rfl
  | n + 1, g, 0, h => by
    rw [pf]
    rfl
  | n + 1, g, r + 1, h => by
    rw [pf, pf_skip n (fun k => g (k + 1)) r (by omega), pf]
    have e : pf n (fun k => g (skip (r + 1) (k + 1))) = pf n fun i => g (skip r i + 1) := pf_congr fun k _ => by
      unfold skip
      by_cases h1 : k < r
      · rw [if_pos (by omega), if_pos h1]
      · rw [if_neg (by omega), if_neg h1]
    have e0 : skip (r + 1) 0 = 0 := by unfold skip; rw [if_pos (by omega)]
    rw [e, e0]; grind
/-- Rows that are multiplied. -/
theorem det_rscale : ∀ (n : Nat) (s : Nat → Rat) (B : Nat → Nat → Rat), det n (fun c r => s r * B c r) = pf n s * det n B
  | 0, _, _ => by simp only [det, pf]; grind
  | n + 1, s, B => by
    rw [det, det, ← sm_mul]
    refine sm_congr fun r hr => ?_
    rw [det_rscale n (fun i => s (skip r i)) fun c i => B (c + 1) (skip r i), pf_skip n s r (by omega)]; grind
/-- A quotient of whole numbers, its parts. -/
theorem frac_parts {y P Q : Rat} {a d : Nat} (hP : IsI P) (hQ : IsI Q) (h0 : Q ≠ 0) (h : y * Q = P) (hp : ab P < (a : Rat)) (hq : ab Q < (d : Rat)) : y.num.natAbs < a ∧ y.den < d := by
  obtain ⟨p, rfl⟩ := hP
  obtain ⟨q, rfl⟩ := hQ
  have hd : q ≠ 0 := fun e => h0 (by rw [e]; rfl)
  have hy : y = Rat.divInt p q := by rw [Rat.divInt_eq_div]; grind
  rw [ab_int] at hp hq
  have ha := Rat.natCast_lt_natCast.1 hp
  have hb := Rat.natCast_lt_natCast.1 hq
  rw [hy]
  refine ⟨?_, ?_⟩
  · rw [Rat.num_divInt]
    refine Nat.lt_of_le_of_lt ?_ ha
    rw [Int.natAbs_ediv_of_dvd (by exact Int.dvd_mul_of_dvd_right (Int.gcd_dvd_right ..)), Int.natAbs_mul]
    have h1 : q.sign.natAbs ≤ 1 := by rw [Int.natAbs_sign]; split <;> omega
    refine Nat.le_trans (Nat.div_le_self _ _) ?_
    have := Nat.mul_le_mul_right p.natAbs h1
    omega
  · rw [Rat.den_divInt, if_neg hd]
    exact Nat.lt_of_le_of_lt (Nat.div_le_self _ _) hb
section
variable {n m : Nat} {E A : Mx} {b : Nat → Nat} {s : Nat → Rat}
/-- Rows multiplied by s, the slacks with them. -/
def tsc (n m : Nat) (s : Nat → Rat) (k : Nat) : Rat := if 2 * n ≤ k ∧ k < 2 * n + m then s (k - 2 * n) else 1
def scE (n m : Nat) (s : Nat → Rat) (E : Mx) : Mx := fun i k => s i * E i k / tsc n m s k
def scA (n m : Nat) (s : Nat → Rat) (A : Mx) (b : Nat → Nat) : Mx := fun i k => if i < m then tsc n m s (b i) * A i k / tsc n m s k else A i k / tsc n m s k
theorem tsc_pos (hs : ∀ i, i < m → 0 < s i) (k : Nat) : 0 < tsc n m s k := by
  unfold tsc
  split
  · exact hs _ (by omega)
  · decide +kernel
theorem tsc_D : tsc n m s (wdt n m) = 1 := by unfold tsc wdt; rw [if_neg (by omega)]
theorem sc_sum {D : Nat} (a : Rat) (f t x : Nat → Rat) : sm D (fun k => a * f k / t k * x k) = a * sm D (fun k => f k * (x k / t k)) := by
  rw [← sm_mul]
  exact sm_congr fun k _ => by rw [Rat.div_def, Rat.div_def]; grind
theorem sc_inv (h : Inv n m E A b) (hs : ∀ i, i < m → 0 < s i) : Inv n m (scE n m s E) (scA n m s A b) b := by
  have ht := fun k => tsc_pos (n := n) hs k
  have hne : ∀ k, tsc n m s k ≠ 0 := fun k e => by have := ht k; rw [e] at this; exact Rat.lt_irrefl this
  have hsne : ∀ i, i < m → s i ≠ 0 := fun i hi e => by have := hs i hi; rw [e] at this; exact Rat.lt_irrefl this
  have hB := h.bas
  refine ⟨⟨hB.lt, fun i hi => ?_, fun i j hi hj e => ?_⟩, fun t x => ?_, ?_⟩
  · unfold scA
    rw [if_pos hi, hB.one i hi]
    have := hne (b i)
    grind
  · unfold scA
    rw [hB.zer i j hi hj e]
    split
    · rw [Rat.mul_zero, Rat.div_def, Rat.zero_mul]
    · rw [Rat.div_def, Rat.zero_mul]
  · have e1 : Sol m (wdt n m) (scA n m s A b) t x ↔ Sol m (wdt n m) A t fun k => x k / tsc n m s k := by
      constructor
      · intro hx i hi
        have h1 := hx i hi
        unfold scA at h1
        simp only [if_pos hi] at h1
        rw [sc_sum, tsc_D] at h1
        have := hne (b i)
        have h2 : tsc n m s (b i) * (sm (wdt n m) (fun k => A i k * (x k / tsc n m s k)) - A i (wdt n m) * t) = 0 := by grind
        rcases Rat.mul_eq_zero.1 h2 with h3 | h3
        · exact absurd h3 this
        · grind
      · intro hx i hi
        have h1 := hx i hi
        unfold scA
        simp only [if_pos hi]
        rw [sc_sum, tsc_D, h1]; grind
    have e2 : Sol m (wdt n m) (scE n m s E) t x ↔ Sol m (wdt n m) E t fun k => x k / tsc n m s k := by
      constructor
      · intro hx i hi
        have h1 := hx i hi
        unfold scE at h1
        rw [sc_sum, tsc_D] at h1
        have := hsne i hi
        have h2 : s i * (sm (wdt n m) (fun k => E i k * (x k / tsc n m s k)) - E i (wdt n m) * t) = 0 := by grind
        rcases Rat.mul_eq_zero.1 h2 with h3 | h3
        · exact absurd h3 this
        · grind
      · intro hx i hi
        have h1 := hx i hi
        unfold scE
        rw [sc_sum, tsc_D, h1]; grind
    rw [e1, e2]; exact h.sol t _
  · have e1 : det m (fun c r => scE n m s E r (b c)) = pf m (fun c => 1 / tsc n m s (b c)) * (pf m s * det m fun c r => E r (b c)) := by
      rw [← det_rscale, ← det_scale]
      exact det_congr fun c _ r _ => by unfold scE; rw [Rat.div_def, Rat.div_def]; grind
    have h1 : 0 < pf m (fun c => 1 / tsc n m s (b c)) := pf_pos fun c _ => by
      rw [Rat.div_def, Rat.one_mul]; exact Rat.inv_pos.2 (ht _)
    have h2 : 0 < pf m s := pf_pos hs
    rw [e1]
    intro h3
    rcases Rat.mul_eq_zero.1 h3 with h4 | h4
    · rw [h4] at h1; exact Rat.lt_irrefl h1
    · rcases Rat.mul_eq_zero.1 h4 with h5 | h5
      · rw [h5] at h2; exact Rat.lt_irrefl h2
      · exact h.dt h5
/-- The value, with whole rows: a bound for its parts. -/
theorem value_parts (L : Laid n m E) (h : Inv n m E A b) {c : Nat → Rat} {g Q : Rat} {a : Nat} (hc : ∀ j, j < m → c (2 * n + j) = 0) (_ : IsI g) (_ : 1 ≤ g) (hs : ∀ i, i < m → 1 ≤ s i ∧ IsI (s i)) (hQ1 : 1 ≤ Q)
    (hI : ∀ k, (k < 2 * n ∨ 2 * n + m ≤ k) → k ≤ wdt n m → (∀ i, i < m → IsI (s i * E i k)) ∧ IsI (g * c k) ∧ ab (g * c k) + sm m (fun i => ab (s i * E i k)) ≤ Q)
    (hM : pf n (fun _ => Q) * Q * Q < ((10 ^ a : Nat) : Rat) ∨ pf m (fun _ => Q) * Q < ((10 ^ a : Nat) : Rat)) : Bq a (g * zc m A b c (wdt n m)) := by
  have hs0 : ∀ i, i < m → 0 < s i := fun i hi => by have := (hs i hi).1; grind
  have h' := sc_inv h hs0
  have ht : ∀ k, (k < 2 * n ∨ 2 * n + m ≤ k) → tsc n m s k = 1 := fun k hk => by unfold tsc; rw [if_neg (by omega)]
  have hne : ∀ k, tsc n m s k ≠ 0 := fun k e => by have := tsc_pos (n := n) hs0 k; rw [e] at this; exact Rat.lt_irrefl this
  have hcase : ∀ k, k ≤ wdt n m → (k < 2 * n ∨ 2 * n + m ≤ k) ∨ ∃ j, j < m ∧ k = 2 * n + j := fun k hk => by
    by_cases h1 : k < 2 * n ∨ 2 * n + m ≤ k
    · exact Or.inl h1
    · exact Or.inr ⟨k - 2 * n, by omega, by omega⟩
  have hW1 : ∀ k, (k < 2 * n ∨ 2 * n + m ≤ k) → k ≤ wdt n m → WtF n m Q Q k = Q := fun k hk hk2 => by
    unfold WtF
    unfold wdt at hk2
    by_cases h1 : k < 2 * n
    · rw [if_pos h1]
    · rw [if_neg h1]
      by_cases h2 : k = 2 * n + m
      · rw [if_pos h2]
      · rw [if_neg h2, if_pos (by omega)]
  have hW2 : ∀ j, j < m → WtF n m Q Q (2 * n + j) = 1 := fun j hj => by unfold WtF; rw [if_neg (by omega), if_neg (by omega), if_neg (by omega)]
  have hx1 : ∀ k, (k < 2 * n ∨ 2 * n + m ≤ k) → k ≤ wdt n m → (∀ r, r < m + 1 → IsI (1 * xt (scE n m s E) (fun k => g * c k) k r)) ∧ sm (m + 1) (fun r => ab (1 * xt (scE n m s E) (fun k => g * c k) k r)) ≤ Q := fun k hk hk2 => by
    obtain ⟨a1, a2, a3⟩ := hI k hk hk2
    have e1 : ∀ i, scE n m s E i k = s i * E i k := fun i => by unfold scE; rw [ht k hk]; grind
    refine ⟨fun r hr => ?_, ?_⟩
    · cases r with
      | zero =>
        show IsI (1 * (g * c k))
        rw [Rat.one_mul]; exact a2
      | succ r =>
        show IsI (1 * scE n m s E r k)
        rw [Rat.one_mul, e1]; exact a1 r (by omega)
    · rw [sm_head]
      have e2 : sm m (fun r => ab (1 * xt (scE n m s E) (fun k => g * c k) k (r + 1))) = sm m fun i => ab (s i * E i k) := sm_congr fun r _ => by
        show ab (1 * scE n m s E r k) = _
        rw [Rat.one_mul, e1]
      have e3 : ab (1 * xt (scE n m s E) (fun k => g * c k) k 0) = ab (g * c k) := by
        show ab (1 * (g * c k)) = _
        rw [Rat.one_mul]
      rw [e2, e3]; exact a3
  have hx2 : ∀ j, j < m → (∀ r, r < m + 1 → IsI (1 * xt (scE n m s E) (fun k => g * c k) (2 * n + j) r)) ∧ sm (m + 1) (fun r => ab (1 * xt (scE n m s E) (fun k => g * c k) (2 * n + j) r)) = 1 := fun j hj => by
    have e1 : ∀ i, i < m → scE n m s E i (2 * n + j) = if i = j then 1 else 0 := fun i hi => by
      have e2 : tsc n m s (2 * n + j) = s j := by unfold tsc; rw [if_pos (by omega), show 2 * n + j - 2 * n = j by omega]
      unfold scE
      rw [L.slk i hi j hj, e2]
      have := hs0 j hj
      by_cases e : i = j
      · subst e; rw [if_pos rfl]; grind
      · rw [if_neg e, Rat.mul_zero, Rat.div_def, Rat.zero_mul]
    have e0 : g * c (2 * n + j) = 0 := by rw [hc j hj, Rat.mul_zero]
    refine ⟨fun r hr => ?_, ?_⟩
    · cases r with
      | zero =>
        show IsI (1 * (g * c (2 * n + j)))
        rw [e0]; exact ⟨0, by decide +kernel⟩
      | succ r =>
        show IsI (1 * scE n m s E r (2 * n + j))
        rw [e1 r (by omega)]
        split
        · exact ⟨1, by decide +kernel⟩
        · exact ⟨0, by decide +kernel⟩
    · rw [sm_head]
      have e3 : ab (1 * xt (scE n m s E) (fun k => g * c k) (2 * n + j) 0) = 0 := by
        show ab (1 * (g * c (2 * n + j))) = 0
        rw [e0]; decide +kernel
      rw [e3, sm_one (k := j) hj fun r hr e => by
        show ab (1 * scE n m s E r (2 * n + j)) = 0
        rw [e1 r hr, if_neg e]; decide +kernel]
      show 0 + ab (1 * scE n m s E j (2 * n + j)) = 1
      rw [e1 j hj, if_pos rfl]; decide +kernel
  have hP := h'.part (fun k => g * c k) (s := wdt n m) (Nat.le_refl _) (fun _ => 1) (WtF n m Q Q) a
    (fun k hk => by
      rcases hcase k hk with h1 | ⟨j, hj, rfl⟩
      · exact ⟨⟨1, rfl⟩, Rat.le_refl, by rw [hW1 k h1 hk]; exact hQ1, (hx1 k h1 hk).1⟩
      · exact ⟨⟨1, rfl⟩, Rat.le_refl, by rw [hW2 j hj]; exact Rat.le_refl, (hx2 j hj).1⟩)
    (fun k hk => by
      rcases hcase k hk with h1 | ⟨j, hj, rfl⟩
      · rw [hW1 k h1 hk]; exact (hx1 k h1 hk).2
      · rw [hW2 j hj, (hx2 j hj).2]; exact Rat.le_refl)
    (by
      have hQ0 : 0 ≤ Q := by grind
      rw [hW1 (wdt n m) (Or.inr (by unfold wdt; omega)) (Nat.le_refl _)]
      rcases hM with hM | hM
      · have h2 := Rat.mul_le_mul_of_nonneg_right (h.prod L hQ1 hQ1) hQ0
        grind
      · have h3 : pf m (fun q => WtF n m Q Q (b q)) ≤ pf m fun _ => Q := pf_le fun q hq => by
          have hlt := h.bas.lt q hq
          rcases hcase (b q) (Nat.le_of_lt hlt) with h1 | ⟨j, hj, e⟩
          · rw [hW1 _ h1 (Nat.le_of_lt hlt)]; exact ⟨hQ0, Rat.le_refl⟩
          · rw [e, hW2 j hj]; exact ⟨by decide +kernel, hQ1⟩
        have h2 := Rat.mul_le_mul_of_nonneg_right h3 hQ0
        grind)
    (j := 0) (by omega)
  have e1 : ys m (scA n m s A b) b (fun k => g * c k) (wdt n m) 0 = g * zc m A b c (wdt n m) := by
    show zc m (scA n m s A b) b (fun k => g * c k) (wdt n m) = _
    unfold zc
    have e2 : sm m (fun i => scA n m s A b i (wdt n m) * (g * c (b i))) = g * sm m (fun i => A i (wdt n m) * c (b i)) := by
      rw [← sm_mul]
      refine sm_congr fun i hi => ?_
      unfold scA
      rw [if_pos hi, tsc_D]
      by_cases h1 : b i < 2 * n ∨ 2 * n + m ≤ b i
      · rw [ht _ h1]; grind
      · have h2 : c (b i) = 0 := by
          have := hc (b i - 2 * n) (by omega)
          rwa [show 2 * n + (b i - 2 * n) = b i by omega] at this
        rw [h2]; grind
    rw [e2]; grind
  rw [← e1]; exact hP
end
end Sx
end Go.Proofs.YtijpgddpejiohaaGreatDoor
end
