/-
  Sums of rational numbers, plain.
  Tables of equations, plain: what a pivot keeps; a table is determined by its basis.
  Bland's rule, plain: a climb that always takes the first column and, among the rows with the least quotient, that of the least column, never comes back to a basis.
  Determinants, plain: Cramer's rule, a bound, whole numbers.
  How long the numbers of a table can become, plain: each is a quotient of determinants of the first table.
  The numbers of a table keep short, plain: the weights of a basis' columns.
-/
import Derived.Test.YtellemlhhlafcaaGreatDoorKJ
section
namespace Go.Proofs.YtellemlhhlafcaaGreatDoor
open Go
namespace Sx
open M
def sm : Nat → (Nat → Rat) → Rat
  | 0, _ => 0
  | n + 1, f => sm n f + f n
theorem sm_congr {n : Nat} {f g : Nat → Rat} (h : ∀ k, k < n → f k = g k) : sm n f = sm n g := by
  induction n with
  | zero => rfl
  | succ n ih => rw [sm, sm, ih fun k hk => h k (by omega), h n (by omega)]
theorem sm_zero {n : Nat} {f : Nat → Rat} (h : ∀ k, k < n → f k = 0) : sm n f = 0 := by
  induction n with
  | zero => rfl
  | succ n ih => rw [sm, ih fun k hk => h k (by omega), h n (by omega)]; grind
theorem sm_add (n : Nat) (f g : Nat → Rat) : sm n (fun k => f k + g k) = sm n f + sm n g := by
  induction n with
  | zero => simp only [sm]; grind
  | succ n ih => rw [sm, sm, sm, ih]; grind
theorem sm_sub (n : Nat) (f g : Nat → Rat) : sm n (fun k => f k - g k) = sm n f - sm n g := by
  induction n with
  | zero => simp only [sm]; grind
  | succ n ih => rw [sm, sm, sm, ih]; grind
theorem sm_mul (n : Nat) (c : Rat) (f : Nat → Rat) : sm n (fun k => c * f k) = c * sm n f := by
  induction n with
  | zero => rw [sm, sm, Rat.mul_zero]
  | succ n ih => rw [sm, sm, ih]; grind
theorem sm_mul_right (n : Nat) (c : Rat) (f : Nat → Rat) : sm n (fun k => f k * c) = sm n f * c := by
  induction n with
  | zero => rw [sm, sm, Rat.zero_mul]
  | succ n ih => rw [sm, sm, ih]; grind
theorem sm_neg (n : Nat) (f : Nat → Rat) : sm n (fun k => - f k) = - sm n f := by
  induction n with
  | zero => simp only [sm]; grind
  | succ n ih => rw [sm, sm, ih]; grind
theorem sm_one {n k : Nat} {f : Nat → Rat} (hk : k < n) (h : ∀ j, j < n → j ≠ k → f j = 0) : sm n f = f k := by
  induction n with
  | zero => omega
  | succ n ih =>
    rw [sm]
    by_cases e : k = n
    · subst e
      rw [sm_zero fun j hj => h j (by omega) (by omega)]; grind
    · rw [ih (by omega) fun j hj => h j (by omega), h n (by omega) (by omega)]; grind
theorem sm_swap (n m : Nat) (f : Nat → Nat → Rat) : sm n (fun i => sm m fun j => f i j) = sm m (fun j => sm n fun i => f i j) := by
  induction n with
  | zero =>
    rw [sm]
    exact (sm_zero fun k _ => rfl).symm
  | succ n ih =>
    rw [sm, ih, ← sm_add]
    exact sm_congr fun k _ => rfl
theorem sm_le {n : Nat} {f g : Nat → Rat} (h : ∀ k, k < n → f k ≤ g k) : sm n f ≤ sm n g := by
  induction n with
  | zero => exact Rat.le_refl
  | succ n ih =>
    have h1 := ih fun k hk => h k (by omega)
    have h2 := h n (by omega)
    rw [sm, sm]; grind
theorem sm_nonneg {n : Nat} {f : Nat → Rat} (h : ∀ k, k < n → 0 ≤ f k) : 0 ≤ sm n f := by
  induction n with
  | zero => exact Rat.le_refl
  | succ n ih =>
    have h1 := ih fun k hk => h k (by omega)
    have h2 := h n (by omega)
    rw [sm]; grind
theorem sm_nonpos {n : Nat} {f : Nat → Rat} (h : ∀ k, k < n → f k ≤ 0) : sm n f ≤ 0 := by
  induction n with
  | zero => exact Rat.le_refl
  | succ n ih =>
    have h1 := ih fun k hk => h k (by omega)
    have h2 := h n (by omega)
    rw [sm]; grind
theorem sm_neg_ex {n : Nat} {f : Nat → Rat} (h : sm n f < 0) : ∃ k, k < n ∧ f k < 0 := by
  induction n with
  | zero => simp only [sm] at h; exact absurd h Rat.lt_irrefl
  | succ n ih =>
    rw [sm] at h
    by_cases h1 : sm n f < 0
    · obtain ⟨k, hk, hf⟩ := ih h1
      exact ⟨k, by omega, hf⟩
    · exact ⟨n, by omega, by grind⟩
theorem sm_split (a b : Nat) (f : Nat → Rat) : sm (a + b) f = sm a f + sm b (fun k => f (a + k)) := by
  induction b with
  | zero => rw [sm]; show sm a f = _; grind
  | succ b ih => rw [← Nat.add_assoc, sm, ih, sm]; grind
end Sx
end Go.Proofs.YtellemlhhlafcaaGreatDoor
end
section
namespace Go.Proofs.YtellemlhhlafcaaGreatDoor
open Go
namespace Sx
open M
def Sol (m D : Nat) (A : Mx) (t : Rat) (x : Nat → Rat) : Prop := ∀ i, i < m → sm D (fun k => A i k * x k) = A i D * t
def Zv (m D : Nat) (A : Mx) (t : Rat) (x : Nat → Rat) : Rat := sm D (fun k => A m k * x k) - A m D * t
structure Bas (m D : Nat) (A : Mx) (b : Nat → Nat) : Prop where
  lt : ∀ i, i < m → b i < D
  one : ∀ i, i < m → A i (b i) = 1
  zer : ∀ i j, i < m → j ≤ m → j ≠ i → A j (b i) = 0
theorem Bas.inj {m D : Nat} {A : Mx} {b : Nat → Nat} (h : Bas m D A b) {i j : Nat} (hi : i < m) (hj : j < m) (e : b i = b j) : i = j := by
  by_cases h1 : i = j
  · exact h1
  · have h2 := h.zer j i hj (by omega) h1
    rw [← e, h.one i hi] at h2
    exact absurd h2 (by decide +kernel)
section
variable {m D : Nat} {A A' : Mx} {b : Nat → Nat} {r c : Nat}
theorem piv_row {i k : Nat} (h : i ≠ r) : pivA A r c i k = A i k - A i c * (A r k / A r c) := by unfold pivA; rw [if_neg h]
theorem piv_r (k : Nat) : pivA A r c r k = A r k / A r c := by unfold pivA; rw [if_pos rfl]
theorem piv_sum_r (x : Nat → Rat) : sm D (fun k => pivA A r c r k * x k) = sm D (fun k => A r k * x k) / A r c := by
  rw [Rat.div_def, ← sm_mul_right]
  exact sm_congr fun k _ => by rw [piv_r]; grind
theorem piv_sum {i : Nat} (h : i ≠ r) (x : Nat → Rat) : sm D (fun k => pivA A r c i k * x k) = sm D (fun k => A i k * x k) - A i c * (sm D (fun k => A r k * x k) / A r c) := by
  rw [← piv_sum_r, ← sm_mul, ← sm_sub]
  exact sm_congr fun k _ => by rw [piv_row h, piv_r]; grind
theorem piv_sol (hr : r < m) (h0 : A r c ≠ 0) {t : Rat} {x : Nat → Rat} : Sol m D (pivA A r c) t x ↔ Sol m D A t x := by
  constructor
  · intro h i hi
    have h1 := h r hr
    rw [piv_sum_r, piv_r] at h1
    have h2 : sm D (fun k => A r k * x k) = A r D * t := by grind
    by_cases e : i = r
    · subst e; exact h2
    · have h3 := h i hi
      rw [piv_sum e, piv_row e] at h3
      grind
  · intro h i hi
    have h2 := h r hr
    by_cases e : i = r
    · subst e
      rw [piv_sum_r, piv_r, h2]; grind
    · rw [piv_sum e, piv_row e, h i hi, h2]; grind
theorem piv_zv (hr : r < m) {t : Rat} {x : Nat → Rat} (h : Sol m D A t x) : Zv m D (pivA A r c) t x = Zv m D A t x := by
  unfold Zv
  rw [piv_sum (by omega), piv_row (by omega), h r hr]; grind
theorem piv_bas (h : Bas m D A b) (hr : r < m) (hc : c < D) (h0 : A r c ≠ 0) : Bas m D (pivA A r c) (upd b r c) := by
  refine ⟨fun i hi => ?_, fun i hi => ?_, fun i j hi hj hij => ?_⟩
  · by_cases e : i = r
    · subst e; rw [upd_same]; exact hc
    · rw [upd_other _ e]; exact h.lt i hi
  · by_cases e : i = r
    · subst e; rw [upd_same, piv_r]; grind
    · rw [upd_other _ e, piv_row e, h.one i hi, h.zer i r hi (by omega) (by omega)]; grind
  · by_cases e : i = r
    · subst e
      rw [upd_same, piv_row hij]; grind
    · rw [upd_other _ e]
      have h1 := h.zer i r hi (by omega) (by omega)
      by_cases e2 : j = r
      · subst e2; rw [piv_r, h1]; grind
      · rw [piv_row e2, h1, h.zer i j hi hj hij]; grind
def bv (m : Nat) (b : Nat → Nat) (y : Nat → Rat) : Nat → Rat := fun k => sm m fun i => if b i = k then y i else 0
theorem bv_at (h : Bas m D A b) (y : Nat → Rat) {i : Nat} (hi : i < m) : bv m b y (b i) = y i := by
  unfold bv
  rw [sm_one hi fun j hj e => ?_, if_pos rfl]
  rw [if_neg fun e2 => e (h.inj hj hi e2)]
theorem bv_off (y : Nat → Rat) {k : Nat} (hk : ∀ i, i < m → b i ≠ k) : bv m b y k = 0 := sm_zero fun i hi => if_neg (hk i hi)
theorem bv_sum (hb : ∀ i, i < m → b i < D) (f y : Nat → Rat) : sm D (fun k => f k * bv m b y k) = sm m fun i => f (b i) * y i := by
  have e : sm D (fun k => f k * bv m b y k) = sm D (fun k => sm m fun i => if b i = k then f k * y i else 0) :=
    sm_congr fun k _ => by
      unfold bv
      rw [← sm_mul]
      exact sm_congr fun i _ => by split <;> grind
  rw [e, sm_swap]
  refine sm_congr fun i hi => ?_
  rw [sm_one (hb i hi) fun j _ e => if_neg fun e2 => e e2.symm, if_pos rfl]
theorem bv_row (h : Bas m D A b) (y : Nat → Rat) {i : Nat} (hi : i < m) : sm D (fun k => A i k * bv m b y k) = y i := by
  rw [bv_sum h.lt, sm_one hi fun j hj e => by rw [h.zer j i hj (by omega) (by omega)]; grind, h.one i hi]; grind
theorem bv_goal (h : Bas m D A b) (y : Nat → Rat) : sm D (fun k => A m k * bv m b y k) = 0 := by
  rw [bv_sum h.lt]
  exact sm_zero fun i hi => by rw [h.zer i m hi (Nat.le_refl _) (by omega)]; grind
theorem bas_sol (h : Bas m D A b) : Sol m D A 1 (bv m b fun i => A i D) := fun i hi => by rw [bv_row h _ hi]; grind
theorem bas_zv (h : Bas m D A b) : Zv m D A 1 (bv m b fun i => A i D) = - A m D := by unfold Zv; rw [bv_goal h]; grind
def dirV (m : Nat) (A : Mx) (b : Nat → Nat) (s : Nat) : Nat → Rat := fun k => (if k = s then 1 else 0) - bv m b (fun i => A i s) k
theorem dir_sum {s : Nat} (hs : s < D) (f : Nat → Rat) : sm D (fun k => f k * dirV m A b s k) = f s - sm D (fun k => f k * bv m b (fun i => A i s) k) := by
  have e : sm D (fun k => f k * dirV m A b s k) = sm D (fun k => (if k = s then f k else 0) - f k * bv m b (fun i => A i s) k) :=
    sm_congr fun k _ => by unfold dirV; split <;> grind
  rw [e, sm_sub, sm_one hs fun j _ e => if_neg e, if_pos rfl]
theorem dir_sol (h : Bas m D A b) {s : Nat} (hs : s < D) : Sol m D A 0 (dirV m A b s) := fun i hi => by
  rw [dir_sum hs, bv_row h _ hi]; grind
theorem dir_zv (h : Bas m D A b) {s : Nat} (hs : s < D) : Zv m D A 0 (dirV m A b s) = A m s := by
  unfold Zv
  rw [dir_sum hs, bv_goal h]; grind
structure Eqv (m D : Nat) (A A' : Mx) : Prop where
  sol : ∀ t x, Sol m D A t x ↔ Sol m D A' t x
  zv : ∀ t x, Sol m D A t x → Zv m D A t x = Zv m D A' t x
theorem Eqv.refl (m D : Nat) (A : Mx) : Eqv m D A A := ⟨fun _ _ => Iff.rfl, fun _ _ _ => rfl⟩
theorem Eqv.symm (h : Eqv m D A A') : Eqv m D A' A := ⟨fun t x => (h.sol t x).symm, fun t x hs => (h.zv t x ((h.sol t x).2 hs)).symm⟩
theorem Eqv.trans {A'' : Mx} (h : Eqv m D A A') (h2 : Eqv m D A' A'') : Eqv m D A A'' :=
  ⟨fun t x => (h.sol t x).trans (h2.sol t x), fun t x hs => (h.zv t x hs).trans (h2.zv t x ((h.sol t x).1 hs))⟩
theorem eqv_piv (hr : r < m) (h0 : A r c ≠ 0) : Eqv m D A (pivA A r c) := ⟨fun _ _ => (piv_sol hr h0).symm, fun _ _ h => (piv_zv hr h).symm⟩
theorem Eqv.col (e : Eqv m D A A') (h : Bas m D A b) (h' : Bas m D A' b) {s : Nat} (hs : s < D) : (∀ i, i < m → A i s = A' i s) ∧ A m s = A' m s := by
  have hd := dir_sol h hs
  have hz := e.zv 0 _ hd
  rw [dir_zv h hs] at hz
  have hd' := (e.sol 0 _).1 hd
  refine ⟨fun i hi => ?_, ?_⟩
  · have h1 := hd' i hi
    rw [dir_sum hs, bv_row h' _ hi] at h1
    grind
  · rw [hz]; unfold Zv
    rw [dir_sum hs, bv_goal h']; grind
theorem Eqv.rhs (e : Eqv m D A A') (h : Bas m D A b) (h' : Bas m D A' b) : (∀ i, i < m → A i D = A' i D) ∧ A m D = A' m D := by
  have hd := bas_sol h
  have hz := e.zv 1 _ hd
  rw [bas_zv h] at hz
  have hd' := (e.sol 1 _).1 hd
  refine ⟨fun i hi => ?_, ?_⟩
  · have h1 := hd' i hi
    rw [bv_row h' _ hi] at h1
    grind
  · unfold Zv at hz
    rw [bv_goal h'] at hz
    grind
end
end Sx
end Go.Proofs.YtellemlhhlafcaaGreatDoor
end
section
namespace Go.Proofs.YtellemlhhlafcaaGreatDoor
open Go
namespace Sx
open M
structure Stp (m D : Nat) (ban : Option Nat) (A : Mx) (b : Nat → Nat) (r c : Nat) (A' : Mx) (b' : Nat → Nat) : Prop where
  cD : c < D
  cb : some c ≠ ban
  cp : 0 < A m c
  cf : ∀ k, k < c → some k ≠ ban → A m k ≤ 0
  rm : r < m
  rp : 0 < A r c
  rr : ∀ i, i < m → 0 < A i c → A r D / A r c ≤ A i D / A i c
  rt : ∀ i, i < m → 0 < A i c → A r D / A r c = A i D / A i c → b r ≤ b i
  pA : ∀ j, j ≤ m → ∀ k, k ≤ D → A' j k = pivA A r c j k
  pb : ∀ i, i < m → b' i = upd b r c i
theorem Bas.congr {m D : Nat} {A A' : Mx} {b b' : Nat → Nat} (h : Bas m D A b) (hA : ∀ j, j ≤ m → ∀ k, k ≤ D → A' j k = A j k) (hb : ∀ i, i < m → b' i = b i) : Bas m D A' b' := by
  refine ⟨fun i hi => ?_, fun i hi => ?_, fun i j hi hj e => ?_⟩
  · rw [hb i hi]; exact h.lt i hi
  · have := h.lt i hi
    rw [hb i hi, hA i (by omega) _ (by omega)]; exact h.one i hi
  · have := h.lt i hi
    rw [hb i hi, hA j hj _ (by omega)]; exact h.zer i j hi hj e
theorem Eqv.congr {m D : Nat} {A A' : Mx} (hA : ∀ j, j ≤ m → ∀ k, k ≤ D → A' j k = A j k) : Eqv m D A A' := by
  have e : ∀ j, j ≤ m → ∀ x : Nat → Rat, sm D (fun k => A' j k * x k) = sm D (fun k => A j k * x k) := fun j hj x => sm_congr fun k hk => by rw [hA j hj k (by omega)]
  refine ⟨fun t x => ⟨fun h i hi => ?_, fun h i hi => ?_⟩, fun t x _ => ?_⟩
  · rw [e i (by omega), hA i (by omega) D (Nat.le_refl _)]; exact h i hi
  · have := h i hi
    rwa [e i (by omega), hA i (by omega) D (Nat.le_refl _)] at this
  · unfold Zv; rw [e m (Nat.le_refl _), hA m (Nat.le_refl _) D (Nat.le_refl _)]
section
variable {m D : Nat} {ban : Option Nat} {A A' : Mx} {b b' : Nat → Nat} {r c : Nat}
theorem Stp.bas (s : Stp m D ban A b r c A' b') (h : Bas m D A b) : Bas m D A' b' :=
  (piv_bas h s.rm s.cD (fun e => by have := s.rp; rw [e] at this; exact Rat.lt_irrefl this)).congr s.pA s.pb
theorem Stp.eqv (s : Stp m D ban A b r c A' b') : Eqv m D A A' :=
  (eqv_piv s.rm (fun e => by have := s.rp; rw [e] at this; exact Rat.lt_irrefl this)).trans (Eqv.congr s.pA)
theorem div_nonneg' {a b : Rat} (ha : 0 ≤ a) (hb : 0 < b) : 0 ≤ a / b := by
  rw [Rat.div_def]; exact Rat.mul_nonneg ha (Rat.le_of_lt (Rat.inv_pos.2 hb))
theorem Stp.ratio (s : Stp m D ban A b r c A' b') (hf : ∀ i, i < m → 0 ≤ A i D) : 0 ≤ A r D / A r c := div_nonneg' (hf r s.rm) s.rp
theorem Stp.feas (s : Stp m D ban A b r c A' b') (hf : ∀ i, i < m → 0 ≤ A i D) : ∀ i, i < m → 0 ≤ A' i D := fun i hi => by
  rw [s.pA i (by omega) D (Nat.le_refl _)]
  have h0 := s.ratio hf
  by_cases e : i = r
  · subst e; rw [piv_r]; exact h0
  · rw [piv_row e]
    by_cases hp : 0 < A i c
    · have h1 := Rat.mul_le_mul_of_nonneg_left (s.rr i hi hp) (Rat.le_of_lt hp)
      have h2 : A i c * (A i D / A i c) = A i D := by grind
      grind
    · have h1 := Rat.mul_nonneg (show 0 ≤ - A i c by grind) h0
      have h2 := hf i hi
      grind
theorem Stp.goal (s : Stp m D ban A b r c A' b') (hf : ∀ i, i < m → 0 ≤ A i D) : A' m D ≤ A m D := by
  rw [s.pA m (Nat.le_refl _) D (Nat.le_refl _), piv_row (by have := s.rm; omega)]
  have h1 := Rat.mul_nonneg (Rat.le_of_lt s.cp) (s.ratio hf)
  grind
theorem Stp.still (s : Stp m D ban A b r c A' b') (e : A' m D = A m D) : A r D = 0 := by
  rw [s.pA m (Nat.le_refl _) D (Nat.le_refl _), piv_row (by have := s.rm; omega)] at e
  have h1 : A m c * (A r D / A r c) = 0 := by grind
  rcases Rat.mul_eq_zero.1 h1 with h | h
  · have := s.cp; rw [h] at this; exact absurd this Rat.lt_irrefl
  · have := s.rp
    have h2 : A r D = A r D / A r c * A r c := by grind
    rw [h2, h]; grind
theorem Stp.stay (s : Stp m D ban A b r c A' b') (e : A r D = 0) : ∀ i, i < m → A' i D = A i D := fun i hi => by
  rw [s.pA i (by omega) D (Nat.le_refl _)]
  have h0 : A r D / A r c = 0 := by rw [e]; grind
  by_cases h : i = r
  · subst h; rw [piv_r, h0, e]
  · rw [piv_row h, h0]; grind
theorem Stp.new (s : Stp m D ban A b r c A' b') (h : Bas m D A b) {i : Nat} (hi : i < m) : b i ≠ c := fun e => by
  have h1 := h.zer i m hi (Nat.le_refl _) (by omega)
  have := s.cp
  rw [← e, h1] at this
  exact Rat.lt_irrefl this
end
def Runs (m D : Nat) (ban : Option Nat) (T : Nat → Mx) (b : Nat → Nat → Nat) (r c : Nat → Nat) (N : Nat) : Prop := ∀ x, x < N → Stp m D ban (T x) (b x) (r x) (c x) (T (x + 1)) (b (x + 1))
section
variable {m D : Nat} {ban : Option Nat} {T : Nat → Mx} {b : Nat → Nat → Nat} {r c : Nat → Nat} {N : Nat}
theorem Runs.bas (h : Runs m D ban T b r c N) (h0 : Bas m D (T 0) (b 0)) : ∀ x, x ≤ N → Bas m D (T x) (b x)
  | 0, _ => h0
  | x + 1, hx => (h x (by omega)).bas (Runs.bas h h0 x (by omega))
theorem Runs.feas (h : Runs m D ban T b r c N) (h0 : ∀ i, i < m → 0 ≤ T 0 i D) : ∀ x, x ≤ N → ∀ i, i < m → 0 ≤ T x i D
  | 0, _ => h0
  | x + 1, hx => (h x (by omega)).feas (Runs.feas h h0 x (by omega))
theorem Runs.eqv (h : Runs m D ban T b r c N) {x : Nat} : ∀ d, x + d ≤ N → Eqv m D (T x) (T (x + d))
  | 0, _ => Eqv.refl _ _ _
  | d + 1, hx => (Runs.eqv h d (by omega)).trans (h (x + d) (by omega)).eqv
theorem Runs.goal (h : Runs m D ban T b r c N) (h0 : ∀ i, i < m → 0 ≤ T 0 i D) {x : Nat} : ∀ d, x + d ≤ N → T (x + d) m D ≤ T x m D
  | 0, _ => Rat.le_refl
  | d + 1, hx => Rat.le_trans ((h (x + d) (by omega)).goal (h.feas h0 _ (by omega))) (Runs.goal h h0 d (by omega))
theorem Runs.took (h : Runs m D ban T b r c N) {i k : Nat} (hi : i < m) {x : Nat} (hx : b x i ≠ k) : ∀ d, x + d ≤ N → b (x + d) i = k → ∃ w, x ≤ w ∧ w < x + d ∧ r w = i ∧ c w = k
  | 0, _, e => absurd e hx
  | d + 1, hd, e => by
    by_cases h1 : b (x + d) i = k
    · obtain ⟨w, a1, a2, a3⟩ := Runs.took h hi hx d (by omega) h1
      exact ⟨w, a1, by omega, a3⟩
    · have s := h (x + d) (by omega)
      rw [show x + (d + 1) = x + d + 1 by omega, s.pb i hi] at e
      by_cases h2 : i = r (x + d)
      · rw [h2, upd_same] at e
        exact ⟨x + d, by omega, by omega, h2.symm, e⟩
      · rw [upd_other _ h2] at e; exact absurd e h1
theorem Runs.gave (h : Runs m D ban T b r c N) {i k : Nat} (hi : i < m) {x : Nat} (hx : b x i = k) : ∀ d, x + d ≤ N → b (x + d) i ≠ k → ∃ w, x ≤ w ∧ w < x + d ∧ r w = i ∧ b w i = k
  | 0, _, e => absurd hx e
  | d + 1, hd, e => by
    by_cases h1 : b (x + d) i = k
    · have s := h (x + d) (by omega)
      rw [show x + (d + 1) = x + d + 1 by omega, s.pb i hi] at e
      by_cases h2 : i = r (x + d)
      · exact ⟨x + d, by omega, by omega, h2.symm, h1⟩
      · rw [upd_other _ h2] at e; exact absurd h1 e
    · obtain ⟨w, a1, a2, a3⟩ := Runs.gave h hi hx d (by omega) h1
      exact ⟨w, a1, by omega, a3⟩
theorem max_of (f : Nat → Nat) (p : Nat) : ∀ d, 0 < d → ∃ u, p ≤ u ∧ u < p + d ∧ ∀ w, p ≤ w → w < p + d → f w ≤ f u
  | 0, h => absurd h (by omega)
  | 1, _ => ⟨p, by omega, by omega, fun w h1 h2 => by rw [show w = p by omega]; exact Nat.le_refl _⟩
  | d + 2, _ => by
    obtain ⟨u, h1, h2, h3⟩ := max_of f p (d + 1) (by omega)
    by_cases h : f u ≤ f (p + d + 1)
    · exact ⟨p + d + 1, by omega, by omega, fun w hw1 hw2 => by
        by_cases e : w < p + (d + 1)
        · exact Nat.le_trans (h3 w hw1 e) h
        · rw [show w = p + d + 1 by omega]; exact Nat.le_refl _⟩
    · exact ⟨u, h1, by omega, fun w hw1 hw2 => by
        by_cases e : w < p + (d + 1)
        · exact h3 w hw1 e
        · rw [show w = p + d + 1 by omega]; omega⟩
theorem Runs.once (h : Runs m D ban T b r c N) (h0 : Bas m D (T 0) (b 0)) (hf : ∀ i, i < m → 0 ≤ T 0 i D) {p d : Nat} (hd : 0 < d) (hq : p + d ≤ N) (he : ∀ i, i < m → b p i = b (p + d) i) : False := by
  have hB := h.bas h0
  have hF := h.feas hf
  -- the goal's right side does not change from p to p + d
  have hpq : T p m D = T (p + d) m D := by
    have e := h.eqv (x := p) d hq
    exact (Eqv.rhs e (hB p (by omega)) ((hB (p + d) hq).congr (fun _ _ _ _ => rfl) he)).2
  have hg : ∀ w, p ≤ w → w < p + d → T (w + 1) m D = T w m D := fun w h1 h2 => by
    have a1 := h.goal hf (x := p) (w - p) (by omega)
    have a2 := h.goal hf (x := w + 1) (p + d - (w + 1)) (by omega)
    have a3 := h.goal hf (x := w) 1 (by omega)
    rw [show p + (w - p) = w by omega] at a1
    rw [show w + 1 + (p + d - (w + 1)) = p + d by omega] at a2
    exact Rat.le_antisymm a3 (by rw [← hpq] at a2; exact Rat.le_trans a1 a2)
  have hz : ∀ w, p ≤ w → w < p + d → T w (r w) D = 0 := fun w h1 h2 => (h w (by omega)).still (hg w h1 h2)
  have hs : ∀ i, i < m → ∀ k, k ≤ d → T (p + k) i D = T p i D := fun i hi k => by
    induction k with
    | zero => intro _; rfl
    | succ k ih => intro hk; rw [← ih (by omega)]; exact (h (p + k) (by omega)).stay (hz _ (by omega) (by omega)) i hi
  have hs2 : ∀ i, i < m → ∀ w, p ≤ w → w ≤ p + d → T w i D = T p i D := fun i hi w h1 h2 => by
    have := hs i hi (w - p) (by omega)
    rwa [show p + (w - p) = w by omega] at this
  -- the greatest column that comes in
  obtain ⟨u, u1, u2, umax⟩ := max_of c p d hd
  have su := h u (by omega)
  have bu := hB u (by omega)
  -- it goes out at some step v
  obtain ⟨v, v1, v2, vt⟩ : ∃ v, p ≤ v ∧ v < p + d ∧ b v (r v) = c u := by
    have hru := su.rm
    have e1 : b (u + 1) (r u) = c u := by rw [su.pb _ hru, upd_same]
    by_cases h1 : b (p + d) (r u) = c u
    · have h2 : b p (r u) = c u := by rw [he _ hru]; exact h1
      obtain ⟨w, a1, a2, a3, a4⟩ := h.gave hru h2 (u - p) (by omega) (by rw [show p + (u - p) = u by omega]; exact su.new bu hru)
      exact ⟨w, a1, by omega, by rw [a3]; exact a4⟩
    · obtain ⟨w, a1, a2, a3, a4⟩ := h.gave hru e1 (p + d - (u + 1)) (by omega) (by rw [show u + 1 + (p + d - (u + 1)) = p + d by omega]; exact h1)
      exact ⟨w, by omega, by omega, by rw [a3]; exact a4⟩
  have sv := h v (by omega)
  have bvv := hB v (by omega)
  have hsl : c v < c u := by
    have h1 := umax v v1 v2
    have h2 := sv.new bvv sv.rm
    rw [vt] at h2
    omega
  -- the direction of the column that comes in at v, valued by the goal of u
  have hE : Eqv m D (T u) (T v) := by
    rcases Nat.le_total u v with h1 | h1
    · have := h.eqv (x := u) (v - u) (by omega)
      rwa [show u + (v - u) = v by omega] at this
    · have := (h.eqv (x := v) (u - v) (by omega)).symm
      rwa [show v + (u - v) = u by omega] at this
  have hd2 := dir_sol bvv sv.cD
  have hd1 := (hE.sol 0 _).2 hd2
  have hzv := hE.zv 0 _ hd1
  rw [dir_zv bvv sv.cD] at hzv
  unfold Zv at hzv
  rw [dir_sum sv.cD, bv_sum bvv.lt] at hzv
  have hcs := su.cf _ hsl sv.cb
  have hcp := sv.cp
  have hneg : sm m (fun i => T u m (b v i) * T v i (c v)) < 0 := by grind
  obtain ⟨i, hi, hti⟩ := sm_neg_ex hneg
  -- the row's column is not in the basis at u
  have hku : ∀ j, j < m → b u j ≠ b v i := fun j hj e => by
    have h1 := bu.zer j m hj (Nat.le_refl _) (by omega)
    rw [e] at h1
    rw [h1, Rat.zero_mul] at hti
    exact Rat.lt_irrefl hti
  -- so it comes in at some step, and its row has right side 0
  have hk : ∃ w, p ≤ w ∧ w < p + d ∧ r w = i ∧ c w = b v i := by
    by_cases h1 : u < v
    · obtain ⟨w, a1, a2, a3, a4⟩ := h.took hi (hku i hi) (v - u) (by omega) (by rw [show u + (v - u) = v by omega])
      exact ⟨w, by omega, by omega, a3, a4⟩
    · by_cases h2 : b (p + d) i = b v i
      · obtain ⟨w, a1, a2, a3, a4⟩ := h.took hi (hku i hi) (p + d - u) (by omega) (by rw [show u + (p + d - u) = p + d by omega]; exact h2)
        exact ⟨w, by omega, by omega, a3, a4⟩
      · obtain ⟨w, a1, a2, a3, a4⟩ := h.took hi (x := p) (by rw [he i hi]; exact h2) (v - p) (by omega) (by rw [show p + (v - p) = v by omega])
        exact ⟨w, by omega, by omega, a3, a4⟩
  obtain ⟨w, w1, w2, w3, w4⟩ := hk
  have hr0 : T v i D = 0 := by
    have h1 := hz w w1 w2
    rw [w3, hs2 i hi w w1 (by omega), ← hs2 i hi v v1 (by omega)] at h1
    exact h1
  have hle := umax w w1 w2
  rw [w4] at hle
  rcases Nat.lt_or_eq_of_le hle with hlt | heq
  · have h1 := su.cf _ hlt (by rw [← w4]; exact (h w (by omega)).cb)
    have h2 : 0 < T v i (c v) := by
      rcases Rat.lt_iff_le_and_ne.1 hti with ⟨h3, h4⟩
      by_cases h5 : 0 < T v i (c v)
      · exact h5
      · have h6 := Rat.mul_nonneg (show 0 ≤ - T u m (b v i) by grind) (show 0 ≤ - T v i (c v) by grind)
        grind
    have h3 := sv.rt i hi h2 (by rw [hz v v1 v2, hr0]; grind)
    rw [vt] at h3
    omega
  · have h1 : i = r v := bvv.inj hi sv.rm (by rw [vt]; exact heq)
    subst h1
    rw [heq] at hti
    have h2 := Rat.mul_pos su.cp sv.rp
    grind
end
theorem alike : ∀ (M : Nat) (f : Nat → Nat) (N : Nat), (∀ x, x ≤ N → f x < M) → M ≤ N → ∃ x y, x < y ∧ y ≤ N ∧ f x = f y
  | 0, f, N, h, _ => absurd (h 0 (by omega)) (by omega)
  | M + 1, f, N, h, hN => by
    by_cases h1 : ∃ x y, x < y ∧ y ≤ N ∧ f x = f y
    · exact h1
    · exfalso
      -- take out the number that has the last value
      obtain ⟨N', rfl⟩ : ∃ N', N = N' + 1 := ⟨N - 1, by omega⟩
      have hne : ∀ x, x < N' + 1 → f x ≠ f (N' + 1) := fun x hx e => h1 ⟨x, _, hx, Nat.le_refl _, e⟩
      have hg : ∀ x, x ≤ N' → (if f x = M then f (N' + 1) else f x) < M := fun x hx => by
        have a := h x (by omega)
        have a2 := h (N' + 1) (Nat.le_refl _)
        have a3 := hne x (by omega)
        split <;> omega
      obtain ⟨x, y, hxy, hy, e⟩ := alike M (fun x => if f x = M then f (N' + 1) else f x) N' hg (by omega)
      have h2 : f x ≠ f y := fun e2 => h1 ⟨x, y, hxy, by omega, e2⟩
      have h3 := hne x (by omega)
      have h4 := hne y (by omega)
      split at e <;> split at e <;> omega
def codeB (D : Nat) (b : Nat → Nat) : Nat → Nat
  | 0 => 0
  | m + 1 => codeB D b m * D + b m
theorem codeB_lt {D : Nat} {b : Nat → Nat} : ∀ {m : Nat}, (∀ i, i < m → b i < D) → codeB D b m < D ^ m
  | 0, _ => by simp [codeB]
  | m + 1, h => by
    have h1 := codeB_lt (m := m) fun i hi => h i (by omega)
    have h2 := h m (by omega)
    rw [codeB, Nat.pow_succ]
    have h3 : (codeB D b m + 1) * D ≤ D ^ m * D := Nat.mul_le_mul_right _ h1
    rw [Nat.add_mul] at h3
    omega
theorem codeB_inj {D : Nat} {b b' : Nat → Nat} : ∀ {m : Nat}, (∀ i, i < m → b i < D) → (∀ i, i < m → b' i < D) → codeB D b m = codeB D b' m → ∀ i, i < m → b i = b' i
  | 0, _, _, _, i, hi => absurd hi (by omega)
  | m + 1, h, h', e, i, hi => by
    rw [codeB, codeB] at e
    have h1 := h m (by omega)
    have h2 := h' m (by omega)
    have e1 : b m = b' m := by
      have := congrArg (· % D) e
      simp only [Nat.mul_comm _ D, Nat.mul_add_mod, Nat.mod_eq_of_lt h1, Nat.mod_eq_of_lt h2] at this
      exact this
    have e2 : codeB D b m = codeB D b' m := by
      rw [e1] at e
      exact Nat.eq_of_mul_eq_mul_right (by omega) (Nat.add_right_cancel e)
    by_cases hm : i = m
    · subst hm; exact e1
    · exact codeB_inj (fun j hj => h j (by omega)) (fun j hj => h' j (by omega)) e2 i (by omega)
theorem bland {m D : Nat} {ban : Option Nat} {T : Nat → Mx} {b : Nat → Nat → Nat} {r c : Nat → Nat} {N : Nat} (h : Runs m D ban T b r c N) (h0 : Bas m D (T 0) (b 0)) (hf : ∀ i, i < m → 0 ≤ T 0 i D) : N < D ^ m := by
  rcases Nat.lt_or_ge N (D ^ m) with h1 | h1
  · exact h1
  · exfalso
    have hB := h.bas h0
    obtain ⟨x, y, hxy, hy, e⟩ := alike (D ^ m) (fun x => codeB D (b x) m) N (fun x hx => codeB_lt (hB x hx).lt) h1
    have e2 := codeB_inj (hB x (by omega)).lt (hB y hy).lt e
    exact h.once h0 hf (p := x) (d := y - x) (by omega) (by omega) (fun i hi => by rw [show x + (y - x) = y by omega]; exact e2 i hi)
end Sx
end Go.Proofs.YtellemlhhlafcaaGreatDoor
end
section
namespace Go.Proofs.YtellemlhhlafcaaGreatDoor
open Go
namespace Sx
open M
def skip (r i : Nat) : Nat := if i < r then i else i + 1
def sgn (r : Nat) : Rat := if r % 2 = 0 then 1 else -1
theorem sgn_succ (r : Nat) : sgn (r + 1) = - sgn r := by
  unfold sgn
  rcases Nat.mod_two_eq_zero_or_one r with h | h
  · rw [if_pos h, if_neg (by omega)]
  · rw [if_pos (by omega), if_neg (by omega)]; decide +kernel
def det : Nat → (Nat → Nat → Rat) → Rat
  | 0, _ => 1
  | n + 1, B => sm (n + 1) fun r => sgn r * B 0 r * det n fun c i => B (c + 1) (skip r i)
theorem skip_lt {r i n : Nat} (hi : i < n) : skip r i < n + 1 := by unfold skip; split <;> omega
theorem det_congr : ∀ {n : Nat} {B B' : Nat → Nat → Rat}, (∀ c, c < n → ∀ i, i < n → B c i = B' c i) → det n B = det n B'
  | 0, _, _, _ => rfl
  | n + 1, B, B', h => by
    rw [det, det]
    refine sm_congr fun r hr => ?_
    rw [h 0 (by omega) r hr, det_congr (n := n) fun c hc i hi => h (c + 1) (by omega) _ (skip_lt hi)]
theorem minor_upd (B : Nat → Nat → Rat) (j : Nat) (x : Nat → Rat) (r : Nat) : (fun c i => (upd B (j + 1) x) (c + 1) (skip r i)) = upd (fun c i => B (c + 1) (skip r i)) j (fun i => x (skip r i)) := by
  funext c i
  by_cases e : c = j
  · subst e; rw [upd_same, upd_same]
  · rw [upd_other _ e, upd_other _ (by omega)]
theorem minor_upd0 (B : Nat → Nat → Rat) (x : Nat → Rat) (r : Nat) : (fun c i => (upd B 0 x) (c + 1) (skip r i)) = (fun c i => B (c + 1) (skip r i)) := by
  funext c i
  rw [upd_other _ (by omega)]
theorem det_add : ∀ (n : Nat) (B : Nat → Nat → Rat) (j : Nat) (x y : Nat → Rat), j < n → det n (upd B j fun i => x i + y i) = det n (upd B j x) + det n (upd B j y)
  | 0, _, _, _, _, h => absurd h (by omega)
  | n + 1, B, 0, x, y, _ => by
    rw [det, det, det, ← sm_add]
    refine sm_congr fun r _ => ?_
    rw [minor_upd0, minor_upd0, minor_upd0, upd_same, upd_same, upd_same]; grind
  | n + 1, B, j + 1, x, y, h => by
    rw [det, det, det, ← sm_add]
    refine sm_congr fun r _ => ?_
    rw [minor_upd, minor_upd, minor_upd, upd_other _ (by omega), upd_other _ (by omega), upd_other _ (by omega), det_add n _ j _ _ (by omega)]; grind
theorem det_smul : ∀ (n : Nat) (B : Nat → Nat → Rat) (j : Nat) (a : Rat) (x : Nat → Rat), j < n → det n (upd B j fun i => a * x i) = a * det n (upd B j x)
  | 0, _, _, _, _, h => absurd h (by omega)
  | n + 1, B, 0, a, x, _ => by
    rw [det, det, ← sm_mul]
    refine sm_congr fun r _ => ?_
    rw [minor_upd0, minor_upd0, upd_same, upd_same]; grind
  | n + 1, B, j + 1, a, x, h => by
    rw [det, det, ← sm_mul]
    refine sm_congr fun r _ => ?_
    rw [minor_upd, minor_upd, upd_other _ (by omega), upd_other _ (by omega), det_smul n _ j _ _ (by omega)]; grind
theorem det_lin {n : Nat} (B : Nat → Nat → Rat) {j : Nat} (hj : j < n) (a : Nat → Rat) (X : Nat → Nat → Rat) : ∀ p, det n (upd B j fun i => sm p fun q => a q * X q i) = sm p fun q => a q * det n (upd B j (X q))
  | 0 => by
    have h := det_smul n B j 0 (fun _ => 0) hj
    rw [show (fun i => sm 0 fun q => a q * X q i) = (fun i : Nat => (0 : Rat) * (fun _ => (0 : Rat)) i) by funext i; simp only [sm]; grind, h]
    simp only [sm]; grind
  | p + 1 => by
    rw [show (fun i => sm (p + 1) fun q => a q * X q i) = (fun i => (fun i => sm p fun q => a q * X q i) i + (fun i => a p * X p i) i) from rfl, det_add n B j _ _ hj, det_lin B hj a X p, det_smul n B j _ _ hj]
    rfl
theorem dbl {f : Nat → Nat → Rat} : ∀ (N : Nat), (∀ r r', r ≤ r' → r' < N → f r r' + f (r' + 1) r = 0) → sm (N + 1) (fun r => sm N (f r)) = 0
  | 0, _ => sm_zero fun _ _ => rfl
  | N + 1, h => by
    rw [sm]
    have e : sm (N + 1) (fun r => sm (N + 1) (f r)) = sm (N + 1) (fun r => sm N (f r) + f r N) := sm_congr fun r _ => rfl
    rw [e, sm_add, dbl N fun r r' h1 h2 => h r r' h1 (by omega)]
    have e2 : sm (N + 1) (fun r => f r N) + sm (N + 1) (f (N + 1)) = 0 := by
      rw [← sm_add]
      exact sm_zero fun r hr => h r N (by omega) (by omega)
    grind
theorem skip_skip {r r' i : Nat} (h : r ≤ r') : skip r (skip r' i) = skip (r' + 1) (skip r i) := by
  unfold skip; repeat' split
  all_goals omega
theorem det_adj : ∀ (n : Nat) (B : Nat → Nat → Rat) (j : Nat), j + 1 < n → (∀ i, i < n → B j i = B (j + 1) i) → det n B = 0
  | 0, _, _, h, _ => absurd h (by omega)
  | 1, _, _, h, _ => absurd h (by omega)
  | n + 2, B, 0, _, h => by
    rw [det]
    have e : sm (n + 2) (fun r => sgn r * B 0 r * det (n + 1) fun c i => B (c + 1) (skip r i)) =
        sm (n + 2) (fun r => sm (n + 1) fun r' => sgn r * B 0 r * (sgn r' * B 0 (skip r r') * det n fun c i => B (c + 2) (skip r (skip r' i)))) :=
      sm_congr fun r _ => by
        rw [det, ← sm_mul]
        refine sm_congr fun r' hr' => ?_
        rw [h (skip r r') (skip_lt hr')]
    rw [e]
    refine dbl (n + 1) fun r r' h1 h2 => ?_
    have e1 : skip r r' = r' + 1 := by unfold skip; rw [if_neg (by omega)]
    have e2 : skip (r' + 1) r = r := by unfold skip; rw [if_pos (by omega)]
    have e3 : (fun c i => B (c + 2) (skip r (skip r' i))) = (fun c i => B (c + 2) (skip (r' + 1) (skip r i))) := by funext c i; rw [skip_skip h1]
    rw [e1, e2, e3, sgn_succ]; grind
  | n + 2, B, j + 1, hj, h => by
    rw [det]
    refine sm_zero fun r _ => ?_
    rw [det_adj (n + 1) _ j (by omega) fun i hi => h _ (skip_lt hi)]; grind
theorem upd_upd_ne {α : Type} (f : Nat → α) {j k : Nat} (h : j ≠ k) (x y : α) : upd (upd f j x) k y = upd (upd f k y) j x := by
  funext c
  unfold upd
  by_cases h1 : c = k
  · by_cases h2 : c = j
    · omega
    · simp [h2]
  · by_cases h2 : c = j
    · simp [h2]; intro e; exact absurd e h
    · simp [h1, h2]
theorem upd_self {α : Type} (f : Nat → α) (j : Nat) : upd f j (f j) = f := by
  funext c; unfold upd; split
  · rename_i e; rw [e]
  · rfl
theorem det_swap {n : Nat} (B : Nat → Nat → Rat) {j : Nat} (hj : j + 1 < n) (x y : Nat → Rat) : det n (upd (upd B j x) (j + 1) y) + det n (upd (upd B j y) (j + 1) x) = 0 := by
  have key : ∀ z : Nat → Rat, det n (upd (upd B j z) (j + 1) z) = 0 := fun z => det_adj n _ j hj fun i _ => by rw [upd_same, upd_other _ (by omega), upd_same]
  have swp : ∀ u v : Nat → Rat, upd (upd B j u) (j + 1) v = upd (upd B (j + 1) v) j u := fun u v => upd_upd_ne B (by omega) u v
  have h := key fun i => x i + y i
  rw [det_add n _ (j + 1) _ _ hj, swp _ x, swp _ y, det_add n _ j _ _ (by omega), det_add n _ j _ _ (by omega), ← swp x x, ← swp y x, ← swp x y, ← swp y y, key x, key y] at h
  grind
theorem det_two {n : Nat} : ∀ (d : Nat) (B : Nat → Nat → Rat) (a : Nat), a + d + 1 < n → (∀ i, i < n → B a i = B (a + d + 1) i) → det n B = 0
  | 0, B, a, hn, h => det_adj n B a hn h
  | d + 1, B, a, hn, h => by
    have h1 := det_swap B (j := a + d + 1) (n := n) (by omega) (B (a + d + 1)) (B (a + d + 1 + 1))
    rw [upd_self, upd_self] at h1
    have h2 : det n (upd (upd B (a + d + 1) (B (a + d + 1 + 1))) (a + d + 1 + 1) (B (a + d + 1))) = 0 :=
      det_two d _ a (by omega) fun i hi => by
        rw [upd_other _ (by omega), upd_other _ (by omega), upd_other _ (by omega), upd_same]
        exact h i hi
    rw [h2] at h1
    grind
theorem det_alike {n : Nat} (B : Nat → Nat → Rat) {a b : Nat} (ha : a < n) (hb : b < n) (hab : a ≠ b) (h : ∀ i, i < n → B a i = B b i) : det n B = 0 := by
  rcases Nat.lt_or_gt_of_ne hab with h1 | h1
  · exact det_two (b - a - 1) B a (by omega) (by rw [show a + (b - a - 1) + 1 = b by omega]; exact h)
  · exact det_two (a - b - 1) B b (by omega) (by rw [show b + (a - b - 1) + 1 = a by omega]; exact fun i hi => (h i hi).symm)
theorem cramer {n : Nat} (B : Nat → Nat → Rat) (y a : Nat → Rat) (h : ∀ i, i < n → a i = sm n fun q => y q * B q i) {j : Nat} (hj : j < n) : det n (upd B j a) = y j * det n B := by
  have e : det n (upd B j a) = det n (upd B j fun i => sm n fun q => y q * B q i) := det_congr fun c _ i hi => by
    by_cases e : c = j
    · subst e; rw [upd_same, upd_same]; exact h i hi
    · rw [upd_other _ e, upd_other _ e]
  rw [e, det_lin B hj, sm_one hj fun q hq hne => ?_, upd_self]
  rw [det_alike _ hj hq (Ne.symm hne) fun i _ => by rw [upd_same, upd_other _ hne]]; grind
def pf : Nat → (Nat → Rat) → Rat
  | 0, _ => 1
  | n + 1, f => f 0 * pf n fun k => f (k + 1)
theorem pf_nonneg : ∀ {n : Nat} {f : Nat → Rat}, (∀ k, k < n → 0 ≤ f k) → 0 ≤ pf n f
  | 0, _, _ => by rw [pf]; decide +kernel
  | n + 1, f, h => by rw [pf]; exact Rat.mul_nonneg (h 0 (by omega)) (pf_nonneg fun k hk => h (k + 1) (by omega))
theorem pf_le : ∀ {n : Nat} {f g : Nat → Rat}, (∀ k, k < n → 0 ≤ f k ∧ f k ≤ g k) → pf n f ≤ pf n g
  | 0, _, _, _ => Rat.le_refl
  | n + 1, f, g, h => by
    rw [pf, pf]
    have h0 := h 0 (by omega)
    have h1 : pf n (fun k => f (k + 1)) ≤ pf n (fun k => g (k + 1)) := pf_le fun k hk => h (k + 1) (by omega)
    have h2 : 0 ≤ pf n (fun k => f (k + 1)) := pf_nonneg fun k hk => (h (k + 1) (by omega)).1
    exact Rat.le_trans (Rat.mul_le_mul_of_nonneg_right h0.2 h2) (Rat.mul_le_mul_of_nonneg_left h1 (Rat.le_trans h0.1 h0.2))
theorem pf_mul : ∀ (n : Nat) (f g : Nat → Rat), pf n (fun k => f k * g k) = pf n f * pf n g
  | 0, _, _ => by simp only [pf]; grind
  | n + 1, f, g => by rw [pf, pf, pf, pf_mul n (fun k => f (k + 1)) fun k => g (k + 1)]; grind
theorem pf_congr : ∀ {n : Nat} {f g : Nat → Rat}, (∀ k, k < n → f k = g k) → pf n f = pf n g
  | 0, _, _, _ => rfl
  | n + 1, f, g, h => by rw [pf, pf, h 0 (by omega), pf_congr (n := n) fun k hk => h (k + 1) (by omega)]
theorem pf_upd : ∀ {n : Nat} (f : Nat → Rat) {j : Nat} (_ : j < n) (x : Rat), pf n (upd f j x) * f j = pf n f * x
  | 0, _, _, h, _ => absurd h (by omega)
  | n + 1, f, 0, _, x => by
    rw [pf, pf, upd_same, pf_congr (n := n) (g := fun k => f (k + 1)) fun k _ => by rw [upd_other _ (by omega)]]; grind
  | n + 1, f, j + 1, h, x => by
    have h1 := pf_upd (n := n) (fun k => f (k + 1)) (j := j) (by omega) x
    have e : pf n (fun k => upd f (j + 1) x (k + 1)) = pf n (upd (fun k => f (k + 1)) j x) := pf_congr fun k _ => by
      by_cases e : k = j
      · subst e; rw [upd_same, upd_same]
      · rw [upd_other _ e, upd_other _ (by omega)]
    rw [pf, pf, e, upd_other _ (by omega)]
    have h2 : f 0 * (pf n (upd (fun k => f (k + 1)) j x) * f (j + 1)) = f 0 * (pf n (fun k => f (k + 1)) * x) := by rw [h1]
    grind
def ab (x : Rat) : Rat := if 0 ≤ x then x else -x
theorem ab_nonneg (x : Rat) : 0 ≤ ab x := by unfold ab; split <;> grind
theorem ab_add (x y : Rat) : ab (x + y) ≤ ab x + ab y := by unfold ab; repeat' split
                                                            all_goals grind
theorem ab_mul (x y : Rat) : ab (x * y) = ab x * ab y := by
  unfold ab
  by_cases hx : 0 ≤ x <;> by_cases hy : 0 ≤ y
  · rw [if_pos hx, if_pos hy, if_pos (Rat.mul_nonneg hx hy)]
  · have h := Rat.mul_nonneg hx (show 0 ≤ -y by grind)
    rw [if_pos hx, if_neg hy]
    split <;> grind
  · have h := Rat.mul_nonneg (show 0 ≤ -x by grind) hy
    rw [if_neg hx, if_pos hy]
    split <;> grind
  · have h := Rat.mul_nonneg (show 0 ≤ -x by grind) (show 0 ≤ -y by grind)
    rw [if_neg hx, if_neg hy, if_pos (by grind)]; grind
theorem ab_sgn (r : Nat) : ab (sgn r) = 1 := by unfold sgn; split <;> decide +kernel
theorem ab_sm : ∀ (n : Nat) (f : Nat → Rat), ab (sm n f) ≤ sm n fun k => ab (f k)
  | 0, _ => by simp only [sm]; decide +kernel
  | n + 1, f => by
    rw [sm, sm]
    have h1 := ab_add (sm n f) (f n)
    have h2 := ab_sm n f
    grind
theorem sm_skip : ∀ (n : Nat) (g : Nat → Rat) (r : Nat), r ≤ n → sm (n + 1) g = sm n (fun i => g (skip r i)) + g r
  | 0, g, r, h => by
    obtain rfl : r = 0 := by omega
    rfl
  | n + 1, g, r, h => by
    by_cases e : r = n + 1
    · subst e
      rw [sm, sm_congr (n := n + 1) (f := fun i => g (skip (n + 1) i)) (g := g) fun k hk => by unfold skip; rw [if_pos hk]]
    · rw [sm, sm_skip n g r (by omega)]
      show _ = sm n (fun i => g (skip r i)) + g (skip r n) + g r
      have e2 : skip r n = n + 1 := by unfold skip; rw [if_neg (by omega)]
      rw [e2]; grind
theorem det_ab : ∀ (n : Nat) (B : Nat → Nat → Rat), ab (det n B) ≤ pf n fun c => sm n fun i => ab (B c i)
  | 0, _ => by simp only [det, pf]; decide +kernel
  | n + 1, B => by
    rw [det, pf]
    have h1 : ∀ r, r < n + 1 → ab (sgn r * B 0 r * det n fun c i => B (c + 1) (skip r i)) ≤ ab (B 0 r) * pf n fun c => sm (n + 1) fun i => ab (B (c + 1) i) := fun r hr => by
      rw [ab_mul, ab_mul, ab_sgn]
      have h2 := det_ab n fun c i => B (c + 1) (skip r i)
      have h3 : pf n (fun c => sm n fun i => ab (B (c + 1) (skip r i))) ≤ pf n fun c => sm (n + 1) fun i => ab (B (c + 1) i) := pf_le fun c _ => by
        refine ⟨sm_nonneg fun i _ => ab_nonneg _, ?_⟩
        rw [sm_skip n (fun i => ab (B (c + 1) i)) r (by omega)]
        have := ab_nonneg (B (c + 1) r)
        grind
      have h4 := Rat.mul_le_mul_of_nonneg_left (Rat.le_trans h2 h3) (ab_nonneg (B 0 r))
      grind
    refine Rat.le_trans (ab_sm _ _) (Rat.le_trans (sm_le h1) ?_)
    rw [sm_mul_right]
    exact Rat.le_refl
theorem det_scale : ∀ (n : Nat) (s : Nat → Rat) (B : Nat → Nat → Rat), det n (fun c i => s c * B c i) = pf n s * det n B
  | 0, _, _ => by simp only [det, pf]; grind
  | n + 1, s, B => by
    rw [det, det, pf, ← sm_mul]
    refine sm_congr fun r _ => ?_
    rw [det_scale n (fun c => s (c + 1)) fun c i => B (c + 1) (skip r i)]; grind
def IsI (x : Rat) : Prop := ∃ z : Int, x = (z : Rat)
theorem IsI.add {x y : Rat} (h : IsI x) (h2 : IsI y) : IsI (x + y) := by
  obtain ⟨a, rfl⟩ := h; obtain ⟨b, rfl⟩ := h2; exact ⟨a + b, (Rat.intCast_add a b).symm⟩
theorem IsI.mul {x y : Rat} (h : IsI x) (h2 : IsI y) : IsI (x * y) := by
  obtain ⟨a, rfl⟩ := h; obtain ⟨b, rfl⟩ := h2; exact ⟨a * b, (Rat.intCast_mul a b).symm⟩
theorem IsI.sm : ∀ {n : Nat} {f : Nat → Rat}, (∀ k, k < n → IsI (f k)) → IsI (sm n f)
  | 0, _, _ => ⟨0, rfl⟩
  | n + 1, f, h => by rw [Sx.sm]; exact (IsI.sm fun k hk => h k (by omega)).add (h n (by omega))
theorem IsI.sgn (r : Nat) : IsI (sgn r) := by unfold Sx.sgn; split; exact ⟨1, rfl⟩; exact ⟨-1, by decide +kernel⟩
theorem IsI.det : ∀ {n : Nat} {B : Nat → Nat → Rat}, (∀ c, c < n → ∀ i, i < n → IsI (B c i)) → IsI (det n B)
  | 0, _, _ => ⟨1, rfl⟩
  | n + 1, B, h => by
    rw [Sx.det]
    exact IsI.sm fun r hr => ((IsI.sgn r).mul (h 0 (by omega) r hr)).mul (IsI.det fun c hc i hi => h (c + 1) (by omega) _ (skip_lt hi))
end Sx
end Go.Proofs.YtellemlhhlafcaaGreatDoor
end
section
namespace Go.Proofs.YtellemlhhlafcaaGreatDoor
open Go
namespace Sx
open M
structure Laid (n m : Nat) (E : Mx) : Prop where
  neg : ∀ i, i < m → ∀ k, k < n → E i (n + k) = - E i k
  slk : ∀ i, i < m → ∀ j, j < m → E i (2 * n + j) = if i = j then 1 else 0
  art : ∀ i, i < m → E i (2 * n + m) = -1
structure Inv (n m : Nat) (E A : Mx) (b : Nat → Nat) : Prop where
  bas : Bas m (wdt n m) A b
  sol : ∀ t x, Sol m (wdt n m) A t x ↔ Sol m (wdt n m) E t x
  dt : det m (fun c r => E r (b c)) ≠ 0
theorem sm_head : ∀ (m : Nat) (f : Nat → Rat), sm (m + 1) f = f 0 + sm m fun k => f (k + 1)
  | 0, f => by simp only [sm]; grind
  | m + 1, f => by rw [sm, sm_head m f, sm]; grind
section
variable {n m : Nat} {E A A' : Mx} {b b' : Nat → Nat}
theorem Inv.comb (h : Inv n m E A b) {s : Nat} (hs : s ≤ wdt n m) {r : Nat} (hr : r < m) : E r s = sm m fun i => A i s * E r (b i) := by
  have e : sm m (fun i => A i s * E r (b i)) = sm m (fun i => E r (b i) * A i s) := sm_congr fun i _ => Rat.mul_comm _ _
  rw [e]
  rcases Nat.lt_or_eq_of_le hs with h1 | h1
  · have h2 := (h.sol 0 _).1 (dir_sol h.bas h1) r hr
    rw [dir_sum h1, bv_sum h.bas.lt] at h2
    grind
  · have h2 := (h.sol 1 _).1 (bas_sol h.bas) r hr
    rw [bv_sum h.bas.lt] at h2
    rw [h1]; grind
theorem Inv.piv (h : Inv n m E A b) {r c : Nat} (hr : r < m) (hc : c < wdt n m) (h0 : A r c ≠ 0) (pA : ∀ j, j ≤ m → ∀ k, k ≤ wdt n m → A' j k = pivA A r c j k) (pb : ∀ i, i < m → b' i = upd b r c i) : Inv n m E A' b' := by
  refine ⟨(piv_bas h.bas hr hc h0).congr pA pb, fun t x => ((Eqv.congr pA).sol t x).symm.trans ((piv_sol hr h0).trans (h.sol t x)), ?_⟩
  have h1 := cramer (n := m) (fun c r => E r (b c)) (fun i => A i c) (fun i => E i c) (fun i hi => h.comb (by omega) hi) hr
  have e : det m (fun c r => E r (b' c)) = det m (upd (fun c r => E r (b c)) r fun i => E i c) := det_congr fun q hq i _ => by
    rw [pb q hq]
    by_cases e : q = r
    · subst e; rw [upd_same, upd_same]
    · rw [upd_other _ e, upd_other _ e]
  rw [e, h1]
  intro h2
  rcases Rat.mul_eq_zero.1 h2 with h3 | h3
  · exact h0 h3
  · exact h.dt h3
def zc (m : Nat) (A : Mx) (b : Nat → Nat) (c : Nat → Rat) (s : Nat) : Rat := c s - sm m fun i => A i s * c (b i)
def xt (E : Mx) (c : Nat → Rat) (s : Nat) : Nat → Rat
  | 0 => c s
  | r + 1 => E r s
def XB (E : Mx) (c : Nat → Rat) (b : Nat → Nat) : Nat → Nat → Rat
  | 0 => fun r => if r = 0 then 1 else 0
  | q + 1 => xt E c (b q)
theorem XB_zero (c : Nat → Rat) (r : Nat) : XB E c b 0 r = if r = 0 then 1 else 0 := rfl
theorem XB_det (c : Nat → Rat) : det (m + 1) (XB E c b) = det m fun q r => E r (b q) := by
  rw [det, sm_one (k := 0) (by omega) fun r _ e => by
    show sgn r * (if r = 0 then 1 else 0) * _ = 0
    rw [if_neg e]; grind]
  show sgn 0 * (if 0 = 0 then 1 else 0) * det m (fun q i => XB E c b (q + 1) (skip 0 i)) = _
  have e : (fun q i => XB E c b (q + 1) (skip 0 i)) = fun q r => E r (b q) := rfl
  rw [e, if_pos rfl]
  unfold sgn
  rw [if_pos (by decide)]; grind
def ys (m : Nat) (A : Mx) (b : Nat → Nat) (c : Nat → Rat) (s : Nat) : Nat → Rat
  | 0 => zc m A b c s
  | i + 1 => A i s
theorem Inv.xt_comb (h : Inv n m E A b) (c : Nat → Rat) {s : Nat} (hs : s ≤ wdt n m) {r : Nat} (hr : r < m + 1) : xt E c s r = sm (m + 1) fun q => ys m A b c s q * XB E c b q r := by
  rw [sm_head]
  cases r with
  | zero =>
    show c s = zc m A b c s * (if 0 = 0 then 1 else 0) + sm m (fun i => A i s * c (b i))
    rw [if_pos rfl]; unfold zc; grind
  | succ r =>
    show E r s = zc m A b c s * (if r + 1 = 0 then 1 else 0) + sm m (fun i => A i s * E r (b i))
    rw [if_neg (by omega), ← h.comb hs (by omega)]; grind
theorem ab_int (a : Int) : ab (a : Rat) = (a.natAbs : Rat) := by
  unfold ab
  by_cases h : 0 ≤ a
  · rw [if_pos (Rat.intCast_nonneg.2 h)]
    obtain ⟨k, rfl⟩ : ∃ k : Nat, a = k := ⟨a.natAbs, by omega⟩
    rw [Int.natAbs_natCast]; rfl
  · have h1 : ¬ (0 : Rat) ≤ (a : Rat) := fun e => h (Rat.intCast_nonneg.1 e)
    rw [if_neg h1]
    obtain ⟨k, rfl⟩ : ∃ k : Nat, a = -(k : Int) := ⟨a.natAbs, by omega⟩
    rw [Rat.intCast_neg, Int.natAbs_neg, Int.natAbs_natCast, Rat.neg_neg]; rfl
theorem nat_lt_of {a e : Nat} {x : Rat} (h : (a : Rat) ≤ x) (h2 : x < ((10 ^ e : Nat) : Rat)) : a < 10 ^ e := by
  rcases Nat.lt_or_ge a (10 ^ e) with h3 | h3
  · exact h3
  · have h4 := Rat.natCast_le_natCast.2 h3
    have h5 : ((10 ^ e : Nat) : Rat) ≤ x := Rat.le_trans h4 h
    exact absurd (show x < x by grind) Rat.lt_irrefl
theorem frac_bq {y P Q M' : Rat} {e : Nat} (hP : IsI P) (hQ : IsI Q) (h0 : Q ≠ 0) (h : y * Q = P) (hp : ab P ≤ M') (hq : ab Q ≤ M') (hM : M' < ((10 ^ e : Nat) : Rat)) : Bq e y := by
  obtain ⟨a, rfl⟩ := hP
  obtain ⟨d, rfl⟩ := hQ
  have hd : d ≠ 0 := fun e => h0 (by rw [e]; rfl)
  have hy : y = Rat.divInt a d := by rw [Rat.divInt_eq_div]; grind
  rw [ab_int] at hp hq
  have ha := nat_lt_of hp hM
  have hb := nat_lt_of hq hM
  rw [hy]
  refine ⟨?_, ?_⟩
  · rw [Rat.num_divInt]
    refine Nat.lt_of_le_of_lt ?_ ha
    rw [Int.natAbs_ediv_of_dvd (by
      exact Int.dvd_mul_of_dvd_right (Int.gcd_dvd_right ..)), Int.natAbs_mul]
    have h1 : d.sign.natAbs ≤ 1 := by rw [Int.natAbs_sign]; split <;> omega
    refine Nat.le_trans (Nat.div_le_self _ _) ?_
    have := Nat.mul_le_mul_right a.natAbs h1
    omega
  · rw [Rat.den_divInt, if_neg hd]
    exact Nat.lt_of_le_of_lt (Nat.div_le_self _ _) hb
theorem pf_pos : ∀ {n : Nat} {f : Nat → Rat}, (∀ k, k < n → 0 < f k) → 0 < pf n f
  | 0, _, _ => by rw [pf]; decide +kernel
  | n + 1, f, h => by rw [pf]; exact Rat.mul_pos (h 0 (by omega)) (pf_pos fun k hk => h (k + 1) (by omega))
set_option maxHeartbeats 1000000 in
/-- How long a part of column s can be: weights for the columns. -/
theorem Inv.part (h : Inv n m E A b) (c : Nat → Rat) {s : Nat} (hs : s ≤ wdt n m) (σ Wt : Nat → Rat) (e : Nat)
    (hI : ∀ k, k ≤ wdt n m → IsI (σ k) ∧ 1 ≤ σ k ∧ σ k ≤ Wt k ∧ ∀ r, r < m + 1 → IsI (σ k * xt E c k r)) (hW : ∀ k, k ≤ wdt n m → sm (m + 1) (fun r => ab (σ k * xt E c k r)) ≤ Wt k)
    (hM : pf m (fun q => Wt (b q)) * Wt s < ((10 ^ e : Nat) : Rat)) {j : Nat} (hj : j < m + 1) : Bq e (ys m A b c s j) := by
  have hblt := h.bas.lt
  obtain ⟨τ, hτ⟩ : ∃ τ : Nat → Rat, τ = fun q => match q with | 0 => 1 | q + 1 => σ (b q) := ⟨_, rfl⟩
  obtain ⟨Wv, hWv⟩ : ∃ Wv : Nat → Rat, Wv = fun q => match q with | 0 => 1 | q + 1 => Wt (b q) := ⟨_, rfl⟩
  have t0 : τ 0 = 1 := by rw [hτ]
  have ts : ∀ q, τ (q + 1) = σ (b q) := fun q => by rw [hτ]
  have w0 : Wv 0 = 1 := by rw [hWv]
  have ws : ∀ q, Wv (q + 1) = Wt (b q) := fun q => by rw [hWv]
  clear hτ hWv
  have hτ1 : ∀ q, q < m + 1 → 1 ≤ τ q ∧ τ q ≤ Wv q ∧ IsI (τ q) := fun q hq => by
    cases q with
    | zero => rw [t0, w0]; exact ⟨Rat.le_refl, Rat.le_refl, ⟨1, rfl⟩⟩
    | succ q =>
      have h1 := hI (b q) (Nat.le_of_lt (hblt q (by omega)))
      rw [ts, ws]; exact ⟨h1.2.1, h1.2.2.1, h1.1⟩
  have hXI : ∀ q, q < m + 1 → ∀ i, i < m + 1 → IsI (τ q * XB E c b q i) := fun q hq i hi => by
    cases q with
    | zero =>
      rw [t0, XB_zero]
      split
      · exact ⟨1, by decide +kernel⟩
      · exact ⟨0, by decide +kernel⟩
    | succ q => rw [ts]; exact (hI (b q) (Nat.le_of_lt (hblt q (by omega)))).2.2.2 i hi
  have hXW : ∀ q, q < m + 1 → sm (m + 1) (fun i => ab (τ q * XB E c b q i)) ≤ Wv q := fun q hq => by
    cases q with
    | zero =>
      have e1 : ∀ i, i < m + 1 → i ≠ 0 → ab (τ 0 * XB E c b 0 i) = 0 := fun i _ e => by rw [t0, XB_zero, if_neg e]; decide +kernel
      have e2 : ab (τ 0 * XB E c b 0 0) = 1 := by rw [t0, XB_zero, if_pos rfl]; decide +kernel
      rw [w0, sm_one (k := 0) (by omega) e1, e2]
      exact Rat.le_refl
    | succ q => rw [ts, ws]; exact hW (b q) (Nat.le_of_lt (hblt q (by omega)))
  have hsI := hI s hs
  have hsW := hW s hs
  -- the two determinants
  obtain ⟨dB, hdB⟩ : ∃ d, d = det (m + 1) (XB E c b) := ⟨_, rfl⟩
  have hY := det_scale (m + 1) τ (XB E c b)
  have hZ := det_scale (m + 1) (upd τ j (σ s)) (upd (XB E c b) j (xt E c s))
  rw [cramer (XB E c b) (ys m A b c s) (xt E c s) (fun i hi => h.xt_comb c hs hi) hj, ← hdB] at hZ
  rw [← hdB] at hY
  have hpu := pf_upd (n := m + 1) τ hj (σ s)
  have hYI : IsI (det (m + 1) fun q i => τ q * XB E c b q i) := IsI.det hXI
  have hZI : IsI (det (m + 1) fun q i => upd τ j (σ s) q * upd (XB E c b) j (xt E c s) q i) := IsI.det fun q hq i hi => by
    by_cases e : q = j
    · subst e; rw [upd_same, upd_same]; exact hsI.2.2.2 i hi
    · rw [upd_other _ e, upd_other _ e]; exact hXI q hq i hi
  have hYB := det_ab (m + 1) fun q i => τ q * XB E c b q i
  have hZB := det_ab (m + 1) fun q i => upd τ j (σ s) q * upd (XB E c b) j (xt E c s) q i
  have hYB2 : ab (det (m + 1) fun q i => τ q * XB E c b q i) ≤ pf (m + 1) Wv := Rat.le_trans hYB (pf_le fun q hq => ⟨sm_nonneg fun _ _ => ab_nonneg _, hXW q hq⟩)
  have hZB2 : ab (det (m + 1) fun q i => upd τ j (σ s) q * upd (XB E c b) j (xt E c s) q i) ≤ pf (m + 1) (upd Wv j (Wt s)) := Rat.le_trans hZB (pf_le fun q hq => ⟨sm_nonneg fun _ _ => ab_nonneg _, by
    by_cases e : q = j
    · subst e; simp only [upd_same]
      exact hsW
    · simp only [upd_other _ e]
      exact hXW q hq⟩)
  have hwu := pf_upd (n := m + 1) Wv hj (Wt s)
  have hpW : pf (m + 1) Wv = pf m fun q => Wt (b q) := by
    rw [pf, w0, pf_congr (g := fun q => Wt (b q)) fun q _ => ws q]; grind
  rw [← hpW] at hM
  have hdB0 : dB ≠ 0 := by rw [hdB, XB_det]; exact h.dt
  have hτp : 0 < pf (m + 1) τ := pf_pos fun q hq => by have := (hτ1 q hq).1; grind
  generalize (det (m + 1) fun q i => τ q * XB E c b q i) = Y at *
  generalize (det (m + 1) fun q i => upd τ j (σ s) q * upd (XB E c b) j (xt E c s) q i) = Z at *
  generalize ys m A b c s j = y at *
  obtain ⟨h1, h2, h3⟩ := hτ1 j hj
  have hσ0 : 0 < σ s := by have := hsI.2.1; grind
  have hWs : 0 ≤ Wt s := by have := hsI.2.2.1; grind
  have hWvp : 0 ≤ pf (m + 1) Wv := pf_nonneg fun q hq => by have := hτ1 q hq; grind
  have hWup : 0 ≤ pf (m + 1) (upd Wv j (Wt s)) := pf_nonneg fun q hq => by
    by_cases e : q = j
    · subst e; rw [upd_same]; exact hWs
    · rw [upd_other _ e]; have := hτ1 q hq; grind
  refine frac_bq (y := y) (P := Z * τ j) (Q := Y * σ s) (M' := pf (m + 1) Wv * Wt s) (hZI.mul h3) (hYI.mul hsI.1) ?_ ?_ ?_ ?_ hM
  · intro e
    rw [hY] at e
    rcases Rat.mul_eq_zero.1 e with e | e
    · rcases Rat.mul_eq_zero.1 e with e | e
      · rw [e] at hτp; exact Rat.lt_irrefl hτp
      · exact hdB0 e
    · rw [e] at hσ0; exact Rat.lt_irrefl hσ0
  · rw [hY, hZ]
    have : pf (m + 1) (upd τ j (σ s)) * τ j * (y * dB) = pf (m + 1) τ * σ s * (y * dB) := by rw [hpu]
    grind
  · rw [ab_mul, ← hwu]
    have e1 : ab (τ j) = τ j := by unfold ab; rw [if_pos (by grind)]
    rw [e1]
    exact Rat.le_trans (Rat.mul_le_mul_of_nonneg_right hZB2 (by grind)) (Rat.mul_le_mul_of_nonneg_left h2 hWup)
  · rw [ab_mul]
    have e1 : ab (σ s) = σ s := by unfold ab; rw [if_pos (by grind)]
    rw [e1]
    exact Rat.le_trans (Rat.mul_le_mul_of_nonneg_right hYB2 (by grind)) (Rat.mul_le_mul_of_nonneg_left hsI.2.2.1 hWvp)
end
end Sx
end Go.Proofs.YtellemlhhlafcaaGreatDoor
end
section
namespace Go.Proofs.YtellemlhhlafcaaGreatDoor
open Go
namespace Sx
open M
theorem pf_one : ∀ (n : Nat), pf n (fun _ => 1) = 1
  | 0 => rfl
  | n + 1 => by rw [pf, pf_one n]; grind
theorem pf_swap : ∀ (m N : Nat) (g : Nat → Nat → Rat), pf m (fun q => pf N fun u => g q u) = pf N fun u => pf m fun q => g q u
  | 0, N, g => by
    simp only [pf]
    exact (pf_one N).symm
  | m + 1, N, g => by
    rw [pf, pf_swap m N fun q u => g (q + 1) u, ← pf_mul]
    exact pf_congr fun u _ => rfl
theorem pf_atmost : ∀ {m : Nat} {p : Nat → Prop} [DecidablePred p] {x : Rat}, 1 ≤ x → (∀ q q', q < m → q' < m → p q → p q' → q = q') → pf m (fun q => if p q then x else 1) ≤ x
  | 0, _, _, _, hx, _ => by rw [pf]; exact hx
  | m + 1, p, _, x, hx, h => by
    rw [pf]
    by_cases h0 : p 0
    · rw [if_pos h0, pf_congr (g := fun _ => 1) fun k hk => if_neg fun e => by have := h 0 (k + 1) (by omega) (by omega) h0 e; omega, pf_one]
      grind
    · rw [if_neg h0]
      have := pf_atmost (m := m) (p := fun k => p (k + 1)) hx fun q q' hq hq' a b => by have := h (q + 1) (q' + 1) (by omega) (by omega) a b; omega
      grind
theorem pf_pick : ∀ (N k : Nat) (w : Nat → Rat), pf N (fun u => if k = u then w u else 1) = if k < N then w k else 1
  | 0, k, w => by rw [pf, if_neg (by omega)]
  | N + 1, 0, w => by
    rw [pf, if_pos rfl, pf_congr (g := fun _ => 1) fun u _ => if_neg (by omega), pf_one, if_pos (by omega)]; grind
  | N + 1, k + 1, w => by
    have e : pf N (fun u => if k + 1 = u + 1 then w (u + 1) else 1) = pf N (fun u => if k = u then (fun u => w (u + 1)) u else 1) := pf_congr fun u _ => by
      by_cases e : k = u
      · rw [if_pos (by omega), if_pos e]
      · rw [if_neg (by omega), if_neg e]
    rw [pf, if_neg (by omega), e, pf_pick N k fun u => w (u + 1)]
    by_cases h : k < N
    · rw [if_pos h, if_pos (by omega)]; grind
    · rw [if_neg h, if_neg (by omega)]; grind
theorem pf_const : ∀ (n : Nat) (Q P : Rat), pf (n + 1) (fun u => if u < n then Q else P) = pf n (fun _ => Q) * P
  | 0, Q, P => by simp only [pf]; rw [if_neg (by omega)]; grind
  | n + 1, Q, P => by
    have e : pf (n + 1) (fun u => if u + 1 < n + 1 then Q else P) = pf (n + 1) fun u => if u < n then Q else P := pf_congr fun u _ => by
      by_cases h : u < n
      · rw [if_pos (by omega), if_pos h]
      · rw [if_neg (by omega), if_neg h]
    rw [pf, if_pos (by omega), e, pf_const n Q P, pf]; grind
section
variable {n m : Nat} {E A : Mx} {b : Nat → Nat}
theorem Inv.pair (L : Laid n m E) (h : Inv n m E A b) {k : Nat} (hk : k < n) {i : Nat} (hi : i < m) : A i k + A i (n + k) = 0 := by
  have hw : n + k < wdt n m := by unfold wdt; omega
  have hv : ∀ f : Nat → Rat, sm (wdt n m) (fun j => f j * ((if j = k then 1 else 0) + if j = n + k then 1 else 0)) = f k + f (n + k) := fun f => by
    have e : sm (wdt n m) (fun j => f j * ((if j = k then 1 else 0) + if j = n + k then 1 else 0)) = sm (wdt n m) (fun j => (if j = k then f j else 0) + if j = n + k then f j else 0) :=
      sm_congr fun j _ => by split <;> split <;> grind
    rw [e, sm_add, sm_one (k := k) (by omega) fun j _ e => if_neg e, sm_one (k := n + k) hw fun j _ e => if_neg e, if_pos rfl, if_pos rfl]
  have h1 : Sol m (wdt n m) E 0 fun j => (if j = k then 1 else 0) + if j = n + k then 1 else 0 := fun r hr => by
    rw [hv, L.neg r hr k hk]; grind
  have h2 := (h.sol 0 _).2 h1 i hi
  rw [hv] at h2
  rw [h2]; grind
theorem Inv.nopair (L : Laid n m E) (h : Inv n m E A b) {k : Nat} (hk : k < n) {i j : Nat} (hi : i < m) (hj : j < m) (e1 : b i = k) (e2 : b j = n + k) : False := by
  have h1 := h.pair L hk hi
  have h2 := h.bas.one i hi
  have h3 : i ≠ j := fun e => by subst e; omega
  have h4 := h.bas.zer j i hj (by omega) h3
  rw [e1] at h2
  rw [e2] at h4
  rw [h2, h4] at h1
  exact absurd h1 (by decide +kernel)
def WtF (n m : Nat) (Q P : Rat) (k : Nat) : Rat := if k < 2 * n then Q else if k = 2 * n + m then P else if k = 2 * n + m + 1 then Q else 1
def cls (n m k : Nat) : Nat := if k < n then k else if k < 2 * n then k - n else if k = 2 * n + m then n else n + 1
theorem Inv.prod (L : Laid n m E) (h : Inv n m E A b) {Q P : Rat} (hQ : 1 ≤ Q) (hP : 1 ≤ P) : pf m (fun q => WtF n m Q P (b q)) ≤ pf n (fun _ => Q) * P := by
  have e : pf m (fun q => WtF n m Q P (b q)) = pf m (fun q => pf (n + 1) fun u => if cls n m (b q) = u then (fun u => if u < n then Q else P) u else 1) := pf_congr fun q hq => by
    have := h.bas.lt q hq
    rw [pf_pick]
    unfold WtF cls
    unfold wdt at this
    by_cases h1 : b q < n
    · rw [if_pos (show b q < 2 * n by omega), if_pos h1, if_pos (by omega)]
      simp only [if_pos h1]
    · by_cases h2 : b q < 2 * n
      · rw [if_pos h2, if_neg h1, if_pos h2, if_pos (by omega)]
        simp only [if_pos (show b q - n < n by omega)]
      · by_cases h3 : b q = 2 * n + m
        · rw [if_neg h2, if_pos h3, if_neg h1, if_neg h2, if_pos h3, if_pos (by omega)]
          simp only [if_neg (show ¬ n < n by omega)]
        · rw [if_neg h2, if_neg h3, if_neg (by omega), if_neg h1, if_neg h2, if_neg h3, if_neg (by omega)]
  rw [e, pf_swap, ← pf_const]
  refine pf_le fun u hu => ⟨pf_nonneg fun q _ => ?_, ?_⟩
  · split
    · show 0 ≤ if u < n then Q else P
      split <;> grind
    · decide +kernel
  · refine pf_atmost (p := fun q => cls n m (b q) = u) (x := if u < n then Q else P) (by split <;> assumption) fun q q' hq hq' a a' => ?_
    have c1 := h.bas.lt q hq
    have c2 := h.bas.lt q' hq'
    by_cases hb : b q = b q'
    · exact h.bas.inj hq hq' hb
    · exfalso
      unfold cls at a a'
      unfold wdt at c1 c2
      by_cases k1 : b q < n
      · rw [if_pos k1] at a
        by_cases k2 : b q' < n
        · rw [if_pos k2] at a'; omega
        · rw [if_neg k2] at a'
          by_cases k3 : b q' < 2 * n
          · rw [if_pos k3] at a'
            exact h.nopair L (k := b q) k1 hq hq' rfl (by omega)
          · rw [if_neg k3] at a'; split at a' <;> omega
      · rw [if_neg k1] at a
        by_cases k3 : b q < 2 * n
        · rw [if_pos k3] at a
          by_cases k2 : b q' < n
          · rw [if_pos k2] at a'
            exact h.nopair L (k := b q') k2 hq' hq rfl (by omega)
          · rw [if_neg k2] at a'
            by_cases k4 : b q' < 2 * n
            · rw [if_pos k4] at a'; omega
            · rw [if_neg k4] at a'; split at a' <;> omega
        · rw [if_neg k3] at a
          by_cases k5 : b q = 2 * n + m
          · rw [if_pos k5] at a
            by_cases k2 : b q' < n
            · rw [if_pos k2] at a'; omega
            · rw [if_neg k2] at a'
              by_cases k4 : b q' < 2 * n
              · rw [if_pos k4] at a'; omega
              · rw [if_neg k4] at a'
                by_cases k6 : b q' = 2 * n + m
                · omega
                · rw [if_neg k6] at a'; omega
          · rw [if_neg k5] at a; omega
structure Szd (n m : Nat) (E : Mx) (c : Nat → Rat) (Q : Rat) : Prop where
  slk : ∀ j, j < m → c (2 * n + j) = 0
  artI : IsI (c (2 * n + m))
  art : ab (c (2 * n + m)) ≤ 1
  col : ∃ σ : Nat → Rat, ∀ k, (k < 2 * n ∨ k = 2 * n + m + 1) → IsI (σ k) ∧ 1 ≤ σ k ∧ σ k ≤ Q ∧ (∀ r, r < m + 1 → IsI (σ k * xt E c k r)) ∧ sm (m + 1) (fun r => ab (σ k * xt E c k r)) ≤ Q
def Fits (n m : Nat) (Q : Rat) (e : Nat) : Prop := ((m + 1 : Nat) : Rat) ≤ Q ∧ (pf n (fun _ => Q) * ((m + 1 : Nat) : Rat) * Q < ((10 ^ e : Nat) : Rat) ∨ pf m (fun _ => Q) * Q < ((10 ^ e : Nat) : Rat))
theorem one_le_cast (m : Nat) : (1 : Rat) ≤ ((m + 1 : Nat) : Rat) := by
  have := Rat.natCast_le_natCast.2 (show 1 ≤ m + 1 by omega)
  exact this
theorem Inv.size (L : Laid n m E) (h : Inv n m E A b) {c : Nat → Rat} {Q : Rat} {e : Nat} (hc : Szd n m E c Q) (hF : Fits n m Q e) {s : Nat} (hs : s ≤ wdt n m) {j : Nat} (hj : j < m + 1) : Bq e (ys m A b c s j) := by
  obtain ⟨σ, hσ⟩ := hc.col
  obtain ⟨hmQ, hM⟩ := hF
  have hP1 := one_le_cast m
  have hQ1 : 1 ≤ Q := Rat.le_trans hP1 hmQ
  have hslk : ∀ q, q < m → sm (m + 1) (fun r => ab (1 * xt E c (2 * n + q) r)) = 1 := fun q hq => by
    rw [sm_head]
    have e1 : xt E c (2 * n + q) 0 = 0 := hc.slk q hq
    rw [e1, sm_one (k := q) hq fun r hr e => by
      show ab (1 * E r (2 * n + q)) = 0
      rw [L.slk r hr q hq, if_neg e]; decide +kernel]
    show ab (1 * 0) + ab (1 * E q (2 * n + q)) = 1
    rw [L.slk q hq q hq, if_pos rfl]; decide +kernel
  have hart : sm (m + 1) (fun r => ab (1 * xt E c (2 * n + m) r)) ≤ ((m + 1 : Nat) : Rat) := by
    rw [sm_head]
    have e1 : sm m (fun k => ab (1 * xt E c (2 * n + m) (k + 1))) = sm m fun _ => 1 := sm_congr fun r hr => by
      show ab (1 * E r (2 * n + m)) = 1
      rw [L.art r hr]; decide +kernel
    have e2 : sm m (fun _ => (1 : Rat)) = ((m : Nat) : Rat) := by
      clear hσ hM hslk hP1 hmQ hQ1 hs hj e1 hc h L
      induction m with
      | zero => rfl
      | succ m ih => rw [sm, ih]; exact (Rat.natCast_add m 1).symm
    have e3 : ab (1 * xt E c (2 * n + m) 0) ≤ 1 := by
      show ab (1 * c (2 * n + m)) ≤ 1
      rw [Rat.one_mul]; exact hc.art
    rw [e1, e2, Rat.natCast_add]
    have e4 : ((1 : Nat) : Rat) = 1 := rfl
    rw [e4]; grind
  have hone : IsI 1 := ⟨1, rfl⟩
  have hslI : ∀ q, q < m → ∀ r, r < m + 1 → IsI (1 * xt E c (2 * n + q) r) := fun q hq r hr => by
    cases r with
    | zero =>
      show IsI (1 * c (2 * n + q))
      rw [hc.slk q hq]; exact ⟨0, by decide +kernel⟩
    | succ r =>
      show IsI (1 * E r (2 * n + q))
      rw [L.slk r (by omega) q hq]
      split
      · exact ⟨1, by decide +kernel⟩
      · exact ⟨0, by decide +kernel⟩
  have harI : ∀ r, r < m + 1 → IsI (1 * xt E c (2 * n + m) r) := fun r hr => by
    cases r with
    | zero => exact hone.mul hc.artI
    | succ r =>
      show IsI (1 * E r (2 * n + m))
      rw [L.art r (by omega)]; exact ⟨-1, by decide +kernel⟩
  have hcase : ∀ k, k ≤ wdt n m → (k < 2 * n ∨ k = 2 * n + m + 1) ∨ k = 2 * n + m ∨ ∃ q, q < m ∧ k = 2 * n + q := fun k hk => by
    unfold wdt at hk
    by_cases h1 : k < 2 * n
    · exact Or.inl (Or.inl h1)
    · by_cases h2 : k = 2 * n + m + 1
      · exact Or.inl (Or.inr h2)
      · by_cases h3 : k = 2 * n + m
        · exact Or.inr (Or.inl h3)
        · exact Or.inr (Or.inr ⟨k - 2 * n, by omega, by omega⟩)
  obtain ⟨P, hP⟩ : ∃ P, P = ((m + 1 : Nat) : Rat) := ⟨_, rfl⟩
  rw [← hP] at hP1 hmQ hart hM
  have hWa : ∀ k, (k < 2 * n ∨ k = 2 * n + m + 1) → WtF n m Q P k = Q ∧ ((if k < 2 * n ∨ k = 2 * n + m + 1 then σ k else 1) = σ k) := fun k hk => by
    refine ⟨?_, if_pos hk⟩
    unfold WtF
    rcases hk with h1 | h1
    · rw [if_pos h1]
    · rw [if_neg (by omega), if_neg (by omega), if_pos h1]
  have hWb : WtF n m Q P (2 * n + m) = P ∧ ((if 2 * n + m < 2 * n ∨ 2 * n + m = 2 * n + m + 1 then σ (2 * n + m) else 1) = 1) := by
    refine ⟨?_, if_neg (by omega)⟩
    unfold WtF
    rw [if_neg (by omega), if_pos rfl]
  have hWc : ∀ q, q < m → WtF n m Q P (2 * n + q) = 1 ∧ ((if 2 * n + q < 2 * n ∨ 2 * n + q = 2 * n + m + 1 then σ (2 * n + q) else 1) = 1) := fun q hq => by
    refine ⟨?_, if_neg (by omega)⟩
    unfold WtF
    rw [if_neg (by omega), if_neg (by omega), if_neg (by omega)]
  have hWQ : ∀ k, k ≤ wdt n m → 1 ≤ WtF n m Q P k ∧ WtF n m Q P k ≤ Q := fun k hk => by
    rcases hcase k hk with h1 | rfl | ⟨q, hq, rfl⟩
    · rw [(hWa k h1).1]; exact ⟨hQ1, Rat.le_refl⟩
    · rw [hWb.1]; exact ⟨hP1, hmQ⟩
    · rw [(hWc q hq).1]; exact ⟨Rat.le_refl, hQ1⟩
  refine h.part c hs (fun k => if k < 2 * n ∨ k = 2 * n + m + 1 then σ k else 1) (WtF n m Q P) e ?_ ?_ ?_ hj
  · intro k hk
    rcases hcase k hk with h1 | rfl | ⟨q, hq, rfl⟩
    · obtain ⟨a1, a2, a3, a4, _⟩ := hσ k h1
      simp only [(hWa k h1).1, (hWa k h1).2]
      exact ⟨a1, a2, a3, a4⟩
    · simp only [hWb.1, hWb.2]
      exact ⟨hone, Rat.le_refl, hP1, harI⟩
    · simp only [(hWc q hq).1, (hWc q hq).2]
      exact ⟨hone, Rat.le_refl, Rat.le_refl, hslI q hq⟩
  · intro k hk
    rcases hcase k hk with h1 | rfl | ⟨q, hq, rfl⟩
    · simp only [(hWa k h1).1, (hWa k h1).2]
      exact (hσ k h1).2.2.2.2
    · simp only [hWb.1, hWb.2]
      exact hart
    · simp only [(hWc q hq).1, (hWc q hq).2, hslk q hq]
      exact Rat.le_refl
  · have hp0 : 0 ≤ pf m (fun q => WtF n m Q P (b q)) := pf_nonneg fun q hq => by have := (hWQ (b q) (Nat.le_of_lt (h.bas.lt q hq))).1; grind
    have hp1 : pf m (fun q => WtF n m Q P (b q)) * WtF n m Q P s ≤ pf m (fun q => WtF n m Q P (b q)) * Q := Rat.mul_le_mul_of_nonneg_left (hWQ s hs).2 hp0
    have hQ0 : 0 ≤ Q := by grind
    rcases hM with hM | hM
    · have h2 := Rat.mul_le_mul_of_nonneg_right (h.prod L hQ1 hP1) hQ0
      grind
    · have h3 : pf m (fun q => WtF n m Q P (b q)) ≤ pf m fun _ => Q := pf_le fun q hq => by
        have := hWQ (b q) (Nat.le_of_lt (h.bas.lt q hq))
        exact ⟨by grind, this.2⟩
      have h2 := Rat.mul_le_mul_of_nonneg_right h3 hQ0
      grind
end
end Sx
end Go.Proofs.YtellemlhhlafcaaGreatDoor
end
