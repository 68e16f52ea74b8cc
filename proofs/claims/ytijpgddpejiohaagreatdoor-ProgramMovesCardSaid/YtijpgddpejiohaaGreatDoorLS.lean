/-
  Determinants, plain: Cramer's rule, a bound, whole numbers.
  How long the numbers of a table can become, plain: each is a quotient of determinants of the first table.
  The numbers of a table keep short, plain: the weights of a basis' columns.
  A climb ends, plain, and its tables keep short.
-/
import Derived.Test.YtijpgddpejiohaaGreatDoorLR
section
namespace Go.Proofs.YtijpgddpejiohaaGreatDoor
open Go
namespace Sx
open M
def skip (r i : Nat) : Nat := if i < r then i else i + 1
def sgn (r : Nat) : Rat := if r % 2 = 0 then 1 else -1
theorem sgn_succ (r : Nat) : sgn (r + 1) = - sgn r := by
  unfold sgn
  rcases Nat.mod_two_eq_zero_or_one r with h | h
  · rw [if_pos h, if_neg (by omega)]
  · rw [if_pos (by omega), if_neg (by omega)]; decide +kernel
/-- B c i: column c, row i. -/
def det : Nat → (Nat → Nat → Rat) → Rat
  | 0, _ => 1
  | n + 1, B => sm (n + 1) fun r => sgn r * B 0 r * det n fun c i => B (c + 1) (skip r i)
theorem skip_lt {r i n : Nat} (hi : i < n) : skip r i < n + 1 := by unfold skip; split <;> omega
theorem det_congr : ∀ {n : Nat} {B B' : Nat → Nat → Rat}, (∀ c, c < n → ∀ i, i < n → B c i = B' c i) → det n B = det n B'
  | 0, _, _, _ => rfl
  | n + 1, B, B', h => by
    rw [det, det]
    refine sm_congr fun r hr => ?_
    rw [h 0 (by omega) r hr, det_congr (n := n) fun c hc i hi => h (c + 1) (by omega) _ (skip_lt hi)]
theorem minor_upd (B : Nat → Nat → Rat) (j : Nat) (x : Nat → Rat) (r : Nat) : (fun c i => (upd B (j + 1) x) (c + 1) (skip r i)) = upd (fun c i => B (c + 1) (skip r i)) j (fun i => x (skip r i)) := by
  funext c i
  by_cases e : c = j
  · subst e; rw [upd_same, upd_same]
  · rw [upd_other _ e, upd_other _ (by omega)]
theorem minor_upd0 (B : Nat → Nat → Rat) (x : Nat → Rat) (r : Nat) : (fun c i => (upd B 0 x) (c + 1) (skip r i)) = (fun c i => B (c + 1) (skip r i)) := by
  funext c i
  rw [upd_other _ (by omega)]
theorem det_add : ∀ (n : Nat) (B : Nat → Nat → Rat) (j : Nat) (x y : Nat → Rat), j < n → det n (upd B j fun i => x i + y i) = det n (upd B j x) + det n (upd B j y)
  | 0, _, _, _, _, h => absurd h (by omega)
  | n + 1, B, 0, x, y, _ => by
    rw [det, det, det, ← sm_add]
    refine sm_congr fun r _ => ?_
    rw [minor_upd0, minor_upd0, minor_upd0, upd_same, upd_same, upd_same]; grind
  | n + 1, B, j + 1, x, y, h => by
    rw [det, det, det, ← sm_add]
    refine sm_congr fun r _ => ?_
    rw [minor_upd, minor_upd, minor_upd, upd_other _ (by omega), upd_other _ (by omega), upd_other _ (by omega), det_add n _ j _ _ (by omega)]; grind
theorem det_smul : ∀ (n : Nat) (B : Nat → Nat → Rat) (j : Nat) (a : Rat) (x : Nat → Rat), j < n → det n (upd B j fun i => a * x i) = a * det n (upd B j x)
  | 0, _, _, _, _, h => absurd h (by omega)
  | n + 1, B, 0, a, x, _ => by
    rw [det, det, ← sm_mul]
    refine sm_congr fun r _ => ?_
    rw [minor_upd0, minor_upd0, upd_same, upd_same]; grind
  | n + 1, B, j + 1, a, x, h => by
    rw [det, det, ← sm_mul]
    refine sm_congr fun r _ => ?_
    rw [minor_upd, minor_upd, upd_other _ (by omega), upd_other _ (by omega), det_smul n _ j _ _ (by omega)]; grind
theorem det_lin {n : Nat} (B : Nat → Nat → Rat) {j : Nat} (hj : j < n) (a : Nat → Rat) (X : Nat → Nat → Rat) : ∀ p, det n (upd B j fun i => sm p fun q => a q * X q i) = sm p fun q => a q * det n (upd B j (X q))
  | 0 => by
    have h := det_smul n B j 0 (fun _ => 0) hj
    rw [show (fun i => sm 0 fun q => a q * X q i) = (fun i : Nat => (0 : Rat) * (fun _ => (0 : Rat)) i) by funext i; simp only [sm]; grind, h]
    simp only [sm]; grind
  | p + 1 => by
    rw [show (fun i => sm (p + 1) fun q => a q * X q i) = (fun i => (fun i => sm p fun q => a q * X q i) i + (fun i => a p * X p i) i) from rfl, det_add n B j _ _ hj, det_lin B hj a X p, det_smul n B j _ _ hj]
    rfl
theorem dbl {f : Nat → Nat → Rat} : ∀ (N : Nat), (∀ r r', r ≤ r' → r' < N → f r r' + f (r' + 1) r = 0) → sm (N + 1) (fun r => sm N (f r)) = 0
  | 0, _ => sm_zero fun _ _ => rfl
  | N + 1, h => by
    rw [sm]
    have e : sm (N + 1) (fun r => sm (N + 1) (f r)) = sm (N + 1) (fun r => sm N (f r) + f r N) := sm_congr fun r _ => rfl
    rw [e, sm_add, dbl N fun r r' h1 h2 => h r r' h1 (by omega)]
    have e2 : sm (N + 1) (fun r => f r N) + sm (N + 1) (f (N + 1)) = 0 := by
      rw [← sm_add]
      exact sm_zero fun r hr => h r N (by omega) (by omega)
    grind
theorem skip_skip {r r' i : Nat} (h : r ≤ r') : skip r (skip r' i) = skip (r' + 1) (skip r i) := by
  unfold skip; repeat' split
  all_goals omega
/-- Two columns side by side that are alike. -/
theorem det_adj : ∀ (n : Nat) (B : Nat → Nat → Rat) (j : Nat), j + 1 < n → (∀ i, i < n → B j i = B (j + 1) i) → det n B = 0
  | 0, _, _, h, _ => absurd h (by omega)
  | 1, _, _, h, _ => absurd h (by omega)
  | n + 2, B, 0, _, h => by
    rw [det]
    have e : sm (n + 2) (fun r => sgn r * B 0 r * det (n + 1) fun c i => B (c + 1) (skip r i)) =
        sm (n + 2) (fun r => sm (n + 1) fun r' => sgn r * B 0 r * (sgn r' * B 0 (skip r r') * det n fun c i => B (c + 2) (skip r (skip r' i)))) :=
      sm_congr fun r _ => by
        rw [det, ← sm_mul]
        refine sm_congr fun r' hr' => ?_
        rw [h (skip r r') (skip_lt hr')]
    rw [e]
    refine dbl (n + 1) fun r r' h1 h2 => ?_
    have e1 : skip r r' = r' + 1 := by unfold skip; rw [if_neg (by omega)]
    have e2 : skip (r' + 1) r = r := by unfold skip; rw [if_pos (by omega)]
    have e3 : (fun c i => B (c + 2) (skip r (skip r' i))) = (fun c i => B (c + 2) (skip (r' + 1) (skip r i))) := by funext c i; rw [skip_skip h1]
    rw [e1, e2, e3, sgn_succ]; grind
  | n + 2, B, j + 1, hj, h => by
    rw [det]
    refine sm_zero fun r _ => ?_
    rw [det_adj (n + 1) _ j (by omega) fun i hi => h _ (skip_lt hi)]; grind
theorem upd_upd_ne {α : Type} (f : Nat → α) {j k : Nat} (h : j ≠ k) (x y : α) : upd (upd f j x) k y = upd (upd f k y) j x := by
  funext c
  unfold upd
  by_cases h1 : c = k
  · by_cases h2 : c = j
    · omega
    · simp [h2]
  · by_cases h2 : c = j
    · simp [h2]; intro e; exact absurd e h
    · simp [h1, h2]
theorem upd_self {α : Type} (f : Nat → α) (j : Nat) : upd f j (f j) = f := by
  funext c; unfold upd; split
  · rename_i e; rw [e]
  · rfl
theorem det_swap {n : Nat} (B : Nat → Nat → Rat) {j : Nat} (hj : j + 1 < n) (x y : Nat → Rat) : det n (upd (upd B j x) (j + 1) y) + det n (upd (upd B j y) (j + 1) x) = 0 := by
  have key : ∀ z : Nat → Rat, det n (upd (upd B j z) (j + 1) z) = 0 := fun z => det_adj n _ j hj fun i _ => by rw [upd_same, upd_other _ (by omega), upd_same]
  have swp : ∀ u v : Nat → Rat, upd (upd B j u) (j + 1) v = upd (upd B (j + 1) v) j u := fun u v => upd_upd_ne B (by omega) u v
  have h := key fun i => x i + y i
  rw [det_add n _ (j + 1) _ _ hj, swp _ x, swp _ y, det_add n _ j _ _ (by omega), det_add n _ j _ _ (by omega), ← swp x x, ← swp y x, ← swp x y, ← swp y y, key x, key y] at h
  grind
/-- Two columns that are alike. -/
theorem det_two {n : Nat} : ∀ (d : Nat) (B : Nat → Nat → Rat) (a : Nat), a + d + 1 < n → (∀ i, i < n → B a i = B (a + d + 1) i) → det n B = 0
  | 0, B, a, hn, h => det_adj n B a hn h
  | d + 1, B, a, hn, h => by
    have h1 := det_swap B (j := a + d + 1) (n := n) (by omega) (B (a + d + 1)) (B (a + d + 1 + 1))
    rw [upd_self, upd_self] at h1
    have h2 : det n (upd (upd B (a + d + 1) (B (a + d + 1 + 1))) (a + d + 1 + 1) (B (a + d + 1))) = 0 :=
      det_two d _ a (by omega) fun i hi => by
        rw [upd_other _ (by omega), upd_other _ (by omega), upd_other _ (by omega), upd_same]
        exact h i hi
    rw [h2] at h1
    grind
theorem det_alike {n : Nat} (B : Nat → Nat → Rat) {a b : Nat} (ha : a < n) (hb : b < n) (hab : a ≠ b) (h : ∀ i, i < n → B a i = B b i) : det n B = 0 := by
  rcases Nat.lt_or_gt_of_ne hab with h1 | h1
  · exact det_two (b - a - 1) B a (by omega) (by rw [show a + (b - a - 1) + 1 = b by omega]; exact h)
  · exact det_two (a - b - 1) B b (by omega) (by rw [show b + (a - b - 1) + 1 = a by omega]; exact fun i hi => (h i hi).symm)
/-- Cramer's rule. -/
theorem cramer {n : Nat} (B : Nat → Nat → Rat) (y a : Nat → Rat) (h : ∀ i, i < n → a i = sm n fun q => y q * B q i) {j : Nat} (hj : j < n) : det n (upd B j a) = y j * det n B := by
  have e : det n (upd B j a) = det n (upd B j fun i => sm n fun q => y q * B q i) := det_congr fun c _ i hi => by
    by_cases e : c = j
    · subst e; rw [upd_same, upd_same]; exact h i hi
    · rw [upd_other _ e, upd_other _ e]
  rw [e, det_lin B hj, sm_one hj fun q hq hne => ?_, upd_self]
  rw [det_alike _ hj hq (Ne.symm hne) fun i _ => by rw [upd_same, upd_other _ hne]]; grind
/-- A product. -/
def pf : Nat → (Nat → Rat) → Rat
  | 0, _ => 1
  | n + 1, f => f 0 * pf n fun k => f (k + 1)
theorem pf_nonneg : ∀ {n : Nat} {f : Nat → Rat}, (∀ k, k < n → 0 ≤ f k) → 0 ≤ pf n f
  | 0, _, _ => by rw [pf]; decide +kernel
  | n + 1, f, h => by rw [pf]; exact Rat.mul_nonneg (h 0 (by omega)) (pf_nonneg fun k hk => h (k + 1) (by omega))
theorem pf_le : ∀ {n : Nat} {f g : Nat → Rat}, (∀ k, k < n → 0 ≤ f k ∧ f k ≤ g k) → pf n f ≤ pf n g
  | 0, _, _, _ => Rat.le_refl
  | n + 1, f, g, h => by
    rw [pf, pf]
    have h0 := h 0 (by omega)
    have h1 : pf n (fun k => f (k + 1)) ≤ pf n (fun k => g (k + 1)) := pf_le fun k hk => h (k + 1) (by omega)
    have h2 : 0 ≤ pf n (fun k => f (k + 1)) := pf_nonneg fun k hk => (h (k + 1) (by omega)).1
    exact Rat.le_trans (Rat.mul_le_mul_of_nonneg_right h0.2 h2) (Rat.mul_le_mul_of_nonneg_left h1 (Rat.le_trans h0.1 h0.2))
theorem pf_mul : ∀ (n : Nat) (f g : Nat → Rat), pf n (fun k => f k * g k) = pf n f * pf n g
  | 0, _, _ => by simp only [pf]; grind
  | n + 1, f, g => by rw [pf, pf, pf, pf_mul n (fun k => f (k + 1)) fun k => g (k + 1)]; grind
theorem pf_congr : ∀ {n : Nat} {f g : Nat → Rat}, (∀ k, k < n → f k = g k) → pf n f = pf n g
  | 0, _, _, _ => rfl
  | n + 1, f, g, h => by rw [pf, pf, h 0 (by omega), pf_congr (n := n) fun k hk => h (k + 1) (by omega)]
theorem pf_upd : ∀ {n : Nat} (f : Nat → Rat) {j : Nat} (_ : j < n) (x : Rat), pf n (upd f j x) * f j = pf n f * x
  | 0, _, _, h, _ => absurd h (by omega)
  | n + 1, f, 0, _, x => by
    rw [pf, pf, upd_same, pf_congr (n := n) (g := fun k => f (k + 1)) fun k _ => by rw [upd_other _ (by omega)]]; grind
  | n + 1, f, j + 1, h, x => by
    have h1 := pf_upd (n := n) (fun k => f (k + 1)) (j := j) (by omega) x
    have e : pf n (fun k => upd f (j + 1) x (k + 1)) = pf n (upd (fun k => f (k + 1)) j x) := pf_congr fun k _ => by
      by_cases e : k = j
      · subst e; rw [upd_same, upd_same]
      · rw [upd_other _ e, upd_other _ (by omega)]
    rw [pf, pf, e, upd_other _ (by omega)]
    have h2 : f 0 * (pf n (upd (fun k => f (k + 1)) j x) * f (j + 1)) = f 0 * (pf n (fun k => f (k + 1)) * x) := by rw [h1]
    grind
/-- The magnitude of a number. -/
def ab (x : Rat) : Rat := if 0 ≤ x then x else -x
theorem ab_nonneg (x : Rat) : 0 ≤ ab x := by unfold ab; split <;> grind
theorem ab_add (x y : Rat) : ab (x + y) ≤ ab x + ab y := by unfold ab; repeat' split
                                                            all_goals grind
theorem ab_neg (x : Rat) : ab (-x) = ab x := by unfold ab; repeat' split
                                                all_goals grind
theorem ab_mul (x y : Rat) : ab (x * y) = ab x * ab y := by
  unfold ab
  by_cases hx : 0 ≤ x <;> by_cases hy : 0 ≤ y
  · rw [if_pos hx, if_pos hy, if_pos (Rat.mul_nonneg hx hy)]
  · have h := Rat.mul_nonneg hx (show 0 ≤ -y by grind)
    rw [if_pos hx, if_neg hy]
    split <;> grind
  · have h := Rat.mul_nonneg (show 0 ≤ -x by grind) hy
    rw [if_neg hx, if_pos hy]
    split <;> grind
  · have h := Rat.mul_nonneg (show 0 ≤ -x by grind) (show 0 ≤ -y by grind)
    rw [if_neg hx, if_neg hy, if_pos (by grind)]; grind
theorem ab_sgn (r : Nat) : ab (sgn r) = 1 := by unfold sgn; split <;> decide +kernel
theorem ab_sm : ∀ (n : Nat) (f : Nat → Rat), ab (sm n f) ≤ sm n fun k => ab (f k)
  | 0, _ => by simp only [sm]; decide +kernel
  | n + 1, f => by
    rw [sm, sm]
    have h1 := ab_add (sm n f) (f n)
    have h2 := ab_sm n f
    grind
theorem sm_skip : ∀ (n : Nat) (g : Nat → Rat) (r : Nat), r ≤ n → sm (n + 1) g = sm n (fun i => g (skip r i)) + g r
  | 0, g, r, h => by
    obtain rfl : r = 0 := by omega
    rfl
  | n + 1, g, r, h => by
    by_cases e : r = n + 1
    · subst e
      rw [sm, sm_congr (n := n + 1) (f := fun i => g (skip (n + 1) i)) (g := g) fun k hk => by unfold skip; rw [if_pos hk]]
    · rw [sm, sm_skip n g r (by omega)]
      show _ = sm n (fun i => g (skip r i)) + g (skip r n) + g r
      have e2 : skip r n = n + 1 := by unfold skip; rw [if_neg (by omega)]
      rw [e2]; grind
/-- The magnitude of a determinant is at most the product of those of the columns. -/
theorem det_ab : ∀ (n : Nat) (B : Nat → Nat → Rat), ab (det n B) ≤ pf n fun c => sm n fun i => ab (B c i)
  | 0, _ => by simp only [det, pf]; decide +kernel
  | n + 1, B => by
    rw [det, pf]
    have h1 : ∀ r, r < n + 1 → ab (sgn r * B 0 r * det n fun c i => B (c + 1) (skip r i)) ≤ ab (B 0 r) * pf n fun c => sm (n + 1) fun i => ab (B (c + 1) i) := fun r hr => by
      rw [ab_mul, ab_mul, ab_sgn]
      have h2 := det_ab n fun c i => B (c + 1) (skip r i)
      have h3 : pf n (fun c => sm n fun i => ab (B (c + 1) (skip r i))) ≤ pf n fun c => sm (n + 1) fun i => ab (B (c + 1) i) := pf_le fun c _ => by
        refine ⟨sm_nonneg fun i _ => ab_nonneg _, ?_⟩
        rw [sm_skip n (fun i => ab (B (c + 1) i)) r (by omega)]
        have := ab_nonneg (B (c + 1) r)
        grind
      have h4 := Rat.mul_le_mul_of_nonneg_left (Rat.le_trans h2 h3) (ab_nonneg (B 0 r))
      grind
    refine Rat.le_trans (ab_sm _ _) (Rat.le_trans (sm_le h1) ?_)
    rw [sm_mul_right]
    exact Rat.le_refl
theorem det_scale : ∀ (n : Nat) (s : Nat → Rat) (B : Nat → Nat → Rat), det n (fun c i => s c * B c i) = pf n s * det n B
  | 0, _, _ => by simp only [det, pf]; grind
  | n + 1, s, B => by
    rw [det, det, pf, ← sm_mul]
    refine sm_congr fun r _ => ?_
    rw [det_scale n (fun c => s (c + 1)) fun c i => B (c + 1) (skip r i)]; grind
/-- Whole numbers. -/
def IsI (x : Rat) : Prop := ∃ z : Int, x = (z : Rat)
theorem IsI.add {x y : Rat} (h : IsI x) (h2 : IsI y) : IsI (x + y) := by
  obtain ⟨a, rfl⟩ := h; obtain ⟨b, rfl⟩ := h2; exact ⟨a + b, (Rat.intCast_add a b).symm⟩
theorem IsI.mul {x y : Rat} (h : IsI x) (h2 : IsI y) : IsI (x * y) := by
  obtain ⟨a, rfl⟩ := h; obtain ⟨b, rfl⟩ := h2; exact ⟨a * b, (Rat.intCast_mul a b).symm⟩
theorem IsI.sm : ∀ {n : Nat} {f : Nat → Rat}, (∀ k, k < n → IsI (f k)) → IsI (sm n f)
  | 0, _, _ => ⟨0, rfl⟩
  | n + 1, f, h => by rw [Sx.sm]; exact (IsI.sm fun k hk => h k (by omega)).add (h n (by omega))
theorem IsI.sgn (r : Nat) : IsI (sgn r) := by unfold Sx.sgn; split; exact ⟨1, rfl⟩; exact ⟨-1, by decide +kernel⟩
theorem IsI.det : ∀ {n : Nat} {B : Nat → Nat → Rat}, (∀ c, c < n → ∀ i, i < n → IsI (B c i)) → IsI (det n B)
  | 0, _, _ => ⟨1, rfl⟩
  | n + 1, B, h => by
    rw [Sx.det]
    exact IsI.sm fun r hr => ((IsI.sgn r).mul (h 0 (by omega) r hr)).mul (IsI.det fun c hc i hi => h (c + 1) (by omega) _ (skip_lt hi))
end Sx
end Go.Proofs.YtijpgddpejiohaaGreatDoor
end
section
namespace Go.Proofs.YtijpgddpejiohaaGreatDoor
open Go
namespace Sx
open M
/-- The rows of a table that is laid: the unknowns with both signs, the slacks, what is missing. -/
structure Laid (n m : Nat) (E : Mx) : Prop where
  neg : ∀ i, i < m → ∀ k, k < n → E i (n + k) = - E i k
  slk : ∀ i, i < m → ∀ j, j < m → E i (2 * n + j) = if i = j then 1 else 0
  art : ∀ i, i < m → E i (2 * n + m) = -1
/-- A table that pivots reached from the rows E. -/
structure Inv (n m : Nat) (E A : Mx) (b : Nat → Nat) : Prop where
  bas : Bas m (wdt n m) A b
  sol : ∀ t x, Sol m (wdt n m) A t x ↔ Sol m (wdt n m) E t x
  dt : det m (fun c r => E r (b c)) ≠ 0
theorem sm_head : ∀ (m : Nat) (f : Nat → Rat), sm (m + 1) f = f 0 + sm m fun k => f (k + 1)
  | 0, f => by simp only [sm]; grind
  | m + 1, f => by rw [sm, sm_head m f, sm]; grind
section
variable {n m : Nat} {E A A' : Mx} {b b' : Nat → Nat}
/-- Each column of the first table is made of those of the basis. -/
theorem Inv.comb (h : Inv n m E A b) {s : Nat} (hs : s ≤ wdt n m) {r : Nat} (hr : r < m) : E r s = sm m fun i => A i s * E r (b i) := by
  have e : sm m (fun i => A i s * E r (b i)) = sm m (fun i => E r (b i) * A i s) := sm_congr fun i _ => Rat.mul_comm _ _
  rw [e]
  rcases Nat.lt_or_eq_of_le hs with h1 | h1
  · have h2 := (h.sol 0 _).1 (dir_sol h.bas h1) r hr
    rw [dir_sum h1, bv_sum h.bas.lt] at h2
    grind
  · have h2 := (h.sol 1 _).1 (bas_sol h.bas) r hr
    rw [bv_sum h.bas.lt] at h2
    rw [h1]; grind
/-- A step keeps that. -/
theorem Inv.piv (h : Inv n m E A b) {r c : Nat} (hr : r < m) (hc : c < wdt n m) (h0 : A r c ≠ 0) (pA : ∀ j, j ≤ m → ∀ k, k ≤ wdt n m → A' j k = pivA A r c j k) (pb : ∀ i, i < m → b' i = upd b r c i) : Inv n m E A' b' := by
  refine ⟨(piv_bas h.bas hr hc h0).congr pA pb, fun t x => ((Eqv.congr pA).sol t x).symm.trans ((piv_sol hr h0).trans (h.sol t x)), ?_⟩
  have h1 := cramer (n := m) (fun c r => E r (b c)) (fun i => A i c) (fun i => E i c) (fun i hi => h.comb (by omega) hi) hr
  have e : det m (fun c r => E r (b' c)) = det m (upd (fun c r => E r (b c)) r fun i => E i c) := det_congr fun q hq i _ => by
    rw [pb q hq]
    by_cases e : q = r
    · subst e; rw [upd_same, upd_same]
    · rw [upd_other _ e, upd_other _ e]
  rw [e, h1]
  intro h2
  rcases Rat.mul_eq_zero.1 h2 with h3 | h3
  · exact h0 h3
  · exact h.dt h3
/-- What a goal c has left in column s. -/
def zc (m : Nat) (A : Mx) (b : Nat → Nat) (c : Nat → Rat) (s : Nat) : Rat := c s - sm m fun i => A i s * c (b i)
/-- A column with the goal above it; the columns of the basis, that of the goal first. -/
def xt (E : Mx) (c : Nat → Rat) (s : Nat) : Nat → Rat
  | 0 => c s
  | r + 1 => E r s
def XB (E : Mx) (c : Nat → Rat) (b : Nat → Nat) : Nat → Nat → Rat
  | 0 => fun r => if r = 0 then 1 else 0
  | q + 1 => xt E c (b q)
theorem XB_zero (c : Nat → Rat) (r : Nat) : XB E c b 0 r = if r = 0 then 1 else 0 := rfl
theorem XB_det (c : Nat → Rat) : det (m + 1) (XB E c b) = det m fun q r => E r (b q) := by
  rw [det, sm_one (k := 0) (by omega) fun r _ e => by
    show sgn r * (if r = 0 then 1 else 0) * _ = 0
    rw [if_neg e]; grind]
  show sgn 0 * (if 0 = 0 then 1 else 0) * det m (fun q i => XB E c b (q + 1) (skip 0 i)) = _
  have e : (fun q i => XB E c b (q + 1) (skip 0 i)) = fun q r => E r (b q) := rfl
  rw [e, if_pos rfl]
  unfold sgn
  rw [if_pos (by decide)]; grind
/-- The parts of column s. -/
def ys (m : Nat) (A : Mx) (b : Nat → Nat) (c : Nat → Rat) (s : Nat) : Nat → Rat
  | 0 => zc m A b c s
  | i + 1 => A i s
theorem Inv.xt_comb (h : Inv n m E A b) (c : Nat → Rat) {s : Nat} (hs : s ≤ wdt n m) {r : Nat} (hr : r < m + 1) : xt E c s r = sm (m + 1) fun q => ys m A b c s q * XB E c b q r := by
  rw [sm_head]
  cases r with
  | zero =>
    show c s = zc m A b c s * (if 0 = 0 then 1 else 0) + sm m (fun i => A i s * c (b i))
    rw [if_pos rfl]; unfold zc; grind
  | succ r =>
    show E r s = zc m A b c s * (if r + 1 = 0 then 1 else 0) + sm m (fun i => A i s * E r (b i))
    rw [if_neg (by omega), ← h.comb hs (by omega)]; grind
theorem ab_int (a : Int) : ab (a : Rat) = (a.natAbs : Rat) := by
  unfold ab
  by_cases h : 0 ≤ a
  · rw [if_pos (Rat.intCast_nonneg.2 h)]
    obtain ⟨k, rfl⟩ : ∃ k : Nat, a = k := ⟨a.natAbs, by omega⟩
    rw [Int.natAbs_natCast]; rfl
  · have h1 : ¬ (0 : Rat) ≤ (a : Rat) := fun e => h (Rat.intCast_nonneg.1 e)
    rw [if_neg h1]
    obtain ⟨k, rfl⟩ : ∃ k : Nat, a = -(k : Int) := ⟨a.natAbs, by omega⟩
    rw [Rat.intCast_neg, Int.natAbs_neg, Int.natAbs_natCast, Rat.neg_neg]; rfl
theorem nat_lt_of {a e : Nat} {x : Rat} (h : (a : Rat) ≤ x) (h2 : x < ((10 ^ e : Nat) : Rat)) : a < 10 ^ e := by
  rcases Nat.lt_or_ge a (10 ^ e) with h3 | h3
  · exact h3
  · have h4 := Rat.natCast_le_natCast.2 h3
    have h5 : ((10 ^ e : Nat) : Rat) ≤ x := Rat.le_trans h4 h
    exact absurd (show x < x by grind) Rat.lt_irrefl
/-- A quotient of whole numbers that are not long. -/
theorem frac_bq {y P Q M' : Rat} {e : Nat} (hP : IsI P) (hQ : IsI Q) (h0 : Q ≠ 0) (h : y * Q = P) (hp : ab P ≤ M') (hq : ab Q ≤ M') (hM : M' < ((10 ^ e : Nat) : Rat)) : Bq e y := by
  obtain ⟨a, rfl⟩ := hP
  obtain ⟨d, rfl⟩ := hQ
  have hd : d ≠ 0 := fun e => h0 (by rw [e]; rfl)
  have hy : y = Rat.divInt a d := by rw [Rat.divInt_eq_div]; grind
  rw [ab_int] at hp hq
  have ha := nat_lt_of hp hM
  have hb := nat_lt_of hq hM
  rw [hy]
  refine ⟨?_, ?_⟩
  · rw [Rat.num_divInt]
    refine Nat.lt_of_le_of_lt ?_ ha
    rw [Int.natAbs_ediv_of_dvd (by
      exact Int.dvd_mul_of_dvd_right (Int.gcd_dvd_right ..)), Int.natAbs_mul]
    have h1 : d.sign.natAbs ≤ 1 := by rw [Int.natAbs_sign]; split <;> omega
    refine Nat.le_trans (Nat.div_le_self _ _) ?_
    have := Nat.mul_le_mul_right a.natAbs h1
    omega
  · rw [Rat.den_divInt, if_neg hd]
    exact Nat.lt_of_le_of_lt (Nat.div_le_self _ _) hb
theorem pf_pos : ∀ {n : Nat} {f : Nat → Rat}, (∀ k, k < n → 0 < f k) → 0 < pf n f
  | 0, _, _ => by rw [pf]; decide +kernel
  | n + 1, f, h => by rw [pf]; exact Rat.mul_pos (h 0 (by omega)) (pf_pos fun k hk => h (k + 1) (by omega))
set_option maxHeartbeats 1000000 in
/-- How long a part of column s can be: weights for the columns. -/
theorem Inv.part (h : Inv n m E A b) (c : Nat → Rat) {s : Nat} (hs : s ≤ wdt n m) (σ Wt : Nat → Rat) (e : Nat)
    (hI : ∀ k, k ≤ wdt n m → IsI (σ k) ∧ 1 ≤ σ k ∧ σ k ≤ Wt k ∧ ∀ r, r < m + 1 → IsI (σ k * xt E c k r)) (hW : ∀ k, k ≤ wdt n m → sm (m + 1) (fun r => ab (σ k * xt E c k r)) ≤ Wt k)
    (hM : pf m (fun q => Wt (b q)) * Wt s < ((10 ^ e : Nat) : Rat)) {j : Nat} (hj : j < m + 1) : Bq e (ys m A b c s j) := by
  have hblt := h.bas.lt
  obtain ⟨τ, hτ⟩ : ∃ τ : Nat → Rat, τ = fun q => match q with | 0 => 1 | q + 1 => σ (b q) := ⟨_, rfl⟩
  obtain ⟨Wv, hWv⟩ : ∃ Wv : Nat → Rat, Wv = fun q => match q with | 0 => 1 | q + 1 => Wt (b q) := ⟨_, rfl⟩
  have t0 : τ 0 = 1 := by rw [hτ]
  have ts : ∀ q, τ (q + 1) = σ (b q) := fun q => by rw [hτ]
  have w0 : Wv 0 = 1 := by rw [hWv]
  have ws : ∀ q, Wv (q + 1) = Wt (b q) := fun q => by rw [hWv]
  clear hτ hWv
  have hτ1 : ∀ q, q < m + 1 → 1 ≤ τ q ∧ τ q ≤ Wv q ∧ IsI (τ q) := fun q hq => by
    cases q with
    | zero => rw [t0, w0]; exact ⟨Rat.le_refl, Rat.le_refl, ⟨1, rfl⟩⟩
    | succ q =>
      have h1 := hI (b q) (Nat.le_of_lt (hblt q (by omega)))
      rw [ts, ws]; exact ⟨h1.2.1, h1.2.2.1, h1.1⟩
  have hXI : ∀ q, q < m + 1 → ∀ i, i < m + 1 → IsI (τ q * XB E c b q i) := fun q hq i hi => by
    cases q with
    | zero =>
      rw [t0, XB_zero]
      split
      · exact ⟨1, by decide +kernel⟩
      · exact ⟨0, by decide +kernel⟩
    | succ q => rw [ts]; exact (hI (b q) (Nat.le_of_lt (hblt q (by omega)))).2.2.2 i hi
  have hXW : ∀ q, q < m + 1 → sm (m + 1) (fun i => ab (τ q * XB E c b q i)) ≤ Wv q := fun q hq => by
    cases q with
    | zero =>
      have e1 : ∀ i, i < m + 1 → i ≠ 0 → ab (τ 0 * XB E c b 0 i) = 0 := fun i _ e => by rw [t0, XB_zero, if_neg e]; decide +kernel
      have e2 : ab (τ 0 * XB E c b 0 0) = 1 := by rw [t0, XB_zero, if_pos rfl]; decide +kernel
      rw [w0, sm_one (k := 0) (by omega) e1, e2]
      exact Rat.le_refl
    | succ q => rw [ts, ws]; exact hW (b q) (Nat.le_of_lt (hblt q (by omega)))
  have hsI := hI s hs
  have hsW := hW s hs
  -- the two determinants
  obtain ⟨dB, hdB⟩ : ∃ d, d = det (m + 1) (XB E c b) := ⟨_, rfl⟩
  have hY := det_scale (m + 1) τ (XB E c b)
  have hZ := det_scale (m + 1) (upd τ j (σ s)) (upd (XB E c b) j (xt E c s))
  rw [cramer (XB E c b) (ys m A b c s) (xt E c s) (fun i hi => h.xt_comb c hs hi) hj, ← hdB] at hZ
  rw [← hdB] at hY
  have hpu := pf_upd (n := m + 1) τ hj (σ s)
  have hYI : IsI (det (m + 1) fun q i => τ q * XB E c b q i) := IsI.det hXI
  have hZI : IsI (det (m + 1) fun q i => upd τ j (σ s) q * upd (XB E c b) j (xt E c s) q i) := IsI.det fun q hq i hi => by
    by_cases e : q = j
    · subst e; rw [upd_same, upd_same]; exact hsI.2.2.2 i hi
    · rw [upd_other _ e, upd_other _ e]; exact hXI q hq i hi
  have hYB := det_ab (m + 1) fun q i => τ q * XB E c b q i
  have hZB := det_ab (m + 1) fun q i => upd τ j (σ s) q * upd (XB E c b) j (xt E c s) q i
  have hYB2 : ab (det (m + 1) fun q i => τ q * XB E c b q i) ≤ pf (m + 1) Wv := Rat.le_trans hYB (pf_le fun q hq => ⟨sm_nonneg fun _ _ => ab_nonneg _, hXW q hq⟩)
  have hZB2 : ab (det (m + 1) fun q i => upd τ j (σ s) q * upd (XB E c b) j (xt E c s) q i) ≤ pf (m + 1) (upd Wv j (Wt s)) := Rat.le_trans hZB (pf_le fun q hq => ⟨sm_nonneg fun _ _ => ab_nonneg _, by
    by_cases e : q = j
    · subst e; simp only [upd_same]
      exact hsW
    · simp only [upd_other _ e]
      exact hXW q hq⟩)
  have hwu := pf_upd (n := m + 1) Wv hj (Wt s)
  have hpW : pf (m + 1) Wv = pf m fun q => Wt (b q) := by
    rw [pf, w0, pf_congr (g := fun q => Wt (b q)) fun q _ => ws q]; grind
  rw [← hpW] at hM
  have hdB0 : dB ≠ 0 := by rw [hdB, XB_det]; exact h.dt
  have hτp : 0 < pf (m + 1) τ := pf_pos fun q hq => by have := (hτ1 q hq).1; grind
  generalize (det (m + 1) fun q i => τ q * XB E c b q i) = Y at *
  generalize (det (m + 1) fun q i => upd τ j (σ s) q * upd (XB E c b) j (xt E c s) q i) = Z at *
  generalize ys m A b c s j = y at *
  obtain ⟨h1, h2, h3⟩ := hτ1 j hj
  have hσ0 : 0 < σ s := by have := hsI.2.1; grind
  have hWs : 0 ≤ Wt s := by have := hsI.2.2.1; grind
  have hWvp : 0 ≤ pf (m + 1) Wv := pf_nonneg fun q hq => by have := hτ1 q hq; grind
  have hWup : 0 ≤ pf (m + 1) (upd Wv j (Wt s)) := pf_nonneg fun q hq => by
    by_cases e : q = j
    · subst e; rw [upd_same]; exact hWs
    · rw [upd_other _ e]; have := hτ1 q hq; grind
  refine frac_bq (y := y) (P := Z * τ j) (Q := Y * σ s) (M' := pf (m + 1) Wv * Wt s) (hZI.mul h3) (hYI.mul hsI.1) ?_ ?_ ?_ ?_ hM
  · intro e
    rw [hY] at e
    rcases Rat.mul_eq_zero.1 e with e | e
    · rcases Rat.mul_eq_zero.1 e with e | e
      · rw [e] at hτp; exact Rat.lt_irrefl hτp
      · exact hdB0 e
    · rw [e] at hσ0; exact Rat.lt_irrefl hσ0
  · rw [hY, hZ]
    have : pf (m + 1) (upd τ j (σ s)) * τ j * (y * dB) = pf (m + 1) τ * σ s * (y * dB) := by rw [hpu]
    grind
  · rw [ab_mul, ← hwu]
    have e1 : ab (τ j) = τ j := by unfold ab; rw [if_pos (by grind)]
    rw [e1]
    exact Rat.le_trans (Rat.mul_le_mul_of_nonneg_right hZB2 (by grind)) (Rat.mul_le_mul_of_nonneg_left h2 hWup)
  · rw [ab_mul]
    have e1 : ab (σ s) = σ s := by unfold ab; rw [if_pos (by grind)]
    rw [e1]
    exact Rat.le_trans (Rat.mul_le_mul_of_nonneg_right hYB2 (by grind)) (Rat.mul_le_mul_of_nonneg_left hsI.2.2.1 hWvp)
end
end Sx
end Go.Proofs.YtijpgddpejiohaaGreatDoor
end
section
namespace Go.Proofs.YtijpgddpejiohaaGreatDoor
open Go
namespace Sx
open M
theorem pf_one : ∀ (n : Nat), pf n (fun _ => 1) = 1
  | 0 => rfl
  | n + 1 => by rw [pf, pf_one n]; grind
theorem pf_swap : ∀ (m N : Nat) (g : Nat → Nat → Rat), pf m (fun q => pf N fun u => g q u) = pf N fun u => pf m fun q => g q u
  | 0, N, g => by
    simp only [pf]
    exact (pf_one N).symm
  | m + 1, N, g => by
    rw [pf, pf_swap m N fun q u => g (q + 1) u, ← pf_mul]
    exact pf_congr fun u _ => rfl
theorem pf_atmost : ∀ {m : Nat} {p : Nat → Prop} [DecidablePred p] {x : Rat}, 1 ≤ x → (∀ q q', q < m → q' < m → p q → p q' → q = q') → pf m (fun q => if p q then x else 1) ≤ x
  | 0, _, _, _, hx, _ => by rw [pf]; exact hx
  | m + 1, p, _, x, hx, h => by
    rw [pf]
    by_cases h0 : p 0
    · rw [if_pos h0, pf_congr (g := fun _ => 1) fun k hk => if_neg fun e => by have := h 0 (k + 1) (by omega) (by omega) h0 e; omega, pf_one]
      grind
    · rw [if_neg h0]
      have := pf_atmost (m := m) (p := fun k => p (k + 1)) hx fun q q' hq hq' a b => by have := h (q + 1) (q' + 1) (by omega) (by omega) a b; omega
      grind
theorem pf_pick : ∀ (N k : Nat) (w : Nat → Rat), pf N (fun u => if k = u then w u else 1) = if k < N then w k else 1
  | 0, k, w => by rw [pf, if_neg (by omega)]
  | N + 1, 0, w => by
    rw [pf, if_pos rfl, pf_congr (g := fun _ => 1) fun u _ => if_neg (by omega), pf_one, if_pos (by omega)]; grind
  | N + 1, k + 1, w => by
    have e : pf N (fun u => if k + 1 = u + 1 then w (u + 1) else 1) = pf N (fun u => if k = u then (fun u => w (u + 1)) u else 1) := pf_congr fun u _ => by
      by_cases e : k = u
      · rw [if_pos (by omega), if_pos e]
      · rw [if_neg (by omega), if_neg e]
    rw [pf, if_neg (by omega), e, pf_pick N k fun u => w (u + 1)]
    by_cases h : k < N
    · rw [if_pos h, if_pos (by omega)]; grind
    · rw [if_neg h, if_neg (by omega)]; grind
theorem pf_const : ∀ (n : Nat) (Q P : Rat), pf (n + 1) (fun u => if u < n then Q else P) = pf n (fun _ => Q) * P
  | 0, Q, P => by simp only [pf]; rw [if_neg (by omega)]; grind
  | n + 1, Q, P => by
    have e : pf (n + 1) (fun u => if u + 1 < n + 1 then Q else P) = pf (n + 1) fun u => if u < n then Q else P := pf_congr fun u _ => by
      by_cases h : u < n
      · rw [if_pos (by omega), if_pos h]
      · rw [if_neg (by omega), if_neg h]
    rw [pf, if_pos (by omega), e, pf_const n Q P, pf]; grind
section
variable {n m : Nat} {E A : Mx} {b : Nat → Nat}
/-- The column of an unknown with one sign is that with the other one, turned. -/
theorem Inv.pair (L : Laid n m E) (h : Inv n m E A b) {k : Nat} (hk : k < n) {i : Nat} (hi : i < m) : A i k + A i (n + k) = 0 := by
  have hw : n + k < wdt n m := by unfold wdt; omega
  have hv : ∀ f : Nat → Rat, sm (wdt n m) (fun j => f j * ((if j = k then 1 else 0) + if j = n + k then 1 else 0)) = f k + f (n + k) := fun f => by
    have e : sm (wdt n m) (fun j => f j * ((if j = k then 1 else 0) + if j = n + k then 1 else 0)) = sm (wdt n m) (fun j => (if j = k then f j else 0) + if j = n + k then f j else 0) :=
      sm_congr fun j _ => by split <;> split <;> grind
    rw [e, sm_add, sm_one (k := k) (by omega) fun j _ e => if_neg e, sm_one (k := n + k) hw fun j _ e => if_neg e, if_pos rfl, if_pos rfl]
  have h1 : Sol m (wdt n m) E 0 fun j => (if j = k then 1 else 0) + if j = n + k then 1 else 0 := fun r hr => by
    rw [hv, L.neg r hr k hk]; grind
  have h2 := (h.sol 0 _).2 h1 i hi
  rw [hv] at h2
  rw [h2]; grind
theorem Inv.nopair (L : Laid n m E) (h : Inv n m E A b) {k : Nat} (hk : k < n) {i j : Nat} (hi : i < m) (hj : j < m) (e1 : b i = k) (e2 : b j = n + k) : False := by
  have h1 := h.pair L hk hi
  have h2 := h.bas.one i hi
  have h3 : i ≠ j := fun e => by subst e; omega
  have h4 := h.bas.zer j i hj (by omega) h3
  rw [e1] at h2
  rw [e2] at h4
  rw [h2, h4] at h1
  exact absurd h1 (by decide +kernel)
/-- The weights of the columns. -/
def WtF (n m : Nat) (Q P : Rat) (k : Nat) : Rat := if k < 2 * n then Q else if k = 2 * n + m then P else if k = 2 * n + m + 1 then Q else 1
def cls (n m k : Nat) : Nat := if k < n then k else if k < 2 * n then k - n else if k = 2 * n + m then n else n + 1
theorem Inv.prod (L : Laid n m E) (h : Inv n m E A b) {Q P : Rat} (hQ : 1 ≤ Q) (hP : 1 ≤ P) : pf m (fun q => WtF n m Q P (b q)) ≤ pf n (fun _ => Q) * P := by
  have e : pf m (fun q => WtF n m Q P (b q)) = pf m (fun q => pf (n + 1) fun u => if cls n m (b q) = u then (fun u => if u < n then Q else P) u else 1) := pf_congr fun q hq => by
    have := h.bas.lt q hq
    rw [pf_pick]
    unfold WtF cls
    unfold wdt at this
    by_cases h1 : b q < n
    · rw [if_pos (show b q < 2 * n by omega), if_pos h1, if_pos (by omega)]
      simp only [if_pos h1]
    · by_cases h2 : b q < 2 * n
      · rw [if_pos h2, if_neg h1, if_pos h2, if_pos (by omega)]
        simp only [if_pos (show b q - n < n by omega)]
      · by_cases h3 : b q = 2 * n + m
        · rw [if_neg h2, if_pos h3, if_neg h1, if_neg h2, if_pos h3, if_pos (by omega)]
          simp only [if_neg (show ¬ n < n by omega)]
        · rw [if_neg h2, if_neg h3, if_neg (by omega), if_neg h1, if_neg h2, if_neg h3, if_neg (by omega)]
  rw [e, pf_swap, ← pf_const]
  refine pf_le fun u hu => ⟨pf_nonneg fun q _ => ?_, ?_⟩
  · split
    · show 0 ≤ if u < n then Q else P
      split <;> grind
    · decide +kernel
  · refine pf_atmost (p := fun q => cls n m (b q) = u) (x := if u < n then Q else P) (by split <;> assumption) fun q q' hq hq' a a' => ?_
    have c1 := h.bas.lt q hq
    have c2 := h.bas.lt q' hq'
    by_cases hb : b q = b q'
    · exact h.bas.inj hq hq' hb
    · exfalso
      unfold cls at a a'
      unfold wdt at c1 c2
      by_cases k1 : b q < n
      · rw [if_pos k1] at a
        by_cases k2 : b q' < n
        · rw [if_pos k2] at a'; omega
        · rw [if_neg k2] at a'
          by_cases k3 : b q' < 2 * n
          · rw [if_pos k3] at a'
            exact h.nopair L (k := b q) k1 hq hq' rfl (by omega)
          · rw [if_neg k3] at a'; split at a' <;> omega
      · rw [if_neg k1] at a
        by_cases k3 : b q < 2 * n
        · rw [if_pos k3] at a
          by_cases k2 : b q' < n
          · rw [if_pos k2] at a'
            exact h.nopair L (k := b q') k2 hq' hq rfl (by omega)
          · rw [if_neg k2] at a'
            by_cases k4 : b q' < 2 * n
            · rw [if_pos k4] at a'; omega
            · rw [if_neg k4] at a'; split at a' <;> omega
        · rw [if_neg k3] at a
          by_cases k5 : b q = 2 * n + m
          · rw [if_pos k5] at a
            by_cases k2 : b q' < n
            · rw [if_pos k2] at a'; omega
            · rw [if_neg k2] at a'
              by_cases k4 : b q' < 2 * n
              · rw [if_pos k4] at a'; omega
              · rw [if_neg k4] at a'
                by_cases k6 : b q' = 2 * n + m
                · omega
                · rw [if_neg k6] at a'; omega
          · rw [if_neg k5] at a; omega
/-- The columns of the unknowns and of the right side, with a goal c above, are not long: each has a common denominator, and is short with it. -/
structure Szd (n m : Nat) (E : Mx) (c : Nat → Rat) (Q : Rat) : Prop where
  slk : ∀ j, j < m → c (2 * n + j) = 0
  artI : IsI (c (2 * n + m))
  art : ab (c (2 * n + m)) ≤ 1
  col : ∃ σ : Nat → Rat, ∀ k, (k < 2 * n ∨ k = 2 * n + m + 1) → IsI (σ k) ∧ 1 ≤ σ k ∧ σ k ≤ Q ∧ (∀ r, r < m + 1 → IsI (σ k * xt E c k r)) ∧ sm (m + 1) (fun r => ab (σ k * xt E c k r)) ≤ Q
/-- The numbers that a table can have, then. -/
def Fits (n m : Nat) (Q : Rat) (e : Nat) : Prop := ((m + 1 : Nat) : Rat) ≤ Q ∧ (pf n (fun _ => Q) * ((m + 1 : Nat) : Rat) * Q < ((10 ^ e : Nat) : Rat) ∨ pf m (fun _ => Q) * Q < ((10 ^ e : Nat) : Rat))
theorem one_le_cast (m : Nat) : (1 : Rat) ≤ ((m + 1 : Nat) : Rat) := by
  have := Rat.natCast_le_natCast.2 (show 1 ≤ m + 1 by omega)
  exact this
theorem Inv.size (L : Laid n m E) (h : Inv n m E A b) {c : Nat → Rat} {Q : Rat} {e : Nat} (hc : Szd n m E c Q) (hF : Fits n m Q e) {s : Nat} (hs : s ≤ wdt n m) {j : Nat} (hj : j < m + 1) : Bq e (ys m A b c s j) := by
  obtain ⟨σ, hσ⟩ := hc.col
  obtain ⟨hmQ, hM⟩ := hF
  have hP1 := one_le_cast m
  have hQ1 : 1 ≤ Q := Rat.le_trans hP1 hmQ
  have hslk : ∀ q, q < m → sm (m + 1) (fun r => ab (1 * xt E c (2 * n + q) r)) = 1 := fun q hq => by
    rw [sm_head]
    have e1 : xt E c (2 * n + q) 0 = 0 := hc.slk q hq
    rw [e1, sm_one (k := q) hq fun r hr e => by
      show ab (1 * E r (2 * n + q)) = 0
      rw [L.slk r hr q hq, if_neg e]; decide +kernel]
    show ab (1 * 0) + ab (1 * E q (2 * n + q)) = 1
    rw [L.slk q hq q hq, if_pos rfl]; decide +kernel
  have hart : sm (m + 1) (fun r => ab (1 * xt E c (2 * n + m) r)) ≤ ((m + 1 : Nat) : Rat) := by
    rw [sm_head]
    have e1 : sm m (fun k => ab (1 * xt E c (2 * n + m) (k + 1))) = sm m fun _ => 1 := sm_congr fun r hr => by
      show ab (1 * E r (2 * n + m)) = 1
      rw [L.art r hr]; decide +kernel
    have e2 : sm m (fun _ => (1 : Rat)) = ((m : Nat) : Rat) := by
      clear hσ hM hslk hP1 hmQ hQ1 hs hj e1 hc h L
      induction m with
      | zero => rfl
      | succ m ih => rw [sm, ih]; exact (Rat.natCast_add m 1).symm
    have e3 : ab (1 * xt E c (2 * n + m) 0) ≤ 1 := by
      show ab (1 * c (2 * n + m)) ≤ 1
      rw [Rat.one_mul]; exact hc.art
    rw [e1, e2, Rat.natCast_add]
    have e4 : ((1 : Nat) : Rat) = 1 := rfl
    rw [e4]; grind
  have hone : IsI 1 := ⟨1, rfl⟩
  have hslI : ∀ q, q < m → ∀ r, r < m + 1 → IsI (1 * xt E c (2 * n + q) r) := fun q hq r hr => by
    cases r with
    | zero =>
      show IsI (1 * c (2 * n + q))
      rw [hc.slk q hq]; exact ⟨0, by decide +kernel⟩
    | succ r =>
      show IsI (1 * E r (2 * n + q))
      rw [L.slk r (by omega) q hq]
      split
      · exact ⟨1, by decide +kernel⟩
      · exact ⟨0, by decide +kernel⟩
  have harI : ∀ r, r < m + 1 → IsI (1 * xt E c (2 * n + m) r) := fun r hr => by
    cases r with
    | zero => exact hone.mul hc.artI
    | succ r =>
      show IsI (1 * E r (2 * n + m))
      rw [L.art r (by omega)]; exact ⟨-1, by decide +kernel⟩
  have hcase : ∀ k, k ≤ wdt n m → (k < 2 * n ∨ k = 2 * n + m + 1) ∨ k = 2 * n + m ∨ ∃ q, q < m ∧ k = 2 * n + q := fun k hk => by
    unfold wdt at hk
    by_cases h1 : k < 2 * n
    · exact Or.inl (Or.inl h1)
    · by_cases h2 : k = 2 * n + m + 1
      · exact Or.inl (Or.inr h2)
      · by_cases h3 : k = 2 * n + m
        · exact Or.inr (Or.inl h3)
        · exact Or.inr (Or.inr ⟨k - 2 * n, by omega, by omega⟩)
  obtain ⟨P, hP⟩ : ∃ P, P = ((m + 1 : Nat) : Rat) := ⟨_, rfl⟩
  rw [← hP] at hP1 hmQ hart hM
  have hWa : ∀ k, (k < 2 * n ∨ k = 2 * n + m + 1) → WtF n m Q P k = Q ∧ ((if k < 2 * n ∨ k = 2 * n + m + 1 then σ k else 1) = σ k) := fun k hk => by
    refine ⟨?_, if_pos hk⟩
    unfold WtF
    rcases hk with h1 | h1
    · rw [if_pos h1]
    · rw [if_neg (by omega), if_neg (by omega), if_pos h1]
  have hWb : WtF n m Q P (2 * n + m) = P ∧ ((if 2 * n + m < 2 * n ∨ 2 * n + m = 2 * n + m + 1 then σ (2 * n + m) else 1) = 1) := by
    refine ⟨?_, if_neg (by omega)⟩
    unfold WtF
    rw [if_neg (by omega), if_pos rfl]
  have hWc : ∀ q, q < m → WtF n m Q P (2 * n + q) = 1 ∧ ((if 2 * n + q < 2 * n ∨ 2 * n + q = 2 * n + m + 1 then σ (2 * n + q) else 1) = 1) := fun q hq => by
    refine ⟨?_, if_neg (by omega)⟩
    unfold WtF
    rw [if_neg (by omega), if_neg (by omega), if_neg (by omega)]
  have hWQ : ∀ k, k ≤ wdt n m → 1 ≤ WtF n m Q P k ∧ WtF n m Q P k ≤ Q := fun k hk => by
    rcases hcase k hk with h1 | rfl | ⟨q, hq, rfl⟩
    · rw [(hWa k h1).1]; exact ⟨hQ1, Rat.le_refl⟩
    · rw [hWb.1]; exact ⟨hP1, hmQ⟩
    · rw [(hWc q hq).1]; exact ⟨Rat.le_refl, hQ1⟩
  refine h.part c hs (fun k => if k < 2 * n ∨ k = 2 * n + m + 1 then σ k else 1) (WtF n m Q P) e ?_ ?_ ?_ hj
  · intro k hk
    rcases hcase k hk with h1 | rfl | ⟨q, hq, rfl⟩
    · obtain ⟨a1, a2, a3, a4, _⟩ := hσ k h1
      simp only [(hWa k h1).1, (hWa k h1).2]
      exact ⟨a1, a2, a3, a4⟩
    · simp only [hWb.1, hWb.2]
      exact ⟨hone, Rat.le_refl, hP1, harI⟩
    · simp only [(hWc q hq).1, (hWc q hq).2]
      exact ⟨hone, Rat.le_refl, Rat.le_refl, hslI q hq⟩
  · intro k hk
    rcases hcase k hk with h1 | rfl | ⟨q, hq, rfl⟩
    · simp only [(hWa k h1).1, (hWa k h1).2]
      exact (hσ k h1).2.2.2.2
    · simp only [hWb.1, hWb.2]
      exact hart
    · simp only [(hWc q hq).1, (hWc q hq).2, hslk q hq]
      exact Rat.le_refl
  · have hp0 : 0 ≤ pf m (fun q => WtF n m Q P (b q)) := pf_nonneg fun q hq => by have := (hWQ (b q) (Nat.le_of_lt (h.bas.lt q hq))).1; grind
    have hp1 : pf m (fun q => WtF n m Q P (b q)) * WtF n m Q P s ≤ pf m (fun q => WtF n m Q P (b q)) * Q := Rat.mul_le_mul_of_nonneg_left (hWQ s hs).2 hp0
    have hQ0 : 0 ≤ Q := by grind
    rcases hM with hM | hM
    · have h2 := Rat.mul_le_mul_of_nonneg_right (h.prod L hQ1 hP1) hQ0
      grind
    · have h3 : pf m (fun q => WtF n m Q P (b q)) ≤ pf m fun _ => Q := pf_le fun q hq => by
        have := hWQ (b q) (Nat.le_of_lt (h.bas.lt q hq))
        exact ⟨by grind, this.2⟩
      have h2 := Rat.mul_le_mul_of_nonneg_right h3 hQ0
      grind
end
end Sx
end Go.Proofs.YtijpgddpejiohaaGreatDoor
end
section
namespace Go.Proofs.YtijpgddpejiohaaGreatDoor
open Go
namespace Sx
open M
/-- The row that leaves. -/
theorem lv_spec {A : Mx} {b : Nat → Nat} {c wd : Nat} : ∀ i, match lvS A b c wd i with
    | (none, _) => ∀ k, k < i → A k c ≤ 0
    | (some r, l) => r < i ∧ 0 < A r c ∧ l = A r wd / A r c ∧ ∀ k, k < i → 0 < A k c → A r wd / A r c ≤ A k wd / A k c ∧ (A r wd / A r c = A k wd / A k c → b r ≤ b k)
  | 0 => fun k hk => absurd hk (by omega)
  | i + 1 => by
    have ih := lv_spec (A := A) (b := b) (c := c) (wd := wd) i
    rw [lvS]
    cases hs : lvS A b c wd i with
    | mk o l =>
      rw [hs] at ih
      cases o with
      | none =>
        simp only at ih
        unfold lvOne
        by_cases h1 : A i c ≤ 0
        · simp only [if_pos h1]
          intro k hk
          by_cases e : k = i
          · subst e; exact h1
          · exact ih k (by omega)
        · simp only [if_neg h1]
          refine ⟨by omega, by grind, trivial, fun k hk hp => ?_⟩
          by_cases e : k = i
          · subst e; exact ⟨Rat.le_refl, fun _ => Nat.le_refl _⟩
          · have := ih k (by omega); grind
      | some r =>
        simp only at ih
        obtain ⟨h1, h2, h3, h4⟩ := ih
        unfold lvOne
        by_cases h5 : A i c ≤ 0
        · simp only [if_pos h5]
          refine ⟨by omega, h2, h3, fun k hk hp => ?_⟩
          by_cases e : k = i
          · subst e; grind
          · exact h4 k (by omega) hp
        · simp only [if_neg h5]
          by_cases h6 : A i wd / A i c < l ∨ (A i wd / A i c = l ∧ b i < b r)
          · simp only [if_pos h6]
            refine ⟨by omega, by grind, trivial, fun k hk hp => ?_⟩
            by_cases e : k = i
            · subst e; exact ⟨Rat.le_refl, fun _ => Nat.le_refl _⟩
            · have h7 := h4 k (by omega) hp
              rw [h3] at h6
              rcases h6 with h6 | ⟨h6, h8⟩
              · exact ⟨by grind, fun e => by grind⟩
              · refine ⟨by grind, fun e => ?_⟩
                have := h7.2 (by grind)
                omega
          · simp only [if_neg h6]
            refine ⟨by omega, h2, h3, fun k hk hp => ?_⟩
            by_cases e : k = i
            · subst e
              rw [h3] at h6
              refine ⟨by grind, fun e => ?_⟩
              rcases Nat.lt_or_ge (b k) (b r) with h7 | h7
              · exact absurd (Or.inr ⟨e.symm, h7⟩) h6
              · exact h7
            · exact h4 k (by omega) hp
theorem leave_none {n m : Nat} {A : Mx} {b : Nat → Nat} {c : Nat} (h : leaveT n m A b c = none) : ∀ i, i < m → A i c ≤ 0 := by
  have h1 := lv_spec (A := A) (b := b) (c := c) (wd := wdt n m) m
  unfold leaveT at h
  cases hs : lvS A b c (wdt n m) m with
  | mk o l =>
    rw [hs] at h h1
    simp only at h
    subst h
    exact h1
theorem leave_some {n m : Nat} {A : Mx} {b : Nat → Nat} {c r : Nat} (h : leaveT n m A b c = some r) :
    r < m ∧ 0 < A r c ∧ ∀ k, k < m → 0 < A k c → A r (wdt n m) / A r c ≤ A k (wdt n m) / A k c ∧ (A r (wdt n m) / A r c = A k (wdt n m) / A k c → b r ≤ b k) := by
  have h1 := lv_spec (A := A) (b := b) (c := c) (wd := wdt n m) m
  unfold leaveT at h
  cases hs : lvS A b c (wdt n m) m with
  | mk o l =>
    rw [hs] at h h1
    simp only at h
    subst h
    exact ⟨h1.1, h1.2.1, h1.2.2.2⟩
theorem col_none {n m : Nat} {A : Mx} {ban : Option Nat} (h : colT n m A ban = none) : ∀ k, k < wdt n m → some k ≠ ban → A m k ≤ 0 := fun k hk hb => by
  unfold colT at h
  rw [List.find?_eq_none] at h
  have h1 := h k (List.mem_range.2 hk)
  simp only [Bool.and_eq_true, decide_eq_true_eq, not_and] at h1
  have := h1 hb
  grind
theorem col_some {n m : Nat} {A : Mx} {ban : Option Nat} {c : Nat} (h : colT n m A ban = some c) : c < wdt n m ∧ some c ≠ ban ∧ 0 < A m c ∧ ∀ k, k < c → some k ≠ ban → A m k ≤ 0 := by
  unfold colT at h
  rw [List.find?_range_eq_some] at h
  obtain ⟨h1, h2, h3⟩ := h
  simp only [Bool.and_eq_true, decide_eq_true_eq] at h1
  refine ⟨List.mem_range.1 h2, h1.1, h1.2, fun k hk hb => ?_⟩
  have h4 := h3 k hk
  simp only [Bool.not_eq_true', Bool.and_eq_false_iff, decide_eq_false_iff_not] at h4
  rcases h4 with h4 | h4
  · exact absurd hb h4
  · grind
theorem stp_of {n m : Nat} {ban : Option Nat} {T : Tbl} {c r : Nat} (h : colT n m T.A ban = some c) (h2 : leaveT n m T.A T.b c = some r) : Stp m (wdt n m) ban T.A T.b r c (pivT n m T r c).A (pivT n m T r c).b := by
  obtain ⟨a1, a2, a3, a4⟩ := col_some h
  obtain ⟨b1, b2, b3⟩ := leave_some h2
  exact ⟨a1, a2, a3, a4, b1, b2, fun i hi hp => (b3 i hi hp).1, fun i hi hp => (b3 i hi hp).2, fun j hj k hk => tab_A _ _ hj hk, fun i hi => tab_b _ _ hi⟩
/-- A table that pivots reached, whose goal row stands for the goal c. -/
structure Rep (n m : Nat) (E A : Mx) (b : Nat → Nat) (c : Nat → Rat) : Prop where
  inv : Inv n m E A b
  zv : ∀ t x, Sol m (wdt n m) A t x → Zv m (wdt n m) A t x = sm (wdt n m) (fun k => c k * x k) - c (wdt n m) * t
section
variable {n m : Nat} {E A A' : Mx} {b b' : Nat → Nat} {c : Nat → Rat}
theorem Rep.goal (h : Rep n m E A b c) {s : Nat} (hs : s ≤ wdt n m) : A m s = zc m A b c s := by
  unfold zc
  have hcm : sm m (fun i => A i s * c (b i)) = sm m (fun i => c (b i) * A i s) := sm_congr fun i _ => Rat.mul_comm _ _
  rw [hcm]
  rcases Nat.lt_or_eq_of_le hs with h1 | h1
  · have h2 := h.zv 0 _ (dir_sol h.inv.bas h1)
    rw [dir_zv h.inv.bas h1, dir_sum h1, bv_sum h.inv.bas.lt] at h2
    rw [h2]; grind
  · have h2 := h.zv 1 _ (bas_sol h.inv.bas)
    rw [bas_zv h.inv.bas, bv_sum h.inv.bas.lt] at h2
    rw [h1]; grind
theorem Rep.piv (h : Rep n m E A b c) {r q : Nat} (hr : r < m) (hq : q < wdt n m) (h0 : A r q ≠ 0) (pA : ∀ j, j ≤ m → ∀ k, k ≤ wdt n m → A' j k = pivA A r q j k) (pb : ∀ i, i < m → b' i = upd b r q i) : Rep n m E A' b' c := by
  refine ⟨h.inv.piv hr hq h0 pA pb, fun t x hs => ?_⟩
  have e := (eqv_piv hr h0).trans (Eqv.congr pA)
  have h1 := (e.sol t x).2 hs
  rw [← e.zv t x h1]
  exact h.zv t x h1
theorem Rep.stp {ban : Option Nat} (h : Rep n m E A b c) {r q : Nat} (s : Stp m (wdt n m) ban A b r q A' b') : Rep n m E A' b' c :=
  h.piv s.rm s.cD (fun e => by have := s.rp; rw [e] at this; exact Rat.lt_irrefl this) s.pA s.pb
theorem Rep.small (L : Laid n m E) (h : Rep n m E A b c) {Q : Rat} {e : Nat} (hc : Szd n m E c Q) (hF : Fits n m Q e) {j k : Nat} (hj : j ≤ m) (hk : k ≤ wdt n m) : Bq e (A j k) := by
  by_cases h1 : j < m
  · exact h.inv.size L hc hF hk (j := j + 1) (by omega)
  · rw [show j = m by omega, h.goal hk]
    exact h.inv.size L hc hF hk (j := 0) (by omega)
end
theorem bq_small {e : Nat} {q : Rat} (h : Bq e q) : smallQ e q = true := by
  unfold smallQ
  rw [Bool.and_eq_true, decide_eq_true_eq, decide_eq_true_eq]; exact h
theorem smallT_of {e n m : Nat} {T : Tbl} (h : ∀ j, j ≤ m → ∀ k, k ≤ wdt n m → Bq e (T.A j k)) : smallT e n m T = true := by
  unfold smallT
  rw [List.all_eq_true]
  intro j hj
  rw [List.all_eq_true]
  intro k hk
  exact bq_small (h j (by have := List.mem_range.1 hj; omega) k (by have := List.mem_range.1 hk; omega))
theorem climb_mono {e n m : Nat} {ban : Option Nat} {s : Bool × Tbl} : ∀ {f : Nat} {T : Tbl}, climbT e n m ban f T = some s → climbT e n m ban (f + 1) T = some s
  | 0, T, h => by unfold climbT at h; cases h
  | f + 1, T, h => by
    rw [climbT] at h ⊢
    by_cases h1 : smallT e n m T = false
    · rw [if_pos h1] at h; cases h
    · rw [if_neg h1] at h ⊢
      cases hc : colT n m T.A ban with
      | none => rw [hc] at h; exact h
      | some c =>
        rw [hc] at h
        simp only at h ⊢
        cases hr : leaveT n m T.A T.b c with
        | none => rw [hr] at h; exact h
        | some r =>
          rw [hr] at h
          simp only at h ⊢
          exact climb_mono h
theorem climb_le {e n m : Nat} {ban : Option Nat} {s : Bool × Tbl} {f : Nat} {T : Tbl} (h : climbT e n m ban f T = some s) : ∀ d, climbT e n m ban (f + d) T = some s
  | 0 => h
  | d + 1 => climb_mono (climb_le h d)
/-- The tables of a climb. -/
def stepT (n m : Nat) (ban : Option Nat) (T : Tbl) : Tbl := pivT n m T ((leaveT n m T.A T.b ((colT n m T.A ban).getD 0)).getD 0) ((colT n m T.A ban).getD 0)
def seqT (n m : Nat) (ban : Option Nat) (T : Tbl) : Nat → Tbl
  | 0 => T
  | k + 1 => stepT n m ban (seqT n m ban T k)
/-- Where a climb ends. -/
structure Ended (n m : Nat) (ban : Option Nat) (E : Mx) (c : Nat → Rat) (ok : Bool) (T : Tbl) : Prop where
  rep : Rep n m E T.A T.b c
  feas : ∀ i, i < m → 0 ≤ T.A i (wdt n m)
  top : ok = true → ∀ k, k < wdt n m → some k ≠ ban → T.A m k ≤ 0
  free : ok = false → ∃ q, q < wdt n m ∧ some q ≠ ban ∧ 0 < T.A m q ∧ ∀ i, i < m → T.A i q ≤ 0
theorem climb_end {n m e : Nat} {ban : Option Nat} {E : Mx} {c : Nat → Rat} {Q : Rat} (L : Laid n m E) (hc : Szd n m E c Q) (hF : Fits n m Q e) (T : Tbl) (R : Rep n m E T.A T.b c) (hf : ∀ i, i < m → 0 ≤ T.A i (wdt n m))
    (P : Tbl → Prop) (hP : P T) (hst : ∀ (T : Tbl) r q, P T → Rep n m E T.A T.b c → (∀ i, i < m → 0 ≤ T.A i (wdt n m)) → Stp m (wdt n m) ban T.A T.b r q (pivT n m T r q).A (pivT n m T r q).b → P (pivT n m T r q)) :
    ∃ f ok T', (∀ d, climbT e n m ban (f + d) T = some (ok, T')) ∧ Ended n m ban E c ok T' ∧ P T' := by
  have key : ∀ k, (∃ f ok T', (∀ d, climbT e n m ban (f + d) T = some (ok, T')) ∧ Ended n m ban E c ok T' ∧ P T') ∨
      (Runs m (wdt n m) ban (fun x => (seqT n m ban T x).A) (fun x => (seqT n m ban T x).b) (fun x => (leaveT n m (seqT n m ban T x).A (seqT n m ban T x).b ((colT n m (seqT n m ban T x).A ban).getD 0)).getD 0) (fun x => (colT n m (seqT n m ban T x).A ban).getD 0) k ∧
        Rep n m E (seqT n m ban T k).A (seqT n m ban T k).b c ∧ (∀ i, i < m → 0 ≤ (seqT n m ban T k).A i (wdt n m)) ∧ P (seqT n m ban T k) ∧ ∀ j, climbT e n m ban (k + j) T = climbT e n m ban j (seqT n m ban T k)) := by
    intro k
    induction k with
    | zero => exact Or.inr ⟨fun x hx => absurd hx (by omega), R, hf, hP, fun j => by rw [Nat.zero_add]; rfl⟩
    | succ k ih =>
      rcases ih with h | ⟨h1, h2, h3, h4, h5⟩
      · exact Or.inl h
      · have hsm : smallT e n m (seqT n m ban T k) = true := smallT_of fun j hj q hq => h2.small L hc hF hj hq
        have hsm2 : ¬ smallT e n m (seqT n m ban T k) = false := by rw [hsm]; decide
        cases hcol : colT n m (seqT n m ban T k).A ban with
        | none =>
          have h6 : climbT e n m ban (k + 1) T = some (true, seqT n m ban T k) := by rw [h5 1, climbT, if_neg hsm2, hcol]
          exact Or.inl ⟨k + 1, true, _, climb_le h6, ⟨h2, h3, fun _ => col_none hcol, fun e => by cases e⟩, h4⟩
        | some q =>
          cases hlv : leaveT n m (seqT n m ban T k).A (seqT n m ban T k).b q with
          | none =>
            have h6 : climbT e n m ban (k + 1) T = some (false, seqT n m ban T k) := by
              rw [h5 1, climbT, if_neg hsm2, hcol]
              simp only [hlv]
            obtain ⟨a1, a2, a3, _⟩ := col_some hcol
            exact Or.inl ⟨k + 1, false, _, climb_le h6, ⟨h2, h3, (fun e => by cases e), fun _ => ⟨q, a1, a2, a3, leave_none hlv⟩⟩, h4⟩
          | some r =>
            have hs := stp_of hcol hlv
            have e1 : seqT n m ban T (k + 1) = pivT n m (seqT n m ban T k) r q := by
              show stepT n m ban (seqT n m ban T k) = _
              unfold stepT
              rw [hcol, Option.getD_some, hlv, Option.getD_some]
            refine Or.inr ⟨fun x hx => ?_, by rw [e1]; exact h2.stp hs, by rw [e1]; exact hs.feas h3, by rw [e1]; exact hst _ r q h4 h2 h3 hs, fun j => ?_⟩
            · by_cases e2 : x = k
              · subst e2
                simp only [e1, hcol, Option.getD_some, hlv]
                exact hs
              · exact h1 x (by omega)
            · rw [show k + 1 + j = k + (j + 1) by omega, h5 (j + 1), climbT, if_neg hsm2, hcol, e1]
              simp only [hlv]
  rcases key (wdt n m ^ m) with h | ⟨h1, _⟩
  · exact h
  · exact absurd (bland h1 R.inv.bas hf) (by omega)
end Sx
end Go.Proofs.YtijpgddpejiohaaGreatDoor
end
