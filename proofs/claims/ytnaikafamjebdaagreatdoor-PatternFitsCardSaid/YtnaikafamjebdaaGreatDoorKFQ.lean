/-
  The numbers of a table keep short, plain: the weights of a basis' columns.
  A climb ends, plain, and its tables keep short.
  The simplex' first phase, plain: a point, or weights that contradict.
  What the simplex finds, plain: the end of the first phase, and what its tables say of points and weights.
-/
import Derived.Test.YtnaikafamjebdaaGreatDoorKFP
section
namespace Go.Proofs.YtnaikafamjebdaaGreatDoor
open Go
namespace Sx
open M
theorem pf_one : ∀ (n : Nat), pf n (fun _ => 1) = 1
  | 0 => rfl
  | n + 1 => by rw [pf, pf_one n]; grind
theorem pf_swap : ∀ (m N : Nat) (g : Nat → Nat → Rat), pf m (fun q => pf N fun u => g q u) = pf N fun u => pf m fun q => g q u
  | 0, N, g => by
    simp only [pf]
    exact (pf_one N).symm
  | m + 1, N, g => by
    rw [pf, pf_swap m N fun q u => g (q + 1) u, ← pf_mul]
    exact pf_congr fun u _ => rfl
theorem pf_atmost : ∀ {m : Nat} {p : Nat → Prop} [DecidablePred p] {x : Rat}, 1 ≤ x → (∀ q q', q < m → q' < m → p q → p q' → q = q') → pf m (fun q => if p q then x else 1) ≤ x
  | 0, _, _, _, hx, _ => by rw [pf]; exact hx
  | m + 1, p, _, x, hx, h => by
    rw [pf]
    by_cases h0 : p 0
    · rw [if_pos h0, pf_congr (g := fun _ => 1) fun k hk => if_neg fun e => by have := h 0 (k + 1) (by omega) (by omega) h0 e; omega, pf_one]
      grind
    · rw [if_neg h0]
      have := pf_atmost (m := m) (p := fun k => p (k + 1)) hx fun q q' hq hq' a b => by have := h (q + 1) (q' + 1) (by omega) (by omega) a b; omega
      grind
theorem pf_pick : ∀ (N k : Nat) (w : Nat → Rat), pf N (fun u => if k = u then w u else 1) = if k < N then w k else 1
  | 0, k, w => by rw [pf, if_neg (by omega)]
  | N + 1, 0, w => by
    rw [pf, if_pos rfl, pf_congr (g := fun _ => 1) fun u _ => if_neg (by omega), pf_one, if_pos (by omega)]; grind
  | N + 1, k + 1, w => by
    have e : pf N (fun u => if k + 1 = u + 1 then w (u + 1) else 1) = pf N (fun u => if k = u then (fun u => w (u + 1)) u else 1) := pf_congr fun u _ => by
      by_cases e : k = u
      · rw [if_pos (by omega), if_pos e]
      · rw [if_neg (by omega), if_neg e]
    rw [pf, if_neg (by omega), e, pf_pick N k fun u => w (u + 1)]
    by_cases h : k < N
    · rw [if_pos h, if_pos (by omega)]; grind
    · rw [if_neg h, if_neg (by omega)]; grind
theorem pf_const : ∀ (n : Nat) (Q P : Rat), pf (n + 1) (fun u => if u < n then Q else P) = pf n (fun _ => Q) * P
  | 0, Q, P => by simp only [pf]; rw [if_neg (by omega)]; grind
  | n + 1, Q, P => by
    have e : pf (n + 1) (fun u => if u + 1 < n + 1 then Q else P) = pf (n + 1) fun u => if u < n then Q else P := pf_congr fun u _ => by
      by_cases h : u < n
      · rw [if_pos (by omega), if_pos h]
      · rw [if_neg (by omega), if_neg h]
    rw [pf, if_pos (by omega), e, pf_const n Q P, pf]; grind
section
variable {n m : Nat} {E A : Mx} {b : Nat → Nat}
theorem Inv.pair (L : Laid n m E) (h : Inv n m E A b) {k : Nat} (hk : k < n) {i : Nat} (hi : i < m) : A i k + A i (n + k) = 0 := by
  have hw : n + k < wdt n m := by unfold wdt; omega
  have hv : ∀ f : Nat → Rat, sm (wdt n m) (fun j => f j * ((if j = k then 1 else 0) + if j = n + k then 1 else 0)) = f k + f (n + k) := fun f => by
    have e : sm (wdt n m) (fun j => f j * ((if j = k then 1 else 0) + if j = n + k then 1 else 0)) = sm (wdt n m) (fun j => (if j = k then f j else 0) + if j = n + k then f j else 0) :=
      sm_congr fun j _ => by split <;> split <;> grind
    rw [e, sm_add, sm_one (k := k) (by omega) fun j _ e => if_neg e, sm_one (k := n + k) hw fun j _ e => if_neg e, if_pos rfl, if_pos rfl]
  have h1 : Sol m (wdt n m) E 0 fun j => (if j = k then 1 else 0) + if j = n + k then 1 else 0 := fun r hr => by
    rw [hv, L.neg r hr k hk]; grind
  have h2 := (h.sol 0 _).2 h1 i hi
  rw [hv] at h2
  rw [h2]; grind
theorem Inv.nopair (L : Laid n m E) (h : Inv n m E A b) {k : Nat} (hk : k < n) {i j : Nat} (hi : i < m) (hj : j < m) (e1 : b i = k) (e2 : b j = n + k) : False := by
  have h1 := h.pair L hk hi
  have h2 := h.bas.one i hi
  have h3 : i ≠ j := fun e => by subst e; omega
  have h4 := h.bas.zer j i hj (by omega) h3
  rw [e1] at h2
  rw [e2] at h4
  rw [h2, h4] at h1
  exact absurd h1 (by decide +kernel)
def WtF (n m : Nat) (Q P : Rat) (k : Nat) : Rat := if k < 2 * n then Q else if k = 2 * n + m then P else if k = 2 * n + m + 1 then Q else 1
def cls (n m k : Nat) : Nat := if k < n then k else if k < 2 * n then k - n else if k = 2 * n + m then n else n + 1
theorem Inv.prod (L : Laid n m E) (h : Inv n m E A b) {Q P : Rat} (hQ : 1 ≤ Q) (hP : 1 ≤ P) : pf m (fun q => WtF n m Q P (b q)) ≤ pf n (fun _ => Q) * P := by
  have e : pf m (fun q => WtF n m Q P (b q)) = pf m (fun q => pf (n + 1) fun u => if cls n m (b q) = u then (fun u => if u < n then Q else P) u else 1) := pf_congr fun q hq => by
    have := h.bas.lt q hq
    rw [pf_pick]
    unfold WtF cls
    unfold wdt at this
    by_cases h1 : b q < n
    · rw [if_pos (show b q < 2 * n by omega), if_pos h1, if_pos (by omega)]
      simp only [if_pos h1]
    · by_cases h2 : b q < 2 * n
      · rw [if_pos h2, if_neg h1, if_pos h2, if_pos (by omega)]
        simp only [if_pos (show b q - n < n by omega)]
      · by_cases h3 : b q = 2 * n + m
        · rw [if_neg h2, if_pos h3, if_neg h1, if_neg h2, if_pos h3, if_pos (by omega)]
          simp only [if_neg (show ¬ n < n by omega)]
        · rw [if_neg h2, if_neg h3, if_neg (by omega), if_neg h1, if_neg h2, if_neg h3, if_neg (by omega)]
  rw [e, pf_swap, ← pf_const]
  refine pf_le fun u hu => ⟨pf_nonneg fun q _ => ?_, ?_⟩
  · split
    · show 0 ≤ if u < n then Q else P
      split <;> grind
    · decide +kernel
  · refine pf_atmost (p := fun q => cls n m (b q) = u) (x := if u < n then Q else P) (by split <;> assumption) fun q q' hq hq' a a' => ?_
    have c1 := h.bas.lt q hq
    have c2 := h.bas.lt q' hq'
    by_cases hb : b q = b q'
    · exact h.bas.inj hq hq' hb
    · exfalso
      unfold cls at a a'
      unfold wdt at c1 c2
      by_cases k1 : b q < n
      · rw [if_pos k1] at a
        by_cases k2 : b q' < n
        · rw [if_pos k2] at a'; omega
        · rw [if_neg k2] at a'
          by_cases k3 : b q' < 2 * n
          · rw [if_pos k3] at a'
            exact h.nopair L (k := b q) k1 hq hq' rfl (by omega)
          · rw [if_neg k3] at a'; split at a' <;> omega
      · rw [if_neg k1] at a
        by_cases k3 : b q < 2 * n
        · rw [if_pos k3] at a
          by_cases k2 : b q' < n
          · rw [if_pos k2] at a'
            exact h.nopair L (k := b q') k2 hq' hq rfl (by omega)
          · rw [if_neg k2] at a'
            by_cases k4 : b q' < 2 * n
            · rw [if_pos k4] at a'; omega
            · rw [if_neg k4] at a'; split at a' <;> omega
        · rw [if_neg k3] at a
          by_cases k5 : b q = 2 * n + m
          · rw [if_pos k5] at a
            by_cases k2 : b q' < n
            · rw [if_pos k2] at a'; omega
            · rw [if_neg k2] at a'
              by_cases k4 : b q' < 2 * n
              · rw [if_pos k4] at a'; omega
              · rw [if_neg k4] at a'
                by_cases k6 : b q' = 2 * n + m
                · omega
                · rw [if_neg k6] at a'; omega
          · rw [if_neg k5] at a; omega
structure Szd (n m : Nat) (E : Mx) (c : Nat → Rat) (Q : Rat) : Prop where
  slk : ∀ j, j < m → c (2 * n + j) = 0
  artI : IsI (c (2 * n + m))
  art : ab (c (2 * n + m)) ≤ 1
  col : ∃ σ : Nat → Rat, ∀ k, (k < 2 * n ∨ k = 2 * n + m + 1) → IsI (σ k) ∧ 1 ≤ σ k ∧ σ k ≤ Q ∧ (∀ r, r < m + 1 → IsI (σ k * xt E c k r)) ∧ sm (m + 1) (fun r => ab (σ k * xt E c k r)) ≤ Q
def Fits (n m : Nat) (Q : Rat) (e : Nat) : Prop := ((m + 1 : Nat) : Rat) ≤ Q ∧ (pf n (fun _ => Q) * ((m + 1 : Nat) : Rat) * Q < ((10 ^ e : Nat) : Rat) ∨ pf m (fun _ => Q) * Q < ((10 ^ e : Nat) : Rat))
theorem one_le_cast (m : Nat) : (1 : Rat) ≤ ((m + 1 : Nat) : Rat) := by
  have := Rat.natCast_le_natCast.2 (show 1 ≤ m + 1 by omega)
  exact this
theorem Inv.size (L : Laid n m E) (h : Inv n m E A b) {c : Nat → Rat} {Q : Rat} {e : Nat} (hc : Szd n m E c Q) (hF : Fits n m Q e) {s : Nat} (hs : s ≤ wdt n m) {j : Nat} (hj : j < m + 1) : Bq e (ys m A b c s j) := by
  obtain ⟨σ, hσ⟩ := hc.col
  obtain ⟨hmQ, hM⟩ := hF
  have hP1 := one_le_cast m
  have hQ1 : 1 ≤ Q := Rat.le_trans hP1 hmQ
  have hslk : ∀ q, q < m → sm (m + 1) (fun r => ab (1 * xt E c (2 * n + q) r)) = 1 := fun q hq => by
    rw [sm_head]
    have e1 : xt E c (2 * n + q) 0 = 0 := hc.slk q hq
    rw [e1, sm_one (k := q) hq fun r hr e => by
      show ab (1 * E r (2 * n + q)) = 0
      rw [L.slk r hr q hq, if_neg e]; decide +kernel]
    show ab (1 * 0) + ab (1 * E q (2 * n + q)) = 1
    rw [L.slk q hq q hq, if_pos rfl]; decide +kernel
  have hart : sm (m + 1) (fun r => ab (1 * xt E c (2 * n + m) r)) ≤ ((m + 1 : Nat) : Rat) := by
    rw [sm_head]
    have e1 : sm m (fun k => ab (1 * xt E c (2 * n + m) (k + 1))) = sm m fun _ => 1 := sm_congr fun r hr => by
      show ab (1 * E r (2 * n + m)) = 1
      rw [L.art r hr]; decide +kernel
    have e2 : sm m (fun _ => (1 : Rat)) = ((m : Nat) : Rat) := by
      clear hσ hM hslk hP1 hmQ hQ1 hs hj e1 hc h L
      induction m with
      | zero => rfl
      | succ m ih => rw [sm, ih]; exact (Rat.natCast_add m 1).symm
    have e3 : ab (1 * xt E c (2 * n + m) 0) ≤ 1 := by
      show ab (1 * c (2 * n + m)) ≤ 1
      rw [Rat.one_mul]; exact hc.art
    rw [e1, e2, Rat.natCast_add]
    have e4 : ((1 : Nat) : Rat) = 1 := rfl
    rw [e4]; grind
  have hone : IsI 1 := ⟨1, rfl⟩
  have hslI : ∀ q, q < m → ∀ r, r < m + 1 → IsI (1 * xt E c (2 * n + q) r) := fun q hq r hr => by
    cases r with
    | zero =>
      show IsI (1 * c (2 * n + q))
      rw [hc.slk q hq]; exact ⟨0, by decide +kernel⟩
    | succ r =>
      show IsI (1 * E r (2 * n + q))
      rw [L.slk r (by omega) q hq]
      split
      · exact ⟨1, by decide +kernel⟩
      · exact ⟨0, by decide +kernel⟩
  have harI : ∀ r, r < m + 1 → IsI (1 * xt E c (2 * n + m) r) := fun r hr => by
    cases r with
    | zero => exact hone.mul hc.artI
    | succ r =>
      show IsI (1 * E r (2 * n + m))
      rw [L.art r (by omega)]; exact ⟨-1, by decide +kernel⟩
  have hcase : ∀ k, k ≤ wdt n m → (k < 2 * n ∨ k = 2 * n + m + 1) ∨ k = 2 * n + m ∨ ∃ q, q < m ∧ k = 2 * n + q := fun k hk => by
    unfold wdt at hk
    by_cases h1 : k < 2 * n
    · exact Or.inl (Or.inl h1)
    · by_cases h2 : k = 2 * n + m + 1
      · exact Or.inl (Or.inr h2)
      · by_cases h3 : k = 2 * n + m
        · exact Or.inr (Or.inl h3)
        · exact Or.inr (Or.inr ⟨k - 2 * n, by omega, by omega⟩)
  obtain ⟨P, hP⟩ : ∃ P, P = ((m + 1 : Nat) : Rat) := ⟨_, rfl⟩
  rw [← hP] at hP1 hmQ hart hM
  have hWa : ∀ k, (k < 2 * n ∨ k = 2 * n + m + 1) → WtF n m Q P k = Q ∧ ((if k < 2 * n ∨ k = 2 * n + m + 1 then σ k else 1) = σ k) := fun k hk => by
    refine ⟨?_, if_pos hk⟩
    unfold WtF
    rcases hk with h1 | h1
    · rw [if_pos h1]
    · rw [if_neg (by omega), if_neg (by omega), if_pos h1]
  have hWb : WtF n m Q P (2 * n + m) = P ∧ ((if 2 * n + m < 2 * n ∨ 2 * n + m = 2 * n + m + 1 then σ (2 * n + m) else 1) = 1) := by
    refine ⟨?_, if_neg (by omega)⟩
    unfold WtF
    rw [if_neg (by omega), if_pos rfl]
  have hWc : ∀ q, q < m → WtF n m Q P (2 * n + q) = 1 ∧ ((if 2 * n + q < 2 * n ∨ 2 * n + q = 2 * n + m + 1 then σ (2 * n + q) else 1) = 1) := fun q hq => by
    refine ⟨?_, if_neg (by omega)⟩
    unfold WtF
    rw [if_neg (by omega), if_neg (by omega), if_neg (by omega)]
  have hWQ : ∀ k, k ≤ wdt n m → 1 ≤ WtF n m Q P k ∧ WtF n m Q P k ≤ Q := fun k hk => by
    rcases hcase k hk with h1 | rfl | ⟨q, hq, rfl⟩
    · rw [(hWa k h1).1]; exact ⟨hQ1, Rat.le_refl⟩
    · rw [hWb.1]; exact ⟨hP1, hmQ⟩
    · rw [(hWc q hq).1]; exact ⟨Rat.le_refl, hQ1⟩
  refine h.part c hs (fun k => if k < 2 * n ∨ k = 2 * n + m + 1 then σ k else 1) (WtF n m Q P) e ?_ ?_ ?_ hj
  · intro k hk
    rcases hcase k hk with h1 | rfl | ⟨q, hq, rfl⟩
    · obtain ⟨a1, a2, a3, a4, _⟩ := hσ k h1
      simp only [(hWa k h1).1, (hWa k h1).2]
      exact ⟨a1, a2, a3, a4⟩
    · simp only [hWb.1, hWb.2]
      exact ⟨hone, Rat.le_refl, hP1, harI⟩
    · simp only [(hWc q hq).1, (hWc q hq).2]
      exact ⟨hone, Rat.le_refl, Rat.le_refl, hslI q hq⟩
  · intro k hk
    rcases hcase k hk with h1 | rfl | ⟨q, hq, rfl⟩
    · simp only [(hWa k h1).1, (hWa k h1).2]
      exact (hσ k h1).2.2.2.2
    · simp only [hWb.1, hWb.2]
      exact hart
    · simp only [(hWc q hq).1, (hWc q hq).2, hslk q hq]
      exact Rat.le_refl
  · have hp0 : 0 ≤ pf m (fun q => WtF n m Q P (b q)) := pf_nonneg fun q hq => by have := (hWQ (b q) (Nat.le_of_lt (h.bas.lt q hq))).1; grind
    have hp1 : pf m (fun q => WtF n m Q P (b q)) * WtF n m Q P s ≤ pf m (fun q => WtF n m Q P (b q)) * Q := Rat.mul_le_mul_of_nonneg_left (hWQ s hs).2 hp0
    have hQ0 : 0 ≤ Q := by grind
    rcases hM with hM | hM
    · have h2 := Rat.mul_le_mul_of_nonneg_right (h.prod L hQ1 hP1) hQ0
      grind
    · have h3 : pf m (fun q => WtF n m Q P (b q)) ≤ pf m fun _ => Q := pf_le fun q hq => by
        have := hWQ (b q) (Nat.le_of_lt (h.bas.lt q hq))
        exact ⟨by grind, this.2⟩
      have h2 := Rat.mul_le_mul_of_nonneg_right h3 hQ0
      grind
end
end Sx
end Go.Proofs.YtnaikafamjebdaaGreatDoor
end
section
namespace Go.Proofs.YtnaikafamjebdaaGreatDoor
open Go
namespace Sx
open M
theorem lv_spec {A : Mx} {b : Nat → Nat} {c wd : Nat} : ∀ i, match lvS A b c wd i with
    | (none, _) => ∀ k, k < i → A k c ≤ 0
    | (some r, l) => r < i ∧ 0 < A r c ∧ l = A r wd / A r c ∧ ∀ k, k < i → 0 < A k c → A r wd / A r c ≤ A k wd / A k c ∧ (A r wd / A r c = A k wd / A k c → b r ≤ b k)
  | 0 => fun k hk => absurd hk (by omega)
  | i + 1 => by
    have ih := lv_spec (A := A) (b := b) (c := c) (wd := wd) i
    rw [lvS]
    cases hs : lvS A b c wd i with
    | mk o l =>
      rw [hs] at ih
      cases o with
      | none =>
        simp only at ih
        unfold lvOne
        by_cases h1 : A i c ≤ 0
        · simp only [if_pos h1]
          intro k hk
          by_cases e : k = i
          · subst e; exact h1
          · exact ih k (by omega)
        · simp only [if_neg h1]
          refine ⟨by omega, by grind, trivial, fun k hk hp => ?_⟩
          by_cases e : k = i
          · subst e; exact ⟨Rat.le_refl, fun _ => Nat.le_refl _⟩
          · have := ih k (by omega); grind
      | some r =>
        simp only at ih
        obtain ⟨h1, h2, h3, h4⟩ := ih
        unfold lvOne
        by_cases h5 : A i c ≤ 0
        · simp only [if_pos h5]
          refine ⟨by omega, h2, h3, fun k hk hp => ?_⟩
          by_cases e : k = i
          · subst e; grind
          · exact h4 k (by omega) hp
        · simp only [if_neg h5]
          by_cases h6 : A i wd / A i c < l ∨ (A i wd / A i c = l ∧ b i < b r)
          · simp only [if_pos h6]
            refine ⟨by omega, by grind, trivial, fun k hk hp => ?_⟩
            by_cases e : k = i
            · subst e; exact ⟨Rat.le_refl, fun _ => Nat.le_refl _⟩
            · have h7 := h4 k (by omega) hp
              rw [h3] at h6
              rcases h6 with h6 | ⟨h6, h8⟩
              · exact ⟨by grind, fun e => by grind⟩
              · refine ⟨by grind, fun e => ?_⟩
                have := h7.2 (by grind)
                omega
          · simp only [if_neg h6]
            refine ⟨by omega, h2, h3, fun k hk hp => ?_⟩
            by_cases e : k = i
            · subst e
              rw [h3] at h6
              refine ⟨by grind, fun e => ?_⟩
              rcases Nat.lt_or_ge (b k) (b r) with h7 | h7
              · exact absurd (Or.inr ⟨e.symm, h7⟩) h6
              · exact h7
            · exact h4 k (by omega) hp
theorem leave_none {n m : Nat} {A : Mx} {b : Nat → Nat} {c : Nat} (h : leaveT n m A b c = none) : ∀ i, i < m → A i c ≤ 0 := by
  have h1 := lv_spec (A := A) (b := b) (c := c) (wd := wdt n m) m
  unfold leaveT at h
  cases hs : lvS A b c (wdt n m) m with
  | mk o l =>
    rw [hs] at h h1
    simp only at h
    subst h
    exact h1
theorem leave_some {n m : Nat} {A : Mx} {b : Nat → Nat} {c r : Nat} (h : leaveT n m A b c = some r) :
    r < m ∧ 0 < A r c ∧ ∀ k, k < m → 0 < A k c → A r (wdt n m) / A r c ≤ A k (wdt n m) / A k c ∧ (A r (wdt n m) / A r c = A k (wdt n m) / A k c → b r ≤ b k) := by
  have h1 := lv_spec (A := A) (b := b) (c := c) (wd := wdt n m) m
  unfold leaveT at h
  cases hs : lvS A b c (wdt n m) m with
  | mk o l =>
    rw [hs] at h h1
    simp only at h
    subst h
    exact ⟨h1.1, h1.2.1, h1.2.2.2⟩
theorem col_none {n m : Nat} {A : Mx} {ban : Option Nat} (h : colT n m A ban = none) : ∀ k, k < wdt n m → some k ≠ ban → A m k ≤ 0 := fun k hk hb => by
  unfold colT at h
  rw [List.find?_eq_none] at h
  have h1 := h k (List.mem_range.2 hk)
  simp only [Bool.and_eq_true, decide_eq_true_eq, not_and] at h1
  have := h1 hb
  grind
theorem col_some {n m : Nat} {A : Mx} {ban : Option Nat} {c : Nat} (h : colT n m A ban = some c) : c < wdt n m ∧ some c ≠ ban ∧ 0 < A m c ∧ ∀ k, k < c → some k ≠ ban → A m k ≤ 0 := by
  unfold colT at h
  rw [List.find?_range_eq_some] at h
  obtain ⟨h1, h2, h3⟩ := h
  simp only [Bool.and_eq_true, decide_eq_true_eq] at h1
  refine ⟨List.mem_range.1 h2, h1.1, h1.2, fun k hk hb => ?_⟩
  have h4 := h3 k hk
  simp only [Bool.not_eq_true', Bool.and_eq_false_iff, decide_eq_false_iff_not] at h4
  rcases h4 with h4 | h4
  · exact absurd hb h4
  · grind
theorem stp_of {n m : Nat} {ban : Option Nat} {T : Tbl} {c r : Nat} (h : colT n m T.A ban = some c) (h2 : leaveT n m T.A T.b c = some r) : Stp m (wdt n m) ban T.A T.b r c (pivT n m T r c).A (pivT n m T r c).b := by
  obtain ⟨a1, a2, a3, a4⟩ := col_some h
  obtain ⟨b1, b2, b3⟩ := leave_some h2
  exact ⟨a1, a2, a3, a4, b1, b2, fun i hi hp => (b3 i hi hp).1, fun i hi hp => (b3 i hi hp).2, fun j hj k hk => tab_A _ _ hj hk, fun i hi => tab_b _ _ hi⟩
structure Rep (n m : Nat) (E A : Mx) (b : Nat → Nat) (c : Nat → Rat) : Prop where
  inv : Inv n m E A b
  zv : ∀ t x, Sol m (wdt n m) A t x → Zv m (wdt n m) A t x = sm (wdt n m) (fun k => c k * x k) - c (wdt n m) * t
section
variable {n m : Nat} {E A A' : Mx} {b b' : Nat → Nat} {c : Nat → Rat}
theorem Rep.goal (h : Rep n m E A b c) {s : Nat} (hs : s ≤ wdt n m) : A m s = zc m A b c s := by
  unfold zc
  have hcm : sm m (fun i => A i s * c (b i)) = sm m (fun i => c (b i) * A i s) := sm_congr fun i _ => Rat.mul_comm _ _
  rw [hcm]
  rcases Nat.lt_or_eq_of_le hs with h1 | h1
  · have h2 := h.zv 0 _ (dir_sol h.inv.bas h1)
    rw [dir_zv h.inv.bas h1, dir_sum h1, bv_sum h.inv.bas.lt] at h2
    rw [h2]; grind
  · have h2 := h.zv 1 _ (bas_sol h.inv.bas)
    rw [bas_zv h.inv.bas, bv_sum h.inv.bas.lt] at h2
    rw [h1]; grind
theorem Rep.piv (h : Rep n m E A b c) {r q : Nat} (hr : r < m) (hq : q < wdt n m) (h0 : A r q ≠ 0) (pA : ∀ j, j ≤ m → ∀ k, k ≤ wdt n m → A' j k = pivA A r q j k) (pb : ∀ i, i < m → b' i = upd b r q i) : Rep n m E A' b' c := by
  refine ⟨h.inv.piv hr hq h0 pA pb, fun t x hs => ?_⟩
  have e := (eqv_piv hr h0).trans (Eqv.congr pA)
  have h1 := (e.sol t x).2 hs
  rw [← e.zv t x h1]
  exact h.zv t x h1
theorem Rep.stp {ban : Option Nat} (h : Rep n m E A b c) {r q : Nat} (s : Stp m (wdt n m) ban A b r q A' b') : Rep n m E A' b' c :=
  h.piv s.rm s.cD (fun e => by have := s.rp; rw [e] at this; exact Rat.lt_irrefl this) s.pA s.pb
theorem Rep.small (L : Laid n m E) (h : Rep n m E A b c) {Q : Rat} {e : Nat} (hc : Szd n m E c Q) (hF : Fits n m Q e) {j k : Nat} (hj : j ≤ m) (hk : k ≤ wdt n m) : Bq e (A j k) := by
  by_cases h1 : j < m
  · exact h.inv.size L hc hF hk (j := j + 1) (by omega)
  · rw [show j = m by omega, h.goal hk]
    exact h.inv.size L hc hF hk (j := 0) (by omega)
end
theorem bq_small {e : Nat} {q : Rat} (h : Bq e q) : smallQ e q = true := by
  unfold smallQ
  rw [Bool.and_eq_true, decide_eq_true_eq, decide_eq_true_eq]; exact h
theorem smallT_of {e n m : Nat} {T : Tbl} (h : ∀ j, j ≤ m → ∀ k, k ≤ wdt n m → Bq e (T.A j k)) : smallT e n m T = true := by
  unfold smallT
  rw [List.all_eq_true]
  intro j hj
  rw [List.all_eq_true]
  intro k hk
  exact bq_small (h j (by have := List.mem_range.1 hj; omega) k (by have := List.mem_range.1 hk; omega))
theorem climb_mono {e n m : Nat} {ban : Option Nat} {s : Bool × Tbl} : ∀ {f : Nat} {T : Tbl}, climbT e n m ban f T = some s → climbT e n m ban (f + 1) T = some s
  | 0, T, h => by unfold climbT at h; cases h
  | f + 1, T, h => by
    rw [climbT] at h ⊢
    by_cases h1 : smallT e n m T = false
    · rw [if_pos h1] at h; cases h
    · rw [if_neg h1] at h ⊢
      cases hc : colT n m T.A ban with
      | none => rw [hc] at h; exact h
      | some c =>
        rw [hc] at h
        simp only at h ⊢
        cases hr : leaveT n m T.A T.b c with
        | none => rw [hr] at h; exact h
        | some r =>
          rw [hr] at h
          simp only at h ⊢
          exact climb_mono h
theorem climb_le {e n m : Nat} {ban : Option Nat} {s : Bool × Tbl} {f : Nat} {T : Tbl} (h : climbT e n m ban f T = some s) : ∀ d, climbT e n m ban (f + d) T = some s
  | 0 => h
  | d + 1 => climb_mono (climb_le h d)
def stepT (n m : Nat) (ban : Option Nat) (T : Tbl) : Tbl := pivT n m T ((leaveT n m T.A T.b ((colT n m T.A ban).getD 0)).getD 0) ((colT n m T.A ban).getD 0)
def seqT (n m : Nat) (ban : Option Nat) (T : Tbl) : Nat → Tbl
  | 0 => T
  | k + 1 => stepT n m ban (seqT n m ban T k)
structure Ended (n m : Nat) (ban : Option Nat) (E : Mx) (c : Nat → Rat) (ok : Bool) (T : Tbl) : Prop where
  rep : Rep n m E T.A T.b c
  feas : ∀ i, i < m → 0 ≤ T.A i (wdt n m)
  top : ok = true → ∀ k, k < wdt n m → some k ≠ ban → T.A m k ≤ 0
  free : ok = false → ∃ q, q < wdt n m ∧ some q ≠ ban ∧ 0 < T.A m q ∧ ∀ i, i < m → T.A i q ≤ 0
theorem climb_end {n m e : Nat} {ban : Option Nat} {E : Mx} {c : Nat → Rat} {Q : Rat} (L : Laid n m E) (hc : Szd n m E c Q) (hF : Fits n m Q e) (T : Tbl) (R : Rep n m E T.A T.b c) (hf : ∀ i, i < m → 0 ≤ T.A i (wdt n m))
    (P : Tbl → Prop) (hP : P T) (hst : ∀ (T : Tbl) r q, P T → Rep n m E T.A T.b c → (∀ i, i < m → 0 ≤ T.A i (wdt n m)) → Stp m (wdt n m) ban T.A T.b r q (pivT n m T r q).A (pivT n m T r q).b → P (pivT n m T r q)) :
    ∃ f ok T', (∀ d, climbT e n m ban (f + d) T = some (ok, T')) ∧ Ended n m ban E c ok T' ∧ P T' := by
  have key : ∀ k, (∃ f ok T', (∀ d, climbT e n m ban (f + d) T = some (ok, T')) ∧ Ended n m ban E c ok T' ∧ P T') ∨
      (Runs m (wdt n m) ban (fun x => (seqT n m ban T x).A) (fun x => (seqT n m ban T x).b) (fun x => (leaveT n m (seqT n m ban T x).A (seqT n m ban T x).b ((colT n m (seqT n m ban T x).A ban).getD 0)).getD 0) (fun x => (colT n m (seqT n m ban T x).A ban).getD 0) k ∧
        Rep n m E (seqT n m ban T k).A (seqT n m ban T k).b c ∧ (∀ i, i < m → 0 ≤ (seqT n m ban T k).A i (wdt n m)) ∧ P (seqT n m ban T k) ∧ ∀ j, climbT e n m ban (k + j) T = climbT e n m ban j (seqT n m ban T k)) := by
    intro k
    induction k with
    | zero => exact Or.inr ⟨fun x hx => absurd hx (by omega), R, hf, hP, fun j => by rw [Nat.zero_add]; rfl⟩
    | succ k ih =>
      rcases ih with h | ⟨h1, h2, h3, h4, h5⟩
      · exact Or.inl h
      · have hsm : smallT e n m (seqT n m ban T k) = true := smallT_of fun j hj q hq => h2.small L hc hF hj hq
        have hsm2 : ¬ smallT e n m (seqT n m ban T k) = false := by rw [hsm]; decide
        cases hcol : colT n m (seqT n m ban T k).A ban with
        | none =>
          have h6 : climbT e n m ban (k + 1) T = some (true, seqT n m ban T k) := by rw [h5 1, climbT, if_neg hsm2, hcol]
          exact Or.inl ⟨k + 1, true, _, climb_le h6, ⟨h2, h3, fun _ => col_none hcol, fun e => by cases e⟩, h4⟩
        | some q =>
          cases hlv : leaveT n m (seqT n m ban T k).A (seqT n m ban T k).b q with
          | none =>
            have h6 : climbT e n m ban (k + 1) T = some (false, seqT n m ban T k) := by
              rw [h5 1, climbT, if_neg hsm2, hcol]
              simp only [hlv]
            obtain ⟨a1, a2, a3, _⟩ := col_some hcol
            exact Or.inl ⟨k + 1, false, _, climb_le h6, ⟨h2, h3, (fun e => by cases e), fun _ => ⟨q, a1, a2, a3, leave_none hlv⟩⟩, h4⟩
          | some r =>
            have hs := stp_of hcol hlv
            have e1 : seqT n m ban T (k + 1) = pivT n m (seqT n m ban T k) r q := by
              show stepT n m ban (seqT n m ban T k) = _
              unfold stepT
              rw [hcol, Option.getD_some, hlv, Option.getD_some]
            refine Or.inr ⟨fun x hx => ?_, by rw [e1]; exact h2.stp hs, by rw [e1]; exact hs.feas h3, by rw [e1]; exact hst _ r q h4 h2 h3 hs, fun j => ?_⟩
            · by_cases e2 : x = k
              · subst e2
                simp only [e1, hcol, Option.getD_some, hlv]
                exact hs
              · exact h1 x (by omega)
            · rw [show k + 1 + j = k + (j + 1) by omega, h5 (j + 1), climbT, if_neg hsm2, hcol, e1]
              simp only [hlv]
  rcases key (wdt n m ^ m) with h | ⟨h1, _⟩
  · exact h
  · exact absurd (bland h1 R.inv.bas hf) (by omega)
end Sx
end Go.Proofs.YtnaikafamjebdaaGreatDoor
end
section
namespace Go.Proofs.YtnaikafamjebdaaGreatDoor
open Go
namespace Sx
open M
theorem det_id : ∀ (n : Nat) {B : Nat → Nat → Rat}, (∀ c r, c < n → r < n → B c r = if r = c then 1 else 0) → det n B = 1
  | 0, _, _ => rfl
  | n + 1, B, h => by
    rw [det, sm_one (k := 0) (by omega) fun r hr e => by rw [h 0 r (by omega) hr, if_neg e]; grind]
    rw [h 0 0 (by omega) (by omega), if_pos rfl, det_id n fun c r hc hr => by
      have e : skip 0 r = r + 1 := rfl
      rw [e, h (c + 1) (r + 1) (by omega) (by omega)]
      by_cases e2 : r = c
      · rw [if_pos e2, if_pos (by omega)]
      · rw [if_neg e2, if_neg (by omega)]]
    unfold sgn
    rw [if_pos (by decide)]; grind
theorem laid_of (n : Nat) (l : List BQ) : Laid n l.length (laidA n l) := by
  refine ⟨fun i hi k hk => ?_, fun i hi j hj => ?_, fun i hi => ?_⟩
  · unfold laidA
    rw [if_pos hi, if_neg (by omega), if_pos (by omega), if_pos hi, if_pos hk, show n + k - n = k by omega]
  · unfold laidA wdt
    rw [if_pos hi, if_neg (by omega), if_neg (by omega)]
    by_cases e : i = j
    · rw [if_pos (by omega), if_pos e]
    · rw [if_neg (by omega), if_neg (by omega), if_neg (by omega), if_neg e]
  · unfold laidA wdt
    rw [if_pos hi, if_neg (by omega), if_neg (by omega), if_neg (by omega), if_pos (by omega)]
theorem ws_spec {A : Mx} {wd : Nat} : ∀ i, match wsS A wd i with
    | none => ∀ k, k < i → 0 ≤ A k wd
    | some r => r < i ∧ A r wd < 0 ∧ ∀ k, k < i → A r wd ≤ A k wd
  | 0 => fun k hk => absurd hk (by omega)
  | i + 1 => by
    have ih := ws_spec (A := A) (wd := wd) i
    rw [wsS]
    cases hs : wsS A wd i with
    | none =>
      rw [hs] at ih
      simp only at ih
      rw [wsOne]
      by_cases h1 : 0 ≤ A i wd
      · simp only [if_pos h1]
        intro k hk
        by_cases e : k = i
        · subst e; exact h1
        · exact ih k (by omega)
      · simp only [if_neg h1]
        refine ⟨by omega, by grind, fun k hk => ?_⟩
        by_cases e : k = i
        · subst e; exact Rat.le_refl
        · have := ih k (by omega); grind
    | some r =>
      rw [hs] at ih
      simp only at ih
      obtain ⟨h1, h2, h3⟩ := ih
      rw [wsOne]
      by_cases h4 : 0 ≤ A i wd
      · simp only [if_pos h4]
        refine ⟨by omega, h2, fun k hk => ?_⟩
        by_cases e : k = i
        · subst e; grind
        · exact h3 k (by omega)
      · by_cases h5 : A r wd ≤ A i wd
        · simp only [if_neg h4, if_pos h5]
          refine ⟨by omega, h2, fun k hk => ?_⟩
          by_cases e : k = i
          · subst e; exact h5
          · exact h3 k (by omega)
        · simp only [if_neg h4, if_neg h5]
          refine ⟨by omega, by grind, fun k hk => ?_⟩
          by_cases e : k = i
          · subst e; exact Rat.le_refl
          · have := h3 k (by omega); grind
def artG (n m : Nat) (k : Nat) : Rat := if k = 2 * n + m then -1 else 0
theorem art_sum (n m : Nat) (x : Nat → Rat) : sm (wdt n m) (fun k => artG n m k * x k) = - x (2 * n + m) := by
  rw [sm_one (k := 2 * n + m) (by unfold wdt; omega) fun j _ e => by unfold artG; rw [if_neg e]; grind]
  unfold artG; rw [if_pos rfl]; grind
theorem Szd.less {n m : Nat} {E : Mx} {c c' : Nat → Rat} {Q : Rat} (h : Szd n m E c Q) (h1 : ∀ j, j < m → c' (2 * n + j) = 0) (h2 : IsI (c' (2 * n + m))) (h3 : ab (c' (2 * n + m)) ≤ 1)
    (h4 : ∀ k, (k < 2 * n ∨ k = 2 * n + m + 1) → c' k = c k ∨ c' k = 0) : Szd n m E c' Q := by
  obtain ⟨σ, hσ⟩ := h.col
  refine ⟨h1, h2, h3, σ, fun k hk => ?_⟩
  obtain ⟨a1, a2, a3, a4, a5⟩ := hσ k hk
  rcases h4 k hk with e | e
  · have e2 : ∀ r, xt E c' k r = xt E c k r := fun r => by cases r with
      | zero => exact e
      | succ r => rfl
    refine ⟨a1, a2, a3, fun r hr => by rw [e2]; exact a4 r hr, ?_⟩
    rw [sm_congr (g := fun r => ab (σ k * xt E c k r)) fun r _ => by rw [e2]]
    exact a5
  · refine ⟨a1, a2, a3, fun r hr => ?_, ?_⟩
    · cases r with
      | zero =>
        show IsI (σ k * c' k)
        rw [e, Rat.mul_zero]; exact ⟨0, rfl⟩
      | succ r => exact a4 (r + 1) hr
    · rw [sm_head] at a5 ⊢
      have e2 : ab (σ k * xt E c' k 0) = 0 := by
        show ab (σ k * c' k) = 0
        rw [e, Rat.mul_zero]; decide +kernel
      have e3 : sm m (fun r => ab (σ k * xt E c' k (r + 1))) = sm m (fun r => ab (σ k * xt E c k (r + 1))) := sm_congr fun r _ => rfl
      have e4 := ab_nonneg (σ k * xt E c k 0)
      rw [e2, e3]; grind
theorem Szd.art1 {n m : Nat} {E : Mx} {c : Nat → Rat} {Q : Rat} (h : Szd n m E c Q) : Szd n m E (artG n m) Q := by
  refine h.less (fun j hj => ?_) ?_ ?_ fun k hk => Or.inr ?_
  · unfold artG; rw [if_neg (by omega)]
  · unfold artG; rw [if_pos rfl]; exact ⟨-1, by decide +kernel⟩
  · unfold artG; rw [if_pos rfl]; decide +kernel
  · unfold artG; rw [if_neg (by omega)]
theorem Szd.zero {n m : Nat} {E : Mx} {c : Nat → Rat} {Q : Rat} (h : Szd n m E c Q) : Szd n m E (fun _ => 0) Q :=
  h.less (fun _ _ => rfl) ⟨0, rfl⟩ (by decide +kernel) fun _ _ => Or.inr rfl
section
variable {n m : Nat} {E A : Mx} {b : Nat → Nat} {c : Nat → Rat}
theorem bv_nonneg {y : Nat → Rat} (h : ∀ i, i < m → 0 ≤ y i) (k : Nat) : 0 ≤ bv m b y k := sm_nonneg fun i hi => by split; exact h i hi; exact Rat.le_refl
theorem bv_nonpos {y : Nat → Rat} (h : ∀ i, i < m → y i ≤ 0) (k : Nat) : bv m b y k ≤ 0 := sm_nonpos fun i hi => by split; exact h i hi; exact Rat.le_refl
theorem Rep.ray (h : Rep n m E A b c) {q : Nat} (hq : q < wdt n m) (hp : ∀ i, i < m → A i q ≤ 0) :
    Sol m (wdt n m) E 0 (dirV m A b q) ∧ (∀ k, 0 ≤ dirV m A b q k) ∧ sm (wdt n m) (fun k => c k * dirV m A b q k) = A m q := by
  refine ⟨(h.inv.sol 0 _).1 (dir_sol h.inv.bas hq), fun k => ?_, ?_⟩
  · have h1 := bv_nonpos (b := b) hp k
    unfold dirV
    split <;> grind
  · have h1 := h.zv 0 _ (dir_sol h.inv.bas hq)
    rw [dir_zv h.inv.bas hq] at h1
    rw [h1]; grind
theorem Rep.pt (h : Rep n m E A b c) : Sol m (wdt n m) E 1 (bv m b fun i => A i (wdt n m)) ∧ sm (wdt n m) (fun k => c k * bv m b (fun i => A i (wdt n m)) k) - c (wdt n m) = - A m (wdt n m) := by
  refine ⟨(h.inv.sol 1 _).1 (bas_sol h.inv.bas), ?_⟩
  have h1 := h.zv 1 _ (bas_sol h.inv.bas)
  rw [bas_zv h.inv.bas] at h1
  rw [h1]; grind
theorem art_ended (h : Rep n m E A b (artG n m)) {q : Nat} (hq : q < wdt n m) (h1 : 0 < A m q) (hp : ∀ i, i < m → A i q ≤ 0) : False := by
  obtain ⟨_, r2, r3⟩ := h.ray hq hp
  rw [art_sum] at r3
  have := r2 (2 * n + m)
  grind
end
def NoArt (n m : Nat) (T : Tbl) : Prop := (∀ i, i < m → T.b i ≠ 2 * n + m) ∨ ∃ r, r < m ∧ T.b r = 2 * n + m ∧ T.A r (wdt n m) = 0 ∧ ∀ k, k < 2 * n + m → T.A r k = 0
theorem noart_step {n m : Nat} {T : Tbl} {r q : Nat} (h : NoArt n m T) (s : Stp m (wdt n m) (some (2 * n + m)) T.A T.b r q (pivT n m T r q).A (pivT n m T r q).b) : NoArt n m (pivT n m T r q) := by
  have hq : q < 2 * n + m := by
    have h1 := s.cD
    have h2 := s.cb
    unfold wdt at h1
    have h3 : q ≠ 2 * n + m := fun e => h2 (by rw [e])
    omega
  rcases h with h | ⟨r1, h1, h2, h3, h4⟩
  · refine Or.inl fun i hi => ?_
    rw [s.pb i hi]
    by_cases e : i = r
    · subst e; rw [upd_same]; omega
    · rw [upd_other _ e]; exact h i hi
  · have hne : r1 ≠ r := fun e => by
      have := s.rp
      rw [← e, h4 q hq] at this
      exact Rat.lt_irrefl this
    refine Or.inr ⟨r1, h1, by rw [s.pb r1 h1, upd_other _ hne]; exact h2, ?_, fun k hk => ?_⟩
    · rw [s.pA r1 (by omega) _ (Nat.le_refl _), piv_row hne, h4 q hq, h3]; grind
    · rw [s.pA r1 (by omega) k (by unfold wdt; omega), piv_row hne, h4 q hq, h4 k hk]; grind
theorem NoArt.pt {n m : Nat} {T : Tbl} (h : NoArt n m T) (hB : Bas m (wdt n m) T.A T.b) : bv m T.b (fun i => T.A i (wdt n m)) (2 * n + m) = 0 := by
  rcases h with h | ⟨r, h1, h2, h3, _⟩
  · exact bv_off _ h
  · rw [← h2, bv_at hB _ h1]; exact h3
theorem laid_rep (n : Nat) (l : List BQ) : Rep n l.length (laidA n l) (laidT n l).A (laidT n l).b fun _ => 0 := by
  have L := laid_of n l
  have hA : ∀ j, j ≤ l.length → ∀ k, k ≤ wdt n l.length → (laidT n l).A j k = laidA n l j k := fun j hj k hk => tab_A _ _ hj hk
  have hb : ∀ i, i < l.length → (laidT n l).b i = 2 * n + i := fun i hi => tab_b _ _ hi
  have hm : ∀ k, laidA n l l.length k = 0 := fun k => by unfold laidA; rw [if_neg (by omega)]
  have hB : Bas l.length (wdt n l.length) (laidA n l) fun i => 2 * n + i := ⟨fun i hi => by unfold wdt; omega, fun i hi => by rw [L.slk i hi i hi, if_pos rfl], fun i j hi hj e => by
    by_cases h1 : j < l.length
    · rw [L.slk j h1 i hi, if_neg e]
    · rw [show j = l.length by omega, hm]⟩
  refine ⟨⟨hB.congr hA hb, fun t x => ((Eqv.congr hA).sol t x).symm, ?_⟩, fun t x hx => ?_⟩
  · rw [det_id l.length fun c r hc hr => by rw [hb c hc]; exact L.slk r hr c hc]
    decide +kernel
  · unfold Zv
    have e1 : sm (wdt n l.length) (fun k => (laidT n l).A l.length k * x k) = 0 := sm_zero fun k hk => by rw [hA _ (Nat.le_refl _) k (by omega), hm, Rat.zero_mul]
    have e2 : sm (wdt n l.length) (fun k => (0 : Rat) * x k) = 0 := sm_zero fun k _ => Rat.zero_mul _
    rw [e1, e2, hA _ (Nat.le_refl _) _ (Nat.le_refl _), hm]
theorem Rep.regoal {n m : Nat} {E A A' : Mx} {b b' : Nat → Nat} {c c' : Nat → Rat} (h : Rep n m E A b c) (hA : ∀ j, j < m → ∀ k, k ≤ wdt n m → A' j k = A j k) (hb : ∀ i, i < m → b' i = b i) (hg : ∀ k, k ≤ wdt n m → A' m k = zc m A b c' k) : Rep n m E A' b' c' := by
  have hs : ∀ t x, Sol m (wdt n m) A' t x ↔ Sol m (wdt n m) A t x := fun t x => by
    have e : ∀ i, i < m → (sm (wdt n m) (fun k => A' i k * x k) = sm (wdt n m) (fun k => A i k * x k)) ∧ A' i (wdt n m) = A i (wdt n m) := fun i hi => ⟨sm_congr fun k hk => by rw [hA i hi k (by omega)], hA i hi _ (Nat.le_refl _)⟩
    constructor
    · intro hx i hi
      have := hx i hi
      rwa [(e i hi).1, (e i hi).2] at this
    · intro hx i hi
      rw [(e i hi).1, (e i hi).2]; exact hx i hi
  have hB := h.inv.bas
  have hz : ∀ i, i < m → zc m A b c' (b i) = 0 := fun i hi => by
    unfold zc
    rw [sm_one hi fun j hj e => by rw [hB.zer i j hi (by omega) e]; grind, hB.one i hi]; grind
  refine ⟨⟨⟨fun i hi => by rw [hb i hi]; exact hB.lt i hi, fun i hi => ?_, fun i j hi hj e => ?_⟩, fun t x => (hs t x).trans (h.inv.sol t x), ?_⟩, fun t x hx => ?_⟩
  · rw [hb i hi, hA i hi _ (Nat.le_of_lt (hB.lt i hi))]; exact hB.one i hi
  · rw [hb i hi]
    by_cases h1 : j < m
    · rw [hA j h1 _ (Nat.le_of_lt (hB.lt i hi))]; exact hB.zer i j hi hj e
    · rw [show j = m by omega, hg _ (Nat.le_of_lt (hB.lt i hi))]; exact hz i hi
  · rw [det_congr (B' := fun c r => E r (b c)) fun q hq r _ => by rw [hb q hq]]
    exact h.inv.dt
  · have hx2 := (hs t x).1 hx
    unfold Zv
    have e1 : sm (wdt n m) (fun k => A' m k * x k) = sm (wdt n m) (fun k => c' k * x k - sm m fun i => c' (b i) * (A i k * x k)) := sm_congr fun k hk => by
      rw [hg k (by omega)]
      unfold zc
      have e2 : sm m (fun i => c' (b i) * (A i k * x k)) = sm m (fun i => A i k * c' (b i)) * x k := by
        rw [← sm_mul_right]
        exact sm_congr fun i _ => by grind
      rw [e2]; grind
    rw [e1, sm_sub, sm_swap, hg _ (Nat.le_refl _)]
    have e3 : sm m (fun i => sm (wdt n m) fun k => c' (b i) * (A i k * x k)) = sm m (fun i => A i (wdt n m) * c' (b i)) * t := by
      rw [← sm_mul_right]
      exact sm_congr fun i hi => by rw [sm_mul, hx2 i hi]; grind
    rw [e3]
    unfold zc; grind
end Sx
end Go.Proofs.YtnaikafamjebdaaGreatDoor
end
section
namespace Go.Proofs.YtnaikafamjebdaaGreatDoor
open Go
namespace Sx
open M
theorem dotP_sm (a b : List Rat) : ∀ i, dotP a b i = sm i fun k => nth a k * nth b k
  | 0 => rfl
  | i + 1 => by rw [dotP, sm, dotP_sm a b i]
theorem wrow_sm (l : List BQ) (q : List Rat) (k : Nat) : ∀ i, wrow l q i k = sm i fun j => nth q j * nth (l.getD j ([], 0)).1 k
  | 0 => rfl
  | i + 1 => by rw [wrow, sm, wrow_sm l q k i]
theorem wmost_sm (l : List BQ) (q : List Rat) : ∀ i, wmost l q i = sm i fun j => nth q j * (l.getD j ([], 0)).2
  | 0 => rfl
  | i + 1 => by rw [wmost, sm, wmost_sm l q i]
theorem exp_sum (n m : Nat) (f : Nat → Rat) : sm (wdt n m) f = sm n (fun k => f k + f (n + k)) + sm m (fun i => f (2 * n + i)) + f (2 * n + m) := by
  have e : wdt n m = n + (n + (m + 1)) := by unfold wdt; omega
  rw [e, sm_split n, sm_split n, sm_add, sm]
  have e1 : sm m (fun k => f (n + (n + k))) = sm m fun i => f (2 * n + i) := sm_congr fun i _ => by rw [show n + (n + i) = 2 * n + i by omega]
  rw [e1, show n + (n + m) = 2 * n + m by omega]; grind
theorem laid_bas (n : Nat) (l : List BQ) : Bas l.length (wdt n l.length) (laidA n l) fun i => 2 * n + i := by
  have L := laid_of n l
  have hm : ∀ k, laidA n l l.length k = 0 := fun k => by unfold laidA; rw [if_neg (by omega)]
  exact ⟨fun i hi => by unfold wdt; omega, fun i hi => by rw [L.slk i hi i hi, if_pos rfl], fun i j hi hj e => by
    by_cases h1 : j < l.length
    · rw [L.slk j h1 i hi, if_neg e]
    · rw [show j = l.length by omega, hm]⟩
section
variable {n : Nat} {l : List BQ} {A : Mx} {b : Nat → Nat} {c : Nat → Rat}
theorem Rep.dual (h : Rep n l.length (laidA n l) A b c) {s : Nat} (hs : s ≤ wdt n l.length) : A l.length s - c s = sm l.length fun i => (A l.length (2 * n + i) - c (2 * n + i)) * laidA n l i s := by
  have hB := laid_bas n l
  have e0 : sm l.length (fun i => (A l.length (2 * n + i) - c (2 * n + i)) * laidA n l i s) = sm l.length (fun i => A l.length (2 * n + i) * laidA n l i s) - sm l.length (fun i => c (2 * n + i) * laidA n l i s) := by
    rw [← sm_sub]
    exact sm_congr fun i _ => by grind
  rw [e0]
  rcases Nat.lt_or_eq_of_le hs with h1 | h1
  · have h2 := (h.inv.sol 0 _).2 (dir_sol hB h1)
    have h3 := h.zv 0 _ h2
    unfold Zv at h3
    rw [dir_sum h1, dir_sum h1, bv_sum hB.lt, bv_sum hB.lt] at h3
    grind
  · have h2 := (h.inv.sol 1 _).2 (bas_sol hB)
    have h3 := h.zv 1 _ h2
    unfold Zv at h3
    rw [bv_sum hB.lt, bv_sum hB.lt] at h3
    rw [h1]; grind
theorem Rep.two (h : Rep n l.length (laidA n l) A b c) {k : Nat} (hk : k < n) (h0 : c k + c (n + k) = 0) : A l.length k + A l.length (n + k) = 0 := by
  have h1 := h.dual (s := k) (by unfold wdt; omega)
  have h2 := h.dual (s := n + k) (by unfold wdt; omega)
  have h3 : sm l.length (fun i => (A l.length (2 * n + i) - c (2 * n + i)) * laidA n l i k) + sm l.length (fun i => (A l.length (2 * n + i) - c (2 * n + i)) * laidA n l i (n + k)) = 0 := by
    rw [← sm_add]
    exact sm_zero fun i hi => by rw [(laid_of n l).neg i hi k hk]; grind
  grind
theorem laid_un {j k : Nat} (hj : j < l.length) (hk : k < n) : laidA n l j k = nth (l.getD j ([], 0)).1 k := by unfold laidA; rw [if_pos hj, if_pos hk]
theorem laid_most {j : Nat} (hj : j < l.length) : laidA n l j (wdt n l.length) = (l.getD j ([], 0)).2 := by
  unfold laidA wdt
  rw [if_pos hj, if_neg (by omega), if_neg (by omega), if_neg (by omega), if_neg (by omega), if_pos (by omega)]
theorem laid_sum {j : Nat} (hj : j < l.length) (x : Nat → Rat) : sm (wdt n l.length) (fun k => laidA n l j k * x k) = sm n (fun k => nth (l.getD j ([], 0)).1 k * (x k - x (n + k))) + x (2 * n + j) - x (2 * n + l.length) := by
  have L := laid_of n l
  rw [exp_sum]
  have e1 : sm n (fun k => laidA n l j k * x k + laidA n l j (n + k) * x (n + k)) = sm n (fun k => nth (l.getD j ([], 0)).1 k * (x k - x (n + k))) := sm_congr fun k hk => by
    rw [L.neg j hj k hk, laid_un hj hk]; grind
  have e2 : sm l.length (fun i => laidA n l j (2 * n + i) * x (2 * n + i)) = x (2 * n + j) := by
    rw [sm_one hj fun i hi e => by rw [L.slk j hj i hi, if_neg (Ne.symm e), Rat.zero_mul], L.slk j hj j hj, if_pos rfl, Rat.one_mul]
  rw [e1, e2, L.art j hj]; grind
theorem goal_sum (goal : List Rat) (x : Nat → Rat) (m : Nat) : sm (wdt n m) (fun k => goalF n goal k * x k) = sm n (fun k => nth goal k * (x k - x (n + k))) := by
  rw [exp_sum]
  have e1 : sm n (fun k => goalF n goal k * x k + goalF n goal (n + k) * x (n + k)) = sm n (fun k => nth goal k * (x k - x (n + k))) := sm_congr fun k hk => by
    unfold goalF
    rw [if_pos hk, if_neg (by omega), if_pos (by omega), show n + k - n = k by omega]; grind
  have e2 : sm m (fun i => goalF n goal (2 * n + i) * x (2 * n + i)) = 0 := sm_zero fun i _ => by
    unfold goalF; rw [if_neg (by omega), if_neg (by omega), Rat.zero_mul]
  have e3 : goalF n goal (2 * n + m) = 0 := by unfold goalF; rw [if_neg (by omega), if_neg (by omega)]
  rw [e1, e2, e3]; grind
theorem allS_bv {m wd : Nat} {b : Nat → Nat} : ∀ i, (∀ j k, j < i → k < i → b j = b k → j = k) → ∀ k, allS A b wd i k = bv i b (fun j => A j wd) k
  | 0, _, _ => rfl
  | i + 1, h, k => by
    have ih := allS_bv (m := m) (wd := wd) (b := b) i (fun j k hj hk e => h j k (by omega) (by omega) e) k
    rw [allS]
    unfold bv at ih ⊢
    rw [sm]
    by_cases e : k = b i
    · subst e
      rw [upd_same, sm_zero fun j hj => if_neg fun e2 => by have := h j i (by omega) (by omega) e2; omega, if_pos rfl]; grind
    · rw [upd_other _ e, ih, if_neg (Ne.symm e)]; grind
theorem Inv.pointF (h : Inv n l.length (laidA n l) A b) (k : Nat) : M.pointF n l.length A b k = bv l.length b (fun j => A j (wdt n l.length)) k - bv l.length b (fun j => A j (wdt n l.length)) (n + k) := by
  have hi : ∀ j k, j < l.length → k < l.length → b j = b k → j = k := fun j k hj hk e => h.bas.inj hj hk e
  unfold M.pointF
  rw [allS_bv (m := l.length) _ hi, allS_bv (m := l.length) _ hi]
end
theorem sol_keeps {n : Nat} {l : List BQ} {x : Nat → Rat} (h : Sol l.length (wdt n l.length) (laidA n l) 1 x) (h0 : ∀ k, 0 ≤ x k) (ha : x (2 * n + l.length) = 0) {j : Nat} (hj : j < l.length) :
    sm n (fun k => nth (l.getD j ([], 0)).1 k * (x k - x (n + k))) ≤ (l.getD j ([], 0)).2 := by
  have h1 := h j hj
  rw [laid_sum hj, laid_most hj, ha] at h1
  have h2 := h0 (2 * n + j)
  grind
theorem sol_falls {n : Nat} {l : List BQ} {x : Nat → Rat} (h : Sol l.length (wdt n l.length) (laidA n l) 0 x) (h0 : ∀ k, 0 ≤ x k) (ha : x (2 * n + l.length) = 0) {j : Nat} (hj : j < l.length) :
    sm n (fun k => nth (l.getD j ([], 0)).1 k * (x k - x (n + k))) ≤ 0 := by
  have h1 := h j hj
  rw [laid_sum hj, ha] at h1
  have h2 := h0 (2 * n + j)
  grind
theorem nth_range (f : Nat → Rat) {n k : Nat} (h : k < n) : nth ((List.range n).map f) k = f k := nth_map f n k h
def Keeps (n : Nat) (l : List BQ) (p : List Rat) : Prop := p.length = n ∧ ∀ b ∈ l, dotP b.1 p n ≤ b.2
def Contra (n : Nat) (l : List BQ) (w : List Rat) : Prop := w.length = l.length ∧ (∀ x ∈ w, 0 ≤ x) ∧ (∀ k, k < n → wrow l w l.length k = 0) ∧ wmost l w l.length < 0
def Optim (n : Nat) (l : List BQ) (goal : List Rat) (v : Rat) (p w : List Rat) : Prop :=
  Keeps n l p ∧ dotP goal p n = v ∧ w.length = l.length ∧ (∀ x ∈ w, 0 ≤ x) ∧ (∀ k, k < n → wrow l w l.length k = nth goal k) ∧ wmost l w l.length = v
def NoEnd (n : Nat) (l : List BQ) (goal : List Rat) : Prop := ∃ p q, Keeps n l p ∧ q.length = n ∧ (∀ b ∈ l, dotP b.1 q n ≤ 0) ∧ 0 < dotP goal q n
section
variable {n : Nat} {l : List BQ} {A : Mx} {b : Nat → Nat} {c : Nat → Rat}
theorem get_of {x : BQ} (h : x ∈ l) : ∃ j, j < l.length ∧ l.getD j ([], 0) = x := by
  obtain ⟨j, hj, e⟩ := List.getElem_of_mem h
  exact ⟨j, hj, by simp [hj, e]⟩
theorem point_keeps (h : Inv n l.length (laidA n l) A b) (hf : ∀ i, i < l.length → 0 ≤ A i (wdt n l.length)) (ha : bv l.length b (fun i => A i (wdt n l.length)) (2 * n + l.length) = 0) :
    Keeps n l ((List.range n).map (M.pointF n l.length A b)) := by
  refine ⟨by simp, fun x hx => ?_⟩
  obtain ⟨j, hj, rfl⟩ := get_of hx
  have h1 := sol_keeps ((h.sol 1 _).1 (bas_sol h.bas)) (bv_nonneg hf) ha hj
  rw [dotP_sm]
  rw [sm_congr (g := fun k => nth (l.getD j ([], 0)).1 k * (bv l.length b (fun j => A j (wdt n l.length)) k - bv l.length b (fun j => A j (wdt n l.length)) (n + k))) fun k hk => by rw [nth_range _ hk, h.pointF]]
  exact h1
theorem point_goal (h : Inv n l.length (laidA n l) A b) (goal : List Rat) : dotP goal ((List.range n).map (M.pointF n l.length A b)) n = sm (wdt n l.length) (fun k => goalF n goal k * bv l.length b (fun j => A j (wdt n l.length)) k) := by
  rw [goal_sum, dotP_sm]
  exact sm_congr fun k hk => by rw [nth_range _ hk, h.pointF]
theorem weight_sum (h : Rep n l.length (laidA n l) A b c) (hs : ∀ j, j < l.length → c (2 * n + j) = 0) {s : Nat} (hs2 : s ≤ wdt n l.length) :
    sm l.length (fun i => nth ((List.range l.length).map (weightF n l.length A)) i * laidA n l i s) = c s - A l.length s := by
  have h1 := h.dual hs2
  have e : sm l.length (fun i => nth ((List.range l.length).map (weightF n l.length A)) i * laidA n l i s) = - sm l.length (fun i => (A l.length (2 * n + i) - c (2 * n + i)) * laidA n l i s) := by
    rw [← sm_neg]
    exact sm_congr fun i hi => by rw [nth_range _ hi, hs i hi]; unfold weightF; grind
  rw [e]; grind
theorem weight_row (h : Rep n l.length (laidA n l) A b c) (hs : ∀ j, j < l.length → c (2 * n + j) = 0) {k : Nat} (hk : k < n) : wrow l ((List.range l.length).map (weightF n l.length A)) l.length k = c k - A l.length k := by
  rw [← weight_sum h hs (by unfold wdt; omega), wrow_sm]
  exact sm_congr fun i hi => by rw [laid_un hi hk]
theorem weight_most (h : Rep n l.length (laidA n l) A b c) (hs : ∀ j, j < l.length → c (2 * n + j) = 0) : wmost l ((List.range l.length).map (weightF n l.length A)) l.length = c (wdt n l.length) - A l.length (wdt n l.length) := by
  rw [← weight_sum h hs (Nat.le_refl _), wmost_sm]
  exact sm_congr fun i hi => by rw [laid_most hi]
theorem weight_pos (h : ∀ k, k < wdt n l.length → k ≠ 2 * n + l.length → A l.length k ≤ 0) : ∀ x ∈ (List.range l.length).map (weightF n l.length A), 0 ≤ x := fun x hx => by
  obtain ⟨i, hi, rfl⟩ := List.mem_map.1 hx
  have := h (2 * n + i) (by have := List.mem_range.1 hi; unfold wdt; omega) (by have := List.mem_range.1 hi; omega)
  unfold weightF; grind
theorem contra_of {T : Tbl} (h : Ended n l.length none (laidA n l) (artG n l.length) true T) (h0 : T.A l.length (wdt n l.length) ≠ 0) : Contra n l ((List.range l.length).map (weightF n l.length T.A)) := by
  have hs : ∀ j, j < l.length → artG n l.length (2 * n + j) = 0 := fun j hj => by unfold artG; rw [if_neg (by omega)]
  have htop := h.top rfl
  have hD : artG n l.length (wdt n l.length) = 0 := by unfold artG wdt; rw [if_neg (by omega)]
  refine ⟨by simp, weight_pos fun k hk _ => htop k hk (by simp), fun k hk => ?_, ?_⟩
  · have h1 : artG n l.length k = 0 := by unfold artG; rw [if_neg (by omega)]
    have h2 : artG n l.length (n + k) = 0 := by unfold artG; rw [if_neg (by omega)]
    have h3 := h.rep.two hk (by rw [h1, h2]; decide +kernel)
    have h4 := htop k (by unfold wdt; omega) (by simp)
    have h5 := htop (n + k) (by unfold wdt; omega) (by simp)
    rw [weight_row h.rep hs hk, h1]; grind
  · rw [weight_most h.rep hs, hD]
    have h1 := h.rep.pt.2
    rw [art_sum, hD] at h1
    have h2 := bv_nonneg (b := T.b) h.feas (2 * n + l.length)
    grind
theorem optim_of {T : Tbl} {goal : List Rat} (h : Ended n l.length (some (2 * n + l.length)) (laidA n l) (goalF n goal) true T) (ha : NoArt n l.length T) :
    Optim n l goal (dotP goal ((List.range n).map (M.pointF n l.length T.A T.b)) n) ((List.range n).map (M.pointF n l.length T.A T.b)) ((List.range l.length).map (weightF n l.length T.A)) := by
  have hs : ∀ j, j < l.length → goalF n goal (2 * n + j) = 0 := fun j hj => by unfold goalF; rw [if_neg (by omega), if_neg (by omega)]
  have htop := h.top rfl
  have hD : goalF n goal (wdt n l.length) = 0 := by unfold goalF wdt; rw [if_neg (by omega), if_neg (by omega)]
  have hx := ha.pt h.rep.inv.bas
  refine ⟨point_keeps h.rep.inv h.feas hx, rfl, by simp, weight_pos fun k hk hne => htop k hk (by simp; exact hne), fun k hk => ?_, ?_⟩
  · have h1 : goalF n goal k = nth goal k := by unfold goalF; rw [if_pos hk]
    have h2 : goalF n goal (n + k) = - nth goal k := by unfold goalF; rw [if_neg (by omega), if_pos (by omega), show n + k - n = k by omega]
    have h3 := h.rep.two hk (by rw [h1, h2]; grind)
    have h4 := htop k (by unfold wdt; omega) (by simp; omega)
    have h5 := htop (n + k) (by unfold wdt; omega) (by simp; omega)
    rw [weight_row h.rep hs hk, h1]; grind
  · rw [weight_most h.rep hs, hD, point_goal h.rep.inv]
    have h1 := h.rep.pt.2
    rw [hD] at h1
    grind
theorem noend_of {T : Tbl} {goal : List Rat} (h : Ended n l.length (some (2 * n + l.length)) (laidA n l) (goalF n goal) false T) (ha : NoArt n l.length T) : NoEnd n l goal := by
  obtain ⟨q, hq, hb, hp, hc⟩ := h.free rfl
  obtain ⟨r1, r2, r3⟩ := h.rep.ray hq hc
  have hq2 : q < 2 * n + l.length := by
    unfold wdt at hq
    have : q ≠ 2 * n + l.length := fun e => hb (by rw [e])
    omega
  have hx := ha.pt h.rep.inv.bas
  have hd : dirV l.length T.A T.b q (2 * n + l.length) = 0 := by
    unfold dirV
    rw [if_neg (by omega)]
    rcases ha with ha | ⟨r, a1, a2, a3, a4⟩
    · rw [bv_off _ ha]; grind
    · rw [← a2, bv_at h.rep.inv.bas _ a1, a4 q hq2]; grind
  refine ⟨(List.range n).map (M.pointF n l.length T.A T.b), (List.range n).map fun k => dirV l.length T.A T.b q k - dirV l.length T.A T.b q (n + k), point_keeps h.rep.inv h.feas hx, by simp, fun x hx => ?_, ?_⟩
  · obtain ⟨j, hj, rfl⟩ := get_of hx
    have h1 := sol_falls r1 r2 hd hj
    rw [dotP_sm]
    rw [sm_congr (g := fun k => nth (l.getD j ([], 0)).1 k * (dirV l.length T.A T.b q k - dirV l.length T.A T.b q (n + k))) fun k hk => by rw [nth_range _ hk]]
    exact h1
  · rw [dotP_sm]
    rw [sm_congr (g := fun k => nth goal k * (dirV l.length T.A T.b q k - dirV l.length T.A T.b q (n + k))) fun k hk => by rw [nth_range _ hk], ← goal_sum goal _ l.length, r3]
    exact hp
end
end Sx
end Go.Proofs.YtnaikafamjebdaaGreatDoor
end
