/-
  A climb ends, plain, and its tables keep short.
  The simplex' first phase, plain: a point, or weights that contradict.
  What the simplex finds, plain: the end of the first phase, and what its tables say of points and weights.
  The simplex decides, plain: for bounds that fit, 'mostT' and 'feasT' end, and what they return is proved.
-/
import Derived.Test.YtellemlhhlafcaaGreatDoorKO
section
namespace Go.Proofs.YtellemlhhlafcaaGreatDoor
open Go
namespace Sx
open M
theorem lv_spec {A : Mx} {b : Nat → Nat} {c wd : Nat} : ∀ i, match lvS A b c wd i with
    | (none, _) => ∀ k, k < i → A k c ≤ 0
    | (some r, l) => r < i ∧ 0 < A r c ∧ l = A r wd / A r c ∧ ∀ k, k < i → 0 < A k c → A r wd / A r c ≤ A k wd / A k c ∧ (A r wd / A r c = A k wd / A k c → b r ≤ b k)
  | 0 => fun k hk => absurd hk (by omega)
  | i + 1 => by
    have ih := lv_spec (A := A) (b := b) (c := c) (wd := wd) i
    rw [lvS]
    cases hs : lvS A b c wd i with
    | mk o l =>
      rw [hs] at ih
      cases o with
      | none =>
        simp only at ih
        unfold lvOne
        by_cases h1 : A i c ≤ 0
        · simp only [if_pos h1]
          intro k hk
          by_cases e : k = i
          · subst e; exact h1
          · exact ih k (by omega)
        · simp only [if_neg h1]
          refine ⟨by omega, by grind, trivial, fun k hk hp => ?_⟩
          by_cases e : k = i
          · subst e; exact ⟨Rat.le_refl, fun _ => Nat.le_refl _⟩
          · have := ih k (by omega); grind
      | some r =>
        simp only at ih
        obtain ⟨h1, h2, h3, h4⟩ := ih
        unfold lvOne
        by_cases h5 : A i c ≤ 0
        · simp only [if_pos h5]
          refine ⟨by omega, h2, h3, fun k hk hp => ?_⟩
          by_cases e : k = i
          · subst e; grind
          · exact h4 k (by omega) hp
        · simp only [if_neg h5]
          by_cases h6 : A i wd / A i c < l ∨ (A i wd / A i c = l ∧ b i < b r)
          · simp only [if_pos h6]
            refine ⟨by omega, by grind, trivial, fun k hk hp => ?_⟩
            by_cases e : k = i
            · subst e; exact ⟨Rat.le_refl, fun _ => Nat.le_refl _⟩
            · have h7 := h4 k (by omega) hp
              rw [h3] at h6
              rcases h6 with h6 | ⟨h6, h8⟩
              · exact ⟨by grind, fun e => by grind⟩
              · refine ⟨by grind, fun e => ?_⟩
                have := h7.2 (by grind)
                omega
          · simp only [if_neg h6]
            refine ⟨by omega, h2, h3, fun k hk hp => ?_⟩
            by_cases e : k = i
            · subst e
              rw [h3] at h6
              refine ⟨by grind, fun e => ?_⟩
              rcases Nat.lt_or_ge (b k) (b r) with h7 | h7
              · exact absurd (Or.inr ⟨e.symm, h7⟩) h6
              · exact h7
            · exact h4 k (by omega) hp
theorem leave_none {n m : Nat} {A : Mx} {b : Nat → Nat} {c : Nat} (h : leaveT n m A b c = none) : ∀ i, i < m → A i c ≤ 0 := by
  have h1 := lv_spec (A := A) (b := b) (c := c) (wd := wdt n m) m
  unfold leaveT at h
  cases hs : lvS A b c (wdt n m) m with
  | mk o l =>
    rw [hs] at h h1
    simp only at h
    subst h
    exact h1
theorem leave_some {n m : Nat} {A : Mx} {b : Nat → Nat} {c r : Nat} (h : leaveT n m A b c = some r) :
    r < m ∧ 0 < A r c ∧ ∀ k, k < m → 0 < A k c → A r (wdt n m) / A r c ≤ A k (wdt n m) / A k c ∧ (A r (wdt n m) / A r c = A k (wdt n m) / A k c → b r ≤ b k) := by
  have h1 := lv_spec (A := A) (b := b) (c := c) (wd := wdt n m) m
  unfold leaveT at h
  cases hs : lvS A b c (wdt n m) m with
  | mk o l =>
    rw [hs] at h h1
    simp only at h
    subst h
    exact ⟨h1.1, h1.2.1, h1.2.2.2⟩
theorem col_none {n m : Nat} {A : Mx} {ban : Option Nat} (h : colT n m A ban = none) : ∀ k, k < wdt n m → some k ≠ ban → A m k ≤ 0 := fun k hk hb => by
  unfold colT at h
  rw [List.find?_eq_none] at h
  have h1 := h k (List.mem_range.2 hk)
  simp only [Bool.and_eq_true, decide_eq_true_eq, not_and] at h1
  have := h1 hb
  grind
theorem col_some {n m : Nat} {A : Mx} {ban : Option Nat} {c : Nat} (h : colT n m A ban = some c) : c < wdt n m ∧ some c ≠ ban ∧ 0 < A m c ∧ ∀ k, k < c → some k ≠ ban → A m k ≤ 0 := by
  unfold colT at h
  rw [List.find?_range_eq_some] at h
  obtain ⟨h1, h2, h3⟩ := h
  simp only [Bool.and_eq_true, decide_eq_true_eq] at h1
  refine ⟨List.mem_range.1 h2, h1.1, h1.2, fun k hk hb => ?_⟩
  have h4 := h3 k hk
  simp only [Bool.not_eq_true', Bool.and_eq_false_iff, decide_eq_false_iff_not] at h4
  rcases h4 with h4 | h4
  · exact absurd hb h4
  · grind
theorem stp_of {n m : Nat} {ban : Option Nat} {T : Tbl} {c r : Nat} (h : colT n m T.A ban = some c) (h2 : leaveT n m T.A T.b c = some r) : Stp m (wdt n m) ban T.A T.b r c (pivT n m T r c).A (pivT n m T r c).b := by
  obtain ⟨a1, a2, a3, a4⟩ := col_some h
  obtain ⟨b1, b2, b3⟩ := leave_some h2
  exact ⟨a1, a2, a3, a4, b1, b2, fun i hi hp => (b3 i hi hp).1, fun i hi hp => (b3 i hi hp).2, fun j hj k hk => tab_A _ _ hj hk, fun i hi => tab_b _ _ hi⟩
structure Rep (n m : Nat) (E A : Mx) (b : Nat → Nat) (c : Nat → Rat) : Prop where
  inv : Inv n m E A b
  zv : ∀ t x, Sol m (wdt n m) A t x → Zv m (wdt n m) A t x = sm (wdt n m) (fun k => c k * x k) - c (wdt n m) * t
section
variable {n m : Nat} {E A A' : Mx} {b b' : Nat → Nat} {c : Nat → Rat}
theorem Rep.goal (h : Rep n m E A b c) {s : Nat} (hs : s ≤ wdt n m) : A m s = zc m A b c s := by
  unfold zc
  have hcm : sm m (fun i => A i s * c (b i)) = sm m (fun i => c (b i) * A i s) := sm_congr fun i _ => Rat.mul_comm _ _
  rw [hcm]
  rcases Nat.lt_or_eq_of_le hs with h1 | h1
  · have h2 := h.zv 0 _ (dir_sol h.inv.bas h1)
    rw [dir_zv h.inv.bas h1, dir_sum h1, bv_sum h.inv.bas.lt] at h2
    rw [h2]; grind
  · have h2 := h.zv 1 _ (bas_sol h.inv.bas)
    rw [bas_zv h.inv.bas, bv_sum h.inv.bas.lt] at h2
    rw [h1]; grind
theorem Rep.piv (h : Rep n m E A b c) {r q : Nat} (hr : r < m) (hq : q < wdt n m) (h0 : A r q ≠ 0) (pA : ∀ j, j ≤ m → ∀ k, k ≤ wdt n m → A' j k = pivA A r q j k) (pb : ∀ i, i < m → b' i = upd b r q i) : Rep n m E A' b' c := by
  refine ⟨h.inv.piv hr hq h0 pA pb, fun t x hs => ?_⟩
  have e := (eqv_piv hr h0).trans (Eqv.congr pA)
  have h1 := (e.sol t x).2 hs
  rw [← e.zv t x h1]
  exact h.zv t x h1
theorem Rep.stp {ban : Option Nat} (h : Rep n m E A b c) {r q : Nat} (s : Stp m (wdt n m) ban A b r q A' b') : Rep n m E A' b' c :=
  h.piv s.rm s.cD (fun e => by have := s.rp; rw [e] at this; exact Rat.lt_irrefl this) s.pA s.pb
theorem Rep.small (L : Laid n m E) (h : Rep n m E A b c) {Q : Rat} {e : Nat} (hc : Szd n m E c Q) (hF : Fits n m Q e) {j k : Nat} (hj : j ≤ m) (hk : k ≤ wdt n m) : Bq e (A j k) := by
  by_cases h1 : j < m
  · exact h.inv.size L hc hF hk (j := j + 1) (by omega)
  · rw [show j = m by omega, h.goal hk]
    exact h.inv.size L hc hF hk (j := 0) (by omega)
end
theorem bq_small {e : Nat} {q : Rat} (h : Bq e q) : smallQ e q = true := by
  unfold smallQ
  rw [Bool.and_eq_true, decide_eq_true_eq, decide_eq_true_eq]; exact h
theorem smallT_of {e n m : Nat} {T : Tbl} (h : ∀ j, j ≤ m → ∀ k, k ≤ wdt n m → Bq e (T.A j k)) : smallT e n m T = true := by
  unfold smallT
  rw [List.all_eq_true]
  intro j hj
  rw [List.all_eq_true]
  intro k hk
  exact bq_small (h j (by have := List.mem_range.1 hj; omega) k (by have := List.mem_range.1 hk; omega))
theorem climb_mono {e n m : Nat} {ban : Option Nat} {s : Bool × Tbl} : ∀ {f : Nat} {T : Tbl}, climbT e n m ban f T = some s → climbT e n m ban (f + 1) T = some s
  | 0, T, h => by unfold climbT at h; cases h
  | f + 1, T, h => by
    rw [climbT] at h ⊢
    by_cases h1 : smallT e n m T = false
    · rw [if_pos h1] at h; cases h
    · rw [if_neg h1] at h ⊢
      cases hc : colT n m T.A ban with
      | none => rw [hc] at h; exact h
      | some c =>
        rw [hc] at h
        simp only at h ⊢
        cases hr : leaveT n m T.A T.b c with
        | none => rw [hr] at h; exact h
        | some r =>
          rw [hr] at h
          simp only at h ⊢
          exact climb_mono h
theorem climb_le {e n m : Nat} {ban : Option Nat} {s : Bool × Tbl} {f : Nat} {T : Tbl} (h : climbT e n m ban f T = some s) : ∀ d, climbT e n m ban (f + d) T = some s
  | 0 => h
  | d + 1 => climb_mono (climb_le h d)
def stepT (n m : Nat) (ban : Option Nat) (T : Tbl) : Tbl := pivT n m T ((leaveT n m T.A T.b ((colT n m T.A ban).getD 0)).getD 0) ((colT n m T.A ban).getD 0)
def seqT (n m : Nat) (ban : Option Nat) (T : Tbl) : Nat → Tbl
  | 0 => T
  | k + 1 => stepT n m ban (seqT n m ban T k)
structure Ended (n m : Nat) (ban : Option Nat) (E : Mx) (c : Nat → Rat) (ok : Bool) (T : Tbl) : Prop where
  rep : Rep n m E T.A T.b c
  feas : ∀ i, i < m → 0 ≤ T.A i (wdt n m)
  top : ok = true → ∀ k, k < wdt n m → some k ≠ ban → T.A m k ≤ 0
  free : ok = false → ∃ q, q < wdt n m ∧ some q ≠ ban ∧ 0 < T.A m q ∧ ∀ i, i < m → T.A i q ≤ 0
theorem climb_end {n m e : Nat} {ban : Option Nat} {E : Mx} {c : Nat → Rat} {Q : Rat} (L : Laid n m E) (hc : Szd n m E c Q) (hF : Fits n m Q e) (T : Tbl) (R : Rep n m E T.A T.b c) (hf : ∀ i, i < m → 0 ≤ T.A i (wdt n m))
    (P : Tbl → Prop) (hP : P T) (hst : ∀ (T : Tbl) r q, P T → Rep n m E T.A T.b c → (∀ i, i < m → 0 ≤ T.A i (wdt n m)) → Stp m (wdt n m) ban T.A T.b r q (pivT n m T r q).A (pivT n m T r q).b → P (pivT n m T r q)) :
    ∃ f ok T', (∀ d, climbT e n m ban (f + d) T = some (ok, T')) ∧ Ended n m ban E c ok T' ∧ P T' := by
  have key : ∀ k, (∃ f ok T', (∀ d, climbT e n m ban (f + d) T = some (ok, T')) ∧ Ended n m ban E c ok T' ∧ P T') ∨
      (Runs m (wdt n m) ban (fun x => (seqT n m ban T x).A) (fun x => (seqT n m ban T x).b) (fun x => (leaveT n m (seqT n m ban T x).A (seqT n m ban T x).b ((colT n m (seqT n m ban T x).A ban).getD 0)).getD 0) (fun x => (colT n m (seqT n m ban T x).A ban).getD 0) k ∧
        Rep n m E (seqT n m ban T k).A (seqT n m ban T k).b c ∧ (∀ i, i < m → 0 ≤ (seqT n m ban T k).A i (wdt n m)) ∧ P (seqT n m ban T k) ∧ ∀ j, climbT e n m ban (k + j) T = climbT e n m ban j (seqT n m ban T k)) := by
    intro k
    induction k with
    | zero => exact Or.inr ⟨fun x hx => absurd hx (by omega), R, hf, hP, fun j => by rw [Nat.zero_add]; rfl⟩
    | succ k ih =>
      rcases ih with h | ⟨h1, h2, h3, h4, h5⟩
      · exact Or.inl h
      · have hsm : smallT e n m (seqT n m ban T k) = true := smallT_of fun j hj q hq => h2.small L hc hF hj hq
        have hsm2 : ¬ smallT e n m (seqT n m ban T k) = false := by rw [hsm]; decide
        cases hcol : colT n m (seqT n m ban T k).A ban with
        | none =>
          have h6 : climbT e n m ban (k + 1) T = some (true, seqT n m ban T k) := by rw [h5 1, climbT, if_neg hsm2, hcol]
          exact Or.inl ⟨k + 1, true, _, climb_le h6, ⟨h2, h3, fun _ => col_none hcol, fun e => by cases e⟩, h4⟩
        | some q =>
          cases hlv : leaveT n m (seqT n m ban T k).A (seqT n m ban T k).b q with
          | none =>
            have h6 : climbT e n m ban (k + 1) T = some (false, seqT n m ban T k) := by
              rw [h5 1, climbT, if_neg hsm2, hcol]
              simp only [hlv]
            obtain ⟨a1, a2, a3, _⟩ := col_some hcol
            exact Or.inl ⟨k + 1, false, _, climb_le h6, ⟨h2, h3, (fun e => by cases e), fun _ => ⟨q, a1, a2, a3, leave_none hlv⟩⟩, h4⟩
          | some r =>
            have hs := stp_of hcol hlv
            have e1 : seqT n m ban T (k + 1) = pivT n m (seqT n m ban T k) r q := by
              show stepT n m ban (seqT n m ban T k) = _
              unfold stepT
              rw [hcol, Option.getD_some, hlv, Option.getD_some]
            refine Or.inr ⟨fun x hx => ?_, by rw [e1]; exact h2.stp hs, by rw [e1]; exact hs.feas h3, by rw [e1]; exact hst _ r q h4 h2 h3 hs, fun j => ?_⟩
            · by_cases e2 : x = k
              · subst e2
                simp only [e1, hcol, Option.getD_some, hlv]
                exact hs
              · exact h1 x (by omega)
            · rw [show k + 1 + j = k + (j + 1) by omega, h5 (j + 1), climbT, if_neg hsm2, hcol, e1]
              simp only [hlv]
  rcases key (wdt n m ^ m) with h | ⟨h1, _⟩
  · exact h
  · exact absurd (bland h1 R.inv.bas hf) (by omega)
end Sx
end Go.Proofs.YtellemlhhlafcaaGreatDoor
end
section
namespace Go.Proofs.YtellemlhhlafcaaGreatDoor
open Go
namespace Sx
open M
theorem det_id : ∀ (n : Nat) {B : Nat → Nat → Rat}, (∀ c r, c < n → r < n → B c r = if r = c then 1 else 0) → det n B = 1
  | 0, _, _ => rfl
  | n + 1, B, h => by
    rw [det, sm_one (k := 0) (by omega) fun r hr e => by rw [h 0 r (by omega) hr, if_neg e]; grind]
    rw [h 0 0 (by omega) (by omega), if_pos rfl, det_id n fun c r hc hr => by
      have e : skip 0 r = r + 1 := rfl
      rw [e, h (c + 1) (r + 1) (by omega) (by omega)]
      by_cases e2 : r = c
      · rw [if_pos e2, if_pos (by omega)]
      · rw [if_neg e2, if_neg (by omega)]]
    unfold sgn
    rw [if_pos (by decide)]; grind
theorem laid_of (n : Nat) (l : List BQ) : Laid n l.length (laidA n l) := by
  refine ⟨fun i hi k hk => ?_, fun i hi j hj => ?_, fun i hi => ?_⟩
  · unfold laidA
    rw [if_pos hi, if_neg (by omega), if_pos (by omega), if_pos hi, if_pos hk, show n + k - n = k by omega]
  · unfold laidA wdt
    rw [if_pos hi, if_neg (by omega), if_neg (by omega)]
    by_cases e : i = j
    · rw [if_pos (by omega), if_pos e]
    · rw [if_neg (by omega), if_neg (by omega), if_neg (by omega), if_neg e]
  · unfold laidA wdt
    rw [if_pos hi, if_neg (by omega), if_neg (by omega), if_neg (by omega), if_pos (by omega)]
theorem ws_spec {A : Mx} {wd : Nat} : ∀ i, match wsS A wd i with
    | none => ∀ k, k < i → 0 ≤ A k wd
    | some r => r < i ∧ A r wd < 0 ∧ ∀ k, k < i → A r wd ≤ A k wd
  | 0 => fun k hk => absurd hk (by omega)
  | i + 1 => by
    have ih := ws_spec (A := A) (wd := wd) i
    rw [wsS]
    cases hs : wsS A wd i with
    | none =>
      rw [hs] at ih
      simp only at ih
      rw [wsOne]
      by_cases h1 : 0 ≤ A i wd
      · simp only [if_pos h1]
        intro k hk
        by_cases e : k = i
        · subst e; exact h1
        · exact ih k (by omega)
      · simp only [if_neg h1]
        refine ⟨by omega, by grind, fun k hk => ?_⟩
        by_cases e : k = i
        · subst e; exact Rat.le_refl
        · have := ih k (by omega); grind
    | some r =>
      rw [hs] at ih
      simp only at ih
      obtain ⟨h1, h2, h3⟩ := ih
      rw [wsOne]
      by_cases h4 : 0 ≤ A i wd
      · simp only [if_pos h4]
        refine ⟨by omega, h2, fun k hk => ?_⟩
        by_cases e : k = i
        · subst e; grind
        · exact h3 k (by omega)
      · by_cases h5 : A r wd ≤ A i wd
        · simp only [if_neg h4, if_pos h5]
          refine ⟨by omega, h2, fun k hk => ?_⟩
          by_cases e : k = i
          · subst e; exact h5
          · exact h3 k (by omega)
        · simp only [if_neg h4, if_neg h5]
          refine ⟨by omega, by grind, fun k hk => ?_⟩
          by_cases e : k = i
          · subst e; exact Rat.le_refl
          · have := h3 k (by omega); grind
def artG (n m : Nat) (k : Nat) : Rat := if k = 2 * n + m then -1 else 0
theorem art_sum (n m : Nat) (x : Nat → Rat) : sm (wdt n m) (fun k => artG n m k * x k) = - x (2 * n + m) := by
  rw [sm_one (k := 2 * n + m) (by unfold wdt; omega) fun j _ e => by unfold artG; rw [if_neg e]; grind]
  unfold artG; rw [if_pos rfl]; grind
theorem Szd.less {n m : Nat} {E : Mx} {c c' : Nat → Rat} {Q : Rat} (h : Szd n m E c Q) (h1 : ∀ j, j < m → c' (2 * n + j) = 0) (h2 : IsI (c' (2 * n + m))) (h3 : ab (c' (2 * n + m)) ≤ 1)
    (h4 : ∀ k, (k < 2 * n ∨ k = 2 * n + m + 1) → c' k = c k ∨ c' k = 0) : Szd n m E c' Q := by
  obtain ⟨σ, hσ⟩ := h.col
  refine ⟨h1, h2, h3, σ, fun k hk => ?_⟩
  obtain ⟨a1, a2, a3, a4, a5⟩ := hσ k hk
  rcases h4 k hk with e | e
  · have e2 : ∀ r, xt E c' k r = xt E c k r := fun r => by cases r with
      | zero => exact e
      | succ r => rfl
    refine ⟨a1, a2, a3, fun r hr => by rw [e2]; exact a4 r hr, ?_⟩
    rw [sm_congr (g := fun r => ab (σ k * xt E c k r)) fun r _ => by rw [e2]]
    exact a5
  · refine ⟨a1, a2, a3, fun r hr => ?_, ?_⟩
    · cases r with
      | zero =>
        show IsI (σ k * c' k)
        rw [e, Rat.mul_zero]; exact ⟨0, rfl⟩
      | succ r => exact a4 (r + 1) hr
    · rw [sm_head] at a5 ⊢
      have e2 : ab (σ k * xt E c' k 0) = 0 := by
        show ab (σ k * c' k) = 0
        rw [e, Rat.mul_zero]; decide +kernel
      have e3 : sm m (fun r => ab (σ k * xt E c' k (r + 1))) = sm m (fun r => ab (σ k * xt E c k (r + 1))) := sm_congr fun r _ => rfl
      have e4 := ab_nonneg (σ k * xt E c k 0)
      rw [e2, e3]; grind
theorem Szd.art1 {n m : Nat} {E : Mx} {c : Nat → Rat} {Q : Rat} (h : Szd n m E c Q) : Szd n m E (artG n m) Q := by
  refine h.less (fun j hj => ?_) ?_ ?_ fun k hk => Or.inr ?_
  · unfold artG; rw [if_neg (by omega)]
  · unfold artG; rw [if_pos rfl]; exact ⟨-1, by decide +kernel⟩
  · unfold artG; rw [if_pos rfl]; decide +kernel
  · unfold artG; rw [if_neg (by omega)]
theorem Szd.zero {n m : Nat} {E : Mx} {c : Nat → Rat} {Q : Rat} (h : Szd n m E c Q) : Szd n m E (fun _ => 0) Q :=
  h.less (fun _ _ => rfl) ⟨0, rfl⟩ (by decide +kernel) fun _ _ => Or.inr rfl
section
variable {n m : Nat} {E A : Mx} {b : Nat → Nat} {c : Nat → Rat}
theorem bv_nonneg {y : Nat → Rat} (h : ∀ i, i < m → 0 ≤ y i) (k : Nat) : 0 ≤ bv m b y k := sm_nonneg fun i hi => by split; exact h i hi; exact Rat.le_refl
theorem bv_nonpos {y : Nat → Rat} (h : ∀ i, i < m → y i ≤ 0) (k : Nat) : bv m b y k ≤ 0 := sm_nonpos fun i hi => by split; exact h i hi; exact Rat.le_refl
theorem Rep.ray (h : Rep n m E A b c) {q : Nat} (hq : q < wdt n m) (hp : ∀ i, i < m → A i q ≤ 0) :
    Sol m (wdt n m) E 0 (dirV m A b q) ∧ (∀ k, 0 ≤ dirV m A b q k) ∧ sm (wdt n m) (fun k => c k * dirV m A b q k) = A m q := by
  refine ⟨(h.inv.sol 0 _).1 (dir_sol h.inv.bas hq), fun k => ?_, ?_⟩
  · have h1 := bv_nonpos (b := b) hp k
    unfold dirV
    split <;> grind
  · have h1 := h.zv 0 _ (dir_sol h.inv.bas hq)
    rw [dir_zv h.inv.bas hq] at h1
    rw [h1]; grind
theorem Rep.pt (h : Rep n m E A b c) : Sol m (wdt n m) E 1 (bv m b fun i => A i (wdt n m)) ∧ sm (wdt n m) (fun k => c k * bv m b (fun i => A i (wdt n m)) k) - c (wdt n m) = - A m (wdt n m) := by
  refine ⟨(h.inv.sol 1 _).1 (bas_sol h.inv.bas), ?_⟩
  have h1 := h.zv 1 _ (bas_sol h.inv.bas)
  rw [bas_zv h.inv.bas] at h1
  rw [h1]; grind
theorem art_ended (h : Rep n m E A b (artG n m)) {q : Nat} (hq : q < wdt n m) (h1 : 0 < A m q) (hp : ∀ i, i < m → A i q ≤ 0) : False := by
  obtain ⟨_, r2, r3⟩ := h.ray hq hp
  rw [art_sum] at r3
  have := r2 (2 * n + m)
  grind
end
def NoArt (n m : Nat) (T : Tbl) : Prop := (∀ i, i < m → T.b i ≠ 2 * n + m) ∨ ∃ r, r < m ∧ T.b r = 2 * n + m ∧ T.A r (wdt n m) = 0 ∧ ∀ k, k < 2 * n + m → T.A r k = 0
theorem noart_step {n m : Nat} {T : Tbl} {r q : Nat} (h : NoArt n m T) (s : Stp m (wdt n m) (some (2 * n + m)) T.A T.b r q (pivT n m T r q).A (pivT n m T r q).b) : NoArt n m (pivT n m T r q) := by
  have hq : q < 2 * n + m := by
    have h1 := s.cD
    have h2 := s.cb
    unfold wdt at h1
    have h3 : q ≠ 2 * n + m := fun e => h2 (by rw [e])
    omega
  rcases h with h | ⟨r1, h1, h2, h3, h4⟩
  · refine Or.inl fun i hi => ?_
    rw [s.pb i hi]
    by_cases e : i = r
    · subst e; rw [upd_same]; omega
    · rw [upd_other _ e]; exact h i hi
  · have hne : r1 ≠ r := fun e => by
      have := s.rp
      rw [← e, h4 q hq] at this
      exact Rat.lt_irrefl this
    refine Or.inr ⟨r1, h1, by rw [s.pb r1 h1, upd_other _ hne]; exact h2, ?_, fun k hk => ?_⟩
    · rw [s.pA r1 (by omega) _ (Nat.le_refl _), piv_row hne, h4 q hq, h3]; grind
    · rw [s.pA r1 (by omega) k (by unfold wdt; omega), piv_row hne, h4 q hq, h4 k hk]; grind
theorem NoArt.pt {n m : Nat} {T : Tbl} (h : NoArt n m T) (hB : Bas m (wdt n m) T.A T.b) : bv m T.b (fun i => T.A i (wdt n m)) (2 * n + m) = 0 := by
  rcases h with h | ⟨r, h1, h2, h3, _⟩
  · exact bv_off _ h
  · rw [← h2, bv_at hB _ h1]; exact h3
theorem laid_rep (n : Nat) (l : List BQ) : Rep n l.length (laidA n l) (laidT n l).A (laidT n l).b fun _ => 0 := by
  have L := laid_of n l
  have hA : ∀ j, j ≤ l.length → ∀ k, k ≤ wdt n l.length → (laidT n l).A j k = laidA n l j k := fun j hj k hk => tab_A _ _ hj hk
  have hb : ∀ i, i < l.length → (laidT n l).b i = 2 * n + i := fun i hi => tab_b _ _ hi
  have hm : ∀ k, laidA n l l.length k = 0 := fun k => by unfold laidA; rw [if_neg (by omega)]
  have hB : Bas l.length (wdt n l.length) (laidA n l) fun i => 2 * n + i := ⟨fun i hi => by unfold wdt; omega, fun i hi => by rw [L.slk i hi i hi, if_pos rfl], fun i j hi hj e => by
    by_cases h1 : j < l.length
    · rw [L.slk j h1 i hi, if_neg e]
    · rw [show j = l.length by omega, hm]⟩
  refine ⟨⟨hB.congr hA hb, fun t x => ((Eqv.congr hA).sol t x).symm, ?_⟩, fun t x hx => ?_⟩
  · rw [det_id l.length fun c r hc hr => by rw [hb c hc]; exact L.slk r hr c hc]
    decide +kernel
  · unfold Zv
    have e1 : sm (wdt n l.length) (fun k => (laidT n l).A l.length k * x k) = 0 := sm_zero fun k hk => by rw [hA _ (Nat.le_refl _) k (by omega), hm, Rat.zero_mul]
    have e2 : sm (wdt n l.length) (fun k => (0 : Rat) * x k) = 0 := sm_zero fun k _ => Rat.zero_mul _
    rw [e1, e2, hA _ (Nat.le_refl _) _ (Nat.le_refl _), hm]
theorem Rep.regoal {n m : Nat} {E A A' : Mx} {b b' : Nat → Nat} {c c' : Nat → Rat} (h : Rep n m E A b c) (hA : ∀ j, j < m → ∀ k, k ≤ wdt n m → A' j k = A j k) (hb : ∀ i, i < m → b' i = b i) (hg : ∀ k, k ≤ wdt n m → A' m k = zc m A b c' k) : Rep n m E A' b' c' := by
  have hs : ∀ t x, Sol m (wdt n m) A' t x ↔ Sol m (wdt n m) A t x := fun t x => by
    have e : ∀ i, i < m → (sm (wdt n m) (fun k => A' i k * x k) = sm (wdt n m) (fun k => A i k * x k)) ∧ A' i (wdt n m) = A i (wdt n m) := fun i hi => ⟨sm_congr fun k hk => by rw [hA i hi k (by omega)], hA i hi _ (Nat.le_refl _)⟩
    constructor
    · intro hx i hi
      have := hx i hi
      rwa [(e i hi).1, (e i hi).2] at this
    · intro hx i hi
      rw [(e i hi).1, (e i hi).2]; exact hx i hi
  have hB := h.inv.bas
  have hz : ∀ i, i < m → zc m A b c' (b i) = 0 := fun i hi => by
    unfold zc
    rw [sm_one hi fun j hj e => by rw [hB.zer i j hi (by omega) e]; grind, hB.one i hi]; grind
  refine ⟨⟨⟨fun i hi => by rw [hb i hi]; exact hB.lt i hi, fun i hi => ?_, fun i j hi hj e => ?_⟩, fun t x => (hs t x).trans (h.inv.sol t x), ?_⟩, fun t x hx => ?_⟩
  · rw [hb i hi, hA i hi _ (Nat.le_of_lt (hB.lt i hi))]; exact hB.one i hi
  · rw [hb i hi]
    by_cases h1 : j < m
    · rw [hA j h1 _ (Nat.le_of_lt (hB.lt i hi))]; exact hB.zer i j hi hj e
    · rw [show j = m by omega, hg _ (Nat.le_of_lt (hB.lt i hi))]; exact hz i hi
  · rw [det_congr (B' := fun c r => E r (b c)) fun q hq r _ => by rw [hb q hq]]
    exact h.inv.dt
  · have hx2 := (hs t x).1 hx
    unfold Zv
    have e1 : sm (wdt n m) (fun k => A' m k * x k) = sm (wdt n m) (fun k => c' k * x k - sm m fun i => c' (b i) * (A i k * x k)) := sm_congr fun k hk => by
      rw [hg k (by omega)]
      unfold zc
      have e2 : sm m (fun i => c' (b i) * (A i k * x k)) = sm m (fun i => A i k * c' (b i)) * x k := by
        rw [← sm_mul_right]
        exact sm_congr fun i _ => by grind
      rw [e2]; grind
    rw [e1, sm_sub, sm_swap, hg _ (Nat.le_refl _)]
    have e3 : sm m (fun i => sm (wdt n m) fun k => c' (b i) * (A i k * x k)) = sm m (fun i => A i (wdt n m) * c' (b i)) * t := by
      rw [← sm_mul_right]
      exact sm_congr fun i hi => by rw [sm_mul, hx2 i hi]; grind
    rw [e3]
    unfold zc; grind
end Sx
end Go.Proofs.YtellemlhhlafcaaGreatDoor
end
section
namespace Go.Proofs.YtellemlhhlafcaaGreatDoor
open Go
namespace Sx
open M
theorem dotP_sm (a b : List Rat) : ∀ i, dotP a b i = sm i fun k => nth a k * nth b k
  | 0 => rfl
  | i + 1 => by rw [dotP, sm, dotP_sm a b i]
theorem wrow_sm (l : List BQ) (q : List Rat) (k : Nat) : ∀ i, wrow l q i k = sm i fun j => nth q j * nth (l.getD j ([], 0)).1 k
  | 0 => rfl
  | i + 1 => by rw [wrow, sm, wrow_sm l q k i]
theorem wmost_sm (l : List BQ) (q : List Rat) : ∀ i, wmost l q i = sm i fun j => nth q j * (l.getD j ([], 0)).2
  | 0 => rfl
  | i + 1 => by rw [wmost, sm, wmost_sm l q i]
theorem exp_sum (n m : Nat) (f : Nat → Rat) : sm (wdt n m) f = sm n (fun k => f k + f (n + k)) + sm m (fun i => f (2 * n + i)) + f (2 * n + m) := by
  have e : wdt n m = n + (n + (m + 1)) := by unfold wdt; omega
  rw [e, sm_split n, sm_split n, sm_add, sm]
  have e1 : sm m (fun k => f (n + (n + k))) = sm m fun i => f (2 * n + i) := sm_congr fun i _ => by rw [show n + (n + i) = 2 * n + i by omega]
  rw [e1, show n + (n + m) = 2 * n + m by omega]; grind
theorem laid_bas (n : Nat) (l : List BQ) : Bas l.length (wdt n l.length) (laidA n l) fun i => 2 * n + i := by
  have L := laid_of n l
  have hm : ∀ k, laidA n l l.length k = 0 := fun k => by unfold laidA; rw [if_neg (by omega)]
  exact ⟨fun i hi => by unfold wdt; omega, fun i hi => by rw [L.slk i hi i hi, if_pos rfl], fun i j hi hj e => by
    by_cases h1 : j < l.length
    · rw [L.slk j h1 i hi, if_neg e]
    · rw [show j = l.length by omega, hm]⟩
section
variable {n : Nat} {l : List BQ} {A : Mx} {b : Nat → Nat} {c : Nat → Rat}
theorem Rep.dual (h : Rep n l.length (laidA n l) A b c) {s : Nat} (hs : s ≤ wdt n l.length) : A l.length s - c s = sm l.length fun i => (A l.length (2 * n + i) - c (2 * n + i)) * laidA n l i s := by
  have hB := laid_bas n l
  have e0 : sm l.length (fun i => (A l.length (2 * n + i) - c (2 * n + i)) * laidA n l i s) = sm l.length (fun i => A l.length (2 * n + i) * laidA n l i s) - sm l.length (fun i => c (2 * n + i) * laidA n l i s) := by
    rw [← sm_sub]
    exact sm_congr fun i _ => by grind
  rw [e0]
  rcases Nat.lt_or_eq_of_le hs with h1 | h1
  · have h2 := (h.inv.sol 0 _).2 (dir_sol hB h1)
    have h3 := h.zv 0 _ h2
    unfold Zv at h3
    rw [dir_sum h1, dir_sum h1, bv_sum hB.lt, bv_sum hB.lt] at h3
    grind
  · have h2 := (h.inv.sol 1 _).2 (bas_sol hB)
    have h3 := h.zv 1 _ h2
    unfold Zv at h3
    rw [bv_sum hB.lt, bv_sum hB.lt] at h3
    rw [h1]; grind
theorem Rep.two (h : Rep n l.length (laidA n l) A b c) {k : Nat} (hk : k < n) (h0 : c k + c (n + k) = 0) : A l.length k + A l.length (n + k) = 0 := by
  have h1 := h.dual (s := k) (by unfold wdt; omega)
  have h2 := h.dual (s := n + k) (by unfold wdt; omega)
  have h3 : sm l.length (fun i => (A l.length (2 * n + i) - c (2 * n + i)) * laidA n l i k) + sm l.length (fun i => (A l.length (2 * n + i) - c (2 * n + i)) * laidA n l i (n + k)) = 0 := by
    rw [← sm_add]
    exact sm_zero fun i hi => by rw [(laid_of n l).neg i hi k hk]; grind
  grind
theorem laid_un {j k : Nat} (hj : j < l.length) (hk : k < n) : laidA n l j k = nth (l.getD j ([], 0)).1 k := by unfold laidA; rw [if_pos hj, if_pos hk]
theorem laid_most {j : Nat} (hj : j < l.length) : laidA n l j (wdt n l.length) = (l.getD j ([], 0)).2 := by
  unfold laidA wdt
  rw [if_pos hj, if_neg (by omega), if_neg (by omega), if_neg (by omega), if_neg (by omega), if_pos (by omega)]
theorem laid_sum {j : Nat} (hj : j < l.length) (x : Nat → Rat) : sm (wdt n l.length) (fun k => laidA n l j k * x k) = sm n (fun k => nth (l.getD j ([], 0)).1 k * (x k - x (n + k))) + x (2 * n + j) - x (2 * n + l.length) := by
  have L := laid_of n l
  rw [exp_sum]
  have e1 : sm n (fun k => laidA n l j k * x k + laidA n l j (n + k) * x (n + k)) = sm n (fun k => nth (l.getD j ([], 0)).1 k * (x k - x (n + k))) := sm_congr fun k hk => by
    rw [L.neg j hj k hk, laid_un hj hk]; grind
  have e2 : sm l.length (fun i => laidA n l j (2 * n + i) * x (2 * n + i)) = x (2 * n + j) := by
    rw [sm_one hj fun i hi e => by rw [L.slk j hj i hi, if_neg (Ne.symm e), Rat.zero_mul], L.slk j hj j hj, if_pos rfl, Rat.one_mul]
  rw [e1, e2, L.art j hj]; grind
theorem goal_sum (goal : List Rat) (x : Nat → Rat) (m : Nat) : sm (wdt n m) (fun k => goalF n goal k * x k) = sm n (fun k => nth goal k * (x k - x (n + k))) := by
  rw [exp_sum]
  have e1 : sm n (fun k => goalF n goal k * x k + goalF n goal (n + k) * x (n + k)) = sm n (fun k => nth goal k * (x k - x (n + k))) := sm_congr fun k hk => by
    unfold goalF
    rw [if_pos hk, if_neg (by omega), if_pos (by omega), show n + k - n = k by omega]; grind
  have e2 : sm m (fun i => goalF n goal (2 * n + i) * x (2 * n + i)) = 0 := sm_zero fun i _ => by
    unfold goalF; rw [if_neg (by omega), if_neg (by omega), Rat.zero_mul]
  have e3 : goalF n goal (2 * n + m) = 0 := by unfold goalF; rw [if_neg (by omega), if_neg (by omega)]
  rw [e1, e2, e3]; grind
theorem allS_bv {m wd : Nat} {b : Nat → Nat} : ∀ i, (∀ j k, j < i → k < i → b j = b k → j = k) → ∀ k, allS A b wd i k = bv i b (fun j => A j wd) k
  | 0, _, _ => rfl
  | i + 1, h, k => by
    have ih := allS_bv (m := m) (wd := wd) (b := b) i (fun j k hj hk e => h j k (by omega) (by omega) e) k
    rw [allS]
    unfold bv at ih ⊢
    rw [sm]
    by_cases e : k = b i
    · subst e
      rw [upd_same, sm_zero fun j hj => if_neg fun e2 => by have := h j i (by omega) (by omega) e2; omega, if_pos rfl]; grind
    · rw [upd_other _ e, ih, if_neg (Ne.symm e)]; grind
theorem Inv.pointF (h : Inv n l.length (laidA n l) A b) (k : Nat) : M.pointF n l.length A b k = bv l.length b (fun j => A j (wdt n l.length)) k - bv l.length b (fun j => A j (wdt n l.length)) (n + k) := by
  have hi : ∀ j k, j < l.length → k < l.length → b j = b k → j = k := fun j k hj hk e => h.bas.inj hj hk e
  unfold M.pointF
  rw [allS_bv (m := l.length) _ hi, allS_bv (m := l.length) _ hi]
end
theorem sol_keeps {n : Nat} {l : List BQ} {x : Nat → Rat} (h : Sol l.length (wdt n l.length) (laidA n l) 1 x) (h0 : ∀ k, 0 ≤ x k) (ha : x (2 * n + l.length) = 0) {j : Nat} (hj : j < l.length) :
    sm n (fun k => nth (l.getD j ([], 0)).1 k * (x k - x (n + k))) ≤ (l.getD j ([], 0)).2 := by
  have h1 := h j hj
  rw [laid_sum hj, laid_most hj, ha] at h1
  have h2 := h0 (2 * n + j)
  grind
theorem sol_falls {n : Nat} {l : List BQ} {x : Nat → Rat} (h : Sol l.length (wdt n l.length) (laidA n l) 0 x) (h0 : ∀ k, 0 ≤ x k) (ha : x (2 * n + l.length) = 0) {j : Nat} (hj : j < l.length) :
    sm n (fun k => nth (l.getD j ([], 0)).1 k * (x k - x (n + k))) ≤ 0 := by
  have h1 := h j hj
  rw [laid_sum hj, ha] at h1
  have h2 := h0 (2 * n + j)
  grind
theorem nth_range (f : Nat → Rat) {n k : Nat} (h : k < n) : nth ((List.range n).map f) k = f k := nth_map f n k h
def Keeps (n : Nat) (l : List BQ) (p : List Rat) : Prop := p.length = n ∧ ∀ b ∈ l, dotP b.1 p n ≤ b.2
def Contra (n : Nat) (l : List BQ) (w : List Rat) : Prop := w.length = l.length ∧ (∀ x ∈ w, 0 ≤ x) ∧ (∀ k, k < n → wrow l w l.length k = 0) ∧ wmost l w l.length < 0
def Optim (n : Nat) (l : List BQ) (goal : List Rat) (v : Rat) (p w : List Rat) : Prop :=
  Keeps n l p ∧ dotP goal p n = v ∧ w.length = l.length ∧ (∀ x ∈ w, 0 ≤ x) ∧ (∀ k, k < n → wrow l w l.length k = nth goal k) ∧ wmost l w l.length = v
def NoEnd (n : Nat) (l : List BQ) (goal : List Rat) : Prop := ∃ p q, Keeps n l p ∧ q.length = n ∧ (∀ b ∈ l, dotP b.1 q n ≤ 0) ∧ 0 < dotP goal q n
section
variable {n : Nat} {l : List BQ} {A : Mx} {b : Nat → Nat} {c : Nat → Rat}
theorem get_of {x : BQ} (h : x ∈ l) : ∃ j, j < l.length ∧ l.getD j ([], 0) = x := by
  obtain ⟨j, hj, e⟩ := List.getElem_of_mem h
  exact ⟨j, hj, by simp [hj, e]⟩
theorem point_keeps (h : Inv n l.length (laidA n l) A b) (hf : ∀ i, i < l.length → 0 ≤ A i (wdt n l.length)) (ha : bv l.length b (fun i => A i (wdt n l.length)) (2 * n + l.length) = 0) :
    Keeps n l ((List.range n).map (M.pointF n l.length A b)) := by
  refine ⟨by simp, fun x hx => ?_⟩
  obtain ⟨j, hj, rfl⟩ := get_of hx
  have h1 := sol_keeps ((h.sol 1 _).1 (bas_sol h.bas)) (bv_nonneg hf) ha hj
  rw [dotP_sm]
  rw [sm_congr (g := fun k => nth (l.getD j ([], 0)).1 k * (bv l.length b (fun j => A j (wdt n l.length)) k - bv l.length b (fun j => A j (wdt n l.length)) (n + k))) fun k hk => by rw [nth_range _ hk, h.pointF]]
  exact h1
theorem point_goal (h : Inv n l.length (laidA n l) A b) (goal : List Rat) : dotP goal ((List.range n).map (M.pointF n l.length A b)) n = sm (wdt n l.length) (fun k => goalF n goal k * bv l.length b (fun j => A j (wdt n l.length)) k) := by
  rw [goal_sum, dotP_sm]
  exact sm_congr fun k hk => by rw [nth_range _ hk, h.pointF]
theorem weight_sum (h : Rep n l.length (laidA n l) A b c) (hs : ∀ j, j < l.length → c (2 * n + j) = 0) {s : Nat} (hs2 : s ≤ wdt n l.length) :
    sm l.length (fun i => nth ((List.range l.length).map (weightF n l.length A)) i * laidA n l i s) = c s - A l.length s := by
  have h1 := h.dual hs2
  have e : sm l.length (fun i => nth ((List.range l.length).map (weightF n l.length A)) i * laidA n l i s) = - sm l.length (fun i => (A l.length (2 * n + i) - c (2 * n + i)) * laidA n l i s) := by
    rw [← sm_neg]
    exact sm_congr fun i hi => by rw [nth_range _ hi, hs i hi]; unfold weightF; grind
  rw [e]; grind
theorem weight_row (h : Rep n l.length (laidA n l) A b c) (hs : ∀ j, j < l.length → c (2 * n + j) = 0) {k : Nat} (hk : k < n) : wrow l ((List.range l.length).map (weightF n l.length A)) l.length k = c k - A l.length k := by
  rw [← weight_sum h hs (by unfold wdt; omega), wrow_sm]
  exact sm_congr fun i hi => by rw [laid_un hi hk]
theorem weight_most (h : Rep n l.length (laidA n l) A b c) (hs : ∀ j, j < l.length → c (2 * n + j) = 0) : wmost l ((List.range l.length).map (weightF n l.length A)) l.length = c (wdt n l.length) - A l.length (wdt n l.length) := by
  rw [← weight_sum h hs (Nat.le_refl _), wmost_sm]
  exact sm_congr fun i hi => by rw [laid_most hi]
theorem weight_pos (h : ∀ k, k < wdt n l.length → k ≠ 2 * n + l.length → A l.length k ≤ 0) : ∀ x ∈ (List.range l.length).map (weightF n l.length A), 0 ≤ x := fun x hx => by
  obtain ⟨i, hi, rfl⟩ := List.mem_map.1 hx
  have := h (2 * n + i) (by have := List.mem_range.1 hi; unfold wdt; omega) (by have := List.mem_range.1 hi; omega)
  unfold weightF; grind
theorem contra_of {T : Tbl} (h : Ended n l.length none (laidA n l) (artG n l.length) true T) (h0 : T.A l.length (wdt n l.length) ≠ 0) : Contra n l ((List.range l.length).map (weightF n l.length T.A)) := by
  have hs : ∀ j, j < l.length → artG n l.length (2 * n + j) = 0 := fun j hj => by unfold artG; rw [if_neg (by omega)]
  have htop := h.top rfl
  have hD : artG n l.length (wdt n l.length) = 0 := by unfold artG wdt; rw [if_neg (by omega)]
  refine ⟨by simp, weight_pos fun k hk _ => htop k hk (by simp), fun k hk => ?_, ?_⟩
  · have h1 : artG n l.length k = 0 := by unfold artG; rw [if_neg (by omega)]
    have h2 : artG n l.length (n + k) = 0 := by unfold artG; rw [if_neg (by omega)]
    have h3 := h.rep.two hk (by rw [h1, h2]; decide +kernel)
    have h4 := htop k (by unfold wdt; omega) (by simp)
    have h5 := htop (n + k) (by unfold wdt; omega) (by simp)
    rw [weight_row h.rep hs hk, h1]; grind
  · rw [weight_most h.rep hs, hD]
    have h1 := h.rep.pt.2
    rw [art_sum, hD] at h1
    have h2 := bv_nonneg (b := T.b) h.feas (2 * n + l.length)
    grind
theorem optim_of {T : Tbl} {goal : List Rat} (h : Ended n l.length (some (2 * n + l.length)) (laidA n l) (goalF n goal) true T) (ha : NoArt n l.length T) :
    Optim n l goal (dotP goal ((List.range n).map (M.pointF n l.length T.A T.b)) n) ((List.range n).map (M.pointF n l.length T.A T.b)) ((List.range l.length).map (weightF n l.length T.A)) := by
  have hs : ∀ j, j < l.length → goalF n goal (2 * n + j) = 0 := fun j hj => by unfold goalF; rw [if_neg (by omega), if_neg (by omega)]
  have htop := h.top rfl
  have hD : goalF n goal (wdt n l.length) = 0 := by unfold goalF wdt; rw [if_neg (by omega), if_neg (by omega)]
  have hx := ha.pt h.rep.inv.bas
  refine ⟨point_keeps h.rep.inv h.feas hx, rfl, by simp, weight_pos fun k hk hne => htop k hk (by simp; exact hne), fun k hk => ?_, ?_⟩
  · have h1 : goalF n goal k = nth goal k := by unfold goalF; rw [if_pos hk]
    have h2 : goalF n goal (n + k) = - nth goal k := by unfold goalF; rw [if_neg (by omega), if_pos (by omega), show n + k - n = k by omega]
    have h3 := h.rep.two hk (by rw [h1, h2]; grind)
    have h4 := htop k (by unfold wdt; omega) (by simp; omega)
    have h5 := htop (n + k) (by unfold wdt; omega) (by simp; omega)
    rw [weight_row h.rep hs hk, h1]; grind
  · rw [weight_most h.rep hs, hD, point_goal h.rep.inv]
    have h1 := h.rep.pt.2
    rw [hD] at h1
    grind
theorem noend_of {T : Tbl} {goal : List Rat} (h : Ended n l.length (some (2 * n + l.length)) (laidA n l) (goalF n goal) false T) (ha : NoArt n l.length T) : NoEnd n l goal := by
  obtain ⟨q, hq, hb, hp, hc⟩ := h.free rfl
  obtain ⟨r1, r2, r3⟩ := h.rep.ray hq hc
  have hq2 : q < 2 * n + l.length := by
    unfold wdt at hq
    have : q ≠ 2 * n + l.length := fun e => hb (by rw [e])
    omega
  have hx := ha.pt h.rep.inv.bas
  have hd : dirV l.length T.A T.b q (2 * n + l.length) = 0 := by
    unfold dirV
    rw [if_neg (by omega)]
    rcases ha with ha | ⟨r, a1, a2, a3, a4⟩
    · rw [bv_off _ ha]; grind
    · rw [← a2, bv_at h.rep.inv.bas _ a1, a4 q hq2]; grind
  refine ⟨(List.range n).map (M.pointF n l.length T.A T.b), (List.range n).map fun k => dirV l.length T.A T.b q k - dirV l.length T.A T.b q (n + k), point_keeps h.rep.inv h.feas hx, by simp, fun x hx => ?_, ?_⟩
  · obtain ⟨j, hj, rfl⟩ := get_of hx
    have h1 := sol_falls r1 r2 hd hj
    rw [dotP_sm]
    rw [sm_congr (g := fun k => nth (l.getD j ([], 0)).1 k * (dirV l.length T.A T.b q k - dirV l.length T.A T.b q (n + k))) fun k hk => by rw [nth_range _ hk]]
    exact h1
  · rw [dotP_sm]
    rw [sm_congr (g := fun k => nth goal k * (dirV l.length T.A T.b q k - dirV l.length T.A T.b q (n + k))) fun k hk => by rw [nth_range _ hk], ← goal_sum goal _ l.length, r3]
    exact hp
end
end Sx
end Go.Proofs.YtellemlhhlafcaaGreatDoor
end
section
namespace Go.Proofs.YtellemlhhlafcaaGreatDoor
open Go
namespace Sx
open M
theorem wd1 (n m : Nat) : wdt n m - 1 = 2 * n + m := by unfold wdt; omega
theorem find_range_none {n : Nat} {p : Nat → Bool} (h : (List.range n).find? p = none) : ∀ k, k < n → p k = false := fun k hk => by
  rw [List.find?_eq_none] at h
  have := h k (List.mem_range.2 hk)
  simpa using this
theorem find_range_some {n c : Nat} {p : Nat → Bool} (h : (List.range n).find? p = some c) : c < n ∧ p c = true := by
  rw [List.find?_range_eq_some] at h
  exact ⟨List.mem_range.1 h.2.1, h.1⟩
theorem out_end {n : Nat} {l : List BQ} {T : Tbl} (h : Rep n l.length (laidA n l) T.A T.b (artG n l.length)) (hf : ∀ i, i < l.length → 0 ≤ T.A i (wdt n l.length)) (h0 : T.A l.length (wdt n l.length) = 0) :
    Rep n l.length (laidA n l) (outT n l.length T).A (outT n l.length T).b (artG n l.length) ∧ (∀ i, i < l.length → 0 ≤ (outT n l.length T).A i (wdt n l.length)) ∧ NoArt n l.length (outT n l.length T) := by
  have hD : artG n l.length (wdt n l.length) = 0 := by unfold artG wdt; rw [if_neg (by omega)]
  have hx := h.pt.2
  rw [art_sum, hD, h0] at hx
  unfold outT
  rw [wd1]
  cases hr : (List.range l.length).find? fun i => decide (T.b i = 2 * n + l.length) with
  | none =>
    refine ⟨h, hf, Or.inl fun i hi => ?_⟩
    have := find_range_none hr i hi
    simpa using this
  | some r =>
    obtain ⟨h1, h2⟩ := find_range_some hr
    have h2 : T.b r = 2 * n + l.length := by simpa using h2
    have h3 : T.A r (wdt n l.length) = 0 := by
      rw [← h2, bv_at h.inv.bas _ h1] at hx
      grind
    simp only
    cases hc : (List.range (2 * n + l.length)).find? fun c => decide (T.A r c ≠ 0) with
    | none =>
      refine ⟨h, hf, Or.inr ⟨r, h1, h2, h3, fun k hk => ?_⟩⟩
      have := find_range_none hc k hk
      simpa using this
    | some c =>
      obtain ⟨h4, h5⟩ := find_range_some hc
      have h5 : T.A r c ≠ 0 := by simpa using h5
      have pA : ∀ j, j ≤ l.length → ∀ k, k ≤ wdt n l.length → (pivT n l.length T r c).A j k = pivA T.A r c j k := fun j hj k hk => tab_A _ _ hj hk
      have pb : ∀ i, i < l.length → (pivT n l.length T r c).b i = upd T.b r c i := fun i hi => tab_b _ _ hi
      refine ⟨h.piv h1 (by unfold wdt; omega) h5 pA pb, fun i hi => ?_, Or.inl fun i hi => ?_⟩
      · show 0 ≤ (pivT n l.length T r c).A i (wdt n l.length)
        rw [pA i (by omega) _ (Nat.le_refl _)]
        by_cases e : i = r
        · subst e; rw [piv_r, h3]; grind
        · rw [piv_row e, h3]
          have := hf i hi
          grind
      · show (pivT n l.length T r c).b i ≠ 2 * n + l.length
        rw [pb i hi]
        by_cases e : i = r
        · subst e; rw [upd_same]; omega
        · rw [upd_other _ e]
          intro e2
          exact e (h.inv.bas.inj hi h1 (by rw [e2, h2]))
theorem ready_end {n e : Nat} {l : List BQ} {c : Nat → Rat} {Q : Rat} (hc : Szd n l.length (laidA n l) c Q) (hF : Fits n l.length Q e) :
    ∃ f ok T, (∀ d, readyT e n l.length (f + d) (laidT n l) = some (ok, T)) ∧ (ok = false → Ended n l.length none (laidA n l) (artG n l.length) true T ∧ T.A l.length (wdt n l.length) ≠ 0) ∧
      (ok = true → (∃ c', Rep n l.length (laidA n l) T.A T.b c') ∧ (∀ i, i < l.length → 0 ≤ T.A i (wdt n l.length)) ∧ NoArt n l.length T) ∧ ∀ j, j ≤ l.length → ∀ k, k ≤ wdt n l.length → Bq e (T.A j k) := by
  have L := laid_of n l
  have R0 := laid_rep n l
  have hA : ∀ j, j ≤ l.length → ∀ k, k ≤ wdt n l.length → (laidT n l).A j k = laidA n l j k := fun j hj k hk => tab_A _ _ hj hk
  have hb : ∀ i, i < l.length → (laidT n l).b i = 2 * n + i := fun i hi => tab_b _ _ hi
  have hm : ∀ k, laidA n l l.length k = 0 := fun k => by unfold laidA; rw [if_neg (by omega)]
  have hs0 : ∀ j, j ≤ l.length → ∀ k, k ≤ wdt n l.length → Bq e ((laidT n l).A j k) := fun j hj k hk => R0.small L hc.zero hF hj hk
  have hsm0 : ¬ smallT e n l.length (laidT n l) = false := by rw [smallT_of hs0]; decide
  have hws := ws_spec (A := (laidT n l).A) (wd := wdt n l.length) l.length
  cases hw : wsS (laidT n l).A (wdt n l.length) l.length with
  | none =>
    rw [hw] at hws
    have hrc : ∀ f, readyT e n l.length f (laidT n l) = some (true, laidT n l) := fun f => by
      unfold readyT readyC
      rw [if_neg hsm0, hw]
      simp only
      rw [if_pos (smallT_of hs0)]
    exact ⟨0, true, laidT n l, fun d => hrc _, (fun e => by cases e), fun _ => ⟨⟨_, R0⟩, hws, Or.inl fun i hi => by rw [hb i hi]; omega⟩, hs0⟩
  | some w =>
    rw [hw] at hws
    obtain ⟨w1, w2, w3⟩ := hws
    have hpv : (laidT n l).A w (2 * n + l.length) = -1 := by rw [hA w (by omega) _ (by unfold wdt; omega)]; exact L.art w w1
    -- the goal's row, and the first pivot
    have R1 : Rep n l.length (laidA n l) (upd (laidT n l).A l.length (upd ((laidT n l).A l.length) (2 * n + l.length) (-1))) (laidT n l).b (artG n l.length) := by
      refine R0.regoal (fun j hj k _ => by rw [upd_other _ (by omega)]) (fun _ _ => rfl) fun k hk => ?_
      rw [upd_same]
      have e1 : zc l.length (laidT n l).A (laidT n l).b (artG n l.length) k = artG n l.length k := by
        unfold zc
        rw [sm_zero fun i hi => by rw [hb i hi]; unfold artG; rw [if_neg (by omega)]; grind]; grind
      rw [e1]
      unfold artG
      by_cases e2 : k = 2 * n + l.length
      · rw [e2, upd_same, if_pos rfl]
      · rw [upd_other _ e2, if_neg e2, hA _ (Nat.le_refl _) k hk, hm]
    obtain ⟨A1, hA1⟩ : ∃ A1, A1 = upd (laidT n l).A l.length (upd ((laidT n l).A l.length) (2 * n + l.length) (-1)) := ⟨_, rfl⟩
    rw [← hA1] at R1
    have hA1r : ∀ j, j < l.length → A1 j = (laidT n l).A j := fun j hj => by rw [hA1, upd_other _ (by omega)]
    have h0 : A1 w (2 * n + l.length) ≠ 0 := by rw [hA1r w w1, hpv]; decide +kernel
    obtain ⟨T1, hT1⟩ : ∃ T1, T1 = tab n l.length (pivA A1 w (2 * n + l.length)) (upd (laidT n l).b w (2 * n + l.length)) := ⟨_, rfl⟩
    have pA : ∀ j, j ≤ l.length → ∀ k, k ≤ wdt n l.length → T1.A j k = pivA A1 w (2 * n + l.length) j k := fun j hj k hk => by rw [hT1]; exact tab_A _ _ hj hk
    have pb : ∀ i, i < l.length → T1.b i = upd (laidT n l).b w (2 * n + l.length) i := fun i hi => by rw [hT1]; exact tab_b _ _ hi
    have R2 := R1.piv w1 (by unfold wdt; omega) h0 pA pb
    have hf2 : ∀ i, i < l.length → 0 ≤ T1.A i (wdt n l.length) := fun i hi => by
      rw [pA i (by omega) _ (Nat.le_refl _)]
      by_cases e1 : i = w
      · subst e1
        rw [piv_r, hA1r i hi, hpv]
        grind
      · have e2 : (laidT n l).A i (2 * n + l.length) = -1 := by rw [hA i (by omega) _ (by unfold wdt; omega)]; exact L.art i hi
        have e3 := w3 i hi
        rw [piv_row e1, hA1r i hi, hA1r w w1, e2, hpv]
        grind
    obtain ⟨f, ok, T2, hcl, hE, _⟩ := climb_end (e := e) (ban := none) L hc.art1 hF T1 R2 hf2 (fun _ => True) trivial (fun _ _ _ _ _ _ _ => trivial)
    have hok : ok = true := by
      cases ok with
      | true => rfl
      | false =>
        obtain ⟨q, q1, _, q3, q4⟩ := hE.free rfl
        exact (art_ended hE.rep q1 q3 q4).elim
    subst hok
    have hs2 : ∀ j, j ≤ l.length → ∀ k, k ≤ wdt n l.length → Bq e (T2.A j k) := fun j hj k hk => hE.rep.small L hc.art1 hF hj hk
    have hrc : ∀ d, readyC e n l.length (f + d) (laidT n l) = if T2.A l.length (wdt n l.length) ≠ 0 then some (false, T2) else some (true, outT n l.length T2) := fun d => by
      unfold readyC
      rw [if_neg hsm0, hw]
      simp only
      rw [wd1, if_neg (by rw [hpv]; decide +kernel), ← hA1, ← hT1, hcl d]
    by_cases h1 : T2.A l.length (wdt n l.length) ≠ 0
    · refine ⟨f, false, T2, fun d => ?_, fun _ => ⟨hE, h1⟩, (fun e => by cases e), hs2⟩
      unfold readyT
      rw [hrc d, if_pos h1]
      simp only
      rw [if_pos (smallT_of hs2)]
    · have h2 : T2.A l.length (wdt n l.length) = 0 := by simpa using h1
      obtain ⟨o1, o2, o3⟩ := out_end hE.rep hE.feas h2
      have hs3 : ∀ j, j ≤ l.length → ∀ k, k ≤ wdt n l.length → Bq e ((outT n l.length T2).A j k) := fun j hj k hk => o1.small L hc.art1 hF hj hk
      refine ⟨f, true, outT n l.length T2, fun d => ?_, (fun e => by cases e), fun _ => ⟨⟨_, o1⟩, o2, o3⟩, hs3⟩
      unfold readyT
      rw [hrc d, if_neg h1]
      simp only
      rw [if_pos (smallT_of hs3)]
def pz (n : Nat) (A : Mx) (b : Nat → Nat) (goal : List Rat) (i k : Nat) : Rat := goalF n goal k - sm i fun j => A j k * goalF n goal (b j)
theorem bq_neg {k : Nat} {q : Rat} (h : Bq k q) : Bq k (-q) := by
  unfold Bq at *; rw [Rat.neg_num, Rat.neg_den, Int.natAbs_neg]; exact h
theorem goalF_bq {n e : Nat} {goal : List Rat} (h : ∀ x ∈ goal, Bq e x) (he : 1 ≤ e) (k : Nat) : Bq e (goalF n goal k) := by
  have h1 : ∀ k, Bq e (nth goal k) := fun k => by
    unfold nth
    by_cases hk : k < goal.length
    · rw [show goal.getD k 0 = goal[k] by simp [hk]]; exact h _ (List.getElem_mem hk)
    · rw [show goal.getD k 0 = 0 by simp [Nat.not_lt.1 hk]]; exact Bq_nil.mono he
  unfold goalF
  split
  · exact h1 k
  · split
    · exact bq_neg (h1 _)
    · exact Bq_nil.mono he
section
variable {n e : Nat} {l : List BQ} {A : Mx} {b : Nat → Nat} {c : Nat → Rat} {goal : List Rat} {Q : Rat}
theorem pz_bq (h : Inv n l.length (laidA n l) A b) (hc : Szd n l.length (laidA n l) (goalF n goal) Q) (hF : Fits n l.length Q e) (hg : ∀ x ∈ goal, Bq e x) (he : 1 ≤ e) {i k : Nat} (hi : i ≤ l.length) (hk : k ≤ wdt n l.length) : Bq e (pz n A b goal i k) := by
  by_cases hex : ∃ i', i ≤ i' ∧ i' < l.length ∧ b i' = k
  · obtain ⟨i', h1, h2, rfl⟩ := hex
    have e1 : pz n A b goal i (b i') = goalF n goal (b i') := by
      unfold pz
      rw [sm_zero fun j hj => by rw [h.bas.zer i' j h2 (by omega) (by omega), Rat.zero_mul]]; grind
    rw [e1]; exact goalF_bq hg he _
  · obtain ⟨c', hc'⟩ : ∃ c' : Nat → Rat, c' = fun j => if ((List.range l.length).any fun i' => decide (i ≤ i') && decide (b i' = j)) = true then 0 else goalF n goal j := ⟨_, rfl⟩
    have hany : ∀ j, ((List.range l.length).any fun i' => decide (i ≤ i') && decide (b i' = j)) = true ↔ ∃ i', i' < l.length ∧ i ≤ i' ∧ b i' = j := fun j => by simp
    have hor : ∀ j, c' j = goalF n goal j ∨ c' j = 0 := fun j => by
      rw [hc']; simp only
      split
      · exact Or.inr rfl
      · exact Or.inl rfl
    have hz : ∀ j, goalF n goal j = 0 → c' j = 0 := fun j h0 => by
      rcases hor j with h1 | h1
      · rw [h1, h0]
      · exact h1
    have hart : goalF n goal (2 * n + l.length) = 0 := by unfold goalF; rw [if_neg (by omega), if_neg (by omega)]
    have hS : Szd n l.length (laidA n l) c' Q := hc.less (fun j hj => hz _ (hc.slk j hj)) (by rw [hz _ hart]; exact ⟨0, rfl⟩) (by rw [hz _ hart]; decide +kernel) fun k _ => hor k
    have hb := h.size (laid_of n l) hS hF hk (j := 0) (by omega)
    have e1 : ys l.length A b c' k 0 = pz n A b goal i k := by
      show zc l.length A b c' k = _
      unfold zc pz
      have e2 : c' k = goalF n goal k := by
        rw [hc']; simp only
        rw [if_neg (by rw [hany]; rintro ⟨i', h1, h2, h3⟩; exact hex ⟨i', h2, h1, h3⟩)]
      have e3 : sm l.length (fun j => A j k * c' (b j)) = sm i fun j => A j k * goalF n goal (b j) := by
        rw [show l.length = i + (l.length - i) by omega, sm_split]
        rw [sm_zero (n := l.length - i) fun j hj => by
          rw [hc']; simp only
          rw [if_pos (by rw [hany]; exact ⟨i + j, by omega, by omega, rfl⟩), Rat.mul_zero]]
        rw [sm_congr (g := fun j => A j k * goalF n goal (b j)) fun j hj => by
          rw [hc']; simp only
          rw [if_neg (by
            rw [hany]
            rintro ⟨i', h1, h2, h3⟩
            have := h.bas.inj h1 (by omega) h3
            omega)]]
        grind
      rw [e2, e3]
    rw [← e1]; exact hb
theorem aim_end (h : Inv n l.length (laidA n l) A b) (hc : Szd n l.length (laidA n l) (goalF n goal) Q) (hF : Fits n l.length Q e) (hg : ∀ x ∈ goal, Bq e x) (he : 1 ≤ e) :
    ∀ i, i ≤ l.length → ∃ F : Nat → Rat, aimT e n l.length A b goal i = some ((List.range (wdt n l.length + 1)).map F) ∧ ∀ k, k ≤ wdt n l.length → F k = pz n A b goal i k
  | 0, _ => ⟨goalF n goal, rfl, fun k _ => by unfold pz; simp only [sm]; grind⟩
  | i + 1, hi => by
    obtain ⟨F, h1, h2⟩ := aim_end h hc hF hg he i (by omega)
    have hsm : smallL e ((List.range (wdt n l.length + 1)).map F) = true := by
      unfold smallL
      rw [List.all_eq_true]
      intro x hx
      obtain ⟨k, hk, rfl⟩ := List.mem_map.1 hx
      have hk := List.mem_range.1 hk
      rw [h2 k (by omega)]
      exact bq_small (pz_bq h hc hF hg he (by omega) (by omega))
    have hbi := h.bas.lt i (by omega)
    refine ⟨fun k => nth ((List.range (wdt n l.length + 1)).map F) k - nth ((List.range (wdt n l.length + 1)).map F) (b i) * A i k, ?_, fun k hk => ?_⟩
    · rw [aimT, h1]
      simp only
      rw [if_pos hsm]
    · have e1 : pz n A b goal i (b i) = goalF n goal (b i) := by
        unfold pz
        rw [sm_zero fun j hj => by rw [h.bas.zer i j (by omega) (by omega) (by omega), Rat.zero_mul]]; grind
      show nth ((List.range (wdt n l.length + 1)).map F) k - nth ((List.range (wdt n l.length + 1)).map F) (b i) * A i k = _
      rw [nth_range _ (show k < wdt n l.length + 1 by omega), nth_range _ (show b i < wdt n l.length + 1 by omega), h2 k hk, h2 _ (by omega), e1]
      unfold pz
      rw [sm]; grind
theorem point_bq (h : Inv n l.length (laidA n l) A b) (hA : ∀ j, j ≤ l.length → ∀ k, k ≤ wdt n l.length → Bq e (A j k)) (he : 1 ≤ e) {k : Nat} (hk : k < n) : Bq e (M.pointF n l.length A b k) := by
  rw [h.pointF]
  by_cases h1 : ∃ i, i < l.length ∧ b i = k
  · obtain ⟨i, hi, e1⟩ := h1
    rw [bv_off (k := n + k) _ fun j hj e2 => h.nopair (laid_of n l) hk hi hj e1 e2, ← e1, bv_at h.bas _ hi]
    rw [show A i (wdt n l.length) - 0 = A i (wdt n l.length) by grind]
    exact hA i (by omega) _ (Nat.le_refl _)
  · rw [bv_off (k := k) _ fun j hj e2 => h1 ⟨j, hj, e2⟩]
    by_cases h2 : ∃ i, i < l.length ∧ b i = n + k
    · obtain ⟨i, hi, e1⟩ := h2
      rw [← e1, bv_at h.bas _ hi, show 0 - A i (wdt n l.length) = - A i (wdt n l.length) by grind]
      exact bq_neg (hA i (by omega) _ (Nat.le_refl _))
    · rw [bv_off (k := n + k) _ fun j hj e2 => h2 ⟨j, hj, e2⟩]
      rw [show (0 : Rat) - 0 = 0 by grind]
      exact Bq_nil.mono he
theorem weight_bq (hA : ∀ j, j ≤ l.length → ∀ k, k ≤ wdt n l.length → Bq e (A j k)) : ∀ x ∈ (List.range l.length).map (weightF n l.length A), Bq e x := fun x hx => by
  obtain ⟨i, hi, rfl⟩ := List.mem_map.1 hx
  unfold weightF
  have h1 := List.mem_range.1 hi
  exact bq_neg (hA _ (Nat.le_refl _) (2 * n + i) (by unfold wdt; omega))
end
def Found (e n : Nat) (l : List BQ) (goal : List Rat) : (Rat × List Rat × List Rat) ⊕ Nat → Prop
  | .inl (v, p, w) => Optim n l goal v p w ∧ (∀ x ∈ p, Bq e x) ∧ (∀ x ∈ w, Bq e x) ∧ ∃ A b, Inv n l.length (laidA n l) A b ∧ v = - zc l.length A b (goalF n goal) (wdt n l.length)
  | .inr k => (k = 6 ∧ ∃ w, Contra n l w) ∨ (k = 14 ∧ NoEnd n l goal)
theorem most_end {n e : Nat} {l : List BQ} {goal : List Rat} {Q : Rat} (hc : Szd n l.length (laidA n l) (goalF n goal) Q) (hF : Fits n l.length Q e) (hg : ∀ x ∈ goal, Bq e x) (he : 1 ≤ e) :
    ∃ f r, mostT e f n l goal = some r ∧ Found e n l goal r := by
  have L := laid_of n l
  obtain ⟨f1, ok, T, h1, h2, h3, _⟩ := ready_end hc hF
  cases ok with
  | false =>
    obtain ⟨a1, a2⟩ := h2 rfl
    refine ⟨f1, .inr 6, ?_, Or.inl ⟨rfl, _, contra_of a1 a2⟩⟩
    have := h1 0
    rw [Nat.add_zero] at this
    unfold mostT
    rw [this]
  | true =>
    obtain ⟨⟨c', R⟩, hf, hna⟩ := h3 rfl
    obtain ⟨F, g1, g2⟩ := aim_end R.inv hc hF hg he l.length (Nat.le_refl _)
    obtain ⟨T3, hT3⟩ : ∃ T3, T3 = tab n l.length (upd T.A l.length (nth ((List.range (wdt n l.length + 1)).map F))) T.b := ⟨_, rfl⟩
    have pA : ∀ j, j < l.length → ∀ k, k ≤ wdt n l.length → T3.A j k = T.A j k := fun j hj k hk => by rw [hT3, tab_A _ _ (by omega) hk, upd_other _ (by omega)]
    have pb : ∀ i, i < l.length → T3.b i = T.b i := fun i hi => by rw [hT3]; exact tab_b _ _ hi
    have R3 : Rep n l.length (laidA n l) T3.A T3.b (goalF n goal) := R.regoal pA pb fun k hk => by
      rw [hT3, tab_A _ _ (Nat.le_refl _) hk, upd_same, nth_range _ (by omega), g2 k hk]
      rfl
    have hna3 : NoArt n l.length T3 := by
      rcases hna with h | ⟨r, a1, a2, a3, a4⟩
      · exact Or.inl fun i hi => by rw [pb i hi]; exact h i hi
      · exact Or.inr ⟨r, a1, by rw [pb r a1]; exact a2, by rw [pA r a1 _ (Nat.le_refl _)]; exact a3, fun k hk => by rw [pA r a1 k (by unfold wdt; omega)]; exact a4 k hk⟩
    obtain ⟨f2, ok2, T4, hcl, hE, hna4⟩ := climb_end (e := e) (ban := some (2 * n + l.length)) L hc hF T3 R3 (fun i hi => by rw [pA i hi _ (Nat.le_refl _)]; exact hf i hi) (NoArt n l.length) hna3 (fun _ _ _ hp _ _ s => noart_step hp s)
    have hA4 : ∀ j, j ≤ l.length → ∀ k, k ≤ wdt n l.length → Bq e (T4.A j k) := fun j hj k hk => hE.rep.small L hc hF hj hk
    have hpb : ∀ x ∈ (List.range n).map (M.pointF n l.length T4.A T4.b), Bq e x := fun x hx => by
      obtain ⟨k, hk, rfl⟩ := List.mem_map.1 hx
      exact point_bq hE.rep.inv hA4 he (List.mem_range.1 hk)
    have hsp : smallL e ((List.range n).map (M.pointF n l.length T4.A T4.b)) = true := by
      unfold smallL
      rw [List.all_eq_true]
      exact fun x hx => bq_small (hpb x hx)
    have hm : mostT e (f1 + f2) n l goal = if ok2 = true then some (.inl (dotP goal ((List.range n).map (M.pointF n l.length T4.A T4.b)) n, (List.range n).map (M.pointF n l.length T4.A T4.b), (List.range l.length).map (weightF n l.length T4.A))) else some (.inr 14) := by
      have hcl1 := hcl f1
      rw [show f2 + f1 = f1 + f2 by omega] at hcl1
      unfold mostT
      rw [h1 f2]
      simp only
      rw [g1]
      simp only
      rw [wd1, ← hT3, hcl1]
      simp only
      rw [if_pos hsp]
    cases ok2 with
    | true =>
      refine ⟨_, _, hm, optim_of hE hna4, hpb, weight_bq hA4, T4.A, T4.b, hE.rep.inv, ?_⟩
      have hD : goalF n goal (wdt n l.length) = 0 := by unfold goalF wdt; rw [if_neg (by omega), if_neg (by omega)]
      have h5 := hE.rep.pt.2
      rw [point_goal hE.rep.inv, ← hE.rep.goal (Nat.le_refl _)]
      rw [hD] at h5
      grind
    | false => exact ⟨_, _, hm, Or.inr ⟨rfl, noend_of hE hna4⟩⟩
end Sx
end Go.Proofs.YtellemlhhlafcaaGreatDoor
end
