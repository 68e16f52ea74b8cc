/-
  The text of the greatest value has at most 299 characters, plain, for few bounds with short numbers.
  Chapter 5's laws: 'Implied' of the program, 'right' of the laws.
  Chapter 5's laws: ProgramShrinks.
  Chapter 5's laws: ProgramShrinks, joined.
-/
import Derived.Test.YtfonphlcfkkgaaaGreatDoorKU
section
namespace Go.Proofs.YtfonphlcfkkgaaaGreatDoor
open Go
namespace Sx
open M
/-- A row of k short numbers has a common denominator. -/
theorem row_few {m : Nat} (x : Nat → Rat) (h : ∀ r, r < m + 1 → Sq (x r)) :
    ∃ σ : Rat, IsI σ ∧ 1 ≤ σ ∧ σ ≤ ((10 ^ (6 * m + 6) : Nat) : Rat) ∧ (∀ r, r < m + 1 → IsI (σ * x r)) ∧ ∀ r, r < m + 1 → ab (σ * x r) ≤ ((10 ^ (6 * m + 8) : Nat) : Rat) := by
  obtain ⟨σ, h1, h2, h3, h4, h5⟩ := col_short x (fun _ => ((10 ^ 6 : Nat) : Rat)) (((10 ^ (6 * m + 8) : Nat)) : Rat) (fun r hr => sq_cast (h r hr)) fun r hr => by
    rw [pf_upd6 hr, ← Rat.natCast_mul, ← Nat.pow_add, Nat.add_comm]; exact Rat.le_refl
  refine ⟨σ, h1, h2, ?_, h4, h5⟩
  rw [pf_cast, ← Nat.pow_mul, show 6 * (m + 1) = 6 * m + 6 by omega] at h3
  exact h3
theorem lenA : ∀ n, n < 4 → ∀ m, m < 10 → (n = 3 → m < 8) → ((m + 1) * 10 ^ (6 * n + 8)) ^ n * ((m + 1) * 10 ^ (6 * n + 8)) * ((m + 1) * 10 ^ (6 * n + 8)) < 10 ^ 135 := by decide +kernel
theorem lenB : ∀ n, n < 9 → ∀ m, m < 2 → ((m + 1) * 10 ^ (6 * n + 8)) ^ m * ((m + 1) * 10 ^ (6 * n + 8)) < 10 ^ 113 := by decide +kernel
theorem value_few {n : Nat} {l : List BQ} {goal : List Rat} {A : Mx} {b : Nat → Nat} (hr : RightS n l) (hg : ∀ x ∈ goal, Sq x) (hf : FewS n l.length) (h : Inv n l.length (laidA n l) A b) {v : Rat} (hv : v = - zc l.length A b (goalF n goal) (wdt n l.length)) :
    ∃ a d, v.num.natAbs < 10 ^ a ∧ v.den < 10 ^ d ∧ 1 ≤ a ∧ 1 ≤ d ∧ a + d ≤ 290 := by
  obtain ⟨f1, f2, f3, f4⟩ := hf
  obtain ⟨n', rfl⟩ : ∃ n', n = n' + 1 := ⟨n - 1, by omega⟩
  -- the rows' denominators, and the goal's
  have hrow : ∀ i, i < l.length → ∃ σ : Rat, IsI σ ∧ 1 ≤ σ ∧ σ ≤ ((10 ^ (6 * (n' + 1) + 6) : Nat) : Rat) ∧ (∀ r, r < n' + 1 + 1 → IsI (σ * (fun k => if k < n' + 1 then nth (l.getD i ([], 0)).1 k else (l.getD i ([], 0)).2) r)) ∧
      ∀ r, r < n' + 1 + 1 → ab (σ * (fun k => if k < n' + 1 then nth (l.getD i ([], 0)).1 k else (l.getD i ([], 0)).2) r) ≤ ((10 ^ (6 * (n' + 1) + 8) : Nat) : Rat) := fun i hi =>
    row_few _ fun r _ => by
      have hb := hr _ (getD_mem hi)
      show Sq (if r < n' + 1 then nth (l.getD i ([], 0)).1 r else (l.getD i ([], 0)).2)
      split
      · exact nth_sq hb.2.1 r
      · exact hb.2.2
  obtain ⟨g, g1, g2, g3, g4, g5⟩ := row_few (m := n') (fun k => nth goal k) fun r _ => nth_sq hg r
  obtain ⟨s, hs⟩ : ∃ s : Nat → Rat, ∀ i, i < l.length → IsI (s i) ∧ 1 ≤ s i ∧ s i ≤ ((10 ^ (6 * (n' + 1) + 6) : Nat) : Rat) ∧ (∀ k, k < n' + 1 → IsI (s i * nth (l.getD i ([], 0)).1 k) ∧ ab (s i * nth (l.getD i ([], 0)).1 k) ≤ ((10 ^ (6 * (n' + 1) + 8) : Nat) : Rat)) ∧
      IsI (s i * (l.getD i ([], 0)).2) ∧ ab (s i * (l.getD i ([], 0)).2) ≤ ((10 ^ (6 * (n' + 1) + 8) : Nat) : Rat) := by
    refine ⟨fun i => if hi : i < l.length then (hrow i hi).choose else 1, fun i hi => ?_⟩
    simp only [dif_pos hi]
    obtain ⟨a1, a2, a3, a4, a5⟩ := (hrow i hi).choose_spec
    refine ⟨a1, a2, a3, fun k hk => ?_, ?_, ?_⟩
    · have b1 := a4 k (by omega)
      have b2 := a5 k (by omega)
      simp only [if_pos hk] at b1 b2
      exact ⟨b1, b2⟩
    · have b1 := a4 (n' + 1) (by omega)
      simp only [Nat.lt_irrefl, if_false] at b1
      exact b1
    · have b2 := a5 (n' + 1) (by omega)
      simp only [Nat.lt_irrefl, if_false] at b2
      exact b2
  obtain ⟨K, hK⟩ : ∃ K, K = 10 ^ (6 * (n' + 1) + 8) := ⟨_, rfl⟩
  have hK1 : 1 ≤ K := by rw [hK]; exact Nat.pow_pos (by decide)
  obtain ⟨Q, hQ⟩ : ∃ Q, Q = (l.length + 1) * K := ⟨_, rfl⟩
  have hQ1 : 1 ≤ Q := by rw [hQ]; exact Nat.mul_pos (by omega) hK1
  obtain ⟨a, ha, had⟩ : ∃ a, 1 ≤ a ∧ (Q ^ (n' + 1) * Q * Q < 10 ^ a ∨ Q ^ l.length * Q < 10 ^ a) ∧ 2 * a + (6 * n' + 6) ≤ 290 := by
    rw [hQ, hK]
    by_cases hm : l.length ≤ 1
    · exact ⟨113, by decide, Or.inr (lenB _ (by omega) _ (by omega)), by omega⟩
    · exact ⟨135, by decide, Or.inl (lenA _ (by omega) _ (by omega) (by omega)), by omega⟩
  have hgoal : ∀ k, (k < 2 * (n' + 1) ∨ 2 * (n' + 1) + l.length ≤ k) → IsI (g * goalF (n' + 1) goal k) ∧ ab (g * goalF (n' + 1) goal k) ≤ (K : Rat) := fun k _ => by
    have c1 : ∀ k, k < n' + 1 → IsI (g * nth goal k) ∧ ab (g * nth goal k) ≤ (K : Rat) := fun k hk =>
      ⟨g4 k hk, Rat.le_trans (g5 k hk) (Rat.natCast_le_natCast.2 (by rw [hK]; exact Nat.pow_le_pow_right (by decide) (by omega)))⟩
    unfold goalF
    split
    · exact c1 k (by assumption)
    · split
      · obtain ⟨⟨z, hz⟩, c3⟩ := c1 (k - (n' + 1)) (by omega)
        have e : g * - nth goal (k - (n' + 1)) = - (g * nth goal (k - (n' + 1))) := by grind
        rw [e]
        refine ⟨⟨-z, by rw [hz, Rat.intCast_neg]⟩, ?_⟩
        rw [ab_neg]; exact c3
      · rw [Rat.mul_zero]
        refine ⟨⟨0, rfl⟩, ?_⟩
        have : ab 0 = 0 := by decide +kernel
        rw [this]; exact Rat.natCast_nonneg
  have hrow2 : ∀ k, (k < 2 * (n' + 1) ∨ 2 * (n' + 1) + l.length ≤ k) → k ≤ wdt (n' + 1) l.length → ∀ i, i < l.length → IsI (s i * laidA (n' + 1) l i k) ∧ ab (s i * laidA (n' + 1) l i k) ≤ (K : Rat) := fun k hk hk2 i hi => by
    obtain ⟨a1, a2, a3, a4, a5, a6⟩ := hs i hi
    rw [← hK] at a6 a4
    unfold laidA
    unfold wdt at hk2 ⊢
    rw [if_pos hi]
    split
    · exact a4 k (by assumption)
    · split
      · obtain ⟨⟨z, hz⟩, c3⟩ := a4 (k - (n' + 1)) (by omega)
        have e : s i * - nth (l.getD i ([], 0)).1 (k - (n' + 1)) = - (s i * nth (l.getD i ([], 0)).1 (k - (n' + 1))) := by grind
        rw [e]
        refine ⟨⟨-z, by rw [hz, Rat.intCast_neg]⟩, ?_⟩
        rw [ab_neg]; exact c3
      · rw [if_neg (by omega)]
        by_cases h2 : k = 2 * (n' + 1) + l.length
        · rw [if_pos (by omega)]
          have e : s i * -1 = - s i := by grind
          rw [e, ab_neg]
          obtain ⟨z, hz⟩ := a1
          refine ⟨⟨-z, by rw [hz, Rat.intCast_neg]⟩, ?_⟩
          have e2 : ab (s i) = s i := by unfold ab; rw [if_pos (by grind)]
          rw [e2]
          exact Rat.le_trans a3 (Rat.natCast_le_natCast.2 (by rw [hK]; exact Nat.pow_le_pow_right (by decide) (by omega)))
        · rw [if_neg (by omega), if_pos (by omega)]
          exact ⟨a5, a6⟩
  have hpart := value_parts (a := a) (s := s) (g := g) (Q := (Q : Rat)) (laid_of (n' + 1) l) h (c := goalF (n' + 1) goal) (fun j _ => by unfold goalF; rw [if_neg (by omega), if_neg (by omega)]) g1 g2 (fun i hi => ⟨(hs i hi).2.1, (hs i hi).1⟩)
    (Rat.natCast_le_natCast.2 hQ1) (fun k hk hk2 => by
      refine ⟨fun i hi => (hrow2 k hk hk2 i hi).1, (hgoal k hk).1, ?_⟩
      have h1 : sm l.length (fun i => ab (s i * laidA (n' + 1) l i k)) ≤ sm l.length (fun _ => (K : Rat)) := sm_le fun i hi => (hrow2 k hk hk2 i hi).2
      rw [sm_const] at h1
      have h2 := (hgoal k hk).2
      rw [hQ, Rat.natCast_mul, Rat.natCast_add, show ((1 : Nat) : Rat) = 1 from rfl]
      grind)
    (by
      rw [pf_cast, pf_cast, ← Rat.natCast_mul, ← Rat.natCast_mul, ← Rat.natCast_mul]
      rcases had.1 with h2 | h2
      · exact Or.inl (Rat.natCast_lt_natCast.2 h2)
      · exact Or.inr (Rat.natCast_lt_natCast.2 h2))
  obtain ⟨y, hy⟩ : ∃ y, y = g * zc l.length A b (goalF (n' + 1) goal) (wdt (n' + 1) l.length) := ⟨_, rfl⟩
  rw [← hy] at hpart
  have hg0 : g ≠ 0 := fun e => by rw [e] at g2; exact absurd g2 (by decide +kernel)
  have hden := num_den y
  have hdp : (0 : Rat) < (y.den : Rat) := Rat.natCast_pos.2 y.den_pos
  have hgp : 0 < g := by grind
  have hfin := frac_parts (y := v) (P := - (y.num : Rat)) (Q := g * (y.den : Rat)) (a := 10 ^ a) (d := 10 ^ (a + (6 * n' + 6))) ⟨- y.num, (Rat.intCast_neg _).symm⟩ (g1.mul ⟨(y.den : Int), rfl⟩)
    (fun e => by
      rcases Rat.mul_eq_zero.1 e with e | e
      · exact hg0 e
      · rw [e] at hdp; exact Rat.lt_irrefl hdp)
    (by rw [← hden, hv]; have : g * zc l.length A b (goalF (n' + 1) goal) (wdt (n' + 1) l.length) = y := hy.symm; grind)
    (by rw [ab_neg, ab_int]; exact Rat.natCast_lt_natCast.2 hpart.1)
    (by
      rw [ab_mul]
      have e1 : ab g = g := by unfold ab; rw [if_pos (by grind)]
      have e2 : ab (y.den : Rat) = (y.den : Rat) := by unfold ab; rw [if_pos (by grind)]
      rw [e1, e2]
      have h1 : (y.den : Rat) < ((10 ^ a : Nat) : Rat) := Rat.natCast_lt_natCast.2 hpart.2
      have h2 := Rat.mul_lt_mul_of_pos_left h1 hgp
      have h3 := Rat.mul_le_mul_of_nonneg_right g3 (show (0 : Rat) ≤ ((10 ^ a : Nat) : Rat) from Rat.natCast_nonneg)
      rw [← Rat.natCast_mul, ← Nat.pow_add, Nat.add_comm] at h3
      grind)
  exact ⟨a, a + (6 * n' + 6), hfin.1, hfin.2, ha, by omega, by omega⟩
end Sx
end Go.Proofs.YtfonphlcfkkgaaaGreatDoor
end
section
namespace Go.Proofs.YtfonphlcfkkgaaaGreatDoor
open Go Go.RowKit Go.Deep Go.Sort
namespace W
open M Sx
attribute [local go_sem] bs_size bs_toList bs_get bs_extract bs_append bs_lit0 bs_lit1 lit1_bs
set_option maxHeartbeats 1000000
set_option maxRecDepth 20000
/-- What 'Implied' reports. -/
def impB (r : (Rat × List Rat × List Rat) ⊕ Nat) (q : Rat) : Bool := match r with
  | .inl (v, _, _) => decide (v ≤ q)
  | .inr k => k == 6
/-- The greatest value is not long. -/
theorem found_value {n e : Nat} {l : List BQ} {goal : List Rat} {v : Rat} {p w : List Rat} (hr : RightS n l) (hg : ∀ x ∈ goal, Sq x) (hf : FewS n l.length) (h : Sx.Found e n l goal (.inl (v, p, w))) : (∃ k, k ≤ 290 ∧ Bq k v) ∧ (R v).length ≤ 299 := by
  obtain ⟨_, _, _, A, b, hi, hv⟩ := h
  obtain ⟨a, d, h1, h2, h3, h4, h5⟩ := value_few hr hg hf hi hv
  refine ⟨⟨a + d, h5, Nat.lt_of_lt_of_le h1 (Nat.pow_le_pow_right (by decide) (by omega)), Nat.lt_of_lt_of_le h2 (Nat.pow_le_pow_right (by decide) (by omega))⟩, ?_⟩
  have l1 := I_le h1 h3
  have l2 := I_le (z := (v.den : Int)) (k := d) (by rw [Int.natAbs_natCast]; exact h2) h4
  unfold R
  split
  · omega
  · rw [List.length_append, List.length_cons]
    omega
theorem pimplied {n : Nat} {l : List BQ} {bb : BQ} (hr : RightS n l) (hb : RightS n [bb]) (hf : FewS n l.length) (hl1 : 1 ≤ l.length) :
    ∃ e r, Sx.Found e n l bb.1 r ∧ ∀ (vl u : Value) (w : World), Glob w → RdB w vl (bx l) → RdT w u (rx bb.1) → Shp u →
      Calls Tryz.prog 28 #[.int .i64 (n : Int), vl, .agg #[u, .string (bs (R bb.2))]] w (Ret w (.tuple #[.bool (impB r bb.2), .int .i64 0])) := by
  have hbb := hb bb List.mem_cons_self
  obtain ⟨e, r, hfo, hmo⟩ := pmost_found hr hbb.1 hbb.2.1 hf hl1
  refine ⟨e, r, hfo, fun vl u w hg hl hu hsu => ?_⟩
  have hb0 : Below w.heap.size w (w.alloc (.cells #[u, .string (bs (R bb.2))] 33 (0, 0))) := bel_alloc (Below.refl _ _) _
  have hrow : Row (w.alloc (.cells #[u, .string (bs (R bb.2))] 33 (0, 0))) w.heap.size 33 [u, .string (bs (R bb.2))] := rnw
  have hck := fun W (hW : Below w.heap.size w W) => pcheck5 (n : Int) vl (bx l) W (hg.of hW) (hl.below hW) (by rw [bx_len]; unfold maxLen; have := hf.2.2.1; omega) (fun _ => bx_small hf.2.1 hr.right)
  rw [chk5_ok hf.1 hf.2.1 (by have := hf.2.2.1; omega) hr.right] at hck
  have HC := Lib.hid hck
  have hck2 := fun W (hW : Below w.heap.size w W) => pcheck5 (n : Int) (.slice (some ⟨W.heap.size, 0, none⟩) 1 1) (bx [bb]) (W.alloc (.cells #[u, .string (bs (R bb.2))] 33 (0, 0))) (hg.of (bel_alloc hW _))
    (rdb1 (b0 := (rx bb.1, R bb.2)) rnw (hu.below (bel_alloc hW _)) hsu) (by rw [bx_len]; unfold maxLen; simp) (fun _ => bx_small hf.2.1 hb.right)
  rw [chk5_ok hf.1 hf.2.1 (by simp) hb.right] at hck2
  have HC2 := Lib.hid hck2
  have HM := Lib.hid (fun W (hW : Below w.heap.size w W) => hmo vl u W (hg.of hW) (hl.below hW) (hu.below hW))
  have HG := Lib.hid hg
  have HR := Lib.hid (And.intro hrow hb0)
  have hbq := hbb.2.2.bq
  have HCP : Hid (∀ v p q W, r = .inl (v, p, q) → Below w.heap.size w W → Calls Tryz.prog 48 #[.string (bs (R v)), .string (bs (R bb.2))] W (Ret W (.tuple #[.int .i64 (cmpQ v bb.2), .int .i64 0]))) := Lib.hid (fun v p q W e hW => by
    subst e
    obtain ⟨k, hk, hkb⟩ := (found_value hr hbb.2.1 hf hfo).1
    exact ratCompare v bb.2 k 8 W (hg.of hW) hkb hbq (by omega))
  have HFO := Lib.hid hfo
  obtain ⟨ib, hib⟩ : ∃ ib, ib = impB r bb.2 := ⟨_, rfl⟩
  rw [← hib]
  have HIB := Lib.hid hib
  obtain ⟨Al, cl, rfl⟩ := hl.len
  obtain ⟨Au, cu, rfl⟩ := hu.len
  clear hb0 hrow hck hck2 hmo hg hl hu hsu hfo hbq hbb hr hb hf hl1 hib
  rw [bx_len] at HC HM ⊢
  generalize (rx bb.1).length = lu at *
  go_enter Tryz.func28, Tryz.ntmps28
  go_wp2_with fail
  refine (HC.out _ HR.out.2).mono ?_
  rintro e w1 ⟨rfl, hb1⟩
  have H1 := Lib.hid (And.intro (HR.out.1.below' hb1) (bel_to HR.out.2 hb1))
  have x0 := H1.out.1.cell (i := 0) rfl
  have x1 := H1.out.1.cell (i := 1) rfl
  clear hb1 HR HC
  go_wp2_with fail
  refine (HC2.out w1 H1.out.2).mono ?_
  rintro e w2 ⟨rfl, hb2⟩
  have HA := Lib.hid (bel_alloc (Below.refl w1.heap.size w1) (.cells #[.slice Au lu cu, .string (bs (R bb.2))] 33 (0, 0)))
  have H2 := Lib.hid (And.intro (H1.out.1.below' (HA.out.trans (hb2.mono HA.out.size))) (bel_to H1.out.2 (HA.out.trans (hb2.mono HA.out.size))))
  clear hb2 HA H1 HC2 x0 x1
  have x0 := H2.out.1.cell (i := 0) rfl
  have x1 := H2.out.1.cell (i := 1) rfl
  go_wp2_with fail
  refine (HM.out w2 H2.out.2).mono ?_
  intro e3 w3 hm
  cases r with
  | inl s =>
    obtain ⟨v, p, q⟩ := s
    obtain ⟨v1, v2, rfl, _, _, hb3⟩ := hm
    have H3 := Lib.hid (And.intro (H2.out.1.below' hb3) (bel_to H2.out.2 hb3))
    clear hb3 H2 HM x0 x1
    have x0 := H3.out.1.cell (i := 0) rfl
    have x1 := H3.out.1.cell (i := 1) rfl
    have hd : decide (cmpQ v bb.2 ≤ 0) = decide (v ≤ bb.2) := by simp only [cmpQ_le5]
    have HI := Lib.hid (show ib = decide (cmpQ v bb.2 ≤ 0) by rw [HIB.out, hd]; rfl)
    have HX := Lib.hid (HCP.out v p q w3 rfl H3.out.2)
    clear HCP HFO HIB hd
    generalize cmpQ v bb.2 = cm at *
    generalize R v = sv at *
    generalize R bb.2 = sb at *
    go_wp2_with fail
    refine (HX.out).mono ?_
    rintro e w4 ⟨rfl, hb4⟩
    have hb4' := bel_to H3.out.2 hb4
    clear hb4 H3 HX x0 x1
    go_wp2
    refine bodyPost_ret (v := .tuple #[.bool (decide (cm ≤ 0)), .int .i64 0]) (by simp [results, Tryz.results28, go_sem]) rfl ⟨by rw [HI.out], hb4'⟩
  | inr k =>
    obtain ⟨rfl, hb3⟩ := hm
    have H3 := Lib.hid (bel_to H2.out.2 hb3)
    clear hb3 H2 HM x0 x1 HCP
    rcases HFO.out with ⟨rfl, _⟩ | ⟨rfl, _⟩
    · clear HFO
      go_wp2
      refine bodyPost_ret (v := .tuple #[.bool true, .int .i64 0]) (by simp [results, Tryz.results28, go_sem]) rfl ⟨by rw [HIB.out]; rfl, H3.out⟩
    · clear HFO
      go_wp2
      refine bodyPost_ret (v := .tuple #[.bool false, .int .i64 0]) (by simp [results, Tryz.results28, go_sem]) rfl ⟨by rw [HIB.out]; rfl, H3.out⟩
/-- Few right bounds. -/
noncomputable def rightV (n : Int) (l : List BT) : Bool := few5 n l && decide (chk5 n l = 0)
theorem rright (n : Int) (vl : Value) (l : List BT) (w : World) (hl : RdB w vl l) (hn : l.length ≤ maxLen) (hs : ∀ b ∈ l, b.1.length ≤ maxLen ∧ (∀ p ∈ b.1, p.length ≤ maxLen) ∧ b.2.length ≤ maxLen) :
    Calls Tryz.prog 16 #[.int .i64 n, vl] w (Ret w (.bool (rightV n l))) := by
  have HF := Lib.hid (fun W (hW : Below w.heap.size w W) => rfew n vl l W (hl.below hW) hn hs)
  unfold rightV
  obtain ⟨A, cap, hA⟩ := hl.len
  cases hf : few5 n l with
  | false =>
    rw [hf] at HF
    rw [Bool.false_and]
    subst hA
    clear hl hs hn hf
    go_enter Tryz.func16, Tryz.ntmps16
    go_wp2_with fail
    refine (HF.out _ (Below.refl _ _)).mono ?_
    rintro e w1 ⟨rfl, hb1⟩
    go_wp2
    go_ret
    exact Ret.of rfl hb1
  | true =>
    rw [hf] at HF
    rw [Bool.true_and]
    have hw := few_wire hf
    have HK := Lib.hid (fun W (hW : Below w.heap.size w W) => rcheck5 n vl l W (hl.below hW) hw.1 hw.2)
    have hz : ((((chk5 n l : Nat) : Int) == 0)) = decide (chk5 n l = 0) := by
      by_cases h : chk5 n l = 0
      · rw [h]; rfl
      · rw [decide_eq_false h, beq_eq_false_iff_ne]; omega
    rw [← hz]
    subst hA
    clear hl hs hn hf hw hz
    generalize ((chk5 n l : Nat) : Int) = c at *
    go_enter Tryz.func16, Tryz.ntmps16
    go_wp2_with fail
    refine (HF.out _ (Below.refl _ _)).mono ?_
    rintro e w1 ⟨rfl, hb1⟩
    go_wp2_with fail
    refine (HK.out _ hb1).mono ?_
    rintro e w2 ⟨rfl, hb2⟩
    go_wp2
    go_ret
    exact Ret.of rfl (bel_to hb1 hb2)
end W
end Go.Proofs.YtfonphlcfkkgaaaGreatDoor
end
section
namespace Go.Proofs.YtfonphlcfkkgaaaGreatDoor
open Go Go.RowKit Go.Deep Go.Sort
namespace Sx
open M
theorem keeps_more {n : Nat} {l : List BQ} {x : BQ} {p : List Rat} : Keeps n (l ++ [x]) p ↔ Keeps n l p ∧ dotP x.1 p n ≤ x.2 := by
  constructor
  · rintro ⟨h1, h2⟩
    exact ⟨⟨h1, fun b hb => h2 b (List.mem_append_left _ hb)⟩, h2 x (by simp)⟩
  · rintro ⟨⟨h1, h2⟩, h3⟩
    refine ⟨h1, fun b hb => ?_⟩
    rcases List.mem_append.1 hb with hb | hb
    · exact h2 b hb
    · rw [List.mem_singleton.1 hb]; exact h3
/-- The cases of the law. -/
theorem shrink_cases {n e1 e2 e3 : Nat} {b0 : BQ} {t : List BQ} {x : BQ} {r1 r2 r3 : (Rat × List Rat × List Rat) ⊕ Nat} (h1 : Found e1 n (b0 :: t) b0.1 r1) (h2 : Found e2 n (b0 :: t ++ [x]) b0.1 r2) (h3 : Found e3 n (b0 :: t) x.1 r3) :
    (r1 = .inr 6 ∧ r2 = .inr 6 ∧ W.impB r3 x.2 = true) ∨ (∃ v p w, r1 = .inl (v, p, w) ∧ ((r2 = .inr 6 ∧ W.impB r3 x.2 = false) ∨ ∃ u p' w', r2 = .inl (u, p', w') ∧ u ≤ v ∧ (W.impB r3 x.2 = true → u = v))) := by
  have hno : ∀ l, b0 ∈ l → ¬ NoEnd n l b0.1 := fun l hl ⟨p, q, _, _, hq, hp⟩ => by
    have := hq b0 hl
    grind
  rcases h1.cases with ⟨v, p, w, e1, ho⟩ | ⟨e1, w, hw⟩ | ⟨_, hn⟩
  · refine Or.inr ⟨v, p, w, e1, ?_⟩
    rcases h2.cases with ⟨u, p', w', e2, hu⟩ | ⟨e2, z, hz⟩ | ⟨_, hn⟩
    · refine Or.inr ⟨u, p', w', e2, ?_, fun hi => ?_⟩
      · have := ho.le (keeps_more.1 hu.keeps).1
        rw [hu.2.1] at this
        exact this
      · have ha := ho.le (keeps_more.1 hu.keeps).1
        rw [hu.2.1] at ha
        have hp : dotP x.1 p n ≤ x.2 := by
          rcases h3.cases with ⟨s, p3, w3, e3, h3o⟩ | ⟨_, z, hz⟩ | ⟨e3, _⟩
          · rw [e3] at hi
            have hi : s ≤ x.2 := of_decide_eq_true hi
            exact Rat.le_trans (h3o.le ho.keeps) hi
          · exact (keeps_contra ho.keeps hz).elim
          · rw [e3] at hi; cases hi
        have hb := hu.le (keeps_more.2 ⟨ho.keeps, hp⟩)
        rw [ho.2.1] at hb
        exact Rat.le_antisymm ha hb
    · refine Or.inl ⟨e2, ?_⟩
      rcases h3.cases with ⟨s, p3, w3, e3, h3o⟩ | ⟨_, z2, hz2⟩ | ⟨e3, _⟩
      · rw [e3]
        refine decide_eq_false fun hi => ?_
        refine keeps_contra (p := p3) (keeps_more.2 ⟨h3o.keeps, ?_⟩) hz
        rw [h3o.2.1]; exact hi
      · exact (keeps_contra ho.keeps hz2).elim
      · rw [e3]; rfl
    · exact (hno _ (by simp) hn).elim
  · refine Or.inl ⟨e1, ?_, ?_⟩
    · rcases h2.cases with ⟨u, p', w', _, hu⟩ | ⟨e2, _⟩ | ⟨_, hn⟩
      · exact (keeps_contra (keeps_more.1 hu.keeps).1 hw).elim
      · exact e2
      · exact (hno _ (by simp) hn).elim
    · rw [h3.contra hw]; rfl
  · exact (hno _ (by simp) hn).elim
end Sx
namespace W
open M Sx
attribute [local go_sem] bs_size bs_toList bs_get bs_extract bs_append bs_lit0 bs_lit1 lit1_bs
set_option maxHeartbeats 16000000
set_option maxRecDepth 20000
/-- The last case of the law. -/
def FinS (s1 s2 : List UInt8) (ib : Bool) : Prop := ∃ v u : Rat, s1 = R v ∧ s2 = R u ∧ (∃ k, k ≤ 290 ∧ Bq k v) ∧ (∃ k, k ≤ 290 ∧ Bq k u) ∧ (R v).length ≤ 299 ∧ (R u).length ≤ 299 ∧ u ≤ v ∧ (ib = true → u = v)
theorem shrink_right {n : Int} {l : List BT} {b : BT} (h : rightV n (l ++ [b]) = true) : ∃ (k : Nat) (zl : List BQ) (x : BQ), n = (k : Int) ∧ l = bx zl ∧ b = (rx x.1, R x.2) ∧ RightS k (zl ++ [x]) ∧ FewS k (zl.length + 1) := by
  unfold rightV at h
  rw [Bool.and_eq_true, decide_eq_true_eq] at h
  obtain ⟨k, z, rfl, e, h1, h2⟩ := few_rightS h.1 h.2
  obtain ⟨a, c, rfl, ea, ec⟩ := List.map_eq_append_iff.1 e.symm
  obtain ⟨x, rfl, ex⟩ := List.map_eq_singleton_iff.1 ec
  refine ⟨k, a, x, rfl, ea.symm, ex.symm, h1, ?_⟩
  simpa using h2
theorem R_pos (q : Rat) : 0 < (R q).length := by
  have h2 := D_le_I q.num
  have h4 : (D q.num.natAbs).length ≠ 0 := fun h4 => D_ne _ (List.eq_nil_of_length_eq_zero h4)
  unfold R
  split
  · omega
  · rw [List.length_append]; omega
theorem few_mono {n m m' : Nat} (h : FewS n m) (h2 : m' ≤ m) : FewS n m' := by
  obtain ⟨h1, h3, h4, h5⟩ := h
  exact ⟨h1, h3, by omega, by omega⟩
/-- What 'Most' returns, in short. -/
def mS (r : (Rat × List Rat × List Rat) ⊕ Nat) : List UInt8 := match r with
  | .inl (v, _, _) => R v
  | .inr _ => []
def mC (r : (Rat × List Rat × List Rat) ⊕ Nat) : Int := match r with
  | .inl _ => 0
  | .inr k => (k : Int)
theorem mostS {W : World} {r : (Rat × List Rat × List Rat) ⊕ Nat} {e : Ending} {w' : World} (h : MostP W r e w') : ∃ v1 v2, e = .returned (.tuple #[.string (bs (mS r)), v1, v2, .int .i64 (mC r)]) ∧ Below W.heap.size W w' := by
  cases r with
  | inl s => obtain ⟨v, p, q⟩ := s; obtain ⟨v1, v2, e, _, _, hb⟩ := h; exact ⟨v1, v2, e, hb⟩
  | inr k => exact ⟨_, _, h.1, h.2⟩
theorem shrinks_some (n : Int) (vl u : Value) (l : List BT) (b : BT) (w : World) (hg : Glob w) (hl : RdB w vl l) (hsv : Shp vl) (hu : RdT w u b.1) (hsu : Shp u)
    (nl : l.length * 40 ≤ 140737488351232) (sl : ∀ x ∈ l ++ [b], x.1.length ≤ maxLen ∧ (∀ p ∈ x.1, p.length ≤ maxLen) ∧ x.2.length ≤ maxLen) (hrt : rightV n (l ++ [b]) = true) (hzl : l ≠ []) :
    Calls Tryz.prog 6 #[.int .i64 n, vl, .agg #[u, .string (bs b.2)]] w (Ret w (.bool true)) := by
  obtain ⟨es, he, hge, hse⟩ := RdB.src hl hsv
  have hb0 : Below w.heap.size w (w.alloc (.cells #[u, .string (bs b.2)] 33 (0, 0))) := bel_alloc (Below.refl _ _) _
  have hrow : Row (w.alloc (.cells #[u, .string (bs b.2)] 33 (0, 0))) w.heap.size 33 [u, .string (bs b.2)] := rnw
  obtain ⟨Al, cl, rfl⟩ := hl.len
  obtain ⟨Au, cu, rfl⟩ := hu.len
  obtain ⟨rb, sb⟩ := b
  simp only at *
  have hle : l.length = es.length := by rw [he]; simp
  have HSE := Lib.hid (And.intro hse (And.intro hge (And.intro hu hsu)))
  have HLE := Lib.hid (show es.length * 40 ≤ 140737488351232 by omega)
  have HG := Lib.hid hg
  have HL := Lib.hid hl
  have HAW := Lib.hid (fun W hW => awake5 W hW)
  have HRW := Lib.hid hrow
  have HBW := Lib.hid hb0
  have hnl : l.length + 1 ≤ maxLen := by unfold maxLen; omega
  have HRT := Lib.hid (fun v E (hv : RdB E v (l ++ [(rb, sb)])) => rright n v (l ++ [(rb, sb)]) E hv (by simp; exact hnl) sl)
  have HEL := Lib.hid he
  obtain ⟨le, hle2⟩ : ∃ le, le = l.length := ⟨_, rfl⟩
  obtain ⟨lu, hlu⟩ : ∃ lu, lu = rb.length := ⟨_, rfl⟩
  rw [← hle2] at HSE HL ⊢
  rw [← hlu] at HSE HRW HBW ⊢
  have HLL := Lib.hid hle2
  have HLU := Lib.hid hlu
  clear hg hl hsv hu hsu nl sl hge hse hb0 hrow hle hnl he hle2 hlu
  obtain ⟨bx0, hbx⟩ : ∃ bx0, bx0 = w.heap.size := ⟨_, rfl⟩
  rw [hrt] at HRT
  have HRT0 := HRT
  clear HRT
  obtain ⟨k, zl, x, rfl, hlz, hbz, hrs, hfs⟩ := shrink_right hrt
  clear hrt
  have hz : zl ≠ [] := fun e => hzl (by rw [hlz, e]; rfl)
  clear hzl
  have hlp : 0 < zl.length := List.length_pos_iff.2 hz
  have hllen : l.length = zl.length := by rw [hlz, bx_len]
  have hgl : ∃ b1 o1 ug, Al = some ⟨b1, o1, none⟩ ∧ w.cell? ⟨b1, o1, none⟩ = some ug ∧ RdT w ug (rx zl[0].1) ∧ Shp ug := by
    have h := HL.out
    rw [hlz] at h
    obtain ⟨b1, o1, rfl, hw⟩ := h.row 0 (by rw [bx_len]; exact hlp)
    obtain ⟨ug, h1, h2, h3, _⟩ := bound_at hw 0 hlp
    exact ⟨b1, o1, ug, rfl, by simpa using h1, h2, h3⟩
  obtain ⟨b1, o1, ug, rfl, hc1, hug, _⟩ := hgl
  have hr1 : RightS k zl := fun b hb => hrs b (List.mem_append_left _ hb)
  have hrx : RightS k [x] := fun b hb => hrs b (List.mem_append_right _ hb)
  have h0 := hr1 zl[0] (List.getElem_mem hlp)
  obtain ⟨e1, r1, f1, m1⟩ := pmost_found hr1 h0.1 h0.2.1 (few_mono hfs (Nat.le_succ _)) hlp
  obtain ⟨e2, r2, f2, m2⟩ := pmost_found hrs h0.1 h0.2.1 (by simpa using hfs) (by simp)
  obtain ⟨e3, r3, f3, m3⟩ := pimplied hr1 hrx (few_mono hfs (Nat.le_succ _)) hlp
  have hcs : (r1 = .inr 6 ∧ r2 = .inr 6 ∧ impB r3 x.2 = true) ∨ (∃ v p w, r1 = .inl (v, p, w) ∧ ((r2 = .inr 6 ∧ impB r3 x.2 = false) ∨ ∃ u p' w', r2 = .inl (u, p', w') ∧ u ≤ v ∧ (impB r3 x.2 = true → u = v))) := by
    obtain ⟨c, t, rfl⟩ : ∃ c t, zl = c :: t := by
      cases zl with
      | nil => exact absurd rfl hz
      | cons c t => exact ⟨c, t, rfl⟩
    exact shrink_cases f1 f2 f3
  have hv1 := fun v p q (e : r1 = .inl (v, p, q)) => found_value hr1 h0.2.1 (few_mono hfs (Nat.le_succ _)) (e ▸ f1)
  have hv2 := fun v p q (e : r2 = .inl (v, p, q)) => found_value hrs h0.2.1 (by simpa using hfs) (e ▸ f2)
  have hmS1 := fun vl vg W a b c => (m1 vl vg W a b c).mono fun e w' h => mostS h
  have hmS2 := fun vl vg W a b c => (m2 vl vg W a b c).mono fun e w' h => mostS h
  obtain ⟨c1, hc1e⟩ : ∃ c1 : Int, c1 = mC r1 := ⟨_, rfl⟩
  obtain ⟨c2, hc2e⟩ : ∃ c2 : Int, c2 = mC r2 := ⟨_, rfl⟩
  obtain ⟨s1, hs1e⟩ : ∃ s1 : List UInt8, s1 = mS r1 := ⟨_, rfl⟩
  obtain ⟨s2, hs2e⟩ : ∃ s2 : List UInt8, s2 = mS r2 := ⟨_, rfl⟩
  obtain ⟨ib, hib⟩ : ∃ ib, ib = impB r3 x.2 := ⟨_, rfl⟩
  rw [← hc1e, ← hs1e] at hmS1
  rw [← hc2e, ← hs2e] at hmS2
  rw [← hib] at m3 hcs
  have hcase : (c1 = 6 ∧ c2 = 6 ∧ ib = true) ∨ (c1 = 0 ∧ c2 = 6 ∧ ib = false) ∨ (c1 = 0 ∧ c2 = 0 ∧ FinS s1 s2 ib) := by
    rcases hcs with ⟨e1, e2, h⟩ | ⟨v, p, q, e1, ⟨e2, h⟩ | ⟨u, p', q', e2, h, h'⟩⟩
    · subst e1; subst e2; exact Or.inl ⟨hc1e, hc2e, h⟩
    · subst e1; subst e2; exact Or.inr (Or.inl ⟨hc1e, hc2e, h⟩)
    · subst e1; subst e2
      exact Or.inr (Or.inr ⟨hc1e, hc2e, v, u, hs1e, hs2e, (hv1 _ _ _ rfl).1, (hv2 _ _ _ rfl).1, (hv1 _ _ _ rfl).2, (hv2 _ _ _ rfl).2, h, h'⟩)
  obtain ⟨hxr, hxs⟩ := Prod.ext_iff.1 hbz
  simp only at hxr hxs
  subst hxs
  obtain ⟨g0, hg0⟩ : ∃ g0, g0 = rx zl[0].1 := ⟨_, rfl⟩
  rw [← hg0] at hug hmS1 hmS2
  have hmore : l ++ [(rb, R x.2)] = bx (zl ++ [x]) := by rw [hlz, hxr]; simp [bx]
  have HMORE := Lib.hid hmore
  have HLZ := Lib.hid hlz
  have HXX := Lib.hid hxr
  have HC1 := Lib.hid hc1
  have HUG := Lib.hid hug
  have HM1 := Lib.hid hmS1
  have HM2 := Lib.hid hmS2
  have HM3 := Lib.hid m3
  have HCASE := Lib.hid hcase
  have hz0 : (((le : Nat) : Int) == 0) = false := by rw [beq_eq_false_iff_ne, HLL.out]; omega
  have hpos : 0 < le := by rw [HLL.out]; omega
  have hposI : (0 : Int) < ((le : Nat) : Int) := by omega
  clear hmore hlz hxr hc1 hug hmS1 hmS2 m1 m2 m3 hcs hcase hv1 hv2 f1 f2 f3 h0 hr1 hrx hrs hfs hlp hllen hz hc1e hc2e hs1e hs2e hib hbz hg0
  go_enter Tryz.func6, Tryz.ntmps6
  go_wp2_with fail
  obtain ⟨sb, hsb⟩ : ∃ sb, sb = R x.2 := ⟨_, rfl⟩
  rw [← hsb] at HRW HBW HRT0 HMORE HM3 ⊢
  have HSB := Lib.hid hsb
  obtain ⟨W, hW⟩ : ∃ W, W = w.alloc (.cells #[.slice Au lu cu, .string (bs sb)] 33 (0, 0)) := ⟨_, rfl⟩
  rw [← hW] at HRW HBW ⊢
  rw [← hbx] at HRW ⊢
  clear hW hbx hsb
  have HCX := Lib.hid (fun E (hE : Below W.heap.size W E) => (by
    have h := HRW.out.below' hE
    exact ⟨h.cell rfl, h.cell rfl⟩ : E.cell? ⟨bx0, 0, none⟩ = some (.slice Au lu cu) ∧ E.cell? ⟨bx0, 1, none⟩ = some (.string (bs sb))))
  have HCN := Lib.hid (fun E (hE : Below W.heap.size W E) => pcloneB (.slice (some ⟨b1, o1, none⟩) le cl) es E (HSE.out.1.below (bel_to HBW.out hE)) (HSE.out.2.1.below (bel_to HBW.out hE)) HLE.out)
  have HGE := Lib.hid (fun E (hE : Below W.heap.size W E) => (by
    intro x hx
    rw [List.mem_singleton.1 hx]
    exact ⟨HSE.out.2.2.1.below (bel_to HBW.out hE), HSE.out.2.2.2⟩ : GoodE E [(.slice Au lu cu, (rb, sb))]))
  have HLN := Lib.hid (show (es.length + [((.slice Au lu cu : Value), ((rb, sb) : BT))].length) * 40 ≤ 140737488355328 by simp only [List.length_cons, List.length_nil]; have := HLE.out; omega)
  have HRM := Lib.hid (fun v E (hE : Below W.heap.size W E) (ho : OwnE E W.heap.size v (es ++ [(.slice Au lu cu, (rb, sb))])) => (by
    have h := OwnE.rd ho ((HSE.out.2.1.below (bel_to HBW.out hE)).append (HGE.out E hE))
    rw [List.map_append, List.map_cons, List.map_nil] at h
    exact h : RdB E v (es.map (·.2) ++ [(rb, sb)])))
  have HRT := Lib.hid (fun v E (hE : Below W.heap.size W E) (ho : OwnE E W.heap.size v (es ++ [(.slice Au lu cu, (rb, sb))])) => HRT0.out v E (by have h := HRM.out v E hE ho; rw [← HEL.out] at h; exact h))
  obtain ⟨d0, d1⟩ := HCX.out _ (RowKit.Below.drew (Below.refl W.heap.size W))
  first | (go_region_law (first
    | (go_simp; go_at_call 30; refine (HCN.out _ (RowKit.Below.drew (Below.refl W.heap.size W))).mono ?_; rintro e w1 ⟨v1, rfl, ho1, hb1⟩; have HA1 := Lib.hid (show OwnE w1 W.heap.size v1 es ∧ Below W.heap.size W w1 from ⟨ownsRow_base ho1 (RowKit.Below.drew (Below.refl W.heap.size W)).size, bel_to (RowKit.Below.drew (Below.refl W.heap.size W)) hb1⟩); obtain ⟨d2, d3⟩ := HCX.out _ HA1.out.2)
    | (go_simp; go_at_call 30; refine (HCN.out _ (RowKit.Below.drew ((Below.refl W.heap.size W).alloc (Nat.le_refl _) (Obj.cells #[.slice Au lu cu, .string (bs sb)] 33 (0, 0))))).mono ?_; rintro e w1 ⟨v1, rfl, ho1, hb1⟩; have HA1 := Lib.hid (show OwnE w1 W.heap.size v1 es ∧ Below W.heap.size W w1 from ⟨ownsRow_base ho1 (RowKit.Below.drew ((Below.refl W.heap.size W).alloc (Nat.le_refl _) (Obj.cells #[.slice Au lu cu, .string (bs sb)] 33 (0, 0)))).size, bel_to (RowKit.Below.drew ((Below.refl W.heap.size W).alloc (Nat.le_refl _) (Obj.cells #[.slice Au lu cu, .string (bs sb)] 33 (0, 0)))) hb1⟩); have HXR := Lib.hid (show SrcE w1 (.slice (some ⟨W.heap.size, 0, none⟩) 1 1) [(.slice Au lu cu, (rb, sb))] from ((SrcE.new W (.slice Au lu cu) (rb, sb)).below (RowKit.Below.drew (Below.refl _ _))).below hb1))
    | (refine step_app_e rfl (.tmp 21) (.tmp 23) rfl rfl rfl HA1.out.1 HXR.out (HGE.out w1 HA1.out.2) HA1.out.2.size HLN.out ?_; intro v2 w2 ho2 hg2; have HA2 := Lib.hid (show OwnE w2 W.heap.size v2 (es ++ [(.slice Au lu cu, (rb, sb))]) ∧ Below W.heap.size W w2 from ⟨ho2, app_belE HA1.out.1 HA1.out.2 (Nat.le_refl _) hg2⟩))
    | (refine step_app_e rfl (.tmp 21) (.tmp 23) rfl rfl rfl (World.ownsRow.alloc HA1.out.1 _) (SrcE.new w1 (.slice Au lu cu) (rb, sb)) (HGE.out _ (HA1.out.2.alloc HA1.out.2.size _)) (HA1.out.2.alloc HA1.out.2.size _).size HLN.out ?_; intro v2 w2 ho2 hg2; have HA2 := Lib.hid (show OwnE w2 W.heap.size v2 (es ++ [(.slice Au lu cu, (rb, sb))]) ∧ Below W.heap.size W w2 from ⟨ho2, app_belE (World.ownsRow.alloc HA1.out.1 _) (HA1.out.2.alloc HA1.out.2.size _) (Nat.le_refl _) hg2⟩))
    | (go_simp; go_at_call 16; refine (HRT.out v2 w2 HA2.out.2 HA2.out.1).mono ?_; rintro e w3 ⟨rfl, hb3⟩; have HA3 := Lib.hid (bel_to HA2.out.2 hb3)))) | fail
  all_goals
    have HBX := Lib.hid (bel_to HBW.out HA3.out)
    have HRX := Lib.hid (HRW.out.below' HA3.out)
    have HX0 := HCX.out _ HA3.out
    clear HCX HCN HGE HLN HRM HRT HRT0 HA1 HA2 HA3 HRW HBW d0 d1
    try clear d2 d3
    try clear HXR
    obtain ⟨y0, y1⟩ := HX0
    have y2 : w3.cell? ⟨b1, o1, none⟩ = some ug := (HBX.out.cell (block_lt_of_cell HC1.out)).trans HC1.out
    clear HC1
    go_wp2_with fail
    clear y0 y1 y2
    have HCX := Lib.hid (fun E (hE : Below w3.heap.size w3 E) => (by
      have h := HRX.out.below' hE
      exact ⟨h.cell rfl, h.cell rfl⟩ : E.cell? ⟨bx0, 0, none⟩ = some (.slice Au lu cu) ∧ E.cell? ⟨bx0, 1, none⟩ = some (.string (bs sb))))
    have HCN := Lib.hid (fun E (hE : Below w3.heap.size w3 E) => pcloneB (.slice (some ⟨b1, o1, none⟩) le cl) es E (HSE.out.1.below (bel_to HBX.out hE)) (HSE.out.2.1.below (bel_to HBX.out hE)) HLE.out)
    have HGE := Lib.hid (fun E (hE : Below w3.heap.size w3 E) => (by
      intro x hx
      rw [List.mem_singleton.1 hx]
      exact ⟨HSE.out.2.2.1.below (bel_to HBX.out hE), HSE.out.2.2.2⟩ : GoodE E [(.slice Au lu cu, (rb, sb))]))
    have HLN := Lib.hid (show (es.length + [((.slice Au lu cu : Value), ((rb, sb) : BT))].length) * 40 ≤ 140737488355328 by simp only [List.length_cons, List.length_nil]; have := HLE.out; omega)
    have HRM := Lib.hid (fun v E (hE : Below w3.heap.size w3 E) (ho : OwnE E w3.heap.size v (es ++ [(.slice Au lu cu, (rb, sb))])) => (by
      have h := OwnE.rd ho ((HSE.out.2.1.below (bel_to HBX.out hE)).append (HGE.out E hE))
      rw [List.map_append, List.map_cons, List.map_nil] at h
      exact h : RdB E v (es.map (·.2) ++ [(rb, sb)])))
    have HBB := Lib.hid (fun E (hE : Below w3.heap.size w3 E) => bel_to HBX.out hE)
    clear HRX
    obtain ⟨d0, d1⟩ := HCX.out _ (RowKit.Below.drew (Below.refl w3.heap.size w3))
    first | (go_region_law (first
      | (go_simp; go_at_call 30; refine (HCN.out _ (RowKit.Below.drew (Below.refl w3.heap.size w3))).mono ?_; rintro e w1 ⟨v1, rfl, ho1, hb1⟩; have HA1 := Lib.hid (show OwnE w1 w3.heap.size v1 es ∧ Below w3.heap.size w3 w1 from ⟨ownsRow_base ho1 (RowKit.Below.drew (Below.refl w3.heap.size w3)).size, bel_to (RowKit.Below.drew (Below.refl w3.heap.size w3)) hb1⟩); obtain ⟨d2, d3⟩ := HCX.out _ HA1.out.2)
      | (go_simp; go_at_call 30; refine (HCN.out _ (RowKit.Below.drew ((Below.refl w3.heap.size w3).alloc (Nat.le_refl _) (Obj.cells #[.slice Au lu cu, .string (bs sb)] 33 (0, 0))))).mono ?_; rintro e w1 ⟨v1, rfl, ho1, hb1⟩; have HA1 := Lib.hid (show OwnE w1 w3.heap.size v1 es ∧ Below w3.heap.size w3 w1 from ⟨ownsRow_base ho1 (RowKit.Below.drew ((Below.refl w3.heap.size w3).alloc (Nat.le_refl _) (Obj.cells #[.slice Au lu cu, .string (bs sb)] 33 (0, 0)))).size, bel_to (RowKit.Below.drew ((Below.refl w3.heap.size w3).alloc (Nat.le_refl _) (Obj.cells #[.slice Au lu cu, .string (bs sb)] 33 (0, 0)))) hb1⟩); have HXR := Lib.hid (show SrcE w1 (.slice (some ⟨w3.heap.size, 0, none⟩) 1 1) [(.slice Au lu cu, (rb, sb))] from ((SrcE.new w3 (.slice Au lu cu) (rb, sb)).below (RowKit.Below.drew (Below.refl _ _))).below hb1))
      | (refine step_app_e rfl (.tmp 38) (.tmp 40) rfl rfl rfl HA1.out.1 HXR.out (HGE.out w1 HA1.out.2) HA1.out.2.size HLN.out ?_; intro v2 w2 ho2 hg2; have HA2 := Lib.hid (show OwnE w2 w3.heap.size v2 (es ++ [(.slice Au lu cu, (rb, sb))]) ∧ Below w3.heap.size w3 w2 from ⟨ho2, app_belE HA1.out.1 HA1.out.2 (Nat.le_refl _) hg2⟩))
      | (refine step_app_e rfl (.tmp 38) (.tmp 40) rfl rfl rfl (World.ownsRow.alloc HA1.out.1 _) (SrcE.new w1 (.slice Au lu cu) (rb, sb)) (HGE.out _ (HA1.out.2.alloc HA1.out.2.size _)) (HA1.out.2.alloc HA1.out.2.size _).size HLN.out ?_; intro v2 w2 ho2 hg2; have HA2 := Lib.hid (show OwnE w2 w3.heap.size v2 (es ++ [(.slice Au lu cu, (rb, sb))]) ∧ Below w3.heap.size w3 w2 from ⟨ho2, app_belE (World.ownsRow.alloc HA1.out.1 _) (HA1.out.2.alloc HA1.out.2.size _) (Nat.le_refl _) hg2⟩)))) | fail
    all_goals
      have HRM2 := Lib.hid (fun E (hE : Below w2.heap.size w2 E) => (by
        have h := HRM.out v2 E (bel_to HA2.out.2 hE) (HA2.out.1.below hE)
        rw [← HEL.out, HMORE.out] at h
        exact h : RdB E v2 (bx (zl ++ [x]))))
      have HRL := Lib.hid (fun E (hE : Below w2.heap.size w2 E) => (by
        have h := HL.out.below (HBB.out E (bel_to HA2.out.2 hE))
        rw [HLZ.out] at h
        exact h : RdB E (.slice (some ⟨b1, o1, none⟩) le cl) (bx zl)))
      have HRG := Lib.hid (fun E (hE : Below w2.heap.size w2 E) => (show Glob E ∧ RdT E ug g0 ∧ RdT E (.slice Au lu cu) (rx x.1) from ⟨HG.out.of (HBB.out E (bel_to HA2.out.2 hE)), HUG.out.below (HBB.out E (bel_to HA2.out.2 hE)), by have h := HSE.out.2.2.1.below (HBB.out E (bel_to HA2.out.2 hE)); rw [HXX.out] at h; exact h⟩))
      have HRC := Lib.hid (fun E (hE : Below w2.heap.size w2 E) => HCX.out E (bel_to HA2.out.2 hE))
      have HSU := Lib.hid HSE.out.2.2.2
      have HB2 := Lib.hid (HBB.out _ HA2.out.2)
      clear HCX HCN HGE HLN HRM HA1 HA2 HBX HBB HL HUG HSE HEL HLE HLL HLU HMORE HLZ HXX hz0 hpos hposI d0 d1
      try clear d2 d3
      try clear HXR
      go_wp2_with fail
      refine (HM1.out _ _ w2 (HRG.out _ (Below.refl _ _)).1 (HRL.out _ (Below.refl _ _)) (HRG.out _ (Below.refl _ _)).2.1).mono ?_
      rintro e4 w4 ⟨x1, x2, rfl, hb4⟩
      have H4 := Lib.hid hb4
      clear hb4 HM1
      go_wp2_with fail
      refine (HM2.out _ _ w4 (HRG.out _ H4.out).1 (HRM2.out _ H4.out) (HRG.out _ H4.out).2.1).mono ?_
      rintro e5 w5 ⟨x3, x4, rfl, hb5⟩
      have H5 := Lib.hid (bel_to H4.out hb5)
      clear hb5 HM2 HRM2 H4
      obtain ⟨y0, y1⟩ := HRC.out _ H5.out
      go_wp2_with fail
      refine (HM3.out _ _ w5 (HRG.out _ H5.out).1 (HRL.out _ H5.out) (HRG.out _ H5.out).2.2 HSU.out).mono ?_
      rintro e6 w6 ⟨rfl, hb6⟩
      have H6 := Lib.hid (bel_to HB2.out (bel_to H5.out hb6))
      clear hb6 HM3 HRC HRG HRL HSU HB2 H5 y0 y1
      have HAW2 := Lib.hid (fun E (hE : Below w6.heap.size w6 E) => HAW.out E (HG.out.of (bel_to H6.out hE)))
      clear HAW HG
      rcases HCASE.out with ⟨rfl, rfl, rfl⟩ | ⟨rfl, rfl, rfl⟩ | ⟨rfl, rfl, hfin⟩
      · clear HCASE
        go_wp2_with fail
        refine (HAW2.out _ (Below.refl _ _)).mono ?_
        rintro e w9 ⟨rfl, hb9⟩
        go_wp2
        go_ret
        exact Ret.of rfl (bel_to H6.out hb9)
      · clear HCASE
        go_wp2_with fail
        refine (HAW2.out _ (Below.refl _ _)).mono ?_
        rintro e w9 ⟨rfl, hb9⟩
        go_wp2
        go_ret
        exact Ret.of rfl (bel_to H6.out hb9)
      · clear HCASE
        obtain ⟨v, u, rfl, rfl, ⟨kv, hkv, hqv⟩, ⟨ku, hku, hqu⟩, hlv, hlu, hle, hib⟩ := hfin
        have hch := chkRs_two hqu hqv (by omega) (by omega)
        have HNU := Lib.hid (fun W : World => (by
          have h := rnumbers (.slice (some ⟨W.heap.size, 0, none⟩) 2 2) [R u, R v] (W.alloc (.cells #[.string (bs (R u)), .string (bs (R v))] 28 (0, 0))) (rdt_row (cap := 2) (l := [R u, R v]) rnw) (fun p hp => by
            rcases List.mem_cons.1 hp with rfl | hp
            · omega
            · rw [List.mem_singleton.1 hp]; omega) (by simp)
          rw [hch] at h
          exact h : Calls Tryz.prog 18 #[.slice (some ⟨W.heap.size, 0, none⟩) 2 2] (W.alloc (.cells #[.string (bs (R u)), .string (bs (R v))] 28 (0, 0))) (Ret (W.alloc (.cells #[.string (bs (R u)), .string (bs (R v))] 28 (0, 0))) (.int .i64 0))))
        have hor : ∀ W : World, Calls Tryz.prog 31 #[.string (bs (R u)), .string (bs (R v))] W (Ret W (.int .i64 (cmpQ u v))) := fun W => order_R u v W ((hqu.mono (Nat.le_succ _)).sh (by omega) (by omega)) ((hqv.mono (Nat.le_succ _)).sh (by omega) (by omega))
        have HOR := Lib.hid hor
        have hcm : cmpQ u v ≤ 0 := cmpQ_le5.2 hle
        have hcmd : decide (cmpQ u v ≤ 0) = true := decide_eq_true hcm
        have p1 := R_pos u
        have p2 := R_pos v
        have hS : ib = true → R u = R v := fun h => by rw [hib h]
        clear hch hqv hqu hkv hku hle hib hcm hor
        generalize cmpQ u v = cm at *
        obtain ⟨su, hsu'⟩ : ∃ su, su = R u := ⟨_, rfl⟩
        obtain ⟨sv, hsv'⟩ : ∃ sv, sv = R v := ⟨_, rfl⟩
        rw [← hsu'] at HNU HOR p1 hlu hS ⊢
        rw [← hsv'] at HNU HOR p2 hlv hS ⊢
        clear hsu' hsv' u v
        have z1 : (((su.length : Nat) : Int) == 0) = false := by rw [beq_eq_false_iff_ne]; omega
        have z2 : (((sv.length : Nat) : Int) == 0) = false := by rw [beq_eq_false_iff_ne]; omega
        have z3 : decide ((300 : Int) < ((su.length : Nat) : Int)) = false := decide_eq_false (by omega)
        have z4 : decide ((300 : Int) < ((sv.length : Nat) : Int)) = false := decide_eq_false (by omega)
        go_wp2_with fail
        refine (HNU.out w6).mono ?_
        rintro e7 w7 ⟨rfl, hb7⟩
        have H7 := Lib.hid (bel_to (bel_alloc (Below.refl w6.heap.size w6) _) hb7)
        clear hb7 HNU
        cases ib with
        | true =>
          obtain rfl := hS rfl
          go_wp2_with fail
          refine (HOR.out w7).mono ?_
          rintro e8 w8 ⟨rfl, hb8⟩
          have H8 := Lib.hid (bel_to H7.out hb8)
          clear hb8 H7 HOR
          go_wp2_with fail
          refine (HAW2.out _ H8.out).mono ?_
          rintro e w9 ⟨rfl, hb9⟩
          go_wp2
          go_ret
          exact Ret.of rfl (bel_to H6.out (bel_to H8.out hb9))
        | false =>
          clear hS
          go_wp2_with fail
          refine (HOR.out w7).mono ?_
          rintro e8 w8 ⟨rfl, hb8⟩
          have H8 := Lib.hid (bel_to H7.out hb8)
          clear hb8 H7 HOR
          go_wp2_with fail
          refine (HAW2.out _ H8.out).mono ?_
          rintro e w9 ⟨rfl, hb9⟩
          go_wp2
          go_ret
          exact Ret.of rfl (bel_to H6.out (bel_to H8.out hb9))
end W
end Go.Proofs.YtfonphlcfkkgaaaGreatDoor
end
section
namespace Go.Proofs.YtfonphlcfkkgaaaGreatDoor
open Go Go.RowKit Go.Deep Go.Sort
namespace W
open M Sx
attribute [local go_sem] bs_size bs_toList bs_get bs_extract bs_append bs_lit0 bs_lit1 lit1_bs
set_option maxHeartbeats 16000000
set_option maxRecDepth 20000
theorem shrinks_law (n : Int) (vl u : Value) (l : List BT) (b : BT) (w : World) (hg : Glob w) (hl : RdB w vl l) (hsv : Shp vl) (hu : RdT w u b.1) (hsu : Shp u)
    (nl : l.length * 40 ≤ 140737488351232) (sl : ∀ x ∈ l ++ [b], x.1.length ≤ maxLen ∧ (∀ p ∈ x.1, p.length ≤ maxLen) ∧ x.2.length ≤ maxLen) :
    Calls Tryz.prog 6 #[.int .i64 n, vl, .agg #[u, .string (bs b.2)]] w (Ret w (.bool true)) := by
  by_cases hnone : rightV n (l ++ [b]) = true ∧ l ≠ []
  · exact shrinks_some n vl u l b w hg hl hsv hu hsu nl sl hnone.1 hnone.2
  obtain ⟨es, he, hge, hse⟩ := RdB.src hl hsv
  have hb0 : Below w.heap.size w (w.alloc (.cells #[u, .string (bs b.2)] 33 (0, 0))) := bel_alloc (Below.refl _ _) _
  have hrow : Row (w.alloc (.cells #[u, .string (bs b.2)] 33 (0, 0))) w.heap.size 33 [u, .string (bs b.2)] := rnw
  obtain ⟨Al, cl, rfl⟩ := hl.len
  obtain ⟨Au, cu, rfl⟩ := hu.len
  obtain ⟨rb, sb⟩ := b
  simp only at *
  have hle : l.length = es.length := by rw [he]; simp
  have HSE := Lib.hid (And.intro hse (And.intro hge (And.intro hu hsu)))
  have HLE := Lib.hid (show es.length * 40 ≤ 140737488351232 by omega)
  have HG := Lib.hid hg
  have HL := Lib.hid hl
  have HAW := Lib.hid (fun W hW => awake5 W hW)
  have HRW := Lib.hid hrow
  have HBW := Lib.hid hb0
  have hnl : l.length + 1 ≤ maxLen := by unfold maxLen; omega
  have HRT := Lib.hid (fun v E (hv : RdB E v (l ++ [(rb, sb)])) => rright n v (l ++ [(rb, sb)]) E hv (by simp; exact hnl) sl)
  have HEL := Lib.hid he
  obtain ⟨le, hle2⟩ : ∃ le, le = l.length := ⟨_, rfl⟩
  obtain ⟨lu, hlu⟩ : ∃ lu, lu = rb.length := ⟨_, rfl⟩
  rw [← hle2] at HSE HL ⊢
  rw [← hlu] at HSE HRW HBW ⊢
  have HLL := Lib.hid hle2
  have HLU := Lib.hid hlu
  clear hg hl hsv hu hsu nl sl hge hse hb0 hrow hle hnl he hle2 hlu
  obtain ⟨bx0, hbx⟩ : ∃ bx0, bx0 = w.heap.size := ⟨_, rfl⟩
  cases hrt : rightV n (l ++ [(rb, sb)]) with
  | false =>
    rw [hrt] at HRT
    clear hnone
    have HRT0 := HRT
    clear hrt HRT
    go_enter Tryz.func6, Tryz.ntmps6
    go_wp2_with fail
    obtain ⟨W, hW⟩ : ∃ W, W = w.alloc (.cells #[.slice Au lu cu, .string (bs sb)] 33 (0, 0)) := ⟨_, rfl⟩
    rw [← hW] at HRW HBW ⊢
    rw [← hbx] at HRW ⊢
    clear hW hbx
    have HCX := Lib.hid (fun E (hE : Below W.heap.size W E) => (by
      have h := HRW.out.below' hE
      exact ⟨h.cell rfl, h.cell rfl⟩ : E.cell? ⟨bx0, 0, none⟩ = some (.slice Au lu cu) ∧ E.cell? ⟨bx0, 1, none⟩ = some (.string (bs sb))))
    have HCN := Lib.hid (fun E (hE : Below W.heap.size W E) => pcloneB (.slice Al le cl) es E (HSE.out.1.below (bel_to HBW.out hE)) (HSE.out.2.1.below (bel_to HBW.out hE)) HLE.out)
    have HGE := Lib.hid (fun E (hE : Below W.heap.size W E) => (by
      intro x hx
      rw [List.mem_singleton.1 hx]
      exact ⟨HSE.out.2.2.1.below (bel_to HBW.out hE), HSE.out.2.2.2⟩ : GoodE E [(.slice Au lu cu, (rb, sb))]))
    have HLN := Lib.hid (show (es.length + [((.slice Au lu cu : Value), ((rb, sb) : BT))].length) * 40 ≤ 140737488355328 by simp only [List.length_cons, List.length_nil]; have := HLE.out; omega)
    have HRM := Lib.hid (fun v E (hE : Below W.heap.size W E) (ho : OwnE E W.heap.size v (es ++ [(.slice Au lu cu, (rb, sb))])) => (by
      have h := OwnE.rd ho ((HSE.out.2.1.below (bel_to HBW.out hE)).append (HGE.out E hE))
      rw [List.map_append, List.map_cons, List.map_nil] at h
      exact h : RdB E v (es.map (·.2) ++ [(rb, sb)])))
    have HRT := Lib.hid (fun v E (hE : Below W.heap.size W E) (ho : OwnE E W.heap.size v (es ++ [(.slice Au lu cu, (rb, sb))])) => HRT0.out v E (by have h := HRM.out v E hE ho; rw [← HEL.out] at h; exact h))
    obtain ⟨d0, d1⟩ := HCX.out _ (RowKit.Below.drew (Below.refl W.heap.size W))
    first | (go_region_law (first
      | (go_simp; go_at_call 30; refine (HCN.out _ (RowKit.Below.drew (Below.refl W.heap.size W))).mono ?_; rintro e w1 ⟨v1, rfl, ho1, hb1⟩; have HA1 := Lib.hid (show OwnE w1 W.heap.size v1 es ∧ Below W.heap.size W w1 from ⟨ownsRow_base ho1 (RowKit.Below.drew (Below.refl W.heap.size W)).size, bel_to (RowKit.Below.drew (Below.refl W.heap.size W)) hb1⟩); obtain ⟨d2, d3⟩ := HCX.out _ HA1.out.2)
      | (go_simp; go_at_call 30; refine (HCN.out _ (RowKit.Below.drew ((Below.refl W.heap.size W).alloc (Nat.le_refl _) (Obj.cells #[.slice Au lu cu, .string (bs sb)] 33 (0, 0))))).mono ?_; rintro e w1 ⟨v1, rfl, ho1, hb1⟩; have HA1 := Lib.hid (show OwnE w1 W.heap.size v1 es ∧ Below W.heap.size W w1 from ⟨ownsRow_base ho1 (RowKit.Below.drew ((Below.refl W.heap.size W).alloc (Nat.le_refl _) (Obj.cells #[.slice Au lu cu, .string (bs sb)] 33 (0, 0)))).size, bel_to (RowKit.Below.drew ((Below.refl W.heap.size W).alloc (Nat.le_refl _) (Obj.cells #[.slice Au lu cu, .string (bs sb)] 33 (0, 0)))) hb1⟩); have HXR := Lib.hid (show SrcE w1 (.slice (some ⟨W.heap.size, 0, none⟩) 1 1) [(.slice Au lu cu, (rb, sb))] from ((SrcE.new W (.slice Au lu cu) (rb, sb)).below (RowKit.Below.drew (Below.refl _ _))).below hb1))
      | (refine step_app_e rfl (.tmp 21) (.tmp 23) rfl rfl rfl HA1.out.1 HXR.out (HGE.out w1 HA1.out.2) HA1.out.2.size HLN.out ?_; intro v2 w2 ho2 hg2; have HA2 := Lib.hid (show OwnE w2 W.heap.size v2 (es ++ [(.slice Au lu cu, (rb, sb))]) ∧ Below W.heap.size W w2 from ⟨ho2, app_belE HA1.out.1 HA1.out.2 (Nat.le_refl _) hg2⟩))
      | (refine step_app_e rfl (.tmp 21) (.tmp 23) rfl rfl rfl (World.ownsRow.alloc HA1.out.1 _) (SrcE.new w1 (.slice Au lu cu) (rb, sb)) (HGE.out _ (HA1.out.2.alloc HA1.out.2.size _)) (HA1.out.2.alloc HA1.out.2.size _).size HLN.out ?_; intro v2 w2 ho2 hg2; have HA2 := Lib.hid (show OwnE w2 W.heap.size v2 (es ++ [(.slice Au lu cu, (rb, sb))]) ∧ Below W.heap.size W w2 from ⟨ho2, app_belE (World.ownsRow.alloc HA1.out.1 _) (HA1.out.2.alloc HA1.out.2.size _) (Nat.le_refl _) hg2⟩))
      | (go_simp; go_at_call 16; refine (HRT.out v2 w2 HA2.out.2 HA2.out.1).mono ?_; rintro e w3 ⟨rfl, hb3⟩; have HA3 := Lib.hid (bel_to HA2.out.2 hb3)))) | fail
    all_goals
      have hb3' := bel_to HBW.out HA3.out
      clear HCX HCN HGE HLN HRM HRT HRT0 HA1 HA2 HA3 HRW HBW d0 d1
      go_wp2_with fail
      refine (HAW.out _ (HG.out.of hb3')).mono ?_
      rintro e w9 ⟨rfl, hb9⟩
      go_wp2
      go_ret
      exact Ret.of rfl (bel_to hb3' hb9)
  | true =>
    rw [hrt] at HRT
    have hz : l = [] := by
      refine Classical.byContradiction fun h => ?_
      exact hnone ⟨hrt, h⟩
    clear hnone
    have HRT0 := HRT
    clear HRT
    have hle0 : le = 0 := by rw [HLL.out, hz]; rfl
    subst hle0
    clear hrt hz HLL
    go_enter Tryz.func6, Tryz.ntmps6
    go_wp2_with fail
    obtain ⟨W, hW⟩ : ∃ W, W = w.alloc (.cells #[.slice Au lu cu, .string (bs sb)] 33 (0, 0)) := ⟨_, rfl⟩
    rw [← hW] at HRW HBW ⊢
    rw [← hbx] at HRW ⊢
    clear hW hbx
    have HCX := Lib.hid (fun E (hE : Below W.heap.size W E) => (by
      have h := HRW.out.below' hE
      exact ⟨h.cell rfl, h.cell rfl⟩ : E.cell? ⟨bx0, 0, none⟩ = some (.slice Au lu cu) ∧ E.cell? ⟨bx0, 1, none⟩ = some (.string (bs sb))))
    have HCN := Lib.hid (fun E (hE : Below W.heap.size W E) => pcloneB (.slice Al 0 cl) es E (HSE.out.1.below (bel_to HBW.out hE)) (HSE.out.2.1.below (bel_to HBW.out hE)) HLE.out)
    have HGE := Lib.hid (fun E (hE : Below W.heap.size W E) => (by
      intro x hx
      rw [List.mem_singleton.1 hx]
      exact ⟨HSE.out.2.2.1.below (bel_to HBW.out hE), HSE.out.2.2.2⟩ : GoodE E [(.slice Au lu cu, (rb, sb))]))
    have HLN := Lib.hid (show (es.length + [((.slice Au lu cu : Value), ((rb, sb) : BT))].length) * 40 ≤ 140737488355328 by simp only [List.length_cons, List.length_nil]; have := HLE.out; omega)
    have HRM := Lib.hid (fun v E (hE : Below W.heap.size W E) (ho : OwnE E W.heap.size v (es ++ [(.slice Au lu cu, (rb, sb))])) => (by
      have h := OwnE.rd ho ((HSE.out.2.1.below (bel_to HBW.out hE)).append (HGE.out E hE))
      rw [List.map_append, List.map_cons, List.map_nil] at h
      exact h : RdB E v (es.map (·.2) ++ [(rb, sb)])))
    have HRT := Lib.hid (fun v E (hE : Below W.heap.size W E) (ho : OwnE E W.heap.size v (es ++ [(.slice Au lu cu, (rb, sb))])) => HRT0.out v E (by have h := HRM.out v E hE ho; rw [← HEL.out] at h; exact h))
    obtain ⟨d0, d1⟩ := HCX.out _ (RowKit.Below.drew (Below.refl W.heap.size W))
    first | (go_region_law (first
      | (go_simp; go_at_call 30; refine (HCN.out _ (RowKit.Below.drew (Below.refl W.heap.size W))).mono ?_; rintro e w1 ⟨v1, rfl, ho1, hb1⟩; have HA1 := Lib.hid (show OwnE w1 W.heap.size v1 es ∧ Below W.heap.size W w1 from ⟨ownsRow_base ho1 (RowKit.Below.drew (Below.refl W.heap.size W)).size, bel_to (RowKit.Below.drew (Below.refl W.heap.size W)) hb1⟩); obtain ⟨d2, d3⟩ := HCX.out _ HA1.out.2)
      | (go_simp; go_at_call 30; refine (HCN.out _ (RowKit.Below.drew ((Below.refl W.heap.size W).alloc (Nat.le_refl _) (Obj.cells #[.slice Au lu cu, .string (bs sb)] 33 (0, 0))))).mono ?_; rintro e w1 ⟨v1, rfl, ho1, hb1⟩; have HA1 := Lib.hid (show OwnE w1 W.heap.size v1 es ∧ Below W.heap.size W w1 from ⟨ownsRow_base ho1 (RowKit.Below.drew ((Below.refl W.heap.size W).alloc (Nat.le_refl _) (Obj.cells #[.slice Au lu cu, .string (bs sb)] 33 (0, 0)))).size, bel_to (RowKit.Below.drew ((Below.refl W.heap.size W).alloc (Nat.le_refl _) (Obj.cells #[.slice Au lu cu, .string (bs sb)] 33 (0, 0)))) hb1⟩); have HXR := Lib.hid (show SrcE w1 (.slice (some ⟨W.heap.size, 0, none⟩) 1 1) [(.slice Au lu cu, (rb, sb))] from ((SrcE.new W (.slice Au lu cu) (rb, sb)).below (RowKit.Below.drew (Below.refl _ _))).below hb1))
      | (refine step_app_e rfl (.tmp 21) (.tmp 23) rfl rfl rfl HA1.out.1 HXR.out (HGE.out w1 HA1.out.2) HA1.out.2.size HLN.out ?_; intro v2 w2 ho2 hg2; have HA2 := Lib.hid (show OwnE w2 W.heap.size v2 (es ++ [(.slice Au lu cu, (rb, sb))]) ∧ Below W.heap.size W w2 from ⟨ho2, app_belE HA1.out.1 HA1.out.2 (Nat.le_refl _) hg2⟩))
      | (refine step_app_e rfl (.tmp 21) (.tmp 23) rfl rfl rfl (World.ownsRow.alloc HA1.out.1 _) (SrcE.new w1 (.slice Au lu cu) (rb, sb)) (HGE.out _ (HA1.out.2.alloc HA1.out.2.size _)) (HA1.out.2.alloc HA1.out.2.size _).size HLN.out ?_; intro v2 w2 ho2 hg2; have HA2 := Lib.hid (show OwnE w2 W.heap.size v2 (es ++ [(.slice Au lu cu, (rb, sb))]) ∧ Below W.heap.size W w2 from ⟨ho2, app_belE (World.ownsRow.alloc HA1.out.1 _) (HA1.out.2.alloc HA1.out.2.size _) (Nat.le_refl _) hg2⟩))
      | (go_simp; go_at_call 16; refine (HRT.out v2 w2 HA2.out.2 HA2.out.1).mono ?_; rintro e w3 ⟨rfl, hb3⟩; have HA3 := Lib.hid (bel_to HA2.out.2 hb3)))) | fail
    all_goals
      have hb3' := bel_to HBW.out HA3.out
      clear HCX HCN HGE HLN HRM HRT HRT0 HA1 HA2 HA3 HRW HBW d0 d1
      go_wp2_with fail
      refine (HAW.out _ (HG.out.of hb3')).mono ?_
      rintro e w9 ⟨rfl, hb9⟩
      go_wp2
      go_ret
      exact Ret.of rfl (bel_to hb3' hb9)
end W
end Go.Proofs.YtfonphlcfkkgaaaGreatDoor
end
