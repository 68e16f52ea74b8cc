/-
  The text of the greatest value has at most 299 characters, plain, for few bounds with short numbers.
  Chapter 5's laws: 'Implied' of the program, 'right' of the laws.
  Chapter 5's laws: 'Turned' of the reference.
  Chapter 5's laws: the lists of the dual program while they are made.
  Chapter 5's laws: ProgramDuals. (Printed by wip/duals.py.)
-/
import Derived.Test.YtnnhmnaobdnfnaaGreatDoorKDU
import Derived.Test.YtnnhmnaobdnfnaaGreatDoorKDF
import Derived.Test.YtnnhmnaobdnfnaaGreatDoorKDP
import Derived.Maps.AppendAt
section
namespace Go.Proofs.YtnnhmnaobdnfnaaGreatDoor
open Go
namespace Sx
open M
/-- A row of k short numbers has a common denominator. -/
theorem row_few {m : Nat} (x : Nat → Rat) (h : ∀ r, r < m + 1 → Sq (x r)) :
    ∃ σ : Rat, IsI σ ∧ 1 ≤ σ ∧ σ ≤ ((10 ^ (6 * m + 6) : Nat) : Rat) ∧ (∀ r, r < m + 1 → IsI (σ * x r)) ∧ ∀ r, r < m + 1 → ab (σ * x r) ≤ ((10 ^ (6 * m + 8) : Nat) : Rat) := by
  obtain ⟨σ, h1, h2, h3, h4, h5⟩ := col_short x (fun _ => ((10 ^ 6 : Nat) : Rat)) (((10 ^ (6 * m + 8) : Nat)) : Rat) (fun r hr => sq_cast (h r hr)) fun r hr => by
    rw [pf_upd6 hr, ← Rat.natCast_mul, ← Nat.pow_add, Nat.add_comm]; exact Rat.le_refl
  refine ⟨σ, h1, h2, ?_, h4, h5⟩
  rw [pf_cast, ← Nat.pow_mul, show 6 * (m + 1) = 6 * m + 6 by omega] at h3
  exact h3
theorem lenA : ∀ n, n < 4 → ∀ m, m < 10 → (n = 3 → m < 8) → ((m + 1) * 10 ^ (6 * n + 8)) ^ n * ((m + 1) * 10 ^ (6 * n + 8)) * ((m + 1) * 10 ^ (6 * n + 8)) < 10 ^ 135 := by decide +kernel
theorem lenB : ∀ n, n < 9 → ∀ m, m < 2 → ((m + 1) * 10 ^ (6 * n + 8)) ^ m * ((m + 1) * 10 ^ (6 * n + 8)) < 10 ^ 113 := by decide +kernel
theorem value_few {n : Nat} {l : List BQ} {goal : List Rat} {A : Mx} {b : Nat → Nat} (hr : RightS n l) (hg : ∀ x ∈ goal, Sq x) (hf : FewS n l.length) (h : Inv n l.length (laidA n l) A b) {v : Rat} (hv : v = - zc l.length A b (goalF n goal) (wdt n l.length)) :
    ∃ a d, v.num.natAbs < 10 ^ a ∧ v.den < 10 ^ d ∧ 1 ≤ a ∧ 1 ≤ d ∧ a + d ≤ 290 := by
  obtain ⟨f1, f2, f3, f4⟩ := hf
  obtain ⟨n', rfl⟩ : ∃ n', n = n' + 1 := ⟨n - 1, by omega⟩
  -- the rows' denominators, and the goal's
  have hrow : ∀ i, i < l.length → ∃ σ : Rat, IsI σ ∧ 1 ≤ σ ∧ σ ≤ ((10 ^ (6 * (n' + 1) + 6) : Nat) : Rat) ∧ (∀ r, r < n' + 1 + 1 → IsI (σ * (fun k => if k < n' + 1 then nth (l.getD i ([], 0)).1 k else (l.getD i ([], 0)).2) r)) ∧
      ∀ r, r < n' + 1 + 1 → ab (σ * (fun k => if k < n' + 1 then nth (l.getD i ([], 0)).1 k else (l.getD i ([], 0)).2) r) ≤ ((10 ^ (6 * (n' + 1) + 8) : Nat) : Rat) := fun i hi =>
    row_few _ fun r _ => by
      have hb := hr _ (getD_mem hi)
      show Sq (if r < n' + 1 then nth (l.getD i ([], 0)).1 r else (l.getD i ([], 0)).2)
      split
      · exact nth_sq hb.2.1 r
      · exact hb.2.2
  obtain ⟨g, g1, g2, g3, g4, g5⟩ := row_few (m := n') (fun k => nth goal k) fun r _ => nth_sq hg r
  obtain ⟨s, hs⟩ : ∃ s : Nat → Rat, ∀ i, i < l.length → IsI (s i) ∧ 1 ≤ s i ∧ s i ≤ ((10 ^ (6 * (n' + 1) + 6) : Nat) : Rat) ∧ (∀ k, k < n' + 1 → IsI (s i * nth (l.getD i ([], 0)).1 k) ∧ ab (s i * nth (l.getD i ([], 0)).1 k) ≤ ((10 ^ (6 * (n' + 1) + 8) : Nat) : Rat)) ∧
      IsI (s i * (l.getD i ([], 0)).2) ∧ ab (s i * (l.getD i ([], 0)).2) ≤ ((10 ^ (6 * (n' + 1) + 8) : Nat) : Rat) := by
    refine ⟨fun i => if hi : i < l.length then (hrow i hi).choose else 1, fun i hi => ?_⟩
    simp only [dif_pos hi]
    obtain ⟨a1, a2, a3, a4, a5⟩ := (hrow i hi).choose_spec
    refine ⟨a1, a2, a3, fun k hk => ?_, ?_, ?_⟩
    · have b1 := a4 k (by omega)
      have b2 := a5 k (by omega)
      simp only [if_pos hk] at b1 b2
      exact ⟨b1, b2⟩
    · have b1 := a4 (n' + 1) (by omega)
      simp only [Nat.lt_irrefl, if_false] at b1
      exact b1
    · have b2 := a5 (n' + 1) (by omega)
      simp only [Nat.lt_irrefl, if_false] at b2
      exact b2
  obtain ⟨K, hK⟩ : ∃ K, K = 10 ^ (6 * (n' + 1) + 8) := ⟨_, rfl⟩
  have hK1 : 1 ≤ K := by rw [hK]; exact Nat.pow_pos (by decide)
  obtain ⟨Q, hQ⟩ : ∃ Q, Q = (l.length + 1) * K := ⟨_, rfl⟩
  have hQ1 : 1 ≤ Q := by rw [hQ]; exact Nat.mul_pos (by omega) hK1
  obtain ⟨a, ha, had⟩ : ∃ a, 1 ≤ a ∧ (Q ^ (n' + 1) * Q * Q < 10 ^ a ∨ Q ^ l.length * Q < 10 ^ a) ∧ 2 * a + (6 * n' + 6) ≤ 290 := by
    rw [hQ, hK]
    by_cases hm : l.length ≤ 1
    · exact ⟨113, by decide, Or.inr (lenB _ (by omega) _ (by omega)), by omega⟩
    · exact ⟨135, by decide, Or.inl (lenA _ (by omega) _ (by omega) (by omega)), by omega⟩
  have hgoal : ∀ k, (k < 2 * (n' + 1) ∨ 2 * (n' + 1) + l.length ≤ k) → IsI (g * goalF (n' + 1) goal k) ∧ ab (g * goalF (n' + 1) goal k) ≤ (K : Rat) := fun k _ => by
    have c1 : ∀ k, k < n' + 1 → IsI (g * nth goal k) ∧ ab (g * nth goal k) ≤ (K : Rat) := fun k hk =>
      ⟨g4 k hk, Rat.le_trans (g5 k hk) (Rat.natCast_le_natCast.2 (by rw [hK]; exact Nat.pow_le_pow_right (by decide) (by omega)))⟩
    unfold goalF
    split
    · exact c1 k (by assumption)
    · split
      · obtain ⟨⟨z, hz⟩, c3⟩ := c1 (k - (n' + 1)) (by omega)
        have e : g * - nth goal (k - (n' + 1)) = - (g * nth goal (k - (n' + 1))) := by grind
        rw [e]
        refine ⟨⟨-z, by rw [hz, Rat.intCast_neg]⟩, ?_⟩
        rw [ab_neg]; exact c3
      · rw [Rat.mul_zero]
        refine ⟨⟨0, rfl⟩, ?_⟩
        have : ab 0 = 0 := by decide +kernel
        rw [this]; exact Rat.natCast_nonneg
  have hrow2 : ∀ k, (k < 2 * (n' + 1) ∨ 2 * (n' + 1) + l.length ≤ k) → k ≤ wdt (n' + 1) l.length → ∀ i, i < l.length → IsI (s i * laidA (n' + 1) l i k) ∧ ab (s i * laidA (n' + 1) l i k) ≤ (K : Rat) := fun k hk hk2 i hi => by
    obtain ⟨a1, a2, a3, a4, a5, a6⟩ := hs i hi
    rw [← hK] at a6 a4
    unfold laidA
    unfold wdt at hk2 ⊢
    rw [if_pos hi]
    split
    · exact a4 k (by assumption)
    · split
      · obtain ⟨⟨z, hz⟩, c3⟩ := a4 (k - (n' + 1)) (by omega)
        have e : s i * - nth (l.getD i ([], 0)).1 (k - (n' + 1)) = - (s i * nth (l.getD i ([], 0)).1 (k - (n' + 1))) := by grind
        rw [e]
        refine ⟨⟨-z, by rw [hz, Rat.intCast_neg]⟩, ?_⟩
        rw [ab_neg]; exact c3
      · rw [if_neg (by omega)]
        by_cases h2 : k = 2 * (n' + 1) + l.length
        · rw [if_pos (by omega)]
          have e : s i * -1 = - s i := by grind
          rw [e, ab_neg]
          obtain ⟨z, hz⟩ := a1
          refine ⟨⟨-z, by rw [hz, Rat.intCast_neg]⟩, ?_⟩
          have e2 : ab (s i) = s i := by unfold ab; rw [if_pos (by grind)]
          rw [e2]
          exact Rat.le_trans a3 (Rat.natCast_le_natCast.2 (by rw [hK]; exact Nat.pow_le_pow_right (by decide) (by omega)))
        · rw [if_neg (by omega), if_pos (by omega)]
          exact ⟨a5, a6⟩
  have hpart := value_parts (a := a) (s := s) (g := g) (Q := (Q : Rat)) (laid_of (n' + 1) l) h (c := goalF (n' + 1) goal) (fun j _ => by unfold goalF; rw [if_neg (by omega), if_neg (by omega)]) g1 g2 (fun i hi => ⟨(hs i hi).2.1, (hs i hi).1⟩)
    (Rat.natCast_le_natCast.2 hQ1) (fun k hk hk2 => by
      refine ⟨fun i hi => (hrow2 k hk hk2 i hi).1, (hgoal k hk).1, ?_⟩
      have h1 : sm l.length (fun i => ab (s i * laidA (n' + 1) l i k)) ≤ sm l.length (fun _ => (K : Rat)) := sm_le fun i hi => (hrow2 k hk hk2 i hi).2
      rw [sm_const] at h1
      have h2 := (hgoal k hk).2
      rw [hQ, Rat.natCast_mul, Rat.natCast_add, show ((1 : Nat) : Rat) = 1 from rfl]
      grind)
    (by
      rw [pf_cast, pf_cast, ← Rat.natCast_mul, ← Rat.natCast_mul, ← Rat.natCast_mul]
      rcases had.1 with h2 | h2
      · exact Or.inl (Rat.natCast_lt_natCast.2 h2)
      · exact Or.inr (Rat.natCast_lt_natCast.2 h2))
  obtain ⟨y, hy⟩ : ∃ y, y = g * zc l.length A b (goalF (n' + 1) goal) (wdt (n' + 1) l.length) := ⟨_, rfl⟩
  rw [← hy] at hpart
  have hg0 : g ≠ 0 := fun e => by rw [e] at g2; exact absurd g2 (by decide +kernel)
  have hden := num_den y
  have hdp : (0 : Rat) < (y.den : Rat) := Rat.natCast_pos.2 y.den_pos
  have hgp : 0 < g := by grind
  have hfin := frac_parts (y := v) (P := - (y.num : Rat)) (Q := g * (y.den : Rat)) (a := 10 ^ a) (d := 10 ^ (a + (6 * n' + 6))) ⟨- y.num, (Rat.intCast_neg _).symm⟩ (g1.mul ⟨(y.den : Int), rfl⟩)
    (fun e => by
      rcases Rat.mul_eq_zero.1 e with e | e
      · exact hg0 e
      · rw [e] at hdp; exact Rat.lt_irrefl hdp)
    (by rw [← hden, hv]; have : g * zc l.length A b (goalF (n' + 1) goal) (wdt (n' + 1) l.length) = y := hy.symm; grind)
    (by rw [ab_neg, ab_int]; exact Rat.natCast_lt_natCast.2 hpart.1)
    (by
      rw [ab_mul]
      have e1 : ab g = g := by unfold ab; rw [if_pos (by grind)]
      have e2 : ab (y.den : Rat) = (y.den : Rat) := by unfold ab; rw [if_pos (by grind)]
      rw [e1, e2]
      have h1 : (y.den : Rat) < ((10 ^ a : Nat) : Rat) := Rat.natCast_lt_natCast.2 hpart.2
      have h2 := Rat.mul_lt_mul_of_pos_left h1 hgp
      have h3 := Rat.mul_le_mul_of_nonneg_right g3 (show (0 : Rat) ≤ ((10 ^ a : Nat) : Rat) from Rat.natCast_nonneg)
      rw [← Rat.natCast_mul, ← Nat.pow_add, Nat.add_comm] at h3
      grind)
  exact ⟨a, a + (6 * n' + 6), hfin.1, hfin.2, ha, by omega, by omega⟩
end Sx
end Go.Proofs.YtnnhmnaobdnfnaaGreatDoor
end
section
namespace Go.Proofs.YtnnhmnaobdnfnaaGreatDoor
open Go Go.RowKit Go.Deep Go.Sort
namespace W
open M Sx
attribute [local go_sem] bs_size bs_toList bs_get bs_extract bs_append bs_lit0 bs_lit1 lit1_bs
set_option maxHeartbeats 1000000
set_option maxRecDepth 20000
/-- What 'Implied' reports. -/
def impB (r : (Rat × List Rat × List Rat) ⊕ Nat) (q : Rat) : Bool := match r with
  | .inl (v, _, _) => decide (v ≤ q)
  | .inr k => k == 6
/-- The greatest value is not long. -/
theorem found_value {n e : Nat} {l : List BQ} {goal : List Rat} {v : Rat} {p w : List Rat} (hr : RightS n l) (hg : ∀ x ∈ goal, Sq x) (hf : FewS n l.length) (h : Sx.Found e n l goal (.inl (v, p, w))) : (∃ k, k ≤ 290 ∧ Bq k v) ∧ (R v).length ≤ 299 := by
  obtain ⟨_, _, _, A, b, hi, hv⟩ := h
  obtain ⟨a, d, h1, h2, h3, h4, h5⟩ := value_few hr hg hf hi hv
  refine ⟨⟨a + d, h5, Nat.lt_of_lt_of_le h1 (Nat.pow_le_pow_right (by decide) (by omega)), Nat.lt_of_lt_of_le h2 (Nat.pow_le_pow_right (by decide) (by omega))⟩, ?_⟩
  have l1 := I_le h1 h3
  have l2 := I_le (z := (v.den : Int)) (k := d) (by rw [Int.natAbs_natCast]; exact h2) h4
  unfold R
  split
  · omega
  · rw [List.length_append, List.length_cons]
    omega
/-- Few right bounds. -/
noncomputable def rightV (n : Int) (l : List BT) : Bool := few5 n l && decide (chk5 n l = 0)
theorem rright (n : Int) (vl : Value) (l : List BT) (w : World) (hl : RdB w vl l) (hn : l.length ≤ maxLen) (hs : ∀ b ∈ l, b.1.length ≤ maxLen ∧ (∀ p ∈ b.1, p.length ≤ maxLen) ∧ b.2.length ≤ maxLen) :
    Calls Tryz.prog 10 #[.int .i64 n, vl] w (Ret w (.bool (rightV n l))) := by
  have HF := Lib.hid (fun W (hW : Below w.heap.size w W) => rfew n vl l W (hl.below hW) hn hs)
  unfold rightV
  obtain ⟨A, cap, hA⟩ := hl.len
  cases hf : few5 n l with
  | false =>
    rw [hf] at HF
    rw [Bool.false_and]
    subst hA
    clear hl hs hn hf
    go_enter Tryz.func10, Tryz.ntmps10
    go_wp2_with fail
    refine (HF.out _ (Below.refl _ _)).mono ?_
    rintro e w1 ⟨rfl, hb1⟩
    go_wp2
    go_ret
    exact Ret.of rfl hb1
  | true =>
    rw [hf] at HF
    rw [Bool.true_and]
    have hw := few_wire hf
    have HK := Lib.hid (fun W (hW : Below w.heap.size w W) => rcheck5 n vl l W (hl.below hW) hw.1 hw.2)
    have hz : ((((chk5 n l : Nat) : Int) == 0)) = decide (chk5 n l = 0) := by
      by_cases h : chk5 n l = 0
      · rw [h]; rfl
      · rw [decide_eq_false h, beq_eq_false_iff_ne]; omega
    rw [← hz]
    subst hA
    clear hl hs hn hf hw hz
    generalize ((chk5 n l : Nat) : Int) = c at *
    go_enter Tryz.func10, Tryz.ntmps10
    go_wp2_with fail
    refine (HF.out _ (Below.refl _ _)).mono ?_
    rintro e w1 ⟨rfl, hb1⟩
    go_wp2_with fail
    refine (HK.out _ hb1).mono ?_
    rintro e w2 ⟨rfl, hb2⟩
    go_wp2
    go_ret
    exact Ret.of rfl (bel_to hb1 hb2)
end W
end Go.Proofs.YtnnhmnaobdnfnaaGreatDoor
end
section
namespace Go.Proofs.YtnnhmnaobdnfnaaGreatDoor
open Go Go.RowKit Go.Deep Go.Sort
namespace W
open M Sx
attribute [local go_sem] bs_size bs_toList bs_get bs_extract bs_append bs_lit0 bs_lit1 lit1_bs
set_option maxHeartbeats 1000000
set_option maxRecDepth 20000
theorem turned_R (a : Rat) (w : World) (ha : Sh a) : Calls Tryz.prog 15 #[.string (bs (R a))] w (Ret w (.string (bs (R (-a))))) := by
  have HM := Lib.hid (fun W : World => (by
    have h := minus_R 0 a W (Bq_nil.sh (by decide) (by decide)) ha
    rw [R_nil, show (bs [48]) = (⟨#[48]⟩ : ByteArray) from rfl, Rat.sub_eq_add_neg, Rat.zero_add] at h
    exact h : Calls Tryz.prog 70 #[.string ⟨#[48]⟩, .string (bs (R a))] W (Ret W (.string (bs (R (-a)))))))
  clear ha
  generalize R a = sa at *
  generalize R (-a) = sb at *
  go_enter Tryz.func15, Tryz.ntmps15
  go_wp2_with fail
  refine (HM.out _).mono ?_
  rintro e w1 ⟨rfl, hb1⟩
  go_wp2
  go_ret
  exact Ret.of rfl hb1
end W
end Go.Proofs.YtnnhmnaobdnfnaaGreatDoor
end
section
namespace Go.Proofs.YtnnhmnaobdnfnaaGreatDoor
open Go Go.RowKit Go.Deep Go.Sort
theorem infoRtX : (Tryz.prog.info? 28).map (fun i => (i.zero, i.size, i.bytes)) = some (some (.string ⟨#[]⟩), 1, 16) := by kernel_rfl
theorem OwnS.of_row {w : World} {B g : Nat} {l : List (List UInt8)} (hr : Row w g 28 (Strs l)) (hB : B ≤ g) (hl : l.length ≤ maxLen) (n : Nat) (hn : n = l.length) : OwnS w B (.slice (some ⟨g, 0, none⟩) n n) l := by
  subst hn
  exact ⟨by simp [Strs], Or.inr ⟨g, l.length, (Strs l).toArray, rfl, hB, hr, Nat.le_refl _, hl, by simp [Strs], by rw [List.take_of_length_le (by simp [Strs])]⟩⟩
theorem OwnS.shp' {w : World} {B : Nat} {v : Value} {l : List (List UInt8)} (h : OwnS w B v l) : Shp v := by
  rcases h.2 with ⟨hv, _⟩ | ⟨g, cap, cur, hv, _⟩
  · exact Or.inl hv
  · exact Or.inr ⟨_, _, _, hv⟩
theorem OwnS.form' {w : World} {B : Nat} {v : Value} {l : List (List UInt8)} (h : OwnS w B v l) : ∃ A c, v = .slice A l.length c := by
  rcases h.2 with ⟨hv, h0⟩ | ⟨g, cap, cur, hv, _⟩
  · exact ⟨_, _, by rw [h0]; exact hv⟩
  · exact ⟨_, _, hv⟩
/-- The rows' values are own lists of texts, all at or behind B0. -/
def GoodD (w : World) (B0 : Nat) (es : List (Value × M.BT)) : Prop := ∀ x ∈ es, ∃ B, B0 ≤ B ∧ OwnS w B x.1 x.2.1
theorem GoodD.below {w w' : World} {B0 : Nat} {es : List (Value × M.BT)} (h : GoodD w B0 es) (hb : Below w.heap.size w w') : GoodD w' B0 es := fun x hx => by
  obtain ⟨B, h0, h1⟩ := h x hx
  exact ⟨B, h0, h1.below hb⟩
theorem GoodD.good {w : World} {B0 : Nat} {es : List (Value × M.BT)} (h : GoodD w B0 es) : GoodE w es := fun x hx => by
  obtain ⟨B, _, h1⟩ := h x hx
  exact ⟨h1.rd, h1.shp'⟩
theorem GoodD.append {w : World} {B0 : Nat} {a b : List (Value × M.BT)} (h : GoodD w B0 a) (h2 : GoodD w B0 b) : GoodD w B0 (a ++ b) := fun x hx => (List.mem_append.1 hx).elim (h x) (h2 x)
theorem GoodD.one {w : World} {B0 : Nat} {u : Value} {b : M.BT} (h : OwnS w B0 u b.1) : GoodD w B0 [(u, b)] := fun x hx => by
  rw [List.mem_singleton.1 hx]; exact ⟨B0, Nat.le_refl _, h⟩
theorem ratBoundX : 28 ≠ 33 := by decide
theorem GoodD.grown {w w' : World} {B B0 : Nat} {v : Value} {es es0 : List (Value × M.BT)} (h : GoodD w B0 es) (ho : OwnE w B v es0) (hg : w.grownBy w' v.ownBlock) : GoodD w' B0 es := fun x hx => by
  obtain ⟨B1, h0, h1⟩ := h x hx
  refine ⟨B1, h0, World.ownsRow.kept h1 hg ?_⟩
  rcases row_not_row h1 ho ratBoundX with e | e
  · left; rw [e]; rfl
  · exact Or.inr e
theorem own_setX {w : World} {B g j : Nat} {e size n : Nat} {xs : List Value} {v u : Value} (hg : g < B) (h : w.ownsRow B e size v n xs) : (w.setCell ⟨g, j, none⟩ u).ownsRow B e size v n xs := by
  refine World.ownsRow.kept h (grownBy_setO w g j u) ?_
  rcases hv : v.ownBlock with _ | k
  · exact Or.inl rfl
  · refine Or.inr fun e => ?_
    injection e with e
    have := (World.ownsRow.lt h k hv).1
    omega
theorem GoodD.set {w : World} {B0 g j : Nat} {u : Value} {es : List (Value × M.BT)} (h : GoodD w B0 es) (hg : g < B0) : GoodD (w.setCell ⟨g, j, none⟩ u) B0 es := fun x hx => by
  obtain ⟨B1, h0, h1⟩ := h x hx
  exact ⟨B1, h0, own_setX (by omega) h1⟩
theorem strs_setX (l : List (List UInt8)) (k : Nat) (t : List UInt8) : (Strs l).set k (.string (bs t)) = Strs (l.set k t) := by simp [Strs, List.map_set]
/-- The dual program's bounds, with the list 'least' at bL. -/
structure DuS (w0 w : World) (bL : Nat) (vd : Value) (es : List (Value × M.BT)) (ls : List (List UInt8)) : Prop where
  own : OwnE w (bL + 1) vd es
  good : GoodD w (bL + 1) es
  least : Row w bL 28 (Strs ls)
  bel : Below w0.heap.size w0 w
  low : w0.heap.size ≤ bL
theorem DuS.size {w0 w : World} {bL : Nat} {vd : Value} {es : List (Value × M.BT)} {ls : List (List UInt8)} (h : DuS w0 w bL vd es ls) : bL + 1 ≤ w.heap.size := h.least.lt
theorem DuS.to {w0 w w' : World} {bL : Nat} {vd : Value} {es : List (Value × M.BT)} {ls : List (List UInt8)} (h : DuS w0 w bL vd es ls) (hb : Below w.heap.size w w') : DuS w0 w' bL vd es ls :=
  ⟨h.own.below hb, h.good.below hb, h.least.below' hb, bel_to h.bel hb, h.low⟩
theorem DuS.put {w0 w : World} {bL k : Nat} {vd : Value} {es : List (Value × M.BT)} {ls : List (List UInt8)} (h : DuS w0 w bL vd es ls) (t : List UInt8) : DuS w0 (w.setCell ⟨bL, k, none⟩ (.string (bs t))) bL vd es (ls.set k t) := by
  refine ⟨own_setX (Nat.lt_succ_self _) h.own, h.good.set (Nat.lt_succ_self _), ?_, h.bel.setCell (p := ⟨bL, k, none⟩) h.low _, h.low⟩
  rw [← strs_setX]
  exact h.least.set k _
theorem DuS.app {w0 w w' : World} {bL : Nat} {vd v' : Value} {es es2 : List (Value × M.BT)} {ls : List (List UInt8)} (h : DuS w0 w bL vd es ls) (h2 : GoodD w (bL + 1) es2) (ho : OwnE w' (bL + 1) v' (es ++ es2)) (hg : w.grownBy w' vd.ownBlock) : DuS w0 w' bL v' (es ++ es2) ls := by
  refine ⟨ho, (h.good.append h2).grown h.own hg, row_grown h.least hg fun e => ?_, h.bel.grown hg h.bel.size fun k hk => ?_, h.low⟩
  · have := (World.ownsRow.lt h.own bL e.symm).1
    omega
  · have := (World.ownsRow.lt h.own k hk).1
    have := h.low
    omega
/-- A further row that is in the making, in block g. -/
structure DuR (w0 w : World) (bL : Nat) (vd : Value) (es : List (Value × M.BT)) (ls : List (List UInt8)) (g : Nat) (rs : List (List UInt8)) : Prop where
  st : DuS w0 w bL vd es ls
  row : Row w g 28 (Strs rs)
  low : bL + 1 ≤ g
  own : vd.ownBlock ≠ some g
  rows : ∀ x ∈ es, x.1.ownBlock ≠ some g
theorem DuR.to {w0 w w' : World} {bL g : Nat} {vd : Value} {es : List (Value × M.BT)} {ls rs : List (List UInt8)} (h : DuR w0 w bL vd es ls g rs) (hb : Below w.heap.size w w') : DuR w0 w' bL vd es ls g rs :=
  ⟨h.st.to hb, h.row.below' hb, h.low, h.own, h.rows⟩
theorem DuR.new {w0 w w' : World} {bL g : Nat} {vd : Value} {es : List (Value × M.BT)} {ls rs : List (List UInt8)} (h : DuS w0 w bL vd es ls) (hb : Below w.heap.size w w') (hg : w.heap.size ≤ g) (hr : Row w' g 28 (Strs rs)) : DuR w0 w' bL vd es ls g rs := by
  refine ⟨h.to hb, hr, Nat.le_trans h.size hg, fun e => ?_, fun x hx e => ?_⟩
  · have := (World.ownsRow.lt h.own g e).2; omega
  · obtain ⟨B, _, h1⟩ := h.good x hx
    have := (World.ownsRow.lt h1 g e).2; omega
theorem kept_setX {w : World} {B g j : Nat} {e size n : Nat} {xs : List Value} {v u : Value} (h : w.ownsRow B e size v n xs) (hne : v.ownBlock ≠ some g) : (w.setCell ⟨g, j, none⟩ u).ownsRow B e size v n xs :=
  World.ownsRow.kept h (grownBy_setO w g j u) (Or.inr hne)
theorem DuR.put {w0 w : World} {bL g k : Nat} {vd : Value} {es : List (Value × M.BT)} {ls rs : List (List UInt8)} (h : DuR w0 w bL vd es ls g rs) (t : List UInt8) : DuR w0 (w.setCell ⟨g, k, none⟩ (.string (bs t))) bL vd es ls g (rs.set k t) := by
  refine ⟨⟨kept_setX h.st.own h.own, fun x hx => ?_, Row.other h.st.least (by have := h.low; show bL ≠ g; omega) _, h.st.bel.setCell (p := ⟨g, k, none⟩) (by have := h.low; have := h.st.low; show w0.heap.size ≤ g; omega) _, h.st.low⟩, ?_, h.low, h.own, h.rows⟩
  · obtain ⟨B, h0, h1⟩ := h.st.good x hx
    exact ⟨B, h0, kept_setX h1 (h.rows x hx)⟩
  · rw [← strs_setX]
    exact h.row.set k _
theorem DuR.goodD {w0 w : World} {bL g : Nat} {vd : Value} {es : List (Value × M.BT)} {ls rs : List (List UInt8)} (h : DuR w0 w bL vd es ls g rs) (hl : rs.length ≤ maxLen) (n : Nat) (hn : n = rs.length) (q : List UInt8) : GoodD w (bL + 1) [(.slice (some ⟨g, 0, none⟩) n n, (rs, q))] :=
  GoodD.one (OwnS.of_row h.row h.low hl n hn)
/-- Two lists of texts that grow. -/
structure TwS (w0 w : World) (v1 v2 : Value) (l1 l2 : List (List UInt8)) : Prop where
  o1 : OwnS w w0.heap.size v1 l1
  o2 : OwnS w w0.heap.size v2 l2
  d1 : v1.ownBlock = none ∨ v1.ownBlock ≠ v2.ownBlock
  d2 : v2.ownBlock = none ∨ v2.ownBlock ≠ v1.ownBlock
  bel : Below w0.heap.size w0 w
theorem TwS.to {w0 w w' : World} {v1 v2 : Value} {l1 l2 : List (List UInt8)} (h : TwS w0 w v1 v2 l1 l2) (hb : Below w.heap.size w w') : TwS w0 w' v1 v2 l1 l2 := ⟨h.o1.below hb, h.o2.below hb, h.d1, h.d2, bel_to h.bel hb⟩
theorem TwS.nil (w : World) : TwS w w (.slice none 0 0) (.slice none 0 0) [] [] := ⟨World.ownsRow_nil _ _ _ _, World.ownsRow_nil _ _ _ _, Or.inl rfl, Or.inl rfl, Below.refl _ _⟩
theorem TwS.swap {w0 w : World} {v1 v2 : Value} {l1 l2 : List (List UInt8)} (h : TwS w0 w v1 v2 l1 l2) : TwS w0 w v2 v1 l2 l1 := ⟨h.o2, h.o1, h.d2, h.d1, h.bel⟩
theorem TwS.app {w0 w w' : World} {v1 v2 v' : Value} {l1 l2 l' : List (List UInt8)} (h : TwS w0 w v1 v2 l1 l2) (ho : OwnS w' w0.heap.size v' l') (hg : w.grownBy w' v1.ownBlock) (hd : v'.ownBlock = v1.ownBlock ∨ v'.ownBlock = some w.heap.size) : TwS w0 w' v' v2 l' l2 := by
  have hlt : v2.ownBlock ≠ some w.heap.size := fun e => by
    have := (World.ownsRow.lt h.o2 _ e).2
    omega
  refine ⟨ho, World.ownsRow.kept h.o2 hg h.d2, ?_, ?_, h.bel.grown hg h.bel.size fun b hb => (World.ownsRow.lt h.o1 b hb).1⟩
  · rcases hd with hd | hd
    · rw [hd]; exact h.d1
    · exact Or.inr (by rw [hd]; exact fun e => hlt e.symm)
  · rcases hd with hd | hd
    · rw [hd]; exact h.d2
    · exact Or.inr (by rw [hd]; exact hlt)
/-- 'append' of one text, with the block that it lands in. -/
theorem run_appS_at {w : World} {B : Nat} {v xv : Value} {l : List (List UInt8)} {q : List UInt8} (ty : TypeId) (h : OwnS w B v l) {A : Nat} (hxv : xv = .slice (some ⟨A, 0, none⟩) 1 1) (hsrc : w.cell? ⟨A, 0, none⟩ = some (.string (bs q))) (hB : B ≤ w.heap.size) (hn : l.length + 1 ≤ 1000000000) :
    ∃ v' w', (Builtin.append_ #[23, 23] ty #[v, xv]).run Tryz.prog w = .ok v' w' ∧ OwnS w' B v' (l ++ [q]) ∧ w.grownBy w' v.ownBlock ∧ (v'.ownBlock = v.ownBlock ∨ v'.ownBlock = some w.heap.size) := by
  obtain ⟨i, h1, h2, h3, h4⟩ := info_parts infoRtX
  subst hxv
  have hadd : ∀ j, (⟨A, 0, none⟩ : Addr).add j = ⟨A, j, none⟩ := fun j => by unfold Addr.add; split <;> simp_all
  obtain ⟨v', w', k1, k2, k3, _, k5⟩ := run_append_own_at (P := Tryz.prog) w B _ ty _ i _ 1 16 Tryz.underlying23 h1 h2 h3 h4 rfl (by decide) v l.length (Strs l) h ⟨A, 0, none⟩ 1 1 (Strs [q]) rfl
    (fun j u hj => by
      rw [hadd]
      obtain rfl : j = 0 := by have := (List.getElem?_eq_some_iff.1 hj).1; simpa [Strs] using this
      rw [hsrc]
      simpa [Strs] using hj) (fun u hu => by simp [Strs] at hu; rw [hu]; rfl) (by unfold maxLen; omega) (by omega) hB
  refine ⟨v', w', k1, ?_, k3, k5⟩
  unfold OwnS
  rw [List.length_append, show Strs (l ++ [q]) = Strs l ++ Strs [q] by simp [Strs]]
  exact k2
theorem wpList_appS_at {ops : Array Oper} {rest : List Oper} {o : Oper} {a : Act} {Q : Exit → Act → World → Prop} {w : World} {B : Nat} {v xv : Value} {l : List (List UInt8)} {q : List UInt8} {A : Nat} (hgd : o.guard = none) (s x : Operand)
    (ho : o.op = .call { callee := .builtin .append, args := #[s, x], argTypes := #[23, 23] }) (hs : a.eval s = v) (hx : a.eval x = xv)
    (h : OwnS w B v l) (hxv : xv = .slice (some ⟨A, 0, none⟩) 1 1) (hsrc : w.cell? ⟨A, 0, none⟩ = some (.string (bs q))) (hB : B ≤ w.heap.size) (hn : l.length + 1 ≤ 1000000000)
    (hK : ∀ v' w', OwnS w' B v' (l ++ [q]) → w.grownBy w' v.ownBlock → (v'.ownBlock = v.ownBlock ∨ v'.ownBlock = some w.heap.size) → wpList Tryz.prog ops Q rest (a.put o.dst v') w') : wpList Tryz.prog ops Q (o :: rest) a w :=
  wpList_plain hgd fun _ hK2 => by
    obtain ⟨v', w', hr, h2, h3, h4⟩ := run_appS_at o.type h hxv hsrc hB hn
    unfold Oper.wp execOp
    simp only [ho, resolve, invoke, builtin, Sem.run_bind, Sem.run_pure, Result.andThen_ok, List.map_toArray, List.map_cons, List.map_nil, hs, hx, hr]
    exact hK2 _ _ (hK v' w' h2 h3 h4)
theorem step_appS_at {ops : Array Oper} {o : Oper} {a : Act} {K : Act → World → Prop} {Q : Exit → Act → World → Prop} {E : Prop} {w : World} {B : Nat} {v xv : Value} {l : List (List UInt8)} {q : List UInt8} {A : Nat} (hgd : o.guard = none) (s x : Operand)
    (ho : o.op = .call { callee := .builtin .append, args := #[s, x], argTypes := #[23, 23] }) (hs : a.eval s = v) (hx : a.eval x = xv)
    (h : OwnS w B v l) (hxv : xv = .slice (some ⟨A, 0, none⟩) 1 1) (hsrc : w.cell? ⟨A, 0, none⟩ = some (.string (bs q))) (hB : B ≤ w.heap.size) (hn : l.length + 1 ≤ 1000000000)
    (hK : ∀ v' w', OwnS w' B v' (l ++ [q]) → w.grownBy w' v.ownBlock → (v'.ownBlock = v.ownBlock ∨ v'.ownBlock = some w.heap.size) → K (a.put o.dst v') w') : if Region.wanted o (yielded ops a.tmps) = true then Oper.wp Tryz.prog o a w K Q else E := by
  have hw : Region.wanted o (yielded ops a.tmps) = true := by simp [Region.wanted, hgd]
  rw [if_pos hw]
  obtain ⟨v', w', hr, h2, h3, h4⟩ := run_appS_at o.type h hxv hsrc hB hn
  unfold Oper.wp execOp
  simp only [ho, resolve, invoke, builtin, Sem.run_bind, Sem.run_pure, Result.andThen_ok, List.map_toArray, List.map_cons, List.map_nil, hs, hx, hr]
  exact hK v' w' h2 h3 h4
end Go.Proofs.YtnnhmnaobdnfnaaGreatDoor
end
section
namespace Go.Proofs.YtnnhmnaobdnfnaaGreatDoor
open Go Go.RowKit Go.Deep Go.Sort
namespace Sx
open M
theorem dR0 : R 0 = [48] := by decide +kernel
theorem dRm : R (-1) = [45, 49] := by decide +kernel
/-- The texts of the dual program, as far as they are made. -/
def leaT (zl : List BQ) (i : Nat) : List (List UInt8) := (zl.take i).map (fun b => R (-b.2)) ++ List.replicate (zl.length - i) []
theorem leaT_len (zl : List BQ) {i : Nat} (h : i ≤ zl.length) : (leaT zl i).length = zl.length := by unfold leaT; simp; omega
theorem leaT_set (zl : List BQ) (i : Nat) (h : i < zl.length) : (leaT zl i).set i (R (-zl[i].2)) = leaT zl (i + 1) := by
  unfold leaT
  have e1 : ((zl.take i).map fun b => R (-b.2)).length = i := by simp; omega
  have e2 : zl.length - i = (zl.length - (i + 1)) + 1 := by omega
  rw [List.set_append_right _ _ (by omega), e1, Nat.sub_self, e2, List.replicate_succ, List.set_cons_zero, List.take_add_one, List.getElem?_eq_getElem h]
  simp only [Option.toList_some, List.map_append, List.map_cons, List.map_nil, List.append_assoc, List.singleton_append]
theorem leaT_zero (zl : List BQ) : leaT zl 0 = List.replicate zl.length [] := by unfold leaT; simp
theorem leaT_all (zl : List BQ) : leaT zl zl.length = rx (leastL zl) := by unfold leaT leastL rx; simp
def untT (m i : Nat) : List BT := (List.range i).map fun j => (rx (unitL m j), [48])
theorem untT_succ (m i : Nat) : untT m (i + 1) = untT m i ++ [(rx (unitL m i), [48])] := by unfold untT; rw [List.range_succ, List.map_append]; rfl
theorem unitT (m i : Nat) : (List.replicate m [48] ++ List.replicate (m - m) ([] : List UInt8)).set i [45, 49] = rx (unitL m i) := by
  unfold unitL zs rx
  rw [List.map_set, List.map_replicate, Nat.sub_self, dR0, dRm]
  simp
def dulT (zl : List BQ) (zg : List Rat) (k : Nat) : List BT := untT zl.length zl.length ++ (List.range k).flatMap fun k => [(rx (colL zl k), R (nth zg k)), (rx ((colL zl k).map fun x => -x), R (-nth zg k))]
theorem dulT_zero (zl : List BQ) (zg : List Rat) : dulT zl zg 0 = untT zl.length zl.length := by unfold dulT; simp
theorem dulT_succ (zl : List BQ) (zg : List Rat) (k : Nat) : dulT zl zg (k + 1) = dulT zl zg k ++ [(rx (colL zl k), R (nth zg k)), (rx ((colL zl k).map fun x => -x), R (-nth zg k))] := by
  unfold dulT; rw [List.range_succ, List.flatMap_append]; simp
theorem dulT_len (zl : List BQ) (zg : List Rat) (k : Nat) : (dulT zl zg k).length = zl.length + 2 * k := by
  induction k with
  | zero => rw [dulT_zero]; unfold untT; simp
  | succ k ih => rw [dulT_succ, List.length_append, ih]; simp only [List.length_cons, List.length_nil]; omega
theorem dulT_all (zl : List BQ) (zg : List Rat) (n : Nat) : dulT zl zg n = bx (dualL n zl zg) := by
  unfold dulT dualL untT bx
  rw [List.map_append, List.map_map, List.map_flatMap]
  simp only [Function.comp_def, dR0, List.map_cons, List.map_nil]
def colT (zl : List BQ) (k j : Nat) : List (List UInt8) := (zl.take j).map fun b => R (nth b.1 k)
def negT (zl : List BQ) (k j : Nat) : List (List UInt8) := (zl.take j).map fun b => R (-nth b.1 k)
theorem colT_succ (zl : List BQ) (k j : Nat) (h : j < zl.length) : colT zl k (j + 1) = colT zl k j ++ [R (nth zl[j].1 k)] := by
  unfold colT; rw [List.take_add_one, List.getElem?_eq_getElem h]; simp only [Option.toList_some, List.map_append, List.map_cons, List.map_nil]
theorem negT_succ (zl : List BQ) (k j : Nat) (h : j < zl.length) : negT zl k (j + 1) = negT zl k j ++ [R (-nth zl[j].1 k)] := by
  unfold negT; rw [List.take_add_one, List.getElem?_eq_getElem h]; simp only [Option.toList_some, List.map_append, List.map_cons, List.map_nil]
theorem colT_all (zl : List BQ) (k : Nat) : colT zl k zl.length = rx (colL zl k) := by unfold colT colL rx; simp
theorem negT_all (zl : List BQ) (k : Nat) : negT zl k zl.length = rx ((colL zl k).map fun x => -x) := by unfold negT colL rx; simp
theorem colT_len (zl : List BQ) (k j : Nat) : (colT zl k j).length ≤ zl.length := by unfold colT; simp; omega
theorem negT_len (zl : List BQ) (k j : Nat) : (negT zl k j).length ≤ zl.length := by unfold negT; simp; omega
end Sx
/-- Both lists while a bound's copy lies at N. -/
structure InS (w0 w : World) (N : Nat) (u sm v1 v2 : Value) (l1 l2 : List (List UInt8)) : Prop where
  tw : TwS w0 w v1 v2 l1 l2
  cp : Pre w N 33 [u, sm]
theorem InS.to {w0 w w' : World} {N : Nat} {u sm v1 v2 : Value} {l1 l2 : List (List UInt8)} (h : InS w0 w N u sm v1 v2 l1 l2) (hb : Below w.heap.size w w') : InS w0 w' N u sm v1 v2 l1 l2 := ⟨h.tw.to hb, h.cp.below' hb⟩
theorem InS.app1 {w0 w w' : World} {N : Nat} {u sm v1 v2 v' : Value} {l1 l2 l' : List (List UInt8)} (h : InS w0 w N u sm v1 v2 l1 l2) (ho : OwnS w' w0.heap.size v' l') (hg : w.grownBy w' v1.ownBlock) (hd : v'.ownBlock = v1.ownBlock ∨ v'.ownBlock = some w.heap.size) : InS w0 w' N u sm v' v2 l' l2 :=
  ⟨h.tw.app ho hg hd, h.cp.grown hg (pre_not_row h.cp h.tw.o1 (by decide))⟩
theorem InS.app2 {w0 w w' : World} {N : Nat} {u sm v1 v2 v' : Value} {l1 l2 l' : List (List UInt8)} (h : InS w0 w N u sm v1 v2 l1 l2) (ho : OwnS w' w0.heap.size v' l') (hg : w.grownBy w' v2.ownBlock) (hd : v'.ownBlock = v2.ownBlock ∨ v'.ownBlock = some w.heap.size) : InS w0 w' N u sm v1 v' l1 l' :=
  ⟨(h.tw.swap.app ho hg hd).swap, h.cp.grown hg (pre_not_row h.cp h.tw.o2 (by decide))⟩
theorem size_setX (w : World) (a : Addr) (v : Value) : (w.setCell a v).heap.size = w.heap.size := by
  show (w.heap.modify _ _).size = _
  simp
theorem SrcE.newX (w : World) (u : Value) (b : M.BT) (A : Nat) (hA : A = w.heap.size) : SrcE (w.alloc (.cells #[u, .string (bs b.2)] 33 (0, 0))) (.slice (some ⟨A, 0, none⟩) 1 1) [(u, b)] := by
  subst hA; exact SrcE.new w u b
theorem SrcE.new2 (w : World) (x y : Value × M.BT) : SrcE (w.alloc (.cells #[x.1, .string (bs x.2.2), y.1, .string (bs y.2.2)] 33 (0, 0))) (.slice (some ⟨w.heap.size, 0, none⟩) 2 2) [x, y] := by
  refine Or.inr ⟨⟨w.heap.size, 0, none⟩, 2, rfl, fun j v hj => ?_⟩
  have hadd : (⟨w.heap.size, 0, none⟩ : Addr).add j = ⟨w.heap.size, j, none⟩ := by unfold Addr.add; split <;> simp_all
  rw [hadd]
  exact (Row.new w 33 [x.1, .string (bs x.2.2), y.1, .string (bs y.2.2)]).cell hj
theorem OwnE.shapeX {w : World} {B : Nat} {v : Value} {l : List (Value × M.BT)} (h : OwnE w B v l) : ∃ A n c, v = .slice A n c := by
  rcases h.2 with ⟨hv, _⟩ | ⟨g, cap, cur, hv, _⟩
  · exact ⟨_, _, _, hv⟩
  · exact ⟨_, _, _, hv⟩
theorem TwS.goodD {w0 w : World} {B : Nat} {v1 v2 : Value} {l1 l2 : List (List UInt8)} (h : TwS w0 w v1 v2 l1 l2) (hB : B ≤ w0.heap.size) (q1 q2 : List UInt8) : GoodD w B [(v1, (l1, q1)), (v2, (l2, q2))] := fun x hx => by
  simp only [List.mem_cons, List.not_mem_nil, or_false] at hx
  rcases hx with rfl | rfl
  · exact ⟨_, hB, h.o1⟩
  · exact ⟨_, hB, h.o2⟩
namespace W
open M Sx
attribute [local go_sem] bs_size bs_toList bs_get bs_extract bs_append bs_lit0 bs_lit1 lit1_bs
set_option maxHeartbeats 4000000
set_option maxRecDepth 20000
/-- What 'Most' returns, in short. -/
def dS (r : (Rat × List Rat × List Rat) ⊕ Nat) : List UInt8 := match r with
  | .inl (v, _, _) => R v
  | .inr _ => []
def dC (r : (Rat × List Rat × List Rat) ⊕ Nat) : Int := match r with
  | .inl _ => 0
  | .inr k => (k : Int)
theorem mostD {W : World} {r : (Rat × List Rat × List Rat) ⊕ Nat} {e : Ending} {w' : World} (h : MostP W r e w') : ∃ v1 v2, e = .returned (.tuple #[.string (bs (dS r)), v1, v2, .int .i64 (dC r)]) ∧ Below W.heap.size W w' := by
  cases r with
  | inl s => obtain ⟨v, p, q⟩ := s; obtain ⟨v1, v2, e, _, _, hb⟩ := h; exact ⟨v1, v2, e, hb⟩
  | inr k => exact ⟨_, _, h.1, h.2⟩
theorem R_posD (q : Rat) : 0 < (R q).length := by
  have h2 := D_le_I q.num
  have h4 : (D q.num.natAbs).length ≠ 0 := fun h4 => D_ne _ (List.eq_nil_of_length_eq_zero h4)
  unfold R
  split
  · omega
  · rw [List.length_append]; omega
theorem duals_main (k : Nat) (zl : List BQ) (zg : List Rat) (vl vg : Value) (w : World) (hg : Glob w) (hl : RdB w vl (bx zl)) (hgo : RdT w vg (rx zg))
    (hr : RightS k zl) (hf : FewS k zl.length) (hk2 : k ≤ 2) (hm1 : 1 ≤ zl.length) (hm4 : zl.length ≤ 4) (hgl : zg.length = k) (hgq : ∀ x ∈ zg, Sq x)
    (hrt : ∀ W, Below w.heap.size w W → Calls Tryz.prog 10 #[.int .i64 (k : Int), vl] W (Ret W (.bool true)))
    (hsh : ∀ W, Below w.heap.size w W → Calls Tryz.prog 11 #[vg] W (Ret W (.bool true)))
    (hnu : ∀ W, Below w.heap.size w W → Calls Tryz.prog 12 #[vg] W (Ret W (.int .i64 0))) :
    Calls Tryz.prog 3 #[.int .i64 (k : Int), vl, vg] w (Ret w (.bool true)) := by
  obtain ⟨e1, r1, f1, m1⟩ := pmost_found hr hgl hgq hf hm1
  obtain ⟨r2, f2, m2⟩ := pmost_dual hr hgq (by omega) hm1 (by omega)
  have hcs := duals f1 f2
  have hv1 := fun v p q (e : r1 = .inl (v, p, q)) => (found_value hr hgq hf (e ▸ f1)).1
  have hmD1 := fun W (hW : Below w.heap.size w W) => (m1 vl vg W (hg.of hW) (hl.below hW) (hgo.below hW)).mono fun e w' h => mostD h
  have hmD2 := fun vd ve W (hW : Below w.heap.size w W) h1 h2 => (m2 vd ve W (hg.of hW) h1 h2).mono fun e w' h => mostD h
  obtain ⟨c1, hc1e⟩ : ∃ c1 : Int, c1 = dC r1 := ⟨_, rfl⟩
  obtain ⟨c2, hc2e⟩ : ∃ c2 : Int, c2 = dC r2 := ⟨_, rfl⟩
  obtain ⟨s1, hs1e⟩ : ∃ s1 : List UInt8, s1 = dS r1 := ⟨_, rfl⟩
  obtain ⟨s2, hs2e⟩ : ∃ s2 : List UInt8, s2 = dS r2 := ⟨_, rfl⟩
  rw [← hc1e, ← hs1e] at hmD1
  rw [← hc2e, ← hs2e] at hmD2
  have hcase : (c1 = 0 ∧ c2 = 0 ∧ ∃ v, s1 = R v ∧ s2 = R (-v) ∧ ∃ k, k ≤ 290 ∧ Bq k v) ∨ (c1 = 14 ∧ c2 = 6) ∨ (c1 = 6 ∧ (c2 = 14 ∨ c2 = 6)) := by
    rcases hcs with ⟨v, p, q, y, z, e1, e2⟩ | ⟨e1, e2⟩ | ⟨e1, e2 | e2⟩
    · subst e1; subst e2; exact Or.inl ⟨hc1e, hc2e, v, hs1e, hs2e, hv1 _ _ _ rfl⟩
    · subst e1; subst e2; exact Or.inr (Or.inl ⟨hc1e, hc2e⟩)
    · subst e1; subst e2; exact Or.inr (Or.inr ⟨hc1e, Or.inl hc2e⟩)
    · subst e1; subst e2; exact Or.inr (Or.inr ⟨hc1e, Or.inr hc2e⟩)
  have HCASE := Lib.hid hcase
  have HM1 := Lib.hid hmD1
  have HM2 := Lib.hid hmD2
  have HAW := Lib.hid (fun W (hW : Below w.heap.size w W) => awake5 W (hg.of hW))
  have HRT := Lib.hid hrt
  have HSH := Lib.hid hsh
  have HNU := Lib.hid hnu
  have HL := Lib.hid (fun W (hW : Below w.heap.size w W) => hl.below hW)
  have HG := Lib.hid (fun W (hW : Below w.heap.size w W) => hgo.below hW)
  have HTU := Lib.hid (fun i (hi : i < zl.length) W => turned_R zl[i].2 W ((hr _ (List.getElem_mem hi)).2.2.bq.sh (by decide) (by decide)))
  have HTR := Lib.hid (fun i (hi : i < zl.length) j W => turned_R (nth zl[i].1 j) W ((nth_sq (hr _ (List.getElem_mem hi)).2.1 j).bq.sh (by decide) (by decide)))
  have HTG := Lib.hid (fun j W => turned_R (nth zg j) W ((nth_sq hgq j).bq.sh (by decide) (by decide)))
  have HRW := Lib.hid (fun i (hi : i < zl.length) => (hr _ (List.getElem_mem hi)).1)
  have HZG := Lib.hid hgl
  obtain ⟨Al, cl, rfl⟩ := hl.len
  obtain ⟨Ag, cg, rfl⟩ := hgo.len
  have hlm := bx_len zl
  have hlg : (rx zg).length = k := by rw [rx_len]; exact hgl
  rw [hlg] at HM1 HSH HNU HG ⊢
  rw [hlm] at HM1 HRT HL ⊢
  have HLL := Lib.hid hlm
  obtain ⟨m, hm⟩ : ∃ m, m = zl.length := ⟨_, rfl⟩
  rw [← hm] at HM1 HRT HL HM2 ⊢
  have hmk := make_rt m (by omega)
  have HMM := Lib.hid hm
  have hmm1 : 1 ≤ m := by omega
  have hmm4 : m ≤ 4 := by omega
  have d1 : decide ((2 : Int) < (k : Int)) = false := decide_eq_false (by omega)
  have d2 : decide ((m : Int) < 1) = false := decide_eq_false (by omega)
  have d3 : decide ((4 : Int) < (m : Int)) = false := decide_eq_false (by omega)
  clear hcs hv1 hmD1 hmD2 hc1e hc2e hs1e hs2e hcase m1 m2 f1 f2 hr hf hm1 hm4 hgl hgq hrt hsh hnu hl hgo hlm hlg hg hm
  go_enter Tryz.func3, Tryz.ntmps3
  go_wp2_with fail
  refine (HRT.out _ (Below.refl _ _)).mono ?_
  rintro e w1 ⟨rfl, hb1⟩
  go_wp2_with fail
  refine (HSH.out _ hb1).mono ?_
  rintro e w2 ⟨rfl, hb2⟩
  have hb2' := bel_to hb1 hb2
  go_wp2_with fail
  refine (HNU.out _ hb2').mono ?_
  rintro e w3 ⟨rfl, hb3⟩
  have hb3' := bel_to hb2' hb3
  clear hb1 hb2 hb2' hb3 HRT HSH HNU
  go_wp2_with fail
  refine (HM1.out _ hb3').mono ?_
  rintro e4 w4 ⟨x1, x2, rfl, hb4⟩
  have H4 := Lib.hid (bel_to hb3' hb4)
  clear hb3' hb4 HM1 d1 d2 d3
  go_wp2_with fail
  have hd0 : DuS w (w4.alloc (.cells (Strs (List.replicate m [])).toArray 28 (0, 0))) w4.heap.size (.slice none 0 0) [] (leaT zl 0) := by
    refine ⟨World.ownsRow_nil _ _ _ _, (fun x hx => by cases hx), ?_, bel_alloc H4.out _, H4.out.size⟩
    rw [leaT_zero, ← HMM.out]
    exact rnw
  have HD0 := Lib.hid hd0
  clear hd0 hmk
  generalize w4.alloc (.cells (Strs (List.replicate m [])).toArray 28 (0, 0)) = w5 at *
  have HB0 := Lib.hid (show w.heap.size ≤ w4.heap.size from H4.out.size)
  generalize w4.heap.size = bL at *
  clear H4
  go_loopw [12, 76] (fun vd iv wr => ∃ (i : Nat) (es : List (Value × BT)), iv = .int .i64 (i : Int) ∧ i ≤ m ∧ Hid (DuS w wr bL vd es (leaT zl i)) ∧ Hid (es.map (·.2) = untT zl.length i)) (fun _ iv _ => m - (intOf iv).toNat)
  case atStart => exact ⟨0, [], rfl, by omega, HD0, Lib.hid rfl⟩
  case round =>
    clear HD0
    obtain ⟨i, es, rfl, hi, hin, hes⟩ := hrel
    by_cases hlt : i < m
    · have hiz : i < zl.length := by rw [← HMM.out]; exact hlt
      obtain ⟨b1, o1, rfl, hw⟩ := (HL.out _ hin.out.bel).row i (by rw [HLL.out]; exact hiz)
      obtain ⟨ug, g1, g2, g3, g4⟩ := bound_at hw i hiz
      obtain ⟨Au, cu, rfl⟩ := g2.len
      have HT := Lib.hid (HTU.out i hiz)
      have HLS := Lib.hid (leaT_set zl i hiz)
      have HLN := Lib.hid (leaT_len zl (Nat.le_of_lt hiz))
      have hi1 : (i : Int) < (m : Int) := by omega
      have hi0 : (0 : Int) ≤ (i : Int) := by omega
      have hel := congrArg List.length hes.out
      rw [List.length_map, show (untT zl.length i).length = i by unfold untT; simp] at hel
      have HEL := Lib.hid hel
      clear hw g2 g3 hel
      generalize (rx zl[i].1).length = nu at *
      generalize R (-zl[i].2) = tq at *
      generalize R zl[i].2 = sq at *
      obtain ⟨Av, nv, cv, rfl⟩ := OwnE.shapeX hin.out.own
      go_wp2_with fail
      refine (HT.out _).mono ?_
      rintro e w6 ⟨rfl, hb6⟩
      have HD6 := Lib.hid (hin.out.to (bel_to (bel_alloc (Below.refl _ _) _) hb6))
      have HD7 := Lib.hid (HD6.out.put (k := i) tq)
      rw [HLS.out] at HD7
      have fz := HD6.out.least.free i
      obtain ⟨old, hold⟩ : ∃ old, w6.cell? ⟨bL, i, none⟩ = some old := ⟨_, HD6.out.least.cell (i := i) (List.getElem?_eq_getElem (by simp [Strs]; rw [HLN.out]; exact hiz))⟩
      have hx1 : ((w6.setCell ⟨bL, i, none⟩ (.string (bs tq))).alloc (.cells #[.string (bs [48])] 28 (0, 0))).cell? ⟨w6.heap.size, 0, none⟩ = some (.string (bs [48])) := (rnew0 (xs := [.string (bs [48])]) (size_setX w6 ⟨bL, i, none⟩ (.string (bs tq))).symm).cell (i := 0) rfl
      have HX := Lib.hid (prepeat _ 1 m _ hx1 hmm1 (by omega))
      clear hb6 hin g1 g4 HT
      go_wp2_with fail
      clear fz hold
      refine HX.out.mono ?_
      rintro e w8 ⟨g, rfl, hga, hrow, hb8⟩
      have hdr := DuR.new HD7.out (bel_to (bel_alloc (Below.refl _ _) _) hb8) (Nat.le_trans (by rw [World.size_alloc]; omega) hga) hrow
      have HR8 := Lib.hid hdr
      have hdp := hdr.put (k := i) [45, 49]
      rw [unitT] at hdp
      have HR9 := Lib.hid hdp
      have fz := HR8.out.row.free i
      obtain ⟨old2, hold2⟩ : ∃ old, w8.cell? ⟨g, i, none⟩ = some old := ⟨_, HR8.out.row.cell (i := i) (List.getElem?_eq_getElem (by simp [Strs]; exact hlt))⟩
      clear hga hrow hb8 hdr hdp HX HD6 HD7 hx1 HLS
      have HRN := Lib.hid (show m = (rx (unitL m i)).length by rw [rx_len, unit_len])
      go_wp2_with (at_builtin; refine wpList_app_e rfl (.tmp 93) (.tmp 96) rfl rfl rfl (World.ownsRow.alloc HR9.out.st.own _) (SrcE.newX _ (.slice (some ⟨g, 0, none⟩) m m) (rx (unitL m i), [48]) w8.heap.size (size_setX w8 ⟨g, i, none⟩ (.string (bs [45, 49]))).symm) ((HR9.out.to (bel_alloc (Below.refl _ _) _)).goodD (by rw [← HRN.out]; unfold maxLen; omega) m HRN.out [48]).good (HR9.out.to (bel_alloc (Below.refl _ _) _)).st.size (by simp only [List.length_cons, List.length_nil]; rw [HEL.out]; omega) ?_; intro v2 wz ho2 hk2; have HD10 := Lib.hid ((HR9.out.to (bel_alloc (Below.refl _ _) _)).st.app ((HR9.out.to (bel_alloc (Below.refl _ _) _)).goodD (by rw [← HRN.out]; unfold maxLen; omega) m HRN.out [48]) ho2 hk2); clear ho2 hk2)
      clear fz hold2 HR8 HR9
      go_wp2
      go_roundw
      case rel => exact ⟨i + 1, _, by go_num, hlt, HD10, Lib.hid (by rw [List.map_append, hes.out, untT_succ, ← HMM.out]; rfl)⟩
      case measure => simp [intOf]; omega
    · obtain rfl : m = i := by omega
      have hes2 := hes.out
      have hin2 := hin.out
      rw [HMM.out, ← dulT_zero zl zg] at hes2
      rw [HMM.out, leaT_all] at hin2
      have HES := Lib.hid hes2
      have HIN := Lib.hid hin2
      clear hes hin hes2 hin2
      obtain ⟨Av, nv, cv, rfl⟩ := OwnE.shapeX HIN.out.own
      go_wp2
      go_loopw [12, 100] (fun vd iv wr => ∃ (j : Nat) (es : List (Value × BT)), iv = .int .i64 (j : Int) ∧ j ≤ k ∧ Hid (DuS w wr bL vd es (rx (leastL zl))) ∧ Hid (es.map (·.2) = dulT zl zg j)) (fun _ iv _ => k - (intOf iv).toNat)
      case atStart => exact ⟨0, es, rfl, by omega, HIN, HES⟩
      case round =>
        clear HIN HES es
        obtain ⟨j, es, rfl, hj, hin, hes⟩ := hrel
        obtain ⟨Av, nv, cv, rfl⟩ := OwnE.shapeX hin.out.own
        by_cases hjk : j < k
        · have hjk0 : (0 : Int) ≤ (j : Int) := by omega
          have hjk1 : (j : Int) < (k : Int) := by omega
          have hel := congrArg List.length hes.out
          rw [List.length_map, dulT_len, ← HMM.out] at hel
          have HEL := Lib.hid hel
          clear hel
          go_wp2
          obtain ⟨wO, hwO⟩ : ∃ x, x = wr := ⟨_, rfl⟩
          subst hwO
          go_loopw [18, 19, 105] (fun v1 v2 iv wz => ∃ i : Nat, iv = .int .i64 (i : Int) ∧ i ≤ m ∧ Hid (TwS wO wz v1 v2 (colT zl j i) (negT zl j i))) (fun _ _ iv _ => m - (intOf iv).toNat)
          case atStart => exact ⟨0, rfl, by omega, Lib.hid (TwS.nil wO)⟩
          case round =>
            obtain ⟨i, rfl, hi, htw⟩ := hrel
            obtain ⟨A1, c1', e1'⟩ := htw.out.o1.form'
            obtain ⟨A2, c2', e2'⟩ := htw.out.o2.form'
            have HN12 := Lib.hid (And.intro (colT_len zl j i) (negT_len zl j i))
            generalize hn1 : (colT zl j i).length = n1 at e1'
            generalize hn2 : (negT zl j i).length = n2 at e2'
            subst e1' e2'
            by_cases hlt : i < m
            · have hiz : i < zl.length := by rw [← HMM.out]; exact hlt
              obtain ⟨b1, o1, rfl, hw⟩ := (HL.out _ hin.out.bel).row i (by rw [HLL.out]; exact hiz)
              obtain ⟨ug, g1, g2, g3, g4⟩ := bound_at hw i hiz
              obtain ⟨Au, cu, rfl⟩ := g2.len
              have hjr : j < (rx zl[i].1).length := by rw [rx_len, HRW.out i hiz]; exact hjk
              obtain ⟨b2, o2, rfl, hts⟩ := g2.row j hjr
              have hjr2 : j < zl[i].1.length := by rw [rx_len] at hjr; exact hjr
              have hcv := hts.val j hjr
              rw [rx_get zl[i].1 j hjr2, ← nth_get zl[i].1 j hjr2] at hcv
              have HT := Lib.hid (HTR.out i hiz j)
              have HC1 := Lib.hid (colT_succ zl j i hiz)
              have HC2 := Lib.hid (negT_succ zl j i hiz)
              have hi1 : (i : Int) < (m : Int) := by omega
              have hi0 : (0 : Int) ≤ (i : Int) := by omega
              have hju : (j : Int) < (((rx zl[i].1).length : Nat) : Int) := by omega
              have q1 := (htw.out.bel.cell (block_lt_of_cell g1)).trans g1
              have q4 := (htw.out.bel.cell (block_lt_of_cell g4)).trans g4
              have HCV := Lib.hid hcv
              clear hw g1 g2 g3 g4 hjr hjr2 hts hcv
              generalize (rx zl[i].1).length = nu at *
              generalize R (-nth zl[i].1 j) = tq at *
              generalize R (nth zl[i].1 j) = sq at *
              generalize R zl[i].2 = sm at *
              have hbA := bel_alloc (Below.refl wr.heap.size wr) (.cells #[.slice (some ⟨b2, o2, none⟩) nu cu, .string (bs sm)] 33 (0, 0))
              have HI0 : Hid (InS wO (wr.alloc (.cells #[.slice (some ⟨b2, o2, none⟩) nu cu, .string (bs sm)] 33 (0, 0))) wr.heap.size (.slice (some ⟨b2, o2, none⟩) nu cu) (.string (bs sm)) (.slice A1 n1 c1') (.slice A2 n2 c2') (colT zl j i) (negT zl j i)) := Lib.hid ⟨htw.out.to hbA, Pre.of rnw⟩
              go_wp2_with fail
              clear q1 q4 hbA
              obtain ⟨N, hN⟩ : ∃ N, N = wr.heap.size := ⟨_, rfl⟩
              obtain ⟨W5, hW5⟩ : ∃ W5, W5 = wr.alloc (.cells #[.slice (some ⟨b2, o2, none⟩) nu cu, .string (bs sm)] 33 (0, 0)) := ⟨_, rfl⟩
              rw [← hW5, ← hN] at HI0 ⊢
              clear hN hW5
              have HCX := Lib.hid (fun E v1 v2 l1 l2 (hI : InS wO E N (.slice (some ⟨b2, o2, none⟩) nu cu) (.string (bs sm)) v1 v2 l1 l2) => (And.intro (hI.cp.cell (i := 0) rfl) ((hI.tw.bel.cell (block_lt_of_cell HCV.out)).trans HCV.out) : E.cell? ⟨N, 0, none⟩ = some (.slice (some ⟨b2, o2, none⟩) nu cu) ∧ E.cell? ⟨b2, o2 + j, none⟩ = some (.string (bs sq))))
              have HS := Lib.hid (show (colT zl j i).length + 1 ≤ 1000000000 ∧ (negT zl j i).length + 1 ≤ 1000000000 from ⟨by rw [hn1]; have := HN12.out.1; have := HMM.out; omega, by rw [hn2]; have := HN12.out.2; have := HMM.out; omega⟩)
              clear hn1 hn2
              go_region_held3 (fun E => E.cell? ⟨N, 0, none⟩ = some (.slice (some ⟨b2, o2, none⟩) nu cu) ∧ E.cell? ⟨b2, o2 + j, none⟩ = some (.string (bs sq)))
                (first | exact HCX.out _ _ _ _ _ HI4.out | exact HCX.out _ _ _ _ _ (HI3.out.to (bel_alloc (Below.refl _ _) _)) | exact HCX.out _ _ _ _ _ HI3.out | exact HCX.out _ _ _ _ _ HI2.out | exact HCX.out _ _ _ _ _ (HI0.out.to (RowKit.Below.drew (bel_alloc (Below.refl _ _) _))) | exact HCX.out _ _ _ _ _ (HI0.out.to (RowKit.Below.drew (Below.refl _ _))))
                (first
                | (refine step_appS_at rfl (.tmp 117) (.tmp 124) rfl rfl rfl (HI3.out.to (bel_alloc (Below.refl _ _) _)).tw.o2 rfl (rnw.cell (i := 0) rfl) (HI3.out.to (bel_alloc (Below.refl _ _) _)).tw.bel.size HS.out.2 ?_; intro v4 w4 ho4 hk4 hd4; obtain ⟨A4, k4, e4⟩ := ho4.form'; generalize (negT zl j i ++ [tq]).length = n4 at e4; subst e4; have HI4 := Lib.hid ((HI3.out.to (bel_alloc (Below.refl _ _) _)).app2 ho4 hk4 hd4); clear ho4 hk4 hd4)
                | (go_at_call 15; refine (HT.out _).mono ?_; rintro e w3 ⟨rfl, hb3⟩; have HI3 := Lib.hid (HI2.out.to hb3); clear hb3)
                | (refine step_appS_at rfl (.tmp 109) (.tmp 115) rfl rfl rfl (HI0.out.to (RowKit.Below.drew (bel_alloc (Below.refl _ _) _))).tw.o1 rfl (rnw.cell (i := 0) rfl) (HI0.out.to (RowKit.Below.drew (bel_alloc (Below.refl _ _) _))).tw.bel.size HS.out.1 ?_; intro v2 w2 ho2 hk2 hd2; obtain ⟨A3, k3, e3⟩ := ho2.form'; generalize (colT zl j i ++ [sq]).length = n3 at e3; subst e3; have HI2 := Lib.hid ((HI0.out.to (RowKit.Below.drew (bel_alloc (Below.refl _ _) _))).app1 ho2 hk2 hd2); clear ho2 hk2 hd2))
              all_goals
                clear HCX HI0 HI2 HI3 HT
                go_wp2
                go_roundw
                case rel => exact ⟨i + 1, by go_num, hlt, Lib.hid (by rw [HC1.out, HC2.out]; exact HI4.out.tw)⟩
                case measure => simp [intOf]; omega
            · obtain rfl : m = i := by omega
              clear hn1 hn2 HN12
              have htw2 := htw.out
              rw [show colT zl j m = rx (colL zl j) by rw [HMM.out]; exact colT_all zl j, show negT zl j m = rx ((colL zl j).map fun x => -x) by rw [HMM.out]; exact negT_all zl j] at htw2
              have HTW := Lib.hid htw2
              have HDU := Lib.hid (hin.out.to htw2.bel)
              have HLO := Lib.hid (show bL + 1 ≤ wO.heap.size from hin.out.size)
              obtain ⟨bg, og, rfl, hgs⟩ := (HG.out _ (Below.refl _ _)).row j (by rw [rx_len, HZG.out]; exact hjk)
              have hcv := hgs.val j (by rw [rx_len, HZG.out]; exact hjk)
              rw [rx_get zg j (by rw [HZG.out]; exact hjk), ← nth_get zg j (by rw [HZG.out]; exact hjk)] at hcv
              have HCX := Lib.hid (fun E (hE : Below w.heap.size w E) => ((hE.cell (block_lt_of_cell hcv)).trans hcv : E.cell? ⟨bg, og + j, none⟩ = some (.string (bs (R (nth zg j))))))
              have HT := Lib.hid (HTG.out j)
              have HCC := Lib.hid (dulT_succ zl zg j)
              clear hgs hcv htw htw2 hin
              generalize R (-nth zg j) = tq at *
              generalize R (nth zg j) = sq at *
              go_wp2_with fail
              go_region_held3 (fun E => E.cell? ⟨bg, og + j, none⟩ = some (.string (bs sq)))
                (first | exact HCX.out _ HD4.out.bel | exact HCX.out _ (HDU.out.to (HB3.out.alloc HB3.out.size _)).bel | exact HCX.out _ (HDU.out.to HB3.out).bel | exact HCX.out _ (HDU.out.to (RowKit.Below.drew (Below.refl _ _))).bel)
                (first
                | (refine step_app_e (m := [((.slice A1 n1 c1' : Value), ((rx (colL zl j), sq) : BT)), (.slice A2 n2 c2', ((rx ((colL zl j).map fun x => -x), tq) : BT))]) rfl (.tmp 127) (.tmp 141) rfl rfl rfl (HDU.out.to (HB3.out.alloc HB3.out.size _)).own (SrcE.new2 w3 ((.slice A1 n1 c1' : Value), ((rx (colL zl j), sq) : BT)) ((.slice A2 n2 c2' : Value), ((rx ((colL zl j).map fun x => -x), tq) : BT))) ((HTW.out.to (HB3.out.alloc HB3.out.size _)).goodD HLO.out sq tq).good (HDU.out.to (HB3.out.alloc HB3.out.size _)).size (by simp only [List.length_cons, List.length_nil]; have := HEL.out; omega) ?_; intro v4 w4 ho4 hk4; obtain ⟨A4, n4, k4, e4⟩ := OwnE.shapeX ho4; subst e4; have HD4 := Lib.hid ((HDU.out.to (HB3.out.alloc HB3.out.size _)).app ((HTW.out.to (HB3.out.alloc HB3.out.size _)).goodD HLO.out sq tq) ho4 hk4); clear ho4 hk4)
                | (go_at_call 15; refine (HT.out _).mono ?_; rintro e w3 ⟨rfl, hb3⟩; have HB3 := Lib.hid (bel_to (RowKit.Below.drew (Below.refl _ _)) hb3); clear hb3))
              all_goals
                clear HCX HT HB3 HTW HDU
                go_wp2
                go_roundw
                case rel => exact ⟨j + 1, _, by go_num, hjk, HD4, Lib.hid (by rw [List.map_append, hes.out, HCC.out]; rfl)⟩
                case measure => simp [intOf]; omega
        · obtain rfl : k = j := by omega
          have hes2 := hes.out
          rw [dulT_all] at hes2
          have hrd := hin.out.own.rd hin.out.good.good
          rw [hes2] at hrd
          have hrl := rdt_row (cap := m) hin.out.least
          rw [show (rx (leastL zl)).length = m by rw [rx_len, HMM.out]; unfold leastL; simp] at hrl
          have HX := Lib.hid (HM2.out _ _ _ hin.out.bel hrd hrl)
          have HB := Lib.hid hin.out.bel
          clear hes hes2 hrd hrl hin HM2
          go_wp2_with fail
          refine HX.out.mono ?_
          rintro e9 w9 ⟨y1, y2, rfl, hb9⟩
          have HB9 := Lib.hid (bel_to HB.out hb9)
          clear hb9 HX HB
          rcases HCASE.out with ⟨rfl, rfl, v, rfl, rfl, kv, hkv, hqv⟩ | ⟨rfl, rfl⟩ | ⟨rfl, rfl | rfl⟩
          · clear HCASE
            have hqn := Bq.neg hqv
            have hll : (R (-v)).length ≤ 2051 := hqn.R_len (by omega)
            have hch : chkRs [R (-v)] = 0 := by rw [chkRs, hqn.chk (by omega), if_pos rfl, chkRs]
            have HNU := Lib.hid (fun W : World => (by
              have h := rnumbers (.slice (some ⟨W.heap.size, 0, none⟩) 1 1) [R (-v)] (W.alloc (.cells #[.string (bs (R (-v)))] 28 (0, 0))) (rdt_row (cap := 1) (l := [R (-v)]) rnw) (fun p hp => by rw [List.mem_singleton.1 hp]; omega) (by simp)
              rw [hch] at h
              exact h : Calls Tryz.prog 12 #[.slice (some ⟨W.heap.size, 0, none⟩) 1 1] (W.alloc (.cells #[.string (bs (R (-v)))] 28 (0, 0))) (Ret (W.alloc (.cells #[.string (bs (R (-v)))] 28 (0, 0))) (.int .i64 0))))
            have hor : ∀ W : World, Calls Tryz.prog 15 #[.string (bs (R (-v)))] W (Ret W (.string (bs (R v)))) := fun W => by
              have h := turned_R (-v) W ((hqn.mono (Nat.le_succ _)).sh (by omega) (by omega))
              rwa [show - -v = v by grind] at h
            have HOR := Lib.hid hor
            have z1 : decide ((0 : Int) < (((R (-v)).length : Nat) : Int)) = true := decide_eq_true (by have := R_posD (-v); omega)
            have z2 : 0 < (R (-v)).length := R_posD (-v)
            clear hch hqv hqn hkv hor
            generalize R (-v) = su at *
            generalize R v = sv at *
            go_wp2_with fail
            refine (HNU.out w9).mono ?_
            rintro e7 w10 ⟨rfl, hb10⟩
            have H10 := Lib.hid (bel_to (bel_alloc (Below.refl w9.heap.size w9) _) hb10)
            clear hb10 HNU
            go_wp2_with fail
            refine (HOR.out w10).mono ?_
            rintro e8 w11 ⟨rfl, hb11⟩
            have H11 := Lib.hid (bel_to HB9.out (bel_to H10.out hb11))
            clear hb11 HOR H10
            go_wp2_with fail
            refine (HAW.out _ H11.out).mono ?_
            rintro e w12 ⟨rfl, hb12⟩
            go_wp2
            go_ret
            exact Ret.of rfl (bel_to H11.out hb12)
          · clear HCASE
            go_wp2_with fail
            refine (HAW.out _ HB9.out).mono ?_
            rintro e w12 ⟨rfl, hb12⟩
            go_wp2
            go_ret
            exact Ret.of rfl (bel_to HB9.out hb12)
          · clear HCASE
            go_wp2_with fail
            refine (HAW.out _ HB9.out).mono ?_
            rintro e w12 ⟨rfl, hb12⟩
            go_wp2
            go_ret
            exact Ret.of rfl (bel_to HB9.out hb12)
          · clear HCASE
            go_wp2_with fail
            refine (HAW.out _ HB9.out).mono ?_
            rintro e w12 ⟨rfl, hb12⟩
            go_wp2
            go_ret
            exact Ret.of rfl (bel_to HB9.out hb12)
end W
end Go.Proofs.YtnnhmnaobdnfnaaGreatDoor
end
