/-
  The text of the greatest value has at most 299 characters, plain, for few bounds with short numbers.
  Chapter 5's laws: 'Implied' of the program, 'right' of the laws.
  Chapter 5's laws: 'Turned' of the reference.
  Chapter 5's laws: the lists of the dual program while they are made.
  Chapter 5's laws: ProgramDuals. (Printed by wip/duals.py.)
  ProgramMoves in plain terms: bounds that are moved by a vector, and multiplied by positive numbers.
  Chapter 5: a table without rows: 'width', 'columns', 'first'. (Printed by wip/mz.py out of the texts of tables with rows.)
-/
import Derived.Test.YtijpgddpejiohaaGreatDoorLU
import Derived.Test.YtijpgddpejiohaaGreatDoorLF
import Derived.Test.YtijpgddpejiohaaGreatDoorLP
import Derived.Maps.AppendAt
import Derived.Test.YtijpgddpejiohaaGreatDoorLM
section
namespace Go.Proofs.YtijpgddpejiohaaGreatDoor
open Go
namespace Sx
open M
/-- A row of k short numbers has a common denominator. -/
theorem row_few {m : Nat} (x : Nat → Rat) (h : ∀ r, r < m + 1 → Sq (x r)) :
    ∃ σ : Rat, IsI σ ∧ 1 ≤ σ ∧ σ ≤ ((10 ^ (6 * m + 6) : Nat) : Rat) ∧ (∀ r, r < m + 1 → IsI (σ * x r)) ∧ ∀ r, r < m + 1 → ab (σ * x r) ≤ ((10 ^ (6 * m + 8) : Nat) : Rat) := by
  obtain ⟨σ, h1, h2, h3, h4, h5⟩ := col_short x (fun _ => ((10 ^ 6 : Nat) : Rat)) (((10 ^ (6 * m + 8) : Nat)) : Rat) (fun r hr => sq_cast (h r hr)) fun r hr => by
    rw [pf_upd6 hr, ← Rat.natCast_mul, ← Nat.pow_add, Nat.add_comm]; exact Rat.le_refl
  refine ⟨σ, h1, h2, ?_, h4, h5⟩
  rw [pf_cast, ← Nat.pow_mul, show 6 * (m + 1) = 6 * m + 6 by omega] at h3
  exact h3
theorem lenA : ∀ n, n < 4 → ∀ m, m < 10 → (n = 3 → m < 8) → ((m + 1) * 10 ^ (6 * n + 8)) ^ n * ((m + 1) * 10 ^ (6 * n + 8)) * ((m + 1) * 10 ^ (6 * n + 8)) < 10 ^ 135 := by decide +kernel
theorem lenB : ∀ n, n < 9 → ∀ m, m < 2 → ((m + 1) * 10 ^ (6 * n + 8)) ^ m * ((m + 1) * 10 ^ (6 * n + 8)) < 10 ^ 113 := by decide +kernel
theorem value_few {n : Nat} {l : List BQ} {goal : List Rat} {A : Mx} {b : Nat → Nat} (hr : RightS n l) (hg : ∀ x ∈ goal, Sq x) (hf : FewS n l.length) (h : Inv n l.length (laidA n l) A b) {v : Rat} (hv : v = - zc l.length A b (goalF n goal) (wdt n l.length)) :
    ∃ a d, v.num.natAbs < 10 ^ a ∧ v.den < 10 ^ d ∧ 1 ≤ a ∧ 1 ≤ d ∧ a + d ≤ 290 := by
  obtain ⟨f1, f2, f3, f4⟩ := hf
  obtain ⟨n', rfl⟩ : ∃ n', n = n' + 1 := ⟨n - 1, by omega⟩
  -- the rows' denominators, and the goal's
  have hrow : ∀ i, i < l.length → ∃ σ : Rat, IsI σ ∧ 1 ≤ σ ∧ σ ≤ ((10 ^ (6 * (n' + 1) + 6) : Nat) : Rat) ∧ (∀ r, r < n' + 1 + 1 → IsI (σ * (fun k => if k < n' + 1 then nth (l.getD i ([], 0)).1 k else (l.getD i ([], 0)).2) r)) ∧
      ∀ r, r < n' + 1 + 1 → ab (σ * (fun k => if k < n' + 1 then nth (l.getD i ([], 0)).1 k else (l.getD i ([], 0)).2) r) ≤ ((10 ^ (6 * (n' + 1) + 8) : Nat) : Rat) := fun i hi =>
    row_few _ fun r _ => by
      have hb := hr _ (getD_mem hi)
      show Sq (if r < n' + 1 then nth (l.getD i ([], 0)).1 r else (l.getD i ([], 0)).2)
      split
      · exact nth_sq hb.2.1 r
      · exact hb.2.2
  obtain ⟨g, g1, g2, g3, g4, g5⟩ := row_few (m := n') (fun k => nth goal k) fun r _ => nth_sq hg r
  obtain ⟨s, hs⟩ : ∃ s : Nat → Rat, ∀ i, i < l.length → IsI (s i) ∧ 1 ≤ s i ∧ s i ≤ ((10 ^ (6 * (n' + 1) + 6) : Nat) : Rat) ∧ (∀ k, k < n' + 1 → IsI (s i * nth (l.getD i ([], 0)).1 k) ∧ ab (s i * nth (l.getD i ([], 0)).1 k) ≤ ((10 ^ (6 * (n' + 1) + 8) : Nat) : Rat)) ∧
      IsI (s i * (l.getD i ([], 0)).2) ∧ ab (s i * (l.getD i ([], 0)).2) ≤ ((10 ^ (6 * (n' + 1) + 8) : Nat) : Rat) := by
    refine ⟨fun i => if hi : i < l.length then (hrow i hi).choose else 1, fun i hi => ?_⟩
    simp only [dif_pos hi]
    obtain ⟨a1, a2, a3, a4, a5⟩ := (hrow i hi).choose_spec
    refine ⟨a1, a2, a3, fun k hk => ?_, ?_, ?_⟩
    · have b1 := a4 k (by omega)
      have b2 := a5 k (by omega)
      simp only [if_pos hk] at b1 b2
      exact ⟨b1, b2⟩
    · have b1 := a4 (n' + 1) (by omega)
      simp only [Nat.lt_irrefl, if_false] at b1
      exact b1
    · have b2 := a5 (n' + 1) (by omega)
      simp only [Nat.lt_irrefl, if_false] at b2
      exact b2
  obtain ⟨K, hK⟩ : ∃ K, K = 10 ^ (6 * (n' + 1) + 8) := ⟨_, rfl⟩
  have hK1 : 1 ≤ K := by rw [hK]; exact Nat.pow_pos (by decide)
  obtain ⟨Q, hQ⟩ : ∃ Q, Q = (l.length + 1) * K := ⟨_, rfl⟩
  have hQ1 : 1 ≤ Q := by rw [hQ]; exact Nat.mul_pos (by omega) hK1
  obtain ⟨a, ha, had⟩ : ∃ a, 1 ≤ a ∧ (Q ^ (n' + 1) * Q * Q < 10 ^ a ∨ Q ^ l.length * Q < 10 ^ a) ∧ 2 * a + (6 * n' + 6) ≤ 290 := by
    rw [hQ, hK]
    by_cases hm : l.length ≤ 1
    · exact ⟨113, by decide, Or.inr (lenB _ (by omega) _ (by omega)), by omega⟩
    · exact ⟨135, by decide, Or.inl (lenA _ (by omega) _ (by omega) (by omega)), by omega⟩
  have hgoal : ∀ k, (k < 2 * (n' + 1) ∨ 2 * (n' + 1) + l.length ≤ k) → IsI (g * goalF (n' + 1) goal k) ∧ ab (g * goalF (n' + 1) goal k) ≤ (K : Rat) := fun k _ => by
    have c1 : ∀ k, k < n' + 1 → IsI (g * nth goal k) ∧ ab (g * nth goal k) ≤ (K : Rat) := fun k hk =>
      ⟨g4 k hk, Rat.le_trans (g5 k hk) (Rat.natCast_le_natCast.2 (by rw [hK]; exact Nat.pow_le_pow_right (by decide) (by omega)))⟩
    unfold goalF
    split
    · exact c1 k (by assumption)
    · split
      · obtain ⟨⟨z, hz⟩, c3⟩ := c1 (k - (n' + 1)) (by omega)
        have e : g * - nth goal (k - (n' + 1)) = - (g * nth goal (k - (n' + 1))) := by grind
        rw [e]
        refine ⟨⟨-z, by rw [hz, Rat.intCast_neg]⟩, ?_⟩
        rw [ab_neg]; exact c3
      · rw [Rat.mul_zero]
        refine ⟨⟨0, rfl⟩, ?_⟩
        have : ab 0 = 0 := by decide +kernel
        rw [this]; exact Rat.natCast_nonneg
  have hrow2 : ∀ k, (k < 2 * (n' + 1) ∨ 2 * (n' + 1) + l.length ≤ k) → k ≤ wdt (n' + 1) l.length → ∀ i, i < l.length → IsI (s i * laidA (n' + 1) l i k) ∧ ab (s i * laidA (n' + 1) l i k) ≤ (K : Rat) := fun k hk hk2 i hi => by
    obtain ⟨a1, a2, a3, a4, a5, a6⟩ := hs i hi
    rw [← hK] at a6 a4
    unfold laidA
    unfold wdt at hk2 ⊢
    rw [if_pos hi]
    split
    · exact a4 k (by assumption)
    · split
      · obtain ⟨⟨z, hz⟩, c3⟩ := a4 (k - (n' + 1)) (by omega)
        have e : s i * - nth (l.getD i ([], 0)).1 (k - (n' + 1)) = - (s i * nth (l.getD i ([], 0)).1 (k - (n' + 1))) := by grind
        rw [e]
        refine ⟨⟨-z, by rw [hz, Rat.intCast_neg]⟩, ?_⟩
        rw [ab_neg]; exact c3
      · rw [if_neg (by omega)]
        by_cases h2 : k = 2 * (n' + 1) + l.length
        · rw [if_pos (by omega)]
          have e : s i * -1 = - s i := by grind
          rw [e, ab_neg]
          obtain ⟨z, hz⟩ := a1
          refine ⟨⟨-z, by rw [hz, Rat.intCast_neg]⟩, ?_⟩
          have e2 : ab (s i) = s i := by unfold ab; rw [if_pos (by grind)]
          rw [e2]
          exact Rat.le_trans a3 (Rat.natCast_le_natCast.2 (by rw [hK]; exact Nat.pow_le_pow_right (by decide) (by omega)))
        · rw [if_neg (by omega), if_pos (by omega)]
          exact ⟨a5, a6⟩
  have hpart := value_parts (a := a) (s := s) (g := g) (Q := (Q : Rat)) (laid_of (n' + 1) l) h (c := goalF (n' + 1) goal) (fun j _ => by unfold goalF; rw [if_neg (by omega), if_neg (by omega)]) g1 g2 (fun i hi => ⟨(hs i hi).2.1, (hs i hi).1⟩)
    (Rat.natCast_le_natCast.2 hQ1) (fun k hk hk2 => by
      refine ⟨fun i hi => (hrow2 k hk hk2 i hi).1, (hgoal k hk).1, ?_⟩
      have h1 : sm l.length (fun i => ab (s i * laidA (n' + 1) l i k)) ≤ sm l.length (fun _ => (K : Rat)) := sm_le fun i hi => (hrow2 k hk hk2 i hi).2
      rw [sm_const] at h1
      have h2 := (hgoal k hk).2
      rw [hQ, Rat.natCast_mul, Rat.natCast_add, show ((1 : Nat) : Rat) = 1 from rfl]
      grind)
    (by
      rw [pf_cast, pf_cast, ← Rat.natCast_mul, ← Rat.natCast_mul, ← Rat.natCast_mul]
      rcases had.1 with h2 | h2
      · exact Or.inl (Rat.natCast_lt_natCast.2 h2)
      · exact Or.inr (Rat.natCast_lt_natCast.2 h2))
  obtain ⟨y, hy⟩ : ∃ y, y = g * zc l.length A b (goalF (n' + 1) goal) (wdt (n' + 1) l.length) := ⟨_, rfl⟩
  rw [← hy] at hpart
  have hg0 : g ≠ 0 := fun e => by rw [e] at g2; exact absurd g2 (by decide +kernel)
  have hden := num_den y
  have hdp : (0 : Rat) < (y.den : Rat) := Rat.natCast_pos.2 y.den_pos
  have hgp : 0 < g := by grind
  have hfin := frac_parts (y := v) (P := - (y.num : Rat)) (Q := g * (y.den : Rat)) (a := 10 ^ a) (d := 10 ^ (a + (6 * n' + 6))) ⟨- y.num, (Rat.intCast_neg _).symm⟩ (g1.mul ⟨(y.den : Int), rfl⟩)
    (fun e => by
      rcases Rat.mul_eq_zero.1 e with e | e
      · exact hg0 e
      · rw [e] at hdp; exact Rat.lt_irrefl hdp)
    (by rw [← hden, hv]; have : g * zc l.length A b (goalF (n' + 1) goal) (wdt (n' + 1) l.length) = y := hy.symm; grind)
    (by rw [ab_neg, ab_int]; exact Rat.natCast_lt_natCast.2 hpart.1)
    (by
      rw [ab_mul]
      have e1 : ab g = g := by unfold ab; rw [if_pos (by grind)]
      have e2 : ab (y.den : Rat) = (y.den : Rat) := by unfold ab; rw [if_pos (by grind)]
      rw [e1, e2]
      have h1 : (y.den : Rat) < ((10 ^ a : Nat) : Rat) := Rat.natCast_lt_natCast.2 hpart.2
      have h2 := Rat.mul_lt_mul_of_pos_left h1 hgp
      have h3 := Rat.mul_le_mul_of_nonneg_right g3 (show (0 : Rat) ≤ ((10 ^ a : Nat) : Rat) from Rat.natCast_nonneg)
      rw [← Rat.natCast_mul, ← Nat.pow_add, Nat.add_comm] at h3
      grind)
  exact ⟨a, a + (6 * n' + 6), hfin.1, hfin.2, ha, by omega, by omega⟩
end Sx
end Go.Proofs.YtijpgddpejiohaaGreatDoor
end
section
namespace Go.Proofs.YtijpgddpejiohaaGreatDoor
open Go Go.RowKit Go.Deep Go.Sort
namespace W
open M Sx
attribute [local go_sem] bs_size bs_toList bs_get bs_extract bs_append bs_lit0 bs_lit1 lit1_bs
set_option maxHeartbeats 1000000
set_option maxRecDepth 20000
/-- What 'Implied' reports. -/
def impB (r : (Rat × List Rat × List Rat) ⊕ Nat) (q : Rat) : Bool := match r with
  | .inl (v, _, _) => decide (v ≤ q)
  | .inr k => k == 6
/-- The greatest value is not long. -/
theorem found_value {n e : Nat} {l : List BQ} {goal : List Rat} {v : Rat} {p w : List Rat} (hr : RightS n l) (hg : ∀ x ∈ goal, Sq x) (hf : FewS n l.length) (h : Sx.Found e n l goal (.inl (v, p, w))) : (∃ k, k ≤ 290 ∧ Bq k v) ∧ (R v).length ≤ 299 := by
  obtain ⟨_, _, _, A, b, hi, hv⟩ := h
  obtain ⟨a, d, h1, h2, h3, h4, h5⟩ := value_few hr hg hf hi hv
  refine ⟨⟨a + d, h5, Nat.lt_of_lt_of_le h1 (Nat.pow_le_pow_right (by decide) (by omega)), Nat.lt_of_lt_of_le h2 (Nat.pow_le_pow_right (by decide) (by omega))⟩, ?_⟩
  have l1 := I_le h1 h3
  have l2 := I_le (z := (v.den : Int)) (k := d) (by rw [Int.natAbs_natCast]; exact h2) h4
  unfold R
  split
  · omega
  · rw [List.length_append, List.length_cons]
    omega
/-- Few right bounds. -/
noncomputable def rightV (n : Int) (l : List BT) : Bool := few5 n l && decide (chk5 n l = 0)
theorem rright (n : Int) (vl : Value) (l : List BT) (w : World) (hl : RdB w vl l) (hn : l.length ≤ maxLen) (hs : ∀ b ∈ l, b.1.length ≤ maxLen ∧ (∀ p ∈ b.1, p.length ≤ maxLen) ∧ b.2.length ≤ maxLen) :
    Calls Tryz.prog 9 #[.int .i64 n, vl] w (Ret w (.bool (rightV n l))) := by
  have HF := Lib.hid (fun W (hW : Below w.heap.size w W) => rfew n vl l W (hl.below hW) hn hs)
  unfold rightV
  obtain ⟨A, cap, hA⟩ := hl.len
  cases hf : few5 n l with
  | false =>
    rw [hf] at HF
    rw [Bool.false_and]
    subst hA
    clear hl hs hn hf
    go_enter Tryz.func9, Tryz.ntmps9
    go_wp2_with fail
    refine (HF.out _ (Below.refl _ _)).mono ?_
    rintro e w1 ⟨rfl, hb1⟩
    go_wp2
    go_ret
    exact Ret.of rfl hb1
  | true =>
    rw [hf] at HF
    rw [Bool.true_and]
    have hw := few_wire hf
    have HK := Lib.hid (fun W (hW : Below w.heap.size w W) => rcheck5 n vl l W (hl.below hW) hw.1 hw.2)
    have hz : ((((chk5 n l : Nat) : Int) == 0)) = decide (chk5 n l = 0) := by
      by_cases h : chk5 n l = 0
      · rw [h]; rfl
      · rw [decide_eq_false h, beq_eq_false_iff_ne]; omega
    rw [← hz]
    subst hA
    clear hl hs hn hf hw hz
    generalize ((chk5 n l : Nat) : Int) = c at *
    go_enter Tryz.func9, Tryz.ntmps9
    go_wp2_with fail
    refine (HF.out _ (Below.refl _ _)).mono ?_
    rintro e w1 ⟨rfl, hb1⟩
    go_wp2_with fail
    refine (HK.out _ hb1).mono ?_
    rintro e w2 ⟨rfl, hb2⟩
    go_wp2
    go_ret
    exact Ret.of rfl (bel_to hb1 hb2)
end W
end Go.Proofs.YtijpgddpejiohaaGreatDoor
end
section
namespace Go.Proofs.YtijpgddpejiohaaGreatDoor
open Go Go.RowKit Go.Deep Go.Sort
namespace W
open M Sx
attribute [local go_sem] bs_size bs_toList bs_get bs_extract bs_append bs_lit0 bs_lit1 lit1_bs
set_option maxHeartbeats 1000000
set_option maxRecDepth 20000
theorem turned_R (a : Rat) (w : World) (ha : Sh a) : Calls Tryz.prog 147 #[.string (bs (R a))] w (Ret w (.string (bs (R (-a))))) := by
  have HM := Lib.hid (fun W : World => (by
    have h := minus_R 0 a W (Bq_nil.sh (by decide) (by decide)) ha
    rw [R_nil, show (bs [48]) = (⟨#[48]⟩ : ByteArray) from rfl, Rat.sub_eq_add_neg, Rat.zero_add] at h
    exact h : Calls Tryz.prog 158 #[.string ⟨#[48]⟩, .string (bs (R a))] W (Ret W (.string (bs (R (-a)))))))
  clear ha
  generalize R a = sa at *
  generalize R (-a) = sb at *
  go_enter Tryz.func147, Tryz.ntmps147
  go_wp2_with fail
  refine (HM.out _).mono ?_
  rintro e w1 ⟨rfl, hb1⟩
  go_wp2
  go_ret
  exact Ret.of rfl hb1
end W
end Go.Proofs.YtijpgddpejiohaaGreatDoor
end
section
namespace Go.Proofs.YtijpgddpejiohaaGreatDoor
open Go Go.RowKit Go.Deep Go.Sort
theorem infoRtX : (Tryz.prog.info? 29).map (fun i => (i.zero, i.size, i.bytes)) = some (some (.string ⟨#[]⟩), 1, 16) := by kernel_rfl
theorem OwnS.of_row {w : World} {B g : Nat} {l : List (List UInt8)} (hr : Row w g 29 (Strs l)) (hB : B ≤ g) (hl : l.length ≤ maxLen) (n : Nat) (hn : n = l.length) : OwnS w B (.slice (some ⟨g, 0, none⟩) n n) l := by
  subst hn
  exact ⟨by simp [Strs], Or.inr ⟨g, l.length, (Strs l).toArray, rfl, hB, hr, Nat.le_refl _, hl, by simp [Strs], by rw [List.take_of_length_le (by simp [Strs])]⟩⟩
theorem OwnS.shp' {w : World} {B : Nat} {v : Value} {l : List (List UInt8)} (h : OwnS w B v l) : Shp v := by
  rcases h.2 with ⟨hv, _⟩ | ⟨g, cap, cur, hv, _⟩
  · exact Or.inl hv
  · exact Or.inr ⟨_, _, _, hv⟩
theorem OwnS.form' {w : World} {B : Nat} {v : Value} {l : List (List UInt8)} (h : OwnS w B v l) : ∃ A c, v = .slice A l.length c := by
  rcases h.2 with ⟨hv, h0⟩ | ⟨g, cap, cur, hv, _⟩
  · exact ⟨_, _, by rw [h0]; exact hv⟩
  · exact ⟨_, _, hv⟩
/-- The rows' values are own lists of texts, all at or behind B0. -/
def GoodD (w : World) (B0 : Nat) (es : List (Value × M.BT)) : Prop := ∀ x ∈ es, ∃ B, B0 ≤ B ∧ OwnS w B x.1 x.2.1
theorem GoodD.below {w w' : World} {B0 : Nat} {es : List (Value × M.BT)} (h : GoodD w B0 es) (hb : Below w.heap.size w w') : GoodD w' B0 es := fun x hx => by
  obtain ⟨B, h0, h1⟩ := h x hx
  exact ⟨B, h0, h1.below hb⟩
theorem GoodD.good {w : World} {B0 : Nat} {es : List (Value × M.BT)} (h : GoodD w B0 es) : GoodE w es := fun x hx => by
  obtain ⟨B, _, h1⟩ := h x hx
  exact ⟨h1.rd, h1.shp'⟩
theorem GoodD.append {w : World} {B0 : Nat} {a b : List (Value × M.BT)} (h : GoodD w B0 a) (h2 : GoodD w B0 b) : GoodD w B0 (a ++ b) := fun x hx => (List.mem_append.1 hx).elim (h x) (h2 x)
theorem GoodD.one {w : World} {B0 : Nat} {u : Value} {b : M.BT} (h : OwnS w B0 u b.1) : GoodD w B0 [(u, b)] := fun x hx => by
  rw [List.mem_singleton.1 hx]; exact ⟨B0, Nat.le_refl _, h⟩
theorem ratBoundX : 29 ≠ 31 := by decide
theorem GoodD.grown {w w' : World} {B B0 : Nat} {v : Value} {es es0 : List (Value × M.BT)} (h : GoodD w B0 es) (ho : OwnE w B v es0) (hg : w.grownBy w' v.ownBlock) : GoodD w' B0 es := fun x hx => by
  obtain ⟨B1, h0, h1⟩ := h x hx
  refine ⟨B1, h0, World.ownsRow.kept h1 hg ?_⟩
  rcases row_not_row h1 ho ratBoundX with e | e
  · left; rw [e]; rfl
  · exact Or.inr e
theorem own_setX {w : World} {B g j : Nat} {e size n : Nat} {xs : List Value} {v u : Value} (hg : g < B) (h : w.ownsRow B e size v n xs) : (w.setCell ⟨g, j, none⟩ u).ownsRow B e size v n xs := by
  refine World.ownsRow.kept h (grownBy_setO w g j u) ?_
  rcases hv : v.ownBlock with _ | k
  · exact Or.inl rfl
  · refine Or.inr fun e => ?_
    injection e with e
    have := (World.ownsRow.lt h k hv).1
    omega
theorem GoodD.set {w : World} {B0 g j : Nat} {u : Value} {es : List (Value × M.BT)} (h : GoodD w B0 es) (hg : g < B0) : GoodD (w.setCell ⟨g, j, none⟩ u) B0 es := fun x hx => by
  obtain ⟨B1, h0, h1⟩ := h x hx
  exact ⟨B1, h0, own_setX (by omega) h1⟩
theorem strs_setX (l : List (List UInt8)) (k : Nat) (t : List UInt8) : (Strs l).set k (.string (bs t)) = Strs (l.set k t) := by simp [Strs, List.map_set]
/-- The dual program's bounds, with the list 'least' at bL. -/
structure DuS (w0 w : World) (bL : Nat) (vd : Value) (es : List (Value × M.BT)) (ls : List (List UInt8)) : Prop where
  own : OwnE w (bL + 1) vd es
  good : GoodD w (bL + 1) es
  least : Row w bL 29 (Strs ls)
  bel : Below w0.heap.size w0 w
  low : w0.heap.size ≤ bL
theorem DuS.size {w0 w : World} {bL : Nat} {vd : Value} {es : List (Value × M.BT)} {ls : List (List UInt8)} (h : DuS w0 w bL vd es ls) : bL + 1 ≤ w.heap.size := h.least.lt
theorem DuS.to {w0 w w' : World} {bL : Nat} {vd : Value} {es : List (Value × M.BT)} {ls : List (List UInt8)} (h : DuS w0 w bL vd es ls) (hb : Below w.heap.size w w') : DuS w0 w' bL vd es ls :=
  ⟨h.own.below hb, h.good.below hb, h.least.below' hb, bel_to h.bel hb, h.low⟩
theorem DuS.put {w0 w : World} {bL k : Nat} {vd : Value} {es : List (Value × M.BT)} {ls : List (List UInt8)} (h : DuS w0 w bL vd es ls) (t : List UInt8) : DuS w0 (w.setCell ⟨bL, k, none⟩ (.string (bs t))) bL vd es (ls.set k t) := by
  refine ⟨own_setX (Nat.lt_succ_self _) h.own, h.good.set (Nat.lt_succ_self _), ?_, h.bel.setCell (p := ⟨bL, k, none⟩) h.low _, h.low⟩
  rw [← strs_setX]
  exact h.least.set k _
theorem DuS.app {w0 w w' : World} {bL : Nat} {vd v' : Value} {es es2 : List (Value × M.BT)} {ls : List (List UInt8)} (h : DuS w0 w bL vd es ls) (h2 : GoodD w (bL + 1) es2) (ho : OwnE w' (bL + 1) v' (es ++ es2)) (hg : w.grownBy w' vd.ownBlock) : DuS w0 w' bL v' (es ++ es2) ls := by
  refine ⟨ho, (h.good.append h2).grown h.own hg, row_grown h.least hg fun e => ?_, h.bel.grown hg h.bel.size fun k hk => ?_, h.low⟩
  · have := (World.ownsRow.lt h.own bL e.symm).1
    omega
  · have := (World.ownsRow.lt h.own k hk).1
    have := h.low
    omega
/-- A further row that is in the making, in block g. -/
structure DuR (w0 w : World) (bL : Nat) (vd : Value) (es : List (Value × M.BT)) (ls : List (List UInt8)) (g : Nat) (rs : List (List UInt8)) : Prop where
  st : DuS w0 w bL vd es ls
  row : Row w g 29 (Strs rs)
  low : bL + 1 ≤ g
  own : vd.ownBlock ≠ some g
  rows : ∀ x ∈ es, x.1.ownBlock ≠ some g
theorem DuR.to {w0 w w' : World} {bL g : Nat} {vd : Value} {es : List (Value × M.BT)} {ls rs : List (List UInt8)} (h : DuR w0 w bL vd es ls g rs) (hb : Below w.heap.size w w') : DuR w0 w' bL vd es ls g rs :=
  ⟨h.st.to hb, h.row.below' hb, h.low, h.own, h.rows⟩
theorem DuR.new {w0 w w' : World} {bL g : Nat} {vd : Value} {es : List (Value × M.BT)} {ls rs : List (List UInt8)} (h : DuS w0 w bL vd es ls) (hb : Below w.heap.size w w') (hg : w.heap.size ≤ g) (hr : Row w' g 29 (Strs rs)) : DuR w0 w' bL vd es ls g rs := by
  refine ⟨h.to hb, hr, Nat.le_trans h.size hg, fun e => ?_, fun x hx e => ?_⟩
  · have := (World.ownsRow.lt h.own g e).2; omega
  · obtain ⟨B, _, h1⟩ := h.good x hx
    have := (World.ownsRow.lt h1 g e).2; omega
theorem kept_setX {w : World} {B g j : Nat} {e size n : Nat} {xs : List Value} {v u : Value} (h : w.ownsRow B e size v n xs) (hne : v.ownBlock ≠ some g) : (w.setCell ⟨g, j, none⟩ u).ownsRow B e size v n xs :=
  World.ownsRow.kept h (grownBy_setO w g j u) (Or.inr hne)
theorem DuR.put {w0 w : World} {bL g k : Nat} {vd : Value} {es : List (Value × M.BT)} {ls rs : List (List UInt8)} (h : DuR w0 w bL vd es ls g rs) (t : List UInt8) : DuR w0 (w.setCell ⟨g, k, none⟩ (.string (bs t))) bL vd es ls g (rs.set k t) := by
  refine ⟨⟨kept_setX h.st.own h.own, fun x hx => ?_, Row.other h.st.least (by have := h.low; show bL ≠ g; omega) _, h.st.bel.setCell (p := ⟨g, k, none⟩) (by have := h.low; have := h.st.low; show w0.heap.size ≤ g; omega) _, h.st.low⟩, ?_, h.low, h.own, h.rows⟩
  · obtain ⟨B, h0, h1⟩ := h.st.good x hx
    exact ⟨B, h0, kept_setX h1 (h.rows x hx)⟩
  · rw [← strs_setX]
    exact h.row.set k _
theorem DuR.goodD {w0 w : World} {bL g : Nat} {vd : Value} {es : List (Value × M.BT)} {ls rs : List (List UInt8)} (h : DuR w0 w bL vd es ls g rs) (hl : rs.length ≤ maxLen) (n : Nat) (hn : n = rs.length) (q : List UInt8) : GoodD w (bL + 1) [(.slice (some ⟨g, 0, none⟩) n n, (rs, q))] :=
  GoodD.one (OwnS.of_row h.row h.low hl n hn)
/-- Two lists of texts that grow. -/
structure TwS (w0 w : World) (v1 v2 : Value) (l1 l2 : List (List UInt8)) : Prop where
  o1 : OwnS w w0.heap.size v1 l1
  o2 : OwnS w w0.heap.size v2 l2
  d1 : v1.ownBlock = none ∨ v1.ownBlock ≠ v2.ownBlock
  d2 : v2.ownBlock = none ∨ v2.ownBlock ≠ v1.ownBlock
  bel : Below w0.heap.size w0 w
theorem TwS.to {w0 w w' : World} {v1 v2 : Value} {l1 l2 : List (List UInt8)} (h : TwS w0 w v1 v2 l1 l2) (hb : Below w.heap.size w w') : TwS w0 w' v1 v2 l1 l2 := ⟨h.o1.below hb, h.o2.below hb, h.d1, h.d2, bel_to h.bel hb⟩
theorem TwS.nil (w : World) : TwS w w (.slice none 0 0) (.slice none 0 0) [] [] := ⟨World.ownsRow_nil _ _ _ _, World.ownsRow_nil _ _ _ _, Or.inl rfl, Or.inl rfl, Below.refl _ _⟩
theorem TwS.swap {w0 w : World} {v1 v2 : Value} {l1 l2 : List (List UInt8)} (h : TwS w0 w v1 v2 l1 l2) : TwS w0 w v2 v1 l2 l1 := ⟨h.o2, h.o1, h.d2, h.d1, h.bel⟩
theorem TwS.app {w0 w w' : World} {v1 v2 v' : Value} {l1 l2 l' : List (List UInt8)} (h : TwS w0 w v1 v2 l1 l2) (ho : OwnS w' w0.heap.size v' l') (hg : w.grownBy w' v1.ownBlock) (hd : v'.ownBlock = v1.ownBlock ∨ v'.ownBlock = some w.heap.size) : TwS w0 w' v' v2 l' l2 := by
  have hlt : v2.ownBlock ≠ some w.heap.size := fun e => by
    have := (World.ownsRow.lt h.o2 _ e).2
    omega
  refine ⟨ho, World.ownsRow.kept h.o2 hg h.d2, ?_, ?_, h.bel.grown hg h.bel.size fun b hb => (World.ownsRow.lt h.o1 b hb).1⟩
  · rcases hd with hd | hd
    · rw [hd]; exact h.d1
    · exact Or.inr (by rw [hd]; exact fun e => hlt e.symm)
  · rcases hd with hd | hd
    · rw [hd]; exact h.d2
    · exact Or.inr (by rw [hd]; exact hlt)
/-- 'append' of one text, with the block that it lands in. -/
theorem run_appS_at {w : World} {B : Nat} {v xv : Value} {l : List (List UInt8)} {q : List UInt8} (ty : TypeId) (h : OwnS w B v l) {A : Nat} (hxv : xv = .slice (some ⟨A, 0, none⟩) 1 1) (hsrc : w.cell? ⟨A, 0, none⟩ = some (.string (bs q))) (hB : B ≤ w.heap.size) (hn : l.length + 1 ≤ 1000000000) :
    ∃ v' w', (Builtin.append_ #[23, 23] ty #[v, xv]).run Tryz.prog w = .ok v' w' ∧ OwnS w' B v' (l ++ [q]) ∧ w.grownBy w' v.ownBlock ∧ (v'.ownBlock = v.ownBlock ∨ v'.ownBlock = some w.heap.size) := by
  obtain ⟨i, h1, h2, h3, h4⟩ := info_parts infoRtX
  subst hxv
  have hadd : ∀ j, (⟨A, 0, none⟩ : Addr).add j = ⟨A, j, none⟩ := fun j => by unfold Addr.add; split <;> simp_all
  obtain ⟨v', w', k1, k2, k3, _, k5⟩ := run_append_own_at (P := Tryz.prog) w B _ ty _ i _ 1 16 Tryz.underlying23 h1 h2 h3 h4 rfl (by decide) v l.length (Strs l) h ⟨A, 0, none⟩ 1 1 (Strs [q]) rfl
    (fun j u hj => by
      rw [hadd]
      obtain rfl : j = 0 := by have := (List.getElem?_eq_some_iff.1 hj).1; simpa [Strs] using this
      rw [hsrc]
      simpa [Strs] using hj) (fun u hu => by simp [Strs] at hu; rw [hu]; rfl) (by unfold maxLen; omega) (by omega) hB
  refine ⟨v', w', k1, ?_, k3, k5⟩
  unfold OwnS
  rw [List.length_append, show Strs (l ++ [q]) = Strs l ++ Strs [q] by simp [Strs]]
  exact k2
theorem wpList_appS_at {ops : Array Oper} {rest : List Oper} {o : Oper} {a : Act} {Q : Exit → Act → World → Prop} {w : World} {B : Nat} {v xv : Value} {l : List (List UInt8)} {q : List UInt8} {A : Nat} (hgd : o.guard = none) (s x : Operand)
    (ho : o.op = .call { callee := .builtin .append, args := #[s, x], argTypes := #[23, 23] }) (hs : a.eval s = v) (hx : a.eval x = xv)
    (h : OwnS w B v l) (hxv : xv = .slice (some ⟨A, 0, none⟩) 1 1) (hsrc : w.cell? ⟨A, 0, none⟩ = some (.string (bs q))) (hB : B ≤ w.heap.size) (hn : l.length + 1 ≤ 1000000000)
    (hK : ∀ v' w', OwnS w' B v' (l ++ [q]) → w.grownBy w' v.ownBlock → (v'.ownBlock = v.ownBlock ∨ v'.ownBlock = some w.heap.size) → wpList Tryz.prog ops Q rest (a.put o.dst v') w') : wpList Tryz.prog ops Q (o :: rest) a w :=
  wpList_plain hgd fun _ hK2 => by
    obtain ⟨v', w', hr, h2, h3, h4⟩ := run_appS_at o.type h hxv hsrc hB hn
    unfold Oper.wp execOp
    simp only [ho, resolve, invoke, builtin, Sem.run_bind, Sem.run_pure, Result.andThen_ok, List.map_toArray, List.map_cons, List.map_nil, hs, hx, hr]
    exact hK2 _ _ (hK v' w' h2 h3 h4)
theorem step_appS_at {ops : Array Oper} {o : Oper} {a : Act} {K : Act → World → Prop} {Q : Exit → Act → World → Prop} {E : Prop} {w : World} {B : Nat} {v xv : Value} {l : List (List UInt8)} {q : List UInt8} {A : Nat} (hgd : o.guard = none) (s x : Operand)
    (ho : o.op = .call { callee := .builtin .append, args := #[s, x], argTypes := #[23, 23] }) (hs : a.eval s = v) (hx : a.eval x = xv)
    (h : OwnS w B v l) (hxv : xv = .slice (some ⟨A, 0, none⟩) 1 1) (hsrc : w.cell? ⟨A, 0, none⟩ = some (.string (bs q))) (hB : B ≤ w.heap.size) (hn : l.length + 1 ≤ 1000000000)
    (hK : ∀ v' w', OwnS w' B v' (l ++ [q]) → w.grownBy w' v.ownBlock → (v'.ownBlock = v.ownBlock ∨ v'.ownBlock = some w.heap.size) → K (a.put o.dst v') w') : if Region.wanted o (yielded ops a.tmps) = true then Oper.wp Tryz.prog o a w K Q else E := by
  have hw : Region.wanted o (yielded ops a.tmps) = true := by simp [Region.wanted, hgd]
  rw [if_pos hw]
  obtain ⟨v', w', hr, h2, h3, h4⟩ := run_appS_at o.type h hxv hsrc hB hn
  unfold Oper.wp execOp
  simp only [ho, resolve, invoke, builtin, Sem.run_bind, Sem.run_pure, Result.andThen_ok, List.map_toArray, List.map_cons, List.map_nil, hs, hx, hr]
  exact hK v' w' h2 h3 h4
end Go.Proofs.YtijpgddpejiohaaGreatDoor
end
section
namespace Go.Proofs.YtijpgddpejiohaaGreatDoor
open Go Go.RowKit Go.Deep Go.Sort
namespace Sx
open M
theorem dR0 : R 0 = [48] := by decide +kernel
theorem dRm : R (-1) = [45, 49] := by decide +kernel
/-- The texts of the dual program, as far as they are made. -/
def leaT (zl : List BQ) (i : Nat) : List (List UInt8) := (zl.take i).map (fun b => R (-b.2)) ++ List.replicate (zl.length - i) []
theorem leaT_len (zl : List BQ) {i : Nat} (h : i ≤ zl.length) : (leaT zl i).length = zl.length := by unfold leaT; simp; omega
theorem leaT_set (zl : List BQ) (i : Nat) (h : i < zl.length) : (leaT zl i).set i (R (-zl[i].2)) = leaT zl (i + 1) := by
  unfold leaT
  have e1 : ((zl.take i).map fun b => R (-b.2)).length = i := by simp; omega
  have e2 : zl.length - i = (zl.length - (i + 1)) + 1 := by omega
  rw [List.set_append_right _ _ (by omega), e1, Nat.sub_self, e2, List.replicate_succ, List.set_cons_zero, List.take_add_one, List.getElem?_eq_getElem h]
  simp only [Option.toList_some, List.map_append, List.map_cons, List.map_nil, List.append_assoc, List.singleton_append]
theorem leaT_zero (zl : List BQ) : leaT zl 0 = List.replicate zl.length [] := by unfold leaT; simp
theorem leaT_all (zl : List BQ) : leaT zl zl.length = rx (leastL zl) := by unfold leaT leastL rx; simp
def untT (m i : Nat) : List BT := (List.range i).map fun j => (rx (unitL m j), [48])
theorem untT_succ (m i : Nat) : untT m (i + 1) = untT m i ++ [(rx (unitL m i), [48])] := by unfold untT; rw [List.range_succ, List.map_append]; rfl
theorem unitT (m i : Nat) : (List.replicate m [48] ++ List.replicate (m - m) ([] : List UInt8)).set i [45, 49] = rx (unitL m i) := by
  unfold unitL zs rx
  rw [List.map_set, List.map_replicate, Nat.sub_self, dR0, dRm]
  simp
def dulT (zl : List BQ) (zg : List Rat) (k : Nat) : List BT := untT zl.length zl.length ++ (List.range k).flatMap fun k => [(rx (colL zl k), R (nth zg k)), (rx ((colL zl k).map fun x => -x), R (-nth zg k))]
theorem dulT_zero (zl : List BQ) (zg : List Rat) : dulT zl zg 0 = untT zl.length zl.length := by unfold dulT; simp
theorem dulT_succ (zl : List BQ) (zg : List Rat) (k : Nat) : dulT zl zg (k + 1) = dulT zl zg k ++ [(rx (colL zl k), R (nth zg k)), (rx ((colL zl k).map fun x => -x), R (-nth zg k))] := by
  unfold dulT; rw [List.range_succ, List.flatMap_append]; simp
theorem dulT_len (zl : List BQ) (zg : List Rat) (k : Nat) : (dulT zl zg k).length = zl.length + 2 * k := by
  induction k with
  | zero => rw [dulT_zero]; unfold untT; simp
  | succ k ih => rw [dulT_succ, List.length_append, ih]; simp only [List.length_cons, List.length_nil]; omega
theorem dulT_all (zl : List BQ) (zg : List Rat) (n : Nat) : dulT zl zg n = bx (dualL n zl zg) := by
  unfold dulT dualL untT bx
  rw [List.map_append, List.map_map, List.map_flatMap]
  simp only [Function.comp_def, dR0, List.map_cons, List.map_nil]
def colT (zl : List BQ) (k j : Nat) : List (List UInt8) := (zl.take j).map fun b => R (nth b.1 k)
def negT (zl : List BQ) (k j : Nat) : List (List UInt8) := (zl.take j).map fun b => R (-nth b.1 k)
theorem colT_succ (zl : List BQ) (k j : Nat) (h : j < zl.length) : colT zl k (j + 1) = colT zl k j ++ [R (nth zl[j].1 k)] := by
  unfold colT; rw [List.take_add_one, List.getElem?_eq_getElem h]; simp only [Option.toList_some, List.map_append, List.map_cons, List.map_nil]
theorem negT_succ (zl : List BQ) (k j : Nat) (h : j < zl.length) : negT zl k (j + 1) = negT zl k j ++ [R (-nth zl[j].1 k)] := by
  unfold negT; rw [List.take_add_one, List.getElem?_eq_getElem h]; simp only [Option.toList_some, List.map_append, List.map_cons, List.map_nil]
theorem colT_all (zl : List BQ) (k : Nat) : colT zl k zl.length = rx (colL zl k) := by unfold colT colL rx; simp
theorem negT_all (zl : List BQ) (k : Nat) : negT zl k zl.length = rx ((colL zl k).map fun x => -x) := by unfold negT colL rx; simp
theorem colT_len (zl : List BQ) (k j : Nat) : (colT zl k j).length ≤ zl.length := by unfold colT; simp; omega
theorem negT_len (zl : List BQ) (k j : Nat) : (negT zl k j).length ≤ zl.length := by unfold negT; simp; omega
end Sx
/-- Both lists while a bound's copy lies at N. -/
structure InS (w0 w : World) (N : Nat) (u sm v1 v2 : Value) (l1 l2 : List (List UInt8)) : Prop where
  tw : TwS w0 w v1 v2 l1 l2
  cp : Pre w N 31 [u, sm]
theorem InS.to {w0 w w' : World} {N : Nat} {u sm v1 v2 : Value} {l1 l2 : List (List UInt8)} (h : InS w0 w N u sm v1 v2 l1 l2) (hb : Below w.heap.size w w') : InS w0 w' N u sm v1 v2 l1 l2 := ⟨h.tw.to hb, h.cp.below' hb⟩
theorem InS.app1 {w0 w w' : World} {N : Nat} {u sm v1 v2 v' : Value} {l1 l2 l' : List (List UInt8)} (h : InS w0 w N u sm v1 v2 l1 l2) (ho : OwnS w' w0.heap.size v' l') (hg : w.grownBy w' v1.ownBlock) (hd : v'.ownBlock = v1.ownBlock ∨ v'.ownBlock = some w.heap.size) : InS w0 w' N u sm v' v2 l' l2 :=
  ⟨h.tw.app ho hg hd, h.cp.grown hg (pre_not_row h.cp h.tw.o1 (by decide))⟩
theorem InS.app2 {w0 w w' : World} {N : Nat} {u sm v1 v2 v' : Value} {l1 l2 l' : List (List UInt8)} (h : InS w0 w N u sm v1 v2 l1 l2) (ho : OwnS w' w0.heap.size v' l') (hg : w.grownBy w' v2.ownBlock) (hd : v'.ownBlock = v2.ownBlock ∨ v'.ownBlock = some w.heap.size) : InS w0 w' N u sm v1 v' l1 l' :=
  ⟨(h.tw.swap.app ho hg hd).swap, h.cp.grown hg (pre_not_row h.cp h.tw.o2 (by decide))⟩
theorem size_setX (w : World) (a : Addr) (v : Value) : (w.setCell a v).heap.size = w.heap.size := by
  show (w.heap.modify _ _).size = _
  simp
theorem SrcE.newX (w : World) (u : Value) (b : M.BT) (A : Nat) (hA : A = w.heap.size) : SrcE (w.alloc (.cells #[u, .string (bs b.2)] 31 (0, 0))) (.slice (some ⟨A, 0, none⟩) 1 1) [(u, b)] := by
  subst hA; exact SrcE.new w u b
theorem SrcE.new2 (w : World) (x y : Value × M.BT) : SrcE (w.alloc (.cells #[x.1, .string (bs x.2.2), y.1, .string (bs y.2.2)] 31 (0, 0))) (.slice (some ⟨w.heap.size, 0, none⟩) 2 2) [x, y] := by
  refine Or.inr ⟨⟨w.heap.size, 0, none⟩, 2, rfl, fun j v hj => ?_⟩
  have hadd : (⟨w.heap.size, 0, none⟩ : Addr).add j = ⟨w.heap.size, j, none⟩ := by unfold Addr.add; split <;> simp_all
  rw [hadd]
  exact (Row.new w 31 [x.1, .string (bs x.2.2), y.1, .string (bs y.2.2)]).cell hj
theorem OwnE.shapeX {w : World} {B : Nat} {v : Value} {l : List (Value × M.BT)} (h : OwnE w B v l) : ∃ A n c, v = .slice A n c := by
  rcases h.2 with ⟨hv, _⟩ | ⟨g, cap, cur, hv, _⟩
  · exact ⟨_, _, _, hv⟩
  · exact ⟨_, _, _, hv⟩
theorem TwS.goodD {w0 w : World} {B : Nat} {v1 v2 : Value} {l1 l2 : List (List UInt8)} (h : TwS w0 w v1 v2 l1 l2) (hB : B ≤ w0.heap.size) (q1 q2 : List UInt8) : GoodD w B [(v1, (l1, q1)), (v2, (l2, q2))] := fun x hx => by
  simp only [List.mem_cons, List.not_mem_nil, or_false] at hx
  rcases hx with rfl | rfl
  · exact ⟨_, hB, h.o1⟩
  · exact ⟨_, hB, h.o2⟩
namespace W
open M Sx
attribute [local go_sem] bs_size bs_toList bs_get bs_extract bs_append bs_lit0 bs_lit1 lit1_bs
set_option maxHeartbeats 4000000
set_option maxRecDepth 20000
/-- What 'Most' returns, in short. -/
def dS (r : (Rat × List Rat × List Rat) ⊕ Nat) : List UInt8 := match r with
  | .inl (v, _, _) => R v
  | .inr _ => []
def dC (r : (Rat × List Rat × List Rat) ⊕ Nat) : Int := match r with
  | .inl _ => 0
  | .inr k => (k : Int)
theorem mostD {W : World} {r : (Rat × List Rat × List Rat) ⊕ Nat} {e : Ending} {w' : World} (h : MostP W r e w') : ∃ v1 v2, e = .returned (.tuple #[.string (bs (dS r)), v1, v2, .int .i64 (dC r)]) ∧ Below W.heap.size W w' := by
  cases r with
  | inl s => obtain ⟨v, p, q⟩ := s; obtain ⟨v1, v2, e, _, _, hb⟩ := h; exact ⟨v1, v2, e, hb⟩
  | inr k => exact ⟨_, _, h.1, h.2⟩
theorem R_posD (q : Rat) : 0 < (R q).length := by
  have h2 := D_le_I q.num
  have h4 : (D q.num.natAbs).length ≠ 0 := fun h4 => D_ne _ (List.eq_nil_of_length_eq_zero h4)
  unfold R
  split
  · omega
  · rw [List.length_append]; omega
end W
end Go.Proofs.YtijpgddpejiohaaGreatDoor
end
section
namespace Go.Proofs.YtijpgddpejiohaaGreatDoor
open Go
namespace Sx
open M
def addL (n : Nat) (p q : List Rat) (s : Rat) : List Rat := (List.range n).map fun k => nth p k + s * nth q k
theorem addL_len (n : Nat) (p q : List Rat) (s : Rat) : (addL n p q s).length = n := by unfold addL; simp
theorem dot_addL {n : Nat} (a p q : List Rat) (s : Rat) : ∀ i, i ≤ n → dotP a (addL n p q s) i = dotP a p i + s * dotP a q i
  | 0, _ => by unfold dotP; grind
  | i + 1, h => by
    unfold dotP
    rw [dot_addL a p q s i (by omega), show nth (addL n p q s) i = nth p i + s * nth q i from nth_range _ (by omega)]
    grind
def movB (k : Rat) (n : Nat) (q : List Rat) (b : BQ) : BQ := (b.1.map (fun x => k * x), k * (b.2 + dotP b.1 q n))
theorem nth_mulL (k : Rat) (a : List Rat) (j : Nat) : nth (a.map fun x => k * x) j = k * nth a j := by
  unfold nth
  by_cases h : j < a.length
  · simp [h]
  · simp [List.getD, List.getElem?_eq_none (by omega : a.length ≤ j)]
theorem dot_mulL (k : Rat) (a p : List Rat) : ∀ i, dotP (a.map fun x => k * x) p i = k * dotP a p i
  | 0 => by unfold dotP; grind
  | i + 1 => by
    unfold dotP
    rw [dot_mulL k a p i, nth_mulL]
    grind
def movT (n : Nat) (q : List Rat) : Nat → List BQ → List BQ
  | _, [] => []
  | i, b :: t => movB ((1 + (i : Int) % 3 : Int) : Rat) n q b :: movT n q (i + 1) t
theorem k_pos (i : Nat) : (0 : Rat) < ((1 + (i : Int) % 3 : Int) : Rat) := by
  have h : (0 : Int) < 1 + (i : Int) % 3 := by omega
  exact Rat.intCast_lt_intCast.2 h
section
variable {n : Nat} {q : List Rat}
theorem mem_movT : ∀ {l : List BQ} {i : Nat} {x : BQ}, x ∈ movT n q i l → ∃ b k, b ∈ l ∧ (0 : Rat) < k ∧ x = movB k n q b
  | [], _, _, h => by cases h
  | b :: t, i, x, h => by
    rcases List.mem_cons.1 h with rfl | h
    · exact ⟨b, _, List.mem_cons_self, k_pos i, rfl⟩
    · obtain ⟨b', k, h1, h2, h3⟩ := mem_movT h
      exact ⟨b', k, List.mem_cons_of_mem _ h1, h2, h3⟩
theorem movT_mem : ∀ {l : List BQ} {i : Nat} {b : BQ}, b ∈ l → ∃ k, (0 : Rat) < k ∧ movB k n q b ∈ movT n q i l
  | [], _, _, h => by cases h
  | b' :: t, i, b, h => by
    rcases List.mem_cons.1 h with rfl | h
    · exact ⟨_, k_pos i, List.mem_cons_self⟩
    · obtain ⟨k, h1, h2⟩ := movT_mem (i := i + 1) h
      exact ⟨k, h1, List.mem_cons_of_mem _ h2⟩
theorem keeps_to {l : List BQ} {i : Nat} {p : List Rat} (h : Keeps n l p) : Keeps n (movT n q i l) (addL n p q 1) := by
  refine ⟨addL_len .., fun x hx => ?_⟩
  obtain ⟨b, k, hb, hk, rfl⟩ := mem_movT hx
  have h1 := h.2 b hb
  unfold movB
  simp only
  rw [dot_mulL, dot_addL _ _ _ _ n (Nat.le_refl _)]
  exact Rat.mul_le_mul_of_nonneg_left (by grind) (by grind)
theorem keeps_back {l : List BQ} {i : Nat} {p : List Rat} (h : Keeps n (movT n q i l) p) : Keeps n l (addL n p q (-1)) := by
  refine ⟨addL_len .., fun b hb => ?_⟩
  obtain ⟨k, hk, hm⟩ := movT_mem (i := i) hb
  have h1 := h.2 _ hm
  unfold movB at h1
  simp only at h1
  rw [dot_mulL] at h1
  rw [dot_addL _ _ _ _ n (Nat.le_refl _)]
  rcases @Rat.le_total (dotP b.1 p n) (b.2 + dotP b.1 q n) with h2 | h2
  · grind
  · have h3 := Rat.mul_le_mul_of_nonneg_left h2 (Rat.le_of_lt hk)
    have h4 : k * (dotP b.1 p n - (b.2 + dotP b.1 q n)) = 0 := by grind
    rcases Rat.mul_eq_zero.1 h4 with h5 | h5
    · rw [h5] at hk; exact absurd hk (by decide)
    · grind
theorem falls_to {l : List BQ} {i : Nat} {x : List Rat} (h : ∀ b ∈ l, dotP b.1 x n ≤ 0) : ∀ b ∈ movT n q i l, dotP b.1 x n ≤ 0 := fun y hy => by
  obtain ⟨b, k, hb, hk, rfl⟩ := mem_movT hy
  have h1 := Rat.mul_le_mul_of_nonneg_left (h b hb) (Rat.le_of_lt hk)
  unfold movB
  simp only
  rw [dot_mulL]
  grind
theorem falls_back {l : List BQ} {i : Nat} {x : List Rat} (h : ∀ b ∈ movT n q i l, dotP b.1 x n ≤ 0) : ∀ b ∈ l, dotP b.1 x n ≤ 0 := fun b hb => by
  obtain ⟨k, hk, hm⟩ := movT_mem (i := i) hb
  have h1 := h _ hm
  unfold movB at h1
  simp only at h1
  rw [dot_mulL] at h1
  rcases @Rat.le_total (dotP b.1 x n) 0 with h2 | h2
  · exact h2
  · have h3 := Rat.mul_le_mul_of_nonneg_left h2 (Rat.le_of_lt hk)
    have h4 : k * dotP b.1 x n = 0 := by grind
    rcases Rat.mul_eq_zero.1 h4 with h5 | h5
    · rw [h5] at hk; exact absurd hk (by decide)
    · grind
/-- What moving does to the three outcomes. -/
theorem moves_cases {e1 e2 : Nat} {l : List BQ} {goal : List Rat} {i : Nat} {r1 r2 : (Rat × List Rat × List Rat) ⊕ Nat} (h1 : Found e1 n l goal r1) (h2 : Found e2 n (movT n q i l) goal r2) :
    (∃ v p w p' w', r1 = .inl (v, p, w) ∧ r2 = .inl (v + dotP goal q n, p', w')) ∨ (r1 = .inr 6 ∧ r2 = .inr 6) ∨ (r1 = .inr 14 ∧ r2 = .inr 14) := by
  rcases h1.cases with ⟨v, p, w, rfl, ho⟩ | ⟨rfl, w, hw⟩ | ⟨rfl, p, x, hp, hx, hf, hg⟩
  · rcases h2.cases with ⟨v', p', w', rfl, ho'⟩ | ⟨rfl, w', hw'⟩ | ⟨rfl, p', x', hp', hx', hf', hg'⟩
    · refine Or.inl ⟨v, p, w, p', w', rfl, ?_⟩
      have a1 := ho'.le (keeps_to ho.keeps)
      have a2 := ho.le (keeps_back ho'.keeps)
      rw [dot_addL _ _ _ _ n (Nat.le_refl _)] at a1 a2
      have e1 := ho.2.1
      have e2 := ho'.2.1
      have : v' = v + dotP goal q n := by grind
      rw [this]
    · exact (keeps_contra (keeps_to ho.keeps) hw').elim
    · exact (optim_noend ho ⟨p, x', ho.keeps, hx', falls_back hf', hg'⟩).elim
  · rcases h2.cases with ⟨v', p', w', rfl, ho'⟩ | ⟨rfl, _⟩ | ⟨rfl, p', x', hp', _⟩
    · exact (keeps_contra (keeps_back ho'.keeps) hw).elim
    · exact Or.inr (Or.inl ⟨rfl, rfl⟩)
    · exact (keeps_contra (keeps_back hp') hw).elim
  · exact Or.inr (Or.inr ⟨rfl, h2.noend ⟨_, x, keeps_to hp, hx, falls_to hf, hg⟩⟩)
end
end Sx
end Go.Proofs.YtijpgddpejiohaaGreatDoor
end
section
namespace Go.Proofs.YtijpgddpejiohaaGreatDoor
open Go Go.RowKit Go.Deep Go.Sort Go.Shelf
open M
/-- The table at p, without rows: its sums at S, its goal at h m. -/
structure TabZ (w : World) (B p S : Nat) (h : Nat → Nat) (n m : Nat) (A : Mx) : Prop where
  tab : Pre w p 108 [.pointer (some ⟨S, 0, none⟩), .int .i64 (n : Int), .int .i64 (m : Int), .slice none 0 0, .slice none 0 0, .slice (some ⟨h m, 0, none⟩) (wdt n m + 1) (wdt n m + 1)]
  err : NoErP w S
  mat : Pre w (h m) 29 (Strs (mapR (A m) (wdt n m + 1)))
  lowp : B ≤ p
  lowS : B ≤ S
  lowh : B ≤ h m
  pne : p ≠ S
  hne : h m ≠ p ∧ h m ≠ S
  gl : Glob w
  hB : 8 ≤ B
  hn : n ≤ 100
  hm : m ≤ 1000
section
variable {w w' : World} {B p S : Nat} {h : Nat → Nat} {n m : Nat} {A : Mx}
theorem TabZ.below' (t : TabZ w B p S h n m A) (hb : Below w.heap.size w w') : TabZ w' B p S h n m A :=
  { t with gl := t.gl.of hb, tab := t.tab.below' hb, err := t.err.below' hb, mat := t.mat.below' hb }
theorem TabZ.c0 (t : TabZ w B p S h n m A) : w.cell? ⟨p, 0, none⟩ = some (.pointer (some ⟨S, 0, none⟩)) := t.tab.cell rfl
theorem TabZ.c1 (t : TabZ w B p S h n m A) : w.cell? ⟨p, 1, none⟩ = some (.int .i64 (n : Int)) := t.tab.cell rfl
theorem TabZ.c2 (t : TabZ w B p S h n m A) : w.cell? ⟨p, 2, none⟩ = some (.int .i64 (m : Int)) := t.tab.cell rfl
theorem TabZ.c3 (t : TabZ w B p S h n m A) : w.cell? ⟨p, 3, none⟩ = some (.slice none 0 0) := t.tab.cell rfl
theorem TabZ.c4 (t : TabZ w B p S h n m A) : w.cell? ⟨p, 4, none⟩ = some (.slice none 0 0) := t.tab.cell rfl
theorem TabZ.c5 (t : TabZ w B p S h n m A) : w.cell? ⟨p, 5, none⟩ = some (.slice (some ⟨h m, 0, none⟩) (wdt n m + 1) (wdt n m + 1)) := t.tab.cell rfl
theorem TabZ.cg (t : TabZ w B p S h n m A) {k : Nat} (hk : k ≤ wdt n m) : w.cell? ⟨h m, k, none⟩ = some (.string (bs (R (A m k)))) :=
  t.mat.cell (by simp [Strs, mapR, show k < wdt n m + 1 by omega])
theorem TabZ.size (t : TabZ w B p S h n m A) : B ≤ w.heap.size := Nat.le_trans t.lowp (Nat.le_of_lt t.tab.lt)
end
namespace W
open M
attribute [local go_sem] bs_size bs_toList bs_get bs_extract bs_append bs_lit0 bs_lit1 lit1_bs
attribute [local go_sem] Oper.semAt_some
attribute [local go_sem] wide_asked wide_fn
set_option maxHeartbeats 2000000
set_option maxRecDepth 100000
section
variable {w : World} {B p S : Nat} {h : Nat → Nat} {n m : Nat} {A : Mx}
theorem pwidthZ (t : TabZ w B p S h n m A) : Calls Tryz.prog 68 #[.pointer (some ⟨p, 0, none⟩)] w (Ret w (.int .i64 ((wdt n m : Nat) : Int))) := by
  have c1 := t.c1
  have c2 := t.c2
  have hn := t.hn
  have hm := t.hm
  have hw1 : IntKind.i64.wrap (2 * (n : Int)) = 2 * (n : Int) := IntWalk.i64_in _ (by omega)
  have hw2 : IntKind.i64.wrap (2 * (n : Int) + (m : Int)) = 2 * (n : Int) + (m : Int) := IntWalk.i64_in _ (by omega)
  have hw3 : IntKind.i64.wrap (2 * (n : Int) + (m : Int) + 1) = ((wdt n m : Nat) : Int) := by rw [IntWalk.i64_in _ (by omega)]; unfold wdt; omega
  clear t hn hm
  go_enter Tryz.func68, Tryz.ntmps68
  go_wp2
  go_quiet (fail)
  go_wp2
  go_ret
  exact Ret.of rfl (Below.drewN (Below.refl _ _) _)
theorem cols1_inZ (t : TabZ w B p S h n m A) (xt xb e fnn l : Nat) (ban : Int) (hf1 : 1 ≤ fnn)
    (hxt : Pre w xt 103 [.pointer (some ⟨p, 0, none⟩)]) (hxb : Pre w xb 3 [.int .i64 ban])
    (hA : ∀ k, k ≤ wdt n m → Bq e (A m k)) (he : e ≤ 210) (J Jx : List Nat → World → Prop)
    (hY : ∀ pre x W, J pre W → pre.length < wdt n m → YieldAt Fence.wide (fnn - 1) Tryz.prog l (encC x) W fun e W' =>
      (e = .returned (.bool true) ∧ J (pre ++ [x]) W' ∧ Below w.heap.size W W') ∨ (e = .returned (.bool false) ∧ Jx (pre ++ [x]) W'))
    (W0 : World) (hW0 : Below w.heap.size w W0) (hJ : AbidesFrom W0.heap.size J) (h0 : J [] W0) :
    CallsIn Fence.wide fnn Tryz.prog 198 #[.func (.yield l) #[] #[], .pointer (some ⟨xt, 0, none⟩), .pointer (some ⟨xb, 0, none⟩)] W0 fun e W' => (∃ v, e = .returned v) ∧
      ((∃ xs, xs = colsL m A ban (wdt n m) ∧ J xs W') ∨ (∃ pre, (∃ r, colsL m A ban (wdt n m) = pre ++ r) ∧ Jx pre W')) := by
  obtain ⟨D, hD⟩ : ∃ D, D = wdt n m := ⟨_, rfl⟩
  obtain ⟨L, hL⟩ : ∃ L, L = wdt n m + 1 := ⟨_, rfl⟩
  have HWD := Lib.hid (fun W (hW : Below w.heap.size w W) => pwidthZ (t.below' hW))
  have HC := Lib.hid (fun W (hW : Below w.heap.size w W) => And.intro ((hxt.below' hW).cell (i := 0) rfl) (And.intro ((hxb.below' hW).cell (i := 0) rfl) (t.below' hW).c0))
  have HG := Lib.hid (fun W k (hk : k < D) (hW : Below w.heap.size w W) => (by
    have e1 := (t.below' hW).cg (show k ≤ wdt n m by omega)
    have e2 := (t.below' hW).c5
    rw [← hL] at e2
    exact ⟨e2, e1⟩ : W.cell? ⟨p, 5, none⟩ = some (.slice (some ⟨h m, 0, none⟩) L L) ∧ W.cell? ⟨h m, k, none⟩ = some (.string (bs (R (A m k))))))
  have HSG := Lib.hid (fun W k (hk : k < D) (hW : Below w.heap.size w W) => pssign S (A m k) e W ((t.below' hW).gl) ((t.below' hW).err) (hA k (by omega)) (by omega))
  have HJB := Lib.hid (fun s W W' (hs : J s W) (hb : Below W.heap.size W W') => hJ s W W' none hs (grownBy_bel hb) (fun r e => by cases e))
  have HY := Lib.hid hY
  have H0 := Lib.hid (And.intro h0 hW0)
  have hDL : D < L := by omega
  have hDs : D ≤ 100000 := by have := t.hn; have := t.hm; rw [hD]; unfold wdt; omega
  rw [← hD] at HWD HY ⊢
  clear t hxt hxb hA hY hJ h0 hL hD
  refine callsIn_of_wp Tryz.func198 rfl trivial ?_ rfl
  simp only [Tryz.ntmps198, List.size_toArray, List.length_cons, List.length_nil, Nat.reduceAdd, Nat.reduceSub, Array.replicate_succ, Array.replicate_zero, List.push_toArray, List.append_toArray, List.nil_append, List.cons_append]
  obtain ⟨ct, cb0, c0⟩ := HC.out W0 hW0
  gi_wp2_with fail
  refine (callsIn_wide.2 (HWD.out W0 hW0)).mono ?_
  rintro e1 w1 ⟨rfl, hb1⟩
  have H1 : Hid (J (colsL m A ban 0) w1 ∧ Below w.heap.size w w1) := Lib.hid ⟨HJB.out _ _ _ H0.out.1 hb1, bel_to hW0 hb1⟩
  clear hb1 ct cb0 c0 H0 hW0 HWD
  gi_wp2_with fail
  gi_loopw [7] (fun iv wr => ∃ k : Nat, iv = .int .i64 (k : Int) ∧ k ≤ D ∧ Hid (J (colsL m A ban k) wr ∧ Below w.heap.size w wr)) (fun iv _ => D - (intOf iv).toNat)
  case atStart => exact ⟨0, rfl, by omega, H1⟩
  case round =>
    clear H1
    obtain ⟨k, rfl, hk, hin⟩ := hrel
    by_cases hlt : k < D
    · obtain ⟨ct, cb0, c0⟩ := HC.out wr hin.out.2
      obtain ⟨c5, c6⟩ := HG.out wr k hlt hin.out.2
      have k1 := reg_of (w := wr) (fun W hW => HSG.out W k hlt (bel_to hin.out.2 hW))
      have hk0 : (0 : Int) ≤ (k : Int) := by omega
      have hks : (k : Int) < (L : Int) := by omega
      have hsg : 0 < Int.sign (A m k).num ↔ 0 < A m k := sign_pos
      have HSD := Lib.hid hsg
      generalize Int.sign (A m k).num = sg at *
      clear hsg
      have m0 := cell_regrown c0
      have m5 := cell_regrown c5
      have m6 := cell_regrown c6
      have mt := cell_regrown ct
      have mb := cell_regrown cb0
      clear ct cb0 c0 c5 c6
      have e1 : ∀ args w, (callFunc 130 args).run Tryz.prog w = .ok (.enter 130 args) w := enters_of Tryz.func130 (by kernel_rfl) rfl
      by_cases hb : (k : Int) = ban
      · have HCL := Lib.hid (colsL_no (m := m) (A := A) (ban := ban) (k := k) (by unfold colP; simp [hb]))
        subst hb
        gi_wp2_with fail
        refine regionIn_below_tail 21 rfl (by kernel_rfl) (by kernel_rfl) ?_
        simp only [List.take_succ_cons, List.take_zero, List.drop_succ_cons, List.drop_zero]
        repeat (gi_big_quiet_step (fail))
        refine wpQuietIn_nil ?_
        intro W6 hw'
        have hb6 : Below wr.heap.size wr W6 := by obtain ⟨p, e⟩ := hw'; rw [e]; exact below_regrown wr p.d p.os
        have H6 : Hid (J (colsL m A (k : Int) k) W6 ∧ Below w.heap.size w W6) := Lib.hid ⟨HJB.out _ _ _ hin.out.1 hb6, bel_to hin.out.2 hb6⟩
        clear k1 m0 m5 m6 mt mb e1 hb6 hw' hin
        gi_wp2
        go_roundw
        case rel => exact ⟨k + 1, by go_num, hlt, by rw [HCL.out]; exact H6⟩
        case measure => simp [intOf]; omega
      · have hbd : decide ((k : Int) = ban) = false := decide_eq_false hb
        have hbe : ((k : Int) != ban) = true := by simpa using hb
        by_cases hs : 0 < sg
        · have hgd : decide (0 < sg) = true := decide_eq_true hs
          have HCL := Lib.hid (colsL_yes (m := m) (A := A) (ban := ban) (k := k) (by unfold colP; simp [hb, HSD.out.1 hs]))
          clear hs
          gi_wp2_with fail
          refine regionIn_below_tail 21 rfl (by kernel_rfl) (by kernel_rfl) ?_
          simp only [List.take_succ_cons, List.take_zero, List.drop_succ_cons, List.drop_zero]
          repeat (gi_big_quiet_step (fail))
          gi_big_quiet_step (exact callsIn_wide.2 (k1 _ _))
          repeat (gi_big_quiet_step (fail))
          refine wpQuietIn_nil ?_
          intro W6 hw'
          have hb6 : Below wr.heap.size wr W6 := by obtain ⟨p, e⟩ := hw'; rw [e]; exact below_regrown wr p.d p.os
          have H6 : Hid (J (colsL m A ban k) W6 ∧ Below w.heap.size w W6) := Lib.hid ⟨HJB.out _ _ _ hin.out.1 hb6, bel_to hin.out.2 hb6⟩
          clear k1 m0 m5 m6 mt mb e1 hb6 hw' hin
          obtain ⟨fn, tmps, assign, body, hy, hR⟩ := HY.out (colsL m A ban k) k W6 H6.out.1 (Nat.lt_of_le_of_lt (colsL_len m A ban k) hlt)
          dsimp only [encC] at hy
          gi_wp2
          refine hR.mono ?_
          rintro e W3 (⟨rfl, hJ3, hk3⟩ | ⟨rfl, hJx3⟩)
          · have HK3 : Hid (J (colsL m A ban (k + 1)) W3 ∧ Below w.heap.size w W3) := Lib.hid ⟨by rw [HCL.out]; exact hJ3, H6.out.2.trans hk3⟩
            clear hk3 hJ3
            gi_wp2
            go_roundw
            case rel => exact ⟨k + 1, by go_num, hlt, HK3⟩
            case measure => simp [intOf]; omega
          · have HJ3 := Lib.hid hJx3
            clear hJx3
            gi_wp2
            refine bodyPost_ret (results_none rfl _ _ _) rfl ?_
            exact ⟨⟨_, rfl⟩, .inr ⟨_, HCL.out ▸ colsL_pre (show k + 1 ≤ D by omega), HJ3.out⟩⟩
        · have hgd : decide (0 < sg) = false := decide_eq_false hs
          have HCL := Lib.hid (colsL_no (m := m) (A := A) (ban := ban) (k := k) (by unfold colP; rw [decide_eq_false (fun h => hs (HSD.out.2 h)), Bool.and_false]))
          clear hs
          gi_wp2_with fail
          refine regionIn_below_tail 21 rfl (by kernel_rfl) (by kernel_rfl) ?_
          simp only [List.take_succ_cons, List.take_zero, List.drop_succ_cons, List.drop_zero]
          repeat (gi_big_quiet_step (fail))
          gi_big_quiet_step (exact callsIn_wide.2 (k1 _ _))
          repeat (gi_big_quiet_step (fail))
          refine wpQuietIn_nil ?_
          intro W6 hw'
          have hb6 : Below wr.heap.size wr W6 := by obtain ⟨p, e⟩ := hw'; rw [e]; exact below_regrown wr p.d p.os
          have H6 : Hid (J (colsL m A ban k) W6 ∧ Below w.heap.size w W6) := Lib.hid ⟨HJB.out _ _ _ hin.out.1 hb6, bel_to hin.out.2 hb6⟩
          clear k1 m0 m5 m6 mt mb e1 hb6 hw' hin
          gi_wp2
          go_roundw
          case rel => exact ⟨k + 1, by go_num, hlt, by rw [HCL.out]; exact H6⟩
          case measure => simp [intOf]; omega
    · obtain rfl : D = k := by omega
      have HF := hin
      clear hin
      gi_wp2
      go_end0
      exact ⟨⟨_, rfl⟩, .inl ⟨_, rfl, HF.out.1⟩⟩
theorem cols_stopsZ (t : TabZ w B p S h n m A) (xt xb e fnn : Nat) (ban : Int) (hf1 : 1 ≤ fnn)
    (hxt : Pre w xt 103 [.pointer (some ⟨p, 0, none⟩)]) (hxb : Pre w xb 3 [.int .i64 ban])
    (hA : ∀ k, k ≤ wdt n m → Bq e (A m k)) (he : e ≤ 210) :
    SeqStopsK Fence.wide fnn Tryz.prog 198 #[.pointer (some ⟨xt, 0, none⟩), .pointer (some ⟨xb, 0, none⟩)] encC (Below w.heap.size)
      (fun xs => xs = colsL m A ban (wdt n m)) (fun pre => ∃ r, colsL m A ban (wdt n m) = pre ++ r) (wdt n m) w := fun l J Jx W hW hJ _ hY h0 =>
  cols1_inZ t xt xb e fnn l ban hf1 hxt hxb hA he J Jx hY W hW hJ h0
theorem pfirstZ (t : TabZ w B p S h n m A) (xt xb e : Nat) (ban : Int)
    (hxt : Pre w xt 103 [.pointer (some ⟨p, 0, none⟩)]) (hxb : Pre w xb 3 [.int .i64 ban])
    (hA : ∀ k, k ≤ wdt n m → Bq e (A m k)) (he : e ≤ 210) :
    Calls Tryz.prog 67 #[.func (.func 198) #[] #[.pointer (some ⟨xt, 0, none⟩), .pointer (some ⟨xb, 0, none⟩)]] w
      (Ret w (firstV (colsL m A ban (wdt n m)).head?)) := by
  have HSQ := Lib.hid (cols_stopsZ t xt xb e 2 ban (by decide) hxt hxb hA he)
  have HB0 : Below w.heap.size w ((w.alloc (.cells #[.int .i64 0] 3 (0, 0))).alloc (.cells #[.bool false] 4 (0, 0))) := ((Below.refl _ _).alloc (Nat.le_refl _) _).alloc (by simp) _
  have bH : Boxed ((w.alloc (.cells #[.int .i64 0] 3 (0, 0))).alloc (.cells #[.bool false] 4 (0, 0))) w.heap.size 3 (.int .i64 0) := (Boxed.new w 3 (.int .i64 0)).alloc _
  have bN := Boxed.new (w.alloc (.cells #[.int .i64 0] 3 (0, 0))) 4 (.bool false)
  rw [World.size_alloc] at bN
  have hsz : ((w.alloc (.cells #[.int .i64 0] 3 (0, 0))).alloc (.cells #[.bool false] 4 (0, 0))).heap.size = w.heap.size + 2 := by simp
  generalize colsL m A ban (wdt n m) = cl at *
  clear t hxt hxb hA he
  refine (callsIn_wide (n := 3)).1 ?_
  refine callsIn_of_wp_marks Tryz.func67 rfl trivial ?_ rfl
  simp only [Tryz.ntmps67, List.size_toArray, List.length_cons, List.length_nil, Nat.reduceAdd, Nat.reduceSub, Array.replicate_succ, Array.replicate_zero, List.push_toArray, List.append_toArray, List.nil_append, List.cons_append]
  refine wpIn_wide.2 ?_
  refine Code.wp_mono bodyPostR_M ?_
  go_wp2
  obtain ⟨W0, hW0⟩ : ∃ W0, ((w.alloc (.cells #[.int .i64 0] 3 (0, 0))).alloc (.cells #[.bool false] 4 (0, 0))) = W0 := ⟨_, rfl⟩
  rw [hW0] at HB0 bH bN hsz ⊢
  clear hW0
  refine (wpIn_wide (n := 3)).1 ?_
  refine wpIn_rangeFunc_ownF (F := Fence.wide) (n := 3) (encs := encC) rfl (by decide) (gf := 198) (lb := #[.pointer (some ⟨xt, 0, none⟩), .pointer (some ⟨xb, 0, none⟩)]) rfl trivial (enters_of Tryz.func198 (by kernel_rfl) rfl)
    HSQ.out (fun h k => h.trans k) (belowK_b (by omega)) HB0 (fun _ => rfl)
    (fun s W => (fun (_ : List Nat) => s = []) s ∧ Boxed W w.heap.size 3 (.int .i64 0) ∧ Boxed W (w.heap.size + 1) 4 (.bool false) ∧ Below w.heap.size w W)
    (fun c s W => ∃ x, (s = [x] ∧ c = .ret) ∧ Boxed W w.heap.size 3 (.int .i64 (x : Int)) ∧ Boxed W (w.heap.size + 1) 4 (.bool true) ∧ Below w.heap.size w W)
    ?hI ?hIx ⟨rfl, bH, bN, HB0⟩ (fun c => { tmps := #[.func (.func 198) #[] #[.pointer (some ⟨xt, 0, none⟩), .pointer (some ⟨xb, 0, none⟩)], undef, .pointer (some ⟨w.heap.size, 0, none⟩), .pointer (some ⟨w.heap.size + 1, 0, none⟩), .int .i64 (c : Int), .func (.func 198) #[] #[.pointer (some ⟨xt, 0, none⟩), .pointer (some ⟨xb, 0, none⟩)], .int .i64 (c : Int), undef], defers := [] })
    ?assign ?body ?done ?stop
  case hI =>
    rintro s X Y row ⟨h1, h2, h3, h4⟩ hg hr
    exact ⟨h1, (boxed_own (β := Unit) _ _ (fun _ => .int .i64 0)) () X Y row h2 hg (fun r e => (hr r e).2), (boxed_own (β := Unit) _ _ (fun _ => .bool false)) () X Y row h3 hg (fun r e => (hr r e).2), ownFrom_below (β := Unit) (Nat.le_refl _) (by omega) () X Y row h4 hg hr⟩
  case hIx =>
    rintro c s X Y row ⟨x, h1, h2, h3, h4⟩ hg hr
    exact ⟨x, h1, (boxed_own (β := Unit) _ _ (fun _ => .int .i64 (x : Int))) () X Y row h2 hg (fun r e => (hr r e).2), (boxed_own (β := Unit) _ _ (fun _ => .bool true)) () X Y row h3 hg (fun r e => (hr r e).2), ownFrom_below (β := Unit) (Nat.le_refl _) (by omega) () X Y row h4 hg hr⟩
  case assign =>
    rintro l x W K hK
    dsimp only [encC]
    gi_wp2
    exact hK
  case body =>
    rintro l pre x W ⟨rfl, b1, b2, hb⟩ hlt
    have c1 := b1.cell
    have c2 := b2.cell
    have f1 := b1.frozen
    have f2 := b2.frozen
    gi_wp2
    exact ⟨(KeepsOthers.setCell _ _ _).trans (KeepsOthers.setCell _ _ _), x, ⟨rfl, rfl⟩, (b1.set _).other (by omega) _, (b2.other (by omega) _).set _, (hb.setCell (p := ⟨w.heap.size, 0, none⟩) (Nat.le_refl _) _).setCell (p := ⟨w.heap.size + 1, 0, none⟩) (by show _ ≤ w.heap.size + 1; omega) _⟩
  case done =>
    rintro D xs W hD hS ⟨rfl, b1, b2, hb⟩ hK
    have c1 := b1.cell
    have c2 := b2.cell
    have f1 := b1.frozen
    have f2 := b2.frozen
    go_wp2
    have hK2 : ((W.setCell ⟨w.heap.size, 0, none⟩ (.int .i64 0)).setCell ⟨w.heap.size + 1, 0, none⟩ (.bool false)).heap[D]? = some (.deferred (some [])) :=
      (Below.heap_setCell _ _ _ D (by show D ≠ w.heap.size + 1; omega)).trans ((Below.heap_setCell _ _ _ D (by show D ≠ w.heap.size; omega)).trans hK)
    have d1 := ((b1.set (.int .i64 0)).other (B' := w.heap.size + 1) (by omega) (.bool false)).kept (grownBy_putObj' _ D (.deferred none)) (by intro e; cases e; omega)
    have d2 := ((b2.other (B' := w.heap.size) (by omega) (.int .i64 0)).set (.bool false)).kept (grownBy_putObj' _ D (.deferred none)) (by intro e; cases e; omega)
    have q0 := d1.cell
    have q1 := d2.cell
    refine ⟨by simp, .inl ⟨_, _, rfl, run_takeDeferred hK2, ?_⟩⟩
    refine ⟨.tuple #[.int .i64 0, .bool false], by simp [results, Tryz.results67, go_sem, q0, q1], by rw [← hS]; rfl, ?_⟩
    exact belowK_b (w := w) (Nat.le_refl _) _ D _ _ (by omega) hK2 rfl rfl |> fun hx => ((hb.setCell (p := ⟨w.heap.size, 0, none⟩) (Nat.le_refl _) _).setCell (p := ⟨w.heap.size + 1, 0, none⟩) (by show _ ≤ w.heap.size + 1; omega) _).trans hx
  case stop =>
    rintro D c pre W hD ⟨r, hr⟩ ⟨x, ⟨rfl, rfl⟩, b1, b2, hb⟩ hK
    have c1 := b1.cell
    have c2 := b2.cell
    gi_wp2
    have d1 := b1.kept (grownBy_putObj' _ D (.deferred none)) (by intro e; cases e; omega)
    have d2 := b2.kept (grownBy_putObj' _ D (.deferred none)) (by intro e; cases e; omega)
    have q0 := d1.cell
    have q1 := d2.cell
    refine ⟨by simp, .inl ⟨_, _, rfl, run_takeDeferred hK, ?_⟩⟩
    refine ⟨.tuple #[.int .i64 (x : Int), .bool true], by simp [results, Tryz.results67, go_sem, q0, q1], by rw [hr]; rfl, ?_⟩
    exact hb.trans (belowK_b (w := w) (Nat.le_refl _) _ D _ _ (by omega) hK rfl rfl)
end
end W
end Go.Proofs.YtijpgddpejiohaaGreatDoor
end
