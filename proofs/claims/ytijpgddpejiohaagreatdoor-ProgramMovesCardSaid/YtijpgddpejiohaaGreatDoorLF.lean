/-
  Layer 2, the plain part: rational numbers as texts.
  The reference of layer 2: 'slash', 'Split', 'Lowest'.
  The reference of layer 2: 'Check'.
  The reference of layer 2: sums, products, order.
  The reference of layer 2: 'Minus'.
  The reference of layer 2: 'Times', 'Order', 'Signum', 'Whole'.
-/
import Derived.Test.YtijpgddpejiohaaGreatDoorLA
import Derived.Test.YtijpgddpejiohaaGreatDoorLB
import Derived.RegionTactic
import Derived.ChangeAlike
import Derived.BigRegion
section
namespace Go.Proofs.YtijpgddpejiohaaGreatDoor
open Go Go.RowKit
namespace M
/-- The canonical text of a number. -/
def R (q : Rat) : List UInt8 := if q.den = 1 then I q.num else I q.num ++ 47 :: I (q.den : Int)
/-- What is ahead of the first slash. -/
def cutN (l : List UInt8) : List UInt8 := l.takeWhile (· != 47)
/-- What is behind it, or 1. -/
def cutD (l : List UInt8) : List UInt8 := if l.contains 47 = true then (l.dropWhile (· != 47)).tail else [49]
theorem I_no47 (z : Int) : ∀ c ∈ I z, c ≠ (47 : UInt8) := by
  intro c h e
  subst e
  have hd := D_digs z.natAbs
  rcases Int.lt_or_le z 0 with h2 | h2
  · rw [I_of_lt h2] at h
    rcases List.mem_cons.1 h with h | h
    · exact absurd h (by decide)
    · exact absurd (hd _ h).1 (by decide)
  · rw [I_of_ge h2] at h
    exact absurd (hd _ h).1 (by decide)
theorem no47_contains {l : List UInt8} (h : ∀ c ∈ l, c ≠ (47 : UInt8)) : l.contains 47 = false := by
  rw [Bool.eq_false_iff]
  intro h2
  exact h 47 (by simpa using h2) rfl
theorem cutN_none {l : List UInt8} (h : ∀ c ∈ l, c ≠ (47 : UInt8)) : cutN l = l := by
  unfold cutN
  induction l with
  | nil => rfl
  | cons c t ih =>
    rw [List.takeWhile_cons, if_pos (by simpa using h c (List.mem_cons_self ..)), ih (fun d hd => h d (List.mem_cons_of_mem _ hd))]
theorem cutD_none {l : List UInt8} (h : ∀ c ∈ l, c ≠ (47 : UInt8)) : cutD l = [49] := by
  unfold cutD; rw [no47_contains h]; rfl
theorem cutN_some {a : List UInt8} (b : List UInt8) (h : ∀ c ∈ a, c ≠ (47 : UInt8)) : cutN (a ++ 47 :: b) = a := by
  unfold cutN
  rw [List.takeWhile_append_of_pos (fun c hc => by simpa using h c hc)]
  simp
theorem cutD_some {a : List UInt8} (b : List UInt8) (h : ∀ c ∈ a, c ≠ (47 : UInt8)) : cutD (a ++ 47 :: b) = b := by
  unfold cutD
  rw [List.dropWhile_append_of_pos (fun c hc => by simpa using h c hc), if_pos (by simp)]
  simp
theorem cut_back {l : List UInt8} (h : l.contains 47 = true) : l = cutN l ++ 47 :: cutD l := by
  have e : cutD l = (l.dropWhile (· != 47)).tail := by unfold cutD; rw [if_pos h]
  rw [e]
  clear e
  unfold cutN
  induction l with
  | nil => cases h
  | cons c t ih =>
    by_cases hc : c = 47
    · subst hc; simp
    · have h2 : (c != 47) = true := by simpa using hc
      have h3 : t.contains 47 = true := by
        have : (47 : UInt8) ∈ c :: t := by simpa using h
        rcases List.mem_cons.1 this with h4 | h4
        · exact absurd h4.symm hc
        · simpa using h4
      rw [List.takeWhile_cons, if_pos h2, List.dropWhile_cons, if_pos h2, List.cons_append, ← ih h3]
theorem one_lim : 1 < lim := lt_lim.1 (by
  rw [← I_nonneg]
  show (I 1).length ≤ 1024
  rw [I_one]; decide)
open Classical in
/-- The integer that a text means. -/
noncomputable def zv (l : List UInt8) : Int := if h : ∃ z, l = I z then Classical.choose h else 0
theorem zv_I (z : Int) : zv (I z) = z := by
  unfold zv
  rw [dif_pos ⟨z, rfl⟩]
  exact (I_inj (Classical.choose_spec (p := fun y => I z = I y) ⟨z, rfl⟩)).symm
/-- What 'Check' says of a number. -/
noncomputable def chkR (l : List UInt8) : Nat :=
  if chk (cutN l) = 3 ∨ chk (cutD l) = 3 then 3
  else if chk (cutN l) ≠ 0 ∨ chk (cutD l) ≠ 0 then 11
  else if l.contains 47 = true ∧ (zv (cutD l) ≤ 1 ∨ Int.gcd (zv (cutN l)) (zv (cutD l)) ≠ 1) then 3 else 0
theorem R_cutN (q : Rat) : cutN (R q) = I q.num := by
  unfold R; split
  · exact cutN_none (I_no47 _)
  · exact cutN_some _ (I_no47 _)
theorem R_cutD (q : Rat) : cutD (R q) = I (q.den : Int) := by
  unfold R; split
  · rename_i h; rw [cutD_none (I_no47 _), h]; exact I_one.symm
  · exact cutD_some _ (I_no47 _)
theorem chkR_R (q : Rat) (h1 : q.num.natAbs < lim) (h2 : q.den < lim) : chkR (R q) = 0 := by
  have c1 : chk (I q.num) = 0 := by rw [chk_I, if_pos h1]
  have c2 : chk (I (q.den : Int)) = 0 := by rw [chk_I, if_pos (by rw [Int.natAbs_natCast]; exact h2)]
  unfold chkR
  rw [R_cutN, R_cutD, c1, c2, if_neg (by decide), if_neg (by decide), zv_I, zv_I, if_neg]
  rintro ⟨h3, h4⟩
  have h5 : q.den ≠ 1 := by
    intro h
    unfold R at h3
    rw [if_pos h, no47_contains (I_no47 _)] at h3
    cases h3
  have h6 := q.den_nz
  rcases h4 with h4 | h4
  · omega
  · apply h4
    rw [Int.gcd_eq_natAbs_gcd_natAbs, Int.natAbs_natCast]
    exact q.reduced
theorem chkR_form {l : List UInt8} (h : chkR l = 0) : ∃ q : Rat, l = R q ∧ q.num.natAbs < lim ∧ q.den < lim := by
  unfold chkR at h
  split at h
  · cases h
  · rename_i h1
    split at h
    · cases h
    · rename_i h2
      have e1 : chk (cutN l) = 0 := Decidable.byContradiction fun h => h2 (Or.inl h)
      have e2 : chk (cutD l) = 0 := Decidable.byContradiction fun h => h2 (Or.inr h)
      obtain ⟨z, hz⟩ := chk_form (l := cutN l) (by omega)
      obtain ⟨d, hd⟩ := chk_form (l := cutD l) (by omega)
      have o1 : z.natAbs < lim := by
        rw [hz, chk_I] at e1
        exact Decidable.byContradiction fun h => by rw [if_neg h] at e1; cases e1
      have o2 : d.natAbs < lim := by
        rw [hd, chk_I] at e2
        exact Decidable.byContradiction fun h => by rw [if_neg h] at e2; cases e2
      split at h
      · cases h
      · rename_i h3
        rw [hz, hd, zv_I, zv_I] at h3
        by_cases hc : l.contains 47 = true
        · have h4 : ¬ d ≤ 1 := fun h => h3 ⟨hc, Or.inl h⟩
          have h5 : Int.gcd z d = 1 := Decidable.byContradiction fun h => h3 ⟨hc, Or.inr h⟩
          rw [Int.gcd_eq_natAbs_gcd_natAbs] at h5
          refine ⟨⟨z, d.natAbs, by omega, h5⟩, ?_, o1, o2⟩
          have e := cut_back hc
          rw [hz, hd] at e
          unfold R
          rw [if_neg (show ¬ d.natAbs = 1 by omega)]
          show l = I z ++ 47 :: I ((d.natAbs : Nat) : Int)
          rw [show ((d.natAbs : Nat) : Int) = d by omega]
          exact e
        · have hn : ∀ c ∈ l, c ≠ (47 : UInt8) := fun c hm e => hc (by rw [e] at hm; simpa using hm)
          rw [cutN_none hn] at hz
          refine ⟨(z : Rat), ?_, by rw [Rat.num_intCast]; exact o1, by rw [Rat.den_intCast]; exact one_lim⟩
          unfold R
          rw [Rat.den_intCast, if_pos rfl, Rat.num_intCast]
          exact hz
theorem low_num (n d : Int) (h : d ≠ 0) (g : Int) (hg : g = if d < 0 then -((Int.gcd n d : Nat) : Int) else ((Int.gcd n d : Nat) : Int)) :
    n.fdiv g = (Rat.divInt n d).num ∧ d.fdiv g = ((Rat.divInt n d).den : Int) ∧ g ≠ 0 := by
  have hgp : 0 < Int.gcd n d := Int.gcd_pos_of_ne_zero_right n h
  rw [Rat.num_divInt, Rat.den_divInt, if_neg h, Int.gcd_comm d n]
  generalize Int.gcd n d = k at *
  rcases Int.lt_or_le d 0 with h1 | h1
  · rw [if_pos h1] at hg
    subst hg
    rw [Int.sign_eq_neg_one_of_neg h1]
    have e1 : n.fdiv (-(k : Int)) = (-n).fdiv (k : Int) := by rw [← Int.neg_fdiv_neg, Int.neg_neg]
    have e2 : d.fdiv (-(k : Int)) = (-d).fdiv (k : Int) := by rw [← Int.neg_fdiv_neg, Int.neg_neg]
    rw [e1, e2, Int.fdiv_eq_ediv_of_nonneg _ (by omega), Int.fdiv_eq_ediv_of_nonneg _ (by omega)]
    refine ⟨by rw [Int.neg_mul, Int.one_mul], ?_, by omega⟩
    rw [Int.natCast_ediv, show ((d.natAbs : Nat) : Int) = -d by omega]
  · rw [if_neg (by omega)] at hg
    subst hg
    rw [Int.sign_eq_one_of_pos (by omega)]
    rw [Int.fdiv_eq_ediv_of_nonneg _ (by omega), Int.fdiv_eq_ediv_of_nonneg _ (by omega)]
    refine ⟨by rw [Int.one_mul], ?_, by omega⟩
    rw [Int.natCast_ediv, show ((d.natAbs : Nat) : Int) = d by omega]
end M
end Go.Proofs.YtijpgddpejiohaaGreatDoor
end
section
namespace Go.Proofs.YtijpgddpejiohaaGreatDoor
open Go Go.RowKit
namespace M
/-- The index of the first slash, or -1. -/
def slashV (l : List UInt8) : Int := if l.contains 47 = true then ((cutN l).length : Int) else -1
theorem slash_at {l : List UInt8} {k : Nat} (hk : k < l.length) (h0 : ∀ c ∈ l.take k, c ≠ (47 : UInt8)) (h1 : l[k] = 47) : slashV l = (k : Int) := by
  have e : l = l.take k ++ 47 :: l.drop (k + 1) := by
    rw [← h1, List.getElem_cons_drop, List.take_append_drop]
  unfold slashV
  have e2 : cutN l = l.take k := by
    have h2 := cutN_some (l.drop (k + 1)) h0
    rwa [← e] at h2
  rw [if_pos (by rw [e]; simp), e2, List.length_take, Nat.min_eq_left (by omega)]
theorem slash_none {l : List UInt8} (h0 : ∀ c ∈ l, c ≠ (47 : UInt8)) : slashV l = -1 := by
  unfold slashV; rw [no47_contains h0]; rfl
theorem b47 (c : UInt8) : ((c.toNat : Int) == 47) = (c == 47) := by
  rw [Bool.eq_iff_iff, beq_iff_eq, beq_iff_eq]
  constructor
  · intro h; exact UInt8.toNat_inj.1 (by show c.toNat = 47; omega)
  · intro h; subst h; rfl
end M
namespace W
open M
attribute [local go_sem] bs_size bs_toList bs_get bs_extract bs_append bs_lit0 bs_lit1 lit1_bs
set_option maxHeartbeats 1000000
set_option maxRecDepth 20000
theorem slash_any (l : List UInt8) (w : World) (hl : l.length ≤ 9223372036854775807) :
    Calls Tryz.prog 111 #[.string (bs l)] w fun e w' => e = .returned (.int .i64 (slashV l)) ∧ w = w' := by
  go_enter Tryz.func111, Tryz.ntmps111
  go_wp2
  go_loop [3] (fun i => ∃ k : Nat, k ≤ l.length ∧ i = .int .i64 (k : Int) ∧ Hid (∀ c ∈ l.take k, c ≠ (47 : UInt8))) (fun i => l.length - (intOf i).toNat)
  case atStart => exact ⟨0, by omega, rfl, fun c hc => by simp at hc⟩
  case round =>
    obtain ⟨k, hk, rfl, hn⟩ := hrel
    by_cases hlt : k < l.length
    · by_cases hc : l[k] = 47
      · have hb : ((l[k].toNat : Int) == 47) = true := by rw [b47, hc]; rfl
        have HS := Lib.hid (slash_at hlt hn.out hc)
        clear hn hc
        go_wp2
        go_ret
        exact ⟨by rw [HS.out]; rfl, rfl⟩
      · have hb : ((l[k].toNat : Int) == 47) = false := by rw [b47]; simpa using hc
        have hn2 : Hid (∀ c ∈ l.take (k + 1), c ≠ (47 : UInt8)) := by
          intro c hm
          rw [List.take_succ_eq_append_getElem hlt, List.mem_append] at hm
          rcases hm with hm | hm
          · exact hn.out c hm
          · rw [List.mem_singleton.1 hm]; exact hc
        clear hc hn
        go_wp2
        go_round
        case rel => exact ⟨k + 1, by omega, by go_num, hn2⟩
        case measure => simp [intOf]; omega
    · obtain rfl : k = l.length := by omega
      have h2 := hn.out
      rw [List.take_length] at h2
      have HS := Lib.hid (slash_none h2)
      clear hn h2
      go_wp2
      go_ret
      exact ⟨by rw [HS.out]; rfl, rfl⟩
theorem split_any (l : List UInt8) (w : World) (hl : l.length ≤ 9223372036854775807) :
    Calls Tryz.prog 90 #[.string (bs l)] w (Ret w (.tuple #[.string (bs (cutN l)), .string (bs (cutD l))])) := by
  have HC := Lib.hid (slash_any l w hl)
  by_cases h : l.contains 47 = true
  · have e := cut_back h
    have hv : slashV l = ((cutN l).length : Int) := by unfold slashV; rw [if_pos h]
    rw [hv] at HC
    have hll : l.length = (cutN l).length + 1 + (cutD l).length := by
      have := congrArg List.length e
      simp at this; omega
    have et : l.take (cutN l).length = cutN l := by
      have := congrArg (List.take (cutN l).length) e
      rw [List.take_left' rfl] at this; exact this
    have ed : l.drop ((cutN l).length + 1) = cutD l := by
      have := congrArg (List.drop ((cutN l).length + 1)) e
      rw [List.drop_append, List.drop_eq_nil_of_le (show (cutN l).length ≤ (cutN l).length + 1 by omega), show (cutN l).length + 1 - (cutN l).length = 1 by omega] at this; exact this
    obtain ⟨k, hk⟩ : ∃ k, (cutN l).length = k := ⟨_, rfl⟩
    rw [hk] at et ed hll HC
    have HE := Lib.hid (And.intro et ed)
    have hkl : k + 1 ≤ l.length := by omega
    have hc1 : ((k : Int) < 0) = False := by simp
    clear e et ed hll hv h hk
    go_enter Tryz.func90, Tryz.ntmps90
    go_wp2_with fail
    refine (HC.out).mono ?_
    rintro e w' ⟨rfl, rfl⟩
    go_wp2
    go_quiet (fail)
    go_wp2
    go_ret2
    have e3 : (l.drop (k + 1)).take (l.length - (k + 1)) = cutD l := by rw [List.take_of_length_le (by simp), HE.out.2]
    refine Ret.of ?_ (Below.drewN (Below.refl _ _) _)
    show Value.tuple #[.string (bs (l.take k)), .string (bs ((l.drop (k + 1)).take (l.length - (k + 1))))] = _
    rw [e3, HE.out.1]
  · have hn : ∀ c ∈ l, c ≠ (47 : UInt8) := fun c hm e => h (by rw [e] at hm; simpa using hm)
    rw [slash_none hn] at HC
    rw [cutN_none hn, cutD_none hn]
    clear h hn
    go_enter Tryz.func90, Tryz.ntmps90
    go_wp2_with fail
    refine (HC.out).mono ?_
    rintro e w' ⟨rfl, rfl⟩
    go_wp2
    go_ret2
    exact Ret.of rfl (Below.refl _ _)
theorem den_ne {q : Rat} (h : ¬ q.den = 1) : (I (q.den : Int) == [49]) = false := by
  rw [beq_eq_false_iff_ne]
  intro e
  rw [← I_one] at e
  have := I_inj e
  omega
theorem fdiv_len {x y : Int} {k : Nat} (h : (I x).length ≤ k) : (I (x.fdiv y)).length ≤ k + 1 := by
  have h1 := len_mono (Int.natAbs_fdiv_le_natAbs x y)
  have h2 := I_len_D (x.fdiv y)
  have h3 := D_le_I x
  omega
theorem lowest_I (n d : Int) (w : World) (h0 : d ≠ 0) (hn : (I n).length ≤ 99980) (hd : (I d).length ≤ 99980) :
    Calls Tryz.prog 58 #[.string (bs (I n)), .string (bs (I d))] w (Ret w (.string (bs (R (Rat.divInt n d))))) := by
  have hgl : (I ((Int.gcd n d : Nat) : Int)).length ≤ 99980 := by
    rw [I_nonneg]
    have h1 : Int.gcd n d ≤ d.natAbs := Int.gcd_le_natAbs_right _ h0
    exact Nat.le_trans (len_mono h1) (Nat.le_trans (D_le_I d) hd)
  have HG := Lib.hid (shared_I n d w hn hd)
  have HB := Lib.hid (fun w' => below_I d w')
  have HT := Lib.hid (fun w' => turned_I ((Int.gcd n d : Nat) : Int) w' (by omega))
  have hle : Int.gcd n d ≤ d.natAbs := Int.gcd_le_natAbs_right _ h0
  have hlow := low_num n d h0
  generalize Int.gcd n d = k at *
  generalize Rat.divInt n d = q at *
  by_cases hneg : d < 0
  · have hb1 : decide (d < 0) = true := by simpa using hneg
    obtain ⟨l1, l2, l3⟩ := hlow (-(k : Int)) (by rw [if_pos hneg])
    have hgl2 : (I (-(k : Int))).length ≤ 99980 := by
      rw [I_neg (by omega), List.length_cons]
      rw [I_of_lt hneg, List.length_cons] at hd
      have := len_mono hle; omega
    have HP1 := Lib.hid (fun w' => parted_I n (-(k : Int)) w' l3 hn hgl2)
    have HP2 := Lib.hid (fun w' => parted_I d (-(k : Int)) w' l3 hd hgl2)
    have ha1 : (I q.num).length ≤ 99981 := by rw [← l1]; exact fdiv_len hn
    have ha2 : (I (q.den : Int)).length ≤ 99981 := by rw [← l2]; exact fdiv_len hd
    rw [l1] at HP1
    rw [l2] at HP2
    rw [hb1] at HB
    clear hlow hneg hb1 l1 l2 l3 hgl2 hle hgl hn hd h0
    generalize n.fmod (-(k : Int)) = r1 at *
    generalize d.fmod (-(k : Int)) = r2 at *
    by_cases h1 : q.den = 1
    · have hb2 : (I (q.den : Int) == [49]) = true := by rw [h1, show (((1 : Nat) : Int)) = 1 from rfl, I_one]; rfl
      have hR : R q = I q.num := by unfold R; rw [if_pos h1]
      rw [hR]
      clear h1 hR
      generalize I q.num = a at *
      generalize I (q.den : Int) = b at *
      go_enter Tryz.func58, Tryz.ntmps58
      go_wp2_with fail
      refine (HG.out).mono ?_
      rintro e w1 ⟨rfl, hb1⟩
      go_wp2_with fail
      refine (HB.out _).mono ?_
      rintro e w' ⟨rfl, rfl⟩
      go_wp2_with fail
      refine (HT.out _).mono ?_
      rintro e w' ⟨rfl, rfl⟩
      go_wp2_with fail
      refine (HP1.out _).mono ?_
      rintro e w5 ⟨rfl, hb5⟩
      go_wp2_with fail
      refine (HP2.out _).mono ?_
      rintro e w3 ⟨rfl, hb3⟩
      have hb4 := Below.then (Below.then hb1 hb5) hb3
      go_wp2
      go_ret
      exact Ret.of rfl hb4
    · have hb2 : (I (q.den : Int) == [49]) = false := den_ne h1
      have hR : R q = I q.num ++ 47 :: I (q.den : Int) := by unfold R; rw [if_neg h1]
      rw [hR]
      clear h1 hR
      generalize I q.num = a at *
      generalize I (q.den : Int) = b at *
      go_enter Tryz.func58, Tryz.ntmps58
      go_wp2_with fail
      refine (HG.out).mono ?_
      rintro e w1 ⟨rfl, hb1⟩
      go_wp2_with fail
      refine (HB.out _).mono ?_
      rintro e w' ⟨rfl, rfl⟩
      go_wp2_with fail
      refine (HT.out _).mono ?_
      rintro e w' ⟨rfl, rfl⟩
      go_wp2_with fail
      refine (HP1.out _).mono ?_
      rintro e w5 ⟨rfl, hb5⟩
      go_wp2_with fail
      refine (HP2.out _).mono ?_
      rintro e w3 ⟨rfl, hb3⟩
      have hb4 := Below.then (Below.then hb1 hb5) hb3
      go_wp2
      go_ret
      exact Ret.of (by simp) hb4
  · have hb1 : decide (d < 0) = false := by simpa using hneg
    obtain ⟨l1, l2, l3⟩ := hlow (k : Int) (by rw [if_neg hneg])
    have HP1 := Lib.hid (fun w' => parted_I n (k : Int) w' l3 hn hgl)
    have HP2 := Lib.hid (fun w' => parted_I d (k : Int) w' l3 hd hgl)
    have ha1 : (I q.num).length ≤ 99981 := by rw [← l1]; exact fdiv_len hn
    have ha2 : (I (q.den : Int)).length ≤ 99981 := by rw [← l2]; exact fdiv_len hd
    rw [l1] at HP1
    rw [l2] at HP2
    rw [hb1] at HB
    clear hlow hneg hb1 l1 l2 l3 hle hgl hn hd h0 HT
    generalize n.fmod (k : Int) = r1 at *
    generalize d.fmod (k : Int) = r2 at *
    by_cases h1 : q.den = 1
    · have hb2 : (I (q.den : Int) == [49]) = true := by rw [h1, show (((1 : Nat) : Int)) = 1 from rfl, I_one]; rfl
      have hR : R q = I q.num := by unfold R; rw [if_pos h1]
      rw [hR]
      clear h1 hR
      generalize I q.num = a at *
      generalize I (q.den : Int) = b at *
      go_enter Tryz.func58, Tryz.ntmps58
      go_wp2_with fail
      refine (HG.out).mono ?_
      rintro e w1 ⟨rfl, hb1⟩
      go_wp2_with fail
      refine (HB.out _).mono ?_
      rintro e w' ⟨rfl, rfl⟩
      go_wp2_with fail
      refine (HP1.out _).mono ?_
      rintro e w5 ⟨rfl, hb5⟩
      go_wp2_with fail
      refine (HP2.out _).mono ?_
      rintro e w3 ⟨rfl, hb3⟩
      have hb4 := Below.then (Below.then hb1 hb5) hb3
      go_wp2
      go_ret
      exact Ret.of rfl hb4
    · have hb2 : (I (q.den : Int) == [49]) = false := den_ne h1
      have hR : R q = I q.num ++ 47 :: I (q.den : Int) := by unfold R; rw [if_neg h1]
      rw [hR]
      clear h1 hR
      generalize I q.num = a at *
      generalize I (q.den : Int) = b at *
      go_enter Tryz.func58, Tryz.ntmps58
      go_wp2_with fail
      refine (HG.out).mono ?_
      rintro e w1 ⟨rfl, hb1⟩
      go_wp2_with fail
      refine (HB.out _).mono ?_
      rintro e w' ⟨rfl, rfl⟩
      go_wp2_with fail
      refine (HP1.out _).mono ?_
      rintro e w5 ⟨rfl, hb5⟩
      go_wp2_with fail
      refine (HP2.out _).mono ?_
      rintro e w3 ⟨rfl, hb3⟩
      have hb4 := Below.then (Below.then hb1 hb5) hb3
      go_wp2
      go_ret
      exact Ret.of (by simp) hb4
end W
end Go.Proofs.YtijpgddpejiohaaGreatDoor
end
section
namespace Go.Proofs.YtijpgddpejiohaaGreatDoor
open Go Go.RowKit
namespace M
theorem cutN_len (l : List UInt8) : (cutN l).length ≤ l.length := by
  unfold cutN
  induction l with
  | nil => simp
  | cons c t ih => rw [List.takeWhile_cons]; split <;> simp <;> omega
theorem cutD_len (l : List UInt8) : (cutD l).length ≤ l.length + 1 := by
  unfold cutD; split
  · rename_i h
    have := congrArg List.length (cut_back h)
    unfold cutD at this
    rw [if_pos h] at this
    simp at this ⊢; omega
  · simp
theorem slash_ge (l : List UInt8) : (decide (slashV l < 0)) = !l.contains 47 := by
  unfold slashV; split
  · rename_i h; rw [h]; simp
  · rename_i h; rw [Bool.eq_false_iff.2 h]; rfl
end M
namespace W
open M
attribute [local go_sem] bs_size bs_toList bs_get bs_extract bs_append bs_lit0 bs_lit1 lit1_bs
set_option maxHeartbeats 1000000
set_option maxRecDepth 20000
theorem check2_any (l : List UInt8) (w : World) (hl : l.length ≤ 90000) :
    Calls Tryz.prog 49 #[.string (bs l)] w (Ret w (.int .i64 ((chkR l : Nat) : Int))) := by
  have hn := cutN_len l
  have hd := cutD_len l
  have HS := Lib.hid (split_any l w (by omega))
  have HN := Lib.hid (fun w' => check_any (cutN l) w' (by omega))
  have HD := Lib.hid (fun w' => check_any (cutD l) w' (by omega))
  have HV := Lib.hid (fun w' => slash_any l w' (by omega))
  obtain ⟨r, hr⟩ : ∃ r, chkR l = r := ⟨_, rfl⟩
  rw [hr]
  unfold chkR at hr
  by_cases h1 : chk (cutN l) = 3
  · rw [if_pos (Or.inl h1)] at hr
    subst hr
    rw [h1] at HN
    clear h1
    generalize cutN l = a at *
    generalize cutD l = b at *
    go_enter Tryz.func49, Tryz.ntmps49
    go_wp2_with fail
    refine (HS.out).mono ?_
    rintro e w1 ⟨rfl, hb1⟩
    go_wp2_with fail
    refine (HN.out _).mono ?_
    rintro e w' ⟨rfl, rfl⟩
    go_wp2
    go_ret
    exact Ret.of rfl hb1
  · by_cases h2 : chk (cutD l) = 3
    · rw [if_pos (Or.inr h2)] at hr
      subst hr
      have hb2 : (((chk (cutN l) : Nat) : Int) == 3) = false := by simp; omega
      rw [h2] at HD
      clear h1 h2
      generalize chk (cutN l) = c at *
      generalize cutN l = a at *
      generalize cutD l = b at *
      go_enter Tryz.func49, Tryz.ntmps49
      go_wp2_with fail
      refine (HS.out).mono ?_
      rintro e w1 ⟨rfl, hb1⟩
      go_wp2_with fail
      refine (HN.out _).mono ?_
      rintro e w' ⟨rfl, rfl⟩
      go_wp2_with fail
      refine (HD.out _).mono ?_
      rintro e w' ⟨rfl, rfl⟩
      go_wp2
      go_ret
      exact Ret.of rfl hb1
    · rw [if_neg (fun h => h.elim h1 h2)] at hr
      have hb2 : (((chk (cutN l) : Nat) : Int) == 3) = false := by simp; omega
      have hb3 : (((chk (cutD l) : Nat) : Int) == 3) = false := by simp; omega
      by_cases h3 : chk (cutN l) = 0
      · by_cases h4 : chk (cutD l) = 0
        · rw [if_neg (fun h => h.elim (fun h => h h3) (fun h => h h4))] at hr
          obtain ⟨z, hz⟩ := chk_form (l := cutN l) h1
          obtain ⟨d, hd2⟩ := chk_form (l := cutD l) h2
          rw [h3] at HN
          rw [h4] at HD
          rw [hz] at HN HS hn hr
          rw [hd2] at HD HS hd hr
          rw [zv_I, zv_I] at hr
          have HO := Lib.hid (fun w' => order_I d 1 w' (by omega) (by rw [I_one]; decide))
          have HG := Lib.hid (fun w' => shared_I z d w' (by omega) (by omega))
          have H1 := Lib.hid I_one
          clear hb2 hb3 h1 h2 h3 h4 hz hd2
          by_cases hc : l.contains 47 = true
          · obtain ⟨k, hk⟩ : ∃ k : Nat, slashV l = (k : Int) := ⟨_, by unfold slashV; rw [if_pos hc]⟩
            rw [hk] at HV
            clear hk
            by_cases h5 : d ≤ 1
            · rw [if_pos ⟨hc, Or.inl h5⟩] at hr
              subst hr
              have hs : Int.sign (d - 1) ≤ 0 := by
                rcases Int.lt_trichotomy (d - 1) 0 with h | h | h
                · rw [Int.sign_eq_neg_one_of_neg h]; decide
                · rw [h]; decide
                · omega
              clear hc h5
              generalize Int.sign (d - 1) = sv at *
              go_enter Tryz.func49, Tryz.ntmps49
              go_wp2_with fail
              refine (HS.out).mono ?_
              rintro e w1 ⟨rfl, hb1⟩
              go_wp2_with fail
              refine (HN.out _).mono ?_
              rintro e w' ⟨rfl, rfl⟩
              go_wp2_with fail
              refine (HD.out _).mono ?_
              rintro e w' ⟨rfl, rfl⟩
              go_wp2_with fail
              refine (HN.out _).mono ?_
              rintro e w' ⟨rfl, rfl⟩
              go_wp2_with fail
              refine (HD.out _).mono ?_
              rintro e w' ⟨rfl, rfl⟩
              go_wp2_with fail
              refine (HV.out _).mono ?_
              rintro e w' ⟨rfl, rfl⟩
              go_wp2_with fail
              rw [show (Value.string ⟨#[49]⟩) = Value.string (bs (I 1)) by rw [H1.out]; rfl]
              refine (HO.out _).mono ?_
              rintro e w2 ⟨rfl, hb2⟩
              go_wp2
              go_ret
              exact Ret.of rfl (Below.then hb1 hb2)
            · have hs : Int.sign (d - 1) = 1 := Int.sign_eq_one_of_pos (by omega)
              by_cases h6 : Int.gcd z d ≠ 1
              · rw [if_pos ⟨hc, Or.inr h6⟩] at hr
                subst hr
                have hb6 : (I ((Int.gcd z d : Nat) : Int) == [49]) = false := by
                  rw [beq_eq_false_iff_ne, ← I_one]
                  intro e
                  have := I_inj e
                  omega
                clear hc h5 h6
                generalize I ((Int.gcd z d : Nat) : Int) = gs at *
                generalize I z = zs at *
                go_enter Tryz.func49, Tryz.ntmps49
                go_wp2_with fail
                refine (HS.out).mono ?_
                rintro e w1 ⟨rfl, hb1⟩
                go_wp2_with fail
                refine (HN.out _).mono ?_
                rintro e w' ⟨rfl, rfl⟩
                go_wp2_with fail
                refine (HD.out _).mono ?_
                rintro e w' ⟨rfl, rfl⟩
                go_wp2_with fail
                refine (HN.out _).mono ?_
                rintro e w' ⟨rfl, rfl⟩
                go_wp2_with fail
                refine (HD.out _).mono ?_
                rintro e w' ⟨rfl, rfl⟩
                go_wp2_with fail
                refine (HV.out _).mono ?_
                rintro e w' ⟨rfl, rfl⟩
                go_wp2_with fail
                rw [show (Value.string ⟨#[49]⟩) = Value.string (bs (I 1)) by rw [H1.out]; rfl]
                refine (HO.out _).mono ?_
                rintro e w2 ⟨rfl, hb2⟩
                rw [hs]
                go_wp2_with fail
                refine (HG.out _).mono ?_
                rintro e w3 ⟨rfl, hb3⟩
                go_wp2
                go_ret
                exact Ret.of rfl (Below.then (Below.then hb1 hb2) hb3)
              · rw [if_neg (fun h => h.2.elim h5 h6)] at hr
                subst hr
                have hb6 : (I ((Int.gcd z d : Nat) : Int) == [49]) = true := by
                  rw [show Int.gcd z d = 1 by omega, show (((1 : Nat) : Int)) = 1 from rfl, I_one]; rfl
                clear hc h5 h6
                generalize I ((Int.gcd z d : Nat) : Int) = gs at *
                generalize I z = zs at *
                go_enter Tryz.func49, Tryz.ntmps49
                go_wp2_with fail
                refine (HS.out).mono ?_
                rintro e w1 ⟨rfl, hb1⟩
                go_wp2_with fail
                refine (HN.out _).mono ?_
                rintro e w' ⟨rfl, rfl⟩
                go_wp2_with fail
                refine (HD.out _).mono ?_
                rintro e w' ⟨rfl, rfl⟩
                go_wp2_with fail
                refine (HN.out _).mono ?_
                rintro e w' ⟨rfl, rfl⟩
                go_wp2_with fail
                refine (HD.out _).mono ?_
                rintro e w' ⟨rfl, rfl⟩
                go_wp2_with fail
                refine (HV.out _).mono ?_
                rintro e w' ⟨rfl, rfl⟩
                go_wp2_with fail
                rw [show (Value.string ⟨#[49]⟩) = Value.string (bs (I 1)) by rw [H1.out]; rfl]
                refine (HO.out _).mono ?_
                rintro e w2 ⟨rfl, hb2⟩
                rw [hs]
                go_wp2_with fail
                refine (HG.out _).mono ?_
                rintro e w3 ⟨rfl, hb3⟩
                go_wp2
                go_ret
                exact Ret.of rfl (Below.then (Below.then hb1 hb2) hb3)
          · have hk : slashV l = -1 := by unfold slashV; rw [if_neg hc]
            rw [hk] at HV
            rw [if_neg (fun h => hc h.1)] at hr
            subst hr
            clear hk hc
            go_enter Tryz.func49, Tryz.ntmps49
            go_wp2_with fail
            refine (HS.out).mono ?_
            rintro e w1 ⟨rfl, hb1⟩
            go_wp2_with fail
            refine (HN.out _).mono ?_
            rintro e w' ⟨rfl, rfl⟩
            go_wp2_with fail
            refine (HD.out _).mono ?_
            rintro e w' ⟨rfl, rfl⟩
            go_wp2_with fail
            refine (HN.out _).mono ?_
            rintro e w' ⟨rfl, rfl⟩
            go_wp2_with fail
            refine (HD.out _).mono ?_
            rintro e w' ⟨rfl, rfl⟩
            go_wp2_with fail
            refine (HV.out _).mono ?_
            rintro e w' ⟨rfl, rfl⟩
            go_wp2
            go_ret
            exact Ret.of rfl hb1
        · rw [if_pos (Or.inr h4)] at hr
          subst hr
          have hb4 : (((chk (cutD l) : Nat) : Int) != 0) = true := by simpa using h4
          rw [h3] at HN
          clear h1 h2 h3 h4 hb2
          generalize chk (cutD l) = c2 at *
          generalize cutN l = a at *
          generalize cutD l = b at *
          go_enter Tryz.func49, Tryz.ntmps49
          go_wp2_with fail
          refine (HS.out).mono ?_
          rintro e w1 ⟨rfl, hb1⟩
          go_wp2_with fail
          refine (HN.out _).mono ?_
          rintro e w' ⟨rfl, rfl⟩
          go_wp2_with fail
          refine (HD.out _).mono ?_
          rintro e w' ⟨rfl, rfl⟩
          go_wp2_with fail
          refine (HN.out _).mono ?_
          rintro e w' ⟨rfl, rfl⟩
          go_wp2_with fail
          refine (HD.out _).mono ?_
          rintro e w' ⟨rfl, rfl⟩
          go_wp2
          go_ret
          exact Ret.of rfl hb1
      · rw [if_pos (Or.inl h3)] at hr
        subst hr
        have hb4 : (((chk (cutN l) : Nat) : Int) != 0) = true := by simpa using h3
        clear h1 h2 h3
        generalize chk (cutN l) = c1 at *
        generalize chk (cutD l) = c2 at *
        generalize cutN l = a at *
        generalize cutD l = b at *
        go_enter Tryz.func49, Tryz.ntmps49
        go_wp2_with fail
        refine (HS.out).mono ?_
        rintro e w1 ⟨rfl, hb1⟩
        go_wp2_with fail
        refine (HN.out _).mono ?_
        rintro e w' ⟨rfl, rfl⟩
        go_wp2_with fail
        refine (HD.out _).mono ?_
        rintro e w' ⟨rfl, rfl⟩
        go_wp2_with fail
        refine (HN.out _).mono ?_
        rintro e w' ⟨rfl, rfl⟩
        go_wp2
        go_ret
        exact Ret.of rfl hb1
end W
end Go.Proofs.YtijpgddpejiohaaGreatDoor
end
section
namespace Go.Proofs.YtijpgddpejiohaaGreatDoor
open Go Go.RowKit
namespace M
/-- A number's parts are short enough for the reference. -/
def Sh (q : Rat) : Prop := (I q.num).length ≤ 40000 ∧ (I (q.den : Int)).length ≤ 40000
theorem R_len {q : Rat} (h : Sh q) : (R q).length ≤ 80001 := by
  unfold R; split
  · have := h.1; omega
  · have h1 := h.1; have h2 := h.2; simp; omega
theorem I_mul_len {x y : Int} {j k : Nat} (hx : (I x).length ≤ j) (hy : (I y).length ≤ k) : (I (x * y)).length ≤ j + k + 1 := by
  have h1 := I_len_D (x * y)
  rw [Int.natAbs_mul] at h1
  have h2 := D_le_I x
  have h3 := D_le_I y
  have h4 := D_len_pos x.natAbs
  have h5 := D_len_pos y.natAbs
  have h6 := len_mul (a := x.natAbs) (b := y.natAbs) (j := j) (k := k) (by omega) (by omega) (by omega) (by omega)
  omega
theorem I_add_len {x y : Int} {k : Nat} (hx : (I x).length ≤ k) (hy : (I y).length ≤ k) : (I (x + y)).length ≤ k + 2 := by
  have h1 := I_len_D (x + y)
  have h2 := D_le_I x
  have h3 := D_le_I y
  have h4 := D_len_pos x.natAbs
  have h5 := (lt_pw (n := x.natAbs) (k := k) (by omega)).1 (by omega)
  have h6 := (lt_pw (n := y.natAbs) (k := k) (by omega)).1 (by omega)
  have h7 := (lt_pw (n := (x + y).natAbs) (k := k + 1) (by omega)).2 (by
    have : pw (k + 1) = pw k * 10 := by unfold pw; exact Nat.pow_succ _ _
    omega)
  omega
theorem I_sub_len {x y : Int} {k : Nat} (hx : (I x).length ≤ k) (hy : (I y).length ≤ k) : (I (x - y)).length ≤ k + 2 := by
  have h1 := I_len_D (x - y)
  have h2 := D_le_I x
  have h3 := D_le_I y
  have h4 := D_len_pos x.natAbs
  have h5 := (lt_pw (n := x.natAbs) (k := k) (by omega)).1 (by omega)
  have h6 := (lt_pw (n := y.natAbs) (k := k) (by omega)).1 (by omega)
  have h7 := (lt_pw (n := (x - y).natAbs) (k := k + 1) (by omega)).2 (by
    have : pw (k + 1) = pw k * 10 := by unfold pw; exact Nat.pow_succ _ _
    omega)
  omega
theorem den_pos (q : Rat) : ((q.den : Nat) : Int) ≠ 0 := by have := q.den_nz; omega
theorem add_div (a b : Rat) : Rat.divInt (a.num * (b.den : Int) + b.num * (a.den : Int)) ((a.den : Int) * (b.den : Int)) = a + b := by
  rw [← Rat.divInt_add_divInt _ _ (den_pos a) (den_pos b), Rat.num_divInt_den, Rat.num_divInt_den]
theorem sub_div (a b : Rat) : Rat.divInt (a.num * (b.den : Int) - b.num * (a.den : Int)) ((a.den : Int) * (b.den : Int)) = a - b := by
  rw [← Rat.divInt_sub_divInt _ _ (den_pos a) (den_pos b), Rat.num_divInt_den, Rat.num_divInt_den]
theorem mul_div (a b : Rat) : Rat.divInt (a.num * b.num) ((a.den : Int) * (b.den : Int)) = a * b := by
  rw [← Rat.divInt_mul_divInt, Rat.num_divInt_den, Rat.num_divInt_den]
end M
def CrossL (a b : Rat) : List Value := [.string (bs (M.I (a.num * (b.den : Int)))), .string (bs (M.I (b.num * (a.den : Int)))), .string (bs (M.I ((a.den : Int) * (b.den : Int)))), .string (bs (M.I (a.num * b.num))), .string (bs (M.I ((a.den : Int) * b.num)))]
/-- The five products. -/
def CrossP (a b : Rat) (w : World) (e : Ending) (w' : World) : Prop := ∃ bl, w.heap.size ≤ bl ∧ e = .returned (.slice (some ⟨bl, 0, none⟩) 5 5) ∧ Row w' bl 95 (CrossL a b) ∧ Below w.heap.size w w'
namespace W
open M
attribute [local go_sem] bs_size bs_toList bs_get bs_extract bs_append bs_lit0 bs_lit1 lit1_bs
set_option maxHeartbeats 1000000
set_option maxRecDepth 20000
theorem split_R (q : Rat) (w : World) (h : Sh q) :
    Calls Tryz.prog 90 #[.string (bs (R q))] w (Ret w (.tuple #[.string (bs (I q.num)), .string (bs (I (q.den : Int)))])) := by
  have h1 := R_len h
  have := split_any (R q) w (by omega)
  rw [R_cutN, R_cutD] at this
  exact this
theorem crossed_R (a b : Rat) (w : World) (ha : Sh a) (hb : Sh b) :
    Calls Tryz.prog 57 #[.string (bs (R a)), .string (bs (R b))] w (CrossP a b w) := by
  have HA := Lib.hid (fun w' => split_R a w' ha)
  have HB := Lib.hid (fun w' => split_R b w' hb)
  obtain ⟨a1, a2⟩ := ha
  obtain ⟨b1, b2⟩ := hb
  have H1 := Lib.hid (fun w' => times_I a.num (b.den : Int) w' (by omega) (by omega))
  have H2 := Lib.hid (fun w' => times_I b.num (a.den : Int) w' (by omega) (by omega))
  have H3 := Lib.hid (fun w' => times_I (a.den : Int) (b.den : Int) w' (by omega) (by omega))
  have H4 := Lib.hid (fun w' => times_I a.num b.num w' (by omega) (by omega))
  have H5 := Lib.hid (fun w' => times_I (a.den : Int) b.num w' (by omega) (by omega))
  unfold CrossP CrossL
  generalize I (a.num * (b.den : Int)) = z1 at *
  generalize I (b.num * (a.den : Int)) = z2 at *
  generalize I ((a.den : Int) * (b.den : Int)) = z3 at *
  generalize I (a.num * b.num) = z4 at *
  generalize I ((a.den : Int) * b.num) = z5 at *
  generalize R a = ra at *
  generalize R b = rb at *
  generalize I a.num = x1 at *
  generalize I (a.den : Int) = x2 at *
  generalize I b.num = y1 at *
  generalize I (b.den : Int) = y2 at *
  clear a1 a2 b1 b2
  go_enter Tryz.func57, Tryz.ntmps57
  go_wp2_with fail
  refine (HA.out _).mono ?_
  rintro e w1 ⟨rfl, hb1⟩
  go_wp2_with fail
  refine (HB.out _).mono ?_
  rintro e w2 ⟨rfl, hb2⟩
  go_wp2_with fail
  refine (H1.out _).mono ?_
  rintro e w3 ⟨rfl, hb3⟩
  go_wp2_with fail
  refine (H2.out _).mono ?_
  rintro e w4 ⟨rfl, hb4⟩
  go_wp2_with fail
  refine (H3.out _).mono ?_
  rintro e w5 ⟨rfl, hb5⟩
  go_wp2_with fail
  refine (H4.out _).mono ?_
  rintro e w6 ⟨rfl, hb6⟩
  go_wp2_with fail
  refine (H5.out _).mono ?_
  rintro e w7 ⟨rfl, hb7⟩
  have hb8 := Below.then (Below.then (Below.then (Below.then (Below.then (Below.then hb1 hb2) hb3) hb4) hb5) hb6) hb7
  go_wp2
  go_ret
  exact ⟨w7.heap.size, hb8.size, rfl, Row.new w7 _ _, hb8.alloc (hb8.size) _⟩
theorem plus_R (a b : Rat) (w : World) (ha : Sh a) (hb : Sh b) :
    Calls Tryz.prog 15 #[.string (bs (R a)), .string (bs (R b))] w (Ret w (.string (bs (R (a + b))))) := by
  have HC := Lib.hid (crossed_R a b w ha hb)
  have l1 := I_mul_len ha.1 hb.2
  have l2 := I_mul_len hb.1 ha.2
  have l3 := I_mul_len ha.2 hb.2
  have l4 := I_add_len l1 l2
  have hd0 : (a.den : Int) * (b.den : Int) ≠ 0 := Int.mul_ne_zero (den_pos a) (den_pos b)
  have HP := Lib.hid (fun w' => plus_I (a.num * (b.den : Int)) (b.num * (a.den : Int)) w' (by omega) (by omega))
  have HL := Lib.hid (fun w' => lowest_I (a.num * (b.den : Int) + b.num * (a.den : Int)) ((a.den : Int) * (b.den : Int)) w' hd0 (by omega) (by omega))
  rw [add_div] at HL
  unfold CrossP CrossL at HC
  generalize I (a.num * (b.den : Int) + b.num * (a.den : Int)) = z0 at *
  generalize I (a.num * (b.den : Int)) = z1 at *
  generalize I (b.num * (a.den : Int)) = z2 at *
  generalize I ((a.den : Int) * (b.den : Int)) = z3 at *
  generalize I (a.num * b.num) = z4 at *
  generalize I ((a.den : Int) * b.num) = z5 at *
  generalize R (a + b) = rr at *
  generalize R a = ra at *
  generalize R b = rb at *
  clear ha hb l1 l2 l3 l4 hd0
  go_enter Tryz.func15, Tryz.ntmps15
  go_wp2_with fail
  refine HC.out.mono ?_
  rintro e w1 ⟨bl, hbl, rfl, hrow, hb1⟩
  have hlt := hrow.lt
  have c0 := hrow.cell (i := 0) rfl
  have c1 := hrow.cell (i := 1) rfl
  have c2 := hrow.cell (i := 2) rfl
  go_wp2
  go_region_with (first | (go_at_call 59; refine (HP.out _).mono ?_; rintro e w2 ⟨rfl, hb2⟩; have d2 := ((hrow.drew).below' hb2).cell (i := 2) rfl) | (go_at_call 58; refine (HL.out _).mono ?_; rintro e w3 ⟨rfl, hb3⟩))
  all_goals
    have hb4 := Below.then (hb1.trans ((RowKit.Below.drew (RowKit.Below.refl _ w1)).trans (hb2.mono (by exact hb1.size)))) hb3
    go_wp2
    go_ret
    exact Ret.of rfl hb4
end W
end Go.Proofs.YtijpgddpejiohaaGreatDoor
end
section
namespace Go.Proofs.YtijpgddpejiohaaGreatDoor
open Go Go.RowKit
namespace W
open M
attribute [local go_sem] bs_size bs_toList bs_get bs_extract bs_append bs_lit0 bs_lit1 lit1_bs
set_option maxHeartbeats 1000000
set_option maxRecDepth 20000
theorem minus_R (a b : Rat) (w : World) (ha : Sh a) (hb : Sh b) :
    Calls Tryz.prog 158 #[.string (bs (R a)), .string (bs (R b))] w (Ret w (.string (bs (R (a - b))))) := by
  have HC := Lib.hid (crossed_R a b w ha hb)
  have l1 := I_mul_len ha.1 hb.2
  have l2 := I_mul_len hb.1 ha.2
  have l3 := I_mul_len ha.2 hb.2
  have l4 := I_sub_len l1 l2
  have hd0 : (a.den : Int) * (b.den : Int) ≠ 0 := Int.mul_ne_zero (den_pos a) (den_pos b)
  have HP := Lib.hid (fun w' => minus_I (a.num * (b.den : Int)) (b.num * (a.den : Int)) w' (by omega) (by omega))
  have HL := Lib.hid (fun w' => lowest_I (a.num * (b.den : Int) - b.num * (a.den : Int)) ((a.den : Int) * (b.den : Int)) w' hd0 (by omega) (by omega))
  rw [sub_div] at HL
  unfold CrossP CrossL at HC
  generalize I (a.num * (b.den : Int) - b.num * (a.den : Int)) = z0 at *
  generalize I (a.num * (b.den : Int)) = z1 at *
  generalize I (b.num * (a.den : Int)) = z2 at *
  generalize I ((a.den : Int) * (b.den : Int)) = z3 at *
  generalize I (a.num * b.num) = z4 at *
  generalize I ((a.den : Int) * b.num) = z5 at *
  generalize R (a - b) = rr at *
  generalize R a = ra at *
  generalize R b = rb at *
  clear ha hb l1 l2 l3 l4 hd0
  go_enter Tryz.func158, Tryz.ntmps158
  go_wp2_with fail
  refine HC.out.mono ?_
  rintro e w1 ⟨bl, hbl, rfl, hrow, hb1⟩
  have hlt := hrow.lt
  have c0 := hrow.cell (i := 0) rfl
  have c1 := hrow.cell (i := 1) rfl
  have c2 := hrow.cell (i := 2) rfl
  go_wp2
  go_region_with (first | (go_at_call 182; refine (HP.out _).mono ?_; rintro e w2 ⟨rfl, hb2⟩; have d2 := ((hrow.drew).below' hb2).cell (i := 2) rfl) | (go_at_call 58; refine (HL.out _).mono ?_; rintro e w3 ⟨rfl, hb3⟩))
  all_goals
    have hb4 := Below.then (hb1.trans ((RowKit.Below.drew (RowKit.Below.refl _ w1)).trans (hb2.mono (by exact hb1.size)))) hb3
    go_wp2
    go_ret
    exact Ret.of rfl hb4
end W
end Go.Proofs.YtijpgddpejiohaaGreatDoor
end
section
namespace Go.Proofs.YtijpgddpejiohaaGreatDoor
open Go Go.RowKit
namespace W
open M
attribute [local go_sem] bs_size bs_toList bs_get bs_extract bs_append bs_lit0 bs_lit1 lit1_bs
set_option maxHeartbeats 1000000
set_option maxRecDepth 20000
theorem timesR (a b : Rat) (w : World) (ha : Sh a) (hb : Sh b) :
    Calls Tryz.prog 14 #[.string (bs (R a)), .string (bs (R b))] w (Ret w (.string (bs (R (a * b))))) := by
  have HC := Lib.hid (crossed_R a b w ha hb)
  have l1 := I_mul_len ha.1 hb.1
  have l3 := I_mul_len ha.2 hb.2
  have hd0 : (a.den : Int) * (b.den : Int) ≠ 0 := Int.mul_ne_zero (den_pos a) (den_pos b)
  have HL := Lib.hid (fun w' => lowest_I (a.num * b.num) ((a.den : Int) * (b.den : Int)) w' hd0 (by omega) (by omega))
  rw [mul_div] at HL
  unfold CrossP CrossL at HC
  generalize I (a.num * (b.den : Int)) = z1 at *
  generalize I (b.num * (a.den : Int)) = z2 at *
  generalize I ((a.den : Int) * (b.den : Int)) = z3 at *
  generalize I (a.num * b.num) = z4 at *
  generalize I ((a.den : Int) * b.num) = z5 at *
  generalize R (a * b) = rr at *
  generalize R a = ra at *
  generalize R b = rb at *
  clear ha hb l1 l3 hd0
  go_enter Tryz.func14, Tryz.ntmps14
  go_wp2_with fail
  refine HC.out.mono ?_
  rintro e w1 ⟨bl, hbl, rfl, hrow, hb1⟩
  have hlt := hrow.lt
  have c3 := hrow.cell (i := 3) rfl
  have c2 := hrow.cell (i := 2) rfl
  go_wp2
  go_region_with (go_at_call 58; refine (HL.out _).mono ?_; rintro e w3 ⟨rfl, hb3⟩)
  all_goals
    have hb4 := hb1.trans ((RowKit.Below.drew (RowKit.Below.refl _ w1)).trans (hb3.mono (by exact hb1.size)))
    go_wp2
    go_ret
    exact Ret.of rfl hb4
theorem order_R (a b : Rat) (w : World) (ha : Sh a) (hb : Sh b) :
    Calls Tryz.prog 141 #[.string (bs (R a)), .string (bs (R b))] w (Ret w (.int .i64 (Int.sign (a.num * (b.den : Int) - b.num * (a.den : Int))))) := by
  have HC := Lib.hid (crossed_R a b w ha hb)
  have l1 := I_mul_len ha.1 hb.2
  have l2 := I_mul_len hb.1 ha.2
  have HL := Lib.hid (fun w' => order_I (a.num * (b.den : Int)) (b.num * (a.den : Int)) w' (by omega) (by omega))
  unfold CrossP CrossL at HC
  generalize Int.sign (a.num * (b.den : Int) - b.num * (a.den : Int)) = sg at *
  generalize I (a.num * (b.den : Int)) = z1 at *
  generalize I (b.num * (a.den : Int)) = z2 at *
  generalize I ((a.den : Int) * (b.den : Int)) = z3 at *
  generalize I (a.num * b.num) = z4 at *
  generalize I ((a.den : Int) * b.num) = z5 at *
  generalize R a = ra at *
  generalize R b = rb at *
  clear ha hb l1 l2
  go_enter Tryz.func141, Tryz.ntmps141
  go_wp2_with fail
  refine HC.out.mono ?_
  rintro e w1 ⟨bl, hbl, rfl, hrow, hb1⟩
  have hlt := hrow.lt
  have c0 := hrow.cell (i := 0) rfl
  have c1 := hrow.cell (i := 1) rfl
  go_wp2
  go_region_with (go_at_call 112; refine (HL.out _).mono ?_; rintro e w3 ⟨rfl, hb3⟩)
  all_goals
    have hb4 := hb1.trans ((RowKit.Below.drew (RowKit.Below.refl _ w1)).trans (hb3.mono (by exact hb1.size)))
    go_wp2
    go_ret
    exact Ret.of rfl hb4
theorem signum_R (a : Rat) (w : World) (ha : Sh a) :
    Calls Tryz.prog 203 #[.string (bs (R a))] w (Ret w (.int .i64 (Int.sign a.num))) := by
  have HS := Lib.hid (split_R a w ha)
  have HO := Lib.hid (fun w' => order_I a.num 0 w' (by have := ha.1; omega) (by rw [I_zero]; decide))
  rw [Int.sub_zero] at HO
  have hz : I 0 = [48] := I_zero
  have HZ := Lib.hid hz
  clear hz ha
  generalize I (a.den : Int) = z1 at *
  generalize R a = ra at *
  generalize Int.sign a.num = sg at *
  go_enter Tryz.func203, Tryz.ntmps203
  go_wp2_with fail
  refine (HS.out).mono ?_
  rintro e w1 ⟨rfl, hb1⟩
  go_wp2_with fail
  rw [show (Value.string ⟨#[48]⟩) = Value.string (bs (I 0)) by rw [HZ.out]; rfl]
  refine (HO.out _).mono ?_
  rintro e w2 ⟨rfl, hb2⟩
  go_wp2
  go_ret
  exact Ret.of rfl (Below.then hb1 hb2)
theorem whole_R (n : Int) (w : World) (h0 : -9223372036854775807 ≤ n) (h1 : n ≤ 9223372036854775807) :
    Calls Tryz.prog 13 #[.int .i64 n] w (Ret w (.string (bs (R (n : Rat))))) := by
  have hr : R (n : Rat) = I n := by unfold R; rw [Rat.den_intCast, if_pos rfl, Rat.num_intCast]
  rw [hr]
  clear hr
  go_enter Tryz.func13, Tryz.ntmps13
  go_wp2_with fail
  refine (of_any n _ h0 h1).mono ?_
  rintro e w1 ⟨rfl, hb1⟩
  go_wp2
  go_ret
  exact Ret.of rfl hb1
end W
end Go.Proofs.YtijpgddpejiohaaGreatDoor
end
