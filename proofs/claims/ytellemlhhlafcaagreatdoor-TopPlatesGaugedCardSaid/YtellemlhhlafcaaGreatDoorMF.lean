/-
  Layer 2, the plain part: rational numbers as texts.
  The reference of layer 2: 'slash', 'Split', 'Lowest'.
  The reference of layer 2: 'Check'.
  The reference of layer 2: sums, products, order.
-/
import Derived.Test.YtellemlhhlafcaaGreatDoorMA
import Derived.Test.YtellemlhhlafcaaGreatDoorMB
import Derived.Deep.RegionWith
import Derived.RegionTactic
import Derived.ChangeAlike
import Derived.BigRegion
section
namespace Go.Proofs.YtellemlhhlafcaaGreatDoor
open Go Go.RowKit
namespace M
def R (q : Rat) : List UInt8 := if q.den = 1 then I q.num else I q.num ++ 47 :: I (q.den : Int)
def cutN (l : List UInt8) : List UInt8 := l.takeWhile (· != 47)
def cutD (l : List UInt8) : List UInt8 := if l.contains 47 = true then (l.dropWhile (· != 47)).tail else [49]
theorem I_no47 (z : Int) : ∀ c ∈ I z, c ≠ (47 : UInt8) := by
  intro c h e
  subst e
  have hd := D_digs z.natAbs
  rcases Int.lt_or_le z 0 with h2 | h2
  · rw [I_of_lt h2] at h
    rcases List.mem_cons.1 h with h | h
    · exact absurd h (by decide)
    · exact absurd (hd _ h).1 (by decide)
  · rw [I_of_ge h2] at h
    exact absurd (hd _ h).1 (by decide)
theorem no47_contains {l : List UInt8} (h : ∀ c ∈ l, c ≠ (47 : UInt8)) : l.contains 47 = false := by
  rw [Bool.eq_false_iff]
  intro h2
  exact h 47 (by simpa using h2) rfl
theorem cutN_none {l : List UInt8} (h : ∀ c ∈ l, c ≠ (47 : UInt8)) : cutN l = l := by
  unfold cutN
  induction l with
  | nil => rfl
  | cons c t ih =>
    rw [List.takeWhile_cons, if_pos (by simpa using h c (List.mem_cons_self ..)), ih (fun d hd => h d (List.mem_cons_of_mem _ hd))]
theorem cutD_none {l : List UInt8} (h : ∀ c ∈ l, c ≠ (47 : UInt8)) : cutD l = [49] := by
  unfold cutD; rw [no47_contains h]; rfl
theorem cutN_some {a : List UInt8} (b : List UInt8) (h : ∀ c ∈ a, c ≠ (47 : UInt8)) : cutN (a ++ 47 :: b) = a := by
  unfold cutN
  rw [List.takeWhile_append_of_pos (fun c hc => by simpa using h c hc)]
  simp
theorem cutD_some {a : List UInt8} (b : List UInt8) (h : ∀ c ∈ a, c ≠ (47 : UInt8)) : cutD (a ++ 47 :: b) = b := by
  unfold cutD
  rw [List.dropWhile_append_of_pos (fun c hc => by simpa using h c hc), if_pos (by simp)]
  simp
theorem cut_back {l : List UInt8} (h : l.contains 47 = true) : l = cutN l ++ 47 :: cutD l := by
  have e : cutD l = (l.dropWhile (· != 47)).tail := by unfold cutD; rw [if_pos h]
  rw [e]
  clear e
  unfold cutN
  induction l with
  | nil => cases h
  | cons c t ih =>
    by_cases hc : c = 47
    · subst hc; simp
    · have h2 : (c != 47) = true := by simpa using hc
      have h3 : t.contains 47 = true := by
        have : (47 : UInt8) ∈ c :: t := by simpa using h
        rcases List.mem_cons.1 this with h4 | h4
        · exact absurd h4.symm hc
        · simpa using h4
      rw [List.takeWhile_cons, if_pos h2, List.dropWhile_cons, if_pos h2, List.cons_append, ← ih h3]
open Classical in
/-- The integer that a text means. -/
noncomputable def zv (l : List UInt8) : Int := if h : ∃ z, l = I z then Classical.choose h else 0
theorem zv_I (z : Int) : zv (I z) = z := by
  unfold zv
  rw [dif_pos ⟨z, rfl⟩]
  exact (I_inj (Classical.choose_spec (p := fun y => I z = I y) ⟨z, rfl⟩)).symm
noncomputable def chkR (l : List UInt8) : Nat :=
  if chk (cutN l) = 3 ∨ chk (cutD l) = 3 then 3
  else if chk (cutN l) ≠ 0 ∨ chk (cutD l) ≠ 0 then 11
  else if l.contains 47 = true ∧ (zv (cutD l) ≤ 1 ∨ Int.gcd (zv (cutN l)) (zv (cutD l)) ≠ 1) then 3 else 0
theorem R_cutN (q : Rat) : cutN (R q) = I q.num := by
  unfold R; split
  · exact cutN_none (I_no47 _)
  · exact cutN_some _ (I_no47 _)
theorem R_cutD (q : Rat) : cutD (R q) = I (q.den : Int) := by
  unfold R; split
  · rename_i h; rw [cutD_none (I_no47 _), h]; exact I_one.symm
  · exact cutD_some _ (I_no47 _)
theorem chkR_R (q : Rat) (h1 : q.num.natAbs < lim) (h2 : q.den < lim) : chkR (R q) = 0 := by
  have c1 : chk (I q.num) = 0 := by rw [chk_I, if_pos h1]
  have c2 : chk (I (q.den : Int)) = 0 := by rw [chk_I, if_pos (by rw [Int.natAbs_natCast]; exact h2)]
  unfold chkR
  rw [R_cutN, R_cutD, c1, c2, if_neg (by decide), if_neg (by decide), zv_I, zv_I, if_neg]
  rintro ⟨h3, h4⟩
  have h5 : q.den ≠ 1 := by
    intro h
    unfold R at h3
    rw [if_pos h, no47_contains (I_no47 _)] at h3
    cases h3
  have h6 := q.den_nz
  rcases h4 with h4 | h4
  · omega
  · apply h4
    rw [Int.gcd_eq_natAbs_gcd_natAbs, Int.natAbs_natCast]
    exact q.reduced
theorem low_num (n d : Int) (h : d ≠ 0) (g : Int) (hg : g = if d < 0 then -((Int.gcd n d : Nat) : Int) else ((Int.gcd n d : Nat) : Int)) :
    n.fdiv g = (Rat.divInt n d).num ∧ d.fdiv g = ((Rat.divInt n d).den : Int) ∧ g ≠ 0 := by
  have hgp : 0 < Int.gcd n d := Int.gcd_pos_of_ne_zero_right n h
  rw [Rat.num_divInt, Rat.den_divInt, if_neg h, Int.gcd_comm d n]
  generalize Int.gcd n d = k at *
  rcases Int.lt_or_le d 0 with h1 | h1
  · rw [if_pos h1] at hg
    subst hg
    rw [Int.sign_eq_neg_one_of_neg h1]
    have e1 : n.fdiv (-(k : Int)) = (-n).fdiv (k : Int) := by rw [← Int.neg_fdiv_neg, Int.neg_neg]
    have e2 : d.fdiv (-(k : Int)) = (-d).fdiv (k : Int) := by rw [← Int.neg_fdiv_neg, Int.neg_neg]
    rw [e1, e2, Int.fdiv_eq_ediv_of_nonneg _ (by omega), Int.fdiv_eq_ediv_of_nonneg _ (by omega)]
    refine ⟨by rw [Int.neg_mul, Int.one_mul], ?_, by omega⟩
    rw [Int.natCast_ediv, show ((d.natAbs : Nat) : Int) = -d by omega]
  · rw [if_neg (by omega)] at hg
    subst hg
    rw [Int.sign_eq_one_of_pos (by omega)]
    rw [Int.fdiv_eq_ediv_of_nonneg _ (by omega), Int.fdiv_eq_ediv_of_nonneg _ (by omega)]
    refine ⟨by rw [Int.one_mul], ?_, by omega⟩
    rw [Int.natCast_ediv, show ((d.natAbs : Nat) : Int) = d by omega]
end M
end Go.Proofs.YtellemlhhlafcaaGreatDoor
end
section
namespace Go.Proofs.YtellemlhhlafcaaGreatDoor
open Go Go.RowKit
namespace M
def slashV (l : List UInt8) : Int := if l.contains 47 = true then ((cutN l).length : Int) else -1
theorem slash_at {l : List UInt8} {k : Nat} (hk : k < l.length) (h0 : ∀ c ∈ l.take k, c ≠ (47 : UInt8)) (h1 : l[k] = 47) : slashV l = (k : Int) := by
  have e : l = l.take k ++ 47 :: l.drop (k + 1) := by
    rw [← h1, List.getElem_cons_drop, List.take_append_drop]
  unfold slashV
  have e2 : cutN l = l.take k := by
    have h2 := cutN_some (l.drop (k + 1)) h0
    rwa [← e] at h2
  rw [if_pos (by rw [e]; simp), e2, List.length_take, Nat.min_eq_left (by omega)]
theorem slash_none {l : List UInt8} (h0 : ∀ c ∈ l, c ≠ (47 : UInt8)) : slashV l = -1 := by
  unfold slashV; rw [no47_contains h0]; rfl
end M
namespace W
open M
attribute [local go_sem] bs_size bs_toList bs_get bs_extract bs_append bs_lit0 bs_lit1 lit1_bs
set_option maxHeartbeats 1000000
set_option maxRecDepth 20000
theorem den_ne {q : Rat} (h : ¬ q.den = 1) : (I (q.den : Int) == [49]) = false := by
  rw [beq_eq_false_iff_ne]
  intro e
  rw [← I_one] at e
  have := I_inj e
  omega
end W
end Go.Proofs.YtellemlhhlafcaaGreatDoor
end
section
namespace Go.Proofs.YtellemlhhlafcaaGreatDoor
open Go Go.RowKit
namespace M
theorem cutN_len (l : List UInt8) : (cutN l).length ≤ l.length := by
  unfold cutN
  induction l with
  | nil => simp
  | cons c t ih => rw [List.takeWhile_cons]; split <;> simp <;> omega
theorem cutD_len (l : List UInt8) : (cutD l).length ≤ l.length + 1 := by
  unfold cutD; split
  · rename_i h
    have := congrArg List.length (cut_back h)
    unfold cutD at this
    rw [if_pos h] at this
    simp at this ⊢; omega
  · simp
end M
namespace W
open M
attribute [local go_sem] bs_size bs_toList bs_get bs_extract bs_append bs_lit0 bs_lit1 lit1_bs
set_option maxHeartbeats 1000000
set_option maxRecDepth 20000
end W
end Go.Proofs.YtellemlhhlafcaaGreatDoor
end
section
namespace Go.Proofs.YtellemlhhlafcaaGreatDoor
open Go Go.RowKit
namespace M
theorem den_pos (q : Rat) : ((q.den : Nat) : Int) ≠ 0 := by have := q.den_nz; omega
theorem add_div (a b : Rat) : Rat.divInt (a.num * (b.den : Int) + b.num * (a.den : Int)) ((a.den : Int) * (b.den : Int)) = a + b := by
  rw [← Rat.divInt_add_divInt _ _ (den_pos a) (den_pos b), Rat.num_divInt_den, Rat.num_divInt_den]
theorem sub_div (a b : Rat) : Rat.divInt (a.num * (b.den : Int) - b.num * (a.den : Int)) ((a.den : Int) * (b.den : Int)) = a - b := by
  rw [← Rat.divInt_sub_divInt _ _ (den_pos a) (den_pos b), Rat.num_divInt_den, Rat.num_divInt_den]
theorem mul_div (a b : Rat) : Rat.divInt (a.num * b.num) ((a.den : Int) * (b.den : Int)) = a * b := by
  rw [← Rat.divInt_mul_divInt, Rat.num_divInt_den, Rat.num_divInt_den]
end M
namespace W
open M
attribute [local go_sem] bs_size bs_toList bs_get bs_extract bs_append bs_lit0 bs_lit1 lit1_bs
set_option maxHeartbeats 1000000
set_option maxRecDepth 20000
end W
end Go.Proofs.YtellemlhhlafcaaGreatDoor
end
