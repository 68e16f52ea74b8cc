/-
  Chapter 5's laws: ProgramDuals, all cases. (Printed by wip/duals2.py.)
-/
import Derived.Test.YtnnhmnaobdnfnaaGreatDoorKDV
section
namespace Go.Proofs.YtnnhmnaobdnfnaaGreatDoor
open Go Go.RowKit Go.Deep Go.Sort
namespace W
open M Sx
attribute [local go_sem] bs_size bs_toList bs_get bs_extract bs_append bs_lit0 bs_lit1 lit1_bs
set_option maxHeartbeats 1000000
set_option maxRecDepth 20000
theorem duals_law (n : Int) (vl vg : Value) (l : List BT) (G : List (List UInt8)) (w : World) (hg : Glob w) (hl : RdB w vl l) (hgo : RdT w vg G)
    (nl : l.length ≤ maxLen) (sl : ∀ x ∈ l, x.1.length ≤ maxLen ∧ (∀ p ∈ x.1, p.length ≤ maxLen) ∧ x.2.length ≤ maxLen) (ng : G.length ≤ maxLen) (sg : ∀ p ∈ G, p.length ≤ maxLen) :
    Calls Tryz.prog 3 #[.int .i64 n, vl, vg] w (Ret w (.bool true)) := by
  have hrt := fun W (hW : Below w.heap.size w W) => rright n vl l W (hl.below hW) nl sl
  have hsh := fun W (hW : Below w.heap.size w W) => rshort5 vg G W (hgo.below hW) sg ng
  have HAW := Lib.hid (fun W (hW : Below w.heap.size w W) => awake5 W (hg.of hW))
  by_cases h1 : rightV n l = true
  rotate_left
  · rw [Bool.not_eq_true] at h1
    rw [h1] at hrt
    obtain ⟨Al, cl, rfl⟩ := hl.len
    obtain ⟨Ag, cg, rfl⟩ := hgo.len
    have HRT := Lib.hid hrt
    clear hrt hsh nl sl ng sg h1
    clear hl hgo hg
    go_enter Tryz.func3, Tryz.ntmps3
    go_wp2_with fail
    refine (HRT.out _ (Below.refl _ _)).mono ?_
    rintro e w1 ⟨rfl, hb1⟩
    go_wp2_with fail
    refine (HAW.out _ hb1).mono ?_
    rintro e w9 ⟨rfl, hb9⟩
    go_wp2
    go_ret
    exact Ret.of rfl (bel_to hb1 hb9)
  rw [h1] at hrt
  by_cases h2 : ¬ (2 < n)
  rotate_left
  · rw [Classical.not_not] at h2
    obtain ⟨Al, cl, rfl⟩ := hl.len
    obtain ⟨Ag, cg, rfl⟩ := hgo.len
    have d1 : decide ((2 : Int) < n) = true := decide_eq_true (by omega)
    have HRT := Lib.hid hrt
    clear hrt hsh nl sl ng sg h1 h2
    clear hl hgo hg
    go_enter Tryz.func3, Tryz.ntmps3
    go_wp2_with fail
    refine (HRT.out _ (Below.refl _ _)).mono ?_
    rintro e w1 ⟨rfl, hb1⟩
    go_wp2_with fail
    refine (HAW.out _ hb1).mono ?_
    rintro e w9 ⟨rfl, hb9⟩
    go_wp2
    go_ret
    exact Ret.of rfl (bel_to hb1 hb9)
  by_cases h3 : ¬ (l.length < 1)
  rotate_left
  · rw [Classical.not_not] at h3
    obtain ⟨Al, cl, rfl⟩ := hl.len
    obtain ⟨Ag, cg, rfl⟩ := hgo.len
    have d1 : decide ((2 : Int) < n) = false := decide_eq_false (by omega)
    have d2 : decide (((l.length : Nat) : Int) < 1) = true := decide_eq_true (by omega)
    have HRT := Lib.hid hrt
    clear hrt hsh nl sl ng sg h1 h2 h3
    clear hl hgo hg
    go_enter Tryz.func3, Tryz.ntmps3
    go_wp2_with fail
    refine (HRT.out _ (Below.refl _ _)).mono ?_
    rintro e w1 ⟨rfl, hb1⟩
    go_wp2_with fail
    refine (HAW.out _ hb1).mono ?_
    rintro e w9 ⟨rfl, hb9⟩
    go_wp2
    go_ret
    exact Ret.of rfl (bel_to hb1 hb9)
  by_cases h4 : ¬ (4 < l.length)
  rotate_left
  · rw [Classical.not_not] at h4
    obtain ⟨Al, cl, rfl⟩ := hl.len
    obtain ⟨Ag, cg, rfl⟩ := hgo.len
    have d1 : decide ((2 : Int) < n) = false := decide_eq_false (by omega)
    have d2 : decide (((l.length : Nat) : Int) < 1) = false := decide_eq_false (by omega)
    have d3 : decide ((4 : Int) < ((l.length : Nat) : Int)) = true := decide_eq_true (by omega)
    have HRT := Lib.hid hrt
    clear hrt hsh nl sl ng sg h1 h2 h3 h4
    clear hl hgo hg
    go_enter Tryz.func3, Tryz.ntmps3
    go_wp2_with fail
    refine (HRT.out _ (Below.refl _ _)).mono ?_
    rintro e w1 ⟨rfl, hb1⟩
    go_wp2_with fail
    refine (HAW.out _ hb1).mono ?_
    rintro e w9 ⟨rfl, hb9⟩
    go_wp2
    go_ret
    exact Ret.of rfl (bel_to hb1 hb9)
  by_cases h5 : ¬ (((G.length : Nat) : Int) ≠ n)
  rotate_left
  · rw [Classical.not_not] at h5
    obtain ⟨Al, cl, rfl⟩ := hl.len
    obtain ⟨Ag, cg, rfl⟩ := hgo.len
    have d1 : decide ((2 : Int) < n) = false := decide_eq_false (by omega)
    have d2 : decide (((l.length : Nat) : Int) < 1) = false := decide_eq_false (by omega)
    have d3 : decide ((4 : Int) < ((l.length : Nat) : Int)) = false := decide_eq_false (by omega)
    have d4 : (((G.length : Nat) : Int) != n) = true := by simpa using h5
    have HRT := Lib.hid hrt
    clear hrt hsh nl sl ng sg h1 h2 h3 h4 h5
    clear hl hgo hg
    go_enter Tryz.func3, Tryz.ntmps3
    go_wp2_with fail
    refine (HRT.out _ (Below.refl _ _)).mono ?_
    rintro e w1 ⟨rfl, hb1⟩
    go_wp2_with fail
    refine (HAW.out _ hb1).mono ?_
    rintro e w9 ⟨rfl, hb9⟩
    go_wp2
    go_ret
    exact Ret.of rfl (bel_to hb1 hb9)
  by_cases h6 : short5 G = true
  rotate_left
  · rw [Bool.not_eq_true] at h6
    rw [h6] at hsh
    obtain ⟨Al, cl, rfl⟩ := hl.len
    obtain ⟨Ag, cg, rfl⟩ := hgo.len
    have d1 : decide ((2 : Int) < n) = false := decide_eq_false (by omega)
    have d2 : decide (((l.length : Nat) : Int) < 1) = false := decide_eq_false (by omega)
    have d3 : decide ((4 : Int) < ((l.length : Nat) : Int)) = false := decide_eq_false (by omega)
    have d4 : (((G.length : Nat) : Int) != n) = false := by simpa using h5
    have HRT := Lib.hid hrt
    have HSH := Lib.hid hsh
    clear hrt hsh nl sl ng sg h1 h2 h3 h4 h5 h6
    clear hl hgo hg
    go_enter Tryz.func3, Tryz.ntmps3
    go_wp2_with fail
    refine (HRT.out _ (Below.refl _ _)).mono ?_
    rintro e w1 ⟨rfl, hb1⟩
    go_wp2_with fail
    refine (HSH.out _ hb1).mono ?_
    rintro e w2 ⟨rfl, hb2⟩
    have hb2' := bel_to hb1 hb2
    go_wp2_with fail
    refine (HAW.out _ hb2').mono ?_
    rintro e w9 ⟨rfl, hb9⟩
    go_wp2
    go_ret
    exact Ret.of rfl (bel_to hb2' hb9)
  rw [h6] at hsh
  have hnu := fun W (hW : Below w.heap.size w W) => rnumbers vg G W (hgo.below hW) (fun p hp => by have := (short5_len h6).1 p hp; omega) (by have := (short5_len h6).2; omega)
  by_cases h7 : chkRs G = 0
  rotate_left
  · have hz : (((chkRs G : Nat) : Int) != 0) = true := by simp; exact h7
    generalize ((chkRs G : Nat) : Int) = zz at *
    obtain ⟨Al, cl, rfl⟩ := hl.len
    obtain ⟨Ag, cg, rfl⟩ := hgo.len
    have d1 : decide ((2 : Int) < n) = false := decide_eq_false (by omega)
    have d2 : decide (((l.length : Nat) : Int) < 1) = false := decide_eq_false (by omega)
    have d3 : decide ((4 : Int) < ((l.length : Nat) : Int)) = false := decide_eq_false (by omega)
    have d4 : (((G.length : Nat) : Int) != n) = false := by simpa using h5
    have HRT := Lib.hid hrt
    have HSH := Lib.hid hsh
    have HNU := Lib.hid hnu
    clear hrt hsh hnu nl sl ng sg h1 h2 h3 h4 h5 h6 h7
    clear hl hgo hg
    go_enter Tryz.func3, Tryz.ntmps3
    go_wp2_with fail
    refine (HRT.out _ (Below.refl _ _)).mono ?_
    rintro e w1 ⟨rfl, hb1⟩
    go_wp2_with fail
    refine (HSH.out _ hb1).mono ?_
    rintro e w2 ⟨rfl, hb2⟩
    have hb2' := bel_to hb1 hb2
    go_wp2_with fail
    refine (HNU.out _ hb2').mono ?_
    rintro e w3 ⟨rfl, hb3⟩
    have hb3' := bel_to hb2' hb3
    go_wp2_with fail
    refine (HAW.out _ hb3').mono ?_
    rintro e w9 ⟨rfl, hb9⟩
    go_wp2
    go_ret
    exact Ret.of rfl (bel_to hb3' hb9)
  rw [h7] at hnu
  obtain ⟨k, zl, rfl, rfl, hr, hf⟩ := few_rightS (by unfold rightV at h1; rw [Bool.and_eq_true] at h1; exact h1.1) (by unfold rightV at h1; rw [Bool.and_eq_true, decide_eq_true_eq] at h1; exact h1.2)
  obtain ⟨zg, rfl, hgq⟩ := short_sq h6 h7
  rw [bx_len] at h3 h4
  rw [Classical.not_not, rx_len] at h5
  exact duals_main k zl zg vl vg w hg hl hgo hr hf (by omega) (by omega) (by omega) (by omega) hgq hrt hsh hnu
end W
end Go.Proofs.YtnnhmnaobdnfnaaGreatDoor
end
