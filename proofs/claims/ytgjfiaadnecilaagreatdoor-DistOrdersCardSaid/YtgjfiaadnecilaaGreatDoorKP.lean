/-
  Chapter 26: 'Uniform' and 'Binomial', the program's beside the reference's.
  Chapter 26: the law 'DistMakes', walked.
-/
import Derived.Test.YtgjfiaadnecilaaGreatDoorKO
namespace Go.Proofs.YtgjfiaadnecilaaGreatDoor
open Go Go.RowKit Go.Deep
namespace W
open M
theorem uni_pair (lo hi st : Int) (w : World) : ∃ (l : List WT) (c : Int), l.length ≤ 5000 ∧ BothL 26 27 #[.int .i64 lo, .int .i64 hi, .int .i64 st] l c w := by
  by_cases h : okv lo = true ∧ okv hi = true ∧ 1 ≤ st ∧ st ≤ 1048576
  · obtain ⟨h1, h2, h3, h4⟩ := h
    by_cases h5 : hi < lo
    · exact ⟨[], 9, by simp, fun wx _ => (uni_order lo hi st wx h1 h2 h3 h4 h5).mono fun e w' h => LP.ret h, fun wx _ => (runi_order lo hi st wx h1 h2 h3 h4 h5).mono fun e w' h => LP.ret h⟩
    · by_cases h6 : 4096 < (hi - lo) / st + 1
      · exact ⟨[], 5, by simp, fun wx _ => (uni_many lo hi st wx h1 h2 h3 h4 (by omega) h6).mono fun e w' h => LP.ret h, fun wx _ => (runi_many lo hi st wx h1 h2 h3 h4 (by omega) h6).mono fun e w' h => LP.ret h⟩
      · refine ⟨_, _, ?_, fun wx _ => (uni_ok lo hi st wx h1 h2 h3 h4 (by omega) (by omega)).mono fun e w' h => LP.of h, fun wx _ => (runi_ok lo hi st wx h1 h2 h3 h4 (by omega) (by omega)).mono fun e w' h => LP.of h⟩
        rw [if_pos rfl, uniZ_len]; omega
  · exact ⟨[], 2, by simp, fun wx _ => (uni_range lo hi st wx h).mono fun e w' h => LP.ret h, fun wx _ => (runi_range lo hi st wx h).mono fun e w' h => LP.ret h⟩
theorem bin_pair (n p q : Int) (w : World) (hg : Glob w) (hn : ¬ (30 < n ∧ n ≤ 256)) : ∃ (l : List WT) (c : Int), l.length ≤ 5000 ∧ BothL 28 29 #[.int .i64 n, .int .i64 p, .int .i64 q] l c w := by
  by_cases h : n < 0 ∨ 256 < n ∨ q < 1 ∨ 1048576 < q ∨ p < 0 ∨ q < p
  · exact ⟨[], 2, by simp, fun wx _ => (binom_bad n p q wx h).mono fun e w' h => LP.ret h, fun wx _ => (rbinom_bad n p q wx h).mono fun e w' h => LP.ret h⟩
  · obtain ⟨m, rfl⟩ : ∃ m : Nat, n = (m : Int) := ⟨n.toNat, by omega⟩
    have ho : OkS m p q := ⟨by omega, by omega, by omega, by omega, by omega⟩
    refine ⟨_, _, ?_, fun wx hx => (binom_ok m p q wx (hg.of hx) ho).mono fun e w' h => LP.of h, fun wx _ => (rbinom_ok m p q wx ho).mono fun e w' h => LP.of h⟩
    rw [if_pos rfl]
    have := triL_len m p q (m + 1)
    omega
theorem same_ret5 (va vb : Value) (l : List WT) (w : World) (ha : RdW w va l) (hb : RdW w vb l) (hl : l.length ≤ 5000) : Calls Tryz.prog 30 #[va, vb] w (Ret w (.bool true)) :=
  (same_yes va vb l w ha hb (by omega)).mono fun e w' h => h.below
end W
end Go.Proofs.YtgjfiaadnecilaaGreatDoor
namespace Go.Proofs.YtgjfiaadnecilaaGreatDoor
open Go Go.RowKit Go.Deep
namespace W
open M
attribute [local go_sem] bs_size bs_toList bs_get bs_extract bs_append bs_lit0 bs_lit1 lit1_bs
set_option maxHeartbeats 2000000
set_option maxRecDepth 20000
theorem makes_big (a b c : Int) (w : World) (hg : Glob w) (hn : 30 < a ∧ a ≤ 256) :
    Calls Tryz.prog 5 #[.int .i64 a, .int .i64 b, .int .i64 c] w (Ret w (.bool true)) := by
  have HAW := Lib.hid (fun wx hgx => awake_ok wx hgx)
  obtain ⟨s1, s2⟩ := hn
  by_cases c1 : -300 ≤ a
  · by_cases c2 : a ≤ b
    · by_cases c3 : 0 < c
      · by_cases c4 : c < 5000
        · by_cases c5 : 100 * c < wrap64 (b - a)
          · by_cases c6 : wrap64 (b - a) < 4096 * c
            · go_enter Tryz.func5, Tryz.ntmps5
              go_wp2_with fail
              refine (HAW.out _ hg).mono ?_
              rintro e w1 ⟨rfl, hb1⟩
              go_wp2
              go_ret
              exact Ret.of rfl hb1
            · have dc6 : decide (wrap64 (b - a) < 4096 * c) = false := decide_eq_false c6
              go_enter Tryz.func5, Tryz.ntmps5
              go_wp2_with fail
              refine (HAW.out _ hg).mono ?_
              rintro e w1 ⟨rfl, hb1⟩
              go_wp2
              go_ret
              exact Ret.of rfl hb1
          · have dc5 : decide (100 * c < wrap64 (b - a)) = false := decide_eq_false c5
            go_enter Tryz.func5, Tryz.ntmps5
            go_wp2_with fail
            refine (HAW.out _ hg).mono ?_
            rintro e w1 ⟨rfl, hb1⟩
            go_wp2
            go_ret
            exact Ret.of rfl hb1
        · have dc4 : decide (c < 5000) = false := decide_eq_false c4
          go_enter Tryz.func5, Tryz.ntmps5
          go_wp2_with fail
          refine (HAW.out _ hg).mono ?_
          rintro e w1 ⟨rfl, hb1⟩
          go_wp2
          go_ret
          exact Ret.of rfl hb1
      · have dc3 : decide (0 < c) = false := decide_eq_false c3
        go_enter Tryz.func5, Tryz.ntmps5
        go_wp2_with fail
        refine (HAW.out _ hg).mono ?_
        rintro e w1 ⟨rfl, hb1⟩
        go_wp2
        go_ret
        exact Ret.of rfl hb1
    · have dc2 : decide (a ≤ b) = false := decide_eq_false c2
      go_enter Tryz.func5, Tryz.ntmps5
      go_wp2_with fail
      refine (HAW.out _ hg).mono ?_
      rintro e w1 ⟨rfl, hb1⟩
      go_wp2
      go_ret
      exact Ret.of rfl hb1
  · have dc1 : decide (-300 ≤ a) = false := decide_eq_false c1
    go_enter Tryz.func5, Tryz.ntmps5
    go_wp2_with fail
    refine (HAW.out _ hg).mono ?_
    rintro e w1 ⟨rfl, hb1⟩
    go_wp2
    go_ret
    exact Ret.of rfl hb1
theorem makes_law (a b c : Int) (w : World) (hg : Glob w) :
    Calls Tryz.prog 5 #[.int .i64 a, .int .i64 b, .int .i64 c] w (Ret w (.bool true)) := by
  by_cases hn : 30 < a ∧ a ≤ 256
  · exact makes_big a b c w hg hn
  have HAW := Lib.hid (fun wx hgx => awake_ok wx hgx)
  obtain ⟨m, k1, hm, s1, s2⟩ := uni_pair a b c w
  obtain ⟨m2, k2, hm2, r1, r2⟩ := bin_pair a b c w hg hn
  have S1 := Lib.hid s1
  have S2 := Lib.hid s2
  have R1 := Lib.hid r1
  have R2 := Lib.hid r2
  clear s1 s2 r1 r2
  by_cases c1 : -300 ≤ a
  · by_cases c2 : a ≤ b
    · by_cases c3 : 0 < c
      · by_cases c4 : c < 5000
        · by_cases c5 : 100 * c < wrap64 (b - a)
          · by_cases c6 : wrap64 (b - a) < 4096 * c
            · go_enter Tryz.func5, Tryz.ntmps5
              go_wp2_with fail
              refine (HAW.out _ hg).mono ?_
              rintro e w1 ⟨rfl, hb1⟩
              go_wp2
              go_ret
              exact Ret.of rfl hb1
            · have dc6 : decide (wrap64 (b - a) < 4096 * c) = false := decide_eq_false c6
              by_cases s1 : 30 < a
              · have s2 : ¬ a ≤ 256 := fun h => hn ⟨s1, h⟩
                have ds2 : decide (a ≤ 256) = false := decide_eq_false s2
                go_enter Tryz.func5, Tryz.ntmps5
                go_wp2_with fail
                refine (S1.out _ (Below.refl _ _)).mono ?_
                rintro e w1 ⟨v1, rfl, d1, hb1⟩
                go_wp2_with fail
                refine (S2.out _ hb1).mono ?_
                rintro e w2 ⟨v2, rfl, d2, hb2⟩
                have d1 := d1.below hb2
                have hb2 := Below.then hb1 hb2
                go_wp2_with fail
                refine (R1.out _ hb2).mono ?_
                rintro e w3 ⟨v3, rfl, d3, hb3⟩
                have d1 := d1.below hb3
                have d2 := d2.below hb3
                have hb3 := Below.then hb2 hb3
                go_wp2_with fail
                refine (R2.out _ hb3).mono ?_
                rintro e w4 ⟨v4, rfl, d4, hb4⟩
                have d1 := d1.below hb4
                have d2 := d2.below hb4
                have d3 := d3.below hb4
                have hb4 := Below.then hb3 hb4
                go_wp2_with fail
                refine (HAW.out _ (hg.of hb4)).mono ?_
                rintro e w5 ⟨rfl, hb5⟩
                have d1 := d1.below hb5
                have d2 := d2.below hb5
                have d3 := d3.below hb5
                have d4 := d4.below hb5
                have hb5 := Below.then hb4 hb5
                go_wp2_with fail
                refine (same_ret5 v1 v2 m _ d1 d2 hm).mono ?_
                rintro e w6 ⟨rfl, hb6⟩
                have d3 := d3.below hb6
                have d4 := d4.below hb6
                have hb6 := Below.then hb5 hb6
                go_wp2_with fail
                refine (same_ret5 v3 v4 m2 _ d3 d4 hm2).mono ?_
                rintro e w7 ⟨rfl, hb7⟩
                have hb7 := Below.then hb6 hb7
                go_wp2
                go_ret
                exact Ret.of (by simp) hb7
              · have ds1 : decide (30 < a) = false := decide_eq_false s1
                go_enter Tryz.func5, Tryz.ntmps5
                go_wp2_with fail
                refine (S1.out _ (Below.refl _ _)).mono ?_
                rintro e w1 ⟨v1, rfl, d1, hb1⟩
                go_wp2_with fail
                refine (S2.out _ hb1).mono ?_
                rintro e w2 ⟨v2, rfl, d2, hb2⟩
                have d1 := d1.below hb2
                have hb2 := Below.then hb1 hb2
                go_wp2_with fail
                refine (R1.out _ hb2).mono ?_
                rintro e w3 ⟨v3, rfl, d3, hb3⟩
                have d1 := d1.below hb3
                have d2 := d2.below hb3
                have hb3 := Below.then hb2 hb3
                go_wp2_with fail
                refine (R2.out _ hb3).mono ?_
                rintro e w4 ⟨v4, rfl, d4, hb4⟩
                have d1 := d1.below hb4
                have d2 := d2.below hb4
                have d3 := d3.below hb4
                have hb4 := Below.then hb3 hb4
                go_wp2_with fail
                refine (HAW.out _ (hg.of hb4)).mono ?_
                rintro e w5 ⟨rfl, hb5⟩
                have d1 := d1.below hb5
                have d2 := d2.below hb5
                have d3 := d3.below hb5
                have d4 := d4.below hb5
                have hb5 := Below.then hb4 hb5
                go_wp2_with fail
                refine (same_ret5 v1 v2 m _ d1 d2 hm).mono ?_
                rintro e w6 ⟨rfl, hb6⟩
                have d3 := d3.below hb6
                have d4 := d4.below hb6
                have hb6 := Below.then hb5 hb6
                go_wp2_with fail
                refine (same_ret5 v3 v4 m2 _ d3 d4 hm2).mono ?_
                rintro e w7 ⟨rfl, hb7⟩
                have hb7 := Below.then hb6 hb7
                go_wp2
                go_ret
                exact Ret.of (by simp) hb7
          · have dc5 : decide (100 * c < wrap64 (b - a)) = false := decide_eq_false c5
            by_cases s1 : 30 < a
            · have s2 : ¬ a ≤ 256 := fun h => hn ⟨s1, h⟩
              have ds2 : decide (a ≤ 256) = false := decide_eq_false s2
              go_enter Tryz.func5, Tryz.ntmps5
              go_wp2_with fail
              refine (S1.out _ (Below.refl _ _)).mono ?_
              rintro e w1 ⟨v1, rfl, d1, hb1⟩
              go_wp2_with fail
              refine (S2.out _ hb1).mono ?_
              rintro e w2 ⟨v2, rfl, d2, hb2⟩
              have d1 := d1.below hb2
              have hb2 := Below.then hb1 hb2
              go_wp2_with fail
              refine (R1.out _ hb2).mono ?_
              rintro e w3 ⟨v3, rfl, d3, hb3⟩
              have d1 := d1.below hb3
              have d2 := d2.below hb3
              have hb3 := Below.then hb2 hb3
              go_wp2_with fail
              refine (R2.out _ hb3).mono ?_
              rintro e w4 ⟨v4, rfl, d4, hb4⟩
              have d1 := d1.below hb4
              have d2 := d2.below hb4
              have d3 := d3.below hb4
              have hb4 := Below.then hb3 hb4
              go_wp2_with fail
              refine (HAW.out _ (hg.of hb4)).mono ?_
              rintro e w5 ⟨rfl, hb5⟩
              have d1 := d1.below hb5
              have d2 := d2.below hb5
              have d3 := d3.below hb5
              have d4 := d4.below hb5
              have hb5 := Below.then hb4 hb5
              go_wp2_with fail
              refine (same_ret5 v1 v2 m _ d1 d2 hm).mono ?_
              rintro e w6 ⟨rfl, hb6⟩
              have d3 := d3.below hb6
              have d4 := d4.below hb6
              have hb6 := Below.then hb5 hb6
              go_wp2_with fail
              refine (same_ret5 v3 v4 m2 _ d3 d4 hm2).mono ?_
              rintro e w7 ⟨rfl, hb7⟩
              have hb7 := Below.then hb6 hb7
              go_wp2
              go_ret
              exact Ret.of (by simp) hb7
            · have ds1 : decide (30 < a) = false := decide_eq_false s1
              go_enter Tryz.func5, Tryz.ntmps5
              go_wp2_with fail
              refine (S1.out _ (Below.refl _ _)).mono ?_
              rintro e w1 ⟨v1, rfl, d1, hb1⟩
              go_wp2_with fail
              refine (S2.out _ hb1).mono ?_
              rintro e w2 ⟨v2, rfl, d2, hb2⟩
              have d1 := d1.below hb2
              have hb2 := Below.then hb1 hb2
              go_wp2_with fail
              refine (R1.out _ hb2).mono ?_
              rintro e w3 ⟨v3, rfl, d3, hb3⟩
              have d1 := d1.below hb3
              have d2 := d2.below hb3
              have hb3 := Below.then hb2 hb3
              go_wp2_with fail
              refine (R2.out _ hb3).mono ?_
              rintro e w4 ⟨v4, rfl, d4, hb4⟩
              have d1 := d1.below hb4
              have d2 := d2.below hb4
              have d3 := d3.below hb4
              have hb4 := Below.then hb3 hb4
              go_wp2_with fail
              refine (HAW.out _ (hg.of hb4)).mono ?_
              rintro e w5 ⟨rfl, hb5⟩
              have d1 := d1.below hb5
              have d2 := d2.below hb5
              have d3 := d3.below hb5
              have d4 := d4.below hb5
              have hb5 := Below.then hb4 hb5
              go_wp2_with fail
              refine (same_ret5 v1 v2 m _ d1 d2 hm).mono ?_
              rintro e w6 ⟨rfl, hb6⟩
              have d3 := d3.below hb6
              have d4 := d4.below hb6
              have hb6 := Below.then hb5 hb6
              go_wp2_with fail
              refine (same_ret5 v3 v4 m2 _ d3 d4 hm2).mono ?_
              rintro e w7 ⟨rfl, hb7⟩
              have hb7 := Below.then hb6 hb7
              go_wp2
              go_ret
              exact Ret.of (by simp) hb7
        · have dc4 : decide (c < 5000) = false := decide_eq_false c4
          by_cases s1 : 30 < a
          · have s2 : ¬ a ≤ 256 := fun h => hn ⟨s1, h⟩
            have ds2 : decide (a ≤ 256) = false := decide_eq_false s2
            go_enter Tryz.func5, Tryz.ntmps5
            go_wp2_with fail
            refine (S1.out _ (Below.refl _ _)).mono ?_
            rintro e w1 ⟨v1, rfl, d1, hb1⟩
            go_wp2_with fail
            refine (S2.out _ hb1).mono ?_
            rintro e w2 ⟨v2, rfl, d2, hb2⟩
            have d1 := d1.below hb2
            have hb2 := Below.then hb1 hb2
            go_wp2_with fail
            refine (R1.out _ hb2).mono ?_
            rintro e w3 ⟨v3, rfl, d3, hb3⟩
            have d1 := d1.below hb3
            have d2 := d2.below hb3
            have hb3 := Below.then hb2 hb3
            go_wp2_with fail
            refine (R2.out _ hb3).mono ?_
            rintro e w4 ⟨v4, rfl, d4, hb4⟩
            have d1 := d1.below hb4
            have d2 := d2.below hb4
            have d3 := d3.below hb4
            have hb4 := Below.then hb3 hb4
            go_wp2_with fail
            refine (HAW.out _ (hg.of hb4)).mono ?_
            rintro e w5 ⟨rfl, hb5⟩
            have d1 := d1.below hb5
            have d2 := d2.below hb5
            have d3 := d3.below hb5
            have d4 := d4.below hb5
            have hb5 := Below.then hb4 hb5
            go_wp2_with fail
            refine (same_ret5 v1 v2 m _ d1 d2 hm).mono ?_
            rintro e w6 ⟨rfl, hb6⟩
            have d3 := d3.below hb6
            have d4 := d4.below hb6
            have hb6 := Below.then hb5 hb6
            go_wp2_with fail
            refine (same_ret5 v3 v4 m2 _ d3 d4 hm2).mono ?_
            rintro e w7 ⟨rfl, hb7⟩
            have hb7 := Below.then hb6 hb7
            go_wp2
            go_ret
            exact Ret.of (by simp) hb7
          · have ds1 : decide (30 < a) = false := decide_eq_false s1
            go_enter Tryz.func5, Tryz.ntmps5
            go_wp2_with fail
            refine (S1.out _ (Below.refl _ _)).mono ?_
            rintro e w1 ⟨v1, rfl, d1, hb1⟩
            go_wp2_with fail
            refine (S2.out _ hb1).mono ?_
            rintro e w2 ⟨v2, rfl, d2, hb2⟩
            have d1 := d1.below hb2
            have hb2 := Below.then hb1 hb2
            go_wp2_with fail
            refine (R1.out _ hb2).mono ?_
            rintro e w3 ⟨v3, rfl, d3, hb3⟩
            have d1 := d1.below hb3
            have d2 := d2.below hb3
            have hb3 := Below.then hb2 hb3
            go_wp2_with fail
            refine (R2.out _ hb3).mono ?_
            rintro e w4 ⟨v4, rfl, d4, hb4⟩
            have d1 := d1.below hb4
            have d2 := d2.below hb4
            have d3 := d3.below hb4
            have hb4 := Below.then hb3 hb4
            go_wp2_with fail
            refine (HAW.out _ (hg.of hb4)).mono ?_
            rintro e w5 ⟨rfl, hb5⟩
            have d1 := d1.below hb5
            have d2 := d2.below hb5
            have d3 := d3.below hb5
            have d4 := d4.below hb5
            have hb5 := Below.then hb4 hb5
            go_wp2_with fail
            refine (same_ret5 v1 v2 m _ d1 d2 hm).mono ?_
            rintro e w6 ⟨rfl, hb6⟩
            have d3 := d3.below hb6
            have d4 := d4.below hb6
            have hb6 := Below.then hb5 hb6
            go_wp2_with fail
            refine (same_ret5 v3 v4 m2 _ d3 d4 hm2).mono ?_
            rintro e w7 ⟨rfl, hb7⟩
            have hb7 := Below.then hb6 hb7
            go_wp2
            go_ret
            exact Ret.of (by simp) hb7
      · have dc3 : decide (0 < c) = false := decide_eq_false c3
        by_cases s1 : 30 < a
        · have s2 : ¬ a ≤ 256 := fun h => hn ⟨s1, h⟩
          have ds2 : decide (a ≤ 256) = false := decide_eq_false s2
          go_enter Tryz.func5, Tryz.ntmps5
          go_wp2_with fail
          refine (S1.out _ (Below.refl _ _)).mono ?_
          rintro e w1 ⟨v1, rfl, d1, hb1⟩
          go_wp2_with fail
          refine (S2.out _ hb1).mono ?_
          rintro e w2 ⟨v2, rfl, d2, hb2⟩
          have d1 := d1.below hb2
          have hb2 := Below.then hb1 hb2
          go_wp2_with fail
          refine (R1.out _ hb2).mono ?_
          rintro e w3 ⟨v3, rfl, d3, hb3⟩
          have d1 := d1.below hb3
          have d2 := d2.below hb3
          have hb3 := Below.then hb2 hb3
          go_wp2_with fail
          refine (R2.out _ hb3).mono ?_
          rintro e w4 ⟨v4, rfl, d4, hb4⟩
          have d1 := d1.below hb4
          have d2 := d2.below hb4
          have d3 := d3.below hb4
          have hb4 := Below.then hb3 hb4
          go_wp2_with fail
          refine (HAW.out _ (hg.of hb4)).mono ?_
          rintro e w5 ⟨rfl, hb5⟩
          have d1 := d1.below hb5
          have d2 := d2.below hb5
          have d3 := d3.below hb5
          have d4 := d4.below hb5
          have hb5 := Below.then hb4 hb5
          go_wp2_with fail
          refine (same_ret5 v1 v2 m _ d1 d2 hm).mono ?_
          rintro e w6 ⟨rfl, hb6⟩
          have d3 := d3.below hb6
          have d4 := d4.below hb6
          have hb6 := Below.then hb5 hb6
          go_wp2_with fail
          refine (same_ret5 v3 v4 m2 _ d3 d4 hm2).mono ?_
          rintro e w7 ⟨rfl, hb7⟩
          have hb7 := Below.then hb6 hb7
          go_wp2
          go_ret
          exact Ret.of (by simp) hb7
        · have ds1 : decide (30 < a) = false := decide_eq_false s1
          go_enter Tryz.func5, Tryz.ntmps5
          go_wp2_with fail
          refine (S1.out _ (Below.refl _ _)).mono ?_
          rintro e w1 ⟨v1, rfl, d1, hb1⟩
          go_wp2_with fail
          refine (S2.out _ hb1).mono ?_
          rintro e w2 ⟨v2, rfl, d2, hb2⟩
          have d1 := d1.below hb2
          have hb2 := Below.then hb1 hb2
          go_wp2_with fail
          refine (R1.out _ hb2).mono ?_
          rintro e w3 ⟨v3, rfl, d3, hb3⟩
          have d1 := d1.below hb3
          have d2 := d2.below hb3
          have hb3 := Below.then hb2 hb3
          go_wp2_with fail
          refine (R2.out _ hb3).mono ?_
          rintro e w4 ⟨v4, rfl, d4, hb4⟩
          have d1 := d1.below hb4
          have d2 := d2.below hb4
          have d3 := d3.below hb4
          have hb4 := Below.then hb3 hb4
          go_wp2_with fail
          refine (HAW.out _ (hg.of hb4)).mono ?_
          rintro e w5 ⟨rfl, hb5⟩
          have d1 := d1.below hb5
          have d2 := d2.below hb5
          have d3 := d3.below hb5
          have d4 := d4.below hb5
          have hb5 := Below.then hb4 hb5
          go_wp2_with fail
          refine (same_ret5 v1 v2 m _ d1 d2 hm).mono ?_
          rintro e w6 ⟨rfl, hb6⟩
          have d3 := d3.below hb6
          have d4 := d4.below hb6
          have hb6 := Below.then hb5 hb6
          go_wp2_with fail
          refine (same_ret5 v3 v4 m2 _ d3 d4 hm2).mono ?_
          rintro e w7 ⟨rfl, hb7⟩
          have hb7 := Below.then hb6 hb7
          go_wp2
          go_ret
          exact Ret.of (by simp) hb7
    · have dc2 : decide (a ≤ b) = false := decide_eq_false c2
      by_cases s1 : 30 < a
      · have s2 : ¬ a ≤ 256 := fun h => hn ⟨s1, h⟩
        have ds2 : decide (a ≤ 256) = false := decide_eq_false s2
        go_enter Tryz.func5, Tryz.ntmps5
        go_wp2_with fail
        refine (S1.out _ (Below.refl _ _)).mono ?_
        rintro e w1 ⟨v1, rfl, d1, hb1⟩
        go_wp2_with fail
        refine (S2.out _ hb1).mono ?_
        rintro e w2 ⟨v2, rfl, d2, hb2⟩
        have d1 := d1.below hb2
        have hb2 := Below.then hb1 hb2
        go_wp2_with fail
        refine (R1.out _ hb2).mono ?_
        rintro e w3 ⟨v3, rfl, d3, hb3⟩
        have d1 := d1.below hb3
        have d2 := d2.below hb3
        have hb3 := Below.then hb2 hb3
        go_wp2_with fail
        refine (R2.out _ hb3).mono ?_
        rintro e w4 ⟨v4, rfl, d4, hb4⟩
        have d1 := d1.below hb4
        have d2 := d2.below hb4
        have d3 := d3.below hb4
        have hb4 := Below.then hb3 hb4
        go_wp2_with fail
        refine (HAW.out _ (hg.of hb4)).mono ?_
        rintro e w5 ⟨rfl, hb5⟩
        have d1 := d1.below hb5
        have d2 := d2.below hb5
        have d3 := d3.below hb5
        have d4 := d4.below hb5
        have hb5 := Below.then hb4 hb5
        go_wp2_with fail
        refine (same_ret5 v1 v2 m _ d1 d2 hm).mono ?_
        rintro e w6 ⟨rfl, hb6⟩
        have d3 := d3.below hb6
        have d4 := d4.below hb6
        have hb6 := Below.then hb5 hb6
        go_wp2_with fail
        refine (same_ret5 v3 v4 m2 _ d3 d4 hm2).mono ?_
        rintro e w7 ⟨rfl, hb7⟩
        have hb7 := Below.then hb6 hb7
        go_wp2
        go_ret
        exact Ret.of (by simp) hb7
      · have ds1 : decide (30 < a) = false := decide_eq_false s1
        go_enter Tryz.func5, Tryz.ntmps5
        go_wp2_with fail
        refine (S1.out _ (Below.refl _ _)).mono ?_
        rintro e w1 ⟨v1, rfl, d1, hb1⟩
        go_wp2_with fail
        refine (S2.out _ hb1).mono ?_
        rintro e w2 ⟨v2, rfl, d2, hb2⟩
        have d1 := d1.below hb2
        have hb2 := Below.then hb1 hb2
        go_wp2_with fail
        refine (R1.out _ hb2).mono ?_
        rintro e w3 ⟨v3, rfl, d3, hb3⟩
        have d1 := d1.below hb3
        have d2 := d2.below hb3
        have hb3 := Below.then hb2 hb3
        go_wp2_with fail
        refine (R2.out _ hb3).mono ?_
        rintro e w4 ⟨v4, rfl, d4, hb4⟩
        have d1 := d1.below hb4
        have d2 := d2.below hb4
        have d3 := d3.below hb4
        have hb4 := Below.then hb3 hb4
        go_wp2_with fail
        refine (HAW.out _ (hg.of hb4)).mono ?_
        rintro e w5 ⟨rfl, hb5⟩
        have d1 := d1.below hb5
        have d2 := d2.below hb5
        have d3 := d3.below hb5
        have d4 := d4.below hb5
        have hb5 := Below.then hb4 hb5
        go_wp2_with fail
        refine (same_ret5 v1 v2 m _ d1 d2 hm).mono ?_
        rintro e w6 ⟨rfl, hb6⟩
        have d3 := d3.below hb6
        have d4 := d4.below hb6
        have hb6 := Below.then hb5 hb6
        go_wp2_with fail
        refine (same_ret5 v3 v4 m2 _ d3 d4 hm2).mono ?_
        rintro e w7 ⟨rfl, hb7⟩
        have hb7 := Below.then hb6 hb7
        go_wp2
        go_ret
        exact Ret.of (by simp) hb7
  · have dc1 : decide (-300 ≤ a) = false := decide_eq_false c1
    by_cases s1 : 30 < a
    · have s2 : ¬ a ≤ 256 := fun h => hn ⟨s1, h⟩
      have ds2 : decide (a ≤ 256) = false := decide_eq_false s2
      go_enter Tryz.func5, Tryz.ntmps5
      go_wp2_with fail
      refine (S1.out _ (Below.refl _ _)).mono ?_
      rintro e w1 ⟨v1, rfl, d1, hb1⟩
      go_wp2_with fail
      refine (S2.out _ hb1).mono ?_
      rintro e w2 ⟨v2, rfl, d2, hb2⟩
      have d1 := d1.below hb2
      have hb2 := Below.then hb1 hb2
      go_wp2_with fail
      refine (R1.out _ hb2).mono ?_
      rintro e w3 ⟨v3, rfl, d3, hb3⟩
      have d1 := d1.below hb3
      have d2 := d2.below hb3
      have hb3 := Below.then hb2 hb3
      go_wp2_with fail
      refine (R2.out _ hb3).mono ?_
      rintro e w4 ⟨v4, rfl, d4, hb4⟩
      have d1 := d1.below hb4
      have d2 := d2.below hb4
      have d3 := d3.below hb4
      have hb4 := Below.then hb3 hb4
      go_wp2_with fail
      refine (HAW.out _ (hg.of hb4)).mono ?_
      rintro e w5 ⟨rfl, hb5⟩
      have d1 := d1.below hb5
      have d2 := d2.below hb5
      have d3 := d3.below hb5
      have d4 := d4.below hb5
      have hb5 := Below.then hb4 hb5
      go_wp2_with fail
      refine (same_ret5 v1 v2 m _ d1 d2 hm).mono ?_
      rintro e w6 ⟨rfl, hb6⟩
      have d3 := d3.below hb6
      have d4 := d4.below hb6
      have hb6 := Below.then hb5 hb6
      go_wp2_with fail
      refine (same_ret5 v3 v4 m2 _ d3 d4 hm2).mono ?_
      rintro e w7 ⟨rfl, hb7⟩
      have hb7 := Below.then hb6 hb7
      go_wp2
      go_ret
      exact Ret.of (by simp) hb7
    · have ds1 : decide (30 < a) = false := decide_eq_false s1
      go_enter Tryz.func5, Tryz.ntmps5
      go_wp2_with fail
      refine (S1.out _ (Below.refl _ _)).mono ?_
      rintro e w1 ⟨v1, rfl, d1, hb1⟩
      go_wp2_with fail
      refine (S2.out _ hb1).mono ?_
      rintro e w2 ⟨v2, rfl, d2, hb2⟩
      have d1 := d1.below hb2
      have hb2 := Below.then hb1 hb2
      go_wp2_with fail
      refine (R1.out _ hb2).mono ?_
      rintro e w3 ⟨v3, rfl, d3, hb3⟩
      have d1 := d1.below hb3
      have d2 := d2.below hb3
      have hb3 := Below.then hb2 hb3
      go_wp2_with fail
      refine (R2.out _ hb3).mono ?_
      rintro e w4 ⟨v4, rfl, d4, hb4⟩
      have d1 := d1.below hb4
      have d2 := d2.below hb4
      have d3 := d3.below hb4
      have hb4 := Below.then hb3 hb4
      go_wp2_with fail
      refine (HAW.out _ (hg.of hb4)).mono ?_
      rintro e w5 ⟨rfl, hb5⟩
      have d1 := d1.below hb5
      have d2 := d2.below hb5
      have d3 := d3.below hb5
      have d4 := d4.below hb5
      have hb5 := Below.then hb4 hb5
      go_wp2_with fail
      refine (same_ret5 v1 v2 m _ d1 d2 hm).mono ?_
      rintro e w6 ⟨rfl, hb6⟩
      have d3 := d3.below hb6
      have d4 := d4.below hb6
      have hb6 := Below.then hb5 hb6
      go_wp2_with fail
      refine (same_ret5 v3 v4 m2 _ d3 d4 hm2).mono ?_
      rintro e w7 ⟨rfl, hb7⟩
      have hb7 := Below.then hb6 hb7
      go_wp2
      go_ret
      exact Ret.of (by simp) hb7
end W
end Go.Proofs.YtgjfiaadnecilaaGreatDoor
