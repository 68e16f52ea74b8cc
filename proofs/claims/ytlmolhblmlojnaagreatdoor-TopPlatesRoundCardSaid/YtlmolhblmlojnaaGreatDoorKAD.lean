/-
  Chapter 46: PatternPairs.
  Top 23: the law TopPlatesRound.
-/
import Derived.Test.YtlmolhblmlojnaaGreatDoorKAB
import Derived.Test.YtlmolhblmlojnaaGreatDoorKQ
import Derived.BigRegion
import Derived.Test.YtlmolhblmlojnaaGreatDoorKAE
section
namespace Go.Proofs.YtlmolhblmlojnaaGreatDoor
open Go Go.RowKit Go.Deep
structure PB (w W : World) (A B P Q : Nat) (a b : M.Tg) (p q : M.Cc) : Prop where
  ra : Row W A 38 (tgC a)
  rb : Row W B 38 (tgC b)
  rp : Row W P 42 (ccC p)
  rq : Row W Q 42 (ccC q)
  bel : Below w.heap.size w W
  lb : w.heap.size ≤ B
  lq : w.heap.size ≤ Q
theorem tgcc : 38 ≠ 42 := by decide
theorem row_other2 {w : World} {a b : Nat} {t : TypeId} {xs : List Value} (h : Row w a t xs) (hne : a ≠ b) (j : Nat) (u : Value) : Row (w.setCell ⟨b, j, none⟩ u) a t xs := row_other (p := ⟨b, j, none⟩) h hne u
theorem PB.store {w W : World} {A B P Q : Nat} {a b : M.Tg} {p q : M.Cc} (h : PB w W A B P Q a b p q) (hAB : A ≠ B) (hPQ : P ≠ Q) :
    PB w ((W.setCell ⟨B, 1, none⟩ (.int .i64 a.y)).setCell ⟨Q, 1, none⟩ (.int .i64 p.y)) A B P Q a { b with y := a.y } p { q with y := p.y } := by
  have n1 : A ≠ Q := row_ne h.ra h.rq tgcc
  have n2 : B ≠ Q := row_ne h.rb h.rq tgcc
  have n3 : P ≠ B := fun e => row_ne h.rb h.rp tgcc e.symm
  refine ⟨row_other2 (row_other2 h.ra hAB _ _) n1 _ _, row_other2 (h.rb.set 1 _) n2 _ _, row_other2 (row_other2 h.rp n3 _ _) hPQ _ _, (row_other2 h.rq (Ne.symm n2) 1 (.int .i64 a.y)).set 1 _, ?_, h.lb, h.lq⟩
  exact Below.setCell (p := ⟨Q, 1, none⟩) (Below.setCell (p := ⟨B, 1, none⟩) h.bel h.lb _) h.lq _
namespace W
open M
attribute [local go_sem] bs_size bs_toList bs_get bs_extract bs_append bs_lit0 bs_lit1 lit1_bs
set_option maxHeartbeats 16000000
set_option maxRecDepth 20000
theorem pfits_over (ts : List Tg) (cs : List Cc) (h : chk46 ts cs = 0) (h5 : ts.length ≤ 5) (vt vc : Value) (w : World) (hg : Glob w) (hs : Sig w) (ht : RdG w vt ts) (hc : RdC w vc cs) :
    Calls Tryz.prog 21 #[vt, vc] w (fun e w' => ∃ s0 s1 s2 v, e = .returned (.tuple #[.bool (decide (overQ (ts.zip cs) ≤ 0)), .agg #[.string (bs s0), .string (bs s1), .string (bs s2)], v, .int .i64 0]) ∧ Shp v ∧ Below w.heap.size w w') := by
  obtain ⟨r, hr, hF⟩ := pfits_ok ts cs h h5
  have hx := Sx.exc_over (zip_ne h)
  refine (hF vt vc w hg hs ht hc).mono fun e w' hp => ?_
  rcases Sx.feas_exc hx hr with ⟨a, b, c, rfl, hf0, hx0, hb0⟩ | ⟨wt, rfl, hcon, hx0, hbw⟩
  · obtain ⟨rfl, hb⟩ := hp
    rw [decide_eq_true hx0]
    exact ⟨_, _, _, _, rfl, Or.inl rfl, hb⟩
  · obtain ⟨v, rfl, _, hsh, hb⟩ := hp
    rw [decide_eq_false (Rat.not_le.2 hx0)]
    exact ⟨_, _, _, _, rfl, hsh, hb⟩
end W
end Go.Proofs.YtlmolhblmlojnaaGreatDoor
end
section
namespace Go.Proofs.YtlmolhblmlojnaaGreatDoor
open Go Go.RowKit Go.Deep Go.Sort
namespace W
open M
attribute [local go_sem] bs_size bs_toList bs_get bs_extract bs_append bs_lit0 bs_lit1 lit1_bs
set_option maxHeartbeats 1000000
set_option maxRecDepth 20000
theorem round_law (vt vc : Value) (ts : List Tg) (cs : List Cc) (w : World) (hg : Glob w) (hs : Sig w) (ht : RdG w vt ts) (hc : RdC w vc cs) (nt : ts.length ≤ maxLen) (nc : cs.length ≤ maxLen) :
    Calls Tryz.prog 5 #[vt, vc] w (Ret w (.bool true)) := by
  have HP := Lib.hid (pplayRight vt vc ts cs w ht hc nt nc)
  have HY := Lib.hid (fun W (hW : Below w.heap.size w W) => pplayShift W (hg.of hW) (hs.below hW))
  by_cases hr : (decide (ts.length ≤ 4) && decide (chk46 ts cs = 0)) = true
  · rw [hr] at HP
    rw [Bool.and_eq_true, decide_eq_true_eq, decide_eq_true_eq] at hr
    obtain ⟨h4, h0⟩ := hr
    have HF := Lib.hid (fun W (hW : Below w.heap.size w W) => sfeasible vt vc ts cs W (hg.of hW) (hs.below hW) (ht.below hW) (hc.below hW) h0)
    have hsh := fun W (hW : Below w.heap.size w W) => pshift_ok vt vc ts cs W (hg.of hW) (hs.below hW) (ht.below hW) (hc.below hW) h0
    obtain ⟨s1, s2, hsv⟩ := shV_form (ts.zip cs)
    rw [hsv] at hsh
    have HS := Lib.hid hsh
    have HX := Lib.hid (fun W (hW : Below w.heap.size w W) => pfits_over ts cs h0 (by omega) vt vc W (hg.of hW) (hs.below hW) (ht.below hW) (hc.below hW))
    have hne := zip_ne h0
    have hrt := (chk46_iff.1 h0).2.2.2
    have hA : (firstD ((ts.zip cs).map dkP)).isSome = true → shOk (ts.zip cs) = true := fun h => round_box hne (fun p hp => (hrt p hp).wide.1) h
    have hB : shOk (ts.zip cs) = true → decide (overQ (ts.zip cs) ≤ 0) = true := fun h => decide_eq_true ((Sx.Exc.le_zero (Sx.exc_over hne)).2 ⟨_, _, _, Sx.shift_fz h⟩)
    obtain ⟨At, ct, rfl⟩ := ht.len
    obtain ⟨Ac, cc, rfl⟩ := hc.len
    generalize firstD ((ts.zip cs).map dkP) = fd at *
    generalize shOk (ts.zip cs) = box at *
    generalize decide (overQ (ts.zip cs) ≤ 0) = fits at *
    obtain ⟨x, hx⟩ : ∃ x, x = fd.getD ⟨0, 0, 0⟩ := ⟨_, rfl⟩
    rw [← hx] at HF
    generalize fd.isSome = ok at *
    have HAB := Lib.hid (And.intro hA hB)
    clear hA hB hne hrt hsh hsv hx ht hc hg hs h0 h4
    unfold tkV at HF
    go_enter Tryz.func5, Tryz.ntmps5
    go_wp2_with fail
    refine (HP.out).mono ?_
    rintro e w1 ⟨rfl, hb1⟩
    go_wp2_with fail
    refine (HF.out _ hb1).mono ?_
    rintro e w2 ⟨rfl, hb2⟩
    have hb2 := bel_to (bel_to hb1 hb2) (bel_al w2 (.cells #[.int .i64 (x.i : Int), .int .i64 (x.j : Int), .int .i64 x.side] 49 (0, 0)))
    clear hb1
    go_wp2_with fail
    refine (HS.out _ hb2).mono ?_
    rintro e w3 ⟨rfl, hb3⟩
    have hb3 := bel_to (bel_to hb2 hb3) (bel_al w3 (.cells #[.string (bs s1), .string (bs s2)] 28 (0, 0)))
    clear hb2
    go_wp2_with fail
    refine (HX.out _ hb3).mono ?_
    rintro e w4 ⟨r0, r1, r2, v, rfl, hsv, hb4⟩
    have hb4 := bel_to (bel_to hb3 hb4) (bel_al w4 (.cells #[.string (bs r0), .string (bs r1), .string (bs r2)] 61 (0, 0)))
    clear hb3
    cases box with
    | true =>
      obtain rfl := HAB.out.2 rfl
      cases ok with
      | true =>
        go_wp2_with fail
        refine (HY.out _ hb4).mono ?_
        rintro e w5 ⟨rfl, hb5⟩
        go_wp2
        go_ret
        exact Ret.of rfl (bel_to hb4 hb5)
      | false =>
        go_wp2_with fail
        refine (HY.out _ hb4).mono ?_
        rintro e w5 ⟨rfl, hb5⟩
        go_wp2
        go_ret
        exact Ret.of rfl (bel_to hb4 hb5)
    | false =>
      cases ok with
      | true => exact absurd (HAB.out.1 rfl) (by decide)
      | false =>
        go_wp2_with fail
        refine (HY.out _ hb4).mono ?_
        rintro e w5 ⟨rfl, hb5⟩
        go_wp2
        go_ret
        exact Ret.of rfl (bel_to hb4 hb5)
  · rw [Bool.eq_false_iff.2 hr] at HP
    obtain ⟨At, ct, rfl⟩ := ht.len
    obtain ⟨Ac, cc, rfl⟩ := hc.len
    clear ht hc hg hs hr
    go_enter Tryz.func5, Tryz.ntmps5
    go_wp2_with fail
    refine (HP.out).mono ?_
    rintro e w1 ⟨rfl, hb1⟩
    go_wp2_with fail
    refine (HY.out _ hb1).mono ?_
    rintro e w2 ⟨rfl, hb2⟩
    go_wp2
    go_ret
    exact Ret.of rfl (bel_to hb1 hb2)
end W
end Go.Proofs.YtlmolhblmlojnaaGreatDoor
end
