/-
  Top 23: the fixed example, right and small plates.
-/
import Derived.Test.YtellemlhhlafcaaGreatDoorKY
import Derived.Test.YtellemlhhlafcaaGreatDoorKAB
import Derived.Test.YtellemlhhlafcaaGreatDoorKQ
section
namespace Go.Proofs.YtellemlhhlafcaaGreatDoor
open Go Go.RowKit Go.Deep Go.Sort
namespace M
def plT : List Tg := [⟨0, 0, 20, 20, 2, 0, false⟩]
def plC : List Cc := [⟨0, 0, 20⟩]
theorem pl_chk : chk46 plT plC = 0 := by decide +kernel
theorem pl_ov : overQ (plT.zip plC) = -2 := by decide +kernel
theorem pl_zones : (plT.zip plC).map dkP ++ [⟨0, 0, 0⟩] = [(⟨0, 0, 1⟩ : Dk), ⟨0, 0, 0⟩] := by
  have e : wide ⟨0, 0, 20, 20, 2, 0, false⟩ ⟨0, 0, 20⟩ = 2 := by decide +kernel
  show [dkP (⟨0, 0, 20, 20, 2, 0, false⟩, ⟨0, 0, 20⟩)] ++ [⟨0, 0, 0⟩] = _
  unfold dkP
  simp only [e]
  simp
  grind
end M
namespace W
open M
attribute [local go_sem] bs_size bs_toList bs_get bs_extract bs_append bs_lit0 bs_lit1 lit1_bs
set_option maxHeartbeats 1000000
set_option maxRecDepth 20000
theorem pplayPlate (w : World) : Calls Tryz.prog 26 #[] w (fun e w' => ∃ A B, e = .returned (.tuple #[.slice (some ⟨A, 0, none⟩) 1 1, .slice (some ⟨B, 0, none⟩) 1 1]) ∧ RdG w' (.slice (some ⟨A, 0, none⟩) 1 1) plT ∧ RdC w' (.slice (some ⟨B, 0, none⟩) 1 1) plC ∧ Below w.heap.size w w') := by
  have hr1 : Row ((w.alloc (.cells (csG plT).toArray 27 (0, 0))).alloc (.cells (csC plC).toArray 30 (0, 0))) w.heap.size 27 (csG plT) := rnw.alloc _
  have hr2 : Row ((w.alloc (.cells (csG plT).toArray 27 (0, 0))).alloc (.cells (csC plC).toArray 30 (0, 0))) (w.heap.size + 1) 30 (csC plC) := rnew0 (World.size_alloc _ _).symm
  have HR := Lib.hid (And.intro (rdG_row (n := 1) hr1 rfl) (And.intro (rdC_row (n := 1) hr2 rfl) (bel_al2 w (.cells (csG plT).toArray 27 (0, 0)) (.cells (csC plC).toArray 30 (0, 0)))))
  clear hr1 hr2
  go_enter Tryz.func26, Tryz.ntmps26
  go_wp2
  go_ret2
  exact ⟨_, _, rfl, HR.out.1, HR.out.2.1, HR.out.2.2⟩
theorem pl_exc : ∃ a b c, ∀ (vt vc : Value) (w : World), Glob w → Sig w → RdG w vt plT → RdC w vc plC →
    Calls Tryz.prog 28 #[vt, vc] w (Ret w (.tuple #[.string (bs [45, 50]), .agg #[.string (bs a), .string (bs b), .string (bs c)], .int .i64 0])) := by
  obtain ⟨dx, dy, tw, x, hx, _, _, h⟩ := pexcess_ok plT plC pl_chk (by decide)
  have e : x = -2 := by rw [← pl_ov]; exact exc_same hx (Sx.exc_over (by unfold plT plC; simp))
  rw [e, R_texts.2.1] at h
  exact ⟨R dx, R dy, R tw, fun vt vc w hg hs h1 h2 => h vt vc w hg hs h1 h2⟩
theorem pl_does (vt vc : Value) (w : World) (hg : Glob w) (hs : Sig w) (ht : RdG w vt plT) (hc : RdC w vc plC) :
    Calls Tryz.prog 27 #[tkV vt vc 0, .agg #[.string ⟨#[48]⟩, .string ⟨#[48]⟩]] w (Ret w (.tuple #[.bool true, .int .i64 0])) := by
  have h := sdoes vt vc plT plC 0 [(⟨0, 0, 1⟩ : Dk), ⟨0, 0, 0⟩] 0 0 w hg ht hc (fun W hW => by
    have := szones_zero vt vc plT plC W (hg.of hW) (hs.below hW) (ht.below hW) (hc.below hW) pl_chk
    rwa [pl_zones] at this) (fun d hd => by
      simp only [List.mem_cons, List.not_mem_nil, or_false] at hd
      rcases hd with rfl | rfl
      · exact ⟨⟨0, 0, 4, by simp; grind, by decide, by decide, by decide, by decide⟩⟩
      · exact dz_sm) (by decide) (Bq_nil.mono (by decide)) (Bq_nil.mono (by decide)) (fun d hd => by
      simp only [List.mem_cons, List.not_mem_nil, or_false] at hd
      rcases hd with rfl | rfl
      · unfold powD; decide +kernel
      · unfold powD; decide +kernel)
  rw [R_nil] at h
  exact h
theorem pplayShift (w : World) (hg : Glob w) (hs : Sig w) : Calls Tryz.prog 8 #[] w (Ret w (.bool true)) := by
  obtain ⟨a, b, c, hex⟩ := pl_exc
  have HE := Lib.hid (fun vt vc W (hW : Below w.heap.size w W) h1 h2 => hex vt vc W (hg.of hW) (hs.below hW) h1 h2)
  have HD := Lib.hid (fun vt vc W (hW : Below w.heap.size w W) h1 h2 => pl_does vt vc W (hg.of hW) (hs.below hW) h1 h2)
  clear hg hs hex
  unfold tkV at HD
  go_enter Tryz.func8, Tryz.ntmps8
  go_wp2_with fail
  refine (pplayPlate _).mono ?_
  rintro e w1 ⟨A, B, rfl, hA, hB, hb1⟩
  have H1 := Lib.hid (And.intro hA (And.intro hB hb1))
  clear hA hB hb1
  go_wp2_with fail
  refine (HD.out _ _ _ H1.out.2.2 H1.out.1 H1.out.2.1).mono ?_
  rintro e w2 ⟨rfl, hb2⟩
  have H2 := Lib.hid (And.intro (H1.out.1.below hb2) (And.intro (H1.out.2.1.below hb2) (bel_to H1.out.2.2 hb2)))
  clear hb2 H1 HD
  go_wp2_with fail
  refine (HE.out _ _ _ H2.out.2.2 H2.out.1 H2.out.2.1).mono ?_
  rintro e w3 ⟨rfl, hb3⟩
  have hb4 := bel_to (bel_to H2.out.2.2 hb3) (bel_al w3 (.cells #[.string (bs a), .string (bs b), .string (bs c)] 89 (0, 0)))
  have HB := Lib.hid hb4
  clear hb3 hb4 H2 HE
  go_wp2
  go_ret
  exact Ret.of rfl HB.out
theorem pplayRight (vt vc : Value) (ts : List Tg) (cs : List Cc) (w : World) (ht : RdG w vt ts) (hc : RdC w vc cs) (nt : ts.length ≤ maxLen) (nc : cs.length ≤ maxLen) :
    Calls Tryz.prog 7 #[vt, vc] w (Ret w (.bool (decide (ts.length ≤ 4) && decide (chk46 ts cs = 0)))) := by
  have HC := Lib.hid (fun W (hW : Below w.heap.size w W) => rcheck46 vt vc ts cs W (ht.below hW) (hc.below hW) nt nc)
  obtain ⟨At, ct, rfl⟩ := ht.len
  obtain ⟨Ac, cc, rfl⟩ := hc.len
  generalize hrs : (decide (ts.length ≤ 4) && decide (chk46 ts cs = 0)) = rs
  have HRS := Lib.hid hrs
  clear ht hc hrs
  by_cases h4 : ts.length ≤ 4
  · have d4 : decide ((ts.length : Int) ≤ 4) = true := decide_eq_true (by omega)
    have hq : (((chk46 ts cs : Nat) : Int) == 0) = rs := by
      rw [← HRS.out, decide_eq_true h4, Bool.true_and]
      by_cases h0 : chk46 ts cs = 0
      · rw [decide_eq_true h0, h0]; rfl
      · rw [decide_eq_false h0, beq_eq_false_iff_ne]; omega
    generalize ((chk46 ts cs : Nat) : Int) = ck at *
    clear HRS
    go_enter Tryz.func7, Tryz.ntmps7
    go_wp2_with fail
    refine (HC.out _ (Below.refl _ _)).mono ?_
    rintro e w1 ⟨rfl, hb1⟩
    go_wp2
    go_ret
    exact Ret.of rfl hb1
  · have d4 : decide ((ts.length : Int) ≤ 4) = false := decide_eq_false (by omega)
    obtain rfl : false = rs := by rw [← HRS.out, decide_eq_false h4]; rfl
    clear HRS
    go_enter Tryz.func7, Tryz.ntmps7
    go_wp2
    go_ret
    exact Ret.of rfl (Below.refl _ _)
end W
end Go.Proofs.YtellemlhhlafcaaGreatDoor
end
