/-
  Chapter 46: what is found is accepted, or refuses: contracts of 'Accepts' and 'Refuses' for proofs that hold; 'right' of the laws.
-/
import Derived.Test.YtfcffheboncmbaaGreatDoorKW
import Derived.Test.YtfcffheboncmbaaGreatDoorKH
section
namespace Go.Proofs.YtfcffheboncmbaaGreatDoor
open Go Go.RowKit Go.Deep
namespace M
end M
namespace W
open M
attribute [local go_sem] bs_size bs_toList bs_get bs_extract bs_append bs_lit0 bs_lit1 lit1_bs
set_option maxHeartbeats 2000000
set_option maxRecDepth 20000
theorem lright46 (vt vc : Value) (ts : List Tg) (cs : List Cc) (w : World) (ht : RdG w vt ts) (hc : RdC w vc cs) (nt : ts.length ≤ maxLen) (nc : cs.length ≤ maxLen) :
    Calls Tryz.prog 25 #[vt, vc] w (Ret w (.bool (decide (ts.length ≤ 5) && decide (chk46 ts cs = 0)))) := by
  have HC := Lib.hid (rcheck46 vt vc ts cs w ht hc nt nc)
  obtain ⟨At, ct, rfl⟩ := ht.len
  obtain ⟨Ac, cc, rfl⟩ := hc.len
  have hz : (((chk46 ts cs : Nat) : Int) == 0) = decide (chk46 ts cs = 0) := by rw [Bool.eq_iff_iff, beq_iff_eq, decide_eq_true_eq]; omega
  by_cases h5 : ts.length ≤ 5
  · have h5' : (ts.length : Int) ≤ 5 := by omega
    rw [show decide (ts.length ≤ 5) = true by simp [h5], Bool.true_and]
    rw [← hz]
    clear ht hc nt nc h5 hz
    generalize ((chk46 ts cs : Nat) : Int) = k at *
    go_enter Tryz.func25, Tryz.ntmps25
    go_wp2_with fail
    refine (HC.out).mono ?_
    rintro e w1 ⟨rfl, hb1⟩
    go_wp2
    go_ret
    exact Ret.of rfl hb1
  · have h5' : ¬ (ts.length : Int) ≤ 5 := by omega
    rw [show decide (ts.length ≤ 5) = false by simp [h5], Bool.false_and]
    clear ht hc nt nc h5 hz HC
    go_enter Tryz.func25, Tryz.ntmps25
    go_wp2
    go_ret
    exact Ret.of rfl (Below.refl _ _)
end W
end Go.Proofs.YtfcffheboncmbaaGreatDoor
end
