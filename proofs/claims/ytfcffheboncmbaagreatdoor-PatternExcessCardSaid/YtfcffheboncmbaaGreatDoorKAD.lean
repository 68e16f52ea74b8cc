/-
  The reference of layer 2: 'Over', 'By'.
-/
import Derived.Test.YtfcffheboncmbaaGreatDoorKF
import Derived.Lib.Hide
section
namespace Go.Proofs.YtfcffheboncmbaaGreatDoor
open Go Go.RowKit
namespace M
theorem by_div (a b : Rat) : Rat.divInt (a.num * (b.den : Int)) ((a.den : Int) * b.num) = a / b := by
  rw [← Rat.divInt_mul_divInt, Rat.num_divInt_den, Rat.div_def, Rat.inv_def]
end M
namespace W
open M
attribute [local go_sem] bs_size bs_toList bs_get bs_extract bs_append bs_lit0 bs_lit1 lit1_bs
set_option maxHeartbeats 1000000
set_option maxRecDepth 20000
theorem rover (n d : Int) (w : World) (hn : n.natAbs < 10 ^ 18) (hd : d.natAbs < 10 ^ 18) (h0 : d ≠ 0) :
    Calls Tryz.prog 84 #[.int .i64 n, .int .i64 d] w (Ret w (.string (bs (R (Rat.divInt n d))))) := by
  have e : (10 : Nat) ^ 18 = 1000000000000000000 := by decide
  have HN := Lib.hid (fun wx => of_any n wx (by omega) (by omega))
  have HD := Lib.hid (fun wx => of_any d wx (by omega) (by omega))
  have HL := Lib.hid (fun wx => lowest_I n d wx h0 (by have := I_len (k := 18) (by decide) hn; omega) (by have := I_len (k := 18) (by decide) hd; omega))
  clear hn hd h0 e
  go_enter Tryz.func84, Tryz.ntmps84
  go_wp2_with fail
  refine (HN.out _).mono ?_
  rintro e w1 ⟨rfl, hb1⟩
  go_wp2_with fail
  refine (HD.out _).mono ?_
  rintro e w2 ⟨rfl, hb2⟩
  have hb2 := hb1.trans (hb2.mono hb1.size)
  go_wp2_with fail
  refine (HL.out _).mono ?_
  rintro e w3 ⟨rfl, hb3⟩
  have hb3 := hb2.trans (hb3.mono hb2.size)
  go_wp2
  go_ret
  exact Ret.of rfl hb3
theorem rby (a b : Rat) (w : World) (ha : Sh a) (hb : Sh b) (h0 : b ≠ 0) :
    Calls Tryz.prog 58 #[.string (bs (R a)), .string (bs (R b))] w (Ret w (.string (bs (R (a / b))))) := by
  have HC := Lib.hid (crossed_R a b w ha hb)
  have l1 := I_mul_len ha.1 hb.2
  have l2 := I_mul_len ha.2 hb.1
  have hn0 : b.num ≠ 0 := fun e => h0 (Rat.num_eq_zero.1 e)
  have hd0 : (a.den : Int) * b.num ≠ 0 := Int.mul_ne_zero (den_pos a) hn0
  have HL := Lib.hid (fun w' => lowest_I (a.num * (b.den : Int)) ((a.den : Int) * b.num) w' hd0 (by omega) (by omega))
  rw [by_div] at HL
  unfold CrossP CrossL at HC
  generalize I (a.num * (b.den : Int)) = z1 at *
  generalize I (b.num * (a.den : Int)) = z2 at *
  generalize I ((a.den : Int) * (b.den : Int)) = z3 at *
  generalize I (a.num * b.num) = z4 at *
  generalize I ((a.den : Int) * b.num) = z5 at *
  generalize R (a / b) = rr at *
  generalize R a = ra at *
  generalize R b = rb at *
  clear ha hb l1 l2 hd0 hn0 h0
  go_enter Tryz.func58, Tryz.ntmps58
  go_wp2_with fail
  refine HC.out.mono ?_
  rintro e w1 ⟨bl, hbl, rfl, hrow, hb1⟩
  have hlt := hrow.lt
  have c0 := hrow.cell (i := 0) rfl
  have c4 := hrow.cell (i := 4) rfl
  go_wp2
  go_region_with (go_at_call 74; refine (HL.out _).mono ?_; rintro e w3 ⟨rfl, hb3⟩)
  all_goals
    have hb4 := hb1.trans ((RowKit.Below.drew (RowKit.Below.refl _ w1)).trans (hb3.mono (by exact hb1.size)))
    go_wp2
    go_ret
    exact Ret.of rfl hb4
end W
end Go.Proofs.YtfcffheboncmbaaGreatDoor
end
