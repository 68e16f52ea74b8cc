/-
  Chapter 5, plain: the simplex over tables that are written out anew at each step.
  Chapter 5: 'pivot' lets a row determine a column.
-/
import Derived.Test.YtellemlhhlafcaaGreatDoorMI
import Derived.Shelf.Bits.Mul64
import Derived.Laws.CopyRow
import Derived.BigRegion
section
namespace Go.Proofs.YtellemlhhlafcaaGreatDoor
open Go Go.RowKit Go.Deep
namespace M
abbrev Mx := Nat → Nat → Rat
end M
end Go.Proofs.YtellemlhhlafcaaGreatDoor
end
section
namespace Go.Proofs.YtellemlhhlafcaaGreatDoor
open Go Go.RowKit Go.Deep Go.Sort
namespace M
theorem Bq.div {a b : Rat} {j k : Nat} (ha : Bq j a) (hb : Bq k b) (h0 : b ≠ 0) : Bq (j + k) (a / b) := by
  rw [← W.div_div]
  have hn0 : b.num ≠ 0 := fun e => h0 (Rat.num_eq_zero.1 e)
  exact Bq_div (Int.mul_ne_zero (by have := a.den_pos; omega) hn0) (mul_pow ha.1 (den_abs hb)) (mul_pow (den_abs ha) hb.1)
end M
namespace W
open M
attribute [local go_sem] bs_size bs_toList bs_get bs_extract bs_append bs_lit0 bs_lit1 lit1_bs
set_option maxHeartbeats 2000000
set_option maxRecDepth 20000
section
variable {w : World} {B p S gr gb cr cb : Nat} {h : Nat → Nat} {n m : Nat} {A : Mx} {b : Nat → Nat}
end
end W
end Go.Proofs.YtellemlhhlafcaaGreatDoor
end
