/-
  The reference of layer 1: the small functions on texts.
-/
import Derived.Test.YtellemlhhlafcaaGreatDoorMA
import Derived.StillTailTactics
import Derived.Deep.QuietTactic
import Derived.BigQuiet
section
namespace Go.Proofs.YtellemlhhlafcaaGreatDoor
open Go Go.RowKit
namespace M
theorem b45 {c : UInt8} : ((c.toNat : Int) == 45) = (c == 45) := by
  rw [Bool.eq_iff_iff]; simp only [beq_iff_eq]
  constructor
  · intro h; exact UInt8.toNat_inj.1 (by simpa using (by omega : c.toNat = 45))
  · intro h; subst h; rfl
theorem b48 {c : UInt8} : ((c.toNat : Int) == 48) = (c == 48) := by
  rw [Bool.eq_iff_iff]; simp only [beq_iff_eq]
  constructor
  · intro h; exact UInt8.toNat_inj.1 (by simpa using (by omega : c.toNat = 48))
  · intro h; subst h; rfl
end M
namespace W
open M
attribute [local go_sem] bs_size bs_toList bs_get bs_extract bs_append bs_lit0 bs_lit1 lit1_bs
set_option maxHeartbeats 400000
end W
end Go.Proofs.YtellemlhhlafcaaGreatDoor
end
