/-
  Chapter 5: 'Refute' on both sides.
  Chapter 5's laws: the examples ('awake').
-/
import Derived.Test.YtellemlhhlafcaaGreatDoorMM
import Derived.Test.YtellemlhhlafcaaGreatDoorMI
section
namespace Go.Proofs.YtellemlhhlafcaaGreatDoor
open Go Go.RowKit Go.Deep Go.Sort Go.Shelf
namespace M
theorem R_head (q : Rat) : ∃ c t, R q = c :: t ∧ (c == 45) = decide (q < 0) := by
  obtain ⟨c, t, h1, h2⟩ := I_cons q.num
  have h3 : decide (q.num < 0) = decide (q < 0) := by
    rw [decide_eq_decide, ← Int.not_le, Rat.num_nonneg, Rat.not_le]
  unfold R
  split
  · exact ⟨c, t, h1, by rw [h2, h3]⟩
  · exact ⟨c, t ++ 47 :: I (q.den : Int), by rw [h1]; rfl, by rw [h2, h3]⟩
end M
namespace W
open M
attribute [local go_sem] bs_size bs_toList bs_get bs_extract bs_append bs_lit0 bs_lit1 lit1_bs
set_option maxHeartbeats 2000000
set_option maxRecDepth 20000
end W
end Go.Proofs.YtellemlhhlafcaaGreatDoor
end
section
namespace Go.Proofs.YtellemlhhlafcaaGreatDoor
open Go Go.RowKit Go.Deep Go.Sort
namespace M
instance (k : Nat) (q : Rat) : Decidable (Bq k q) := by unfold Bq; exact inferInstance
end M
namespace W
open M
attribute [local go_sem] bs_size bs_toList bs_get bs_extract bs_append bs_lit0 bs_lit1 lit1_bs
set_option maxHeartbeats 1000000
set_option maxRecDepth 20000
end W
end Go.Proofs.YtellemlhhlafcaaGreatDoor
end
