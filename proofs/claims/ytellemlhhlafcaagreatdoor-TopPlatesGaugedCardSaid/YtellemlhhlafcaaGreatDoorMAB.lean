/-
  Chapter 46: the examples of the chapter, plain and walked.
-/
import Derived.Test.YtellemlhhlafcaaGreatDoorMU
import Derived.Test.YtellemlhhlafcaaGreatDoorMRE
import Derived.Deep.RegionHeld3
import Derived.Maps.AppendAt
section
namespace Go.Proofs.YtellemlhhlafcaaGreatDoor
open Go Go.RowKit Go.Deep
namespace M
end M
theorem rdC_row {w : World} {g n : Nat} {t : TypeId} {l : List M.Cc} (h : Row w g t (csC l)) (hn : n = l.length) : RdC w (.slice (some ⟨g, 0, none⟩) n n) l :=
  ⟨_, _, by rw [hn], Or.inr ⟨g, 0, rfl, SlC.of_row h⟩⟩
namespace W
open M
attribute [local go_sem] bs_size bs_toList bs_get bs_extract bs_append bs_lit0 bs_lit1 lit1_bs
set_option maxHeartbeats 2000000
set_option maxRecDepth 20000
end W
end Go.Proofs.YtellemlhhlafcaaGreatDoor
end
