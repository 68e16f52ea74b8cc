/-
  Top 24: 'tryIdeal', 'tryPlate', the fixed example 'tryGauge'.
-/
import Derived.Test.YtellemlhhlafcaaGreatDoorMOC
import Derived.Test.YtellemlhhlafcaaGreatDoorMOE
import Derived.Test.YtellemlhhlafcaaGreatDoorMU
import Derived.Test.YtellemlhhlafcaaGreatDoorMAB
section
namespace Go.Proofs.YtellemlhhlafcaaGreatDoor
open Go Go.RowKit Go.Deep Go.Sort
theorem own_setT {w : World} {B g j : Nat} {v u : Value} {l : List M.To} (hg : g < B) (h : OwnTL w B v l) : OwnTL (w.setCell ⟨g, j, none⟩ u) B v l := by
  refine World.ownsRow.kept h (grown_set w ⟨g, j, none⟩ u) ?_
  rcases hv : v.ownBlock with _ | k
  · exact Or.inl rfl
  · refine Or.inr fun e => ?_
    injection e with e
    have := (World.ownsRow.lt h k hv).1
    simp only at e
    omega
namespace M
end M
namespace W
open M
attribute [local go_sem] bs_size bs_toList bs_get bs_extract bs_append bs_lit0 bs_lit1 lit1_bs
set_option maxHeartbeats 1000000
set_option maxRecDepth 20000
end W
end Go.Proofs.YtellemlhhlafcaaGreatDoor
end
