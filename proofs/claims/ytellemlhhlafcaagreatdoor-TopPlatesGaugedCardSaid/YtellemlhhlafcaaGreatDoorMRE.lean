/-
  Chapter 46, plain: the excess by pairs of conditions ('Lowest'); what changes it; the size of the simplex' numbers.
-/
import Derived.Test.YtellemlhhlafcaaGreatDoorMJ
import Derived.Test.YtellemlhhlafcaaGreatDoorMH
section
namespace Go.Proofs.YtellemlhhlafcaaGreatDoor
open Go
namespace M
end M
namespace Sx
open M
theorem getD_get {α} (l : List α) (d : α) {i : Nat} (h : i < l.length) : l.getD i d = l[i] := by simp [h]
end Sx
end Go.Proofs.YtellemlhhlafcaaGreatDoor
end
