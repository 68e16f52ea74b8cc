/-
  Chapter 5: 'columns', an iterator over the columns that make the goal greater, and 'first', which takes its first one.
-/
import Derived.Test.YtellemlhhlafcaaGreatDoorMJ
import Derived.Test.YtellemlhhlafcaaGreatDoorMI
import Derived.Sort.QuietThIn
import Derived.Sort.BigQuietIn
import Derived.RangeFuncNested
import Derived.RangeFuncBound
import Derived.RangeFuncCalls
import Derived.RangeFuncLeaves
import Derived.RangeFuncFrom
import Derived.WalkKit
import Derived.OwnWalkIn
import Derived.TacticsInMore
import Derived.LoopNIn
import Derived.LoopIn
section
namespace Go.Proofs.YtellemlhhlafcaaGreatDoor
open Go Go.RowKit Go.Deep Go.Sort Go.Shelf
namespace M
end M
theorem wide_asked {P : Program} {o : Oper} {a : Act} {C : World → Prop} : Oper.askedIn Fence.wide P o a C = True := eq_true fun _ _ _ _ => trivial
theorem wide_fn (f : FuncId) : Fence.wide.fn f = True := rfl
namespace W
open M
attribute [local go_sem] bs_size bs_toList bs_get bs_extract bs_append bs_lit0 bs_lit1 lit1_bs
attribute [local go_sem] Oper.semAt_some
attribute [local go_sem] wide_asked wide_fn
set_option maxHeartbeats 2000000
set_option maxRecDepth 100000
section
variable {w : World} {B p S gr gb cr cb : Nat} {h : Nat → Nat} {n m : Nat} {A : Mx} {b : Nat → Nat}
end
end W
end Go.Proofs.YtellemlhhlafcaaGreatDoor
end
