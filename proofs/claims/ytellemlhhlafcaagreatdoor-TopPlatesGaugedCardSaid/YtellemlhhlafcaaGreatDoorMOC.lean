/-
  Chapter 47 of the program: 'limits', 'Made' at right elements, with all sizes at the high end.
-/
import Derived.Test.YtellemlhhlafcaaGreatDoorMOB
import Derived.Test.YtellemlhhlafcaaGreatDoorMOA
import Derived.Test.YtellemlhhlafcaaGreatDoorMV
import Derived.Test.YtellemlhhlafcaaGreatDoorMW
section
namespace Go.Proofs.YtellemlhhlafcaaGreatDoor
open Go Go.RowKit Go.Deep Go.Sort
theorem srcTL_one (V : World) (d : M.To) (j : Nat) (u : Value) (hu : (csTL [d])[j]? = some u) (g : Nat) (hg : g = V.heap.size) : (V.alloc (.cells #[.int .i64 d.x, .int .i64 d.y, .bool d.hole, .int .i64 d.n] 67 (0, 0))).cell? ((⟨g, 0, none⟩ : Addr).add j) = some u := by
  subst hg
  have hr : Row (V.alloc (.cells #[.int .i64 d.x, .int .i64 d.y, .bool d.hole, .int .i64 d.n] 67 (0, 0))) V.heap.size 67 (csTL [d]) := rnw
  have hadd : (⟨V.heap.size, 0, none⟩ : Addr).add j = ⟨V.heap.size, j, none⟩ := by unfold Addr.add; split <;> simp_all
  rw [hadd]
  exact hr.cell hu
theorem OwnTL.base {w : World} {B B' : Nat} {v : Value} {l : List M.To} (h : OwnTL w B v l) (hB : B' ≤ B) : OwnTL w B' v l := by
  refine ⟨h.1, ?_⟩
  rcases h.2 with h2 | ⟨g, cap, cur, h2, h3, h4⟩
  · exact Or.inl h2
  · exact Or.inr ⟨g, cap, cur, h2, Nat.le_trans hB h3, h4⟩
namespace W
open M
attribute [local go_sem] bs_size bs_toList bs_get bs_extract bs_append bs_lit0 bs_lit1 lit1_bs
set_option maxHeartbeats 1000000
set_option maxRecDepth 20000
end W
end Go.Proofs.YtellemlhhlafcaaGreatDoor
end
