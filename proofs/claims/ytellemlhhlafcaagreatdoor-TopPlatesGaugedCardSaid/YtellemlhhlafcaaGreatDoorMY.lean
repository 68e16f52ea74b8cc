/-
  Chapter 45 of the program: 'Check', 'around', 'targets', 'Zones', 'Feasible' at right plates.
-/
import Derived.Test.YtellemlhhlafcaaGreatDoorMX
import Derived.Test.YtellemlhhlafcaaGreatDoorMS
section
namespace Go.Proofs.YtellemlhhlafcaaGreatDoor
open Go Go.RowKit Go.Deep Go.Sort
namespace M
end M
theorem OwnK.base {w : World} {B B' : Nat} {v : Value} {l : List M.Dk} (h : OwnK w B v l) (hB : B' ≤ B) : OwnK w B' v l := by
  refine ⟨h.1, ?_⟩
  rcases h.2 with h2 | ⟨g, cap, cur, h2, h3, h4⟩
  · exact Or.inl h2
  · exact Or.inr ⟨g, cap, cur, h2, Nat.le_trans hB h3, h4⟩
theorem row_grownK {w w' : World} {B g : Nat} {v : Value} {t : TypeId} {xs : List Value} {l : List M.Dk} (h : Row w g t xs) (ho : OwnK w B v l) (hg : w.grownBy w' v.ownBlock) (hlt : g < B) : Row w' g t xs := by
  have hne : some g ≠ v.ownBlock := fun e => by have := (World.ownsRow.lt ho g e.symm).1; omega
  exact (hg.block g (Row.lt h) hne).trans h
theorem srcK_one (V : World) (d : M.Dk) (j : Nat) (u : Value) (hu : (csK [d])[j]? = some u) (g : Nat) (hg : g = V.heap.size) : (V.alloc (.cells #[.string (bs (M.R d.x)), .string (bs (M.R d.y)), .string (bs (M.R d.s))] 127 (0, 0))).cell? ((⟨g, 0, none⟩ : Addr).add j) = some u := by
  subst hg
  have hr : Row (V.alloc (.cells #[.string (bs (M.R d.x)), .string (bs (M.R d.y)), .string (bs (M.R d.s))] 127 (0, 0))) V.heap.size 127 [.string (bs (M.R d.x)), .string (bs (M.R d.y)), .string (bs (M.R d.s))] := rnw
  have hadd : (⟨V.heap.size, 0, none⟩ : Addr).add j = ⟨V.heap.size, j, none⟩ := by unfold Addr.add; split <;> simp_all
  rw [hadd]
  exact hr.cell (by simpa [csK] using hu)
namespace W
open M
attribute [local go_sem] bs_size bs_toList bs_get bs_extract bs_append bs_lit0 bs_lit1 lit1_bs
set_option maxHeartbeats 1000000
set_option maxRecDepth 20000
end W
end Go.Proofs.YtellemlhhlafcaaGreatDoor
end
