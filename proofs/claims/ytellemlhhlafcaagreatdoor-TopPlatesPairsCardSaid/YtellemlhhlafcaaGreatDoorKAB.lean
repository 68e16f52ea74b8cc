/-
  Chapter 46: 'Shift' of the program.
  Chapter 46: 'Accepts' and 'Refuses' of the program.
  Chapter 46: the examples of the chapter, plain and walked.
  Chapter 46: what the examples answer.
  Chapter 46: the examples of the chapter hold.
  Chapter 46: 'awake' of the laws.
  Chapter 46: what is found is accepted, or refuses: contracts of 'Accepts' and 'Refuses' for proofs that hold; 'right' of the laws.
  Chapter 46: plain lists of the laws: greater tolerances, the order, places moved and exchanged.
-/
import Derived.Test.YtellemlhhlafcaaGreatDoorKAA
import Derived.Test.YtellemlhhlafcaaGreatDoorKH
import Derived.Test.YtellemlhhlafcaaGreatDoorKRE
section
namespace Go.Proofs.YtellemlhhlafcaaGreatDoor
open Go Go.RowKit Go.Deep
namespace M
end M
theorem row_ne {w : World} {a b : Nat} {t t' : TypeId} {xs ys : List Value} (h : Row w a t xs) (h2 : Row w b t' ys) (ht : t ≠ t') : a ≠ b := fun e => by
  unfold Row at h h2
  rw [e, h2] at h
  injection h with h
  injection h with _ h _
  exact ht h.symm
namespace W
open M
attribute [local go_sem] bs_size bs_toList bs_get bs_extract bs_append bs_lit0 bs_lit1 lit1_bs
set_option maxHeartbeats 2000000
set_option maxRecDepth 20000
end W
end Go.Proofs.YtellemlhhlafcaaGreatDoor
end
section
namespace Go.Proofs.YtellemlhhlafcaaGreatDoor
open Go Go.RowKit Go.Deep
namespace W
open M
attribute [local go_sem] bs_size bs_toList bs_get bs_extract bs_append bs_lit0 bs_lit1 lit1_bs
set_option maxHeartbeats 2000000
set_option maxRecDepth 20000
end W
end Go.Proofs.YtellemlhhlafcaaGreatDoor
end
section
namespace Go.Proofs.YtellemlhhlafcaaGreatDoor
open Go Go.RowKit Go.Deep
namespace M
theorem exc_same {pl : Pl} {x y : Rat} (h : Sx.Exc pl x) (h2 : Sx.Exc pl y) : x = y := Rat.le_antisymm (Sx.exc_fewer h2 h fun _ h => h) (Sx.exc_fewer h h2 fun _ h => h)
theorem R_texts : R (-4) = [45, 52] ∧ R (-2) = [45, 50] ∧ R 2 = [50] ∧ R 0 = [48] ∧ R (-1 / 25) = [45, 49, 47, 50, 53] := by
  refine ⟨?_, ?_, ?_, ?_, ?_⟩ <;> kernel_rfl
end M
theorem rdG_row {w : World} {g n : Nat} {t : TypeId} {l : List M.Tg} (h : Row w g t (csG l)) (hn : n = l.length) : RdG w (.slice (some ⟨g, 0, none⟩) n n) l :=
  ⟨_, _, by rw [hn], Or.inr ⟨g, 0, rfl, SlG.of_row h⟩⟩
theorem rdC_row {w : World} {g n : Nat} {t : TypeId} {l : List M.Cc} (h : Row w g t (csC l)) (hn : n = l.length) : RdC w (.slice (some ⟨g, 0, none⟩) n n) l :=
  ⟨_, _, by rw [hn], Or.inr ⟨g, 0, rfl, SlC.of_row h⟩⟩
namespace W
open M
attribute [local go_sem] bs_size bs_toList bs_get bs_extract bs_append bs_lit0 bs_lit1 lit1_bs
set_option maxHeartbeats 2000000
set_option maxRecDepth 20000
end W
end Go.Proofs.YtellemlhhlafcaaGreatDoor
end
section
namespace Go.Proofs.YtellemlhhlafcaaGreatDoor
open Go Go.RowKit Go.Deep
namespace W
open M
end W
end Go.Proofs.YtellemlhhlafcaaGreatDoor
end
section
namespace Go.Proofs.YtellemlhhlafcaaGreatDoor
open Go Go.RowKit Go.Deep
namespace M
end M
namespace W
open M
attribute [local go_sem] bs_size bs_toList bs_get bs_extract bs_append bs_lit0 bs_lit1 lit1_bs
set_option maxHeartbeats 2000000
set_option maxRecDepth 20000
end W
end Go.Proofs.YtellemlhhlafcaaGreatDoor
end
section
namespace Go.Proofs.YtellemlhhlafcaaGreatDoor
open Go Go.RowKit Go.Deep
namespace W
open M
attribute [local go_sem] bs_size bs_toList bs_get bs_extract bs_append bs_lit0 bs_lit1 lit1_bs
set_option maxHeartbeats 4000000
set_option maxRecDepth 20000
end W
end Go.Proofs.YtellemlhhlafcaaGreatDoor
end
section
namespace Go.Proofs.YtellemlhhlafcaaGreatDoor
open Go Go.RowKit Go.Deep
namespace M
end M
namespace W
open M
attribute [local go_sem] bs_size bs_toList bs_get bs_extract bs_append bs_lit0 bs_lit1 lit1_bs
set_option maxHeartbeats 2000000
set_option maxRecDepth 20000
end W
end Go.Proofs.YtellemlhhlafcaaGreatDoor
end
section
namespace Go.Proofs.YtellemlhhlafcaaGreatDoor
namespace M
end M
end Go.Proofs.YtellemlhhlafcaaGreatDoor
end
