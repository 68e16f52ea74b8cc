/-
  Top 23, plain: round zones of plates against box zones; two circles.
  Chapter 12, plain: the witnesses in their order, what is left of them, and the first one that proves.
-/
import Derived.Test.YtellemlhhlafcaaGreatDoorMRE
import Derived.Test.YtellemlhhlafcaaGreatDoorMR
section
namespace Go.Proofs.YtellemlhhlafcaaGreatDoor
open Go
namespace M
def dkP (p : Tg × Cc) : Dk := ⟨((p.1.x - p.2.x : Int) : Rat), ((p.1.y - p.2.y : Int) : Rat), ((wide p.1 p.2 * wide p.1 p.2 : Int) : Rat) / 4⟩
theorem dkP_s (p : Tg × Cc) : (dkP p).s = (wide p.1 p.2 : Rat) / 2 * ((wide p.1 p.2 : Rat) / 2) := by
  unfold dkP
  dsimp only
  rw [Rat.intCast_mul]
  grind
theorem half_nn {z : Int} (h : 0 ≤ z) : 0 ≤ (z : Rat) / 2 := by
  have : (0 : Rat) ≤ (z : Rat) := by
    have := Rat.intCast_le_intCast.2 h
    exact this
  grind
end M
end Go.Proofs.YtellemlhhlafcaaGreatDoor
end
section
namespace Go.Proofs.YtellemlhhlafcaaGreatDoor
open Go
namespace M
def tri (i j : Nat) : List Wn := [⟨i, j, 0⟩, ⟨i, j, 1⟩, ⟨i, j, -1⟩]
def allW (n : Nat) : List Wn := witC n ++ witX n
def cenR (n i : Nat) : List Wn := (List.range' i (n - i)).map fun i => ⟨i, i, 0⟩
def rowR (n i j : Nat) : List Wn := (List.range' j (n - j)).flatMap (tri i)
def allR (n i : Nat) : List Wn := (List.range' i (n - i)).flatMap fun i => rowR n i (i + 1)
theorem range'_cons {i n : Nat} (h : i < n) : List.range' i (n - i) = i :: List.range' (i + 1) (n - (i + 1)) := by
  rw [show n - i = (n - (i + 1)) + 1 by omega, List.range'_succ]
theorem range'_none {i n : Nat} (h : n ≤ i) : List.range' i (n - i) = [] := by
  rw [show n - i = 0 by omega]; rfl
theorem cenR_cons {n i : Nat} (h : i < n) : cenR n i = ⟨i, i, 0⟩ :: cenR n (i + 1) := by
  unfold cenR; rw [range'_cons h]; rfl
theorem cenR_none {n i : Nat} (h : n ≤ i) : cenR n i = [] := by
  unfold cenR; rw [range'_none h]; rfl
theorem rowR_cons {n i j : Nat} (h : j < n) : rowR n i j = tri i j ++ rowR n i (j + 1) := by
  unfold rowR; rw [range'_cons h, List.flatMap_cons]
theorem rowR_none {n i j : Nat} (h : n ≤ j) : rowR n i j = [] := by
  unfold rowR; rw [range'_none h]; rfl
theorem allR_cons {n i : Nat} (h : i < n) : allR n i = rowR n i (i + 1) ++ allR n (i + 1) := by
  unfold allR; rw [range'_cons h, List.flatMap_cons]
theorem allR_none {n i : Nat} (h : n ≤ i) : allR n i = [] := by
  unfold allR; rw [range'_none h]; rfl
theorem allW_eq (n : Nat) : allW n = cenR n 0 ++ allR n 0 := by
  unfold allW witC witX cenR allR
  rw [Nat.sub_zero, ← List.range_eq_range']
  congr 1
  refine congrArg (fun f => List.flatMap f (List.range n)) (funext fun i => ?_)
  unfold rowR
  rw [List.range'_eq_map_range, List.flatMap_map]
  rfl
theorem firstD_all (l : List Dk) : firstD l = (allW l.length).find? (provD l) := rfl
theorem firstD_none {l : List Dk} (h : ∀ x ∈ allW l.length, provD l x = false) : firstD l = none := by
  rw [firstD_all, List.find?_eq_none]
  intro x hx
  rw [h x hx]; decide
theorem firstD_at {l : List Dk} {pre rest : List Wn} {x : Wn} (e : pre ++ [x] ++ rest = allW l.length) (h : ∀ y ∈ pre, provD l y = false) (hx : provD l x = true) : firstD l = some x := by
  rw [firstD_all, ← e, List.append_assoc, List.find?_append, List.find?_eq_none.2 (fun y hy => by rw [h y hy]; decide)]
  simp [hx]
end M
end Go.Proofs.YtellemlhhlafcaaGreatDoor
end
