/-
  Top 23, plain: round zones of plates against box zones; two circles.
  Chapter 12, plain: discs of which any two and any three have a common place have one (Contradiction finds two or three).
  Chapter 12, plain: the witnesses in their order, what is left of them, and the first one that proves.
-/
import Derived.Test.YtlmolhblmlojnaaGreatDoorKRE
import Derived.Test.YtlmolhblmlojnaaGreatDoorKR
section
namespace Go.Proofs.YtlmolhblmlojnaaGreatDoor
open Go
namespace M
def dkP (p : Tg × Cc) : Dk := ⟨((p.1.x - p.2.x : Int) : Rat), ((p.1.y - p.2.y : Int) : Rat), ((wide p.1 p.2 * wide p.1 p.2 : Int) : Rat) / 4⟩
theorem dkP_s (p : Tg × Cc) : (dkP p).s = (wide p.1 p.2 : Rat) / 2 * ((wide p.1 p.2 : Rat) / 2) := by
  unfold dkP
  dsimp only
  rw [Rat.intCast_mul]
  grind
theorem half_nn {z : Int} (h : 0 ≤ z) : 0 ≤ (z : Rat) / 2 := by
  have : (0 : Rat) ≤ (z : Rat) := by
    have := Rat.intCast_le_intCast.2 h
    exact this
  grind
theorem round_box {pl : Pl} (hne : pl ≠ []) (hw : ∀ p ∈ pl, 0 ≤ wide p.1 p.2) (h : (firstD (pl.map dkP)).isSome = true) : shOk pl = true := by
  rw [first_iff (by simpa using hne)] at h
  obtain ⟨x, y, hk⟩ := h
  refine (Sx.shift_of (dx := x) (dy := y) hne fun p hp => ?_).1
  obtain ⟨⟨e1, e2⟩, e3, e4⟩ := pow_box (half_nn (hw p hp)) (dkP_s p) (hk _ (List.mem_map.2 ⟨p, hp, rfl⟩))
  unfold dkP at e1 e2 e3 e4
  dsimp only at e1 e2 e3 e4
  rw [Rat.intCast_sub] at e1 e2 e3 e4
  unfold Sx.FzH
  refine ⟨?_, ?_, ?_, ?_⟩ <;> grind
theorem box_round {pl : Pl} {x y : Rat} (hw : ∀ p ∈ pl, 0 ≤ wide p.1 p.2) (h : Sx.Fz pl x y 0 0) (q : Tg × Cc) (p : Tg × Cc) (hp : p ∈ pl) (hx : q.1.x = p.1.x) (hy : q.1.y = p.1.y) (hc : q.2 = p.2)
    (hq : 3 * wide p.1 p.2 ≤ 2 * wide q.1 q.2) : powD (dkP q) x y ≤ 0 := by
  have h1 := h p hp
  unfold Sx.FzH at h1
  obtain ⟨a1, a2, a3, a4⟩ := h1
  have h2 : 3 * (wide p.1 p.2 : Rat) ≤ 2 * (wide q.1 q.2 : Rat) := by
    have := Rat.intCast_le_intCast.2 hq
    simpa only [Rat.intCast_mul, Rat.intCast_ofNat] using this
  have ex : (dkP q).x = (p.1.x : Rat) - (p.2.x : Rat) := by unfold dkP; dsimp only; rw [hx, hc, Rat.intCast_sub]
  have ey : (dkP q).y = (p.1.y : Rat) - (p.2.y : Rat) := by unfold dkP; dsimp only; rw [hy, hc, Rat.intCast_sub]
  refine box_pow (half_nn (hw p hp)) (by grind) (dkP_s q) ?_ ?_
  · rw [ex]; constructor <;> grind
  · rw [ey]; constructor <;> grind
end M
end Go.Proofs.YtlmolhblmlojnaaGreatDoor
end
section
namespace Go.Proofs.YtlmolhblmlojnaaGreatDoor
open Go
namespace M
theorem apart {l : List Dk} (hl : 2 ≤ l.length) (h : firstD l = none) :
    (∃ i j, i < j ∧ j < l.length ∧ firstD [atD l i, atD l j] = none) ∨ ∃ i j k, i < j ∧ j < k ∧ k < l.length ∧ firstD [atD l i, atD l j, atD l k] = none := by
  have hne : l ≠ [] := by rintro rfl; simp at hl
  obtain ⟨a, ha, b, hb, c, hc, hall⟩ := helly hne h
  obtain ⟨i, hi, rfl⟩ := mem_at ha
  obtain ⟨j, hj, rfl⟩ := mem_at hb
  obtain ⟨k, hk, rfl⟩ := mem_at hc
  have pair : ∀ {p q : Nat}, p < q → q < l.length → (i = p ∨ i = q) → (j = p ∨ j = q) → (k = p ∨ k = q) → ∃ i j, i < j ∧ j < l.length ∧ firstD [atD l i, atD l j] = none := by
    intro p q hpq hq h1 h2 h3
    have key : ∀ {x : Nat}, (x = p ∨ x = q) → atD l x ∈ [atD l p, atD l q] := by
      rintro x (rfl | rfl) <;> simp
    exact ⟨p, q, hpq, hq, hall _ (key h1) (key h2) (key h3)⟩
  have trip : ∀ {p q r : Nat}, p < q → q < r → r < l.length → (i = p ∨ i = q ∨ i = r) → (j = p ∨ j = q ∨ j = r) → (k = p ∨ k = q ∨ k = r) → ∃ i j k, i < j ∧ j < k ∧ k < l.length ∧ firstD [atD l i, atD l j, atD l k] = none := by
    intro p q r hpq hqr hr h1 h2 h3
    have key : ∀ {x : Nat}, (x = p ∨ x = q ∨ x = r) → atD l x ∈ [atD l p, atD l q, atD l r] := by
      rintro x (rfl | rfl | rfl) <;> simp
    exact ⟨p, q, r, hpq, hqr, hr, hall _ (key h1) (key h2) (key h3)⟩
  by_cases e1 : i = j
  · by_cases e2 : j = k
    · by_cases e3 : i = 0
      · exact Or.inl (pair (p := 0) (q := 1) (by omega) (by omega) (by omega) (by omega) (by omega))
      · exact Or.inl (pair (p := 0) (q := i) (by omega) (by omega) (by omega) (by omega) (by omega))
    · rcases Nat.lt_or_gt_of_ne e2 with g | g
      · exact Or.inl (pair g hk (by omega) (by omega) (by omega))
      · exact Or.inl (pair g hj (by omega) (by omega) (by omega))
  · by_cases e2 : j = k
    · rcases Nat.lt_or_gt_of_ne e1 with g | g
      · exact Or.inl (pair g hj (by omega) (by omega) (by omega))
      · exact Or.inl (pair g hi (by omega) (by omega) (by omega))
    · by_cases e3 : i = k
      · rcases Nat.lt_or_gt_of_ne e1 with g | g
        · exact Or.inl (pair g hj (by omega) (by omega) (by omega))
        · exact Or.inl (pair g hi (by omega) (by omega) (by omega))
      · refine Or.inr ?_
        rcases Nat.lt_or_gt_of_ne e1 with g | g <;> rcases Nat.lt_or_gt_of_ne e2 with g2 | g2 <;> rcases Nat.lt_or_gt_of_ne e3 with g3 | g3
        · exact trip g g2 hk (by omega) (by omega) (by omega)
        · omega
        · exact trip g3 g2 hj (by omega) (by omega) (by omega)
        · exact trip g3 g hj (by omega) (by omega) (by omega)
        · exact trip g g3 hk (by omega) (by omega) (by omega)
        · exact trip g2 g3 hi (by omega) (by omega) (by omega)
        · omega
        · exact trip g2 g hi (by omega) (by omega) (by omega)
end M
end Go.Proofs.YtlmolhblmlojnaaGreatDoor
end
section
namespace Go.Proofs.YtlmolhblmlojnaaGreatDoor
open Go
namespace M
def tri (i j : Nat) : List Wn := [⟨i, j, 0⟩, ⟨i, j, 1⟩, ⟨i, j, -1⟩]
def allW (n : Nat) : List Wn := witC n ++ witX n
def cenR (n i : Nat) : List Wn := (List.range' i (n - i)).map fun i => ⟨i, i, 0⟩
def rowR (n i j : Nat) : List Wn := (List.range' j (n - j)).flatMap (tri i)
def allR (n i : Nat) : List Wn := (List.range' i (n - i)).flatMap fun i => rowR n i (i + 1)
theorem range'_cons {i n : Nat} (h : i < n) : List.range' i (n - i) = i :: List.range' (i + 1) (n - (i + 1)) := by
  rw [show n - i = (n - (i + 1)) + 1 by omega, List.range'_succ]
theorem range'_none {i n : Nat} (h : n ≤ i) : List.range' i (n - i) = [] := by
  rw [show n - i = 0 by omega]; rfl
theorem cenR_cons {n i : Nat} (h : i < n) : cenR n i = ⟨i, i, 0⟩ :: cenR n (i + 1) := by
  unfold cenR; rw [range'_cons h]; rfl
theorem cenR_none {n i : Nat} (h : n ≤ i) : cenR n i = [] := by
  unfold cenR; rw [range'_none h]; rfl
theorem rowR_cons {n i j : Nat} (h : j < n) : rowR n i j = tri i j ++ rowR n i (j + 1) := by
  unfold rowR; rw [range'_cons h, List.flatMap_cons]
theorem rowR_none {n i j : Nat} (h : n ≤ j) : rowR n i j = [] := by
  unfold rowR; rw [range'_none h]; rfl
theorem allR_cons {n i : Nat} (h : i < n) : allR n i = rowR n i (i + 1) ++ allR n (i + 1) := by
  unfold allR; rw [range'_cons h, List.flatMap_cons]
theorem allR_none {n i : Nat} (h : n ≤ i) : allR n i = [] := by
  unfold allR; rw [range'_none h]; rfl
theorem allW_eq (n : Nat) : allW n = cenR n 0 ++ allR n 0 := by
  unfold allW witC witX cenR allR
  rw [Nat.sub_zero, ← List.range_eq_range']
  congr 1
  refine congrArg (fun f => List.flatMap f (List.range n)) (funext fun i => ?_)
  unfold rowR
  rw [List.range'_eq_map_range, List.flatMap_map]
  rfl
theorem firstD_all (l : List Dk) : firstD l = (allW l.length).find? (provD l) := rfl
theorem firstD_none {l : List Dk} (h : ∀ x ∈ allW l.length, provD l x = false) : firstD l = none := by
  rw [firstD_all, List.find?_eq_none]
  intro x hx
  rw [h x hx]; decide
theorem firstD_at {l : List Dk} {pre rest : List Wn} {x : Wn} (e : pre ++ [x] ++ rest = allW l.length) (h : ∀ y ∈ pre, provD l y = false) (hx : provD l x = true) : firstD l = some x := by
  rw [firstD_all, ← e, List.append_assoc, List.find?_append, List.find?_eq_none.2 (fun y hy => by rw [h y hy]; decide)]
  simp [hx]
end M
end Go.Proofs.YtlmolhblmlojnaaGreatDoor
end
