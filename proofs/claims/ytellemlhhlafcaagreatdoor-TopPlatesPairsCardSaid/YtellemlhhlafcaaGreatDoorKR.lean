/-
  Chapter 35, plain: annuli around points, and their least width.
  Chapter 12, plain: numbers a + b root c, with c not negative: which are not negative; sums and squares of these.
  Chapter 12, plain: the sign of a + b root c; discs, the places that witnesses name, the first witness; two discs with a common place are near.
  Chapter 12, plain: discs, the places that witnesses name, the first witness; discs with a common place are near.
  Chapter 12, plain: two discs have a common place exactly if their centers are not farther than the sum of the radii.
  Chapter 12, plain: the point of an interval, and of a polygon, that is next to a given point, with its multipliers.
  Chapter 12, plain: the place where the greatest power of discs is least; a common place of all discs, and of at most three of them.
  Chapter 12, plain: a common place of three active discs makes the least greatest power not positive; along an edge of the power diagram.
  Chapter 12, plain: from a place on the radical line of two discs along this line to a crossing of their circles that is in all discs.
  Chapter 12, plain: if the least greatest power is not positive, some witness names a place that is in all discs.
  Chapter 12, plain: discs with a common place have a witness; discs without one have three, or fewer, without one.
  Chapter 12, plain: discs have a witness exactly if a rational place is in all of them; what follows for moved, greater and fewer discs, and for boxes.
-/
import Derived.Test.YtellemlhhlafcaaGreatDoorKH
import Derived.Test.YtellemlhhlafcaaGreatDoorKQ
section
namespace Go.Proofs.YtellemlhhlafcaaGreatDoor
open Go
namespace M
end M
namespace Sx
open M
end Sx
end Go.Proofs.YtellemlhhlafcaaGreatDoor
end
section
namespace Go.Proofs.YtellemlhhlafcaaGreatDoor
open Go
namespace M
theorem lt_or_leR (x y : Rat) : x < y ∨ y ≤ x := by
  rcases @Rat.le_total y x with h | h
  · exact Or.inr h
  · by_cases e : y ≤ x
    · exact Or.inr e
    · exact Or.inl (Rat.not_le.1 e)
theorem le_of_sq {x y : Rat} (hy : 0 ≤ y) (h : x * x ≤ y * y) : x ≤ y := by
  rcases @Rat.le_total x y with h1 | h1
  · exact h1
  · have h2 : y * y ≤ x * y := Rat.mul_le_mul_of_nonneg_right h1 hy
    have h3 : x * y ≤ x * x := Rat.mul_le_mul_of_nonneg_left h1 (Rat.le_trans hy h1)
    have h4 : y * y = x * y := Rat.le_antisymm h2 (Rat.le_trans h3 h)
    have h5 : (x - y) * (x - y) = 0 := by
      have h6 : x * y = x * x := Rat.le_antisymm h3 (by rw [← h4]; exact h)
      grind
    rcases Rat.mul_eq_zero.1 h5 with h6 | h6 <;> grind
theorem sq_le {x y : Rat} (hx : 0 ≤ x) (h : x ≤ y) : x * x ≤ y * y :=
  Rat.le_trans (Rat.mul_le_mul_of_nonneg_left h hx) (Rat.mul_le_mul_of_nonneg_right h (Rat.le_trans hx h))
theorem sqz (x : Rat) : 0 ≤ x * x := by
  rcases @Rat.le_total 0 x with h | h
  · exact Rat.mul_nonneg h h
  · have := Rat.mul_nonneg (show 0 ≤ -x by grind) (show 0 ≤ -x by grind)
    grind
theorem cancel_le {x y p : Rat} (hp : 0 < p) (h : x * p ≤ y * p) : x ≤ y := by
  rcases @Rat.le_total x y with h1 | h1
  · exact h1
  · have h2 := Rat.mul_le_mul_of_nonneg_right h1 (Rat.le_of_lt hp)
    have h3 : (x - y) * p = 0 := by
      have : x * p = y * p := Rat.le_antisymm h h2
      grind
    rcases Rat.mul_eq_zero.1 h3 with h4 | h4
    · grind
    · rw [h4] at hp; exact absurd hp (by decide)
theorem mul_le2 {a b x y : Rat} (ha : 0 ≤ a) (hx : 0 ≤ x) (h1 : a ≤ b) (h2 : x ≤ y) : a * x ≤ b * y :=
  Rat.le_trans (Rat.mul_le_mul_of_nonneg_right h1 hx) (Rat.mul_le_mul_of_nonneg_left h2 (Rat.le_trans ha h1))
section
variable {c x y p q : Rat}
theorem cross_up (hc : 0 ≤ c) (hp : 0 ≤ p) (hq : 0 ≤ q) (h1 : x * x ≤ p * p * c) (h2 : y * y ≤ q * q * c) : x * y ≤ p * q * c := by
  refine le_of_sq (Rat.mul_nonneg (Rat.mul_nonneg hp hq) hc) ?_
  have := mul_le2 (sqz x) (sqz y) h1 h2
  grind
theorem cross_dn (hx : 0 ≤ x) (hy : 0 ≤ y) (hc : 0 ≤ c) (h1 : p * p * c ≤ x * x) (h2 : q * q * c ≤ y * y) : p * q * c ≤ x * y := by
  refine le_of_sq (Rat.mul_nonneg hx hy) ?_
  have := mul_le2 (Rat.mul_nonneg (sqz p) hc) (Rat.mul_nonneg (sqz q) hc) h1 h2
  grind
theorem cross_xq (hp : 0 ≤ p) (hy : 0 ≤ y) (h1 : x * x ≤ p * p * c) (h2 : q * q * c ≤ y * y) : x * q ≤ p * y := by
  refine le_of_sq (Rat.mul_nonneg hp hy) ?_
  have e1 := Rat.mul_le_mul_of_nonneg_right h1 (sqz q)
  have e2 := Rat.mul_le_mul_of_nonneg_left h2 (sqz p)
  grind
theorem diff_up (hq : 0 ≤ q) (hqp : q ≤ p) (hy : 0 ≤ y) (hyx : y ≤ x) (h1 : x * x ≤ p * p * c) (h2 : q * q * c ≤ y * y) : (x - y) * (x - y) ≤ (p - q) * (p - q) * c := by
  have hp := Rat.le_trans hq hqp
  have hx := Rat.le_trans hy hyx
  rcases lt_or_leR 0 p with hp0 | hp0
  · have e1 := cross_xq hp hy h1 h2
    have e2 : (x - y) * p ≤ (p - q) * x := by grind
    have e3 := sq_le (Rat.mul_nonneg (show 0 ≤ x - y by grind) hp) e2
    have e4 := Rat.mul_le_mul_of_nonneg_left h1 (sqz (p - q))
    refine cancel_le (Rat.mul_pos hp0 hp0) ?_
    grind
  · have p0 : p = 0 := Rat.le_antisymm hp0 hp
    have q0 : q = 0 := Rat.le_antisymm (by rw [← p0]; exact hqp) hq
    have x0 : x ≤ 0 := le_of_sq (Rat.le_refl) (by rw [p0] at h1; grind)
    have y0 : y = 0 := Rat.le_antisymm (Rat.le_trans hyx x0) hy
    have x1 : x = 0 := Rat.le_antisymm x0 hx
    rw [x1, y0, p0, q0]
    grind
theorem diff_dn (hp : 0 ≤ p) (hpq : p ≤ q) (hx : 0 ≤ x) (hxy : x ≤ y) (h1 : x * x ≤ p * p * c) (h2 : q * q * c ≤ y * y) : (q - p) * (q - p) * c ≤ (y - x) * (y - x) := by
  have hq := Rat.le_trans hp hpq
  have hy := Rat.le_trans hx hxy
  rcases lt_or_leR 0 q with hq0 | hq0
  · have e1 := cross_xq hp hy h1 h2
    have e2 : (q - p) * y ≤ (y - x) * q := by grind
    have e3 := sq_le (Rat.mul_nonneg (show 0 ≤ q - p by grind) hy) e2
    have e4 := Rat.mul_le_mul_of_nonneg_left h2 (sqz (q - p))
    refine cancel_le (Rat.mul_pos hq0 hq0) ?_
    grind
  · have q0 : q = 0 := Rat.le_antisymm hq0 hq
    have p0 : p = 0 := Rat.le_antisymm (by rw [← q0]; exact hpq) hp
    have e := sqz (y - x)
    rw [q0, p0]
    grind
end
def NnR (c a b : Rat) : Prop := (0 ≤ a ∧ 0 ≤ b) ∨ (0 ≤ a ∧ b * b * c ≤ a * a) ∨ (0 ≤ b ∧ a * a ≤ b * b * c)
section
variable {c a b a' b' : Rat}
theorem NnR.neg_a (h : NnR c a b) (ha : a < 0) : 0 ≤ b ∧ a * a ≤ b * b * c := by
  rcases h with ⟨h1, _⟩ | ⟨h1, _⟩ | h
  · exact absurd ha (Rat.not_lt.2 h1)
  · exact absurd ha (Rat.not_lt.2 h1)
  · exact h
theorem NnR.neg_b (h : NnR c a b) (hb : b < 0) : 0 ≤ a ∧ b * b * c ≤ a * a := by
  rcases h with ⟨_, h1⟩ | h | ⟨h1, _⟩
  · exact absurd hb (Rat.not_lt.2 h1)
  · exact h
  · exact absurd hb (Rat.not_lt.2 h1)
theorem NnR.add1 (hc : 0 ≤ c) (h : NnR c a b) (h' : NnR c a' b') (hA : a + a' < 0) (ha : a < 0) : NnR c (a + a') (b + b') := by
  obtain ⟨b0, hab⟩ := h.neg_a ha
  rcases lt_or_leR a' 0 with ha' | ha'
  · obtain ⟨b0', hab'⟩ := h'.neg_a ha'
    refine Or.inr (Or.inr ⟨by grind, ?_⟩)
    have := cross_up hc b0 b0' (x := -a) (y := -a') (by grind) (by grind)
    grind
  · rcases lt_or_leR b' 0 with hb' | hb'
    · obtain ⟨_, hab'⟩ := h'.neg_b hb'
      rcases @Rat.le_total (-b') b with hq | hq
      · refine Or.inr (Or.inr ⟨by grind, ?_⟩)
        have := diff_up (c := c) (show 0 ≤ -b' by grind) hq ha' (show a' ≤ -a by grind) (by grind) (by grind)
        grind
      · have e1 := Rat.mul_le_mul_of_nonneg_right (sq_le b0 hq) hc
        have e2 : (-a) * (-a) ≤ a' * a' := by grind
        have e3 := le_of_sq ha' e2
        grind
    · refine Or.inr (Or.inr ⟨by grind, ?_⟩)
      have e1 := sq_le (show 0 ≤ -(a + a') by grind) (show -(a + a') ≤ -a by grind)
      have e2 := Rat.mul_le_mul_of_nonneg_right (sq_le b0 (show b ≤ b + b' by grind)) hc
      grind
theorem NnR.add2 (hc : 0 ≤ c) (h : NnR c a b) (h' : NnR c a' b') (hA : 0 ≤ a + a') (hB : b + b' < 0) (hb : b < 0) : NnR c (a + a') (b + b') := by
  obtain ⟨a0, hab⟩ := h.neg_b hb
  refine Or.inr (Or.inl ⟨hA, ?_⟩)
  rcases lt_or_leR b' 0 with hb' | hb'
  · obtain ⟨a0', hab'⟩ := h'.neg_b hb'
    have := cross_dn a0 a0' hc (p := -b) (q := -b') (by grind) (by grind)
    grind
  · rcases lt_or_leR a' 0 with ha' | ha'
    · obtain ⟨_, hab'⟩ := h'.neg_a ha'
      have := diff_dn (c := c) hb' (show b' ≤ -b by grind) (show 0 ≤ -a' by grind) (show -a' ≤ a by grind) (by grind) (by grind)
      grind
    · have e1 := Rat.mul_le_mul_of_nonneg_right (sq_le (show 0 ≤ -(b + b') by grind) (show -(b + b') ≤ -b by grind)) hc
      have e2 := sq_le a0 (show a ≤ a + a' by grind)
      grind
theorem NnR.swap (h : NnR c (a' + a) (b' + b)) : NnR c (a + a') (b + b') := by
  rwa [Rat.add_comm a, Rat.add_comm b]
theorem NnR.add (hc : 0 ≤ c) (h : NnR c a b) (h' : NnR c a' b') : NnR c (a + a') (b + b') := by
  rcases lt_or_leR (a + a') 0 with hA | hA
  · rcases lt_or_leR a 0 with ha | ha
    · exact h.add1 hc h' hA ha
    · exact (h'.add1 hc h (by grind) (by grind)).swap
  · rcases lt_or_leR (b + b') 0 with hB | hB
    · rcases lt_or_leR b 0 with hb | hb
      · exact h.add2 hc h' hA hB hb
      · exact (h'.add2 hc h (by grind) (by grind) (by grind)).swap
    · exact Or.inl ⟨hA, hB⟩
theorem NnR.sq (c a b : Rat) (hc : 0 ≤ c) : NnR c (a * a + b * b * c) (2 * a * b) := by
  have h0 : 0 ≤ a * a + b * b * c := by
    have := sqz a
    have := Rat.mul_nonneg (sqz b) hc
    grind
  rcases @Rat.le_total 0 (2 * a * b) with h | h
  · exact Or.inl ⟨h0, h⟩
  · refine Or.inr (Or.inl ⟨h0, ?_⟩)
    have := sqz (a * a - b * b * c)
    grind
theorem NnR.smul (k : Rat) (hk : 0 ≤ k) (h : NnR c a b) : NnR c (k * a) (k * b) := by
  rcases h with ⟨h1, h2⟩ | ⟨h1, h2⟩ | ⟨h1, h2⟩
  · exact Or.inl ⟨Rat.mul_nonneg hk h1, Rat.mul_nonneg hk h2⟩
  · refine Or.inr (Or.inl ⟨Rat.mul_nonneg hk h1, ?_⟩)
    have := Rat.mul_le_mul_of_nonneg_left h2 (sqz k)
    grind
  · refine Or.inr (Or.inr ⟨Rat.mul_nonneg hk h1, ?_⟩)
    have := Rat.mul_le_mul_of_nonneg_left h2 (sqz k)
    grind
theorem NnR.rat (c : Rat) (h : 0 ≤ a) : NnR c a 0 := Or.inl ⟨h, Rat.le_refl⟩
theorem NnR.of_rat (h : NnR c a 0) : 0 ≤ a := by
  rcases h with ⟨h, _⟩ | ⟨h, _⟩ | ⟨_, h⟩
  · exact h
  · exact h
  · have h2 : a * a ≤ 0 * 0 := by grind
    have h3 : a ≤ 0 := le_of_sq Rat.le_refl h2
    have h4 : -a ≤ 0 := le_of_sq Rat.le_refl (by grind)
    grind
end
end M
end Go.Proofs.YtellemlhhlafcaaGreatDoor
end
section
namespace Go.Proofs.YtellemlhhlafcaaGreatDoor
open Go
namespace M
theorem sgQ_cases (a : Rat) : (a < 0 ∧ Int.sign a.num = -1) ∨ (a = 0 ∧ Int.sign a.num = 0) ∨ (0 < a ∧ Int.sign a.num = 1) := by
  rcases lt_or_leR a 0 with h | h
  · refine Or.inl ⟨h, ?_⟩
    have h1 : a.num < 0 := by
      rw [← Int.not_le, Rat.num_nonneg, Rat.not_le]; exact h
    exact Int.sign_eq_neg_one_of_neg h1
  · rcases lt_or_leR 0 a with h2 | h2
    · refine Or.inr (Or.inr ⟨h2, ?_⟩)
      have h1 : 0 < a.num := by
        rw [Rat.lt_iff] at h2; simpa using h2
      exact Int.sign_eq_one_of_pos h1
    · have h3 : a = 0 := Rat.le_antisymm h2 h
      refine Or.inr (Or.inl ⟨h3, ?_⟩)
      rw [h3]; rfl
theorem ordQ_cases (a b : Rat) : (a < b ∧ Int.sign (a.num * (b.den : Int) - b.num * (a.den : Int)) = -1) ∨ (a = b ∧ Int.sign (a.num * (b.den : Int) - b.num * (a.den : Int)) = 0) ∨ (b < a ∧ Int.sign (a.num * (b.den : Int) - b.num * (a.den : Int)) = 1) := by
  rcases lt_or_leR a b with h | h
  · refine Or.inl ⟨h, ?_⟩
    rw [Rat.lt_iff] at h
    exact Int.sign_eq_neg_one_of_neg (by omega)
  · rcases lt_or_leR b a with h2 | h2
    · refine Or.inr (Or.inr ⟨h2, ?_⟩)
      rw [Rat.lt_iff] at h2
      exact Int.sign_eq_one_of_pos (by omega)
    · have h3 : a = b := Rat.le_antisymm h2 h
      refine Or.inr (Or.inl ⟨h3, ?_⟩)
      rw [h3, Int.sub_self]; rfl
def rootR (a b c : Rat) : Int :=
  let s := Int.sign a.num
  let t := Int.sign b.num * Int.sign c.num
  if 0 ≤ s * t then (if s = 0 then t else s)
  else s * Int.sign ((a * a).num * ((b * b * c).den : Int) - (b * b * c).num * ((a * a).den : Int))
section
variable {a b c : Rat}
theorem rootR_le (hc : 0 ≤ c) : rootR a b c ≤ 0 ↔ NnR c (-a) (-b) := by
  unfold rootR
  dsimp only
  rcases sgQ_cases c with ⟨h, _⟩ | ⟨c0, ec⟩ | ⟨c1, ec⟩
  · exact absurd hc (Rat.not_le.2 h)
  · rw [ec, Int.mul_zero, Int.mul_zero, if_pos (Int.le_refl 0)]
    subst c0
    rcases sgQ_cases a with ⟨h, ea⟩ | ⟨h, ea⟩ | ⟨h, ea⟩
    · rw [ea]
      exact ⟨fun _ => Or.inr (Or.inl ⟨by grind, by have := sqz a; grind⟩), fun _ => by decide⟩
    · rw [ea]
      refine ⟨fun _ => ?_, fun _ => by decide⟩
      subst h
      exact Or.inr (Or.inl ⟨by grind, by grind⟩)
    · rw [ea]
      refine ⟨fun h => absurd h (by decide), fun hn => ?_⟩
      exfalso
      obtain ⟨h1, h2⟩ := hn.neg_a (by grind)
      have h3 : a * a ≤ 0 * 0 := by grind
      have h4 := le_of_sq Rat.le_refl h3
      grind
  · rw [ec, Int.mul_one]
    rcases sgQ_cases a with ⟨h, ea⟩ | ⟨h, ea⟩ | ⟨h, ea⟩ <;> rcases sgQ_cases b with ⟨h', eb⟩ | ⟨h', eb⟩ | ⟨h', eb⟩ <;> rw [ea, eb]
    · exact ⟨fun _ => Or.inl ⟨by grind, by grind⟩, fun _ => by rw [if_pos (by decide)]; decide⟩
    · exact ⟨fun _ => Or.inl ⟨by grind, by grind⟩, fun _ => by rw [if_pos (by decide)]; decide⟩
    · rw [if_neg (by decide)]
      rcases ordQ_cases (a * a) (b * b * c) with ⟨ho, eo⟩ | ⟨ho, eo⟩ | ⟨ho, eo⟩ <;> rw [eo]
      · refine ⟨fun h => absurd h (by simp), fun hn => ?_⟩
        exfalso
        obtain ⟨h1, h2⟩ := hn.neg_b (by grind)
        exact absurd ho (Rat.not_lt.2 (by grind))
      · exact ⟨fun _ => Or.inr (Or.inl ⟨by grind, by grind⟩), fun _ => by decide⟩
      · exact ⟨fun _ => Or.inr (Or.inl ⟨by grind, by have := Rat.le_of_lt ho; grind⟩), fun _ => by decide⟩
    · exact ⟨fun _ => Or.inl ⟨by grind, by grind⟩, fun _ => by rw [if_pos (by decide)]; decide⟩
    · exact ⟨fun _ => Or.inl ⟨by grind, by grind⟩, fun _ => by rw [if_pos (by decide)]; decide⟩
    · refine ⟨fun h => absurd h (by simp), fun hn => ?_⟩
      exfalso
      obtain ⟨h1, h2⟩ := hn.neg_b (by grind)
      have h3 : 0 < b * b * c := Rat.mul_pos (Rat.mul_pos h' h') c1
      subst h
      exact absurd h3 (Rat.not_lt.2 (by grind))
    · rw [if_neg (by decide)]
      rcases ordQ_cases (a * a) (b * b * c) with ⟨ho, eo⟩ | ⟨ho, eo⟩ | ⟨ho, eo⟩ <;> rw [eo]
      · exact ⟨fun _ => Or.inr (Or.inr ⟨by grind, by have := Rat.le_of_lt ho; grind⟩), fun _ => by decide⟩
      · exact ⟨fun _ => Or.inr (Or.inr ⟨by grind, by grind⟩), fun _ => by decide⟩
      · refine ⟨fun h => absurd h (by simp), fun hn => ?_⟩
        exfalso
        obtain ⟨h1, h2⟩ := hn.neg_a (by grind)
        exact absurd ho (Rat.not_lt.2 (by grind))
    · refine ⟨fun h => absurd h (by simp), fun hn => ?_⟩
      exfalso
      obtain ⟨h1, h2⟩ := hn.neg_a (by grind)
      have h3 := Rat.mul_pos h h
      subst h'
      exact absurd h3 (Rat.not_lt.2 (by grind))
    · refine ⟨fun h => absurd h (by simp), fun hn => ?_⟩
      exfalso
      obtain ⟨h1, h2⟩ := hn.neg_a (by grind)
      grind
end
end M
end Go.Proofs.YtellemlhhlafcaaGreatDoor
end
section
namespace Go.Proofs.YtellemlhhlafcaaGreatDoor
open Go
namespace M
structure Dk where
  x : Rat
  y : Rat
  s : Rat
structure Sp where
  fx : Rat
  fy : Rat
  ax : Rat
  ay : Rat
  h : Rat
structure Wn where
  i : Nat
  j : Nat
  side : Int
  deriving DecidableEq
def farD (a b : Dk) : Rat := (b.x - a.x) * (b.x - a.x) + (b.y - a.y) * (b.y - a.y)
def partD (a b : Dk) : Rat := (farD a b + a.s - b.s) / (2 * farD a b)
def highD (a b : Dk) : Rat := a.s / farD a b - partD a b * partD a b
def crossD (a b : Dk) (side : Int) : Sp :=
  ⟨a.x + partD a b * (b.x - a.x), a.y + partD a b * (b.y - a.y), if side < 0 then b.y - a.y else 0 - (b.y - a.y), if side < 0 then 0 - (b.x - a.x) else b.x - a.x, highD a b⟩
def atD (l : List Dk) (i : Nat) : Dk := l.getD i ⟨0, 0, 0⟩
def reachD (l : List Dk) (w : Wn) : Option Sp :=
  if w.i = w.j then (if w.side = 0 then some ⟨(atD l w.i).x, (atD l w.i).y, 0, 0, 0⟩ else none)
  else if farD (atD l w.i) (atD l w.j) = 0 then none
  else if 0 ≤ highD (atD l w.i) (atD l w.j) ∧ (highD (atD l w.i) (atD l w.j) = 0 ↔ w.side = 0) then some (crossD (atD l w.i) (atD l w.j) w.side) else none
def keepX (d : Dk) (p : Sp) : Rat := (p.fx - d.x) * (p.fx - d.x) + (p.fy - d.y) * (p.fy - d.y) + p.h * (p.ax * p.ax + p.ay * p.ay) - d.s
def keepY (d : Dk) (p : Sp) : Rat := 2 * ((p.fx - d.x) * p.ax + (p.fy - d.y) * p.ay)
def keepD (p : Sp) (d : Dk) : Bool := decide (rootR (keepX d p) (keepY d p) p.h ≤ 0)
def provD (l : List Dk) (w : Wn) : Bool :=
  match reachD l w with
  | none => false
  | some p => l.all (keepD p)
def witC (n : Nat) : List Wn := (List.range n).map fun i => ⟨i, i, 0⟩
def witX (n : Nat) : List Wn := (List.range n).flatMap fun i => (List.range (n - (i + 1))).flatMap fun k => [⟨i, i + 1 + k, 0⟩, ⟨i, i + 1 + k, 1⟩, ⟨i, i + 1 + k, -1⟩]
def firstD (l : List Dk) : Option Wn := (witC l.length ++ witX l.length).find? (provD l)
theorem NnR.of_rat' {c a b : Rat} (h : NnR c a b) (hb : b = 0) : 0 ≤ a := by
  subst hb; exact h.of_rat
section
variable {h r q A A' B B' k k' : Rat}
theorem pair_pos (hr : 0 < r) (hq : 0 < q) (hh : 0 ≤ h)
    (h1 : NnR h (r * r - (A * A + A' * A' + (k * k + k' * k') * h)) (-(2 * (A * k + A' * k'))))
    (h2 : NnR h (q * q - (B * B + B' * B' + (k * k + k' * k') * h)) (-(2 * (B * k + B' * k')))) :
    (A - B) * (A - B) + (A' - B') * (A' - B') ≤ (r + q) * (r + q) := by
  have hrq : 0 < r + q := by grind
  have n1 := ((h1.smul q (Rat.le_of_lt hq)).add hh (h2.smul r (Rat.le_of_lt hr))).smul (r + q) (Rat.le_of_lt hrq)
  have n2 := (NnR.sq h (q * A + r * B) ((r + q) * k) hh).add hh (NnR.sq h (q * A' + r * B') ((r + q) * k') hh)
  have n3 := n1.add hh n2
  have n4 := n3.of_rat' (by grind)
  refine cancel_le (Rat.mul_pos hr hq) ?_
  grind
theorem le_of_small {F S : Rat} (hS : 0 ≤ S) (hF : ∀ e, 0 < e → F ≤ (S + 2 * e) * (S + 2 * e)) : F ≤ S * S := by
  rcases lt_or_leR (S * S) F with hlt | hle
  · exfalso
    have hd : 0 < F - S * S := by grind
    have hden : 0 < 4 * S + 4 + (F - S * S) := by grind
    have he : (F - S * S) / (4 * S + 4 + (F - S * S)) * (4 * S + 4 + (F - S * S)) = F - S * S := Rat.div_mul_cancel (by grind)
    generalize hE : (F - S * S) / (4 * S + 4 + (F - S * S)) = e at he
    have hpos : 0 < e := by
      rcases lt_or_leR 0 e with h | h
      · exact h
      · have := Rat.mul_le_mul_of_nonneg_right h (Rat.le_of_lt hden)
        grind
    have hlt1 : e < 1 := by
      rcases lt_or_leR e 1 with h | h
      · exact h
      · have := Rat.mul_le_mul_of_nonneg_right h (Rat.le_of_lt hden)
        grind
    have h1 := hF e hpos
    have h2 : e * e ≤ e * 1 := Rat.mul_le_mul_of_nonneg_left (Rat.le_of_lt hlt1) (Rat.le_of_lt hpos)
    have h3 := Rat.mul_pos hpos hd
    grind
  · exact hle
theorem NnR.cast {c a a' b b' : Rat} (h : NnR c a b) (ha : a = a') (hb : b = b') : NnR c a' b' := by
  subst ha hb; exact h
theorem NnR.more {c a a' b : Rat} (hc : 0 ≤ c) (h : NnR c a b) (ha : a ≤ a') : NnR c a' b := by
  have h1 := h.add hc (NnR.rat c (show 0 ≤ a' - a by grind))
  rwa [show a + (a' - a) = a' by grind, show b + 0 = b by grind] at h1
theorem pair_nn (hr : 0 ≤ r) (hq : 0 ≤ q) (hh : 0 ≤ h)
    (h1 : NnR h (r * r - (A * A + A' * A' + (k * k + k' * k') * h)) (-(2 * (A * k + A' * k'))))
    (h2 : NnR h (q * q - (B * B + B' * B' + (k * k + k' * k') * h)) (-(2 * (B * k + B' * k')))) :
    (A - B) * (A - B) + (A' - B') * (A' - B') ≤ (r + q) * (r + q) := by
  refine le_of_small (by grind) fun e he => ?_
  have h3 : r * r ≤ (r + e) * (r + e) := sq_le hr (by grind)
  have h4 : q * q ≤ (q + e) * (q + e) := sq_le hq (by grind)
  have h5 := pair_pos (show 0 < r + e by grind) (show 0 < q + e by grind) hh (h1.more hh (a' := (r + e) * (r + e) - (A * A + A' * A' + (k * k + k' * k') * h)) (by grind)) (h2.more hh (a' := (q + e) * (q + e) - (B * B + B' * B' + (k * k + k' * k') * h)) (by grind))
  rwa [show (r + e) + (q + e) = r + q + 2 * e by grind] at h5
end
theorem keepD_iff {p : Sp} {d : Dk} (hp : 0 ≤ p.h) : keepD p d = true ↔ NnR p.h (-(keepX d p)) (-(keepY d p)) := by
  unfold keepD
  rw [decide_eq_true_iff]
  exact rootR_le hp
theorem reachD_high {l : List Dk} {w : Wn} {p : Sp} (h : reachD l w = some p) : 0 ≤ p.h := by
  unfold reachD at h
  split at h
  · split at h
    · cases h; exact Rat.le_refl
    · cases h
  · split at h
    · cases h
    · split at h
      · rename_i h1
        cases h; exact h1.1
      · cases h
theorem firstD_some {l : List Dk} {w : Wn} (h : firstD l = some w) : ∃ p : Sp, 0 ≤ p.h ∧ ∀ d ∈ l, NnR p.h (-(keepX d p)) (-(keepY d p)) := by
  have h1 := List.find?_some h
  unfold provD at h1
  split at h1
  · cases h1
  · rename_i p hp
    have h2 := reachD_high hp
    exact ⟨p, h2, fun d hd => (keepD_iff h2).1 (List.all_eq_true.1 h1 d hd)⟩
theorem near_two {p : Sp} (hp : 0 ≤ p.h) {d e : Dk} {r q : Rat} (hr : 0 ≤ r) (hq : 0 ≤ q) (hd : d.s = r * r) (he : e.s = q * q)
    (h1 : NnR p.h (-(keepX d p)) (-(keepY d p))) (h2 : NnR p.h (-(keepX e p)) (-(keepY e p))) : farD d e ≤ (r + q) * (r + q) := by
  unfold keepX keepY at h1 h2
  rw [hd] at h1
  rw [he] at h2
  have := pair_nn (A := p.fx - d.x) (A' := p.fy - d.y) (B := p.fx - e.x) (B' := p.fy - e.y) (k := p.ax) (k' := p.ay) hr hq hp (h1.cast (by grind) (by grind)) (h2.cast (by grind) (by grind))
  unfold farD
  grind
end M
end Go.Proofs.YtellemlhhlafcaaGreatDoor
end
section
namespace Go.Proofs.YtellemlhhlafcaaGreatDoor
open Go
namespace M
theorem keepD_of {p : Sp} {d : Dk} (hp : 0 ≤ p.h) (hx : keepX d p ≤ 0) (hy : keepY d p = 0) : keepD p d = true := by
  rw [keepD_iff hp, hy]
  exact Or.inl ⟨by grind, by grind⟩
theorem farD_comm (a b : Dk) : farD a b = farD b a := by unfold farD; grind
section
variable {a b : Dk} {r q : Rat}
theorem centre_keeps {c d : Dk} (h : farD c d ≤ d.s) : keepD ⟨c.x, c.y, 0, 0, 0⟩ d = true := by
  refine keepD_of Rat.le_refl ?_ ?_
  · unfold keepX; unfold farD at h; dsimp only; grind
  · unfold keepY; dsimp only; grind
theorem part_mul (h0 : farD a b ≠ 0) : 2 * partD a b * farD a b = farD a b + a.s - b.s := by
  unfold partD
  have := Rat.div_mul_cancel (a := farD a b + a.s - b.s) (b := 2 * farD a b) (by grind)
  grind
theorem high_mul (h0 : farD a b ≠ 0) : highD a b * farD a b = a.s - partD a b * partD a b * farD a b := by
  unfold highD
  have := Rat.div_mul_cancel (a := a.s) (b := farD a b) h0
  grind
theorem cross_keeps_a (side : Int) (h0 : farD a b ≠ 0) (hh : 0 ≤ highD a b) : keepD (crossD a b side) a = true := by
  have h2 := high_mul h0
  generalize hT : partD a b = t at h2
  generalize hH : highD a b = g at h2 hh
  unfold farD at h2
  refine keepD_of (by unfold crossD; dsimp only; rw [hH]; exact hh) ?_ ?_
  · unfold keepX crossD
    dsimp only
    rw [hT, hH]
    split <;> grind
  · unfold keepY crossD
    dsimp only
    rw [hT]
    split <;> grind
theorem cross_keeps_b (side : Int) (h0 : farD a b ≠ 0) (hh : 0 ≤ highD a b) : keepD (crossD a b side) b = true := by
  have h1 := part_mul h0
  have h2 := high_mul h0
  generalize hT : partD a b = t at h1 h2
  generalize hH : highD a b = g at h2 hh
  unfold farD at h1 h2
  refine keepD_of (by unfold crossD; dsimp only; rw [hH]; exact hh) ?_ ?_
  · unfold keepX crossD
    dsimp only
    rw [hT, hH]
    split <;> grind
  · unfold keepY crossD
    dsimp only
    rw [hT]
    split <;> grind
theorem high_nn (ha : a.s = r * r) (hb : b.s = q * q) (hr : 0 ≤ r) (hq : 0 ≤ q) (h : farD a b ≤ (r + q) * (r + q)) (h1 : a.s < farD a b) (h2 : b.s < farD a b) : 0 ≤ highD a b := by
  have hD : 0 < farD a b := by
    rcases lt_or_leR 0 (farD a b) with h | h
    · exact h
    · exact absurd (Rat.le_trans h (show 0 ≤ a.s by rw [ha]; exact sqz r)) (Rat.not_le.2 h1)
  have e1 := part_mul (a := a) (b := b) (by grind)
  have e2 := high_mul (a := a) (b := b) (by grind)
  generalize partD a b = t at e1 e2
  generalize highD a b = g at e2 ⊢
  generalize farD a b = D at *
  rw [ha] at e1 e2 h1
  rw [hb] at e1 h2
  have h3 : (r - q) * (r - q) ≤ D := by
    rcases @Rat.le_total r q with hrq | hrq
    · have := sq_le (show 0 ≤ q - r by grind) (show q - r ≤ q by grind)
      grind
    · have := sq_le (show 0 ≤ r - q by grind) (show r - q ≤ r by grind)
      grind
  have h4 := Rat.mul_nonneg (show 0 ≤ (r + q) * (r + q) - D by grind) (show 0 ≤ D - (r - q) * (r - q) by grind)
  refine cancel_le (Rat.mul_pos (Rat.mul_pos hD hD) (show (0 : Rat) < 4 by decide)) ?_
  have e3 : g * (D * D * 4) = ((r + q) * (r + q) - D) * (D - (r - q) * (r - q)) := by grind
  rw [e3]
  grind
theorem mem_two (w : Wn) (h : w ∈ witC 2 ++ witX 2) : w ∈ witC [a, b].length ++ witX [a, b].length := h
theorem first_two (ha : a.s = r * r) (hb : b.s = q * q) (hr : 0 ≤ r) (hq : 0 ≤ q) : (firstD [a, b]).isSome = decide (farD a b ≤ (r + q) * (r + q)) := by
  by_cases h : farD a b ≤ (r + q) * (r + q)
  · rw [decide_eq_true h]
    unfold firstD
    rw [List.find?_isSome]
    have ea : 0 ≤ a.s := by rw [ha]; exact sqz r
    have eb : 0 ≤ b.s := by rw [hb]; exact sqz q
    rcases lt_or_leR b.s (farD a b) with h1 | h1
    · rcases lt_or_leR a.s (farD a b) with h2 | h2
      · have hh := high_nn ha hb hr hq h h2 h1
        have h0 : farD a b ≠ 0 := by grind
        refine ⟨⟨0, 1, if highD a b = 0 then 0 else 1⟩, ?_, ?_⟩
        · by_cases h3 : highD a b = 0
          · rw [if_pos h3]; exact mem_two _ (by decide)
          · rw [if_neg h3]; exact mem_two _ (by decide)
        · have hre : reachD [a, b] ⟨0, 1, if highD a b = 0 then 0 else 1⟩ = some (crossD a b (if highD a b = 0 then 0 else 1)) := by
            have hs : highD a b = 0 ↔ (if highD a b = 0 then (0 : Int) else 1) = 0 := by
              by_cases h3 : highD a b = 0
              · rw [if_pos h3]; exact ⟨fun _ => rfl, fun _ => h3⟩
              · rw [if_neg h3]; exact ⟨fun e => absurd e h3, fun e => absurd e (by decide)⟩
            generalize (if highD a b = 0 then (0 : Int) else 1) = sd at hs ⊢
            show (if (0 : Nat) = 1 then _ else if farD a b = 0 then none else if 0 ≤ highD a b ∧ (highD a b = 0 ↔ sd = 0) then some (crossD a b sd) else none) = _
            rw [if_neg (by decide), if_neg h0, if_pos ⟨hh, hs⟩]
          unfold provD
          rw [hre]
          simp only [List.all_cons, List.all_nil, Bool.and_true]
          rw [cross_keeps_a _ h0 hh, cross_keeps_b _ h0 hh]
          rfl
      · refine ⟨⟨1, 1, 0⟩, mem_two _ (by decide), ?_⟩
        show ([a, b].all (keepD ⟨b.x, b.y, 0, 0, 0⟩)) = true
        simp only [List.all_cons, List.all_nil, Bool.and_true]
        rw [centre_keeps (by rw [farD_comm]; exact h2), centre_keeps (by unfold farD; grind)]
        rfl
    · refine ⟨⟨0, 0, 0⟩, mem_two _ (by decide), ?_⟩
      show ([a, b].all (keepD ⟨a.x, a.y, 0, 0, 0⟩)) = true
      simp only [List.all_cons, List.all_nil, Bool.and_true]
      rw [centre_keeps h1, centre_keeps (by unfold farD; grind)]
      rfl
  · rw [decide_eq_false h]
    cases hf : firstD [a, b] with
    | none => rfl
    | some w =>
      exfalso
      obtain ⟨p, hp, hk⟩ := firstD_some hf
      exact h (near_two hp hr hq ha hb (hk a (by simp)) (hk b (by simp)))
end
end M
end Go.Proofs.YtellemlhhlafcaaGreatDoor
end
section
namespace Go.Proofs.YtellemlhhlafcaaGreatDoor
open Go
namespace M
end M
end Go.Proofs.YtellemlhhlafcaaGreatDoor
end
section
namespace Go.Proofs.YtellemlhhlafcaaGreatDoor
open Go
namespace M
def powD (d : Dk) (x y : Rat) : Rat := (x - d.x) * (x - d.x) + (y - d.y) * (y - d.y) - d.s
end M
end Go.Proofs.YtellemlhhlafcaaGreatDoor
end
section
namespace Go.Proofs.YtellemlhhlafcaaGreatDoor
open Go
namespace M
end M
end Go.Proofs.YtellemlhhlafcaaGreatDoor
end
section
namespace Go.Proofs.YtellemlhhlafcaaGreatDoor
open Go
namespace M
end M
end Go.Proofs.YtellemlhhlafcaaGreatDoor
end
section
namespace Go.Proofs.YtellemlhhlafcaaGreatDoor
open Go
namespace M
end M
end Go.Proofs.YtellemlhhlafcaaGreatDoor
end
section
namespace Go.Proofs.YtellemlhhlafcaaGreatDoor
open Go
namespace M
end M
end Go.Proofs.YtellemlhhlafcaaGreatDoor
end
section
namespace Go.Proofs.YtellemlhhlafcaaGreatDoor
open Go
namespace M
end M
end Go.Proofs.YtellemlhhlafcaaGreatDoor
end
