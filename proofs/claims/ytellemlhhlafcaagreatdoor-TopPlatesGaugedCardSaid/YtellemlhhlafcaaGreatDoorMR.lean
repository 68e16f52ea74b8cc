/-
  Chapter 12, plain: numbers a + b root c, with c not negative: which are not negative; sums and squares of these.
  Chapter 12, plain: the sign of a + b root c; discs, the places that witnesses name, the first witness; two discs with a common place are near.
  Chapter 12, plain: discs, the places that witnesses name, the first witness; discs with a common place are near.
  Chapter 12, plain: two discs have a common place exactly if their centers are not farther than the sum of the radii.
  Chapter 12, plain: the point of an interval, and of a polygon, that is next to a given point, with its multipliers.
  Chapter 12, plain: the place where the greatest power of discs is least; a common place of all discs, and of at most three of them.
  Chapter 12, plain: a common place of three active discs makes the least greatest power not positive; along an edge of the power diagram.
  Chapter 12, plain: from a place on the radical line of two discs along this line to a crossing of their circles that is in all discs.
  Chapter 12, plain: if the least greatest power is not positive, some witness names a place that is in all discs.
  Chapter 12, plain: discs with a common place have a witness; discs without one have three, or fewer, without one.
  Chapter 12, plain: discs have a witness exactly if a rational place is in all of them; what follows for moved, greater and fewer discs, and for boxes.
-/
import Derived.Test.YtellemlhhlafcaaGreatDoorMH
import Derived.Test.YtellemlhhlafcaaGreatDoorMJ
section
namespace Go.Proofs.YtellemlhhlafcaaGreatDoor
open Go
namespace M
theorem lt_or_leR (x y : Rat) : x < y ∨ y ≤ x := by
  rcases @Rat.le_total y x with h | h
  · exact Or.inr h
  · by_cases e : y ≤ x
    · exact Or.inr e
    · exact Or.inl (Rat.not_le.1 e)
theorem le_of_sq {x y : Rat} (hy : 0 ≤ y) (h : x * x ≤ y * y) : x ≤ y := by
  rcases @Rat.le_total x y with h1 | h1
  · exact h1
  · have h2 : y * y ≤ x * y := Rat.mul_le_mul_of_nonneg_right h1 hy
    have h3 : x * y ≤ x * x := Rat.mul_le_mul_of_nonneg_left h1 (Rat.le_trans hy h1)
    have h4 : y * y = x * y := Rat.le_antisymm h2 (Rat.le_trans h3 h)
    have h5 : (x - y) * (x - y) = 0 := by
      have h6 : x * y = x * x := Rat.le_antisymm h3 (by rw [← h4]; exact h)
      grind
    rcases Rat.mul_eq_zero.1 h5 with h6 | h6 <;> grind
theorem sq_le {x y : Rat} (hx : 0 ≤ x) (h : x ≤ y) : x * x ≤ y * y :=
  Rat.le_trans (Rat.mul_le_mul_of_nonneg_left h hx) (Rat.mul_le_mul_of_nonneg_right h (Rat.le_trans hx h))
theorem sqz (x : Rat) : 0 ≤ x * x := by
  rcases @Rat.le_total 0 x with h | h
  · exact Rat.mul_nonneg h h
  · have := Rat.mul_nonneg (show 0 ≤ -x by grind) (show 0 ≤ -x by grind)
    grind
theorem cancel_le {x y p : Rat} (hp : 0 < p) (h : x * p ≤ y * p) : x ≤ y := by
  rcases @Rat.le_total x y with h1 | h1
  · exact h1
  · have h2 := Rat.mul_le_mul_of_nonneg_right h1 (Rat.le_of_lt hp)
    have h3 : (x - y) * p = 0 := by
      have : x * p = y * p := Rat.le_antisymm h h2
      grind
    rcases Rat.mul_eq_zero.1 h3 with h4 | h4
    · grind
    · rw [h4] at hp; exact absurd hp (by decide)
theorem mul_le2 {a b x y : Rat} (ha : 0 ≤ a) (hx : 0 ≤ x) (h1 : a ≤ b) (h2 : x ≤ y) : a * x ≤ b * y :=
  Rat.le_trans (Rat.mul_le_mul_of_nonneg_right h1 hx) (Rat.mul_le_mul_of_nonneg_left h2 (Rat.le_trans ha h1))
section
variable {c x y p q : Rat}
theorem cross_up (hc : 0 ≤ c) (hp : 0 ≤ p) (hq : 0 ≤ q) (h1 : x * x ≤ p * p * c) (h2 : y * y ≤ q * q * c) : x * y ≤ p * q * c := by
  refine le_of_sq (Rat.mul_nonneg (Rat.mul_nonneg hp hq) hc) ?_
  have := mul_le2 (sqz x) (sqz y) h1 h2
  grind
theorem cross_dn (hx : 0 ≤ x) (hy : 0 ≤ y) (hc : 0 ≤ c) (h1 : p * p * c ≤ x * x) (h2 : q * q * c ≤ y * y) : p * q * c ≤ x * y := by
  refine le_of_sq (Rat.mul_nonneg hx hy) ?_
  have := mul_le2 (Rat.mul_nonneg (sqz p) hc) (Rat.mul_nonneg (sqz q) hc) h1 h2
  grind
theorem cross_xq (hp : 0 ≤ p) (hy : 0 ≤ y) (h1 : x * x ≤ p * p * c) (h2 : q * q * c ≤ y * y) : x * q ≤ p * y := by
  refine le_of_sq (Rat.mul_nonneg hp hy) ?_
  have e1 := Rat.mul_le_mul_of_nonneg_right h1 (sqz q)
  have e2 := Rat.mul_le_mul_of_nonneg_left h2 (sqz p)
  grind
theorem diff_up (hq : 0 ≤ q) (hqp : q ≤ p) (hy : 0 ≤ y) (hyx : y ≤ x) (h1 : x * x ≤ p * p * c) (h2 : q * q * c ≤ y * y) : (x - y) * (x - y) ≤ (p - q) * (p - q) * c := by
  have hp := Rat.le_trans hq hqp
  have hx := Rat.le_trans hy hyx
  rcases lt_or_leR 0 p with hp0 | hp0
  · have e1 := cross_xq hp hy h1 h2
    have e2 : (x - y) * p ≤ (p - q) * x := by grind
    have e3 := sq_le (Rat.mul_nonneg (show 0 ≤ x - y by grind) hp) e2
    have e4 := Rat.mul_le_mul_of_nonneg_left h1 (sqz (p - q))
    refine cancel_le (Rat.mul_pos hp0 hp0) ?_
    grind
  · have p0 : p = 0 := Rat.le_antisymm hp0 hp
    have q0 : q = 0 := Rat.le_antisymm (by rw [← p0]; exact hqp) hq
    have x0 : x ≤ 0 := le_of_sq (Rat.le_refl) (by rw [p0] at h1; grind)
    have y0 : y = 0 := Rat.le_antisymm (Rat.le_trans hyx x0) hy
    have x1 : x = 0 := Rat.le_antisymm x0 hx
    rw [x1, y0, p0, q0]
    grind
theorem diff_dn (hp : 0 ≤ p) (hpq : p ≤ q) (hx : 0 ≤ x) (hxy : x ≤ y) (h1 : x * x ≤ p * p * c) (h2 : q * q * c ≤ y * y) : (q - p) * (q - p) * c ≤ (y - x) * (y - x) := by
  have hq := Rat.le_trans hp hpq
  have hy := Rat.le_trans hx hxy
  rcases lt_or_leR 0 q with hq0 | hq0
  · have e1 := cross_xq hp hy h1 h2
    have e2 : (q - p) * y ≤ (y - x) * q := by grind
    have e3 := sq_le (Rat.mul_nonneg (show 0 ≤ q - p by grind) hy) e2
    have e4 := Rat.mul_le_mul_of_nonneg_left h2 (sqz (q - p))
    refine cancel_le (Rat.mul_pos hq0 hq0) ?_
    grind
  · have q0 : q = 0 := Rat.le_antisymm hq0 hq
    have p0 : p = 0 := Rat.le_antisymm (by rw [← q0]; exact hpq) hp
    have e := sqz (y - x)
    rw [q0, p0]
    grind
end
def NnR (c a b : Rat) : Prop := (0 ≤ a ∧ 0 ≤ b) ∨ (0 ≤ a ∧ b * b * c ≤ a * a) ∨ (0 ≤ b ∧ a * a ≤ b * b * c)
section
variable {c a b a' b' : Rat}
theorem NnR.neg_a (h : NnR c a b) (ha : a < 0) : 0 ≤ b ∧ a * a ≤ b * b * c := by
  rcases h with ⟨h1, _⟩ | ⟨h1, _⟩ | h
  · exact absurd ha (Rat.not_lt.2 h1)
  · exact absurd ha (Rat.not_lt.2 h1)
  · exact h
theorem NnR.neg_b (h : NnR c a b) (hb : b < 0) : 0 ≤ a ∧ b * b * c ≤ a * a := by
  rcases h with ⟨_, h1⟩ | h | ⟨h1, _⟩
  · exact absurd hb (Rat.not_lt.2 h1)
  · exact h
  · exact absurd hb (Rat.not_lt.2 h1)
theorem NnR.add1 (hc : 0 ≤ c) (h : NnR c a b) (h' : NnR c a' b') (hA : a + a' < 0) (ha : a < 0) : NnR c (a + a') (b + b') := by
  obtain ⟨b0, hab⟩ := h.neg_a ha
  rcases lt_or_leR a' 0 with ha' | ha'
  · obtain ⟨b0', hab'⟩ := h'.neg_a ha'
    refine Or.inr (Or.inr ⟨by grind, ?_⟩)
    have := cross_up hc b0 b0' (x := -a) (y := -a') (by grind) (by grind)
    grind
  · rcases lt_or_leR b' 0 with hb' | hb'
    · obtain ⟨_, hab'⟩ := h'.neg_b hb'
      rcases @Rat.le_total (-b') b with hq | hq
      · refine Or.inr (Or.inr ⟨by grind, ?_⟩)
        have := diff_up (c := c) (show 0 ≤ -b' by grind) hq ha' (show a' ≤ -a by grind) (by grind) (by grind)
        grind
      · have e1 := Rat.mul_le_mul_of_nonneg_right (sq_le b0 hq) hc
        have e2 : (-a) * (-a) ≤ a' * a' := by grind
        have e3 := le_of_sq ha' e2
        grind
    · refine Or.inr (Or.inr ⟨by grind, ?_⟩)
      have e1 := sq_le (show 0 ≤ -(a + a') by grind) (show -(a + a') ≤ -a by grind)
      have e2 := Rat.mul_le_mul_of_nonneg_right (sq_le b0 (show b ≤ b + b' by grind)) hc
      grind
theorem NnR.add2 (hc : 0 ≤ c) (h : NnR c a b) (h' : NnR c a' b') (hA : 0 ≤ a + a') (hB : b + b' < 0) (hb : b < 0) : NnR c (a + a') (b + b') := by
  obtain ⟨a0, hab⟩ := h.neg_b hb
  refine Or.inr (Or.inl ⟨hA, ?_⟩)
  rcases lt_or_leR b' 0 with hb' | hb'
  · obtain ⟨a0', hab'⟩ := h'.neg_b hb'
    have := cross_dn a0 a0' hc (p := -b) (q := -b') (by grind) (by grind)
    grind
  · rcases lt_or_leR a' 0 with ha' | ha'
    · obtain ⟨_, hab'⟩ := h'.neg_a ha'
      have := diff_dn (c := c) hb' (show b' ≤ -b by grind) (show 0 ≤ -a' by grind) (show -a' ≤ a by grind) (by grind) (by grind)
      grind
    · have e1 := Rat.mul_le_mul_of_nonneg_right (sq_le (show 0 ≤ -(b + b') by grind) (show -(b + b') ≤ -b by grind)) hc
      have e2 := sq_le a0 (show a ≤ a + a' by grind)
      grind
theorem NnR.swap (h : NnR c (a' + a) (b' + b)) : NnR c (a + a') (b + b') := by
  rwa [Rat.add_comm a, Rat.add_comm b]
theorem NnR.add (hc : 0 ≤ c) (h : NnR c a b) (h' : NnR c a' b') : NnR c (a + a') (b + b') := by
  rcases lt_or_leR (a + a') 0 with hA | hA
  · rcases lt_or_leR a 0 with ha | ha
    · exact h.add1 hc h' hA ha
    · exact (h'.add1 hc h (by grind) (by grind)).swap
  · rcases lt_or_leR (b + b') 0 with hB | hB
    · rcases lt_or_leR b 0 with hb | hb
      · exact h.add2 hc h' hA hB hb
      · exact (h'.add2 hc h (by grind) (by grind) (by grind)).swap
    · exact Or.inl ⟨hA, hB⟩
theorem NnR.sq (c a b : Rat) (hc : 0 ≤ c) : NnR c (a * a + b * b * c) (2 * a * b) := by
  have h0 : 0 ≤ a * a + b * b * c := by
    have := sqz a
    have := Rat.mul_nonneg (sqz b) hc
    grind
  rcases @Rat.le_total 0 (2 * a * b) with h | h
  · exact Or.inl ⟨h0, h⟩
  · refine Or.inr (Or.inl ⟨h0, ?_⟩)
    have := sqz (a * a - b * b * c)
    grind
theorem NnR.smul (k : Rat) (hk : 0 ≤ k) (h : NnR c a b) : NnR c (k * a) (k * b) := by
  rcases h with ⟨h1, h2⟩ | ⟨h1, h2⟩ | ⟨h1, h2⟩
  · exact Or.inl ⟨Rat.mul_nonneg hk h1, Rat.mul_nonneg hk h2⟩
  · refine Or.inr (Or.inl ⟨Rat.mul_nonneg hk h1, ?_⟩)
    have := Rat.mul_le_mul_of_nonneg_left h2 (sqz k)
    grind
  · refine Or.inr (Or.inr ⟨Rat.mul_nonneg hk h1, ?_⟩)
    have := Rat.mul_le_mul_of_nonneg_left h2 (sqz k)
    grind
theorem NnR.rat (c : Rat) (h : 0 ≤ a) : NnR c a 0 := Or.inl ⟨h, Rat.le_refl⟩
theorem NnR.of_rat (h : NnR c a 0) : 0 ≤ a := by
  rcases h with ⟨h, _⟩ | ⟨h, _⟩ | ⟨_, h⟩
  · exact h
  · exact h
  · have h2 : a * a ≤ 0 * 0 := by grind
    have h3 : a ≤ 0 := le_of_sq Rat.le_refl h2
    have h4 : -a ≤ 0 := le_of_sq Rat.le_refl (by grind)
    grind
end
end M
end Go.Proofs.YtellemlhhlafcaaGreatDoor
end
section
namespace Go.Proofs.YtellemlhhlafcaaGreatDoor
open Go
namespace M
theorem sgQ_cases (a : Rat) : (a < 0 ∧ Int.sign a.num = -1) ∨ (a = 0 ∧ Int.sign a.num = 0) ∨ (0 < a ∧ Int.sign a.num = 1) := by
  rcases lt_or_leR a 0 with h | h
  · refine Or.inl ⟨h, ?_⟩
    have h1 : a.num < 0 := by
      rw [← Int.not_le, Rat.num_nonneg, Rat.not_le]; exact h
    exact Int.sign_eq_neg_one_of_neg h1
  · rcases lt_or_leR 0 a with h2 | h2
    · refine Or.inr (Or.inr ⟨h2, ?_⟩)
      have h1 : 0 < a.num := by
        rw [Rat.lt_iff] at h2; simpa using h2
      exact Int.sign_eq_one_of_pos h1
    · have h3 : a = 0 := Rat.le_antisymm h2 h
      refine Or.inr (Or.inl ⟨h3, ?_⟩)
      rw [h3]; rfl
theorem ordQ_cases (a b : Rat) : (a < b ∧ Int.sign (a.num * (b.den : Int) - b.num * (a.den : Int)) = -1) ∨ (a = b ∧ Int.sign (a.num * (b.den : Int) - b.num * (a.den : Int)) = 0) ∨ (b < a ∧ Int.sign (a.num * (b.den : Int) - b.num * (a.den : Int)) = 1) := by
  rcases lt_or_leR a b with h | h
  · refine Or.inl ⟨h, ?_⟩
    rw [Rat.lt_iff] at h
    exact Int.sign_eq_neg_one_of_neg (by omega)
  · rcases lt_or_leR b a with h2 | h2
    · refine Or.inr (Or.inr ⟨h2, ?_⟩)
      rw [Rat.lt_iff] at h2
      exact Int.sign_eq_one_of_pos (by omega)
    · have h3 : a = b := Rat.le_antisymm h2 h
      refine Or.inr (Or.inl ⟨h3, ?_⟩)
      rw [h3, Int.sub_self]; rfl
def rootR (a b c : Rat) : Int :=
  let s := Int.sign a.num
  let t := Int.sign b.num * Int.sign c.num
  if 0 ≤ s * t then (if s = 0 then t else s)
  else s * Int.sign ((a * a).num * ((b * b * c).den : Int) - (b * b * c).num * ((a * a).den : Int))
section
variable {a b c : Rat}
theorem rootR_le (hc : 0 ≤ c) : rootR a b c ≤ 0 ↔ NnR c (-a) (-b) := by
  unfold rootR
  dsimp only
  rcases sgQ_cases c with ⟨h, _⟩ | ⟨c0, ec⟩ | ⟨c1, ec⟩
  · exact absurd hc (Rat.not_le.2 h)
  · rw [ec, Int.mul_zero, Int.mul_zero, if_pos (Int.le_refl 0)]
    subst c0
    rcases sgQ_cases a with ⟨h, ea⟩ | ⟨h, ea⟩ | ⟨h, ea⟩
    · rw [ea]
      exact ⟨fun _ => Or.inr (Or.inl ⟨by grind, by have := sqz a; grind⟩), fun _ => by decide⟩
    · rw [ea]
      refine ⟨fun _ => ?_, fun _ => by decide⟩
      subst h
      exact Or.inr (Or.inl ⟨by grind, by grind⟩)
    · rw [ea]
      refine ⟨fun h => absurd h (by decide), fun hn => ?_⟩
      exfalso
      obtain ⟨h1, h2⟩ := hn.neg_a (by grind)
      have h3 : a * a ≤ 0 * 0 := by grind
      have h4 := le_of_sq Rat.le_refl h3
      grind
  · rw [ec, Int.mul_one]
    rcases sgQ_cases a with ⟨h, ea⟩ | ⟨h, ea⟩ | ⟨h, ea⟩ <;> rcases sgQ_cases b with ⟨h', eb⟩ | ⟨h', eb⟩ | ⟨h', eb⟩ <;> rw [ea, eb]
    · exact ⟨fun _ => Or.inl ⟨by grind, by grind⟩, fun _ => by rw [if_pos (by decide)]; decide⟩
    · exact ⟨fun _ => Or.inl ⟨by grind, by grind⟩, fun _ => by rw [if_pos (by decide)]; decide⟩
    · rw [if_neg (by decide)]
      rcases ordQ_cases (a * a) (b * b * c) with ⟨ho, eo⟩ | ⟨ho, eo⟩ | ⟨ho, eo⟩ <;> rw [eo]
      · refine ⟨fun h => absurd h (by simp), fun hn => ?_⟩
        exfalso
        obtain ⟨h1, h2⟩ := hn.neg_b (by grind)
        exact absurd ho (Rat.not_lt.2 (by grind))
      · exact ⟨fun _ => Or.inr (Or.inl ⟨by grind, by grind⟩), fun _ => by decide⟩
      · exact ⟨fun _ => Or.inr (Or.inl ⟨by grind, by have := Rat.le_of_lt ho; grind⟩), fun _ => by decide⟩
    · exact ⟨fun _ => Or.inl ⟨by grind, by grind⟩, fun _ => by rw [if_pos (by decide)]; decide⟩
    · exact ⟨fun _ => Or.inl ⟨by grind, by grind⟩, fun _ => by rw [if_pos (by decide)]; decide⟩
    · refine ⟨fun h => absurd h (by simp), fun hn => ?_⟩
      exfalso
      obtain ⟨h1, h2⟩ := hn.neg_b (by grind)
      have h3 : 0 < b * b * c := Rat.mul_pos (Rat.mul_pos h' h') c1
      subst h
      exact absurd h3 (Rat.not_lt.2 (by grind))
    · rw [if_neg (by decide)]
      rcases ordQ_cases (a * a) (b * b * c) with ⟨ho, eo⟩ | ⟨ho, eo⟩ | ⟨ho, eo⟩ <;> rw [eo]
      · exact ⟨fun _ => Or.inr (Or.inr ⟨by grind, by have := Rat.le_of_lt ho; grind⟩), fun _ => by decide⟩
      · exact ⟨fun _ => Or.inr (Or.inr ⟨by grind, by grind⟩), fun _ => by decide⟩
      · refine ⟨fun h => absurd h (by simp), fun hn => ?_⟩
        exfalso
        obtain ⟨h1, h2⟩ := hn.neg_a (by grind)
        exact absurd ho (Rat.not_lt.2 (by grind))
    · refine ⟨fun h => absurd h (by simp), fun hn => ?_⟩
      exfalso
      obtain ⟨h1, h2⟩ := hn.neg_a (by grind)
      have h3 := Rat.mul_pos h h
      subst h'
      exact absurd h3 (Rat.not_lt.2 (by grind))
    · refine ⟨fun h => absurd h (by simp), fun hn => ?_⟩
      exfalso
      obtain ⟨h1, h2⟩ := hn.neg_a (by grind)
      grind
end
end M
end Go.Proofs.YtellemlhhlafcaaGreatDoor
end
section
namespace Go.Proofs.YtellemlhhlafcaaGreatDoor
open Go
namespace M
structure Dk where
  x : Rat
  y : Rat
  s : Rat
structure Sp where
  fx : Rat
  fy : Rat
  ax : Rat
  ay : Rat
  h : Rat
structure Wn where
  i : Nat
  j : Nat
  side : Int
  deriving DecidableEq
def farD (a b : Dk) : Rat := (b.x - a.x) * (b.x - a.x) + (b.y - a.y) * (b.y - a.y)
def partD (a b : Dk) : Rat := (farD a b + a.s - b.s) / (2 * farD a b)
def highD (a b : Dk) : Rat := a.s / farD a b - partD a b * partD a b
def crossD (a b : Dk) (side : Int) : Sp :=
  ⟨a.x + partD a b * (b.x - a.x), a.y + partD a b * (b.y - a.y), if side < 0 then b.y - a.y else 0 - (b.y - a.y), if side < 0 then 0 - (b.x - a.x) else b.x - a.x, highD a b⟩
def atD (l : List Dk) (i : Nat) : Dk := l.getD i ⟨0, 0, 0⟩
def reachD (l : List Dk) (w : Wn) : Option Sp :=
  if w.i = w.j then (if w.side = 0 then some ⟨(atD l w.i).x, (atD l w.i).y, 0, 0, 0⟩ else none)
  else if farD (atD l w.i) (atD l w.j) = 0 then none
  else if 0 ≤ highD (atD l w.i) (atD l w.j) ∧ (highD (atD l w.i) (atD l w.j) = 0 ↔ w.side = 0) then some (crossD (atD l w.i) (atD l w.j) w.side) else none
def keepX (d : Dk) (p : Sp) : Rat := (p.fx - d.x) * (p.fx - d.x) + (p.fy - d.y) * (p.fy - d.y) + p.h * (p.ax * p.ax + p.ay * p.ay) - d.s
def keepY (d : Dk) (p : Sp) : Rat := 2 * ((p.fx - d.x) * p.ax + (p.fy - d.y) * p.ay)
def keepD (p : Sp) (d : Dk) : Bool := decide (rootR (keepX d p) (keepY d p) p.h ≤ 0)
def provD (l : List Dk) (w : Wn) : Bool :=
  match reachD l w with
  | none => false
  | some p => l.all (keepD p)
def witC (n : Nat) : List Wn := (List.range n).map fun i => ⟨i, i, 0⟩
def witX (n : Nat) : List Wn := (List.range n).flatMap fun i => (List.range (n - (i + 1))).flatMap fun k => [⟨i, i + 1 + k, 0⟩, ⟨i, i + 1 + k, 1⟩, ⟨i, i + 1 + k, -1⟩]
def firstD (l : List Dk) : Option Wn := (witC l.length ++ witX l.length).find? (provD l)
theorem NnR.of_rat' {c a b : Rat} (h : NnR c a b) (hb : b = 0) : 0 ≤ a := by
  subst hb; exact h.of_rat
section
variable {h r q A A' B B' k k' : Rat}
theorem pair_pos (hr : 0 < r) (hq : 0 < q) (hh : 0 ≤ h)
    (h1 : NnR h (r * r - (A * A + A' * A' + (k * k + k' * k') * h)) (-(2 * (A * k + A' * k'))))
    (h2 : NnR h (q * q - (B * B + B' * B' + (k * k + k' * k') * h)) (-(2 * (B * k + B' * k')))) :
    (A - B) * (A - B) + (A' - B') * (A' - B') ≤ (r + q) * (r + q) := by
  have hrq : 0 < r + q := by grind
  have n1 := ((h1.smul q (Rat.le_of_lt hq)).add hh (h2.smul r (Rat.le_of_lt hr))).smul (r + q) (Rat.le_of_lt hrq)
  have n2 := (NnR.sq h (q * A + r * B) ((r + q) * k) hh).add hh (NnR.sq h (q * A' + r * B') ((r + q) * k') hh)
  have n3 := n1.add hh n2
  have n4 := n3.of_rat' (by grind)
  refine cancel_le (Rat.mul_pos hr hq) ?_
  grind
theorem le_of_small {F S : Rat} (hS : 0 ≤ S) (hF : ∀ e, 0 < e → F ≤ (S + 2 * e) * (S + 2 * e)) : F ≤ S * S := by
  rcases lt_or_leR (S * S) F with hlt | hle
  · exfalso
    have hd : 0 < F - S * S := by grind
    have hden : 0 < 4 * S + 4 + (F - S * S) := by grind
    have he : (F - S * S) / (4 * S + 4 + (F - S * S)) * (4 * S + 4 + (F - S * S)) = F - S * S := Rat.div_mul_cancel (by grind)
    generalize hE : (F - S * S) / (4 * S + 4 + (F - S * S)) = e at he
    have hpos : 0 < e := by
      rcases lt_or_leR 0 e with h | h
      · exact h
      · have := Rat.mul_le_mul_of_nonneg_right h (Rat.le_of_lt hden)
        grind
    have hlt1 : e < 1 := by
      rcases lt_or_leR e 1 with h | h
      · exact h
      · have := Rat.mul_le_mul_of_nonneg_right h (Rat.le_of_lt hden)
        grind
    have h1 := hF e hpos
    have h2 : e * e ≤ e * 1 := Rat.mul_le_mul_of_nonneg_left (Rat.le_of_lt hlt1) (Rat.le_of_lt hpos)
    have h3 := Rat.mul_pos hpos hd
    grind
  · exact hle
theorem NnR.cast {c a a' b b' : Rat} (h : NnR c a b) (ha : a = a') (hb : b = b') : NnR c a' b' := by
  subst ha hb; exact h
theorem NnR.more {c a a' b : Rat} (hc : 0 ≤ c) (h : NnR c a b) (ha : a ≤ a') : NnR c a' b := by
  have h1 := h.add hc (NnR.rat c (show 0 ≤ a' - a by grind))
  rwa [show a + (a' - a) = a' by grind, show b + 0 = b by grind] at h1
theorem pair_nn (hr : 0 ≤ r) (hq : 0 ≤ q) (hh : 0 ≤ h)
    (h1 : NnR h (r * r - (A * A + A' * A' + (k * k + k' * k') * h)) (-(2 * (A * k + A' * k'))))
    (h2 : NnR h (q * q - (B * B + B' * B' + (k * k + k' * k') * h)) (-(2 * (B * k + B' * k')))) :
    (A - B) * (A - B) + (A' - B') * (A' - B') ≤ (r + q) * (r + q) := by
  refine le_of_small (by grind) fun e he => ?_
  have h3 : r * r ≤ (r + e) * (r + e) := sq_le hr (by grind)
  have h4 : q * q ≤ (q + e) * (q + e) := sq_le hq (by grind)
  have h5 := pair_pos (show 0 < r + e by grind) (show 0 < q + e by grind) hh (h1.more hh (a' := (r + e) * (r + e) - (A * A + A' * A' + (k * k + k' * k') * h)) (by grind)) (h2.more hh (a' := (q + e) * (q + e) - (B * B + B' * B' + (k * k + k' * k') * h)) (by grind))
  rwa [show (r + e) + (q + e) = r + q + 2 * e by grind] at h5
end
theorem keepD_iff {p : Sp} {d : Dk} (hp : 0 ≤ p.h) : keepD p d = true ↔ NnR p.h (-(keepX d p)) (-(keepY d p)) := by
  unfold keepD
  rw [decide_eq_true_iff]
  exact rootR_le hp
theorem reachD_high {l : List Dk} {w : Wn} {p : Sp} (h : reachD l w = some p) : 0 ≤ p.h := by
  unfold reachD at h
  split at h
  · split at h
    · cases h; exact Rat.le_refl
    · cases h
  · split at h
    · cases h
    · split at h
      · rename_i h1
        cases h; exact h1.1
      · cases h
theorem firstD_some {l : List Dk} {w : Wn} (h : firstD l = some w) : ∃ p : Sp, 0 ≤ p.h ∧ ∀ d ∈ l, NnR p.h (-(keepX d p)) (-(keepY d p)) := by
  have h1 := List.find?_some h
  unfold provD at h1
  split at h1
  · cases h1
  · rename_i p hp
    have h2 := reachD_high hp
    exact ⟨p, h2, fun d hd => (keepD_iff h2).1 (List.all_eq_true.1 h1 d hd)⟩
theorem near_two {p : Sp} (hp : 0 ≤ p.h) {d e : Dk} {r q : Rat} (hr : 0 ≤ r) (hq : 0 ≤ q) (hd : d.s = r * r) (he : e.s = q * q)
    (h1 : NnR p.h (-(keepX d p)) (-(keepY d p))) (h2 : NnR p.h (-(keepX e p)) (-(keepY e p))) : farD d e ≤ (r + q) * (r + q) := by
  unfold keepX keepY at h1 h2
  rw [hd] at h1
  rw [he] at h2
  have := pair_nn (A := p.fx - d.x) (A' := p.fy - d.y) (B := p.fx - e.x) (B' := p.fy - e.y) (k := p.ax) (k' := p.ay) hr hq hp (h1.cast (by grind) (by grind)) (h2.cast (by grind) (by grind))
  unfold farD
  grind
theorem abs_of_sq {x y : Rat} (hy : 0 ≤ y) (h : x * x ≤ y * y) : x ≤ y ∧ -x ≤ y := ⟨le_of_sq hy h, le_of_sq hy (by grind)⟩
end M
end Go.Proofs.YtellemlhhlafcaaGreatDoor
end
section
namespace Go.Proofs.YtellemlhhlafcaaGreatDoor
open Go
namespace M
theorem keepD_of {p : Sp} {d : Dk} (hp : 0 ≤ p.h) (hx : keepX d p ≤ 0) (hy : keepY d p = 0) : keepD p d = true := by
  rw [keepD_iff hp, hy]
  exact Or.inl ⟨by grind, by grind⟩
theorem farD_comm (a b : Dk) : farD a b = farD b a := by unfold farD; grind
theorem farD_nn (a b : Dk) : 0 ≤ farD a b := by
  unfold farD
  have := sqz (b.x - a.x)
  have := sqz (b.y - a.y)
  grind
section
variable {a b : Dk} {r q : Rat}
theorem centre_keeps {c d : Dk} (h : farD c d ≤ d.s) : keepD ⟨c.x, c.y, 0, 0, 0⟩ d = true := by
  refine keepD_of Rat.le_refl ?_ ?_
  · unfold keepX; unfold farD at h; dsimp only; grind
  · unfold keepY; dsimp only; grind
theorem part_mul (h0 : farD a b ≠ 0) : 2 * partD a b * farD a b = farD a b + a.s - b.s := by
  unfold partD
  have := Rat.div_mul_cancel (a := farD a b + a.s - b.s) (b := 2 * farD a b) (by grind)
  grind
theorem high_mul (h0 : farD a b ≠ 0) : highD a b * farD a b = a.s - partD a b * partD a b * farD a b := by
  unfold highD
  have := Rat.div_mul_cancel (a := a.s) (b := farD a b) h0
  grind
theorem cross_keeps_a (side : Int) (h0 : farD a b ≠ 0) (hh : 0 ≤ highD a b) : keepD (crossD a b side) a = true := by
  have h2 := high_mul h0
  generalize hT : partD a b = t at h2
  generalize hH : highD a b = g at h2 hh
  unfold farD at h2
  refine keepD_of (by unfold crossD; dsimp only; rw [hH]; exact hh) ?_ ?_
  · unfold keepX crossD
    dsimp only
    rw [hT, hH]
    split <;> grind
  · unfold keepY crossD
    dsimp only
    rw [hT]
    split <;> grind
theorem cross_keeps_b (side : Int) (h0 : farD a b ≠ 0) (hh : 0 ≤ highD a b) : keepD (crossD a b side) b = true := by
  have h1 := part_mul h0
  have h2 := high_mul h0
  generalize hT : partD a b = t at h1 h2
  generalize hH : highD a b = g at h2 hh
  unfold farD at h1 h2
  refine keepD_of (by unfold crossD; dsimp only; rw [hH]; exact hh) ?_ ?_
  · unfold keepX crossD
    dsimp only
    rw [hT, hH]
    split <;> grind
  · unfold keepY crossD
    dsimp only
    rw [hT]
    split <;> grind
theorem high_nn (ha : a.s = r * r) (hb : b.s = q * q) (hr : 0 ≤ r) (hq : 0 ≤ q) (h : farD a b ≤ (r + q) * (r + q)) (h1 : a.s < farD a b) (h2 : b.s < farD a b) : 0 ≤ highD a b := by
  have hD : 0 < farD a b := by
    rcases lt_or_leR 0 (farD a b) with h | h
    · exact h
    · exact absurd (Rat.le_trans h (show 0 ≤ a.s by rw [ha]; exact sqz r)) (Rat.not_le.2 h1)
  have e1 := part_mul (a := a) (b := b) (by grind)
  have e2 := high_mul (a := a) (b := b) (by grind)
  generalize partD a b = t at e1 e2
  generalize highD a b = g at e2 ⊢
  generalize farD a b = D at *
  rw [ha] at e1 e2 h1
  rw [hb] at e1 h2
  have h3 : (r - q) * (r - q) ≤ D := by
    rcases @Rat.le_total r q with hrq | hrq
    · have := sq_le (show 0 ≤ q - r by grind) (show q - r ≤ q by grind)
      grind
    · have := sq_le (show 0 ≤ r - q by grind) (show r - q ≤ r by grind)
      grind
  have h4 := Rat.mul_nonneg (show 0 ≤ (r + q) * (r + q) - D by grind) (show 0 ≤ D - (r - q) * (r - q) by grind)
  refine cancel_le (Rat.mul_pos (Rat.mul_pos hD hD) (show (0 : Rat) < 4 by decide)) ?_
  have e3 : g * (D * D * 4) = ((r + q) * (r + q) - D) * (D - (r - q) * (r - q)) := by grind
  rw [e3]
  grind
theorem mem_two (w : Wn) (h : w ∈ witC 2 ++ witX 2) : w ∈ witC [a, b].length ++ witX [a, b].length := h
theorem first_two (ha : a.s = r * r) (hb : b.s = q * q) (hr : 0 ≤ r) (hq : 0 ≤ q) : (firstD [a, b]).isSome = decide (farD a b ≤ (r + q) * (r + q)) := by
  by_cases h : farD a b ≤ (r + q) * (r + q)
  · rw [decide_eq_true h]
    unfold firstD
    rw [List.find?_isSome]
    have ea : 0 ≤ a.s := by rw [ha]; exact sqz r
    have eb : 0 ≤ b.s := by rw [hb]; exact sqz q
    rcases lt_or_leR b.s (farD a b) with h1 | h1
    · rcases lt_or_leR a.s (farD a b) with h2 | h2
      · have hh := high_nn ha hb hr hq h h2 h1
        have h0 : farD a b ≠ 0 := by grind
        refine ⟨⟨0, 1, if highD a b = 0 then 0 else 1⟩, ?_, ?_⟩
        · by_cases h3 : highD a b = 0
          · rw [if_pos h3]; exact mem_two _ (by decide)
          · rw [if_neg h3]; exact mem_two _ (by decide)
        · have hre : reachD [a, b] ⟨0, 1, if highD a b = 0 then 0 else 1⟩ = some (crossD a b (if highD a b = 0 then 0 else 1)) := by
            have hs : highD a b = 0 ↔ (if highD a b = 0 then (0 : Int) else 1) = 0 := by
              by_cases h3 : highD a b = 0
              · rw [if_pos h3]; exact ⟨fun _ => rfl, fun _ => h3⟩
              · rw [if_neg h3]; exact ⟨fun e => absurd e h3, fun e => absurd e (by decide)⟩
            generalize (if highD a b = 0 then (0 : Int) else 1) = sd at hs ⊢
            show (if (0 : Nat) = 1 then _ else if farD a b = 0 then none else if 0 ≤ highD a b ∧ (highD a b = 0 ↔ sd = 0) then some (crossD a b sd) else none) = _
            rw [if_neg (by decide), if_neg h0, if_pos ⟨hh, hs⟩]
          unfold provD
          rw [hre]
          simp only [List.all_cons, List.all_nil, Bool.and_true]
          rw [cross_keeps_a _ h0 hh, cross_keeps_b _ h0 hh]
          rfl
      · refine ⟨⟨1, 1, 0⟩, mem_two _ (by decide), ?_⟩
        show ([a, b].all (keepD ⟨b.x, b.y, 0, 0, 0⟩)) = true
        simp only [List.all_cons, List.all_nil, Bool.and_true]
        rw [centre_keeps (by rw [farD_comm]; exact h2), centre_keeps (by unfold farD; grind)]
        rfl
    · refine ⟨⟨0, 0, 0⟩, mem_two _ (by decide), ?_⟩
      show ([a, b].all (keepD ⟨a.x, a.y, 0, 0, 0⟩)) = true
      simp only [List.all_cons, List.all_nil, Bool.and_true]
      rw [centre_keeps h1, centre_keeps (by unfold farD; grind)]
      rfl
  · rw [decide_eq_false h]
    cases hf : firstD [a, b] with
    | none => rfl
    | some w =>
      exfalso
      obtain ⟨p, hp, hk⟩ := firstD_some hf
      exact h (near_two hp hr hq ha hb (hk a (by simp)) (hk b (by simp)))
end
end M
end Go.Proofs.YtellemlhhlafcaaGreatDoor
end
section
namespace Go.Proofs.YtellemlhhlafcaaGreatDoor
open Go
namespace M
theorem mul_sgn {x y : Rat} (hx : 0 < x) (h : 0 ≤ y * x) : 0 ≤ y := by
  refine cancel_le hx ?_
  grind
theorem inv_exists {x : Rat} (h : x ≠ 0) : ∃ y, y * x = 1 := ⟨x⁻¹, Rat.inv_mul_cancel x h⟩
theorem inv_pos {x i : Rat} (hx : 0 < x) (hi : i * x = 1) : 0 < i := by
  rcases lt_or_leR 0 i with h | h
  · exact h
  · have := Rat.mul_le_mul_of_nonneg_right h (Rat.le_of_lt hx)
    grind
theorem between_alg {p q x b : Rat} (h1 : p ≤ b) (h2 : q ≤ b) (hx0 : 0 ≤ x) (hx1 : x ≤ 1) : p + x * (q - p) ≤ b := by
  have e1 := Rat.mul_le_mul_of_nonneg_left h1 (show 0 ≤ 1 - x by grind)
  have e2 := Rat.mul_le_mul_of_nonneg_left h2 hx0
  grind
theorem cut_alg {p q b : Rat} (h1 : p ≤ b) (h2 : b < q) : ∃ x, 0 ≤ x ∧ x ≤ 1 ∧ p + x * (q - p) = b := by
  have hd : 0 < q - p := by grind
  obtain ⟨i, hi⟩ := inv_exists (show q - p ≠ 0 by grind)
  have hi0 := inv_pos hd hi
  refine ⟨(b - p) * i, Rat.mul_nonneg (by grind) (Rat.le_of_lt hi0), ?_, by grind⟩
  have := Rat.mul_le_mul_of_nonneg_right (show b - p ≤ q - p by grind) (Rat.le_of_lt hi0)
  grind
def In1 (L : List (Rat × Rat)) (t : Rat) : Prop := ∀ a b, (a, b) ∈ L → a * t ≤ b
theorem In1.cons {a b : Rat} {L : List (Rat × Rat)} {t : Rat} : In1 ((a, b) :: L) t ↔ a * t ≤ b ∧ In1 L t := by
  unfold In1
  constructor
  · intro h
    exact ⟨h a b List.mem_cons_self, fun x y hx => h x y (List.mem_cons_of_mem _ hx)⟩
  · rintro ⟨h1, h2⟩ x y hx
    rcases List.mem_cons.1 hx with h | h
    · cases h; exact h1
    · exact h2 x y h
theorem In1.between {L : List (Rat × Rat)} {t u : Rat} (h1 : In1 L t) (h2 : In1 L u) {x : Rat} (hx0 : 0 ≤ x) (hx1 : x ≤ 1) : In1 L (t + x * (u - t)) := by
  intro a b hg
  have := between_alg (h1 a b hg) (h2 a b hg) hx0 hx1
  rwa [show a * (t + x * (u - t)) = a * t + x * (a * u - a * t) by grind]
theorem proj1 (L : List (Rat × Rat)) (z t0 : Rat) (hz : In1 L z) :
    ∃ t, In1 L t ∧ (t = t0 ∨ ∃ a b, (a, b) ∈ L ∧ ∃ k, 0 ≤ k ∧ a * t = b ∧ t0 - t = k * a) := by
  induction L with
  | nil => exact ⟨t0, fun a b hg => absurd hg (List.not_mem_nil), Or.inl rfl⟩
  | cons g L ih =>
    obtain ⟨a, b⟩ := g
    rw [In1.cons] at hz
    obtain ⟨t, ht, hk⟩ := ih hz.2
    by_cases hg : a * t ≤ b
    · refine ⟨t, In1.cons.2 ⟨hg, ht⟩, ?_⟩
      rcases hk with rfl | ⟨f, f', hf, k, hk⟩
      · exact Or.inl rfl
      · exact Or.inr ⟨f, f', List.mem_cons_of_mem _ hf, k, hk⟩
    · have hg2 : b < a * t := Rat.not_le.1 hg
      obtain ⟨x, hx0, hx1, hx⟩ := cut_alg hz.1 hg2
      have heq : a * (z + x * (t - z)) = b := by rw [← hx]; grind
      have h1 : 0 ≤ (t0 - t) * (t - z) := by
        rcases hk with rfl | ⟨f, f', hf, k, hk0, hk1, hk2⟩
        · rw [Rat.sub_self, Rat.zero_mul]; exact Rat.le_refl
        · have := Rat.mul_le_mul_of_nonneg_left (hz.2 f f' hf) hk0
          rw [hk2, ← hk1] at *
          grind
      have hin := hz.2.between ht hx0 hx1
      have h2 : 0 ≤ (t0 - (z + x * (t - z))) * (t - z) := by
        have := Rat.mul_nonneg (show 0 ≤ 1 - x by grind) (sqz (t - z))
        grind
      have hd : 0 < a * (t - z) := by have := hz.1; grind
      have hg0 : a ≠ 0 := by
        intro h0
        rw [h0, Rat.zero_mul] at hd
        exact Rat.lt_irrefl hd
      obtain ⟨j, hj⟩ := inv_exists hg0
      generalize z + x * (t - z) = v at *
      refine ⟨v, In1.cons.2 ⟨by rw [heq]; exact Rat.le_refl, hin⟩, Or.inr ⟨a, b, List.mem_cons_self, (t0 - v) * j, ?_, heq, ?_⟩⟩
      · refine mul_sgn hd ?_
        rwa [show (t0 - v) * j * (a * (t - z)) = (t0 - v) * (t - z) * (j * a) by grind, hj, Rat.mul_one]
      · rw [show (t0 - v) * j * a = (t0 - v) * (j * a) by grind, hj, Rat.mul_one]
def In2 (L : List (Rat × Rat × Rat)) (x y : Rat) : Prop := ∀ a a' b, (a, a', b) ∈ L → a * x + a' * y ≤ b
theorem In2.cons {a a' b : Rat} {L : List (Rat × Rat × Rat)} {x y : Rat} : In2 ((a, a', b) :: L) x y ↔ a * x + a' * y ≤ b ∧ In2 L x y := by
  unfold In2
  constructor
  · intro h
    exact ⟨h a a' b List.mem_cons_self, fun u v w hx => h u v w (List.mem_cons_of_mem _ hx)⟩
  · rintro ⟨h1, h2⟩ u v w hx
    rcases List.mem_cons.1 hx with h | h
    · cases h; exact h1
    · exact h2 u v w h
theorem In2.between {L : List (Rat × Rat × Rat)} {x y u v : Rat} (h1 : In2 L x y) (h2 : In2 L u v) {t : Rat} (ht0 : 0 ≤ t) (ht1 : t ≤ 1) : In2 L (x + t * (u - x)) (y + t * (v - y)) := by
  intro a a' b hg
  have := between_alg (h1 a a' b hg) (h2 a a' b hg) ht0 ht1
  rwa [show a * (x + t * (u - x)) + a' * (y + t * (v - y)) = a * x + a' * y + t * (a * u + a' * v - (a * x + a' * y)) by grind]
def Act (L : List (Rat × Rat × Rat)) (x y f f' : Rat) : Prop := ∃ k a a' b, 0 ≤ k ∧ f = k * a ∧ f' = k * a' ∧ (k = 0 ∨ (a, a', b) ∈ L ∧ a * x + a' * y = b)
theorem Act.zero (L : List (Rat × Rat × Rat)) (x y : Rat) : Act L x y 0 0 := ⟨0, 0, 0, 0, Rat.le_refl, by grind, by grind, Or.inl rfl⟩
theorem Act.weak {L : List (Rat × Rat × Rat)} {x y f f' : Rat} (h : Act L x y f f') (g : Rat × Rat × Rat) : Act (g :: L) x y f f' := by
  obtain ⟨k, a, a', b, h0, h1, h2, h3⟩ := h
  exact ⟨k, a, a', b, h0, h1, h2, h3.imp id fun h => ⟨List.mem_cons_of_mem _ h.1, h.2⟩⟩
theorem Act.le {L : List (Rat × Rat × Rat)} {x y f f' z z' : Rat} (h : Act L x y f f') (hz : In2 L z z') : f * (z - x) + f' * (z' - y) ≤ 0 := by
  obtain ⟨k, a, a', b, h0, rfl, rfl, h3 | ⟨h3, h4⟩⟩ := h
  · rw [h3]; grind
  · have h5 := Rat.mul_le_mul_of_nonneg_left (hz a a' b h3) h0
    rw [← h4] at h5
    grind
theorem proj2 (L : List (Rat × Rat × Rat)) (z z' c c' : Rat) (hz : In2 L z z') :
    ∃ x y f f' g g', In2 L x y ∧ Act L x y f f' ∧ Act L x y g g' ∧ c - x = f + g ∧ c' - y = f' + g' := by
  induction L with
  | nil => exact ⟨c, c', 0, 0, 0, 0, fun a a' b hg => absurd hg (List.not_mem_nil), Act.zero _ _ _, Act.zero _ _ _, by grind, by grind⟩
  | cons g L ih =>
    obtain ⟨a, a', b⟩ := g
    rw [In2.cons] at hz
    obtain ⟨x0, y0, p, p', q, q', hin0, hp, hq, hx0, hy0⟩ := ih hz.2
    by_cases hg : a * x0 + a' * y0 ≤ b
    · exact ⟨x0, y0, p, p', q, q', In2.cons.2 ⟨hg, hin0⟩, hp.weak _, hq.weak _, hx0, hy0⟩
    · have hg2 : b < a * x0 + a' * y0 := Rat.not_le.1 hg
      obtain ⟨s, hs0, hs1, hs⟩ := cut_alg hz.1 hg2
      have hin1 := hz.2.between hin0 hs0 hs1
      have heq : a * (z + s * (x0 - z)) + a' * (z' + s * (y0 - z')) = b := by rw [← hs]; grind
      generalize z + s * (x0 - z) = u at hin1 heq
      generalize z' + s * (y0 - z') = u' at hin1 heq
      have hn0 : 0 < a * a + a' * a' := by
        have h1 := sqz a
        have h2 := sqz a'
        rcases lt_or_leR 0 (a * a + a' * a') with h | h
        · exact h
        · exfalso
          have e1 : a = 0 := by
            rcases Rat.mul_eq_zero.1 (show a * a = 0 by grind) with h | h <;> exact h
          have e2 : a' = 0 := by
            rcases Rat.mul_eq_zero.1 (show a' * a' = 0 by grind) with h | h <;> exact h
          have := hz.1
          rw [e1, e2] at this hg2
          grind
      obtain ⟨n, hn⟩ := inv_exists (show a * a + a' * a' ≠ 0 by grind)
      have hi1 : In1 (L.map fun h => (h.1 * -a' + h.2.1 * a, h.2.2 - (h.1 * u + h.2.1 * u'))) 0 := by
        intro e e' he
        obtain ⟨⟨h, h', hb⟩, hm, hh⟩ := List.mem_map.1 he
        cases hh
        have := hin1 h h' hb hm
        dsimp only
        grind
      obtain ⟨t, ht, hk⟩ := proj1 _ 0 (((c - u) * -a' + (c' - u') * a) * n) hi1
      have hin : In2 L (u - t * a') (u' + t * a) := by
        intro h h' hb hm
        have := ht _ _ (List.mem_map.2 ⟨(h, h', hb), hm, rfl⟩)
        dsimp only at this
        grind
      have hon : a * (u - t * a') + a' * (u' + t * a) = b := by grind
      have hact : ∃ f f', Act L (u - t * a') (u' + t * a) f f' ∧ (c - (u - t * a') - f) * -a' + (c' - (u' + t * a) - f') * a = 0 := by
        have e1 : ((c - u) * -a' + (c' - u') * a) * n * (a * a + a' * a') = (c - u) * -a' + (c' - u') * a := by
          rw [Rat.mul_assoc, hn, Rat.mul_one]
        generalize ((c - u) * -a' + (c' - u') * a) * n = t0 at hk e1
        rcases hk with rfl | ⟨e, e', he, k, hk0, hk1, hk2⟩
        · exact ⟨0, 0, Act.zero _ _ _, by grind⟩
        · obtain ⟨⟨h, h', hb⟩, hm, hh⟩ := List.mem_map.1 he
          cases hh
          dsimp only at hk1 hk2
          refine ⟨k * (a * a + a' * a') * h, k * (a * a + a' * a') * h', ⟨k * (a * a + a' * a'), h, h', hb, Rat.mul_nonneg hk0 (Rat.le_of_lt hn0), rfl, rfl, Or.inr ⟨hm, by grind⟩⟩, ?_⟩
          have e2 : t0 = t + k * (h * -a' + h' * a) := by grind
          rw [e2] at e1
          grind
      obtain ⟨f, f', hf, hw⟩ := hact
      generalize u - t * a' = x at *
      generalize u' + t * a = y at *
      have e1 : ((c - x - f) * a + (c' - y - f') * a') * n * a = c - x - f := by
        have : ((c - x - f) * a + (c' - y - f') * a') * n * a = (c - x - f) * (n * (a * a + a' * a')) := by grind
        rw [this, hn, Rat.mul_one]
      have e2 : ((c - x - f) * a + (c' - y - f') * a') * n * a' = c' - y - f' := by
        have : ((c - x - f) * a + (c' - y - f') * a') * n * a' = (c' - y - f') * (n * (a * a + a' * a')) := by grind
        rw [this, hn, Rat.mul_one]
      generalize ((c - x - f) * a + (c' - y - f') * a') * n = v at e1 e2
      have hv : 0 ≤ v := by
        refine mul_sgn (x := a * (x0 - x) + a' * (y0 - y)) (by grind) ?_
        have h1 := hf.le hin0
        have h2 := hp.le hin
        have h3 := hq.le hin
        have h4 := sqz (x0 - x)
        have h5 := sqz (y0 - y)
        have h6 : v * (a * (x0 - x) + a' * (y0 - y)) = (c - x - f) * (x0 - x) + (c' - y - f') * (y0 - y) := by rw [← e1, ← e2]; grind
        rw [h6]
        have h7 : (c - x0) * (x - x0) + (c' - y0) * (y - y0) ≤ 0 := by rw [hx0, hy0]; grind
        grind
      exact ⟨x, y, f, f', v * a, v * a', In2.cons.2 ⟨by rw [hon]; exact Rat.le_refl, hin⟩, hf.weak _, ⟨v, a, a', b, hv, rfl, rfl, Or.inr ⟨List.mem_cons_self, hon⟩⟩, by grind, by grind⟩
end M
end Go.Proofs.YtellemlhhlafcaaGreatDoor
end
section
namespace Go.Proofs.YtellemlhhlafcaaGreatDoor
open Go
namespace M
def powD (d : Dk) (x y : Rat) : Rat := (x - d.x) * (x - d.x) + (y - d.y) * (y - d.y) - d.s
def Pow (l : List Dk) (x y m : Rat) : Prop := (∀ d ∈ l, powD d x y ≤ m) ∧ ∃ d1 d2 d3 : Dk, ∃ w1 w2 w3 : Rat, (d1 ∈ l ∧ d2 ∈ l ∧ d3 ∈ l) ∧ (0 ≤ w1 ∧ 0 ≤ w2 ∧ 0 ≤ w3) ∧ w1 + w2 + w3 = 1 ∧
  ((w1 = 0 ∨ powD d1 x y = m) ∧ (w2 = 0 ∨ powD d2 x y = m) ∧ (w3 = 0 ∨ powD d3 x y = m)) ∧ w1 * d1.x + w2 * d2.x + w3 * d3.x = x ∧ w1 * d1.y + w2 * d2.y + w3 * d3.y = y
def halfD (k d : Dk) : Rat × Rat × Rat := (2 * (k.x - d.x), 2 * (k.y - d.y), k.x * k.x + k.y * k.y - k.s - (d.x * d.x + d.y * d.y - d.s))
theorem halfD_le {k d : Dk} {x y : Rat} : (halfD k d).1 * x + (halfD k d).2.1 * y ≤ (halfD k d).2.2 ↔ powD d x y ≤ powD k x y := by
  unfold halfD powD
  dsimp only
  constructor <;> intro h <;> grind
theorem halfD_eq {k d : Dk} {x y : Rat} : (halfD k d).1 * x + (halfD k d).2.1 * y = (halfD k d).2.2 ↔ powD d x y = powD k x y := by
  unfold halfD powD
  dsimp only
  constructor <;> intro h <;> grind
theorem act_disc {l : List Dk} {k : Dk} {x y f f' : Rat} (h : Act (l.map (halfD k)) x y f f') :
    ∃ u d, 0 ≤ u ∧ d ∈ k :: l ∧ (u = 0 ∨ d ∈ l ∧ powD d x y = powD k x y) ∧ f = u * (k.x - d.x) ∧ f' = u * (k.y - d.y) := by
  obtain ⟨u, a, a', b, h0, rfl, rfl, h3⟩ := h
  rcases h3 with rfl | ⟨h3, h4⟩
  · exact ⟨0, k, Rat.le_refl, List.mem_cons_self, Or.inl rfl, by grind, by grind⟩
  · obtain ⟨d, hd, he⟩ := List.mem_map.1 h3
    have e1 : a = (halfD k d).1 := by rw [he]
    have e2 : a' = (halfD k d).2.1 := by rw [he]
    have e3 : b = (halfD k d).2.2 := by rw [he]
    subst e1 e2 e3
    refine ⟨u * 2, d, by grind, List.mem_cons_of_mem _ hd, Or.inr ⟨hd, halfD_eq.1 h4⟩, ?_, ?_⟩
    · unfold halfD; dsimp only; grind
    · unfold halfD; dsimp only; grind
theorem weight_nn {X Y Kx Ky D1x D1y D2x D2y u v dl : Rat} (hdl : 0 < dl) (hu : 0 ≤ u) (hv : 0 ≤ v)
    (h1 : u = 0 ∨ dl ≤ 2 * (X * (Kx - D1x) + Y * (Ky - D1y))) (h2 : v = 0 ∨ dl ≤ 2 * (X * (Kx - D2x) + Y * (Ky - D2y)))
    (hx : Kx - X = u * (Kx - D1x) + v * (Kx - D2x)) (hy : Ky - Y = u * (Ky - D1y) + v * (Ky - D2y)) (huv : 1 < u + v) :
    dl < 2 * (X * Kx + Y * Ky) := by
  have e1 : u * dl ≤ u * (2 * (X * (Kx - D1x) + Y * (Ky - D1y))) := by
    rcases h1 with h | h
    · rw [h]; grind
    · exact Rat.mul_le_mul_of_nonneg_left h hu
  have e2 : v * dl ≤ v * (2 * (X * (Kx - D2x) + Y * (Ky - D2y))) := by
    rcases h2 with h | h
    · rw [h]; grind
    · exact Rat.mul_le_mul_of_nonneg_left h hv
  have e3 := Rat.mul_pos (show 0 < u + v - 1 by grind) hdl
  have e4 : X * (Kx - X) + Y * (Ky - Y) = X * (u * (Kx - D1x) + v * (Kx - D2x)) + Y * (u * (Ky - D1y) + v * (Ky - D2y)) := by rw [← hx, ← hy]
  have e5 := sqz X
  have e6 := sqz Y
  grind
theorem pos_mean {w1 w2 w3 a b c : Rat} (h1 : 0 ≤ w1) (h2 : 0 ≤ w2) (h3 : 0 ≤ w3) (h : w1 + w2 + w3 = 1) (ha : w1 = 0 ∨ 0 < a) (hb : w2 = 0 ∨ 0 < b) (hc : w3 = 0 ∨ 0 < c) : 0 < w1 * a + w2 * b + w3 * c := by
  have key : ∀ {w a : Rat}, 0 ≤ w → (w = 0 ∨ 0 < a) → 0 ≤ w * a ∧ (0 < w → 0 < w * a) := by
    intro w a hw h
    rcases h with h | h
    · rw [h]; exact ⟨by grind, fun h => absurd h Rat.lt_irrefl⟩
    · exact ⟨Rat.mul_nonneg hw (Rat.le_of_lt h), fun h2 => Rat.mul_pos h2 h⟩
  have k1 := key h1 ha
  have k2 := key h2 hb
  have k3 := key h3 hc
  rcases lt_or_leR 0 w1 with g | g
  · have := k1.2 g; grind
  · rcases lt_or_leR 0 w2 with g2 | g2
    · have := k2.2 g2; grind
    · have := k3.2 (by grind); grind
theorem exists_pow (l : List Dk) (hl : l ≠ []) : ∃ x y m, Pow l x y m := by
  induction l with
  | nil => exact absurd rfl hl
  | cons k l ih =>
    by_cases hl2 : l = []
    · subst hl2
      refine ⟨k.x, k.y, powD k k.x k.y, fun d hd => ?_, k, k, k, 1, 0, 0, ⟨List.mem_cons_self, List.mem_cons_self, List.mem_cons_self⟩, by decide, by grind, ⟨Or.inr rfl, Or.inl rfl, Or.inl rfl⟩, by grind, by grind⟩
      rcases List.mem_cons.1 hd with h | h
      · rw [h]; exact Rat.le_refl
      · exact absurd h List.not_mem_nil
    · obtain ⟨x0, y0, m0, hle, d1, d2, d3, w1, w2, w3, ⟨hd1, hd2, hd3⟩, ⟨hw1, hw2, hw3⟩, hsum, ⟨ha1, ha2, ha3⟩, hx0, hy0⟩ := ih hl2
      by_cases hk : powD k x0 y0 ≤ m0
      · refine ⟨x0, y0, m0, fun d hd => ?_, d1, d2, d3, w1, w2, w3, ⟨List.mem_cons_of_mem _ hd1, List.mem_cons_of_mem _ hd2, List.mem_cons_of_mem _ hd3⟩, ⟨hw1, hw2, hw3⟩, hsum, ⟨ha1, ha2, ha3⟩, hx0, hy0⟩
        rcases List.mem_cons.1 hd with h | h
        · rw [h]; exact hk
        · exact hle d h
      · have hk2 : m0 < powD k x0 y0 := Rat.not_le.1 hk
        have hin0 : In2 (l.map (halfD k)) x0 y0 := by
          intro a a' b hm
          obtain ⟨d, hd, he⟩ := List.mem_map.1 hm
          have := (halfD_le (k := k) (d := d) (x := x0) (y := y0)).2 (Rat.le_trans (hle d hd) (Rat.le_of_lt hk2))
          rw [he] at this
          exact this
        obtain ⟨x, y, f, f', g, g', hin, hf, hg, hx, hy⟩ := proj2 _ x0 y0 k.x k.y hin0
        have hall : ∀ d ∈ l, powD d x y ≤ powD k x y := fun d hd => halfD_le.1 (hin _ _ _ (List.mem_map.2 ⟨d, hd, rfl⟩))
        obtain ⟨u, e1, hu, he1, hu1, rfl, rfl⟩ := act_disc hf
        obtain ⟨v, e2, hv, he2, hv1, rfl, rfl⟩ := act_disc hg
        have huv : u + v ≤ 1 := by
          rcases lt_or_leR 1 (u + v) with huv | huv
          · exfalso
            have key : ∀ {e : Dk} {u : Rat}, (u = 0 ∨ e ∈ l ∧ powD e x y = powD k x y) → (u = 0 ∨ powD k x0 y0 - m0 ≤ 2 * ((x - x0) * ((k.x - x0) - (e.x - x0)) + (y - y0) * ((k.y - y0) - (e.y - y0)))) := by
              intro e u h
              refine h.imp id fun h => ?_
              have e1 := hle e h.1
              have e2 := h.2
              unfold powD at e1 e2 ⊢
              grind
            have hbig := weight_nn (X := x - x0) (Y := y - y0) (Kx := k.x - x0) (Ky := k.y - y0) (D1x := e1.x - x0) (D1y := e1.y - y0) (D2x := e2.x - x0) (D2y := e2.y - y0) (dl := powD k x0 y0 - m0) (by grind) hu hv (key hu1) (key hv1) (by grind) (by grind) huv
            have hpos : ∀ {d : Dk} {w : Rat}, d ∈ l → (w = 0 ∨ powD d x0 y0 = m0) → (w = 0 ∨ 0 < (x - x0) * (d.x - x0) + (y - y0) * (d.y - y0)) := by
              intro d w hd h
              refine h.imp id fun h => ?_
              have e1 := hall d hd
              unfold powD at e1 h hbig
              grind
            have := pos_mean hw1 hw2 hw3 hsum (hpos hd1 ha1) (hpos hd2 ha2) (hpos hd3 ha3)
            have e3 : w1 * (d1.x - x0) + w2 * (d2.x - x0) + w3 * (d3.x - x0) = 0 := by grind
            have e4 : w1 * (d1.y - y0) + w2 * (d2.y - y0) + w3 * (d3.y - y0) = 0 := by grind
            have e5 : w1 * ((x - x0) * (d1.x - x0) + (y - y0) * (d1.y - y0)) + w2 * ((x - x0) * (d2.x - x0) + (y - y0) * (d2.y - y0)) + w3 * ((x - x0) * (d3.x - x0) + (y - y0) * (d3.y - y0)) = (x - x0) * (w1 * (d1.x - x0) + w2 * (d2.x - x0) + w3 * (d3.x - x0)) + (y - y0) * (w1 * (d1.y - y0) + w2 * (d2.y - y0) + w3 * (d3.y - y0)) := by grind
            rw [e5, e3, e4] at this
            grind
          · exact huv
        refine ⟨x, y, powD k x y, fun d hd => ?_, k, e1, e2, 1 - u - v, u, v, ⟨List.mem_cons_self, he1, he2⟩, ⟨by grind, hu, hv⟩, by grind, ⟨Or.inr rfl, hu1.imp id And.right, hv1.imp id And.right⟩, by grind, by grind⟩
        rcases List.mem_cons.1 hd with h | h
        · rw [h]; exact Rat.le_refl
        · exact hall d h
end M
end Go.Proofs.YtellemlhhlafcaaGreatDoor
end
section
namespace Go.Proofs.YtellemlhhlafcaaGreatDoor
open Go
namespace M
theorem low_of_common {d1 d2 d3 : Dk} {w1 w2 w3 x y m : Rat} (hw1 : 0 ≤ w1) (hw2 : 0 ≤ w2) (hw3 : 0 ≤ w3) (hsum : w1 + w2 + w3 = 1)
    (ha1 : w1 = 0 ∨ powD d1 x y = m) (ha2 : w2 = 0 ∨ powD d2 x y = m) (ha3 : w3 = 0 ∨ powD d3 x y = m) (hx : w1 * d1.x + w2 * d2.x + w3 * d3.x = x) (hy : w1 * d1.y + w2 * d2.y + w3 * d3.y = y)
    {p : Sp} (hp : 0 ≤ p.h) (h1 : NnR p.h (-(keepX d1 p)) (-(keepY d1 p))) (h2 : NnR p.h (-(keepX d2 p)) (-(keepY d2 p))) (h3 : NnR p.h (-(keepX d3 p)) (-(keepY d3 p))) : m ≤ 0 := by
  have key : ∀ {w : Rat} {d : Dk}, (w = 0 ∨ powD d x y = m) → w * powD d x y = w * m := by
    intro w d h
    rcases h with h | h
    · rw [h]; grind
    · rw [h]
  have term : ∀ {w : Rat} {d : Dk}, (w = 0 ∨ powD d x y = m) → w * -(keepX d p) = -(w * m) - w * ((p.fx - x) * (p.fx - x) + (p.fy - y) * (p.fy - y) + p.h * (p.ax * p.ax + p.ay * p.ay)) - 2 * (p.fx - x) * (w * x - w * d.x) - 2 * (p.fy - y) * (w * y - w * d.y) := by
    intro w d h
    have := key h
    unfold powD at this
    unfold keepX
    grind
  have termy : ∀ (w : Rat) (d : Dk), w * -(keepY d p) = -(w * (2 * ((p.fx - x) * p.ax + (p.fy - y) * p.ay))) - 2 * p.ax * (w * x - w * d.x) - 2 * p.ay * (w * y - w * d.y) := by
    intro w d
    unfold keepY
    grind
  have n1 := ((h1.smul w1 hw1).add hp (h2.smul w2 hw2)).add hp (h3.smul w3 hw3)
  have n2 := (n1.add hp (NnR.sq p.h (p.fx - x) p.ax hp)).add hp (NnR.sq p.h (p.fy - y) p.ay hp)
  rw [term ha1, term ha2, term ha3, termy, termy, termy] at n2
  generalize p.fx - x = U at n2
  generalize p.fy - y = V at n2
  have e3 : w3 = 1 - w1 - w2 := by grind
  have e1 : w1 * x - w1 * d1.x + (w2 * x - w2 * d2.x) + (w3 * x - w3 * d3.x) = 0 := by rw [e3] at *; grind
  have e2 : w1 * y - w1 * d1.y + (w2 * y - w2 * d2.y) + (w3 * y - w3 * d3.y) = 0 := by rw [e3] at *; grind
  generalize w1 * x - w1 * d1.x = r1 at *
  generalize w2 * x - w2 * d2.x = r2 at *
  generalize w3 * x - w3 * d3.x = r3 at *
  generalize w1 * y - w1 * d1.y = q1 at *
  generalize w2 * y - w2 * d2.y = q2 at *
  generalize w3 * y - w3 * d3.y = q3 at *
  have f1 : r3 = -r1 - r2 := by grind
  have f2 : q3 = -q1 - q2 := by grind
  subst f1 f2 e3
  have n3 := (n2.cast (a' := -m) (b' := 0) (by grind) (by grind)).of_rat
  grind
theorem list_min {α : Type} (l : List α) (P : α → Prop) (key : α → Rat) (h : ∃ d ∈ l, P d) : ∃ d ∈ l, P d ∧ ∀ e ∈ l, P e → key d ≤ key e := by
  induction l with
  | nil => obtain ⟨d, hd, _⟩ := h; exact absurd hd List.not_mem_nil
  | cons a l ih =>
    by_cases hl : ∃ d ∈ l, P d
    · obtain ⟨d, hd, hp, hm⟩ := ih hl
      by_cases ha : P a ∧ key a ≤ key d
      · refine ⟨a, List.mem_cons_self, ha.1, fun e he hpe => ?_⟩
        rcases List.mem_cons.1 he with h | h
        · rw [h]; exact Rat.le_refl
        · exact Rat.le_trans ha.2 (hm e h hpe)
      · refine ⟨d, List.mem_cons_of_mem _ hd, hp, fun e he hpe => ?_⟩
        rcases List.mem_cons.1 he with h | h
        · subst h
          rcases @Rat.le_total (key d) (key e) with g | g
          · exact g
          · exact absurd ⟨hpe, g⟩ ha
        · exact hm e h hpe
    · obtain ⟨d, hd, hp⟩ := h
      rcases List.mem_cons.1 hd with h | h
      · subst h
        refine ⟨d, List.mem_cons_self, hp, fun e he hpe => ?_⟩
        rcases List.mem_cons.1 he with h | h
        · rw [h]; exact Rat.le_refl
        · exact absurd ⟨e, h, hpe⟩ hl
      · exact absurd ⟨d, h, hp⟩ hl
theorem edge_alg {α : Type} (l : List α) (b a : α → Rat) {t0 h : Rat} (ht0 : 0 ≤ t0) (hh : t0 * t0 ≤ h)
    (h1 : ∀ d ∈ l, b d + a d * t0 ≤ 0) (h2 : ∀ d ∈ l, b d + a d * t0 = 0 → a d ≤ 0)
    (h3 : ∀ d ∈ l, ∀ t, a d ≠ 0 → b d + a d * t = 0 → (∀ e ∈ l, b e + a e * t ≤ 0) → t * t ≤ h → t * t ≤ t0 * t0) :
    ∀ d ∈ l, NnR h (-(b d)) (-(a d)) := by
  have hc : 0 ≤ h := Rat.le_trans (sqz t0) hh
  have hflat : ∀ d ∈ l, a d ≤ 0 → NnR h (-(b d)) (-(a d)) := by
    intro d hd ha
    have n1 : NnR h (-t0) 1 := Or.inr (Or.inr ⟨by decide, by grind⟩)
    have n2 := (n1.smul (-(a d)) (by grind)).add hc (NnR.rat h (show 0 ≤ -(b d + a d * t0) by have := h1 d hd; grind))
    exact n2.cast (by grind) (by grind)
  by_cases hex : ∃ d ∈ l, 0 < a d
  · obtain ⟨d, hd, hpos, hmin⟩ := list_min l (fun d => 0 < a d) (fun d => -(b d) / a d) hex
    have hdiv : ∀ e : α, 0 < a e → a e * (-(b e) / a e) = -(b e) := by
      intro e he
      rw [Rat.mul_comm]
      exact Rat.div_mul_cancel (by grind)
    have e1 := hdiv d hpos
    generalize hT : -(b d) / a d = t at e1 hmin
    have hall : ∀ e ∈ l, 0 < a e → 0 ≤ -(b e) - a e * t := by
      intro e he hpe
      have e2 := hmin e he hpe
      have e3 := hdiv e hpe
      have e4 := Rat.mul_le_mul_of_nonneg_left e2 (Rat.le_of_lt hpe)
      rw [e3] at e4
      grind
    have hlt : t0 < t := by
      rcases lt_or_leR t0 t with g | g
      · exact g
      · exfalso
        have e2 := Rat.mul_le_mul_of_nonneg_left g (Rat.le_of_lt hpos)
        have e3 := h1 d hd
        have e4 := h2 d hd (by grind)
        exact absurd hpos (Rat.not_lt.2 e4)
    have hle : ∀ e ∈ l, b e + a e * t ≤ 0 := by
      intro e he
      rcases lt_or_leR 0 (a e) with g | g
      · have := hall e he g; grind
      · have e2 := h1 e he
        have e3 := Rat.mul_nonneg (show 0 ≤ -(a e) by grind) (show 0 ≤ t - t0 by grind)
        grind
    have hbig : h ≤ t * t := by
      rcases lt_or_leR h (t * t) with g | g
      · exact Rat.le_of_lt g
      · exfalso
        have e2 := h3 d hd t (by grind) (by grind) hle g
        have e3 := le_of_sq ht0 e2
        exact absurd hlt (Rat.not_lt.2 e3)
    intro e he
    rcases lt_or_leR 0 (a e) with g | g
    · have n1 : NnR h t (-1) := Or.inr (Or.inl ⟨by grind, by grind⟩)
      have n2 := (n1.smul (a e) (Rat.le_of_lt g)).add hc (NnR.rat h (hall e he g))
      exact n2.cast (by grind) (by grind)
    · exact hflat e he g
  · intro d hd
    refine hflat d hd ?_
    rcases lt_or_leR 0 (a d) with g | g
    · exact absurd ⟨d, hd, g⟩ hex
    · exact g
end M
end Go.Proofs.YtellemlhhlafcaaGreatDoor
end
section
namespace Go.Proofs.YtellemlhhlafcaaGreatDoor
open Go
namespace M
theorem farD_pos {a b : Dk} (h0 : farD a b ≠ 0) : 0 < farD a b := by
  rcases lt_or_leR 0 (farD a b) with h | h
  · exact h
  · exact absurd (Rat.le_antisymm h (farD_nn a b)) h0
theorem pow_line {a b : Dk} (d : Dk) (t : Rat) : powD d ((crossD a b 1).fx + t * (crossD a b 1).ax) ((crossD a b 1).fy + t * (crossD a b 1).ay) = keepX d (crossD a b 1) + keepY d (crossD a b 1) * t + farD a b * (t * t - highD a b) := by
  have e1 : (crossD a b 1).ax = 0 - (b.y - a.y) := rfl
  have e2 : (crossD a b 1).ay = b.x - a.x := rfl
  have e3 : (crossD a b 1).h = highD a b := rfl
  unfold powD keepX keepY
  rw [e1, e2, e3]
  generalize (crossD a b 1).fx = fx
  generalize (crossD a b 1).fy = fy
  generalize highD a b = h
  unfold farD
  grind
theorem cross_zero {a b : Dk} (h0 : farD a b ≠ 0) : keepX a (crossD a b 1) = 0 ∧ keepY a (crossD a b 1) = 0 := by
  have h2 := high_mul h0
  have e0 : (crossD a b 1).fx = a.x + partD a b * (b.x - a.x) := rfl
  have e0' : (crossD a b 1).fy = a.y + partD a b * (b.y - a.y) := rfl
  have e1 : (crossD a b 1).ax = 0 - (b.y - a.y) := rfl
  have e2 : (crossD a b 1).ay = b.x - a.x := rfl
  have e3 : (crossD a b 1).h = highD a b := rfl
  unfold keepX keepY
  rw [e0, e0', e1, e2, e3]
  generalize partD a b = t at *
  generalize highD a b = h at *
  unfold farD at h2
  constructor <;> grind
theorem on_line {a b : Dk} (h0 : farD a b ≠ 0) {x y : Rat} (h : powD a x y = powD b x y) {n : Rat} (hn : n * farD a b = 1) :
    x = (crossD a b 1).fx + ((0 - (b.y - a.y)) * (x - a.x) + (b.x - a.x) * (y - a.y)) * n * (crossD a b 1).ax ∧
    y = (crossD a b 1).fy + ((0 - (b.y - a.y)) * (x - a.x) + (b.x - a.x) * (y - a.y)) * n * (crossD a b 1).ay := by
  have h1 := part_mul h0
  have e0 : (crossD a b 1).fx = a.x + partD a b * (b.x - a.x) := rfl
  have e0' : (crossD a b 1).fy = a.y + partD a b * (b.y - a.y) := rfl
  have e1 : (crossD a b 1).ax = 0 - (b.y - a.y) := rfl
  have e2 : (crossD a b 1).ay = b.x - a.x := rfl
  rw [e0, e0', e1, e2]
  generalize partD a b = t at *
  have h3 : (x - a.x) * (b.x - a.x) + (y - a.y) * (b.y - a.y) = t * farD a b := by
    unfold powD at h
    unfold farD at h1 ⊢
    grind
  unfold farD at h3 hn
  generalize b.x - a.x = ex at *
  generalize b.y - a.y = ey at *
  generalize hU : x - a.x = U at *
  generalize hV : y - a.y = V at *
  have k1 : (U - t * ex) * (n * (ex * ex + ey * ey)) = ((0 - ey) * U + ex * V) * n * (0 - ey) := by grind
  have k2 : (V - t * ey) * (n * (ex * ex + ey * ey)) = ((0 - ey) * U + ex * V) * n * ex := by grind
  rw [hn, Rat.mul_one] at k1 k2
  constructor <;> grind
def det3 (a b d : Dk) : Rat := (b.x - a.x) * (d.y - a.y) - (b.y - a.y) * (d.x - a.x)
theorem pair_edge {l : List Dk} {a b : Dk} {x y m : Rat} (h0 : farD a b ≠ 0) (ha : powD a x y = m) (hb : powD b x y = m) (hm : m ≤ 0)
    (hall : ∀ d ∈ l, powD d x y ≤ m) (hact : ∀ d ∈ l, powD d x y = m → 0 ≤ det3 a b d)
    (hslope : 0 ≤ (0 - (b.y - a.y)) * (x - a.x) + (b.x - a.x) * (y - a.y))
    (hmax : ∀ d ∈ l, ∀ u v, det3 a b d ≠ 0 → powD a u v = powD b u v → powD d u v = powD a u v → (∀ e ∈ l, powD e u v ≤ powD a u v) → powD a u v ≤ 0 → powD a u v ≤ m) :
    0 ≤ highD a b ∧ ∀ d ∈ l, keepD (crossD a b 1) d = true := by
  obtain ⟨n, hn⟩ := inv_exists h0
  have hp := farD_pos h0
  have hn0 := inv_pos hp hn
  obtain ⟨hx, hy⟩ := on_line h0 (ha.trans hb.symm) hn
  have ht0 : 0 ≤ ((0 - (b.y - a.y)) * (x - a.x) + (b.x - a.x) * (y - a.y)) * n := Rat.mul_nonneg hslope (Rat.le_of_lt hn0)
  generalize ((0 - (b.y - a.y)) * (x - a.x) + (b.x - a.x) * (y - a.y)) * n = t0 at *
  obtain ⟨za, zb⟩ := cross_zero h0
  have line : ∀ d : Dk, powD d x y = keepX d (crossD a b 1) + keepY d (crossD a b 1) * t0 + farD a b * (t0 * t0 - highD a b) := by
    intro d
    have := pow_line (a := a) (b := b) d t0
    rwa [← hx, ← hy] at this
  have hm0 : m = farD a b * (t0 * t0 - highD a b) := by
    have := line a
    rw [ha, za, zb] at this
    grind
  have hh : t0 * t0 ≤ highD a b := by
    have e1 : 0 ≤ (highD a b - t0 * t0) * farD a b := by grind
    have := mul_sgn hp e1
    grind
  have hz : 0 ≤ highD a b := Rat.le_trans (sqz t0) hh
  refine ⟨hz, ?_⟩
  have hy1 : ∀ d : Dk, keepY d (crossD a b 1) = -(2 * det3 a b d) := by
    intro d
    have e0 : (crossD a b 1).fx = a.x + partD a b * (b.x - a.x) := rfl
    have e0' : (crossD a b 1).fy = a.y + partD a b * (b.y - a.y) := rfl
    have e1 : (crossD a b 1).ax = 0 - (b.y - a.y) := rfl
    have e2 : (crossD a b 1).ay = b.x - a.x := rfl
    unfold keepY det3
    rw [e0, e0', e1, e2]
    grind
  have key := edge_alg l (fun d => keepX d (crossD a b 1)) (fun d => keepY d (crossD a b 1)) ht0 hh
    (fun d hd => by have e1 := hall d hd; have e2 := line d; grind)
    (fun d hd he => by
      have e2 := line d
      have e3 := hact d hd (by grind)
      rw [hy1]
      grind)
    (fun d hd t hne hz1 hle hsq => by
      have pa := pow_line (a := a) (b := b) a t
      have pb := pow_line (a := a) (b := b) b t
      have pd := pow_line (a := a) (b := b) d t
      rw [za, zb] at pa
      have hbz : keepX b (crossD a b 1) + keepY b (crossD a b 1) * t = 0 := by
        have e1 := line b
        rw [hb, hm0] at e1
        have e2 : keepY b (crossD a b 1) = 0 := by rw [hy1]; unfold det3; grind
        rw [e2] at e1 ⊢
        grind
      have e1 := hmax d hd _ _ (by intro h; rw [hy1, h] at hne; exact hne (by grind)) (show powD a ((crossD a b 1).fx + t * (crossD a b 1).ax) ((crossD a b 1).fy + t * (crossD a b 1).ay) = _ by rw [pa, pb, hbz]; grind) (by rw [pd, pa, hz1]; grind)
        (fun e he => by
          have e2 := hle e he
          rw [pow_line, pa]
          grind)
        (by
          rw [pa]
          have := Rat.mul_nonneg (Rat.le_of_lt hp) (show 0 ≤ highD a b - t * t by grind)
          grind)
      rw [pa, hm0] at e1
      have e2 : 0 ≤ (t0 * t0 - t * t) * farD a b := by grind
      have := mul_sgn hp e2
      grind)
  intro d hd
  exact (keepD_iff (p := crossD a b 1) hz).2 (key d hd)
end M
end Go.Proofs.YtellemlhhlafcaaGreatDoor
end
section
namespace Go.Proofs.YtellemlhhlafcaaGreatDoor
open Go
namespace M
theorem sq_zero {x : Rat} (h : x * x ≤ 0) : x = 0 := by
  have := sqz x
  rcases Rat.mul_eq_zero.1 (Rat.le_antisymm h this) with g | g <;> exact g
theorem farD_zero {a b : Dk} : farD a b = 0 ↔ b.x = a.x ∧ b.y = a.y := by
  constructor
  · intro h
    unfold farD at h
    have e1 := sqz (b.x - a.x)
    have e2 := sqz (b.y - a.y)
    have e3 := sq_zero (x := b.x - a.x) (by grind)
    have e4 := sq_zero (x := b.y - a.y) (by grind)
    exact ⟨by grind, by grind⟩
  · rintro ⟨h1, h2⟩
    unfold farD
    grind
theorem frac_le {r q r' q' : Rat} (hq : 0 < q) (hq' : 0 < q') (h : r / q ≤ r' / q') : r * q' ≤ r' * q := by
  have e1 : r / q * q = r := Rat.div_mul_cancel (by grind)
  have e2 : r' / q' * q' = r' := Rat.div_mul_cancel (by grind)
  generalize r / q = s at *
  generalize r' / q' = s' at *
  have e3 := Rat.mul_le_mul_of_nonneg_right (Rat.mul_le_mul_of_nonneg_right h (Rat.le_of_lt hq)) (Rat.le_of_lt hq')
  rw [← e1, ← e2]
  rwa [show s' * q' * q = s' * q * q' by grind]
theorem cross_sgn {nx ny ux uy wx wy : Rat} (hn : 0 < nx * wx + ny * wy) (h : 0 ≤ (-ny * wx + nx * wy) * (nx * ux + ny * uy) - (-ny * ux + nx * uy) * (nx * wx + ny * wy)) : 0 ≤ ux * wy - uy * wx := by
  have hp : 0 < nx * nx + ny * ny := by
    have e1 := sqz nx
    have e2 := sqz ny
    rcases lt_or_leR 0 (nx * nx + ny * ny) with g | g
    · exact g
    · exfalso
      have e3 := sq_zero (x := nx) (by grind)
      have e4 := sq_zero (x := ny) (by grind)
      rw [e3, e4] at hn
      grind
  refine mul_sgn hp ?_
  grind
theorem out_edge {l : List Dk} {x y m : Rat} (hm : m ≤ 0) (hall : ∀ d ∈ l, powD d x y ≤ m)
    (htwo : ∃ d ∈ l, ∃ e ∈ l, powD d x y = m ∧ powD e x y = m ∧ farD d e ≠ 0)
    (hmax : ∀ a ∈ l, ∀ b ∈ l, ∀ d ∈ l, ∀ u v, det3 a b d ≠ 0 → powD a u v = powD b u v → powD d u v = powD a u v → (∀ e ∈ l, powD e u v ≤ powD a u v) → powD a u v ≤ 0 → powD a u v ≤ m) :
    ∃ a ∈ l, ∃ b ∈ l, farD a b ≠ 0 ∧ 0 ≤ highD a b ∧ ∀ d ∈ l, keepD (crossD a b 1) d = true := by
  obtain ⟨d, hd, e, he, hda, hea, hde⟩ := htwo
  obtain ⟨i, hi, hia, hfar⟩ := list_min l (fun d => powD d x y = m) (fun d => -((d.x - x) * (d.x - x) + (d.y - y) * (d.y - y))) ⟨d, hd, hda⟩
  have hex : ∃ k ∈ l, powD k x y = m ∧ farD i k ≠ 0 := by
    by_cases h1 : farD i d = 0
    · by_cases h2 : farD i e = 0
      · exfalso
        rw [farD_zero] at h1 h2
        exact hde (farD_zero.2 ⟨by rw [h2.1, h1.1], by rw [h2.2, h1.2]⟩)
      · exact ⟨e, he, hea, h2⟩
    · exact ⟨d, hd, hda, h1⟩
  have hq : ∀ k ∈ l, powD k x y = m ∧ farD i k ≠ 0 → 0 < (x - i.x) * (k.x - i.x) + (y - i.y) * (k.y - i.y) := by
    rintro k hk ⟨hka, hkf⟩
    have e1 := hfar k hk hka
    have e2 := farD_pos hkf
    unfold farD at e2
    grind
  obtain ⟨a, ha, hpa, hamax⟩ := list_min l (fun k => powD k x y = m ∧ farD i k ≠ 0) (fun k => -((-(y - i.y) * (k.x - i.x) + (x - i.x) * (k.y - i.y)) / ((x - i.x) * (k.x - i.x) + (y - i.y) * (k.y - i.y)))) hex
  obtain ⟨b, hb, hpb, hbmin⟩ := list_min l (fun k => powD k x y = m ∧ farD i k ≠ 0) (fun k => (-(y - i.y) * (k.x - i.x) + (x - i.x) * (k.y - i.y)) / ((x - i.x) * (k.x - i.x) + (y - i.y) * (k.y - i.y))) hex
  have hqa := hq a ha hpa
  have hqb := hq b hb hpb
  by_cases hka : 0 ≤ -(y - i.y) * (a.x - i.x) + (x - i.x) * (a.y - i.y)
  · have hai : farD a i ≠ 0 := by rw [farD_comm]; exact hpa.2
    refine ⟨a, ha, i, hi, hai, pair_edge hai hpa.1 hia hm hall (fun k hk hkm => ?_) (by grind) fun d hd u v => hmax a ha i hi d hd u v⟩
    by_cases hkf : farD i k = 0
    · rw [farD_zero] at hkf
      unfold det3
      rw [hkf.1, hkf.2]
      grind
    · have e1 := hamax k hk ⟨hkm, hkf⟩
      have e2 := frac_le (hq k hk ⟨hkm, hkf⟩) hqa (Rat.neg_le_neg_iff.1 e1)
      have := cross_sgn (ux := k.x - i.x) (uy := k.y - i.y) hqa (by grind)
      unfold det3
      grind
  · have hkb : -(y - i.y) * (b.x - i.x) + (x - i.x) * (b.y - i.y) ≤ 0 := by
      have e1 := hbmin a ha hpa
      have e2 := frac_le hqb hqa e1
      rcases lt_or_leR 0 (-(y - i.y) * (b.x - i.x) + (x - i.x) * (b.y - i.y)) with g | g
      · exfalso
        have e3 := Rat.mul_pos g hqa
        have e4 := Rat.mul_nonneg (show 0 ≤ -(-(y - i.y) * (a.x - i.x) + (x - i.x) * (a.y - i.y)) by grind) (Rat.le_of_lt hqb)
        grind
      · exact g
    refine ⟨i, hi, b, hb, hpb.2, pair_edge hpb.2 hia hpb.1 hm hall (fun k hk hkm => ?_) (by grind) fun d hd u v => hmax i hi b hb d hd u v⟩
    by_cases hkf : farD i k = 0
    · rw [farD_zero] at hkf
      unfold det3
      rw [hkf.1, hkf.2]
      grind
    · have e1 := hbmin k hk ⟨hkm, hkf⟩
      have e2 := frac_le hqb (hq k hk ⟨hkm, hkf⟩) e1
      have := cross_sgn (ux := b.x - i.x) (uy := b.y - i.y) (hq k hk ⟨hkm, hkf⟩) (by grind)
      unfold det3
      grind
end M
end Go.Proofs.YtellemlhhlafcaaGreatDoor
end
section
namespace Go.Proofs.YtellemlhhlafcaaGreatDoor
open Go
namespace M
theorem NnR.zero_iff {A B B' : Rat} (h : NnR 0 A B) : NnR 0 A B' := by
  have h0 : 0 ≤ A := by
    rcases h with ⟨h, _⟩ | ⟨h, _⟩ | ⟨_, h⟩
    · exact h
    · exact h
    · have := sq_zero (x := A) (by grind)
      rw [this]; exact Rat.le_refl
  exact Or.inr (Or.inl ⟨h0, by have := sqz A; grind⟩)
theorem crossD_swap {a b : Dk} (h0 : farD a b ≠ 0) : crossD b a (-1) = crossD a b 1 := by
  have h0' : farD b a ≠ 0 := by rw [farD_comm]; exact h0
  have e1 := part_mul h0
  have e2 := part_mul h0'
  have e3 := high_mul h0
  have e4 := high_mul h0'
  rw [farD_comm b a] at e2 e4
  obtain ⟨n, hn⟩ := inv_exists h0
  have k1 : partD b a = 1 - partD a b := by
    have : (partD b a + partD a b - 1) * (n * farD a b) = 0 := by grind
    rw [hn] at this
    grind
  have k2 : highD b a = highD a b := by
    rw [k1] at e4
    have : (highD b a - highD a b) * (n * farD a b) = 0 := by grind
    rw [hn] at this
    grind
  unfold crossD
  rw [k1, k2]
  rw [if_pos (by decide), if_pos (by decide), if_neg (by decide), if_neg (by decide)]
  congr 1 <;> grind
theorem atD_get {l : List Dk} {i : Nat} (h : i < l.length) : atD l i = l[i] := by
  unfold atD
  rw [List.getD_eq_getElem?_getD, List.getElem?_eq_getElem h]
  rfl
theorem mem_at {l : List Dk} {a : Dk} (h : a ∈ l) : ∃ i, i < l.length ∧ atD l i = a := by
  obtain ⟨i, hi, e⟩ := List.mem_iff_getElem.1 h
  exact ⟨i, hi, (atD_get hi).trans e⟩
theorem mem_witX {n i j : Nat} {s : Int} (hij : i < j) (hj : j < n) (hs : s = 0 ∨ s = 1 ∨ s = -1) : (⟨i, j, s⟩ : Wn) ∈ witX n := by
  unfold witX
  refine List.mem_flatMap.2 ⟨i, List.mem_range.2 (by omega), List.mem_flatMap.2 ⟨j - (i + 1), List.mem_range.2 (by omega), ?_⟩⟩
  rw [show i + 1 + (j - (i + 1)) = j by omega]
  rcases hs with rfl | rfl | rfl <;> simp
theorem first_of {l : List Dk} (w : Wn) (h : w ∈ witC l.length ∨ w ∈ witX l.length) (hp : provD l w = true) : (firstD l).isSome = true := by
  unfold firstD
  rw [List.find?_isSome]
  exact ⟨w, List.mem_append.2 h, hp⟩
theorem prov_cross {l : List Dk} {i j : Nat} (hij : i < j) (hj : j < l.length) {s : Int} (hs : s = 1 ∨ s = -1) (h0 : farD (atD l i) (atD l j) ≠ 0) (hh : 0 ≤ highD (atD l i) (atD l j))
    (hk : ∀ d ∈ l, keepD (crossD (atD l i) (atD l j) s) d = true) : (firstD l).isSome = true := by
  by_cases hz : highD (atD l i) (atD l j) = 0
  · refine first_of ⟨i, j, 0⟩ (Or.inr (mem_witX hij hj (Or.inl rfl))) ?_
    have hr : reachD l ⟨i, j, 0⟩ = some (crossD (atD l i) (atD l j) 0) := by
      show (if i = j then _ else if farD (atD l i) (atD l j) = 0 then none else if 0 ≤ highD (atD l i) (atD l j) ∧ (highD (atD l i) (atD l j) = 0 ↔ (0 : Int) = 0) then some (crossD (atD l i) (atD l j) 0) else none) = _
      rw [if_neg (by omega), if_neg h0, if_pos ⟨hh, fun _ => rfl, fun _ => hz⟩]
    unfold provD
    rw [hr]
    refine List.all_eq_true.2 fun d hd => ?_
    have e1 := (keepD_iff (p := crossD (atD l i) (atD l j) s) hh).1 (hk d hd)
    rw [keepD_iff (p := crossD (atD l i) (atD l j) 0) hh]
    have f1 : (crossD (atD l i) (atD l j) s).h = 0 := hz
    have f2 : (crossD (atD l i) (atD l j) 0).h = 0 := hz
    have f3 : keepX d (crossD (atD l i) (atD l j) s) = keepX d (crossD (atD l i) (atD l j) 0) := by
      unfold keepX
      rw [f1, f2, Rat.zero_mul, Rat.zero_mul]
      rfl
    rw [f1, f3] at e1
    rw [f2]
    exact e1.zero_iff
  · refine first_of ⟨i, j, s⟩ (Or.inr (mem_witX hij hj (Or.inr hs))) ?_
    have hr : reachD l ⟨i, j, s⟩ = some (crossD (atD l i) (atD l j) s) := by
      show (if i = j then _ else if farD (atD l i) (atD l j) = 0 then none else if 0 ≤ highD (atD l i) (atD l j) ∧ (highD (atD l i) (atD l j) = 0 ↔ s = 0) then some (crossD (atD l i) (atD l j) s) else none) = _
      rw [if_neg (by omega), if_neg h0, if_pos ⟨hh, fun e => absurd e hz, fun e => by omega⟩]
    unfold provD
    rw [hr]
    exact List.all_eq_true.2 hk
theorem prov_center {l : List Dk} {c : Dk} (hc : c ∈ l) (hk : ∀ d ∈ l, farD c d ≤ d.s) : (firstD l).isSome = true := by
  obtain ⟨i, hi, rfl⟩ := mem_at hc
  refine first_of ⟨i, i, 0⟩ (Or.inl (List.mem_map.2 ⟨i, List.mem_range.2 hi, rfl⟩)) ?_
  have hr : reachD l ⟨i, i, 0⟩ = some ⟨(atD l i).x, (atD l i).y, 0, 0, 0⟩ := by
    show (if i = i then (if (0 : Int) = 0 then _ else _) else _) = _
    rw [if_pos rfl, if_pos rfl]
  unfold provD
  rw [hr]
  exact List.all_eq_true.2 fun d hd => centre_keeps (hk d hd)
theorem prov_edge {l : List Dk} (h : ∃ a ∈ l, ∃ b ∈ l, farD a b ≠ 0 ∧ 0 ≤ highD a b ∧ ∀ d ∈ l, keepD (crossD a b 1) d = true) : (firstD l).isSome = true := by
  obtain ⟨a, ha, b, hb, h0, hh, hk⟩ := h
  obtain ⟨i, hi, rfl⟩ := mem_at ha
  obtain ⟨j, hj, rfl⟩ := mem_at hb
  rcases Nat.lt_trichotomy i j with h | h | h
  · exact prov_cross h hj (Or.inl rfl) h0 hh hk
  · subst h
    exact absurd (farD_zero.2 ⟨rfl, rfl⟩) h0
  · have hsw := crossD_swap h0
    refine prov_cross h hi (Or.inr rfl) (by rw [farD_comm]; exact h0) ?_ (by rw [hsw]; exact hk)
    have : (crossD (atD l j) (atD l i) (-1)).h = (crossD (atD l i) (atD l j) 1).h := by rw [hsw]
    have e : highD (atD l j) (atD l i) = highD (atD l i) (atD l j) := this
    rw [e]; exact hh
def Tri (l : List Dk) (t : Dk × Dk × Dk) (m : Rat) : Prop := ∃ u v, det3 t.1 t.2.1 t.2.2 ≠ 0 ∧ powD t.1 u v = m ∧ powD t.2.1 u v = m ∧ powD t.2.2 u v = m ∧ (∀ e ∈ l, powD e u v ≤ m) ∧ m ≤ 0
theorem Tri.fn {l : List Dk} {t : Dk × Dk × Dk} {m m' : Rat} (h : Tri l t m) (h' : Tri l t m') : m = m' := by
  obtain ⟨u, v, hd, h1, h2, h3, _⟩ := h
  obtain ⟨u', v', _, h1', h2', h3', _⟩ := h'
  obtain ⟨a, b, d⟩ := t
  dsimp only at *
  have e1 : (u - u') * (b.x - a.x) + (v - v') * (b.y - a.y) = 0 := by unfold powD at *; grind
  have e2 : (u - u') * (d.x - a.x) + (v - v') * (d.y - a.y) = 0 := by unfold powD at *; grind
  obtain ⟨n, hn⟩ := inv_exists hd
  unfold det3 at hn
  have e3 : (u - u') * (n * ((b.x - a.x) * (d.y - a.y) - (b.y - a.y) * (d.x - a.x))) = 0 := by grind
  have e4 : (v - v') * (n * ((b.x - a.x) * (d.y - a.y) - (b.y - a.y) * (d.x - a.x))) = 0 := by grind
  rw [hn] at e3 e4
  have e5 : u = u' := by grind
  have e6 : v = v' := by grind
  rw [← h1, ← h1', e5, e6]
theorem complete {l : List Dk} {x y m : Rat} (hP : Pow l x y m) (hm : m ≤ 0) : (firstD l).isSome = true := by
  obtain ⟨hall, d1, d2, d3, w1, w2, w3, ⟨hd1, hd2, hd3⟩, ⟨hw1, hw2, hw3⟩, hsum, ⟨ha1, ha2, ha3⟩, hx, hy⟩ := hP
  by_cases hV : ∃ t ∈ (l.flatMap fun a => l.flatMap fun b => l.map fun d => (a, b, d)), ∃ k, Tri l t k
  · obtain ⟨t, ht, ⟨k, hk⟩, hmx⟩ := list_min _ (fun t => ∃ k, Tri l t k) (fun t => -(Classical.epsilon fun k => Tri l t k)) hV
    have heps : ∀ {t : Dk × Dk × Dk} {k : Rat}, Tri l t k → Classical.epsilon (fun k => Tri l t k) = k := fun {t k} h => Tri.fn (Classical.epsilon_spec (p := fun k => Tri l t k) ⟨k, h⟩) h
    obtain ⟨u, v, hdet, h1, h2, h3, hle, hk0⟩ := hk
    obtain ⟨a, ha, ht⟩ := List.mem_flatMap.1 ht
    obtain ⟨b, hb, ht⟩ := List.mem_flatMap.1 ht
    obtain ⟨d, hd, rfl⟩ := List.mem_map.1 ht
    refine prov_edge (out_edge hk0 hle ⟨a, ha, b, hb, h1, h2, fun e => ?_⟩ fun a' ha' b' hb' d' hd' u' v' g0 g1 g2 g3 g4 => ?_)
    · rw [farD_zero] at e
      refine hdet ?_
      show det3 a b d = 0
      unfold det3
      rw [e.1, e.2]
      grind
    · have hT : Tri l (a', b', d') (powD a' u' v') := ⟨u', v', g0, rfl, g1.symm, g2, g3, g4⟩
      have e1 := hmx (a', b', d') (List.mem_flatMap.2 ⟨a', ha', List.mem_flatMap.2 ⟨b', hb', List.mem_map.2 ⟨d', hd', rfl⟩⟩⟩) ⟨_, hT⟩
      rw [heps hT, heps (k := k) ⟨u, v, hdet, h1, h2, h3, hle, hk0⟩] at e1
      exact Rat.neg_le_neg_iff.1 e1
  · by_cases htwo : ∃ d ∈ l, ∃ e ∈ l, powD d x y = m ∧ powD e x y = m ∧ farD d e ≠ 0
    · exact prov_edge (out_edge hm hall htwo fun a ha b hb d hd u v g0 g1 g2 g3 g4 => absurd ⟨(a, b, d), List.mem_flatMap.2 ⟨a, ha, List.mem_flatMap.2 ⟨b, hb, List.mem_map.2 ⟨d, hd, rfl⟩⟩⟩, _, u, v, g0, rfl, g1.symm, g2, g3, g4⟩ hV)
    · have same : ∀ c ∈ l, ∀ d ∈ l, powD c x y = m → powD d x y = m → d.x = c.x ∧ d.y = c.y := by
        intro c hc d hd h1 h2
        rcases Classical.em (farD c d = 0) with g | g
        · exact farD_zero.1 g
        · exact absurd ⟨c, hc, d, hd, h1, h2, g⟩ htwo
      have hc : ∃ c ∈ l, powD c x y = m := by
        rcases ha1 with h | h
        · rcases ha2 with h' | h'
          · rcases ha3 with h'' | h''
            · rw [h, h', h''] at hsum; exact absurd hsum (by decide +kernel)
            · exact ⟨d3, hd3, h''⟩
          · exact ⟨d2, hd2, h'⟩
        · exact ⟨d1, hd1, h⟩
      obtain ⟨c, hc, hcm⟩ := hc
      have wt : ∀ {w : Rat} {d : Dk}, d ∈ l → (w = 0 ∨ powD d x y = m) → w * d.x = w * c.x ∧ w * d.y = w * c.y := by
        intro w d hd h
        rcases h with h | h
        · rw [h]; exact ⟨by grind, by grind⟩
        · obtain ⟨e1, e2⟩ := same c hc d hd hcm h
          rw [e1, e2]; exact ⟨rfl, rfl⟩
      obtain ⟨p1, q1⟩ := wt hd1 ha1
      obtain ⟨p2, q2⟩ := wt hd2 ha2
      obtain ⟨p3, q3⟩ := wt hd3 ha3
      have ex : x = c.x := by
        rw [p1, p2, p3] at hx
        have : c.x * (w1 + w2 + w3) = x := by grind
        rw [hsum] at this
        grind
      have ey : y = c.y := by
        rw [q1, q2, q3] at hy
        have : c.y * (w1 + w2 + w3) = y := by grind
        rw [hsum] at this
        grind
      refine prov_center hc fun d hd => ?_
      have := hall d hd
      unfold powD at this
      unfold farD
      rw [ex, ey] at this
      grind
theorem first_of_common {l : List Dk} (hl : l ≠ []) {p : Sp} (hp : 0 ≤ p.h) (hk : ∀ d ∈ l, NnR p.h (-(keepX d p)) (-(keepY d p))) : (firstD l).isSome = true := by
  obtain ⟨x, y, m, hP⟩ := exists_pow l hl
  refine complete hP ?_
  obtain ⟨_, d1, d2, d3, w1, w2, w3, ⟨hd1, hd2, hd3⟩, ⟨hw1, hw2, hw3⟩, hsum, ⟨ha1, ha2, ha3⟩, hx, hy⟩ := hP
  exact low_of_common hw1 hw2 hw3 hsum ha1 ha2 ha3 hx hy hp (hk _ hd1) (hk _ hd2) (hk _ hd3)
end M
end Go.Proofs.YtellemlhhlafcaaGreatDoor
end
section
namespace Go.Proofs.YtellemlhhlafcaaGreatDoor
open Go
namespace M
theorem point_keeps {x y : Rat} {d : Dk} (h : powD d x y ≤ 0) : NnR 0 (-(keepX d ⟨x, y, 0, 0, 0⟩)) (-(keepY d ⟨x, y, 0, 0, 0⟩)) := by
  unfold powD at h
  unfold keepX keepY
  dsimp only
  exact Or.inl ⟨by grind, by grind⟩
theorem first_iff {l : List Dk} (hl : l ≠ []) : (firstD l).isSome = true ↔ ∃ x y, ∀ d ∈ l, powD d x y ≤ 0 := by
  constructor
  · intro h
    obtain ⟨w, hw⟩ := Option.isSome_iff_exists.1 h
    obtain ⟨p, hp, hk⟩ := firstD_some hw
    obtain ⟨x, y, m, hP⟩ := exists_pow l hl
    have hall := hP.1
    obtain ⟨_, d1, d2, d3, w1, w2, w3, ⟨hd1, hd2, hd3⟩, ⟨hw1, hw2, hw3⟩, hsum, ⟨ha1, ha2, ha3⟩, hx, hy⟩ := hP
    have hm := low_of_common hw1 hw2 hw3 hsum ha1 ha2 ha3 hx hy hp (hk _ hd1) (hk _ hd2) (hk _ hd3)
    exact ⟨x, y, fun d hd => Rat.le_trans (hall d hd) hm⟩
  · rintro ⟨x, y, h⟩
    exact first_of_common hl (p := ⟨x, y, 0, 0, 0⟩) Rat.le_refl fun d hd => point_keeps (h d hd)
end M
end Go.Proofs.YtellemlhhlafcaaGreatDoor
end
