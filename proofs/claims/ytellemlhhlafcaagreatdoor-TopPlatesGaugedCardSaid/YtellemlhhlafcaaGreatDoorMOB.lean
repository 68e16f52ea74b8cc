/-
  Chapter 48, plain: the play of a circle in its tool, the disc of its shifts, ideal tools; two plates of a joint.
  Top 25, plain: two plates that gauges accept go together.
-/
import Derived.Test.YtellemlhhlafcaaGreatDoorMOA
import Derived.Test.YtellemlhhlafcaaGreatDoorMS
import Derived.Test.YtellemlhhlafcaaGreatDoorMT
section
namespace Go.Proofs.YtellemlhhlafcaaGreatDoor
open Go
abbrev toV (t : M.To) : Value := .agg #[.int .i64 t.x, .int .i64 t.y, .bool t.hole, .int .i64 t.n]
namespace M
def plyT (p : To × Cc) : Int := if p.1.hole = true then p.1.n - p.2.d else p.2.d - p.1.n
def dkT (p : To × Cc) : Dk := ⟨((p.1.x - p.2.x : Int) : Rat), ((p.1.y - p.2.y : Int) : Rat), ((plyT p * plyT p : Int) : Rat) / 4⟩
structure RtO (p : To × Cc) : Prop where
  x : -100000 ≤ p.1.x ∧ p.1.x ≤ 100000
  y : -100000 ≤ p.1.y ∧ p.1.y ≤ 100000
  n : 1 ≤ p.1.n ∧ p.1.n ≤ 300000
  c : RtC p.2
theorem RtO.ply {p : To × Cc} (h : RtO p) : -300000 < plyT p ∧ plyT p < 300000 := by
  have h1 := h.n
  have h2 := h.c.d
  unfold plyT
  split <;> omega
theorem ply_sq {n : Int} (h : -300000 < n ∧ n < 300000) : 0 ≤ n * n ∧ n * n < 90000000000 := by
  have h1 : 0 ≤ (300000 - n) * (300000 + n) := Int.mul_nonneg (by omega) (by omega)
  have h3 : 0 < (300000 - n) * (300000 + n) := Int.mul_pos (by omega) (by omega)
  have h2 : (300000 - n) * (300000 + n) = 90000000000 - n * n := by grind
  have h4 : 0 ≤ n * n := by
    rcases Int.le_total 0 n with h | h
    · exact Int.mul_nonneg h h
    · have := Int.mul_nonneg (show 0 ≤ -n by omega) (show 0 ≤ -n by omega)
      grind
  omega
theorem dkT_sm {p : To × Cc} (h : RtO p) : SmD (dkT p) := by
  have q1 := h.x
  have q2 := h.y
  have q3 := h.c.x
  have q4 := h.c.y
  obtain ⟨h4, h3⟩ := ply_sq h.ply
  refine ⟨⟨p.1.x - p.2.x, p.1.y - p.2.y, plyT p * plyT p, rfl, by omega, by omega, h4, by omega⟩⟩
def idT (t : Tg) : To := ⟨t.x, t.y, t.pin, virt t⟩
theorem plyT_id {t : Tg} {c : Cc} (hm : t.mat = 1) : plyT (idT t, c) = wide t c := by
  unfold plyT idT wide extr virt
  dsimp only
  rw [hm]
  cases t.pin with
  | true => simp; omega
  | false => simp; omega
theorem dkT_id {t : Tg} {c : Cc} (hm : t.mat = 1) : dkT (idT t, c) = dkP (t, c) := by
  unfold dkT dkP
  rw [plyT_id hm]
  rfl
theorem RtO_id {t : Tg} {c : Cc} (h : RtT t) (hc : RtC c) : RtO (idT t, c) := by
  have := virt_rng h
  exact ⟨h.x, h.y, ⟨this.1, by show virt t ≤ 300000; omega⟩, hc⟩
def goT (l : List (To × Cc)) : Bool := l.all (fun p => decide (0 ≤ plyT p)) && (firstD (l.map dkT)).isSome
theorem pow_diff {d e f : Dk} {r q s x y u v : Rat} (hr : 0 ≤ r) (hq : 0 ≤ q) (hd : d.s = r * r) (he : e.s = q * q) (hf : f.s = s * s) (hs : r + q ≤ s) (hx : f.x = d.x - e.x) (hy : f.y = d.y - e.y)
    (h1 : powD d x y ≤ 0) (h2 : powD e u v ≤ 0) : powD f (x - u) (y - v) ≤ 0 := by
  unfold powD at h1 h2 ⊢
  rw [hd] at h1
  rw [he] at h2
  rw [hf, hx, hy]
  obtain ⟨a, ha⟩ : ∃ a, a = x - d.x := ⟨_, rfl⟩
  obtain ⟨b, hb⟩ : ∃ b, b = y - d.y := ⟨_, rfl⟩
  obtain ⟨c, hc⟩ : ∃ c, c = u - e.x := ⟨_, rfl⟩
  obtain ⟨g, hg⟩ : ∃ g, g = v - e.y := ⟨_, rfl⟩
  rw [← ha, ← hb] at h1
  rw [← hc, ← hg] at h2
  have e1 : x - u - (d.x - e.x) = a - c := by rw [ha, hc]; grind
  have e2 : y - v - (d.y - e.y) = b - g := by rw [hb, hg]; grind
  rw [e1, e2]
  clear e1 e2 ha hb hc hg hd he hf hx hy
  have hab := sqz (a * g - b * c)
  have hrq : 0 ≤ r * q := Rat.mul_nonneg hr hq
  have k1 : 0 ≤ (r * r - a * a - b * b) * (c * c + g * g) := Rat.mul_nonneg (by grind) (by have := sqz c; have := sqz g; grind)
  have k2 : 0 ≤ (q * q - c * c - g * g) * (r * r) := Rat.mul_nonneg (by grind) (sqz r)
  have hcs := (abs_of_sq (x := a * c + b * g) (y := r * q) hrq (by grind)).2
  have hss : (r + q) * (r + q) ≤ s * s := by
    have := Rat.mul_nonneg (show 0 ≤ s - (r + q) by grind) (show 0 ≤ s + (r + q) by grind)
    grind
  grind
end M
end Go.Proofs.YtellemlhhlafcaaGreatDoor
end
section
namespace Go.Proofs.YtellemlhhlafcaaGreatDoor
open Go
namespace M
def plyJ (a : Tg) (p q : Cc) : Int := if a.pin = true then q.d - p.d else p.d - q.d
def dkJ (a : Tg) (p q : Cc) : Dk := ⟨((q.x - p.x : Int) : Rat), ((q.y - p.y : Int) : Rat), ((plyJ a p q * plyJ a p q : Int) : Rat) / 4⟩
def mgJ (a b : Tg) : Int := if a.pin = true then virt b - virt a else virt a - virt b
structure RtJ (a b : Tg) (p q : Cc) : Prop where
  hp : RtH (a, p)
  hq : RtH (b, q)
  ma : a.mat = 1
  mb : b.mat = 1
  ex : a.x = b.x
  ey : a.y = b.y
  pin : b.pin = !a.pin
  mg : 0 ≤ mgJ a b
theorem wide_join {a b : Tg} {p q : Cc} (h : RtJ a b p q) : wide a p + wide b q ≤ plyJ a p q := by
  have h1 := plyT_id (c := p) h.ma
  have h2 := plyT_id (c := q) h.mb
  have h3 := h.mg
  have h4 := h.pin
  unfold plyT idT at h1 h2
  unfold mgJ at h3
  unfold plyJ
  dsimp only at h1 h2
  cases hp : a.pin with
  | true =>
    rw [hp] at h1 h3 h4
    rw [h4] at h2
    rw [if_pos rfl] at h1 h3 ⊢
    rw [if_neg (by decide)] at h2
    omega
  | false =>
    rw [hp] at h1 h3 h4
    rw [h4] at h2
    rw [if_neg (by decide)] at h1 h3 ⊢
    rw [if_pos (by decide)] at h2
    omega
theorem dkJ_s (a : Tg) (p q : Cc) : (dkJ a p q).s = (plyJ a p q : Rat) / 2 * ((plyJ a p q : Rat) / 2) := by
  unfold dkJ
  dsimp only
  rw [Rat.intCast_mul]
  grind
theorem pow_join {a b : Tg} {p q : Cc} {x y u v : Rat} (h : RtJ a b p q) (h1 : powD (dkP (a, p)) x y ≤ 0) (h2 : powD (dkP (b, q)) u v ≤ 0) : powD (dkJ a p q) (x - u) (y - v) ≤ 0 := by
  have w1 := h.hp.wide.1
  have w2 := h.hq.wide.1
  have w3 := wide_join h
  have w4 := Rat.intCast_le_intCast.2 w3
  rw [Rat.intCast_add] at w4
  refine pow_diff (half_nn w1) (half_nn w2) (dkP_s (a, p)) (dkP_s (b, q)) (dkJ_s a p q) ?_ ?_ ?_ h1 h2
  · dsimp only at w4 ⊢; grind
  · unfold dkJ dkP
    dsimp only
    rw [h.ex]
    simp only [Rat.intCast_sub]
    grind
  · unfold dkJ dkP
    dsimp only
    rw [h.ey]
    simp only [Rat.intCast_sub]
    grind
def zipJ (A : List Tg) (p q : List Cc) : List Dk := (A.zip (p.zip q)).map fun t => dkJ t.1 t.2.1 t.2.2
theorem join_law {A B : List Tg} {p q : List Cc} (h0 : 0 < A.length) (hB : B.length = A.length) (hp : p.length = A.length) (hq : q.length = A.length)
    (h : ∀ i (h1 : i < A.length) (h2 : i < B.length) (h3 : i < p.length) (h4 : i < q.length), RtJ A[i] B[i] p[i] q[i])
    (h1 : (firstD ((A.zip p).map dkP)).isSome = true) (h2 : (firstD ((B.zip q).map dkP)).isSome = true) : (firstD (zipJ A p q)).isSome = true := by
  have n1 : (A.zip p).map dkP ≠ [] := fun e => by
    have := congrArg List.length e
    rw [List.length_map, List.length_zip, List.length_nil] at this
    omega
  have n2 : (B.zip q).map dkP ≠ [] := fun e => by
    have := congrArg List.length e
    rw [List.length_map, List.length_zip, List.length_nil] at this
    omega
  have n3 : zipJ A p q ≠ [] := fun e => by
    have := congrArg List.length e
    unfold zipJ at this
    rw [List.length_map, List.length_zip, List.length_zip, List.length_nil] at this
    omega
  rw [first_iff n1] at h1
  rw [first_iff n2] at h2
  rw [first_iff n3]
  obtain ⟨x, y, hx⟩ := h1
  obtain ⟨u, v, hu⟩ := h2
  refine ⟨x - u, y - v, fun d hd => ?_⟩
  unfold zipJ at hd
  obtain ⟨t, ht, rfl⟩ := List.mem_map.1 hd
  obtain ⟨i, hi, rfl⟩ := List.mem_iff_getElem.1 ht
  rw [List.length_zip, List.length_zip] at hi
  rw [List.getElem_zip, List.getElem_zip]
  have i1 : i < A.length := by omega
  refine pow_join (h i i1 (by omega) (by omega) (by omega)) (hx _ (List.mem_map.2 ⟨(A[i], p[i]'(by omega)), ?_, rfl⟩)) (hu _ (List.mem_map.2 ⟨(B[i]'(by omega), q[i]'(by omega)), ?_, rfl⟩))
  · exact List.mem_iff_getElem.2 ⟨i, by rw [List.length_zip]; omega, by rw [List.getElem_zip]⟩
  · exact List.mem_iff_getElem.2 ⟨i, by rw [List.length_zip]; omega, by rw [List.getElem_zip]⟩
end M
end Go.Proofs.YtellemlhhlafcaaGreatDoor
end
