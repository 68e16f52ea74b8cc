/-
  Chapter 46, plain: the excess.
  Chapter 46, plain: the excess by pairs of conditions ('Lowest'); what changes it; the size of the simplex' numbers.
  Chapter 46, plain: shifts without a turn.
-/
import Derived.Test.YtellemlhhlafcaaGreatDoorKQ
import Derived.Test.YtellemlhhlafcaaGreatDoorKH
section
namespace Go.Proofs.YtellemlhhlafcaaGreatDoor
open Go
namespace Sx
open M
def FzH (p : Tg × Cc) (dx dy w e : Rat) : Prop :=
  dx - w * p.2.y ≤ (p.1.x - p.2.x) + (wide p.1 p.2 + e) / 2 ∧ (p.1.x - p.2.x) - (wide p.1 p.2 + e) / 2 ≤ dx - w * p.2.y ∧
  dy + w * p.2.x ≤ (p.1.y - p.2.y) + (wide p.1 p.2 + e) / 2 ∧ (p.1.y - p.2.y) - (wide p.1 p.2 + e) / 2 ≤ dy + w * p.2.x
def Fz (pl : Pl) (dx dy w e : Rat) : Prop := ∀ p ∈ pl, FzH p dx dy w e
theorem d3 (a b c x y z : Rat) : dotP [a, b, c] [x, y, z] 3 = a * x + b * y + c * z := by
  simp only [dotP, nth, List.getD_cons_zero, List.getD_cons_succ]; grind
theorem d4 (a b c d x y z u : Rat) : dotP [a, b, c, d] [x, y, z, u] 4 = a * x + b * y + c * z + d * u := by
  simp only [dotP, nth, List.getD_cons_zero, List.getD_cons_succ]; grind
theorem bnd_iff (p : Tg × Cc) (dx dy w e : Rat) : (∀ b ∈ bnd4 p.1 p.2, dotP (b.1 ++ [-1 / 2]) [dx, dy, w, e] 4 ≤ b.2) ↔ FzH p dx dy w e := by
  unfold bnd4 FzH
  simp only [List.mem_cons, List.not_mem_nil, or_false, forall_eq_or_imp, forall_eq, List.cons_append, List.nil_append, d4, Rat.intCast_add, Rat.intCast_sub, Rat.intCast_mul, Rat.intCast_neg, Rat.intCast_ofNat]
  constructor
  · rintro ⟨a, b, c, d⟩
    refine ⟨?_, ?_, ?_, ?_⟩ <;> grind
  · rintro ⟨a, b, c, d⟩
    refine ⟨?_, ?_, ?_, ?_⟩ <;> grind
theorem keepsE_iff {pl : Pl} {dx dy w e : Rat} : Keeps 4 (bndsE pl) [dx, dy, w, e] ↔ Fz pl dx dy w e := by
  unfold Keeps Fz bndsE bnds
  constructor
  · rintro ⟨_, h⟩ p hp
    exact (bnd_iff p dx dy w e).1 fun b hb => h (b.1 ++ [-1 / 2], b.2) (List.mem_map.2 ⟨b, List.mem_flatMap.2 ⟨p, hp, hb⟩, rfl⟩)
  · intro h
    refine ⟨rfl, fun b hb => ?_⟩
    obtain ⟨b', hb', rfl⟩ := List.mem_map.1 hb
    obtain ⟨p, hp, hb2⟩ := List.mem_flatMap.1 hb'
    exact (bnd_iff p dx dy w e).2 (h p hp) b' hb2
theorem len4 {p : List Rat} (h : p.length = 4) : ∃ a b c d, p = [a, b, c, d] := by
  match p, h with
  | [a, b, c, d], _ => exact ⟨a, b, c, d, rfl⟩
def Exc (pl : Pl) (x : Rat) : Prop := (∃ dx dy w, Fz pl dx dy w x) ∧ ∀ dx dy w e, Fz pl dx dy w e → x ≤ e
theorem FzH.mono {p : Tg × Cc} {dx dy w e e' : Rat} (h : FzH p dx dy w e) (he : e ≤ e') : FzH p dx dy w e' := by
  obtain ⟨a, b, c, d⟩ := h
  refine ⟨?_, ?_, ?_, ?_⟩ <;> grind
theorem fz_some : ∀ pl : Pl, ∃ e, Fz pl 0 0 0 e
  | [] => ⟨0, fun p hp => (by cases hp)⟩
  | p :: t => by
    obtain ⟨e, he⟩ := fz_some t
    have h1 : ∃ e', e ≤ e' ∧ FzH p 0 0 0 e' := by
      refine ⟨ab e + 2 * ab (p.1.x - p.2.x) + 2 * ab (p.1.y - p.2.y) + ab (wide p.1 p.2), ?_, ?_⟩
      · unfold ab; repeat' split
        all_goals grind
      · unfold FzH
        have a1 : ab e + 2 * ab (p.1.x - p.2.x) + 2 * ab (p.1.y - p.2.y) + ab (wide p.1 p.2) ≥ 2 * ab (p.1.x - p.2.x) + ab (wide p.1 p.2) := by
          have := ab_nonneg e
          have := ab_nonneg ((p.1.y : Rat) - p.2.y)
          grind
        have a2 : ab e + 2 * ab (p.1.x - p.2.x) + 2 * ab (p.1.y - p.2.y) + ab (wide p.1 p.2) ≥ 2 * ab (p.1.y - p.2.y) + ab (wide p.1 p.2) := by
          have := ab_nonneg e
          have := ab_nonneg ((p.1.x : Rat) - p.2.x)
          grind
        have le_ab : ∀ z : Rat, z ≤ ab z ∧ -z ≤ ab z := fun z => by unfold ab; split <;> constructor <;> grind
        have b1 := le_ab ((p.1.x : Rat) - p.2.x)
        have b2 := le_ab ((p.1.y : Rat) - p.2.y)
        have b3 := le_ab (wide p.1 p.2 : Rat)
        refine ⟨?_, ?_, ?_, ?_⟩ <;> grind
    obtain ⟨e', h2, h3⟩ := h1
    refine ⟨e', fun q hq => ?_⟩
    rcases List.mem_cons.1 hq with rfl | hq
    · exact h3
    · exact (he q hq).mono h2
theorem found_exc {e : Nat} {pl : Pl} {r : (Rat × List Rat × List Rat) ⊕ Nat} (hne : pl ≠ []) (h : Found e 4 (bndsE pl) [0, 0, 0, -1] r) :
    ∃ dx dy w x wt, r = .inl (-x, [dx, dy, w, x], wt) ∧ Exc pl x ∧ Fz pl dx dy w x ∧ ∀ q ∈ [dx, dy, w, x], Bq e q := by
  have hval : ∀ dx dy w x : Rat, dotP [0, 0, 0, -1] [dx, dy, w, x] 4 = -x := fun dx dy w x => by rw [d4]; grind
  obtain ⟨e0, he0⟩ := fz_some pl
  have hk0 := keepsE_iff.2 he0
  match r, h with
  | .inl (v, p, wt), h =>
    have hp := h.1.keeps
    obtain ⟨dx, dy, w, x, rfl⟩ := len4 hp.1
    have hv := h.1.2.1
    rw [hval] at hv
    refine ⟨dx, dy, w, x, wt, by rw [hv], ⟨⟨dx, dy, w, keepsE_iff.1 hp⟩, fun dx' dy' w' x' h2 => ?_⟩, keepsE_iff.1 hp, h.2.1⟩
    have h3 := h.1.le (keepsE_iff.2 h2)
    rw [hval] at h3
    grind
  | .inr k, h =>
    rcases h with ⟨_, wt, hw⟩ | ⟨_, p, q, hp, hq, hq2, hq3⟩
    · exact (keeps_contra hk0 hw).elim
    · exfalso
      obtain ⟨dx, dy, w, x, rfl⟩ := len4 hq
      rw [hval] at hq3
      obtain ⟨p0, t, rfl⟩ : ∃ p0 t, pl = p0 :: t := by
        cases pl with
        | nil => exact absurd rfl hne
        | cons a b => exact ⟨a, b, rfl⟩
      have m1 := hq2 ([1, 0, ((-p0.2.y : Int) : Rat), -1 / 2], _) (by unfold bndsE bnds; exact List.mem_map.2 ⟨_, List.mem_flatMap.2 ⟨p0, List.mem_cons_self, List.mem_cons_self⟩, rfl⟩)
      have m2 := hq2 ([-1, 0, ((p0.2.y : Int) : Rat), -1 / 2], _) (by unfold bndsE bnds; exact List.mem_map.2 ⟨_, List.mem_flatMap.2 ⟨p0, List.mem_cons_self, List.mem_cons_of_mem _ List.mem_cons_self⟩, rfl⟩)
      simp only [d4, Rat.intCast_neg] at m1 m2
      grind
end Sx
end Go.Proofs.YtellemlhhlafcaaGreatDoor
end
section
namespace Go.Proofs.YtellemlhhlafcaaGreatDoor
open Go
namespace M
def ln1 (p q : Tg × Cc) : Int × Int := (2 * (p.1.x - p.2.x) - 2 * (q.1.x - q.2.x) - (wide p.1 p.2 + wide q.1 q.2), 2 * (p.2.y - q.2.y))
def ln2 (p q : Tg × Cc) : Int × Int := (2 * (p.1.y - p.2.y) - 2 * (q.1.y - q.2.y) - (wide p.1 p.2 + wide q.1 q.2), 2 * (q.2.x - p.2.x))
def linesZ (pl : Pl) : List (Int × Int) := pl.flatMap fun p => pl.flatMap fun q => [ln1 p q, ln2 p q]
def crossQ (i j : Nat) (a b : Int × Int) : Option Rat :=
  if (decide (a.2 < 0) && decide (0 < b.2)) = true then some (((a.1 * b.2 - b.1 * a.2 : Int) : Rat) / ((b.2 - a.2 : Int) : Rat))
  else if (decide (a.2 = 0) && decide (i = j)) = true then some ((a.1 : Int) : Rat) else none
def bestQ : Option Rat → Option Rat → Option Rat
  | s, none => s
  | none, some x => some x
  | some y, some x => if y < x then some x else some y
def lowRow (l : List (Int × Int)) (i : Nat) (s : Option Rat) : Nat → Option Rat
  | 0 => s
  | j + 1 => bestQ (lowRow l i s j) (crossQ i j (l.getD i (0, 0)) (l.getD j (0, 0)))
def lowAll (l : List (Int × Int)) : Nat → Option Rat
  | 0 => none
  | i + 1 => lowRow l i (lowAll l i) l.length
def lowestQ (l : List (Int × Int)) : Rat := (lowAll l l.length).getD 0
def overQ (pl : Pl) : Rat := lowestQ (linesZ pl) / 2
end M
namespace Sx
open M
def BestOf (S : Rat → Prop) (s : Option Rat) : Prop := match s with
  | none => ∀ x, ¬ S x
  | some y => S y ∧ ∀ x, S x → x ≤ y
theorem best_step {S : Rat → Prop} {s c : Option Rat} (h : BestOf S s) : BestOf (fun x => S x ∨ c = some x) (bestQ s c) := by
  cases c with
  | none =>
    cases s with
    | none => exact fun x hx => hx.elim (h x) (fun e => by cases e)
    | some y => exact ⟨Or.inl h.1, fun x hx => hx.elim (h.2 x) (fun e => by cases e)⟩
  | some z =>
    cases s with
    | none => exact ⟨Or.inr rfl, fun x hx => hx.elim (fun e => absurd e (h x)) (fun e => by injection e with e; rw [e]; exact Rat.le_refl)⟩
    | some y =>
      unfold bestQ
      simp only
      split
      · rename_i h1
        exact ⟨Or.inr rfl, fun x hx => hx.elim (fun e => by have := h.2 x e; grind) (fun e => by injection e with e; rw [e]; exact Rat.le_refl)⟩
      · rename_i h1
        exact ⟨Or.inl h.1, fun x hx => hx.elim (h.2 x) (fun e => by injection e with e; rw [← e]; exact Rat.not_lt.1 h1)⟩
theorem BestOf.congr {S T : Rat → Prop} {s : Option Rat} (h : BestOf S s) (e : ∀ x, S x ↔ T x) : BestOf T s := by
  rw [show T = S from funext fun x => propext (e x).symm]; exact h
theorem lowRow_best (l : List (Int × Int)) (i : Nat) {S : Rat → Prop} {s : Option Rat} (h : BestOf S s) : ∀ j, BestOf (fun x => S x ∨ ∃ k, k < j ∧ crossQ i k (l.getD i (0, 0)) (l.getD k (0, 0)) = some x) (lowRow l i s j)
  | 0 => h.congr fun x => ⟨Or.inl, fun h => h.elim id fun ⟨k, hk, _⟩ => by omega⟩
  | j + 1 => (best_step (lowRow_best l i h j)).congr fun x => by
    constructor
    · rintro ((h | ⟨k, hk, e⟩) | e)
      · exact Or.inl h
      · exact Or.inr ⟨k, by omega, e⟩
      · exact Or.inr ⟨j, by omega, e⟩
    · rintro (h | ⟨k, hk, e⟩)
      · exact Or.inl (Or.inl h)
      · rcases Nat.lt_or_eq_of_le (Nat.le_of_lt_succ hk) with h1 | rfl
        · exact Or.inl (Or.inr ⟨k, h1, e⟩)
        · exact Or.inr e
theorem lowAll_best (l : List (Int × Int)) : ∀ i, BestOf (fun x => ∃ a b, a < i ∧ b < l.length ∧ crossQ a b (l.getD a (0, 0)) (l.getD b (0, 0)) = some x) (lowAll l i)
  | 0 => fun x => by rintro ⟨a, b, h, _⟩; omega
  | i + 1 => (lowRow_best l i (lowAll_best l i) l.length).congr fun x => by
    constructor
    · rintro (⟨a, b, h1, h2, e⟩ | ⟨k, hk, e⟩)
      · exact ⟨a, b, by omega, h2, e⟩
      · exact ⟨i, k, by omega, hk, e⟩
    · rintro ⟨a, b, h1, h2, e⟩
      rcases Nat.lt_or_eq_of_le (Nat.le_of_lt_succ h1) with h3 | rfl
      · exact Or.inl ⟨a, b, h3, h2, e⟩
      · exact Or.inr ⟨b, h2, e⟩
theorem between : ∀ (lo hi : List Rat), (∀ a ∈ lo, ∀ b ∈ hi, a ≤ b) → ∃ x, (∀ a ∈ lo, a ≤ x) ∧ ∀ b ∈ hi, x ≤ b
  | [], [], _ => ⟨0, (fun a h => by cases h), fun a h => by cases h⟩
  | [], b :: t, _ => by
      obtain ⟨x, _, h2⟩ := between [] t (fun a h => by cases h)
      by_cases hx : x ≤ b
      · exact ⟨x, (fun a h => by cases h), fun c hc => (List.mem_cons.1 hc).elim (fun e => e ▸ hx) (h2 c)⟩
      · refine ⟨b, (fun a h => by cases h), fun c hc => (List.mem_cons.1 hc).elim (fun e2 => e2 ▸ Rat.le_refl) fun hc => ?_⟩
        have := h2 c hc
        grind
  | a :: t, hi, h => by
    obtain ⟨x, h1, h2⟩ := between t hi fun c hc => h c (List.mem_cons_of_mem _ hc)
    have h3 := h a List.mem_cons_self
    by_cases hx : a ≤ x
    · exact ⟨x, fun c hc => (List.mem_cons.1 hc).elim (fun e => e ▸ hx) (h1 c), h2⟩
    · refine ⟨a, fun c hc => (List.mem_cons.1 hc).elim (fun e2 => e2 ▸ Rat.le_refl) fun hc => ?_, h3⟩
      have := h1 c hc
      grind
theorem getD_get {α} (l : List α) (d : α) {i : Nat} (h : i < l.length) : l.getD i d = l[i] := by simp [h]
theorem lowest_spec (l : List (Int × Int)) (h0 : ∃ a ∈ l, a.2 = 0) : (∃ w : Rat, ∀ a ∈ l, (a.1 : Rat) + a.2 * w ≤ lowestQ l) ∧ ∀ (w g : Rat), (∀ a ∈ l, (a.1 : Rat) + a.2 * w ≤ g) → lowestQ l ≤ g := by
  have hb := lowAll_best l l.length
  obtain ⟨a0, ha0, hz⟩ := h0
  obtain ⟨i0, hi0, rfl⟩ := List.mem_iff_getElem.1 ha0
  unfold lowestQ
  cases hl : lowAll l l.length with
  | none =>
    exfalso
    rw [hl] at hb
    refine hb ((l[i0].1 : Int) : Rat) ⟨i0, i0, hi0, hi0, ?_⟩
    unfold crossQ
    rw [getD_get _ _ hi0, if_neg (by simp [hz]), if_pos (by simp [hz])]
  | some m =>
    rw [hl] at hb
    obtain ⟨⟨a, b, ha, hb1, hc⟩, hmax⟩ := hb
    show (∃ w : Rat, ∀ a ∈ l, (a.1 : Rat) + a.2 * w ≤ m) ∧ ∀ (w g : Rat), (∀ a ∈ l, (a.1 : Rat) + a.2 * w ≤ g) → m ≤ g
    refine ⟨?_, fun w g hg => ?_⟩
    · obtain ⟨w, h1, h2⟩ := between ((l.filter fun a => decide (a.2 < 0)).map fun a => (m - a.1) / a.2) ((l.filter fun a => decide (0 < a.2)).map fun a => (m - a.1) / a.2) fun x hx y hy => by
        obtain ⟨p, hp, rfl⟩ := List.mem_map.1 hx
        obtain ⟨q, hq, rfl⟩ := List.mem_map.1 hy
        obtain ⟨hp1, hp2⟩ := List.mem_filter.1 hp
        obtain ⟨hq1, hq2⟩ := List.mem_filter.1 hq
        simp only [decide_eq_true_eq] at hp2 hq2
        obtain ⟨i, hi, rfl⟩ := List.mem_iff_getElem.1 hp1
        obtain ⟨j, hj, rfl⟩ := List.mem_iff_getElem.1 hq1
        have h3 := hmax (((l[i].1 * l[j].2 - l[j].1 * l[i].2 : Int) : Rat) / ((l[j].2 - l[i].2 : Int) : Rat)) ⟨i, j, hi, hj, by unfold crossQ; rw [getD_get _ _ hi, getD_get _ _ hj, if_pos (by simp [hp2, hq2])]⟩
        have e1 : (l[i].2 : Rat) < 0 := Rat.intCast_lt_intCast.2 hp2
        have e2 : (0 : Rat) < (l[j].2 : Rat) := Rat.intCast_lt_intCast.2 hq2
        generalize l[i].1 = a1 at *
        generalize l[i].2 = b1 at *
        generalize l[j].1 = a2 at *
        generalize l[j].2 = b2 at *
        rw [Rat.intCast_sub, Rat.intCast_mul, Rat.intCast_mul, Rat.intCast_sub] at h3
        have h4 : (0 : Rat) < (b2 : Rat) - b1 := by grind
        have h5 := Rat.mul_le_mul_of_nonneg_right h3 (Rat.le_of_lt h4)
        rw [Rat.div_mul_cancel (by grind)] at h5
        -- (m - a1) / b1 ≤ (m - a2) / b2
        have h6 : (m - a1) / b1 = (a1 - m) / (-b1) := by grind
        rw [h6]
        have h7 : (0 : Rat) < -(b1 : Rat) := by grind
        have h8 := Rat.mul_pos h7 e2
        refine Classical.byContradiction fun h9 => ?_
        have h9 := Rat.not_le.1 h9
        have h10 := Rat.mul_lt_mul_of_pos_right h9 h8
        have h11 : (a1 - m) / (-b1 : Rat) * (-b1 * b2) = (a1 - m) * b2 := by
          have : (-b1 : Rat) ≠ 0 := by grind
          rw [show (a1 - m) / (-b1 : Rat) * (-b1 * b2) = ((a1 - m) / (-b1 : Rat) * -b1) * b2 by grind, Rat.div_mul_cancel this]
        have h12 : (m - a2) / (b2 : Rat) * (-b1 * b2) = (m - a2) * -b1 := by
          have : (b2 : Rat) ≠ 0 := by grind
          rw [show (m - a2) / (b2 : Rat) * (-b1 * b2) = ((m - a2) / (b2 : Rat) * b2) * -b1 by grind, Rat.div_mul_cancel this]
        rw [h11, h12] at h10
        grind
      refine ⟨w, fun p hp => ?_⟩
      obtain ⟨i, hi, e⟩ := List.mem_iff_getElem.1 hp
      rcases Int.lt_trichotomy p.2 0 with h3 | h3 | h3
      · have h4 := h1 ((m - p.1) / p.2) (List.mem_map.2 ⟨p, List.mem_filter.2 ⟨hp, by simpa using h3⟩, rfl⟩)
        have e1 : (p.2 : Rat) < 0 := Rat.intCast_lt_intCast.2 h3
        have h5 : (0 : Rat) ≤ -(p.2 : Rat) := by grind
        have h6 := Rat.mul_le_mul_of_nonneg_right h4 h5
        have h7 : (m - p.1) / (p.2 : Rat) * -p.2 = -(m - p.1) := by
          have : (p.2 : Rat) ≠ 0 := by grind
          rw [show (m - p.1) / (p.2 : Rat) * -p.2 = -((m - p.1) / (p.2 : Rat) * p.2) by grind, Rat.div_mul_cancel this]
        rw [h7] at h6
        grind
      · have h4 := hmax ((p.1 : Int) : Rat) ⟨i, i, hi, hi, by unfold crossQ; rw [getD_get _ _ hi, e, if_neg (by simp [h3]), if_pos (by simp [h3])]⟩
        rw [h3, show ((0 : Int) : Rat) = 0 from rfl]
        grind
      · have h4 := h2 ((m - p.1) / p.2) (List.mem_map.2 ⟨p, List.mem_filter.2 ⟨hp, by simpa using h3⟩, rfl⟩)
        have e1 : (0 : Rat) < (p.2 : Rat) := Rat.intCast_lt_intCast.2 h3
        have h6 := Rat.mul_le_mul_of_nonneg_right h4 (Rat.le_of_lt e1)
        rw [Rat.div_mul_cancel (by grind)] at h6
        grind
    · unfold crossQ at hc
      rw [getD_get _ _ ha, getD_get _ _ hb1] at hc
      have ga := hg _ (List.getElem_mem ha)
      have gb := hg _ (List.getElem_mem hb1)
      generalize l[a] = p at *
      generalize l[b] = q at *
      split at hc
      · rename_i h1
        simp only [Bool.and_eq_true, decide_eq_true_eq] at h1
        have e1 : (p.2 : Rat) < 0 := Rat.intCast_lt_intCast.2 h1.1
        have e2 : (0 : Rat) < (q.2 : Rat) := Rat.intCast_lt_intCast.2 h1.2
        injection hc with hc
        rw [← hc, Rat.intCast_sub, Rat.intCast_mul, Rat.intCast_mul, Rat.intCast_sub]
        have h4 : (0 : Rat) < (q.2 : Rat) - p.2 := by grind
        refine Classical.byContradiction fun h9 => ?_
        have h10 := Rat.mul_lt_mul_of_pos_right (Rat.not_le.1 h9) h4
        rw [Rat.div_mul_cancel (by grind)] at h10
        have g1 := Rat.mul_le_mul_of_nonneg_right ga (Rat.le_of_lt e2)
        have g2 := Rat.mul_le_mul_of_nonneg_right gb (show (0 : Rat) ≤ -(p.2 : Rat) by grind)
        grind
      · split at hc
        · rename_i h1
          simp only [Bool.and_eq_true, decide_eq_true_eq] at h1
          injection hc with hc
          rw [← hc]
          rw [h1.1, show ((0 : Int) : Rat) = 0 from rfl] at ga
          grind
        · cases hc
theorem shifts_iff (pl : Pl) (w e : Rat) : (∃ dx dy, Fz pl dx dy w e) ↔ ∀ a ∈ linesZ pl, (a.1 : Rat) + a.2 * w ≤ 2 * e := by
  have hmem : ∀ a, a ∈ linesZ pl ↔ ∃ p ∈ pl, ∃ q ∈ pl, a = ln1 p q ∨ a = ln2 p q := fun a => by
    unfold linesZ
    simp only [List.mem_flatMap, List.mem_cons, List.not_mem_nil, or_false]
  constructor
  · rintro ⟨dx, dy, h⟩ a ha
    obtain ⟨p, hp, q, hq, h2⟩ := (hmem a).1 ha
    obtain ⟨a1, a2, a3, a4⟩ := h p hp
    obtain ⟨b1, b2, b3, b4⟩ := h q hq
    rcases h2 with rfl | rfl
    · unfold ln1
      simp only [Rat.intCast_sub, Rat.intCast_mul, Rat.intCast_add, Rat.intCast_ofNat]
      grind
    · unfold ln2
      simp only [Rat.intCast_sub, Rat.intCast_mul, Rat.intCast_add, Rat.intCast_ofNat]
      grind
  · intro h
    obtain ⟨dx, x1, x2⟩ := between (pl.map fun p => (p.1.x - p.2.x : Rat) - (wide p.1 p.2 + e) / 2 + w * p.2.y) (pl.map fun p => (p.1.x - p.2.x : Rat) + (wide p.1 p.2 + e) / 2 + w * p.2.y) fun a ha b hb => by
      obtain ⟨p, hp, rfl⟩ := List.mem_map.1 ha
      obtain ⟨q, hq, rfl⟩ := List.mem_map.1 hb
      have h1 := h (ln1 p q) ((hmem _).2 ⟨p, hp, q, hq, Or.inl rfl⟩)
      unfold ln1 at h1
      simp only [Rat.intCast_sub, Rat.intCast_mul, Rat.intCast_add, Rat.intCast_ofNat] at h1
      grind
    obtain ⟨dy, y1, y2⟩ := between (pl.map fun p => (p.1.y - p.2.y : Rat) - (wide p.1 p.2 + e) / 2 - w * p.2.x) (pl.map fun p => (p.1.y - p.2.y : Rat) + (wide p.1 p.2 + e) / 2 - w * p.2.x) fun a ha b hb => by
      obtain ⟨p, hp, rfl⟩ := List.mem_map.1 ha
      obtain ⟨q, hq, rfl⟩ := List.mem_map.1 hb
      have h1 := h (ln2 p q) ((hmem _).2 ⟨p, hp, q, hq, Or.inr rfl⟩)
      unfold ln2 at h1
      simp only [Rat.intCast_sub, Rat.intCast_mul, Rat.intCast_add, Rat.intCast_ofNat] at h1
      grind
    refine ⟨dx, dy, fun p hp => ?_⟩
    have a1 := x1 _ (List.mem_map.2 ⟨p, hp, rfl⟩)
    have a2 := x2 _ (List.mem_map.2 ⟨p, hp, rfl⟩)
    have a3 := y1 _ (List.mem_map.2 ⟨p, hp, rfl⟩)
    have a4 := y2 _ (List.mem_map.2 ⟨p, hp, rfl⟩)
    unfold FzH
    refine ⟨?_, ?_, ?_, ?_⟩ <;> grind
theorem exc_over {pl : Pl} (h : pl ≠ []) : Exc pl (overQ pl) := by
  obtain ⟨p, t, rfl⟩ : ∃ p t, pl = p :: t := by
    cases pl with
    | nil => exact absurd rfl h
    | cons a b => exact ⟨a, b, rfl⟩
  have h0 : ∃ a ∈ linesZ (p :: t), a.2 = 0 := by
    refine ⟨ln1 p p, ?_, ?_⟩
    · unfold linesZ
      exact List.mem_flatMap.2 ⟨p, List.mem_cons_self, List.mem_flatMap.2 ⟨p, List.mem_cons_self, List.mem_cons_self⟩⟩
    · unfold ln1; simp only; omega
  obtain ⟨⟨w, h1⟩, h2⟩ := lowest_spec _ h0
  unfold overQ
  refine ⟨?_, fun dx dy w' e h3 => ?_⟩
  · obtain ⟨dx, dy, h3⟩ := (shifts_iff (p :: t) w (lowestQ (linesZ (p :: t)) / 2)).2 fun a ha => by
      have := h1 a ha
      grind
    exact ⟨dx, dy, w, h3⟩
  · have h4 := h2 w' (2 * e) ((shifts_iff (p :: t) w' e).1 ⟨dx, dy, h3⟩)
    grind
theorem FzH.tol {t : Tg} {c : Cc} {k : Int} {dx dy w e : Rat} : FzH ({t with tol := t.tol + k}, c) dx dy w e ↔ FzH (t, c) dx dy w (e + k) := by
  have e1 : wide {t with tol := t.tol + k} c = wide t c + k := by unfold wide extr; simp only; omega
  unfold FzH
  rw [e1, Rat.intCast_add]
  constructor
  · rintro ⟨a, b, c, d⟩; refine ⟨?_, ?_, ?_, ?_⟩ <;> grind
  · rintro ⟨a, b, c, d⟩; refine ⟨?_, ?_, ?_, ?_⟩ <;> grind
theorem exc_fewer {pl pl' : Pl} {x y : Rat} (h : Exc pl x) (h' : Exc pl' y) (hs : ∀ p ∈ pl', p ∈ pl) : y ≤ x := by
  obtain ⟨⟨dx, dy, w, h1⟩, _⟩ := h
  exact h'.2 dx dy w x fun p hp => h1 p (hs p hp)
def HalfI (z : Nat) (x : Rat) : Prop := ∃ k : Int, 2 * x = k ∧ k.natAbs ≤ z
def RightP (n : Nat) (l : List BQ) : Prop := ∀ b ∈ l, b.1.length = n ∧ (∀ x ∈ b.1, HalfI 200000 x) ∧ HalfI 600000 b.2
theorem HalfI.bq {z : Nat} {x : Rat} (h : HalfI z x) (hz : z < 10 ^ 8) : Bq 8 x := by
  obtain ⟨k, h1, h2⟩ := h
  have e : x = (k : Rat) / ((2 : Int) : Rat) := by
    rw [show ((2 : Int) : Rat) = 2 from rfl]; grind
  have h3 := frac_parts (y := x) (P := (k : Rat)) (Q := 2) (a := 10 ^ 8) (d := 3) ⟨k, rfl⟩ ⟨2, rfl⟩ (by decide +kernel) (by grind) (by
    rw [ab_int]; exact Rat.natCast_lt_natCast.2 (by omega)) (by decide +kernel)
  exact ⟨h3.1, Nat.lt_trans h3.2 (by decide)⟩
theorem RightP.right {n : Nat} {l : List BQ} (h : RightP n l) : RightB n l := fun b hb => ⟨(h b hb).1, fun x hx => ((h b hb).2.1 x hx).bq (by decide), (h b hb).2.2.bq (by decide)⟩
theorem HalfI.int {z : Nat} {k : Int} (h : 2 * k.natAbs ≤ z) : HalfI z (k : Rat) := ⟨2 * k, by rw [Rat.intCast_mul]; rfl, by omega⟩
theorem HalfI.zero (z : Nat) : HalfI z 0 := ⟨0, by decide +kernel, by omega⟩
theorem half_half {z : Nat} {k : Int} (h : k.natAbs ≤ z) : HalfI z ((k : Rat) / 2) := ⟨k, by grind, h⟩
def Unit1 (x : Rat) : Prop := x = 0 ∨ x = 1 ∨ x = -1
theorem nth_half {l : List Rat} {z : Nat} (h : ∀ x ∈ l, HalfI z x) (k : Nat) : HalfI z (nth l k) := by
  unfold nth
  by_cases hk : k < l.length
  · rw [show l.getD k 0 = l[k] by simp [hk]]; exact h _ (List.getElem_mem hk)
  · rw [show l.getD k 0 = 0 by simp [Nat.not_lt.1 hk]]; exact HalfI.zero _
theorem nth_unit1 {l : List Rat} (h : ∀ x ∈ l, Unit1 x) (k : Nat) : Unit1 (nth l k) := by
  unfold nth
  by_cases hk : k < l.length
  · rw [show l.getD k 0 = l[k] by simp [hk]]; exact h _ (List.getElem_mem hk)
  · rw [show l.getD k 0 = 0 by simp [Nat.not_lt.1 hk]]; exact Or.inl rfl
theorem HalfI.neg {z : Nat} {x : Rat} (h : HalfI z x) : HalfI z (-x) := by
  obtain ⟨k, h1, h2⟩ := h
  exact ⟨-k, by rw [Rat.intCast_neg, ← h1]; grind, by omega⟩
theorem HalfI.ab {z : Nat} {x : Rat} (h : HalfI z x) : IsI (2 * x) ∧ ab (2 * x) ≤ ((z : Nat) : Rat) := by
  obtain ⟨k, h1, h2⟩ := h
  refine ⟨⟨k, h1⟩, ?_⟩
  rw [h1, ab_int]
  exact Rat.natCast_le_natCast.2 h2
theorem Unit1.ab {x : Rat} (h : Unit1 x) : IsI (2 * x) ∧ ab (2 * x) ≤ ((2 : Nat) : Rat) := by
  rcases h with rfl | rfl | rfl
  · exact ⟨⟨0, by decide +kernel⟩, by decide +kernel⟩
  · exact ⟨⟨2, by decide +kernel⟩, by decide +kernel⟩
  · exact ⟨⟨-2, by decide +kernel⟩, by decide +kernel⟩
theorem Unit1.neg {x : Rat} (h : Unit1 x) : Unit1 (-x) := by
  rcases h with rfl | rfl | rfl
  · exact Or.inl (by grind)
  · exact Or.inr (Or.inr rfl)
  · exact Or.inr (Or.inl (by grind))
theorem szd_plate {n : Nat} {l : List BQ} {goal : List Rat} (hr : RightP n l) (hg : ∀ x ∈ goal, Unit1 x) (hm : l.length ≤ 20) : Szd n l.length (laidA n l) (goalF n goal) ((12000000 : Nat) : Rat) := by
  have hart : goalF n goal (2 * n + l.length) = 0 := by unfold goalF; rw [if_neg (by omega), if_neg (by omega)]
  refine ⟨fun j _ => by unfold goalF; rw [if_neg (by omega), if_neg (by omega)], by rw [hart]; exact ⟨0, rfl⟩, by rw [hart]; decide +kernel, ?_⟩
  have keyR : ∀ k, (k < 2 * n ∨ k = 2 * n + l.length + 1) → ∀ r, r < l.length → HalfI (if k < 2 * n then 200000 else 600000) (laidA n l r k) := fun k hk r hr2 => by
    have hb := hr _ (getD_mem hr2)
    unfold laidA wdt
    rw [if_pos hr2]
    by_cases h1 : k < n
    · rw [if_pos h1, if_pos (by omega)]; exact nth_half hb.2.1 _
    · rw [if_neg h1]
      by_cases h2 : k < 2 * n
      · rw [if_pos h2, if_pos h2]; exact (nth_half hb.2.1 _).neg
      · rw [if_neg h2, if_neg h2, if_neg (by omega), if_neg (by omega), if_pos (by omega)]; exact hb.2.2
  have keyG : ∀ k, (k < 2 * n ∨ k = 2 * n + l.length + 1) → Unit1 (goalF n goal k) ∧ (¬ k < 2 * n → goalF n goal k = 0) := fun k hk => by
    unfold goalF
    by_cases h1 : k < n
    · rw [if_pos h1]; exact ⟨nth_unit1 hg _, fun h => by omega⟩
    · rw [if_neg h1]
      by_cases h2 : k < 2 * n
      · rw [if_pos h2]; exact ⟨(nth_unit1 hg _).neg, fun h => by omega⟩
      · rw [if_neg h2]; exact ⟨Or.inl rfl, fun _ => rfl⟩
  refine ⟨fun _ => 2, fun k hk => ⟨⟨2, rfl⟩, (by decide +kernel : (1 : Rat) ≤ 2), (by decide +kernel : (2 : Rat) ≤ ((12000000 : Nat) : Rat)), fun r hr2 => ?_, ?_⟩⟩
  · cases r with
    | zero => exact (keyG k hk).1.ab.1
    | succ r => exact (keyR k hk r (by omega)).ab.1
  · rw [sm_head]
    have h1 : sm l.length (fun r => ab (2 * xt (laidA n l) (goalF n goal) k (r + 1))) ≤ sm l.length (fun _ => (((if k < 2 * n then 200000 else 600000) : Nat) : Rat)) := sm_le fun r hr2 => (keyR k hk r hr2).ab.2
    rw [sm_const, ← Rat.natCast_mul] at h1
    have h2 : ab (2 * xt (laidA n l) (goalF n goal) k 0) ≤ (((if k < 2 * n then 2 else 0) : Nat) : Rat) := by
      show ab (2 * goalF n goal k) ≤ _
      by_cases h3 : k < 2 * n
      · rw [if_pos h3]; exact (keyG k hk).1.ab.2
      · rw [if_neg h3, (keyG k hk).2 h3]; decide +kernel
    have h4 : ((if k < 2 * n then 2 else 0) + l.length * (if k < 2 * n then 200000 else 600000) : Nat) ≤ 12000000 := by split <;> omega
    have h5 := Rat.natCast_le_natCast.2 h4
    rw [Rat.natCast_add] at h5
    grind
theorem fitsP4 : ∀ m, m < 21 → 12000000 ^ 4 * (m + 1) * 12000000 < 10 ^ 37 := by decide +kernel
theorem most_plate {l : List BQ} {goal : List Rat} (hr : RightP 4 l) (hg : ∀ x ∈ goal, Unit1 x) (hm : l.length ≤ 20) :
    ∃ f r, mostT 37 f 4 l goal = some r ∧ Found 37 4 l goal r :=
  most_end (szd_plate hr hg hm) (fits_of (by omega) (Or.inl (fitsP4 _ (by omega)))) (fun x hx => by
    rcases hg x hx with rfl | rfl | rfl
    · exact Bq_nil.mono (by decide)
    · exact ⟨by decide +kernel, by decide +kernel⟩
    · exact ⟨by decide +kernel, by decide +kernel⟩) (by decide)
theorem half_int {z : Nat} {k : Int} (h : 2 * k.natAbs ≤ z) : HalfI z (k : Rat) := HalfI.int h
theorem bnd_right {p : Tg × Cc} (h : RtH p) : ∀ b ∈ bnd4 p.1 p.2, b.1.length = 3 ∧ (∀ x ∈ b.1, HalfI 200000 x) ∧ HalfI 600000 b.2 := by
  have hw := h.wide
  have a1 := h.1.x
  have a2 := h.1.y
  have a3 := h.2.1.x
  have a4 := h.2.1.y
  have o1 : HalfI 200000 1 := half_int (k := 1) (by decide)
  have o2 : HalfI 200000 (-1) := half_int (k := -1) (by decide)
  have o3 : HalfI 200000 0 := HalfI.zero _
  unfold bnd4
  simp only [List.mem_cons, List.not_mem_nil, or_false, forall_eq_or_imp, forall_eq]
  exact ⟨⟨rfl, ⟨o1, o3, half_int (by omega)⟩, half_half (by omega)⟩, ⟨rfl, ⟨o2, o3, half_int (by omega)⟩, half_half (by omega)⟩, ⟨rfl, ⟨o3, o1, half_int (by omega)⟩, half_half (by omega)⟩, ⟨rfl, ⟨o3, o2, half_int (by omega)⟩, half_half (by omega)⟩⟩
theorem bnds_rightP {pl : Pl} (h : ∀ p ∈ pl, RtH p) : RightP 3 (bnds pl) := fun b hb => by
  obtain ⟨p, hp, hb2⟩ := List.mem_flatMap.1 hb
  exact bnd_right (h p hp) b hb2
theorem bndsE_rightP {pl : Pl} (h : ∀ p ∈ pl, RtH p) : RightP 4 (bndsE pl) := fun b hb => by
  obtain ⟨b', hb', rfl⟩ := List.mem_map.1 hb
  obtain ⟨h1, h2, h3⟩ := bnds_rightP h b' hb'
  refine ⟨by rw [List.length_append, h1]; rfl, fun x hx => ?_, h3⟩
  rcases List.mem_append.1 hx with hx | hx
  · exact h2 x hx
  · rw [List.mem_singleton.1 hx]; exact ⟨-1, by decide +kernel, by decide⟩
end Sx
end Go.Proofs.YtellemlhhlafcaaGreatDoor
end
section
namespace Go.Proofs.YtellemlhhlafcaaGreatDoor
open Go
namespace M
end M
namespace Sx
open M
end Sx
end Go.Proofs.YtellemlhhlafcaaGreatDoor
end
