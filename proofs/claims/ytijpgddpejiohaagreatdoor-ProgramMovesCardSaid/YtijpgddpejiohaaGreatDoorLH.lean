/-
  Chapter 3, plain: sets of numbers as lists of spans; the normal form is unique; what 'Tidy' of the reference does.
  Chapter 3, plain: the sweep over the ends of spans, and the set that it yields.
  Chapter 3, plain: union, intersection, difference and length of sets, as the program and as the reference find them.
  Numbers and their texts: what the chapters above layer 2 want. (Printed by wip/gend.py.)
-/
import Derived.Test.YtijpgddpejiohaaGreatDoorLG
import Derived.Test.YtijpgddpejiohaaGreatDoorLF
section
namespace Go.Proofs.YtijpgddpejiohaaGreatDoor
open Go Go.RowKit Go.Deep
namespace M
abbrev SQ := Rat × Rat
def inS (a : SQ) (x : Rat) : Prop := a.1 ≤ x ∧ x ≤ a.2
def inL (l : List SQ) (x : Rat) : Prop := ∃ a ∈ l, inS a x
/-- Spans in ascending order, apart from each other. -/
def Nf (l : List SQ) : Prop := (∀ a ∈ l, a.1 ≤ a.2) ∧ l.Pairwise fun a b => a.2 < b.1
theorem qtot (a b : Rat) : a ≤ b ∨ b ≤ a := Rat.le_total
theorem qmid {p q : Rat} (h : p < q) : p < (p + q) / 2 ∧ (p + q) / 2 < q := by constructor <;> grind
theorem inL_nil {x : Rat} : ¬ inL [] x := by rintro ⟨a, h, _⟩; cases h
theorem inL_cons {a : SQ} {l : List SQ} {x : Rat} : inL (a :: l) x ↔ inS a x ∨ inL l x := by
  unfold inL; simp
theorem inL_append {l m : List SQ} {x : Rat} : inL (l ++ m) x ↔ inL l x ∨ inL m x := by
  unfold inL
  constructor
  · rintro ⟨a, h, h2⟩
    rcases List.mem_append.1 h with h | h
    · exact Or.inl ⟨a, h, h2⟩
    · exact Or.inr ⟨a, h, h2⟩
  · rintro (⟨a, h, h2⟩ | ⟨a, h, h2⟩)
    · exact ⟨a, List.mem_append_left _ h, h2⟩
    · exact ⟨a, List.mem_append_right _ h, h2⟩
theorem inL_one {a : SQ} {x : Rat} : inL [a] x ↔ inS a x := by unfold inL; simp
theorem Nf.tail {a : SQ} {l : List SQ} (h : Nf (a :: l)) : Nf l := ⟨fun b hb => h.1 b (List.mem_cons_of_mem _ hb), (List.pairwise_cons.1 h.2).2⟩
theorem Nf.first {a : SQ} {l : List SQ} (h : Nf (a :: l)) : a.1 ≤ a.2 := h.1 a List.mem_cons_self
theorem Nf.head {a : SQ} {l : List SQ} (h : Nf (a :: l)) : ∀ b ∈ l, a.2 < b.1 := (List.pairwise_cons.1 h.2).1
theorem Nf.nil : Nf [] := ⟨fun a h => by (cases h), List.Pairwise.nil⟩
theorem Nf.one {a : SQ} (h : a.1 ≤ a.2) : Nf [a] := ⟨fun b hb => by rw [List.mem_singleton.1 hb]; exact h, List.pairwise_singleton _ _⟩
theorem Nf.sub {l m : List SQ} (h : Nf m) (hs : l.Sublist m) : Nf l := ⟨fun a ha => h.1 a (hs.subset ha), h.2.sublist hs⟩
theorem Nf.low {a : SQ} {l : List SQ} (h : Nf (a :: l)) {x : Rat} (hx : inL (a :: l) x) : a.1 ≤ x := by
  obtain ⟨b, hb, h1, h2⟩ := hx
  rcases List.mem_cons.1 hb with rfl | hb
  · exact h1
  · have h3 := h.head b hb
    have h4 := h.first
    grind
theorem Nf.above {a : SQ} {l : List SQ} (h : Nf (a :: l)) {x : Rat} (hx : inL l x) : a.2 < x := by
  obtain ⟨b, hb, h1, h2⟩ := hx
  have h3 := h.head b hb
  grind
theorem Nf.end_le {a b : SQ} {l m : List SQ} (hl : Nf (a :: l)) (hm : Nf (b :: m)) (h : ∀ x, inL (a :: l) x → inL (b :: m) x) (h1 : a.1 = b.1) : a.2 ≤ b.2 := by
  rcases qtot a.2 b.2 with h2 | h2
  · exact h2
  · by_cases h3 : a.2 = b.2
    · rw [h3]; exact Rat.le_refl
    · exfalso
      have hb := hm.first
      cases m with
      | nil =>
        have h4 := (h a.2 (inL_cons.2 (Or.inl ⟨hl.first, Rat.le_refl⟩)))
        rw [inL_one] at h4
        have h5 := h4.2
        grind
      | cons c m =>
        have h4 := hm.head c List.mem_cons_self
        obtain ⟨y, hy⟩ : ∃ y, b.2 < y ∧ y ≤ a.2 ∧ y < c.1 := by
          rcases qtot a.2 c.1 with h5 | h5
          · have h6 : b.2 < a.2 := by grind
            exact ⟨(b.2 + a.2) / 2, (qmid h6).1, Rat.le_of_lt (qmid h6).2, by have := (qmid h6).2; grind⟩
          · exact ⟨(b.2 + c.1) / 2, (qmid h4).1, by have := (qmid h4).2; grind, (qmid h4).2⟩
        have h5 := h y (inL_cons.2 (Or.inl ⟨by grind, hy.2.1⟩))
        rcases inL_cons.1 h5 with h6 | h6
        · have := h6.2; grind
        · have := hm.tail.low h6; grind
theorem Nf.eq : ∀ {l m : List SQ}, Nf l → Nf m → (∀ x, inL l x ↔ inL m x) → l = m
  | [], [], _, _, _ => rfl
  | [], b :: m, _, hm, h => absurd ((h b.1).2 (inL_cons.2 (Or.inl ⟨Rat.le_refl, hm.first⟩))) inL_nil
  | a :: l, [], hl, _, h => absurd ((h a.1).1 (inL_cons.2 (Or.inl ⟨Rat.le_refl, hl.first⟩))) inL_nil
  | a :: l, b :: m, hl, hm, h => by
    have h1 : a.1 = b.1 := Rat.le_antisymm (hl.low ((h b.1).2 (inL_cons.2 (Or.inl ⟨Rat.le_refl, hm.first⟩)))) (hm.low ((h a.1).1 (inL_cons.2 (Or.inl ⟨Rat.le_refl, hl.first⟩))))
    have h2 : a.2 = b.2 := Rat.le_antisymm (hl.end_le hm (fun x => (h x).1) h1) (hm.end_le hl (fun x => (h x).2) h1.symm)
    have e : a = b := Prod.ext h1 h2
    subst e
    rw [Nf.eq hl.tail hm.tail fun x => ?_]
    constructor
    · intro hx
      have h3 := hl.above hx
      rcases inL_cons.1 ((h x).1 (inL_cons.2 (Or.inr hx))) with h4 | h4
      · have := h4.2; grind
      · exact h4
    · intro hx
      have h3 := hm.above hx
      rcases inL_cons.1 ((h x).2 (inL_cons.2 (Or.inr hx))) with h4 | h4
      · have := h4.2; grind
      · exact h4
/-- The lesser and the greater one of two numbers, as the reference takes them. -/
def lessQ (a b : Rat) : Rat := if a ≤ b then a else b
def moreQ (a b : Rat) : Rat := if b ≤ a then a else b
def comQ (a b : SQ) : SQ := (moreQ a.1 b.1, lessQ a.2 b.2)
/-- Two spans meet. -/
def meetQ (a b : SQ) : Bool := decide ((comQ a b).1 ≤ (comQ a b).2)
def hullQ (x a : SQ) : SQ := (lessQ x.1 a.1, moreQ x.2 a.2)
def tstep (s : SQ × List SQ) (a : SQ) : SQ × List SQ := if meetQ a s.1 = true then (hullQ s.1 a, s.2) else (s.1, s.2 ++ [a])
def tidF (out : List SQ) (x : SQ) (k : Nat) : SQ × List SQ := (out.take k).foldl tstep (x, [])
/-- How many spans lead with a lesser low end. -/
def cntLo : List SQ → Rat → Nat
  | [], _ => 0
  | a :: t, v => if a.1 < v then cntLo t v + 1 else 0
def tput (s : SQ × List SQ) : List SQ := s.2.take (cntLo s.2 s.1.1) ++ [s.1] ++ s.2.drop (cntLo s.2 s.1.1)
def tidI (out : List SQ) (x : SQ) : List SQ := tput (tidF out x out.length)
def tidy (l : List SQ) : List SQ := l.foldl tidI []
theorem meetQ_yes {a b : SQ} (ha : a.1 ≤ a.2) (hb : b.1 ≤ b.2) : meetQ a b = true ↔ (a.1 ≤ b.2 ∧ b.1 ≤ a.2) := by
  unfold meetQ comQ moreQ lessQ
  rw [decide_eq_true_eq]
  simp only
  constructor
  · intro h
    split at h <;> split at h <;> constructor <;> grind
  · rintro ⟨h1, h2⟩
    split <;> split <;> grind
theorem meetQ_no {a b : SQ} (ha : a.1 ≤ a.2) (hb : b.1 ≤ b.2) (h : ¬ meetQ a b = true) : a.2 < b.1 ∨ b.2 < a.1 := by
  rw [meetQ_yes ha hb] at h
  rcases qtot a.1 b.2 with h1 | h1
  · left
    have : ¬ b.1 ≤ a.2 := fun h2 => h ⟨h1, h2⟩
    exact Rat.not_le.1 this
  · by_cases h2 : a.1 ≤ b.2
    · left
      have : ¬ b.1 ≤ a.2 := fun h3 => h ⟨h2, h3⟩
      exact Rat.not_le.1 this
    · exact Or.inr (Rat.not_le.1 h2)
theorem hullQ_in {x a : SQ} (hx : x.1 ≤ x.2) (ha : a.1 ≤ a.2) (h : meetQ a x = true) (y : Rat) : inS (hullQ x a) y ↔ inS x y ∨ inS a y := by
  rw [meetQ_yes ha hx] at h
  obtain ⟨h1, h2⟩ := h
  unfold inS hullQ lessQ moreQ
  simp only
  constructor
  · rintro ⟨h3, h4⟩
    split at h3 <;> split at h4 <;> grind
  · rintro (⟨h3, h4⟩ | ⟨h3, h4⟩) <;> constructor <;> split <;> grind
theorem hullQ_right {x a : SQ} (hx : x.1 ≤ x.2) : (hullQ x a).1 ≤ (hullQ x a).2 := by
  unfold hullQ lessQ moreQ
  simp only
  split <;> split <;> grind
theorem tid_inv : ∀ (t : List SQ) (x : SQ) (rest : List SQ), Nf (rest ++ t) → x.1 ≤ x.2 → (∀ r ∈ rest, r.2 < x.1 ∨ x.2 < r.1) →
    (t.foldl tstep (x, rest)).1.1 ≤ (t.foldl tstep (x, rest)).1.2 ∧ Nf (t.foldl tstep (x, rest)).2 ∧ (∀ r ∈ (t.foldl tstep (x, rest)).2, r.2 < (t.foldl tstep (x, rest)).1.1 ∨ (t.foldl tstep (x, rest)).1.2 < r.1) ∧
      ∀ y, (inL (t.foldl tstep (x, rest)).2 y ∨ inS (t.foldl tstep (x, rest)).1 y) ↔ (inL (rest ++ t) y ∨ inS x y)
  | [], x, rest, hn, hx, hr => by
    rw [List.append_nil] at *
    exact ⟨hx, hn, hr, fun y => Iff.rfl⟩
  | a :: t, x, rest, hn, hx, hr => by
    have ha : a.1 ≤ a.2 := hn.1 a (by simp)
    rw [List.foldl_cons]
    have hp := List.pairwise_append.1 hn.2
    by_cases hm : meetQ a x = true
    · have e : tstep (x, rest) a = (hullQ x a, rest) := by unfold tstep; rw [if_pos hm]
      rw [e]
      have hn2 : Nf (rest ++ t) := hn.sub (List.Sublist.append_left (List.sublist_cons_self _ _) _)
      have hm2 := (meetQ_yes ha hx).1 hm
      have hr2 : ∀ r ∈ rest, r.2 < (hullQ x a).1 ∨ (hullQ x a).2 < r.1 := by
        intro r hrm
        have h1 := hp.2.2 r hrm a List.mem_cons_self
        have h2 := hn.1 r (List.mem_append_left _ hrm)
        left
        unfold hullQ lessQ
        simp only
        rcases hr r hrm with h3 | h3
        · split <;> assumption
        · exfalso; grind
      obtain ⟨i1, i2, i3, i4⟩ := tid_inv t (hullQ x a) rest hn2 (hullQ_right hx) hr2
      refine ⟨i1, i2, i3, fun y => ?_⟩
      rw [i4 y, hullQ_in hx ha hm, inL_append, inL_append, inL_cons]
      constructor
      · rintro ((h | h) | (h | h))
        · exact Or.inl (Or.inl h)
        · exact Or.inl (Or.inr (Or.inr h))
        · exact Or.inr h
        · exact Or.inl (Or.inr (Or.inl h))
      · rintro ((h | (h | h)) | h)
        · exact Or.inl (Or.inl h)
        · exact Or.inr (Or.inr h)
        · exact Or.inl (Or.inr h)
        · exact Or.inr (Or.inl h)
    · have e : tstep (x, rest) a = (x, rest ++ [a]) := by unfold tstep; rw [if_neg hm]
      rw [e]
      have e2 : rest ++ a :: t = (rest ++ [a]) ++ t := by simp
      rw [e2] at hn ⊢
      refine tid_inv t x (rest ++ [a]) hn hx fun r hrm => ?_
      rcases List.mem_append.1 hrm with h | h
      · exact hr r h
      · rw [List.mem_singleton.1 h]; exact meetQ_no ha hx hm
theorem cntLo_le : ∀ (l : List SQ) (v : Rat), cntLo l v ≤ l.length
  | [], _ => Nat.le_refl _
  | a :: t, v => by
    unfold cntLo
    have := cntLo_le t v
    split <;> simp <;> omega
theorem put_nf : ∀ (l : List SQ) (x : SQ), Nf l → x.1 ≤ x.2 → (∀ r ∈ l, r.2 < x.1 ∨ x.2 < r.1) → Nf (l.take (cntLo l x.1) ++ [x] ++ l.drop (cntLo l x.1)) ∧ ∀ y, inL (l.take (cntLo l x.1) ++ [x] ++ l.drop (cntLo l x.1)) y ↔ (inL l y ∨ inS x y)
  | [], x, _, hx, _ => ⟨Nf.one hx, fun y => by
      show inL [x] y ↔ _
      rw [inL_one]
      exact ⟨Or.inr, fun h => h.resolve_left inL_nil⟩⟩
  | a :: t, x, hn, hx, hr => by
    have ha := hn.first
    have hra := hr a List.mem_cons_self
    by_cases h : a.1 < x.1
    · have e : cntLo (a :: t) x.1 = cntLo t x.1 + 1 := by rw [cntLo, if_pos h]
      obtain ⟨i1, i2⟩ := put_nf t x hn.tail hx fun r hrm => hr r (List.mem_cons_of_mem _ hrm)
      rw [e, List.take_succ_cons, List.drop_succ_cons]
      simp only [List.cons_append]
      refine ⟨⟨fun b hb => ?_, List.pairwise_cons.2 ⟨fun b hb => ?_, i1.2⟩⟩, fun y => ?_⟩
      · rcases List.mem_cons.1 hb with rfl | hb
        · exact ha
        · exact i1.1 b hb
      · have h2 : a.2 < x.1 := by rcases hra with h3 | h3 <;> grind
        rcases List.mem_append.1 hb with hb | hb
        · rcases List.mem_append.1 hb with hb | hb
          · exact hn.head b (List.mem_of_mem_take hb)
          · rw [List.mem_singleton.1 hb]; exact h2
        · exact hn.head b (List.mem_of_mem_drop hb)
      · rw [inL_cons, i2, inL_cons]
        constructor
        · rintro (h | h | h)
          · exact Or.inl (Or.inl h)
          · exact Or.inl (Or.inr h)
          · exact Or.inr h
        · rintro ((h | h) | h)
          · exact Or.inl h
          · exact Or.inr (Or.inl h)
          · exact Or.inr (Or.inr h)
    · have e : cntLo (a :: t) x.1 = 0 := by rw [cntLo, if_neg h]
      rw [e, List.take_zero, List.drop_zero, List.nil_append, List.singleton_append]
      have h2 : x.2 < a.1 := by
        rcases hra with h3 | h3
        · exfalso; exact h (by grind)
        · exact h3
      refine ⟨⟨fun b hb => ?_, List.pairwise_cons.2 ⟨fun b hb => ?_, hn.2⟩⟩, fun y => ?_⟩
      · rcases List.mem_cons.1 hb with rfl | hb
        · exact hx
        · exact hn.1 b hb
      · rcases List.mem_cons.1 hb with rfl | hb
        · exact h2
        · have := hn.head b hb; grind
      · rw [inL_cons]; exact Or.comm
theorem tidI_ok {out : List SQ} {x : SQ} (hn : Nf out) (hx : x.1 ≤ x.2) : Nf (tidI out x) ∧ ∀ y, inL (tidI out x) y ↔ (inL out y ∨ inS x y) := by
  obtain ⟨i1, i2, i3, i4⟩ := tid_inv out x [] hn hx (fun r h => by cases h)
  unfold tidI tput tidF
  rw [List.take_length]
  obtain ⟨p1, p2⟩ := put_nf _ _ i2 i1 i3
  exact ⟨p1, fun y => by rw [p2 y]; exact i4 y⟩
theorem tid_fold : ∀ (l out : List SQ), Nf out → (∀ a ∈ l, a.1 ≤ a.2) → Nf (l.foldl tidI out) ∧ ∀ y, inL (l.foldl tidI out) y ↔ (inL out y ∨ inL l y)
  | [], out, hn, _ => ⟨hn, fun y => ⟨Or.inl, fun h => h.resolve_right inL_nil⟩⟩
  | a :: t, out, hn, h => by
    obtain ⟨h1, h2⟩ := tidI_ok hn (h a List.mem_cons_self)
    obtain ⟨i1, i2⟩ := tid_fold t (tidI out a) h1 fun b hb => h b (List.mem_cons_of_mem _ hb)
    rw [List.foldl_cons]
    refine ⟨i1, fun y => ?_⟩
    rw [i2, h2, inL_cons, or_assoc]
/-- 'Tidy' puts a set into normal form. -/
theorem tidy_ok {l : List SQ} (h : ∀ a ∈ l, a.1 ≤ a.2) : Nf (tidy l) ∧ ∀ y, inL (tidy l) y ↔ inL l y := by
  obtain ⟨h1, h2⟩ := tid_fold l [] Nf.nil h
  exact ⟨h1, fun y => by
    have := h2 y
    unfold tidy
    rw [this]
    exact ⟨fun h => h.resolve_left inL_nil, Or.inr⟩⟩
end M
end Go.Proofs.YtijpgddpejiohaaGreatDoor
end
section
namespace Go.Proofs.YtijpgddpejiohaaGreatDoor
open Go Go.RowKit Go.Deep
namespace M
/-- An end, whether it is kept, and whether the numbers behind it are. -/
abbrev Ev := Rat × Bool × Bool
def swp : List Ev → Option SQ → List SQ
  | [], none => []
  | [], some s => [s]
  | e :: t, some s => if e.2.2 = true then swp t (some (s.1, e.1)) else (s.1, e.1) :: swp t none
  | e :: t, none => if e.2.2 = true then swp t (some (e.1, e.1)) else if e.2.1 = true then (e.1, e.1) :: swp t none else swp t none
def Sset : List Ev → Rat → Prop
  | [], _ => False
  | e :: t, y => (e.2.1 = true ∧ y = e.1) ∨ (e.2.2 = true ∧ ∃ e2 ∈ t.head?, e.1 ≤ y ∧ y ≤ e2.1) ∨ Sset t y
def wfE : List Ev → Prop
  | [] => True
  | e :: t => (∀ e2 ∈ t, e.1 < e2.1) ∧ (t = [] → e.2.2 = false) ∧ wfE t
theorem swp_ok : ∀ es : List Ev, wfE es →
    (Nf (swp es none) ∧ (∀ v, (∀ e ∈ es, v < e.1) → ∀ a ∈ swp es none, v < a.1) ∧ ∀ y, inL (swp es none) y ↔ Sset es y) ∧
    ∀ p q, p ≤ q → (∀ e ∈ es, q < e.1) → es ≠ [] → Nf (swp es (some (p, q))) ∧ (∀ a ∈ swp es (some (p, q)), p ≤ a.1) ∧ ∀ y, inL (swp es (some (p, q))) y ↔ ((∃ e ∈ es.head?, p ≤ y ∧ y ≤ e.1) ∨ Sset es y)
  | [], _ => ⟨⟨Nf.nil, fun _ _ a h => (by cases h), fun y => ⟨fun h => absurd h inL_nil, fun h => h.elim⟩⟩, fun p q _ _ h => absurd rfl h⟩
  | (x, h, b) :: t, hw => by
    obtain ⟨w1, w2, w3⟩ := hw
    simp only at w1 w2
    obtain ⟨⟨i1, i2, i3⟩, ii⟩ := swp_ok t w3
    have hxt := i2 x w1
    constructor
    · cases b with
      | true =>
        have hne : t ≠ [] := fun e => by have := w2 e; cases this
        obtain ⟨j1, j2, j3⟩ := ii x x Rat.le_refl w1 hne
        have e : swp ((x, h, true) :: t) none = swp t (some (x, x)) := by rw [swp]; rfl
        rw [e]
        refine ⟨j1, fun v hv a ha => ?_, fun y => ?_⟩
        · have h1 := hv (x, h, true) List.mem_cons_self
          have h2 := j2 a ha
          simp only at h1
          grind
        · rw [j3 y, Sset]
          simp only
          constructor
          · rintro (h1 | h1)
            · exact Or.inr (Or.inl ⟨trivial, h1⟩)
            · exact Or.inr (Or.inr h1)
          · rintro (⟨_, rfl⟩ | ⟨_, h1⟩ | h1)
            · left
              cases t with
              | nil => exact absurd rfl hne
              | cons e2 t => exact ⟨e2, rfl, Rat.le_refl, Rat.le_of_lt (w1 e2 List.mem_cons_self)⟩
            · exact Or.inl h1
            · exact Or.inr h1
      | false =>
        cases h with
        | true =>
          have e : swp ((x, true, false) :: t) none = (x, x) :: swp t none := by rw [swp]; rfl
          rw [e]
          refine ⟨⟨fun a ha => ?_, List.pairwise_cons.2 ⟨fun a ha => hxt a ha, i1.2⟩⟩, fun v hv a ha => ?_, fun y => ?_⟩
          · rcases List.mem_cons.1 ha with rfl | ha
            · exact Rat.le_refl
            · exact i1.1 a ha
          · have h1 := hv (x, true, false) List.mem_cons_self
            simp only at h1
            rcases List.mem_cons.1 ha with rfl | ha
            · exact h1
            · have := hxt a ha; grind
          · rw [inL_cons, i3 y, Sset]
            simp only
            constructor
            · rintro (⟨h1, h2⟩ | h1)
              · exact Or.inl ⟨trivial, Rat.le_antisymm h2 h1⟩
              · exact Or.inr (Or.inr h1)
            · rintro (⟨_, rfl⟩ | ⟨h1, _⟩ | h1)
              · exact Or.inl ⟨Rat.le_refl, Rat.le_refl⟩
              · cases h1
              · exact Or.inr h1
        | false =>
          have e : swp ((x, false, false) :: t) none = swp t none := by rw [swp]; rfl
          rw [e]
          refine ⟨i1, fun v hv a ha => ?_, fun y => ?_⟩
          · exact i2 v (fun e he => hv e (List.mem_cons_of_mem _ he)) a ha
          · rw [i3 y, Sset]
            simp only
            constructor
            · intro h1; exact Or.inr (Or.inr h1)
            · rintro (⟨h1, _⟩ | ⟨h1, _⟩ | h1)
              · cases h1
              · cases h1
              · exact h1
    · intro p q hpq hq _
      have hqx := hq (x, h, b) List.mem_cons_self
      simp only at hqx
      have hpx : p ≤ x := by grind
      cases b with
      | true =>
        have hne : t ≠ [] := fun e => by have := w2 e; cases this
        obtain ⟨j1, j2, j3⟩ := ii p x hpx w1 hne
        have e : swp ((x, h, true) :: t) (some (p, q)) = swp t (some (p, x)) := by rw [swp]; rfl
        rw [e]
        refine ⟨j1, j2, fun y => ?_⟩
        rw [j3 y, Sset]
        simp only [List.head?_cons, Option.mem_def, Option.some.injEq]
        cases t with
        | nil => exact absurd rfl hne
        | cons e2 t =>
          have hx2 := w1 e2 List.mem_cons_self
          simp only [List.head?_cons, Option.some.injEq]
          constructor
          · rintro (⟨e3, rfl, h1, h2⟩ | h1)
            · rcases qtot y x with h3 | h3
              · exact Or.inl ⟨_, rfl, h1, h3⟩
              · exact Or.inr (Or.inr (Or.inl ⟨trivial, _, rfl, h3, h2⟩))
            · exact Or.inr (Or.inr (Or.inr h1))
          · rintro (⟨e3, rfl, h1, h2⟩ | ⟨_, rfl⟩ | ⟨_, e3, rfl, h1, h2⟩ | h1)
            · exact Or.inl ⟨_, rfl, h1, by simp only at h2; grind⟩
            · exact Or.inl ⟨_, rfl, hpx, Rat.le_of_lt hx2⟩
            · exact Or.inl ⟨_, rfl, by grind, h2⟩
            · exact Or.inr h1
      | false =>
        have e : swp ((x, h, false) :: t) (some (p, q)) = (p, x) :: swp t none := by rw [swp]; rfl
        rw [e]
        refine ⟨⟨fun a ha => ?_, List.pairwise_cons.2 ⟨fun a ha => hxt a ha, i1.2⟩⟩, fun a ha => ?_, fun y => ?_⟩
        · rcases List.mem_cons.1 ha with rfl | ha
          · exact hpx
          · exact i1.1 a ha
        · rcases List.mem_cons.1 ha with rfl | ha
          · exact Rat.le_refl
          · have := hxt a ha; grind
        · rw [inL_cons, i3 y, Sset]
          simp only [List.head?_cons, Option.mem_def, Option.some.injEq]
          constructor
          · rintro (⟨h1, h2⟩ | h1)
            · exact Or.inl ⟨_, rfl, h1, h2⟩
            · exact Or.inr (Or.inr (Or.inr h1))
          · rintro (⟨e3, rfl, h1, h2⟩ | ⟨_, rfl⟩ | ⟨h1, _⟩ | h1)
            · exact Or.inl ⟨h1, h2⟩
            · exact Or.inl ⟨hpx, Rat.le_refl⟩
            · cases h1
            · exact Or.inr h1
/-- The program's step. -/
def setHi (l : List SQ) (x : Rat) : List SQ := l.set (l.length - 1) ((l.getD (l.length - 1) (0, 0)).1, x)
def sstep (s : List SQ × Bool) (e : Ev) : List SQ × Bool := (if s.2 = true then setHi s.1 e.1 else if e.2.2 = true ∨ e.2.1 = true then s.1 ++ [(e.1, e.1)] else s.1, e.2.2)
theorem setHi_end (l : List SQ) (s : SQ) (x : Rat) : setHi (l ++ [s]) x = l ++ [(s.1, x)] := by
  unfold setHi
  simp
theorem sstep_fold : ∀ (es : List Ev) (acc : List SQ) (o : Option SQ), (es.foldl sstep (acc ++ o.toList, o.isSome)).1 = acc ++ swp es o
  | [], acc, none => by simp [swp]
  | [], acc, some s => by simp [swp]
  | e :: t, acc, none => by
    rw [List.foldl_cons]
    obtain ⟨x, h, b⟩ := e
    cases b with
    | true =>
      have e1 : sstep (acc ++ (none : Option SQ).toList, (none : Option SQ).isSome) (x, h, true) = (acc ++ (some ((x, x) : SQ)).toList, (some ((x, x) : SQ)).isSome) := by simp [sstep]
      rw [e1, sstep_fold t acc (some (x, x)), swp]; simp
    | false =>
      cases h with
      | true =>
        have e1 : sstep (acc ++ (none : Option SQ).toList, (none : Option SQ).isSome) (x, true, false) = ((acc ++ [(x, x)]) ++ (none : Option SQ).toList, (none : Option SQ).isSome) := by simp [sstep]
        rw [e1, sstep_fold t (acc ++ [(x, x)]) none, swp]; simp
      | false =>
        have e1 : sstep (acc ++ (none : Option SQ).toList, (none : Option SQ).isSome) (x, false, false) = (acc ++ (none : Option SQ).toList, (none : Option SQ).isSome) := by simp [sstep]
        rw [e1, sstep_fold t acc none, swp]; simp
  | e :: t, acc, some s => by
    rw [List.foldl_cons]
    obtain ⟨x, h, b⟩ := e
    cases b with
    | true =>
      have e1 : sstep (acc ++ (some s).toList, (some s).isSome) (x, h, true) = (acc ++ (some ((s.1, x) : SQ)).toList, (some ((s.1, x) : SQ)).isSome) := by
        simp [sstep, setHi_end]
      rw [e1, sstep_fold t acc (some (s.1, x)), swp]; simp
    | false =>
      have e1 : sstep (acc ++ (some s).toList, (some s).isSome) (x, h, false) = ((acc ++ [(s.1, x)]) ++ (none : Option SQ).toList, (none : Option SQ).isSome) := by
        simp [sstep, setHi_end]
      rw [e1, sstep_fold t (acc ++ [(s.1, x)]) none, swp]; simp
/-- Is a number in a set; is a whole step between two ends? -/
def hasB (l : List SQ) (x : Rat) : Bool := l.any fun a => decide (a.1 ≤ x) && decide (x ≤ a.2)
def segB (l : List SQ) (x x2 : Rat) : Bool := l.any fun a => decide (a.1 ≤ x) && decide (x2 ≤ a.2)
theorem hasB_iff {l : List SQ} {x : Rat} : hasB l x = true ↔ inL l x := by
  unfold hasB inL inS; simp
def evs (f : Bool → Bool → Bool) (a b : List SQ) : List Rat → List Ev
  | [] => []
  | x :: t => (x, f (hasB a x) (hasB b x), match t.head? with | none => false | some x2 => f (segB a x x2) (segB b x x2)) :: evs f a b t
theorem evs_head (f : Bool → Bool → Bool) (a b : List SQ) (es : List Rat) : (evs f a b es).head?.map (·.1) = es.head? := by
  cases es with
  | nil => rfl
  | cons x t => rfl
theorem evs_mem {f : Bool → Bool → Bool} {a b : List SQ} : ∀ {es : List Rat} {e : Ev}, e ∈ evs f a b es → e.1 ∈ es
  | [], e, h => by cases h
  | x :: t, e, h => by
    rcases List.mem_cons.1 h with rfl | h
    · exact List.mem_cons_self
    · exact List.mem_cons_of_mem _ (evs_mem h)
theorem evs_wf {f : Bool → Bool → Bool} {a b : List SQ} : ∀ {es : List Rat}, es.Pairwise (· < ·) → wfE (evs f a b es)
  | [], _ => trivial
  | x :: t, h => by
    obtain ⟨h1, h2⟩ := List.pairwise_cons.1 h
    refine ⟨fun e he => h1 _ (evs_mem he), fun e => ?_, evs_wf h2⟩
    cases t with
    | nil => rfl
    | cons y t => cases e
theorem evs_low {f : Bool → Bool → Bool} {a b : List SQ} : ∀ {es : List Rat}, es.Pairwise (· < ·) → ∀ {v y : Rat}, (∀ x ∈ es, v < x) → Sset (evs f a b es) y → v < y
  | [], _, _, _, _, h => h.elim
  | x :: t, hp, v, y, hv, h => by
    obtain ⟨h1, h2⟩ := List.pairwise_cons.1 hp
    have hx := hv x List.mem_cons_self
    rcases h with ⟨_, rfl⟩ | ⟨_, e2, _, h3, _⟩ | h
    · exact hx
    · exact Std.lt_of_lt_of_le hx h3
    · have := evs_low h2 h1 h; grind
theorem segB_open {l : List SQ} {x y x2 : Rat} (hxy : x < y) (hy : y < x2) (h : ∀ a ∈ l, (a.1 ≤ x ∨ x2 ≤ a.1) ∧ (a.2 ≤ x ∨ x2 ≤ a.2)) : segB l x x2 = hasB l y := by
  rw [Bool.eq_iff_iff]
  unfold segB hasB
  simp only [List.any_eq_true, Bool.and_eq_true, decide_eq_true_eq]
  constructor
  · rintro ⟨a, ha, h1, h2⟩
    exact ⟨a, ha, by grind, by grind⟩
  · rintro ⟨a, ha, h1, h2⟩
    obtain ⟨h3, h4⟩ := h a ha
    refine ⟨a, ha, ?_, ?_⟩
    · rcases h3 with h3 | h3
      · exact h3
      · exfalso; grind
    · rcases h4 with h4 | h4
      · exfalso; grind
      · exact h4
/-- All ends of a set that are not below the first one are listed. -/
def Endsin (l : List SQ) (es : List Rat) : Prop := ∀ a ∈ l, (a.1 ∈ es ∨ ∀ x ∈ es, a.1 < x) ∧ (a.2 ∈ es ∨ ∀ x ∈ es, a.2 < x)
theorem Endsin.tail {l : List SQ} {x : Rat} {t : List Rat} (hp : (x :: t).Pairwise (· < ·)) (h : Endsin l (x :: t)) : Endsin l t := by
  obtain ⟨h1, h2⟩ := List.pairwise_cons.1 hp
  intro a ha
  obtain ⟨h3, h4⟩ := h a ha
  have aux : ∀ v : Rat, (v ∈ x :: t ∨ ∀ y ∈ x :: t, v < y) → (v ∈ t ∨ ∀ y ∈ t, v < y) := by
    rintro v (hv | hv)
    · rcases List.mem_cons.1 hv with rfl | hv
      · exact Or.inr h1
      · exact Or.inl hv
    · exact Or.inr fun y hy => hv y (List.mem_cons_of_mem _ hy)
  exact ⟨aux _ h3, aux _ h4⟩
theorem Endsin.step {l : List SQ} {x x2 : Rat} {t : List Rat} (hp : (x :: x2 :: t).Pairwise (· < ·)) (h : Endsin l (x :: x2 :: t)) : ∀ a ∈ l, (a.1 ≤ x ∨ x2 ≤ a.1) ∧ (a.2 ≤ x ∨ x2 ≤ a.2) := by
  obtain ⟨h1, h2⟩ := List.pairwise_cons.1 hp
  obtain ⟨h5, h6⟩ := List.pairwise_cons.1 h2
  intro a ha
  obtain ⟨h3, h4⟩ := h a ha
  have aux : ∀ v : Rat, (v ∈ x :: x2 :: t ∨ ∀ y ∈ x :: x2 :: t, v < y) → (v ≤ x ∨ x2 ≤ v) := by
    rintro v (hv | hv)
    · rcases List.mem_cons.1 hv with rfl | hv
      · exact Or.inl Rat.le_refl
      · rcases List.mem_cons.1 hv with rfl | hv
        · exact Or.inr Rat.le_refl
        · exact Or.inr (Rat.le_of_lt (h5 v hv))
    · exact Or.inl (Rat.le_of_lt (hv x List.mem_cons_self))
  exact ⟨aux _ h3, aux _ h4⟩
theorem Endsin.last {l : List SQ} {x y : Rat} (h : Endsin l [x]) (hy : x < y) : hasB l y = false := by
  rw [Bool.eq_false_iff]
  intro hc
  obtain ⟨a, ha, h1, h2⟩ := hasB_iff.1 hc
  rcases (h a ha).2 with h3 | h3
  · rw [List.mem_singleton.1 h3] at h2; grind
  · have := h3 x List.mem_cons_self; grind
theorem sset_of {f : Bool → Bool → Bool} {a b : List SQ} (hf : f false false = false) : ∀ {es : List Rat}, es.Pairwise (· < ·) → Endsin a es → Endsin b es → ∀ {y : Rat}, (∃ x ∈ es, x ≤ y) → f (hasB a y) (hasB b y) = true → Sset (evs f a b es) y
  | [], _, _, _, y, h, _ => by obtain ⟨x, hx, _⟩ := h; cases hx
  | x :: t, hp, ha, hb, y, h, hy => by
    obtain ⟨h1, h2⟩ := List.pairwise_cons.1 hp
    have hxy : x ≤ y := by
      obtain ⟨z, hz, hzy⟩ := h
      rcases List.mem_cons.1 hz with rfl | hz
      · exact hzy
      · have := h1 z hz; grind
    rw [evs, Sset]
    simp only
    by_cases hxe : y = x
    · left; exact ⟨by rw [← hxe]; exact hy, hxe⟩
    · have hlt : x < y := by grind
      right
      cases t with
      | nil => rw [ha.last hlt, hb.last hlt, hf] at hy; cases hy
      | cons x2 t =>
        rcases qtot x2 y with h3 | h3
        · right
          exact sset_of hf h2 (ha.tail hp) (hb.tail hp) ⟨x2, List.mem_cons_self, h3⟩ hy
        · by_cases h4 : x2 = y
          · right
            exact sset_of hf h2 (ha.tail hp) (hb.tail hp) ⟨x2, List.mem_cons_self, by rw [h4]; exact Rat.le_refl⟩ hy
          · have h5 : y < x2 := by grind
            left
            refine ⟨?_, _, rfl, hxy, h3⟩
            simp only [List.head?_cons]
            rw [segB_open hlt h5 (ha.step hp), segB_open hlt h5 (hb.step hp)]
            exact hy
theorem segB_has {l : List SQ} {x x2 y : Rat} (h : segB l x x2 = true) (h1 : x ≤ y) (h2 : y ≤ x2) : hasB l y = true := by
  unfold segB at h
  unfold hasB
  simp only [List.any_eq_true, Bool.and_eq_true, decide_eq_true_eq] at h ⊢
  obtain ⟨a, ha, h3, h4⟩ := h
  exact ⟨a, ha, by grind, by grind⟩
/-- A rule that adds nothing when numbers are taken away. -/
def Mono (f : Bool → Bool → Bool) : Prop := ∀ p q p2 q2 : Bool, (p = true → p2 = true) → (q = true → q2 = true) → f p q = true → f p2 q2 = true
theorem sset_in {f : Bool → Bool → Bool} {a b : List SQ} (hm : Mono f) : ∀ {es : List Rat} {y : Rat}, Sset (evs f a b es) y → f (hasB a y) (hasB b y) = true
  | [], y, h => h.elim
  | x :: t, y, h => by
    rw [evs, Sset] at h
    rcases h with ⟨h1, rfl⟩ | ⟨h1, e2, he, h3, h4⟩ | h
    · exact h1
    · simp only at h1 h3
      cases t with
      | nil => cases he
      | cons x2 t =>
        have e3 : e2.1 = x2 := by
          rw [evs, List.head?_cons, Option.mem_def, Option.some.injEq] at he
          rw [← he]
        rw [e3] at h4
        exact hm _ _ _ _ (fun h => segB_has h h3 h4) (fun h => segB_has h h3 h4) h1
    · exact sset_in hm h
theorem sset_le {f g : Bool → Bool → Bool} {a b : List SQ} (hm : ∀ p q, f p q = true → g p q = true) : ∀ {es : List Rat} {y : Rat}, Sset (evs f a b es) y → Sset (evs g a b es) y
  | [], y, h => h.elim
  | x :: t, y, h => by
    rw [evs, Sset] at h ⊢
    rcases h with ⟨h1, h2⟩ | ⟨h1, e2, he, h3, h4⟩ | h
    · exact Or.inl ⟨hm _ _ h1, h2⟩
    · refine Or.inr (Or.inl ?_)
      cases t with
      | nil => cases he
      | cons x2 t =>
        have e3 : e2.1 = x2 := by
          rw [evs, List.head?_cons, Option.mem_def, Option.some.injEq] at he
          rw [← he]
        exact ⟨hm _ _ h1, _, rfl, h3, by show y ≤ x2; rw [← e3]; exact h4⟩
    · exact Or.inr (Or.inr (sset_le hm h))
end M
end Go.Proofs.YtijpgddpejiohaaGreatDoor
end
section
namespace Go.Proofs.YtijpgddpejiohaaGreatDoor
open Go Go.RowKit Go.Deep
namespace M
/-- The ends of spans in ascending order, each once. -/
def IsEnds (l : List SQ) (es : List Rat) : Prop := es.Pairwise (· < ·) ∧ ∀ v, v ∈ es ↔ ∃ a ∈ l, v = a.1 ∨ v = a.2
theorem asc_uniq : ∀ {l m : List Rat}, l.Pairwise (· < ·) → m.Pairwise (· < ·) → (∀ v, v ∈ l ↔ v ∈ m) → l = m
  | [], [], _, _, _ => rfl
  | [], y :: t, _, _, h => absurd ((h y).2 List.mem_cons_self) (by simp)
  | x :: t, [], _, _, h => absurd ((h x).1 List.mem_cons_self) (by simp)
  | x :: t, y :: u, h1, h2, h => by
    obtain ⟨a1, a2⟩ := List.pairwise_cons.1 h1
    obtain ⟨b1, b2⟩ := List.pairwise_cons.1 h2
    have e : x = y := by
      rcases List.mem_cons.1 ((h x).1 List.mem_cons_self) with e | hx
      · exact e
      · rcases List.mem_cons.1 ((h y).2 List.mem_cons_self) with e | hy
        · exact e.symm
        · have := a1 y hy; have := b1 x hx; grind
    subst e
    rw [asc_uniq a2 b2 fun v => ?_]
    constructor
    · intro hv
      rcases List.mem_cons.1 ((h v).1 (List.mem_cons_of_mem _ hv)) with e | hm
      · have := a1 v hv; rw [e] at this; exact absurd this Rat.lt_irrefl
      · exact hm
    · intro hv
      rcases List.mem_cons.1 ((h v).2 (List.mem_cons_of_mem _ hv)) with e | hm
      · have := b1 v hv; rw [e] at this; exact absurd this Rat.lt_irrefl
      · exact hm
theorem IsEnds.within {l m : List SQ} {es : List Rat} (h : IsEnds l es) (hm : ∀ a ∈ m, a ∈ l) : Endsin m es := fun a ha =>
  ⟨Or.inl ((h.2 a.1).2 ⟨a, hm a ha, Or.inl rfl⟩), Or.inl ((h.2 a.2).2 ⟨a, hm a ha, Or.inr rfl⟩)⟩
/-- A number put in its place. -/
def insQ : List Rat → Rat → List Rat
  | [], x => [x]
  | y :: t, x => if y < x then y :: insQ t x else if y = x then y :: t else x :: y :: t
theorem insQ_mem : ∀ (l : List Rat) (x v : Rat), v ∈ insQ l x ↔ v = x ∨ v ∈ l
  | [], x, v => by simp [insQ]
  | y :: t, x, v => by
    unfold insQ
    split
    · rw [List.mem_cons, insQ_mem t x v, List.mem_cons]
      constructor
      · rintro (h | h | h)
        · exact Or.inr (Or.inl h)
        · exact Or.inl h
        · exact Or.inr (Or.inr h)
      · rintro (h | h | h)
        · exact Or.inr (Or.inl h)
        · exact Or.inl h
        · exact Or.inr (Or.inr h)
    · split
      · rename_i h
        rw [List.mem_cons, ← h]
        constructor
        · exact Or.inr
        · rintro (h | h)
          · exact Or.inl h
          · exact h
      · rw [List.mem_cons]
theorem insQ_asc : ∀ (l : List Rat) (x : Rat), l.Pairwise (· < ·) → (insQ l x).Pairwise (· < ·)
  | [], x, _ => List.pairwise_singleton _ _
  | y :: t, x, h => by
    obtain ⟨h1, h2⟩ := List.pairwise_cons.1 h
    unfold insQ
    split
    · rename_i hy
      refine List.pairwise_cons.2 ⟨fun v hv => ?_, insQ_asc t x h2⟩
      rcases (insQ_mem t x v).1 hv with rfl | hv
      · exact hy
      · exact h1 v hv
    · split
      · exact h
      · rename_i hy hne
        have hxy : x < y := by
          rcases qtot x y with h3 | h3
          · rcases qtot y x with h4 | h4
            · exact absurd (Rat.le_antisymm h4 h3) hne
            · grind
          · exfalso; grind
        refine List.pairwise_cons.2 ⟨fun v hv => ?_, h⟩
        rcases List.mem_cons.1 hv with rfl | hv
        · exact hxy
        · have := h1 v hv; grind
def endsF (out : List Rat) (a : SQ) : List Rat := insQ (insQ out a.1) a.2
def endsZ (l : List SQ) : List Rat := l.foldl endsF []
theorem ends_fold : ∀ (l : List SQ) (out : List Rat), out.Pairwise (· < ·) → (l.foldl endsF out).Pairwise (· < ·) ∧ ∀ v, v ∈ l.foldl endsF out ↔ (v ∈ out ∨ ∃ a ∈ l, v = a.1 ∨ v = a.2)
  | [], out, h => ⟨h, fun v => by simp⟩
  | a :: t, out, h => by
    obtain ⟨i1, i2⟩ := ends_fold t (endsF out a) (insQ_asc _ _ (insQ_asc _ _ h))
    rw [List.foldl_cons]
    refine ⟨i1, fun v => ?_⟩
    rw [i2 v]
    unfold endsF
    rw [insQ_mem, insQ_mem]
    constructor
    · rintro ((h | h | h) | ⟨b, hb, h⟩)
      · exact Or.inr ⟨a, List.mem_cons_self, Or.inr h⟩
      · exact Or.inr ⟨a, List.mem_cons_self, Or.inl h⟩
      · exact Or.inl h
      · exact Or.inr ⟨b, List.mem_cons_of_mem _ hb, h⟩
    · rintro (h | ⟨b, hb, h⟩)
      · exact Or.inl (Or.inr (Or.inr h))
      · rcases List.mem_cons.1 hb with rfl | hb
        · rcases h with h | h
          · exact Or.inl (Or.inr (Or.inl h))
          · exact Or.inl (Or.inl h)
        · exact Or.inr ⟨b, hb, h⟩
theorem endsZ_ok (l : List SQ) : IsEnds l (endsZ l) := by
  obtain ⟨h1, h2⟩ := ends_fold l [] List.Pairwise.nil
  refine ⟨h1, fun v => ?_⟩
  have := h2 v
  unfold endsZ
  rw [this]
  simp
theorem IsEnds.eq {l : List SQ} {es : List Rat} (h : IsEnds l es) : es = endsZ l := asc_uniq h.1 (endsZ_ok l).1 fun v => by rw [h.2, (endsZ_ok l).2]
def comb (f : Bool → Bool → Bool) (a b : List SQ) (es : List Rat) : List SQ := swp (evs f a b es) none
theorem comb_nf {f : Bool → Bool → Bool} {a b : List SQ} {es : List Rat} (h : es.Pairwise (· < ·)) : Nf (comb f a b es) ∧ ∀ y, inL (comb f a b es) y ↔ Sset (evs f a b es) y :=
  ⟨(swp_ok _ (evs_wf h)).1.1, (swp_ok _ (evs_wf h)).1.2.2⟩
theorem has_end {a : List SQ} {es : List Rat} {y : Rat} (h : ∀ s ∈ a, s.1 ∈ es) (hy : hasB a y = true) : ∃ x ∈ es, x ≤ y := by
  obtain ⟨s, hs, h1, _⟩ := hasB_iff.1 hy
  exact ⟨s.1, h s hs, h1⟩
theorem rule_end {f : Bool → Bool → Bool} {a b : List SQ} {es : List Rat} {y : Rat} (hf : f false false = false) (h : IsEnds (a ++ b) es) (hy : f (hasB a y) (hasB b y) = true) : ∃ x ∈ es, x ≤ y := by
  by_cases h1 : hasB a y = true
  · exact has_end (fun s hs => (h.2 s.1).2 ⟨s, List.mem_append_left _ hs, Or.inl rfl⟩) h1
  · by_cases h2 : hasB b y = true
    · exact has_end (fun s hs => (h.2 s.1).2 ⟨s, List.mem_append_right _ hs, Or.inl rfl⟩) h2
    · rw [Bool.eq_false_iff.2 h1, Bool.eq_false_iff.2 h2, hf] at hy; cases hy
theorem sset_rule {f : Bool → Bool → Bool} {a b : List SQ} {es : List Rat} (hf : f false false = false) (h : IsEnds (a ++ b) es) {y : Rat} (hy : f (hasB a y) (hasB b y) = true) : Sset (evs f a b es) y :=
  sset_of hf h.1 (h.within fun _ => List.mem_append_left _) (h.within fun _ => List.mem_append_right _) (rule_end hf h hy) hy
theorem comb_mono {f : Bool → Bool → Bool} {a b : List SQ} {es : List Rat} (hf : f false false = false) (hm : Mono f) (h : IsEnds (a ++ b) es) (y : Rat) : inL (comb f a b es) y ↔ f (hasB a y) (hasB b y) = true := by
  rw [(comb_nf h.1).2 y]
  exact ⟨sset_in hm, sset_rule hf h⟩
def rOr (p q : Bool) : Bool := p || q
def rAnd (p q : Bool) : Bool := p && q
def rFst (p _q : Bool) : Bool := p
def rSnd (_p q : Bool) : Bool := q
def rDif (p q : Bool) : Bool := p && !q
theorem mono_or : Mono rOr := by intro p q p2 q2 h1 h2; cases p <;> cases q <;> cases p2 <;> cases q2 <;> simp_all [rOr]
theorem mono_and : Mono rAnd := by intro p q p2 q2 h1 h2; cases p <;> cases q <;> cases p2 <;> cases q2 <;> simp_all [rAnd]
theorem mono_fst : Mono rFst := by intro p q p2 q2 h1 h2; cases p <;> cases q <;> cases p2 <;> cases q2 <;> simp_all [rFst]
theorem mono_snd : Mono rSnd := by intro p q p2 q2 h1 h2; cases p <;> cases q <;> cases p2 <;> cases q2 <;> simp_all [rSnd]
theorem tidy_eq {l m : List SQ} (hl : ∀ a ∈ l, a.1 ≤ a.2) (hm : Nf m) (h : ∀ y, inL m y ↔ inL l y) : m = tidy l :=
  Nf.eq hm (tidy_ok hl).1 fun y => by rw [h, (tidy_ok hl).2]
theorem tidy_nf {l : List SQ} (h : Nf l) : tidy l = l := (tidy_eq h.1 h fun _ => Iff.rfl).symm
theorem comb_or {a b : List SQ} {es : List Rat} (h : IsEnds (a ++ b) es) (hl : ∀ s ∈ a ++ b, s.1 ≤ s.2) : comb rOr a b es = tidy (a ++ b) :=
  tidy_eq hl (comb_nf h.1).1 fun y => by
    rw [comb_mono rfl mono_or h, inL_append, ← hasB_iff, ← hasB_iff]; unfold rOr; simp
theorem comb_fst {a b : List SQ} {es : List Rat} (h : IsEnds (a ++ b) es) (hl : ∀ s ∈ a, s.1 ≤ s.2) : comb rFst a b es = tidy a :=
  tidy_eq hl (comb_nf h.1).1 fun y => by
    rw [comb_mono rfl mono_fst h, ← hasB_iff]; rfl
theorem comb_snd {a b : List SQ} {es : List Rat} (h : IsEnds (a ++ b) es) (hl : ∀ s ∈ b, s.1 ≤ s.2) : comb rSnd a b es = tidy b :=
  tidy_eq hl (comb_nf h.1).1 fun y => by
    rw [comb_mono rfl mono_snd h, ← hasB_iff]; rfl
/-- The common spans. -/
def interRow (x : SQ) (b : List SQ) : List SQ := b.filterMap fun y => if meetQ x y = true then some (comQ x y) else none
def inter (a b : List SQ) : List SQ := a.flatMap fun x => interRow x b
theorem comQ_in {x y : SQ} (z : Rat) : inS (comQ x y) z ↔ inS x z ∧ inS y z := by
  unfold inS comQ lessQ moreQ
  simp only
  constructor
  · rintro ⟨h1, h2⟩
    split at h1 <;> split at h2 <;> refine ⟨⟨?_, ?_⟩, ⟨?_, ?_⟩⟩ <;> grind
  · rintro ⟨⟨h1, h2⟩, ⟨h3, h4⟩⟩
    constructor <;> split <;> assumption
theorem inter_mem {a b : List SQ} {s : SQ} : s ∈ inter a b ↔ ∃ x ∈ a, ∃ y ∈ b, meetQ x y = true ∧ s = comQ x y := by
  unfold inter interRow
  simp only [List.mem_flatMap, List.mem_filterMap]
  constructor
  · rintro ⟨x, hx, y, hy, h⟩
    split at h
    · rename_i hm
      exact ⟨x, hx, y, hy, hm, (Option.some.inj h).symm⟩
    · cases h
  · rintro ⟨x, hx, y, hy, hm, rfl⟩
    exact ⟨x, hx, y, hy, by rw [if_pos hm]⟩
theorem inter_right {a b : List SQ} : ∀ s ∈ inter a b, s.1 ≤ s.2 := by
  intro s hs
  obtain ⟨x, _, y, _, hm, rfl⟩ := inter_mem.1 hs
  unfold meetQ at hm
  exact of_decide_eq_true hm
theorem inter_in {a b : List SQ} (z : Rat) : inL (inter a b) z ↔ inL a z ∧ inL b z := by
  constructor
  · rintro ⟨s, hs, hz⟩
    obtain ⟨x, hx, y, hy, _, rfl⟩ := inter_mem.1 hs
    obtain ⟨h1, h2⟩ := (comQ_in z).1 hz
    exact ⟨⟨x, hx, h1⟩, ⟨y, hy, h2⟩⟩
  · rintro ⟨⟨x, hx, h1⟩, ⟨y, hy, h2⟩⟩
    have h3 := (comQ_in (x := x) (y := y) z).2 ⟨h1, h2⟩
    refine ⟨comQ x y, inter_mem.2 ⟨x, hx, y, hy, ?_, rfl⟩, h3⟩
    unfold meetQ
    have h4 := h3.1
    have h5 := h3.2
    exact decide_eq_true (by grind)
theorem comb_and {a b : List SQ} {es : List Rat} (h : IsEnds (a ++ b) es) : comb rAnd a b es = tidy (inter a b) :=
  tidy_eq inter_right (comb_nf h.1).1 fun y => by
    rw [comb_mono rfl mono_and h, inter_in, ← hasB_iff, ← hasB_iff]; unfold rAnd; simp
/-- The middle of two numbers, as the reference takes it. -/
def midQ (p q : Rat) : Rat := (p + q) * Rat.divInt 1 2
theorem midQ_in {p q : Rat} (h : p < q) : p < midQ p q ∧ midQ p q < q := by
  have e : midQ p q = (p + q) / 2 := by
    unfold midQ
    rw [Rat.divInt_eq_div]
    grind
  rw [e]; exact qmid h
/-- The parts that the reference takes of a difference. -/
def woP (a b : List SQ) (x : Rat) : List SQ := if rDif (hasB a x) (hasB b x) = true then [(x, x)] else []
def woS (a b : List SQ) (q x : Rat) : List SQ := if rDif (hasB a (midQ q x)) (hasB b (midQ q x)) = true then [(q, x)] else []
def wo (a b : List SQ) : Option Rat → List Rat → List SQ
  | _, [] => []
  | p, x :: t => woP a b x ++ (match p with | none => [] | some q => woS a b q x) ++ wo a b (some x) t
theorem wo_some {a b : List SQ} : ∀ {q : Rat} {t : List Rat}, (q :: t).Pairwise (· < ·) → Endsin a (q :: t) → Endsin b (q :: t) → ∀ y : Rat,
    inL (wo a b (some q) t) y ↔ ((∃ x2 ∈ t.head?, rDif (segB a q x2) (segB b q x2) = true ∧ q ≤ y ∧ y ≤ x2) ∨ Sset (evs rDif a b t) y)
  | q, [], _, _, _, y => by
    rw [wo]
    constructor
    · intro h; exact absurd h inL_nil
    · rintro (⟨x2, h, _⟩ | h)
      · cases h
      · exact h.elim
  | q, x :: t, hp, ha, hb, y => by
    have hlt := (List.pairwise_cons.1 hp).1 x List.mem_cons_self
    have hp2 := (List.pairwise_cons.1 hp).2
    have ih := wo_some hp2 (ha.tail hp) (hb.tail hp) y
    have hm := midQ_in hlt
    have s1 := segB_open hm.1 hm.2 (ha.step hp)
    have s2 := segB_open hm.1 hm.2 (hb.step hp)
    rw [wo, inL_append, inL_append, ih, evs, Sset]
    simp only [List.head?_cons, Option.mem_def, Option.some.injEq]
    unfold woP woS
    rw [← s1, ← s2]
    have e1 : ∀ c : Bool, inL (if c = true then [((x, x) : SQ)] else []) y ↔ (c = true ∧ y = x) := by
      intro c
      cases c with
      | true =>
        rw [if_pos rfl, inL_one]
        exact ⟨fun h => ⟨rfl, Rat.le_antisymm h.2 h.1⟩, fun h => by rw [h.2]; exact ⟨Rat.le_refl, Rat.le_refl⟩⟩
      | false => rw [if_neg (by decide)]; exact ⟨fun h => absurd h inL_nil, fun h => by cases h.1⟩
    have e2 : ∀ c : Bool, inL (if c = true then [((q, x) : SQ)] else []) y ↔ (c = true ∧ q ≤ y ∧ y ≤ x) := by
      intro c
      cases c with
      | true =>
        rw [if_pos rfl, inL_one]
        exact ⟨fun h => ⟨rfl, h⟩, fun h => h.2⟩
      | false => rw [if_neg (by decide)]; exact ⟨fun h => absurd h inL_nil, fun h => by cases h.1⟩
    rw [e1, e2]
    have e3 : ((∃ x2, t.head? = some x2 ∧ rDif (segB a x x2) (segB b x x2) = true ∧ x ≤ y ∧ y ≤ x2) ∨ Sset (evs rDif a b t) y) ↔
        (((match t.head? with | none => false | some x2 => rDif (segB a x x2) (segB b x x2)) = true ∧ ∃ e2, (evs rDif a b t).head? = some e2 ∧ x ≤ y ∧ y ≤ e2.1) ∨ Sset (evs rDif a b t) y) := by
      cases t with
      | nil => simp
      | cons x2 t => simp [evs]
    rw [e3]
    constructor
    · rintro ((h | h) | h | h)
      · exact Or.inr (Or.inl h)
      · exact Or.inl ⟨_, rfl, h⟩
      · exact Or.inr (Or.inr (Or.inl h))
      · exact Or.inr (Or.inr (Or.inr h))
    · rintro (⟨x2, rfl, h⟩ | h | h | h)
      · exact Or.inl (Or.inr h)
      · exact Or.inl (Or.inl h)
      · exact Or.inr (Or.inl h)
      · exact Or.inr (Or.inr h)
theorem wo_in {a b : List SQ} {es : List Rat} (h : IsEnds (a ++ b) es) (y : Rat) : inL (wo a b none es) y ↔ Sset (evs rDif a b es) y := by
  have ha : Endsin a es := h.within fun _ => List.mem_append_left _
  have hb : Endsin b es := h.within fun _ => List.mem_append_right _
  have hp := h.1
  cases es with
  | nil =>
    show inL [] y ↔ False
    exact ⟨fun h => absurd h inL_nil, fun h => h.elim⟩
  | cons x t =>
    rw [show wo a b none (x :: t) = woP a b x ++ [] ++ wo a b (some x) t from rfl, inL_append, inL_append, wo_some hp ha hb y, evs, Sset]
    simp only [Option.mem_def]
    unfold woP
    have e1 : ∀ c : Bool, inL (if c = true then [((x, x) : SQ)] else []) y ↔ (c = true ∧ y = x) := by
      intro c
      cases c with
      | true =>
        rw [if_pos rfl, inL_one]
        exact ⟨fun h => ⟨rfl, Rat.le_antisymm h.2 h.1⟩, fun h => by rw [h.2]; exact ⟨Rat.le_refl, Rat.le_refl⟩⟩
      | false => rw [if_neg (by decide)]; exact ⟨fun h => absurd h inL_nil, fun h => by cases h.1⟩
    rw [e1]
    have e3 : ((∃ x2, t.head? = some x2 ∧ rDif (segB a x x2) (segB b x x2) = true ∧ x ≤ y ∧ y ≤ x2) ∨ Sset (evs rDif a b t) y) ↔
        (((match t.head? with | none => false | some x2 => rDif (segB a x x2) (segB b x x2)) = true ∧ ∃ e2, (evs rDif a b t).head? = some e2 ∧ x ≤ y ∧ y ≤ e2.1) ∨ Sset (evs rDif a b t) y) := by
      cases t with
      | nil => simp
      | cons x2 t => simp [evs]
    rw [e3]
    constructor
    · rintro ((h | h) | h | h)
      · exact Or.inl h
      · exact absurd h inL_nil
      · exact Or.inr (Or.inl h)
      · exact Or.inr (Or.inr h)
    · rintro (h | h | h)
      · exact Or.inl (Or.inl h)
      · exact Or.inr (Or.inl h)
      · exact Or.inr (Or.inr h)
theorem wo_right {a b : List SQ} : ∀ {p : Option Rat} {es : List Rat}, es.Pairwise (· < ·) → (∀ q, p = some q → ∀ x ∈ es, q < x) → ∀ s ∈ wo a b p es, s.1 ≤ s.2
  | _, [], _, _, s, h => by cases h
  | p, x :: t, hp, hq, s, h => by
    obtain ⟨h1, h2⟩ := List.pairwise_cons.1 hp
    unfold wo at h
    rcases List.mem_append.1 h with h | h
    · rcases List.mem_append.1 h with h | h
      · unfold woP at h
        split at h
        · rw [List.mem_singleton.1 h]; exact Rat.le_refl
        · cases h
      · cases p with
        | none => cases h
        | some q =>
          simp only [woS] at h
          split at h
          · rw [List.mem_singleton.1 h]; exact Rat.le_of_lt (hq q rfl x List.mem_cons_self)
          · cases h
    · exact wo_right h2 (fun q e y hy => by injection e with e; rw [← e]; exact h1 y hy) s h
theorem comb_dif {a b : List SQ} {es : List Rat} (h : IsEnds (a ++ b) es) : comb rDif a b es = tidy (wo a b none es) :=
  tidy_eq (wo_right h.1 fun q e => by cases e) (comb_nf h.1).1 fun y => by rw [(comb_nf h.1).2 y, wo_in h]
/-- The length of a normal set. -/
def lenQ (l : List SQ) : Rat := l.foldl (fun s a => s + (a.2 - a.1)) 0
def lenS : List Ev → Rat
  | [] => 0
  | e :: t => (if e.2.2 = true then (match t.head? with | none => 0 | some e2 => e2.1 - e.1) else 0) + lenS t
theorem lenQ_acc : ∀ (l : List SQ) (s : Rat), l.foldl (fun s a => s + (a.2 - a.1)) s = s + lenQ l
  | [], s => by simp [lenQ]; grind
  | a :: t, s => by
    unfold lenQ
    rw [List.foldl_cons, List.foldl_cons, lenQ_acc t, lenQ_acc t (0 + (a.2 - a.1))]
    grind
theorem lenQ_cons (a : SQ) (l : List SQ) : lenQ (a :: l) = (a.2 - a.1) + lenQ l := by
  rw [lenQ, List.foldl_cons, lenQ_acc]; grind
theorem swp_len : ∀ es : List Ev, wfE es → lenQ (swp es none) = lenS es ∧ ∀ p q, lenQ (swp es (some (p, q))) = (match es.head? with | none => q - p | some e => e.1 - p) + lenS es
  | [], _ => ⟨rfl, fun p q => by simp [swp, lenQ, lenS]; grind⟩
  | (x, h, b) :: t, hw => by
    obtain ⟨_, w2, w3⟩ := hw
    simp only at w2
    obtain ⟨i1, i2⟩ := swp_len t w3
    constructor
    · cases b with
      | true =>
        rw [show swp ((x, h, true) :: t) none = swp t (some (x, x)) by rw [swp]; rfl, i2, lenS]
        cases t with
        | nil => have := w2 rfl; cases this
        | cons e2 t => simp
      | false =>
        cases h with
        | true =>
          rw [show swp ((x, true, false) :: t) none = (x, x) :: swp t none by rw [swp]; rfl, lenQ_cons, i1, lenS]
          simp; grind
        | false =>
          rw [show swp ((x, false, false) :: t) none = swp t none by rw [swp]; rfl, i1, lenS]
          simp; grind
    · intro p q
      cases b with
      | true =>
        rw [show swp ((x, h, true) :: t) (some (p, q)) = swp t (some (p, x)) by rw [swp]; rfl, i2, lenS]
        cases t with
        | nil => have := w2 rfl; cases this
        | cons e2 t => simp; grind
      | false =>
        rw [show swp ((x, h, false) :: t) (some (p, q)) = (p, x) :: swp t none by rw [swp]; rfl, lenQ_cons, i1, lenS]
        simp; grind
theorem evs_len (a b : List SQ) : ∀ es : List Rat, lenS (evs rOr a b es) + lenS (evs rAnd a b es) = lenS (evs rFst a b es) + lenS (evs rSnd a b es)
  | [] => rfl
  | x :: t => by
    have ih := evs_len a b t
    have step : ∀ f, lenS (evs f a b (x :: t)) = (match t.head? with | none => 0 | some x2 => if f (segB a x x2) (segB b x x2) = true then x2 - x else 0) + lenS (evs f a b t) := by
      intro f
      rw [evs, lenS]
      cases t with
      | nil => rfl
      | cons x2 t => rfl
    rw [step, step, step, step]
    cases t with
    | nil => simp only [List.head?_nil]; grind
    | cons x2 t =>
      simp only [List.head?_cons]
      generalize segB a x x2 = p
      generalize segB b x x2 = q
      cases p <;> cases q <;> simp [rOr, rAnd, rFst, rSnd] <;> grind
/-- The length of a union and that of an intersection are together those of the sets. -/
theorem len_sum {a b : List SQ} (ha : ∀ s ∈ a, s.1 ≤ s.2) (hb : ∀ s ∈ b, s.1 ≤ s.2) : lenQ (tidy (a ++ b)) + lenQ (tidy (inter a b)) = lenQ (tidy a) + lenQ (tidy b) := by
  have h := endsZ_ok (a ++ b)
  have hl : ∀ s ∈ a ++ b, s.1 ≤ s.2 := fun s hs => by
    rcases List.mem_append.1 hs with hs | hs
    · exact ha s hs
    · exact hb s hs
  rw [← comb_or h hl, ← comb_and h, ← comb_fst h ha, ← comb_snd h hb]
  unfold comb
  rw [(swp_len _ (evs_wf h.1)).1, (swp_len _ (evs_wf h.1)).1, (swp_len _ (evs_wf h.1)).1, (swp_len _ (evs_wf h.1)).1]
  exact evs_len a b _
end M
end Go.Proofs.YtijpgddpejiohaaGreatDoor
end
section
namespace Go.Proofs.YtijpgddpejiohaaGreatDoor
open Go Go.RowKit Go.Deep
namespace M
theorem R_frac {n d : Int} (hd : 1 < d) (hg : Int.gcd n d = 1) : R (Rat.divInt n d) = I n ++ 47 :: I d := by
  obtain ⟨l1, l2, _⟩ := low_num n d (by omega) 1 (by rw [if_neg (by omega), hg]; rfl)
  rw [Int.fdiv_one] at l1 l2
  unfold R
  rw [← l1, ← l2, if_neg (by omega)]
theorem I_dig {n : Nat} (h : n < 10) : I (n : Int) = [UInt8.ofNat (48 + n)] := by rw [I_nonneg, D_small h]
theorem I_two {n : Nat} (h : 10 ≤ n) (h2 : n < 100) : I (n : Int) = [UInt8.ofNat (48 + n / 10), UInt8.ofNat (48 + n % 10)] := by
  rw [I_nonneg, D_big (by omega), D_small (by omega)]; rfl
theorem I_le {z : Int} {k : Nat} (h : z.natAbs < 10 ^ k) (hk : 1 ≤ k) : (I z).length ≤ k + 1 := I_len hk h
theorem pow_up {x j k : Nat} (h : x < 10 ^ j) (hk : j ≤ k) : x < 10 ^ k := Nat.lt_of_lt_of_le h (Nat.pow_le_pow_right (by decide) hk)
theorem Bq.sh {k : Nat} {q : Rat} (h : Bq k q) (hk : 1 ≤ k) (hk2 : k ≤ 39990) : Sh q :=
  ⟨Nat.le_trans (I_le h.1 hk) (by omega), Nat.le_trans (I_le (den_abs h) hk) (by omega)⟩
theorem cmpQ_ge {a b : Rat} : 0 ≤ cmpQ a b ↔ b ≤ a := by
  rcases cmpQ_cases a b with ⟨h, e⟩ | ⟨h, e⟩ | ⟨h, e⟩
  · rw [e]; constructor
    · intro h2; omega
    · intro h2; exact absurd h2 (Rat.not_le.2 h)
  · rw [e]; constructor
    · intro _; rw [h]; exact Rat.le_refl
    · intro _; omega
  · rw [e]; constructor
    · intro _; exact Rat.le_of_lt h
    · intro _; omega
theorem cmpQ_gt {a b : Rat} : 0 < cmpQ a b ↔ b < a := by
  rcases cmpQ_cases a b with ⟨h, e⟩ | ⟨h, e⟩ | ⟨h, e⟩
  · rw [e]; constructor
    · intro h2; omega
    · intro h2; exact absurd (Rat.le_of_lt h2) (Rat.not_le.2 h)
  · rw [e]; constructor
    · intro h2; omega
    · intro h2; rw [h] at h2; exact absurd h2 (Rat.lt_irrefl)
  · rw [e]; constructor
    · intro _; exact h
    · intro _; omega
theorem cmpQ_lt {a b : Rat} : cmpQ a b < 0 ↔ a < b := by
  rcases cmpQ_cases a b with ⟨h, e⟩ | ⟨h, e⟩ | ⟨h, e⟩
  · rw [e]; constructor
    · intro _; exact h
    · intro _; omega
  · rw [e]; constructor
    · intro h2; omega
    · intro h2; rw [h] at h2; exact absurd h2 (Rat.lt_irrefl)
  · rw [e]; constructor
    · intro h2; omega
    · intro h2; exact absurd (Rat.le_of_lt h2) (Rat.not_le.2 h)
theorem cmpQ_bd (a b : Rat) : -1 ≤ cmpQ a b ∧ cmpQ a b ≤ 1 := by
  rcases cmpQ_cases a b with ⟨_, e⟩ | ⟨_, e⟩ | ⟨_, e⟩ <;> omega
theorem R_inj {a b : Rat} (h : R a = R b) : a = b := by
  have h1 := R_cutN a
  have h2 := R_cutD a
  rw [h] at h1 h2
  have e1 : I b.num = I a.num := (R_cutN b).symm.trans h1
  have e2 : I (b.den : Int) = I (a.den : Int) := (R_cutD b).symm.trans h2
  have f1 := zv_I a.num
  rw [← e1, zv_I] at f1
  have f2 := zv_I (a.den : Int)
  rw [← e2, zv_I] at f2
  exact Rat.ext f1.symm (by omega)
def shortB (p : List UInt8) : Bool := decide ((cutN p).length ≤ 30) && decide ((cutD p).length ≤ 30)
theorem I_short {z : Int} {k : Nat} (h : (I z).length ≤ k) (hk : 1 ≤ k) : z.natAbs < 10 ^ k := (D_len_le hk).1 (Nat.le_trans (D_le_I z) h)
theorem short_num {p : List UInt8} (h : shortB p = true) : p.length ≤ 61 := by
  unfold shortB at h
  rw [Bool.and_eq_true, decide_eq_true_eq, decide_eq_true_eq] at h
  by_cases hc : p.contains 47 = true
  · have e := congrArg List.length (cut_back hc)
    simp at e; omega
  · have hn : ∀ c ∈ p, c ≠ (47 : UInt8) := fun c hm e => hc (by rw [e] at hm; simpa using hm)
    rw [cutN_none hn] at h; omega
theorem short_R {p : List UInt8} (h : shortB p = true) (h0 : chkR p = 0) : ∃ q, p = R q ∧ Bq 30 q := by
  obtain ⟨q, rfl, _, _⟩ := chkR_form h0
  unfold shortB at h
  rw [Bool.and_eq_true, decide_eq_true_eq, decide_eq_true_eq, R_cutN, R_cutD] at h
  refine ⟨q, rfl, I_short h.1 (by decide), ?_⟩
  have := I_short h.2 (by decide)
  rwa [Int.natAbs_natCast] at this
open Classical in
/-- The number that a text is. -/
noncomputable def qval (l : List UInt8) : Rat := if h : ∃ q, l = R q then Classical.choose h else 0
theorem qval_R (q : Rat) : qval (R q) = q := by
  have h : ∃ q2, R q = R q2 := ⟨q, rfl⟩
  unfold qval
  rw [dif_pos h]
  exact (R_inj (Classical.choose_spec h)).symm
end M
namespace W
open M
attribute [local go_sem] bs_size bs_toList bs_get bs_extract bs_append bs_lit0 bs_lit1 lit1_bs
set_option maxHeartbeats 1000000
set_option maxRecDepth 20000
theorem short_any (p : List UInt8) (w : World) (hl : p.length ≤ 9223372036854775807) :
    Calls Tryz.prog 32 #[.string (bs p)] w (Ret w (.bool (shortB p))) := by
  have HS := Lib.hid (split_any p w hl)
  have hn := cutN_len p
  have hd := cutD_len p
  unfold shortB
  generalize cutN p = a at *
  generalize cutD p = b at *
  by_cases h1 : a.length ≤ 30
  · by_cases h2 : b.length ≤ 30
    · rw [decide_eq_true h1, decide_eq_true h2]
      have d2 : decide ((b.length : Int) ≤ 30) = true := by simp; omega
      go_enter Tryz.func32, Tryz.ntmps32
      go_wp2_with fail
      refine (HS.out).mono ?_
      rintro e w1 ⟨rfl, hb1⟩
      go_wp2
      go_ret
      exact Ret.of rfl hb1
    · rw [decide_eq_true h1, decide_eq_false h2]
      have d2 : decide ((b.length : Int) ≤ 30) = false := by simp; omega
      go_enter Tryz.func32, Tryz.ntmps32
      go_wp2_with fail
      refine (HS.out).mono ?_
      rintro e w1 ⟨rfl, hb1⟩
      go_wp2
      go_ret
      exact Ret.of rfl hb1
  · rw [decide_eq_false h1]
    have d1 : decide ((a.length : Int) ≤ 30) = false := by simp; omega
    go_enter Tryz.func32, Tryz.ntmps32
    go_wp2_with fail
    refine (HS.out).mono ?_
    rintro e w1 ⟨rfl, hb1⟩
    go_wp2
    go_ret
    exact Ret.of (by simp) hb1
theorem ratWhole (n : Int) (w : World) (hg : Glob w) (h0 : -9223372036854775808 ≤ n) (h1 : n ≤ 9223372036854775807) :
    Calls Tryz.prog 46 #[.int .i64 n] w (Ret w (.string (bs (R (n : Rat))))) := by
  rw [R_int]
  have HO := Lib.hid (vof_any n w hg h0 h1)
  go_enter Tryz.func46, Tryz.ntmps46
  go_wp2_with fail
  refine (HO.out).mono ?_
  rintro e w1 ⟨rfl, hb1⟩
  go_wp2
  go_ret
  exact Ret.of rfl hb1
end W
end Go.Proofs.YtijpgddpejiohaaGreatDoor
end
