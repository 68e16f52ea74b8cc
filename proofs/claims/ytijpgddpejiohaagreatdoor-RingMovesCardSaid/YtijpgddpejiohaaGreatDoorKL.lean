/-
  Outcomes of the simplex, plain: each excludes the others; the dual program.
  Chapter 35, plain: annuli around points, and their least width.
  Chapter 5: slices.Repeat of one text.
  Chapter 5: 'width', and the closure of 'pivot' that takes a multiple of a row away.
  Chapter 5: 'pivot' lets a row determine a column.
-/
import Derived.Test.YtijpgddpejiohaaGreatDoorKK
import Derived.Test.YtijpgddpejiohaaGreatDoorKH
import Derived.Test.YtijpgddpejiohaaGreatDoorKI
import Derived.Shelf.Bits.Mul64
import Derived.Laws.CopyRow
import Derived.BigRegion
section
namespace Go.Proofs.YtijpgddpejiohaaGreatDoor
open Go
namespace Sx
open M
section
variable {n e : Nat} {l : List BQ} {goal : List Rat} {r : (Rat × List Rat × List Rat) ⊕ Nat}
theorem Found.cases (h : Found e n l goal r) : (∃ v p w, r = .inl (v, p, w) ∧ Optim n l goal v p w) ∨ (r = .inr 6 ∧ ∃ w, Contra n l w) ∨ (r = .inr 14 ∧ NoEnd n l goal) := by
  match r, h with
  | .inl (v, p, w), h => exact Or.inl ⟨v, p, w, rfl, h.1⟩
  | .inr k, h =>
    rcases h with ⟨rfl, h⟩ | ⟨rfl, h⟩
    · exact Or.inr (Or.inl ⟨rfl, h⟩)
    · exact Or.inr (Or.inr ⟨rfl, h⟩)
end
section
variable {n : Nat} {l : List BQ} {goal y : List Rat}
end
end Sx
end Go.Proofs.YtijpgddpejiohaaGreatDoor
end
section
namespace Go.Proofs.YtijpgddpejiohaaGreatDoor
open Go
namespace M
abbrev PZ := Int × Int
def farQ (p : PZ) (c : Rat × Rat) : Rat := ((p.1 : Rat) - c.1) * ((p.1 : Rat) - c.1) + ((p.2 : Rat) - c.2) * ((p.2 : Rat) - c.2)
def loTo (f : Nat → Rat) : Nat → Rat
  | 0 => f 0
  | i + 1 => if f (i + 1) < loTo f i then f (i + 1) else loTo f i
def hiTo (f : Nat → Rat) : Nat → Rat
  | 0 => f 0
  | i + 1 => if hiTo f i < f (i + 1) then f (i + 1) else hiTo f i
theorem loTo_spec (f : Nat → Rat) : ∀ i, (∃ k, k ≤ i ∧ f k = loTo f i) ∧ ∀ k, k ≤ i → loTo f i ≤ f k
  | 0 => ⟨⟨0, Nat.le_refl _, rfl⟩, fun k hk => by rw [Nat.le_zero.1 hk]; exact Rat.le_refl⟩
  | i + 1 => by
    obtain ⟨⟨k, hk, e⟩, h⟩ := loTo_spec f i
    rw [loTo]
    split
    · rename_i hlt
      refine ⟨⟨i + 1, Nat.le_refl _, rfl⟩, fun j hj => ?_⟩
      by_cases hj2 : j = i + 1
      · subst hj2; exact Rat.le_refl
      · have := h j (by omega); grind
    · rename_i hlt
      refine ⟨⟨k, by omega, e⟩, fun j hj => ?_⟩
      by_cases hj2 : j = i + 1
      · subst hj2; grind
      · exact h j (by omega)
theorem hiTo_spec (f : Nat → Rat) : ∀ i, (∃ k, k ≤ i ∧ f k = hiTo f i) ∧ ∀ k, k ≤ i → f k ≤ hiTo f i
  | 0 => ⟨⟨0, Nat.le_refl _, rfl⟩, fun k hk => by rw [Nat.le_zero.1 hk]; exact Rat.le_refl⟩
  | i + 1 => by
    obtain ⟨⟨k, hk, e⟩, h⟩ := hiTo_spec f i
    rw [hiTo]
    split
    · rename_i hlt
      refine ⟨⟨i + 1, Nat.le_refl _, rfl⟩, fun j hj => ?_⟩
      by_cases hj2 : j = i + 1
      · subst hj2; exact Rat.le_refl
      · have := h j (by omega); grind
    · rename_i hlt
      refine ⟨⟨k, by omega, e⟩, fun j hj => ?_⟩
      by_cases hj2 : j = i + 1
      · subst hj2; grind
      · exact h j (by omega)
def farF (l : List PZ) (c : Rat × Rat) (i : Nat) : Rat := farQ (l.getD i (0, 0)) c
def innQ (l : List PZ) (c : Rat × Rat) : Rat := loTo (farF l c) (l.length - 1)
def outQ (l : List PZ) (c : Rat × Rat) : Rat := hiTo (farF l c) (l.length - 1)
def widQ (l : List PZ) (c : Rat × Rat) : Rat := outQ l c - innQ l c
theorem farF_get (l : List PZ) (c : Rat × Rat) {i : Nat} (h : i < l.length) : farF l c i = farQ l[i] c := by unfold farF; simp [h]
theorem inn_spec {l : List PZ} (h : l ≠ []) (c : Rat × Rat) : (∃ p, p ∈ l ∧ farQ p c = innQ l c) ∧ ∀ p ∈ l, innQ l c ≤ farQ p c := by
  have h0 := List.length_pos_iff.2 h
  obtain ⟨⟨k, hk, e⟩, h2⟩ := loTo_spec (farF l c) (l.length - 1)
  refine ⟨⟨l[k]'(by omega), List.getElem_mem _, by rw [← farF_get l c (by omega)]; exact e⟩, fun p hp => ?_⟩
  obtain ⟨j, hj, rfl⟩ := List.getElem_of_mem hp
  rw [← farF_get l c hj]
  exact h2 j (by omega)
theorem out_spec {l : List PZ} (h : l ≠ []) (c : Rat × Rat) : (∃ p, p ∈ l ∧ farQ p c = outQ l c) ∧ ∀ p ∈ l, farQ p c ≤ outQ l c := by
  have h0 := List.length_pos_iff.2 h
  obtain ⟨⟨k, hk, e⟩, h2⟩ := hiTo_spec (farF l c) (l.length - 1)
  refine ⟨⟨l[k]'(by omega), List.getElem_mem _, by rw [← farF_get l c (by omega)]; exact e⟩, fun p hp => ?_⟩
  obtain ⟨j, hj, rfl⟩ := List.getElem_of_mem hp
  rw [← farF_get l c hj]
  exact h2 j (by omega)
theorem wid_diff {l : List PZ} {c : Rat × Rat} {p q : PZ} (hp : p ∈ l) (hq : q ∈ l) : farQ p c - farQ q c ≤ widQ l c := by
  have h : l ≠ [] := List.ne_nil_of_mem hp
  have h1 := (out_spec h c).2 p hp
  have h2 := (inn_spec h c).2 q hq
  unfold widQ; grind
theorem wid_ex {l : List PZ} (h : l ≠ []) (c : Rat × Rat) : ∃ p q, p ∈ l ∧ q ∈ l ∧ widQ l c = farQ p c - farQ q c := by
  obtain ⟨p, hp, e1⟩ := (out_spec h c).1
  obtain ⟨q, hq, e2⟩ := (inn_spec h c).1
  exact ⟨p, q, hp, hq, by unfold widQ; rw [e1, e2]⟩
theorem wid_nonneg {l : List PZ} (h : l ≠ []) (c : Rat × Rat) : 0 ≤ widQ l c := by
  obtain ⟨p, hp, _⟩ := (out_spec h c).1
  have := wid_diff (c := c) hp hp
  grind
theorem wid_map {l l' : List PZ} {c c' : Rat × Rat} {k : Rat} (h : l ≠ []) (hm : ∀ p ∈ l, ∃ p', p' ∈ l' ∧ farQ p' c' = k * farQ p c) : k * widQ l c ≤ widQ l' c' := by
  obtain ⟨p, q, hp, hq, e⟩ := wid_ex h c
  obtain ⟨p', hp', e1⟩ := hm p hp
  obtain ⟨q', hq', e2⟩ := hm q hq
  have := wid_diff (c := c') hp' hq'
  rw [e1, e2] at this
  rw [e]
  grind
def WidIs (l : List PZ) (x : Rat) : Prop := (∃ c, widQ l c = x) ∧ ∀ c, x ≤ widQ l c
theorem WidIs.unique {l : List PZ} {x y : Rat} (h : WidIs l x) (h2 : WidIs l y) : x = y := by
  obtain ⟨c, e⟩ := h.1
  obtain ⟨d, e2⟩ := h2.1
  have a := h.2 d
  have b := h2.2 c
  grind
theorem WidIs.more {l l' : List PZ} {x y : Rat} (h : WidIs l x) (h2 : WidIs l' y) (hl : l ≠ []) (hs : ∀ p ∈ l, p ∈ l') : x ≤ y := by
  obtain ⟨c, e⟩ := h2.1
  have a := h.2 c
  have b := wid_map (c := c) (c' := c) (k := 1) hl fun p hp => ⟨p, hs p hp, by grind⟩
  grind
def movP (bx bY : Int) (p : PZ) : PZ := (bx - p.2, bY + p.1)
def twiP (p : PZ) : PZ := (2 * p.1, 2 * p.2)
theorem far_mov (bx bY : Int) (p : PZ) (c : Rat × Rat) : farQ (movP bx bY p) ((bx : Rat) - c.2, (bY : Rat) + c.1) = 1 * farQ p c := by
  unfold farQ movP
  simp only [Rat.intCast_sub, Rat.intCast_add]
  grind
theorem far_twi (p : PZ) (c : Rat × Rat) : farQ (twiP p) (2 * c.1, 2 * c.2) = 4 * farQ p c := by
  unfold farQ twiP
  simp only [Rat.intCast_mul]
  grind
theorem WidIs.mov {l l' : List PZ} {x : Rat} (bx bY : Int) (h : WidIs l x) (hl : l ≠ []) (hs : ∀ p, p ∈ l' ↔ ∃ q, q ∈ l ∧ movP bx bY q = p) : WidIs l' x := by
  have hl' : l' ≠ [] := by
    obtain ⟨q, hq⟩ := List.exists_mem_of_ne_nil l hl
    exact List.ne_nil_of_mem ((hs _).2 ⟨q, hq, rfl⟩)
  have up : ∀ c, widQ l c ≤ widQ l' ((bx : Rat) - c.2, (bY : Rat) + c.1) := fun c => by
    have := wid_map (c := c) (c' := ((bx : Rat) - c.2, (bY : Rat) + c.1)) (k := 1) hl fun p hp => ⟨_, (hs _).2 ⟨p, hp, rfl⟩, far_mov bx bY p c⟩
    grind
  have dn : ∀ c, widQ l' ((bx : Rat) - c.2, (bY : Rat) + c.1) ≤ widQ l c := fun c => by
    have := wid_map (l := l') (l' := l) (c := ((bx : Rat) - c.2, (bY : Rat) + c.1)) (c' := c) (k := 1) hl' fun p hp => by
      obtain ⟨q, hq, rfl⟩ := (hs p).1 hp
      exact ⟨q, hq, by rw [far_mov]; grind⟩
    grind
  obtain ⟨c, e⟩ := h.1
  refine ⟨⟨((bx : Rat) - c.2, (bY : Rat) + c.1), by have a := up c; have b := dn c; rw [← e]; grind⟩, fun c' => ?_⟩
  have a := dn (c'.2 - bY, bx - c'.1)
  have b := up (c'.2 - bY, bx - c'.1)
  have e2 : (((bx : Rat) - ((c'.2 - bY, bx - c'.1) : Rat × Rat).2, (bY : Rat) + ((c'.2 - bY, bx - c'.1) : Rat × Rat).1) : Rat × Rat) = c' := by
    apply Prod.ext
    · show (bx : Rat) - (bx - c'.1) = c'.1; grind
    · show (bY : Rat) + (c'.2 - bY) = c'.2; grind
  rw [e2] at a b
  have := h.2 (c'.2 - bY, bx - c'.1)
  grind
theorem WidIs.twi {l l' : List PZ} {x : Rat} (h : WidIs l x) (hl : l ≠ []) (hs : ∀ p, p ∈ l' ↔ ∃ q, q ∈ l ∧ twiP q = p) : WidIs l' (4 * x) := by
  have hl' : l' ≠ [] := by
    obtain ⟨q, hq⟩ := List.exists_mem_of_ne_nil l hl
    exact List.ne_nil_of_mem ((hs _).2 ⟨q, hq, rfl⟩)
  have up : ∀ c, 4 * widQ l c ≤ widQ l' (2 * c.1, 2 * c.2) := fun c =>
    wid_map (c := c) (c' := (2 * c.1, 2 * c.2)) (k := 4) hl fun p hp => ⟨_, (hs _).2 ⟨p, hp, rfl⟩, far_twi p c⟩
  have dn : ∀ c, widQ l' (2 * c.1, 2 * c.2) ≤ 4 * widQ l c := fun c => by
    have := wid_map (l := l') (l' := l) (c := (2 * c.1, 2 * c.2)) (c' := c) (k := 1 / 4) hl' fun p hp => by
      obtain ⟨q, hq, rfl⟩ := (hs p).1 hp
      exact ⟨q, hq, by rw [far_twi]; grind⟩
    grind
  obtain ⟨c, e⟩ := h.1
  refine ⟨⟨(2 * c.1, 2 * c.2), by have a := up c; have b := dn c; rw [← e]; grind⟩, fun c' => ?_⟩
  have b := up (c'.1 / 2, c'.2 / 2)
  have e2 : ((2 * ((c'.1 / 2, c'.2 / 2) : Rat × Rat).1, 2 * ((c'.1 / 2, c'.2 / 2) : Rat × Rat).2) : Rat × Rat) = c' := by
    apply Prod.ext
    · show 2 * (c'.1 / 2) = c'.1; grind
    · show 2 * (c'.2 / 2) = c'.2; grind
  rw [e2] at b
  have := h.2 (c'.1 / 2, c'.2 / 2)
  grind
theorem wid_circle {l : List PZ} (hl : l ≠ []) {c : Rat × Rat} {r : Rat} (h : ∀ p ∈ l, farQ p c = r) : WidIs l 0 := by
  refine ⟨⟨c, ?_⟩, fun d => wid_nonneg hl d⟩
  obtain ⟨p, q, hp, hq, e⟩ := wid_ex hl c
  rw [e, h p hp, h q hq]; grind
end M
namespace Sx
open M
def nrmZ (p : PZ) : Int := p.1 * p.1 + p.2 * p.2
def ringB (l : List PZ) : List BQ := l.flatMap fun p => [([((-2 * p.1 : Int) : Rat), ((-2 * p.2 : Int) : Rat), 0, -1], ((-(nrmZ p) : Int) : Rat)), ([((2 * p.1 : Int) : Rat), ((2 * p.2 : Int) : Rat), 1, 0], ((nrmZ p : Int) : Rat))]
def ringG : List Rat := [0, 0, 1, -1]
def heiQ (p : PZ) (c : Rat × Rat) : Rat := (nrmZ p : Rat) - 2 * (p.1 : Rat) * c.1 - 2 * (p.2 : Rat) * c.2
theorem hei_far (p : PZ) (c : Rat × Rat) : farQ p c = heiQ p c + (c.1 * c.1 + c.2 * c.2) := by
  unfold farQ heiQ nrmZ
  simp only [Rat.intCast_add, Rat.intCast_mul]
  grind
theorem ring_keeps {l : List PZ} {x : List Rat} : Keeps 4 (ringB l) x ↔ x.length = 4 ∧ ∀ p ∈ l, nth x 2 ≤ heiQ p (nth x 0, nth x 1) ∧ heiQ p (nth x 0, nth x 1) ≤ nth x 3 := by
  unfold Keeps
  refine and_congr_right fun hx => ⟨fun h p hp => ?_, fun h b hb => ?_⟩
  · have h1 := h ([((-2 * p.1 : Int) : Rat), ((-2 * p.2 : Int) : Rat), 0, -1], ((-(nrmZ p) : Int) : Rat)) (List.mem_flatMap.2 ⟨p, hp, by simp⟩)
    have h2 := h ([((2 * p.1 : Int) : Rat), ((2 * p.2 : Int) : Rat), 1, 0], ((nrmZ p : Int) : Rat)) (List.mem_flatMap.2 ⟨p, hp, by simp⟩)
    simp only [dotP, nth, List.getD_cons_zero, List.getD_cons_succ, Rat.intCast_mul, Rat.intCast_neg] at h1 h2
    unfold heiQ nth
    exact ⟨by grind, by grind⟩
  · obtain ⟨p, hp, hb⟩ := List.mem_flatMap.1 hb
    obtain ⟨h1, h2⟩ := h p hp
    unfold heiQ nth at h1 h2
    simp only [List.mem_cons, List.not_mem_nil, or_false] at hb
    rcases hb with rfl | rfl
    · simp only [dotP, nth, List.getD_cons_zero, List.getD_cons_succ, Rat.intCast_mul, Rat.intCast_neg, show (((2 : Int)) : Rat) = 2 from rfl]
      grind
    · simp only [dotP, nth, List.getD_cons_zero, List.getD_cons_succ, Rat.intCast_mul, show (((2 : Int)) : Rat) = 2 from rfl]
      grind
theorem ring_goal (x : List Rat) : dotP ringG x 4 = nth x 2 - nth x 3 := by
  simp only [ringG, dotP, nth, List.getD_cons_zero, List.getD_cons_succ]
  grind
theorem ring_point {l : List PZ} (hl : l ≠ []) (c : Rat × Rat) : ∃ x, Keeps 4 (ringB l) x ∧ nth x 0 = c.1 ∧ nth x 1 = c.2 ∧ dotP ringG x 4 = - widQ l c := by
  refine ⟨[c.1, c.2, innQ l c - (c.1 * c.1 + c.2 * c.2), outQ l c - (c.1 * c.1 + c.2 * c.2)], ring_keeps.2 ⟨rfl, fun p hp => ?_⟩, rfl, rfl, ?_⟩
  · have h1 := (inn_spec hl c).2 p hp
    have h2 := (out_spec hl c).2 p hp
    rw [hei_far] at h1 h2
    simp only [nth, List.getD_cons_zero, List.getD_cons_succ]
    exact ⟨by grind, by grind⟩
  · rw [ring_goal]
    simp only [nth, List.getD_cons_zero, List.getD_cons_succ, widQ]
    grind
theorem ring_wid {l : List PZ} (hl : l ≠ []) {x : List Rat} (h : Keeps 4 (ringB l) x) : dotP ringG x 4 ≤ - widQ l (nth x 0, nth x 1) := by
  obtain ⟨p, q, hp, hq, e⟩ := wid_ex hl (nth x 0, nth x 1)
  obtain ⟨_, h⟩ := ring_keeps.1 h
  have h1 := (h p hp).2
  have h2 := (h q hq).1
  rw [e, hei_far, hei_far, ring_goal]
  grind
theorem ring_opt {l : List PZ} (hl : l ≠ []) {v : Rat} {x w : List Rat} (h : Optim 4 (ringB l) ringG v x w) : WidIs l (widQ l (nth x 0, nth x 1)) ∧ widQ l (nth x 0, nth x 1) = -v := by
  have h1 := ring_wid hl h.keeps
  have hv : dotP ringG x 4 = v := h.2.1
  have hle : ∀ c, -v ≤ widQ l c := fun c => by
    obtain ⟨y, hy, _, _, e⟩ := ring_point hl c
    have := h.le hy
    rw [e] at this
    grind
  have h2 := hle (nth x 0, nth x 1)
  rw [hv] at h1
  have e : widQ l (nth x 0, nth x 1) = -v := by grind
  exact ⟨⟨⟨_, rfl⟩, fun c => by rw [e]; exact hle c⟩, e⟩
theorem ring_found {e : Nat} {l : List PZ} (hl : l ≠ []) {r : (Rat × List Rat × List Rat) ⊕ Nat} (h : Found e 4 (ringB l) ringG r) :
    ∃ v x w, r = .inl (v, x, w) ∧ Optim 4 (ringB l) ringG v x w := by
  rcases h.cases with h | ⟨_, w, hw⟩ | ⟨_, p, q, hp, hq1, hq2, hq3⟩
  · exact h
  · obtain ⟨x, hx, _⟩ := ring_point hl (0, 0)
    exact (keeps_contra hx hw).elim
  · exfalso
    obtain ⟨a, ha⟩ := List.exists_mem_of_ne_nil l hl
    have h1 := hq2 ([((-2 * a.1 : Int) : Rat), ((-2 * a.2 : Int) : Rat), 0, -1], ((-(nrmZ a) : Int) : Rat)) (List.mem_flatMap.2 ⟨a, ha, by simp⟩)
    have h2 := hq2 ([((2 * a.1 : Int) : Rat), ((2 * a.2 : Int) : Rat), 1, 0], ((nrmZ a : Int) : Rat)) (List.mem_flatMap.2 ⟨a, ha, by simp⟩)
    rw [ring_goal] at hq3
    simp only [dotP, nth, List.getD_cons_zero, List.getD_cons_succ, Rat.intCast_mul, show (((2 : Int)) : Rat) = 2 from rfl, show (((-2 : Int)) : Rat) = -2 from by decide +kernel] at h1 h2
    unfold nth at hq3
    grind
end Sx
end Go.Proofs.YtijpgddpejiohaaGreatDoor
end
section
namespace Go.Proofs.YtijpgddpejiohaaGreatDoor
open Go Go.RowKit Go.Deep Go.Sort
theorem infoRat : (Tryz.prog.info? 29).map (fun i => (i.zero, i.size, i.bytes)) = some (some (.string ⟨#[]⟩), 1, 16) := by kernel_rfl
theorem sizeRat : (Tryz.prog.info? 29).map (·.size) = some 1 := by kernel_rfl
theorem make_rt (n : Nat) (h : n ≤ 1000000) (w : World) :
    (Instr.makeSlice 23 (.int .i64 (n : Int)) (.int .i64 (n : Int))).run Tryz.prog w = .ok (.slice (some ⟨w.heap.size, 0, none⟩) n n) (w.alloc (.cells (Strs (List.replicate n [])).toArray 29 (0, 0))) := by
  rw [run_make_row' 23 29 (.string ⟨#[]⟩) 16 Tryz.underlying23 infoRat rfl .i64 .i64 n (by omega) (by omega) w]
  have : madeCells #[Value.string ⟨#[]⟩] n = (Strs (List.replicate n [])).toArray := by
    apply Array.toList_inj.1
    rw [toList_madeCells_one]; simp [Strs, bs]
  rw [this]
def Part0 (k n : Nat) : List Value := Strs (List.replicate k [48] ++ List.replicate (n - k) [])
theorem Part0.len {k n : Nat} (h : k ≤ n) : (Part0 k n).length = n := by simp [Part0, Strs]; omega
theorem Part0.get {k n j : Nat} (h : j < k) : (Part0 k n)[j]? = some (.string (bs [48])) := by
  simp only [Part0, Strs, List.getElem?_map]
  rw [List.getElem?_append_left (by simpa using h)]; simp [h]
theorem Part0.put {k c n : Nat} (h : k + c ≤ n) : (Part0 k n).take k ++ List.replicate c (.string (bs [48])) ++ (Part0 k n).drop (k + c) = Part0 (k + c) n := by
  have e1 : (Part0 k n).take k = List.replicate k (.string (bs [48])) := by simp [Part0, Strs]
  have e2 : (Part0 k n).drop (k + c) = List.replicate (n - (k + c)) (.string (bs [])) := by
    simp only [Part0, Strs, List.map_append, List.map_replicate]
    rw [List.drop_append, List.drop_eq_nil_of_le (by simp), List.nil_append, List.drop_replicate, List.length_replicate]
    congr 1; omega
  rw [e1, e2]
  simp only [Part0, Strs, List.map_append, List.map_replicate, List.replicate_append_replicate]
theorem copy_rt {w : World} {g a o k c n sCap : Nat} (h : Row w g 29 (Part0 k n)) (dLen dCap sLen : Nat) (hc : c = Nat.min sLen dLen) (hk : k + c ≤ n) (hs : ∀ j, j < c → w.cell? ⟨a, o + j, none⟩ = some (.string (bs [48]))) :
    ∃ wx, (∀ ty, (Builtin.copy_ #[23, 23] ty #[.slice (some ⟨g, k, none⟩) dLen dCap, .slice (some ⟨a, o, none⟩) sLen sCap]).run Tryz.prog w = .ok (goInt c) wx)
      ∧ Row wx g 29 (Part0 (k + c) n) ∧ (∀ B, B ≤ g → Below B w wx) := by
  refine ⟨w.setRow g (Part0 (k + c) n).toArray, fun ty => ?_, by simpa using h.setRow (Part0 (k + c) n).toArray, fun B hB => Below.setRow (RowKit.Below.refl B w) hB _⟩
  have := run_copy_row (P := Tryz.prog) w 23 23 ty 29 g k dLen dCap ⟨a, o, none⟩ sLen sCap (Part0 k n).toArray 29 (List.replicate c (.string (bs [48]))) Tryz.underlying23 sizeRat h (by rw [List.length_replicate]; exact hc) (by
    intro j v hj
    have hjc : j < c := by
      rcases Nat.lt_or_ge j c with h2 | h2
      · exact h2
      · rw [List.getElem?_eq_none (by rw [List.length_replicate]; exact h2)] at hj; cases hj
    rw [List.getElem?_replicate, if_pos hjc] at hj
    have hadd : (⟨a, o, none⟩ : Addr).add j = ⟨a, o + j, none⟩ := by unfold Addr.add; split <;> simp_all
    rw [hadd, hs j hjc, hj]) (by rw [List.length_replicate]; simp [Part0.len (show k ≤ n by omega)]; exact hk) (fun v hv => by rw [List.eq_of_mem_replicate hv]; rfl)
  rw [this, List.length_replicate]
  simp only [Part0.put hk]
namespace W
open M
attribute [local go_sem] bs_size bs_toList bs_get bs_extract bs_append bs_lit0 bs_lit1 lit1_bs
set_option maxHeartbeats 1000000
set_option maxRecDepth 20000
theorem pmul64 (x y : Nat) (hx : x < 18446744073709551616) (hy : y < 18446744073709551616) (w : World) :
    Calls Tryz.prog 227 #[.int .u64 x, .int .u64 y] w fun e w' => e = .returned (.tuple #[.int .u64 ((x * y / 18446744073709551616 : Nat) : Int), .int .u64 ((x * y % 18446744073709551616 : Nat) : Int)]) ∧ w' = w := by
  obtain ⟨bd, bt, bw, hhi⟩ := Lib.mul64_hi x y hx hy
  have ba := Lib.half_mul_le (a := x / 4294967296) (b := y / 4294967296) (by omega) (by omega)
  have bb := Lib.half_mul_le (a := x / 4294967296) (b := y % 4294967296) (by omega) (by omega)
  have bc := Lib.half_mul_le (a := x % 4294967296) (b := y / 4294967296) (by omega) (by omega)
  have ba' : x / 4294967296 * (y / 4294967296) < 18446744073709551616 := by omega
  have bb' : x / 4294967296 * (y % 4294967296) < 18446744073709551616 := by omega
  have bc' : x % 4294967296 * (y / 4294967296) < 18446744073709551616 := by omega
  have bh1 : x / 4294967296 * (y / 4294967296) + (x / 4294967296 * (y % 4294967296) + x % 4294967296 * (y % 4294967296) / 4294967296) / 4294967296 < 18446744073709551616 := by omega
  have bh : x / 4294967296 * (y / 4294967296) + (x / 4294967296 * (y % 4294967296) + x % 4294967296 * (y % 4294967296) / 4294967296) / 4294967296 + ((x / 4294967296 * (y % 4294967296) + x % 4294967296 * (y % 4294967296) / 4294967296) % 4294967296 + x % 4294967296 * (y / 4294967296)) / 4294967296 < 18446744073709551616 := by omega
  go_enter Tryz.func227, Tryz.ntmps227
  go_wp2
  simp only [Mul64.maskN x hx, Mul64.maskN y hy, Mul64.divN, Mul64.mulN, Mul64.addN, Mul64.wrapN _ bd, Mul64.wrapN _ bb', Mul64.wrapN _ bt, Mul64.maskN _ bt, Mul64.wrapN _ bc', Mul64.wrapN _ bw, Mul64.wrapN _ ba', Mul64.wrapN _ bh1, Mul64.wrapN _ bh, Mul64.wrapM (x * y)]
  rw [hhi]
  go_ret2
  exact ⟨rfl, rfl⟩
theorem pmul (x y : Nat) (hx : x < 18446744073709551616) (hy : y < 18446744073709551616) (w : World) :
    Calls Tryz.prog 191 #[.int .u64 x, .int .u64 y] w fun e w' => e = .returned (.tuple #[.int .u64 ((x * y / 18446744073709551616 : Nat) : Int), .int .u64 ((x * y % 18446744073709551616 : Nat) : Int)]) ∧ w = w' := by
  have H := Lib.hid (pmul64 x y hx hy w)
  go_enter Tryz.func191, Tryz.ntmps191
  go_wp2_with fail
  refine (H.out).mono ?_
  rintro e w' ⟨rfl, rfl⟩
  go_wp2
  go_ret2
  exact ⟨rfl, rfl⟩
theorem prepeat (gx cx n : Nat) (w : World) (hx : w.cell? ⟨gx, 0, none⟩ = some (.string (bs [48]))) (hn1 : 1 ≤ n) (hn : n ≤ 1000000) :
    Calls Tryz.prog 127 #[.slice (some ⟨gx, 0, none⟩) 1 cx, .int .i64 (n : Int)] w fun e w' => ∃ g, e = .returned (.slice (some ⟨g, 0, none⟩) n n) ∧ w.heap.size ≤ g ∧ Row w' g 29 (Part0 n n) ∧ Below w.heap.size w w' := by
  have HM := Lib.hid (fun w => pmul 1 n (by omega) (by omega) w)
  rw [show 1 * n / 18446744073709551616 = 0 by omega, show 1 * n % 18446744073709551616 = n by omega] at HM
  have hmk := make_rt n hn
  have hr0 : Row (w.alloc (.cells (Strs (List.replicate n [])).toArray 29 (0, 0))) w.heap.size 29 (Part0 0 n) := by
    have := Row.new w 29 (Strs (List.replicate n []))
    simpa [Part0] using this
  have hb0 : Below w.heap.size w (w.alloc (.cells (Strs (List.replicate n [])).toArray 29 (0, 0))) := (Below.refl _ _).alloc (Nat.le_refl _) _
  obtain ⟨wx, hcp, hrx, hbx⟩ := copy_rt (w := w.alloc (.cells (Strs (List.replicate n [])).toArray 29 (0, 0))) (a := gx) (o := 0) (c := 1) (sCap := cx) hr0 n n 1 (by show 1 = min 1 n; omega) (by omega) (fun j hj => by
    obtain rfl : j = 0 := by omega
    exact (hb0.cell (p := ⟨gx, 0, none⟩) (block_lt_of_cell hx)).trans hx)
  have hw1 : IntKind.u64.wrap (n : Int) = (n : Int) := by rw [IntKind.wrap_u64]; omega
  have hw2 : IntKind.i64.wrap (n : Int) = (n : Int) := IntWalk.i64_in _ (by omega)
  have hw3 : decide ((9223372036854775807 : Int) < (n : Int)) = false := decide_eq_false (by omega)
  have HR := Lib.hid (And.intro hrx (hb0.trans (hbx _ (Nat.le_refl _))))
  clear hr0 hb0 hrx hbx hx
  go_enter Tryz.func127, Tryz.ntmps127
  go_wp2_with fail
  refine ((HM.out _)).mono ?_
  rintro e w' ⟨rfl, rfl⟩
  go_wp2
  clear hmk hcp hw1 hw2 hw3 HM
  go_loopw [8] (fun iv wr => ∃ k : Nat, iv = .int .i64 (k : Int) ∧ 1 ≤ k ∧ k ≤ n ∧ Hid (Row wr w.heap.size 29 (Part0 k n) ∧ Below w.heap.size w wr)) (fun iv _ => n - (intOf iv).toNat)
  case atStart => exact ⟨1, rfl, by omega, hn1, by rw [Nat.zero_add] at HR; exact HR⟩
  case round =>
    clear HR
    obtain ⟨k, rfl, hk1, hkn, hin⟩ := hrel
    by_cases hlt : k < n
    · have hrd : Row wr.drew w.heap.size 29 (Part0 k n) := hin.out.1
      obtain ⟨wy, hcp, hry, hby⟩ := copy_rt (a := w.heap.size) (o := 0) (c := min k (n - k)) (sCap := n) hrd (n - k) (n - k) k rfl (by omega) (fun j hj => hin.out.1.cell (by rw [Nat.zero_add]; exact Part0.get (by omega)))
      have HR := Lib.hid (And.intro hry (And.intro (hin.out.2.trans (RowKit.Below.drew (Below.refl _ _))) (hby _ (Nat.le_refl _))))
      clear hry hby hrd hin
      go_wp2_with fail
      go_region
      go_wp2
      go_roundw
      case rel => exact ⟨k + min k (n - k), by go_num, by omega, by omega, Lib.hid ⟨HR.out.1, HR.out.2.1.trans HR.out.2.2⟩⟩
      case measure => simp [intOf]; omega
    · obtain rfl : n = k := by omega
      go_wp2
      go_ret
      exact ⟨_, rfl, Nat.le_refl _, hin.out.1, hin.out.2⟩
end W
end Go.Proofs.YtijpgddpejiohaaGreatDoor
end
section
namespace Go.Proofs.YtijpgddpejiohaaGreatDoor
open Go Go.RowKit Go.Deep Go.Sort
def Kp (h : Nat → Nat) (m : Nat) (w w' : World) : Prop := w.heap.size ≤ w'.heap.size ∧ ∀ x, x < w.heap.size → (∀ j, j ≤ m → x ≠ h j) → w'.heap[x]? = w.heap[x]?
theorem Kp.refl (h : Nat → Nat) (m : Nat) (w : World) : Kp h m w w := ⟨Nat.le_refl _, fun _ _ _ => rfl⟩
theorem Kp.trans {h : Nat → Nat} {m : Nat} {u v w : World} (h1 : Kp h m u v) (h2 : Kp h m v w) : Kp h m u w :=
  ⟨Nat.le_trans h1.1 h2.1, fun x hx hn => (h2.2 x (Nat.lt_of_lt_of_le hx h1.1) hn).trans (h1.2 x hx hn)⟩
theorem Kp.bel {h : Nat → Nat} {m : Nat} {u v : World} (hb : Below u.heap.size u v) : Kp h m u v := ⟨hb.size, fun x hx _ => hb.block x hx⟩
theorem Kp.set {h : Nat → Nat} {m : Nat} {u v : World} (h1 : Kp h m u v) {j : Nat} (hj : j ≤ m) (k : Nat) (q : Value) : Kp h m u (v.setCell ⟨h j, k, none⟩ q) :=
  ⟨by
    have := h1.1
    show _ ≤ (v.heap.modify _ _).size
    simp; exact this, fun x hx hn => (Below.heap_setCell _ _ _ _ (hn j hj)).trans (h1.2 x hx hn)⟩
theorem Pre.kp {h : Nat → Nat} {m : Nat} {u v : World} {x : Nat} {t : TypeId} {xs : List Value} (hp : Pre u x t xs) (hk : Kp h m u v) (hn : ∀ j, j ≤ m → x ≠ h j) : Pre v x t xs := by
  have hl := hp.lt
  obtain ⟨sp, hp⟩ := hp
  exact ⟨sp, (hk.2 x hl hn).trans hp⟩
namespace M
theorem upd_mix (A : Mx) (f G : Nat → Rat) (j k : Nat) : upd (upd A j (mix f G k)) j (upd ((upd A j (mix f G k)) j) k (G k)) = upd A j (mix f G (k + 1)) := by
  funext i
  by_cases e : i = j
  · subst e
    rw [upd_same, upd_same, upd_same]
    funext x
    by_cases e2 : x = k
    · subst e2; rw [upd_same]; simp [mix]
    · rw [upd_other _ e2]; unfold mix
      by_cases h3 : x < k
      · rw [if_pos h3, if_pos (by omega)]
      · rw [if_neg h3, if_neg (by omega)]
  · rw [upd_other _ e, upd_other _ e, upd_other _ e]
theorem upd_self (A : Mx) (j : Nat) : upd A j (A j) = A := by
  funext i
  by_cases e : i = j
  · subst e; rw [upd_same]
  · rw [upd_other _ e]
theorem mix_lt {f G : Nat → Rat} {k x : Nat} (h : x < k) : mix f G k x = G x := by unfold mix; rw [if_pos h]
theorem mix_ge {f G : Nat → Rat} {k x : Nat} (h : k ≤ x) : mix f G k x = f x := by unfold mix; rw [if_neg (by omega)]
end M
namespace W
open M
attribute [local go_sem] bs_size bs_toList bs_get bs_extract bs_append bs_lit0 bs_lit1 lit1_bs
set_option maxHeartbeats 1000000
set_option maxRecDepth 20000
section
variable {w : World} {B p S gr gb cr cb : Nat} {h : Nat → Nat} {n m : Nat} {A : Mx} {b : Nat → Nat}
theorem pwidth (t : TabS w B p S gr gb cr cb h n m A b) : Calls Tryz.prog 68 #[.pointer (some ⟨p, 0, none⟩)] w (Ret w (.int .i64 ((wdt n m : Nat) : Int))) := by
  have c1 := t.c1
  have c2 := t.c2
  have hn := t.hn
  have hm := t.hm
  have hw1 : IntKind.i64.wrap (2 * (n : Int)) = 2 * (n : Int) := IntWalk.i64_in _ (by omega)
  have hw2 : IntKind.i64.wrap (2 * (n : Int) + (m : Int)) = 2 * (n : Int) + (m : Int) := IntWalk.i64_in _ (by omega)
  have hw3 : IntKind.i64.wrap (2 * (n : Int) + (m : Int) + 1) = ((wdt n m : Nat) : Int) := by rw [IntWalk.i64_in _ (by omega)]; unfold wdt; omega
  clear t hn hm
  go_enter Tryz.func68, Tryz.ntmps68
  go_wp2
  go_quiet (fail)
  go_wp2
  go_ret
  exact Ret.of rfl (Below.drewN (Below.refl _ _) _)
theorem pdrop (t : TabS w B p S gr gb cr cb h n m A b) (xc xt xr j r c e1 e2 : Nat)
    (hc : Pre w xc 3 [.int .i64 (c : Int)]) (ht : Pre w xt 103 [.pointer (some ⟨p, 0, none⟩)]) (hr : Pre w xr 3 [.int .i64 (r : Int)])
    (nc : ∀ j, j ≤ m → xc ≠ h j) (nt : ∀ j, j ≤ m → xt ≠ h j) (nr : ∀ j, j ≤ m → xr ≠ h j)
    (hj : j ≤ m) (hrm : r < m) (hjr : j ≠ r) (hcw : c ≤ wdt n m)
    (b1 : ∀ k, k ≤ wdt n m → Bq e1 (A j k)) (b2 : ∀ k, k ≤ wdt n m → Bq e2 (A r k)) (hb : e1 + (e1 + e2) + 1 ≤ 1024) :
    Calls Tryz.prog 197 #[.slice (some ⟨h j, 0, none⟩) (wdt n m + 1) (wdt n m + 1), .pointer (some ⟨xc, 0, none⟩), .pointer (some ⟨xt, 0, none⟩), .pointer (some ⟨xr, 0, none⟩)] w fun e w' =>
      e = .returned (.tuple #[]) ∧ TabS w' B p S gr gb cr cb h n m (upd A j fun k => A j k - A j c * A r k) b ∧ Below B w w' ∧ Kp h m w w' := by
  obtain ⟨L, hL⟩ : ∃ L, L = wdt n m + 1 := ⟨_, rfl⟩
  have hLs : L ≤ 100000 := by have := t.hn; have := t.hm; rw [hL]; unfold wdt; omega
  obtain ⟨G, hG⟩ : ∃ G : Nat → Rat, G = fun k => A j k - A j c * A r k := ⟨_, rfl⟩
  rw [← hL, ← hG]
  have HI := Lib.hid (fun W k (hk : k < L) (hT : TabS W B p S gr gb cr cb h n m (upd A j (mix (A j) G k)) b) => (by
    have e : G k = A j k - A j c * A r k := by rw [hG]
    rw [e]
    exact psless S (A j k) (A j c) (A r k) e1 e1 e2 W hT.gl hT.err (b1 k (by omega)) (b1 c hcw) (b2 k (by omega)) hb : Calls Tryz.prog 133 #[.pointer (some ⟨S, 0, none⟩), .string (bs (R (A j k))), .string (bs (R (A j c))), .string (bs (R (A r k)))] W (Ret W (.string (bs (R (G k)))))))
  have HT0 : Hid (TabS w B p S gr gb cr cb h n m (upd A j (mix (A j) G 0)) b ∧ Below B w w ∧ Kp h m w w) := Lib.hid ⟨by rw [mix_zero, upd_self]; exact t, Below.refl _ _, Kp.refl _ _ _⟩
  have HC := Lib.hid (fun W (hW : Kp h m w W) => And.intro ((hc.kp hW nc).cell (i := 0) rfl) (And.intro ((ht.kp hW nt).cell (i := 0) rfl) ((hr.kp hW nr).cell (i := 0) rfl)))
  have HA := Lib.hid (fun W k (hk : k < L) (hT : TabS W B p S gr gb cr cb h n m (upd A j (mix (A j) G k)) b) => (by
    have e1 := hT.ce hj (show k ≤ wdt n m by omega)
    rw [upd_same, mix_ge (Nat.le_refl k)] at e1
    have e2 := hT.ce (show r ≤ m by omega) (show k ≤ wdt n m by omega)
    rw [upd_other _ (fun e => hjr e.symm)] at e2
    have e3 := hT.crow hrm
    rw [← hL] at e3
    exact ⟨hT.c0, hT.c3, e3, e1, e2⟩ : W.cell? ⟨p, 0, none⟩ = some (.pointer (some ⟨S, 0, none⟩)) ∧ W.cell? ⟨p, 3, none⟩ = some (.slice (some ⟨gr, 0, none⟩) m cr) ∧ W.cell? ⟨gr, r, none⟩ = some (.slice (some ⟨h r, 0, none⟩) L L) ∧ W.cell? ⟨h j, k, none⟩ = some (.string (bs (R (A j k)))) ∧ W.cell? ⟨h r, k, none⟩ = some (.string (bs (R (A r k))))))
  have HS := Lib.hid (fun W k (hk : k < L) (hT : TabS W B p S gr gb cr cb h n m (upd A j (mix (A j) G k)) b ∧ Below B w W ∧ Kp h m w W) => (by
    have h2 := hT.1.setA hj (show k ≤ wdt n m by omega) (G k)
    rw [upd_mix] at h2
    exact ⟨h2, hT.1.belowA hT.2.1 hj k _, hT.2.2.set hj k _⟩ : TabS (W.setCell ⟨h j, k, none⟩ (.string (bs (R (G k))))) B p S gr gb cr cb h n m (upd A j (mix (A j) G (k + 1))) b ∧ Below B w (W.setCell ⟨h j, k, none⟩ (.string (bs (R (G k))))) ∧ Kp h m w (W.setCell ⟨h j, k, none⟩ (.string (bs (R (G k)))))))
  have HE := Lib.hid (fun W (hT : TabS W B p S gr gb cr cb h n m (upd A j (mix (A j) G L)) b) => (hT.congr (fun i hi k hk => by
    by_cases e : i = j
    · subst e; rw [upd_same, upd_same, mix_lt (by omega)]
    · rw [upd_other _ e, upd_other _ e]) (fun _ _ => rfl) : TabS W B p S gr gb cr cb h n m (upd A j G) b))
  have HF := Lib.hid (fun W k (hT : TabS W B p S gr gb cr cb h n m (upd A j (mix (A j) G k)) b) => hT.fe hj k)
  have cx := t.ce hj hcw
  obtain ⟨cc, ct, cR⟩ := HC.out w (Kp.refl _ _ _)
  have hcl : (c : Int) < (L : Int) := by omega
  have hc0 : (0 : Int) ≤ (c : Int) := by omega
  have hrs : (r : Int) < (m : Int) := by omega
  have hr0 : (0 : Int) ≤ (r : Int) := by omega
  clear t hc ht hr nc nt nr b1 b2 hb hL hG
  go_enter Tryz.func197, Tryz.ntmps197
  go_wp2
  go_loopw [13] (fun iv wr => ∃ k : Nat, iv = .int .i64 (k : Int) ∧ k ≤ L ∧ Hid (TabS wr B p S gr gb cr cb h n m (upd A j (mix (A j) G k)) b ∧ Below B w wr ∧ Kp h m w wr)) (fun iv _ => L - (intOf iv).toNat)
  case atStart => exact ⟨0, rfl, by omega, HT0⟩
  case round =>
    clear HT0 cx cc ct cR
    obtain ⟨k, rfl, hk, hin⟩ := hrel
    by_cases hlt : k < L
    · obtain ⟨cc, ct, cR⟩ := HC.out wr hin.out.2.2
      obtain ⟨c0, c3, c4, c5, c6⟩ := HA.out wr k hlt hin.out.1
      have k1 := reg_of (w := wr) (fun W hW => HI.out W k hlt (hin.out.1.below' hW))
      have m0 := cell_regrown c0
      have m3 := cell_regrown c3
      have m4 := cell_regrown c4
      have m5 := cell_regrown c5
      have m6 := cell_regrown c6
      have mt := cell_regrown ct
      have mr := cell_regrown cR
      have e1 : ∀ args w, (callFunc 133 args).run Tryz.prog w = .ok (.enter 133 args) w := enters_of Tryz.func133 (by kernel_rfl) rfl
      have hk0 : (0 : Int) ≤ (k : Int) := by omega
      have hks : (k : Int) < (L : Int) := by omega
      have HSW := Lib.hid (HS.out · k hlt)
      have HFW := Lib.hid (HF.out · k)
      clear c0 c3 c4 c5 c6 cc ct cR
      go_wp2_with fail
      refine region_below_tail 22 (by kernel_rfl) (by kernel_rfl) ?_
      simp only [List.take_succ_cons, List.take_zero, List.drop_succ_cons, List.drop_zero]
      repeat (go_big_quiet_step (fail))
      go_big_quiet_step (exact k1 _ _)
      repeat (go_big_quiet_step (fail))
      refine wpQuiet_nil ?_
      intro W6 hw'
      have hb6 : Below wr.heap.size wr W6 := by obtain ⟨p, e⟩ := hw'; rw [e]; exact below_regrown wr p.d p.os
      have HT6 : Hid (TabS W6 B p S gr gb cr cb h n m (upd A j (mix (A j) G k)) b ∧ Below B w W6 ∧ Kp h m w W6) := Lib.hid ⟨hin.out.1.below' hb6, hin.out.2.1.trans (hb6.mono (by have := (hin.out.1.mat j hj).lt; have := hin.out.1.lowh j hj; omega)), hin.out.2.2.trans (Kp.bel hb6)⟩
      clear k1 m0 m3 m4 m5 m6 mt mr e1 hw' hb6
      have fz := HFW.out W6 HT6.out.1
      have fc := (HA.out W6 k hlt HT6.out.1).2.2.2.1
      go_wp2
      go_roundw
      case rel => exact ⟨k + 1, by go_num, hlt, Lib.hid (HSW.out W6 HT6.out)⟩
      case measure => simp [intOf]; omega
    · obtain rfl : L = k := by omega
      have HX := Lib.hid (And.intro (HE.out wr hin.out.1) hin.out.2)
      clear hin
      go_wp2
      go_end0
      exact ⟨rfl, HX.out.1, HX.out.2.1, HX.out.2.2⟩
end
end W
end Go.Proofs.YtijpgddpejiohaaGreatDoor
end
section
namespace Go.Proofs.YtijpgddpejiohaaGreatDoor
open Go Go.RowKit Go.Deep Go.Sort
namespace M
theorem Bq.div {a b : Rat} {j k : Nat} (ha : Bq j a) (hb : Bq k b) (h0 : b ≠ 0) : Bq (j + k) (a / b) := by
  rw [← W.div_div]
  have hn0 : b.num ≠ 0 := fun e => h0 (Rat.num_eq_zero.1 e)
  exact Bq_div (Int.mul_ne_zero (by have := a.den_pos; omega) hn0) (mul_pow ha.1 (den_abs hb)) (mul_pow (den_abs ha) hb.1)
def dropA (A : Mx) (r c i : Nat) : Mx := fun j => if j < i ∧ j ≠ r then fun k => A j k - A j c * A r k else A j
theorem dropA_zero (A : Mx) (r c : Nat) : dropA A r c 0 = A := by funext j; simp [dropA]
theorem dropA_r (A : Mx) (r c i : Nat) : dropA A r c i r = A r := by simp [dropA]
theorem dropA_ge (A : Mx) (r c : Nat) {i j : Nat} (h : i ≤ j) : dropA A r c i j = A j := by unfold dropA; rw [if_neg (by omega)]
theorem dropA_step (A : Mx) (r c : Nat) {i : Nat} (h : i ≠ r) : upd (dropA A r c i) i (fun k => dropA A r c i i k - dropA A r c i i c * dropA A r c i r k) = dropA A r c (i + 1) := by
  funext j
  by_cases e : j = i
  · subst e
    rw [upd_same, dropA_r, dropA_ge _ _ _ (Nat.le_refl j)]
    unfold dropA
    rw [if_pos ⟨by omega, h⟩]
  · rw [upd_other _ e]
    unfold dropA
    by_cases h2 : j < i ∧ j ≠ r
    · rw [if_pos h2, if_pos ⟨by omega, h2.2⟩]
    · rw [if_neg h2, if_neg (by omega)]
theorem dropA_skip (A : Mx) (r c : Nat) (i : Nat) (h : i = r ∨ A i c = 0) (j k : Nat) : dropA A r c i j k = dropA A r c (i + 1) j k := by
  unfold dropA
  by_cases h2 : j < i ∧ j ≠ r
  · rw [if_pos h2, if_pos ⟨by omega, h2.2⟩]
  · rw [if_neg h2]
    by_cases h3 : j < i + 1 ∧ j ≠ r
    · rw [if_pos h3]
      have : j = i := by omega
      subst this
      rcases h with h | h
      · exact absurd h h3.2
      · rw [h]; grind
    · rw [if_neg h3]
theorem pivA_of (A : Mx) (r c m : Nat) (hr : r < m) (h0 : A r c ≠ 0) (j k : Nat) (hj : j ≤ m) :
    upd (dropA (upd A r fun k => A r k / A r c) r c m) m (fun k => dropA (upd A r fun k => A r k / A r c) r c m m k - dropA (upd A r fun k => A r k / A r c) r c m m c * dropA (upd A r fun k => A r k / A r c) r c m r k) j k = pivA A r c j k := by
  rw [dropA_step _ _ _ (by omega)]
  unfold dropA pivA
  by_cases e : j = r
  · subst e
    rw [if_neg (by simp), if_pos rfl, upd_same]
  · rw [if_pos ⟨by omega, e⟩, if_neg e, upd_other _ e, upd_same]
end M
namespace W
open M
attribute [local go_sem] bs_size bs_toList bs_get bs_extract bs_append bs_lit0 bs_lit1 lit1_bs
set_option maxHeartbeats 2000000
set_option maxRecDepth 20000
section
variable {w : World} {B p S gr gb cr cb : Nat} {h : Nat → Nat} {n m : Nat} {A : Mx} {b : Nat → Nat}
theorem TabS.size (t : TabS w B p S gr gb cr cb h n m A b) : B ≤ w.heap.size := Nat.le_trans t.lowp (Nat.le_of_lt t.tab.lt)
theorem TabS.hlt (t : TabS w B p S gr gb cr cb h n m A b) {j : Nat} (hj : j ≤ m) : h j < w.heap.size := (t.mat j hj).lt
theorem ppivot (t : TabS w B p S gr gb cr cb h n m A b) (r c e : Nat) (hrm : r < m) (hcw : c < wdt n m)
    (hA : ∀ j, j ≤ m → ∀ k, k ≤ wdt n m → Bq e (A j k)) (he : e ≤ 210) (h0 : A r c ≠ 0) :
    Calls Tryz.prog 131 #[.pointer (some ⟨p, 0, none⟩), .int .i64 (r : Int), .int .i64 (c : Int)] w fun ee w' =>
      ee = .returned (.tuple #[]) ∧ TabS w' B p S gr gb cr cb h n m (pivA A r c) (upd b r c) ∧ Below B w w' := by
  obtain ⟨L, hL⟩ : ∃ L, L = wdt n m + 1 := ⟨_, rfl⟩
  have hLs : L ≤ 100000 := by have := t.hn; have := t.hm; rw [hL]; unfold wdt; omega
  obtain ⟨Q, hQ⟩ : ∃ Q : Nat → Rat, Q = fun k => A r k / A r c := ⟨_, rfl⟩
  have hms := t.hm
  -- the world with the three boxes
  obtain ⟨W0, hW0⟩ : ∃ W0, W0 = ((w.alloc (.cells #[.pointer (some ⟨p, 0, none⟩)] 103 (0, 0))).alloc (.cells #[.int .i64 (r : Int)] 3 (0, 0))).alloc (.cells #[.int .i64 (c : Int)] 3 (0, 0)) := ⟨_, rfl⟩
  have hb0 : Below w.heap.size w W0 := by rw [hW0]; exact (((Below.refl _ _).alloc (Nat.le_refl _) _).alloc (by simp) _).alloc (by simp only [World.size_alloc]; omega) _
  have p0 : Pre W0 w.heap.size 103 [.pointer (some ⟨p, 0, none⟩)] := by
    rw [hW0]; exact ((Pre.of (Row.new w 103 [.pointer (some ⟨p, 0, none⟩)])).alloc _).alloc _
  have p1 : Pre W0 (w.heap.size + 1) 3 [.int .i64 (r : Int)] := by
    have := (Pre.of (Row.new (w.alloc (.cells #[.pointer (some ⟨p, 0, none⟩)] 103 (0, 0))) 3 [.int .i64 (r : Int)])).alloc (.cells #[.int .i64 (c : Int)] 3 (0, 0))
    rw [World.size_alloc] at this
    rw [hW0]; exact this
  have p2 : Pre W0 (w.heap.size + 1 + 1) 3 [.int .i64 (c : Int)] := by
    have := Pre.of (Row.new ((w.alloc (.cells #[.pointer (some ⟨p, 0, none⟩)] 103 (0, 0))).alloc (.cells #[.int .i64 (r : Int)] 3 (0, 0))) 3 [.int .i64 (c : Int)])
    rw [World.size_alloc, World.size_alloc] at this
    rw [hW0]; exact this
  have nx : ∀ d j, j ≤ m → w.heap.size + d ≠ h j := fun d j hj => by have := (t.mat j hj).lt; omega
  have HP := Lib.hid (fun W (hW : Kp h m W0 W) => And.intro (p0.kp hW (nx 0)) (And.intro (p1.kp hW (nx 1)) (p2.kp hW (nx 2))))
  have HC := Lib.hid (fun W (hW : Kp h m W0 W) => And.intro ((p0.kp hW (nx 0)).cell (i := 0) rfl) (And.intro ((p1.kp hW (nx 1)).cell (i := 0) rfl) ((p2.kp hW (nx 2)).cell (i := 0) rfl)))
  have t0 := t.below' hb0
  have hBw : B ≤ w.heap.size := Nat.le_trans t.lowp (Nat.le_of_lt t.tab.lt)
  have HT0 : Hid (TabS W0 B p S gr gb cr cb h n m (upd A r (mix (A r) Q 0)) b ∧ Below B w W0 ∧ Kp h m W0 W0) := Lib.hid ⟨by rw [mix_zero, upd_self]; exact t0, hb0.mono hBw, Kp.refl _ _ _⟩
  -- loop 1
  have HA := Lib.hid (fun W k (hk : k < L) (hT : TabS W B p S gr gb cr cb h n m (upd A r (mix (A r) Q k)) b) => (by
    have e1 := hT.ce (show r ≤ m by omega) (show k ≤ wdt n m by omega)
    rw [upd_same, mix_ge (Nat.le_refl k)] at e1
    have e3 := hT.crow hrm
    rw [← hL] at e3
    exact ⟨hT.c0, hT.c3, e3, e1⟩ : W.cell? ⟨p, 0, none⟩ = some (.pointer (some ⟨S, 0, none⟩)) ∧ W.cell? ⟨p, 3, none⟩ = some (.slice (some ⟨gr, 0, none⟩) m cr) ∧ W.cell? ⟨gr, r, none⟩ = some (.slice (some ⟨h r, 0, none⟩) L L) ∧ W.cell? ⟨h r, k, none⟩ = some (.string (bs (R (A r k))))))
  have HZ := Lib.hid (fun W k (_ : k < L) (h0 : A r k = 0) (hT : TabS W B p S gr gb cr cb h n m (upd A r (mix (A r) Q k)) b) => (hT.congr (fun i hi x hx => by
    by_cases e : i = r
    · subst e; rw [upd_same, upd_same]
      by_cases e2 : x = k
      · subst e2; rw [mix_ge (Nat.le_refl x), mix_lt (by omega), hQ, h0]; simp only; grind
      · by_cases e3 : x < k
        · rw [mix_lt e3, mix_lt (by omega)]
        · rw [mix_ge (by omega), mix_ge (by omega)]
    · rw [upd_other _ e, upd_other _ e]) (fun _ _ => rfl) : TabS W B p S gr gb cr cb h n m (upd A r (mix (A r) Q (k + 1))) b))
  have HD := Lib.hid (fun W k (hk : k < L) (hG : Glob W) => (by
    have e2 : Q k = A r k / A r c := by rw [hQ]
    rw [e2]
    exact ratDiv (A r k) (A r c) e e W hG (hA r (by omega) k (by omega)) (hA r (by omega) c (by omega)) h0 (by omega) : Calls Tryz.prog 196 #[.string (bs (R (A r k))), .string (bs (R (A r c)))] W (Ret W (.tuple #[.string (bs (R (Q k))), .int .i64 0]))))
  have HO := Lib.hid (fun W k (hT : TabS W B p S gr gb cr cb h n m (upd A r (mix (A r) Q k)) b) => psof S (R (Q k)) W hT.err)
  have HS := Lib.hid (fun W k (hk : k < L) (hT : TabS W B p S gr gb cr cb h n m (upd A r (mix (A r) Q k)) b ∧ Below B w W ∧ Kp h m W0 W) => (by
    have h2 := hT.1.setA (show r ≤ m by omega) (show k ≤ wdt n m by omega) (Q k)
    rw [upd_mix] at h2
    exact ⟨h2, hT.1.belowA hT.2.1 (by omega) k _, hT.2.2.set (by omega) k _⟩ : TabS (W.setCell ⟨h r, k, none⟩ (.string (bs (R (Q k))))) B p S gr gb cr cb h n m (upd A r (mix (A r) Q (k + 1))) b ∧ Below B w (W.setCell ⟨h r, k, none⟩ (.string (bs (R (Q k))))) ∧ Kp h m W0 (W.setCell ⟨h r, k, none⟩ (.string (bs (R (Q k)))))))
  have HF := Lib.hid (fun W k (hT : TabS W B p S gr gb cr cb h n m (upd A r (mix (A r) Q k)) b) => hT.fe (show r ≤ m by omega) k)
  -- loop 2
  have HE := Lib.hid (fun W (hT : TabS W B p S gr gb cr cb h n m (upd A r (mix (A r) Q L)) b) => (hT.congr (fun i hi k hk => by
    rw [dropA_zero]
    by_cases e : i = r
    · subst e; rw [upd_same, upd_same, mix_lt (by omega)]
    · rw [upd_other _ e, upd_other _ e]) (fun _ _ => rfl) : TabS W B p S gr gb cr cb h n m (dropA (upd A r Q) r c 0) b))
  have bQ : ∀ k, k ≤ wdt n m → Bq (e + e) (Q k) := fun k hk => by
    rw [hQ]; exact Bq.div (hA r (by omega) k hk) (hA r (by omega) c (by omega)) h0
  have HDR := Lib.hid (fun W i j (hij : i ≤ j) (hj : j ≤ m) (hjr : j ≠ r) (hK : Kp h m W0 W) (hT : TabS W B p S gr gb cr cb h n m (dropA (upd A r Q) r c i) b) => pdrop hT (w.heap.size + 1 + 1) w.heap.size (w.heap.size + 1) j r c e (e + e) (HP.out W hK).2.2 (HP.out W hK).1 (HP.out W hK).2.1 (nx 2) (nx 0) (nx 1) hj hrm hjr (by omega)
    (fun k hk => by rw [dropA_ge _ _ _ hij, upd_other _ hjr]; exact hA j hj k hk) (fun k hk => by rw [dropA_r, upd_same]; exact bQ k hk) (by omega))
  rw [← hL] at HDR
  have HFN := Lib.hid (fun W (hK : Kp h m W0 W ∧ Below B w W) (hT : TabS W B p S gr gb cr cb h n m (upd (dropA (upd A r Q) r c m) m fun k => dropA (upd A r Q) r c m m k - dropA (upd A r Q) r c m m c * dropA (upd A r Q) r c m r k) b) => (by
    have h2 := hT.setB hrm hcw
    exact ⟨(TabS.congr h2 (fun j hj k _ => by rw [hQ]; exact pivA_of A r c m hrm h0 j k hj) (fun _ _ => rfl)), hT.belowB hK.2 r _⟩ : TabS (W.setCell ⟨gb, r, none⟩ (.int .i64 (c : Int))) B p S gr gb cr cb h n m (pivA A r c) (upd b r c) ∧ Below B w (W.setCell ⟨gb, r, none⟩ (.int .i64 (c : Int)))))
  have HSK := Lib.hid (fun W i (hi : i = r ∨ A i c = 0) (hT : TabS W B p S gr gb cr cb h n m (dropA (upd A r Q) r c i) b) => (hT.congr (fun j hj k _ => dropA_skip (upd A r Q) r c i (by
    rcases hi with e | e
    · exact .inl e
    · by_cases e2 : i = r
      · exact .inl e2
      · right; rw [upd_other _ e2]; exact e) j k) (fun _ _ => rfl) : TabS W B p S gr gb cr cb h n m (dropA (upd A r Q) r c (i + 1)) b))
  have HC2 := Lib.hid (fun W i (hi : i < m) (hT : TabS W B p S gr gb cr cb h n m (dropA (upd A r Q) r c i) b) => (by
    have e3 := hT.crow hi
    rw [← hL] at e3
    exact e3 : W.cell? ⟨gr, i, none⟩ = some (.slice (some ⟨h i, 0, none⟩) L L)))
  have HC3 := Lib.hid (fun W i (hi : i < m) (hir : i ≠ r) (hT : TabS W B p S gr gb cr cb h n m (dropA (upd A r Q) r c i) b) => (by
    have e3 := hT.ce (show i ≤ m by omega) (show c ≤ wdt n m by omega)
    rw [dropA_ge _ _ _ (Nat.le_refl i), upd_other _ hir] at e3
    exact e3 : W.cell? ⟨h i, c, none⟩ = some (.string (bs (R (A i c))))))
  have HC5 := Lib.hid (fun W i (hT : TabS W B p S gr gb cr cb h n m (dropA (upd A r Q) r c i) b) => (by
    have e3 := hT.c5
    rw [← hL] at e3
    exact e3 : W.cell? ⟨p, 5, none⟩ = some (.slice (some ⟨h m, 0, none⟩) L L)))
  have hmr : m ≠ r := by omega
  have hc0 : (0 : Int) ≤ (c : Int) := by omega
  have hcL : (c : Int) < (L : Int) := by omega
  have hr0 : (0 : Int) ≤ (r : Int) := by omega
  have hrs : (r : Int) < (m : Int) := by omega
  have ca := (HA.out W0 0 (by omega) HT0.out.1)
  have cy := (by
    have e1 := t0.ce (show r ≤ m by omega) (show c ≤ wdt n m by omega)
    exact e1 : W0.cell? ⟨h r, c, none⟩ = some (.string (bs (R (A r c)))))
  obtain ⟨ct, cR, cC⟩ := HC.out W0 (Kp.refl _ _ _)
  clear HP
  clear t t0 p0 p1 p2 nx hA bQ hQ hL
  go_enter Tryz.func131, Tryz.ntmps131
  go_wp2_with fail
  rw [← hW0]
  obtain ⟨X, hX⟩ : ∃ X, X = w.heap.size := ⟨_, rfl⟩
  rw [← hX] at ct cR cC HDR HC ⊢
  clear hX hW0 hb0
  obtain ⟨a0, a3, a4, _⟩ := ca
  refine wp_region_quiet_lit (by kernel_rfl) (by kernel_rfl) ?_
  repeat (go_big_quiet_step (fail))
  refine wpQuiet_nil ?_
  intro _ hw'
  obtain ⟨n1, hw''⟩ := hw'
  subst hw''
  go_wp2_with fail
  refine wp_region_quiet_lit (by kernel_rfl) (by kernel_rfl) ?_
  repeat (go_big_quiet_step (fail))
  refine wpQuiet_nil ?_
  intro _ hw'
  obtain ⟨n2, hw''⟩ := hw'
  subst hw''
  clear ct cR cC a0 a3 a4 cy
  have HT1 : Hid (TabS ((W0.drewN n1).drewN n2) B p S gr gb cr cb h n m (upd A r (mix (A r) Q 0)) b ∧ Below B w ((W0.drewN n1).drewN n2) ∧ Kp h m W0 ((W0.drewN n1).drewN n2)) := by
    have hbx : Below W0.heap.size W0 ((W0.drewN n1).drewN n2) := Below.drewN (Below.drewN (Below.refl _ _) _) _
    exact Lib.hid ⟨HT0.out.1.below' hbx, Below.drewN (Below.drewN HT0.out.2.1 _) _, Kp.bel hbx⟩
  clear HT0
  go_wp2_with fail
  go_loopw [30] (fun iv wr => ∃ k : Nat, iv = .int .i64 (k : Int) ∧ k ≤ L ∧ Hid (TabS wr B p S gr gb cr cb h n m (upd A r (mix (A r) Q k)) b ∧ Below B w wr ∧ Kp h m W0 wr)) (fun iv _ => L - (intOf iv).toNat)
  case atStart => exact ⟨0, rfl, by omega, HT1⟩
  case round =>
    clear HT1
    obtain ⟨k, rfl, hk, hin⟩ := hrel
    by_cases hlt : k < L
    · obtain ⟨ct, cR, cC⟩ := HC.out wr hin.out.2.2
      obtain ⟨c0, c3, c4, c5⟩ := HA.out wr k hlt hin.out.1
      have hk0 : (0 : Int) ≤ (k : Int) := by omega
      have hks : (k : Int) < (L : Int) := by omega
      by_cases hz : A r k = 0
      · have hz1 : R (A r k) = [48] := R_is0.2 hz
        rw [hz1] at c5
        have HN := Lib.hid (And.intro (HZ.out wr k hlt hz hin.out.1) hin.out.2)
        clear hin ct cR cC c0 c3 c4 HZ HA HD HO HS HF HE HDR HFN HSK HC2 HC3 HC5 HC
        go_wp2
        go_roundw
        case rel => exact ⟨k + 1, by go_num, hlt, HN⟩
        case measure => simp [intOf]; omega
      · have hz1 : (R (A r k) == [48]) = false := by rw [beq_eq_false_iff_ne]; exact fun e => hz (R_is0.1 e)
        have k1 := reg_of (w := wr) (fun W hW => HD.out W k hlt (hin.out.1.gl.of hW))
        have k2 := reg_of (w := wr) (fun W hW => HO.out W k (hin.out.1.below' hW))
        have m0 := cell_regrown c0
        have m3 := cell_regrown c3
        have m4 := cell_regrown c4
        have mt := cell_regrown ct
        have mr := cell_regrown cR
        have e1 : ∀ args w, (callFunc 196 args).run Tryz.prog w = .ok (.enter 196 args) w := enters_of Tryz.func196 (by kernel_rfl) rfl
        have e2 : ∀ args w, (callFunc 128 args).run Tryz.prog w = .ok (.enter 128 args) w := enters_of Tryz.func128 (by kernel_rfl) rfl
        have HSW := Lib.hid (HS.out · k hlt)
        have HFW := Lib.hid (HF.out · k)
        have HAW := Lib.hid (HA.out · k hlt)
        clear c0 c3 c4 ct cR cC HZ HA HD HO HS HF HE HDR HFN HSK HC2 HC3 HC5 HC
        go_wp2_with fail
        refine region_below_tail 18 (by kernel_rfl) (by kernel_rfl) ?_
        simp only [List.take_succ_cons, List.take_zero, List.drop_succ_cons, List.drop_zero]
        repeat (go_big_quiet_step (fail))
        go_big_quiet_step (exact k1 _ _)
        repeat (go_big_quiet_step (fail))
        go_big_quiet_step (exact k2 _ _)
        repeat (go_big_quiet_step (fail))
        refine wpQuiet_nil ?_
        intro W6 hw'
        have hb6 : Below wr.heap.size wr W6 := by obtain ⟨p, e⟩ := hw'; rw [e]; exact below_regrown wr p.d p.os
        clear hw'
        have HT6 : Hid (TabS W6 B p S gr gb cr cb h n m (upd A r (mix (A r) Q k)) b ∧ Below B w W6 ∧ Kp h m W0 W6) := Lib.hid ⟨hin.out.1.below' hb6, hin.out.2.1.trans (hb6.mono (TabS.size hin.out.1)), hin.out.2.2.trans (Kp.bel hb6)⟩
        clear k1 k2 m0 m3 m4 mt mr e1 e2 hb6 hin
        have fz := HFW.out W6 HT6.out.1
        have fc := (HAW.out W6 HT6.out.1).2.2.2
        go_wp2
        go_roundw
        case rel => exact ⟨k + 1, by go_num, hlt, Lib.hid (HSW.out W6 HT6.out)⟩
        case measure => simp [intOf]; omega
    · obtain rfl : L = k := by omega
      obtain ⟨ct, cR, cC⟩ := HC.out wr hin.out.2.2
      have c3 := hin.out.1.c3
      have HT2 : Hid (TabS wr B p S gr gb cr cb h n m (dropA (upd A r Q) r c 0) b ∧ Below B w wr ∧ Kp h m W0 wr) := Lib.hid ⟨HE.out wr hin.out.1, hin.out.2.1, hin.out.2.2⟩
      clear hin HZ HA HD HO HS HF HE
      have hms0 : (0 : Int) ≤ (m : Int) := by omega
      go_wp2_with fail
      go_loopw [63] (fun iv wr => ∃ i : Nat, iv = .int .i64 (i : Int) ∧ i ≤ m ∧ Hid (TabS wr B p S gr gb cr cb h n m (dropA (upd A r Q) r c i) b ∧ Below B w wr ∧ Kp h m W0 wr)) (fun iv _ => m - (intOf iv).toNat)
      case atStart => exact ⟨0, rfl, by omega, HT2⟩
      case round =>
        clear HT2 ct cR cC c3
        obtain ⟨i, rfl, hi, hin⟩ := hrel
        obtain ⟨ct, cR, cC⟩ := HC.out wr hin.out.2.2
        by_cases hlt : i < m
        · have c4 := HC2.out wr i hlt hin.out.1
          have hi0 : (0 : Int) ≤ (i : Int) := by omega
          have his : (i : Int) < (m : Int) := by omega
          by_cases hir : i = r
          · have HN := Lib.hid (And.intro (HSK.out wr i (.inl hir) hin.out.1) hin.out.2)
            clear hin HDR HFN HSK HC2 HC3 HC5 HC
            subst hir
            go_wp2
            go_roundw
            case rel => exact ⟨i + 1, by go_num, hlt, HN⟩
            case measure => simp [intOf]; omega
          · have c5 := HC3.out wr i hlt hir hin.out.1
            have hdi : ¬ (i : Int) = (r : Int) := by omega
            by_cases hz : A i c = 0
            · have hz1 : R (A i c) = [48] := R_is0.2 hz
              rw [hz1] at c5
              have HN := Lib.hid (And.intro (HSK.out wr i (.inr hz) hin.out.1) hin.out.2)
              clear hin HDR HFN HSK HC2 HC3 HC5 HC hir
              go_wp2
              go_roundw
              case rel => exact ⟨i + 1, by go_num, hlt, HN⟩
              case measure => simp [intOf]; omega
            · have hz1 : (R (A i c) == [48]) = false := by rw [beq_eq_false_iff_ne]; exact fun e => hz (R_is0.1 e)
              have HK := Lib.hid (HDR.out wr i i (Nat.le_refl _) (by omega) hir hin.out.2.2 hin.out.1)
              rw [dropA_step _ _ _ hir] at HK
              have HIN := hin
              clear hin HDR HFN HSK HC2 HC3 HC5 HC hir
              go_wp2_with fail
              refine HK.out.mono ?_
              rintro e w5 ⟨rfl, hT5, hb5, hk5⟩
              have HN := Lib.hid (And.intro hT5 (And.intro (HIN.out.2.1.trans hb5) (HIN.out.2.2.trans hk5)))
              clear hT5 hb5 hk5 HIN HK
              go_wp2
              go_roundw
              case rel => exact ⟨i + 1, by go_num, hlt, HN⟩
              case measure => simp [intOf]; omega
        · obtain rfl : m = i := by omega
          have c5 := HC5.out wr _ hin.out.1
          have HK := Lib.hid (HDR.out wr m m (Nat.le_refl _) (by omega) hmr hin.out.2.2 hin.out.1)
          have HIN := hin
          clear hin HDR HSK HC2 HC3 HC5
          go_wp2_with fail
          refine HK.out.mono ?_
          rintro e w5 ⟨rfl, hT5, hb5, hk5⟩
          obtain ⟨ct, cR, cC⟩ := HC.out w5 (HIN.out.2.2.trans hk5)
          have c4 := hT5.c4
          have HN := Lib.hid (And.intro hT5 (And.intro (HIN.out.2.1.trans hb5) (HIN.out.2.2.trans hk5)))
          clear hT5 hb5 hk5 HIN HK HC
          have m4 := cell_regrown c4
          have mt := cell_regrown ct
          have mr := cell_regrown cR
          have mc := cell_regrown cC
          clear ct cR cC c4 c5
          go_wp2_with fail
          refine region_below_tail 7 (by kernel_rfl) (by kernel_rfl) ?_
          simp only [List.take_succ_cons, List.take_zero, List.drop_succ_cons, List.drop_zero]
          repeat (go_big_quiet_step (fail))
          refine wpQuiet_nil ?_
          intro W6 hw'
          have hb6 : Below w5.heap.size w5 W6 := by obtain ⟨p, e⟩ := hw'; rw [e]; exact below_regrown w5 p.d p.os
          clear hw'
          have HT6 := Lib.hid (And.intro (HN.out.1.below' hb6) (And.intro (HN.out.2.1.trans (hb6.mono (TabS.size HN.out.1))) (HN.out.2.2.trans (Kp.bel hb6))))
          clear m4 mt mr mc hb6
          have fz := HT6.out.1.fb r
          have fc := HT6.out.1.cbas hrm
          go_wp2
          go_end0
          have hf := HFN.out W6 ⟨HT6.out.2.2, HT6.out.2.1⟩ HT6.out.1
          exact ⟨rfl, hf.1, hf.2⟩
end
end W
end Go.Proofs.YtijpgddpejiohaaGreatDoor
end
