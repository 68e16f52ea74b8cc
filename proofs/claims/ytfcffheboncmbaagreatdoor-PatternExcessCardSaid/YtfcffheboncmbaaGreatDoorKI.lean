/-
  Chapter 46, plain: plates, their errors, their bounds.
  Chapter 46: lists of targets and of circles that are read. (Printed by wip/flat.py.)
  Chapter 5: the checks of lists of numbers, on both sides; the program's sums.
  Chapter 46: right targets and circles, on both sides.
  Chapter 46: plates, on both sides.
-/
import Derived.Test.YtfcffheboncmbaaGreatDoorKH
import Derived.Test.YtfcffheboncmbaaGreatDoorKG
import Derived.Test.YtfcffheboncmbaaGreatDoorKF
section
namespace Go.Proofs.YtfcffheboncmbaaGreatDoor
open Go
namespace M
/-- A target; a circle. -/
structure Tg where
  x : Int
  y : Int
  lo : Int
  hi : Int
  tol : Int
  mat : Int
  pin : Bool
structure Cc where
  x : Int
  y : Int
  d : Int
def inC (n : Int) : Bool := decide (-100000 ≤ n) && decide (n ≤ 100000)
def szC (n : Int) : Bool := decide (1 ≤ n) && decide (n ≤ 100000)
/-- The numbers of the errors. -/
def chkT (t : Tg) : Nat :=
  if (inC t.x && inC t.y && szC t.lo && szC t.hi) = false then 2 else if t.hi < t.lo then 9
  else if (decide (t.tol < 0) || decide (100000 < t.tol) || (!t.pin && decide (t.lo ≤ t.tol))) = true then 2 else if (decide (t.mat < 0) || decide (3 ≤ t.mat)) = true then 1 else 0
def ringC (c : Cc) : Nat := if (inC c.x && inC c.y && szC c.d) = true then 0 else 2
def chkTs : List Tg → Nat
  | [] => 0
  | t :: l => if chkT t = 0 then chkTs l else chkT t
def chkCs : List Cc → Nat
  | [] => 0
  | c :: l => if ringC c = 0 then chkCs l else ringC c
def chkPl (ts : List Tg) (cs : List Cc) : Nat := if 16 < ts.length then 5 else if chkTs ts ≠ 0 then chkTs ts else if cs.length ≠ ts.length then 8 else chkCs cs
def wth (t : Tg) (n : Int) : Bool := decide (t.lo ≤ n) && decide (n ≤ t.hi)
/-- The bonus for a size within the limits; the allowed tolerance. -/
def extr (t : Tg) (n : Int) : Int := if t.mat = 0 then 0 else if (decide (t.mat = 1) != t.pin) = true then n - t.lo else t.hi - n
def wide (t : Tg) (c : Cc) : Int := t.tol + extr t c.d
def zoneC (t : Tg) (c : Cc) : Nat := if chkT t ≠ 0 then chkT t else if ringC c ≠ 0 then ringC c else if wth t c.d = true then 0 else 14
def zoneN (t : Tg) (c : Cc) : Int := if zoneC t c = 0 then wide t c else 0
def wths : List Tg → List Cc → Nat
  | t :: ts, c :: cs => if wth t c.d = true then wths ts cs else 14
  | _, _ => 0
def chk46 (ts : List Tg) (cs : List Cc) : Nat := if chkPl ts cs ≠ 0 then chkPl ts cs else if ts.length = 0 then 13 else wths ts cs
/-- What a right target and circle are. -/
structure RtT (t : Tg) : Prop where
  x : -100000 ≤ t.x ∧ t.x ≤ 100000
  y : -100000 ≤ t.y ∧ t.y ≤ 100000
  lo : 1 ≤ t.lo ∧ t.lo ≤ 100000
  hi : 1 ≤ t.hi ∧ t.hi ≤ 100000
  lh : t.lo ≤ t.hi
  tol : 0 ≤ t.tol ∧ t.tol ≤ 100000
  pin : t.pin = false → t.tol < t.lo
  mat : t.mat = 0 ∨ t.mat = 1 ∨ t.mat = 2
structure RtC (c : Cc) : Prop where
  x : -100000 ≤ c.x ∧ c.x ≤ 100000
  y : -100000 ≤ c.y ∧ c.y ≤ 100000
  d : 1 ≤ c.d ∧ c.d ≤ 100000
theorem chkT_iff (t : Tg) : chkT t = 0 ↔ RtT t := by
  unfold chkT
  constructor
  · intro h
    split at h
    · cases h
    · rename_i h1
      split at h
      · cases h
      · rename_i h2
        split at h
        · cases h
        · rename_i h3
          split at h
          · cases h
          · rename_i h4
            simp only [inC, szC, Bool.and_eq_false_iff, Bool.or_eq_true, Bool.and_eq_true, decide_eq_true_eq, decide_eq_false_iff_not, Bool.not_eq_true'] at h1 h3 h4
            refine ⟨by omega, by omega, by omega, by omega, by omega, by omega, fun hp => ?_, by omega⟩
            rw [hp] at h3
            simp only [true_and] at h3
            omega
  · intro h
    obtain ⟨h1, h2, h3, h4, h5, h6, h7, h8⟩ := h
    rw [if_neg, if_neg (by omega), if_neg, if_neg]
    · simp only [Bool.or_eq_true, decide_eq_true_eq]; omega
    · simp only [Bool.or_eq_true, Bool.and_eq_true, decide_eq_true_eq, Bool.not_eq_true']
      rintro ((h | h) | ⟨h, h'⟩)
      · omega
      · omega
      · have := h7 h; omega
    · simp only [inC, szC, Bool.and_eq_false_iff, decide_eq_false_iff_not]; omega
theorem ringC_iff (c : Cc) : ringC c = 0 ↔ RtC c := by
  unfold ringC
  constructor
  · intro h
    split at h
    · rename_i h1
      simp only [inC, szC, Bool.and_eq_true, decide_eq_true_eq] at h1
      exact ⟨by omega, by omega, by omega⟩
    · cases h
  · intro h
    obtain ⟨h1, h2, h3⟩ := h
    rw [if_pos]
    simp only [inC, szC, Bool.and_eq_true, decide_eq_true_eq]; omega
theorem chkTs_iff : ∀ {l : List Tg}, chkTs l = 0 ↔ ∀ t ∈ l, RtT t
  | [] => by simp [chkTs]
  | t :: l => by
    rw [chkTs]
    by_cases h : chkT t = 0
    · rw [if_pos h, chkTs_iff]
      exact ⟨fun h2 x hx => (List.mem_cons.1 hx).elim (fun e => e ▸ (chkT_iff t).1 h) (h2 x), fun h2 x hx => h2 x (List.mem_cons_of_mem _ hx)⟩
    · rw [if_neg h]
      exact ⟨fun h2 => absurd h2 h, fun h2 => absurd ((chkT_iff t).2 (h2 t List.mem_cons_self)) h⟩
theorem chkCs_iff : ∀ {l : List Cc}, chkCs l = 0 ↔ ∀ t ∈ l, RtC t
  | [] => by simp [chkCs]
  | t :: l => by
    rw [chkCs]
    by_cases h : ringC t = 0
    · rw [if_pos h, chkCs_iff]
      exact ⟨fun h2 x hx => (List.mem_cons.1 hx).elim (fun e => e ▸ (ringC_iff t).1 h) (h2 x), fun h2 x hx => h2 x (List.mem_cons_of_mem _ hx)⟩
    · rw [if_neg h]
      exact ⟨fun h2 => absurd h2 h, fun h2 => absurd ((ringC_iff t).2 (h2 t List.mem_cons_self)) h⟩
theorem wths_iff : ∀ {ts : List Tg} {cs : List Cc}, wths ts cs = 0 ↔ ∀ p ∈ ts.zip cs, wth p.1 p.2.d = true
  | [], _ => by simp [wths]
  | _ :: _, [] => by simp [wths]
  | t :: ts, c :: cs => by
    rw [wths]
    by_cases h : wth t c.d = true
    · rw [if_pos h, wths_iff, List.zip_cons_cons]
      exact ⟨fun h2 x hx => (List.mem_cons.1 hx).elim (fun e => e ▸ h) (h2 x), fun h2 x hx => h2 x (List.mem_cons_of_mem _ hx)⟩
    · rw [if_neg h, List.zip_cons_cons]
      exact ⟨fun h2 => (by cases h2), fun h2 => absurd (h2 (t, c) List.mem_cons_self) h⟩
/-- A hole of a right plate. -/
def RtH (p : Tg × Cc) : Prop := RtT p.1 ∧ RtC p.2 ∧ p.1.lo ≤ p.2.d ∧ p.2.d ≤ p.1.hi
theorem chkPl_iff {ts : List Tg} {cs : List Cc} : chkPl ts cs = 0 ↔ ts.length ≤ 16 ∧ cs.length = ts.length ∧ (∀ t ∈ ts, RtT t) ∧ ∀ c ∈ cs, RtC c := by
  unfold chkPl
  by_cases h1 : 16 < ts.length
  · rw [if_pos h1]; exact ⟨fun h => (by cases h), fun h => absurd h.1 (by omega)⟩
  · rw [if_neg h1]
    by_cases h2 : chkTs ts = 0
    · rw [if_neg (by simpa using h2)]
      by_cases h3 : cs.length = ts.length
      · rw [if_neg (by simpa using h3), chkCs_iff]
        exact ⟨fun h => ⟨by omega, h3, chkTs_iff.1 h2, h⟩, fun h => h.2.2.2⟩
      · rw [if_pos h3]; exact ⟨fun h => (by cases h), fun h => absurd h.2.1 h3⟩
    · rw [if_pos h2]; exact ⟨fun h => absurd h h2, fun h => absurd (chkTs_iff.2 h.2.2.1) h2⟩
theorem chk46_iff {ts : List Tg} {cs : List Cc} : chk46 ts cs = 0 ↔ 1 ≤ ts.length ∧ ts.length ≤ 16 ∧ cs.length = ts.length ∧ ∀ p ∈ ts.zip cs, RtH p := by
  unfold chk46
  by_cases h1 : chkPl ts cs = 0
  · rw [if_neg (by simpa using h1)]
    have h2 := chkPl_iff.1 h1
    by_cases h3 : ts.length = 0
    · rw [if_pos h3]; exact ⟨fun h => (by cases h), fun h => by omega⟩
    · rw [if_neg h3, wths_iff]
      refine ⟨fun h => ⟨by omega, h2.1, h2.2.1, fun p hp => ?_⟩, fun h p hp => ?_⟩
      · have h4 := h p hp
        unfold wth at h4
        simp only [Bool.and_eq_true, decide_eq_true_eq] at h4
        exact ⟨h2.2.2.1 _ (List.of_mem_zip hp).1, h2.2.2.2 _ (List.of_mem_zip hp).2, h4⟩
      · unfold wth
        simp only [Bool.and_eq_true, decide_eq_true_eq]
        exact (h.2.2.2 p hp).2.2
  · rw [if_pos h1]
    refine ⟨fun h => absurd h h1, fun h => absurd (chkPl_iff.2 ⟨h.2.1, h.2.2.1, fun t ht => ?_, fun c hc => ?_⟩) h1⟩
    · obtain ⟨i, hi, rfl⟩ := List.mem_iff_getElem.1 ht
      exact (h.2.2.2 (ts[i], cs[i]'(by omega)) (List.mem_iff_getElem.2 ⟨i, by simp; omega, by simp⟩)).1
    · obtain ⟨i, hi, rfl⟩ := List.mem_iff_getElem.1 hc
      exact (h.2.2.2 (ts[i]'(by omega), cs[i]) (List.mem_iff_getElem.2 ⟨i, by simp; omega, by simp⟩)).2.1
theorem RtH.wide {p : Tg × Cc} (h : RtH p) : 0 ≤ wide p.1 p.2 ∧ wide p.1 p.2 ≤ 200000 := by
  obtain ⟨h1, h2, h3, h4⟩ := h
  have a := h1.lo
  have b := h1.hi
  have c := h1.tol
  unfold M.wide extr
  split
  · omega
  · split <;> omega
/-- The bounds of a hole, of a plate; the plate as pairs. -/
abbrev Pl := List (Tg × Cc)
def bnd4 (t : Tg) (c : Cc) : List BQ :=
  [([1, 0, ((-c.y : Int) : Rat)], ((2 * (t.x - c.x) + wide t c : Int) : Rat) / 2), ([-1, 0, ((c.y : Int) : Rat)], ((2 * (c.x - t.x) + wide t c : Int) : Rat) / 2),
   ([0, 1, ((c.x : Int) : Rat)], ((2 * (t.y - c.y) + wide t c : Int) : Rat) / 2), ([0, -1, ((-c.x : Int) : Rat)], ((2 * (c.y - t.y) + wide t c : Int) : Rat) / 2)]
def bnds (pl : Pl) : List BQ := pl.flatMap fun p => bnd4 p.1 p.2
/-- With a fourth unknown that is added to all tolerances. -/
def bndsE (pl : Pl) : List BQ := (bnds pl).map fun b => (b.1 ++ [-1 / 2], b.2)
theorem bnds_len (pl : Pl) : (bnds pl).length = 4 * pl.length := by
  induction pl with
  | nil => rfl
  | cons p t ih =>
    rw [show bnds (p :: t) = bnd4 p.1 p.2 ++ bnds t from rfl, List.length_append, ih]
    simp only [bnd4, List.length_cons, List.length_nil]; omega
theorem bndsE_len (pl : Pl) : (bndsE pl).length = 4 * pl.length := by unfold bndsE; rw [List.length_map, bnds_len]
end M
end Go.Proofs.YtfcffheboncmbaaGreatDoor
end
section
namespace Go.Proofs.YtfcffheboncmbaaGreatDoor
open Go Go.RowKit Go.Deep
/-- A list of G that lies at ⟨b, o⟩; a value that reads as one. -/
structure SlG (w : World) (b o : Nat) (l : List M.Tg) : Prop where
  lt : b < w.heap.size
  val : ∀ i (h : i < l.length), w.cell? ⟨b, o + i * 7, none⟩ = some (.int .i64 l[i].x) ∧ w.cell? ⟨b, o + i * 7 + 1, none⟩ = some (.int .i64 l[i].y) ∧ w.cell? ⟨b, o + i * 7 + 2, none⟩ = some (.int .i64 l[i].lo) ∧ w.cell? ⟨b, o + i * 7 + 3, none⟩ = some (.int .i64 l[i].hi) ∧ w.cell? ⟨b, o + i * 7 + 4, none⟩ = some (.int .i64 l[i].tol) ∧ w.cell? ⟨b, o + i * 7 + 5, none⟩ = some (.int .i64 l[i].mat) ∧ w.cell? ⟨b, o + i * 7 + 6, none⟩ = some (.bool l[i].pin)
theorem SlG.below' {w w' : World} {b o : Nat} {l : List M.Tg} (h : SlG w b o l) (hb : Below w.heap.size w w') : SlG w' b o l :=
  ⟨Nat.lt_of_lt_of_le h.lt hb.size, fun i hi => by
    have h1 := h.val i hi
    have hc : ∀ o v, w.cell? ⟨b, o, none⟩ = some v → w'.cell? ⟨b, o, none⟩ = some v := fun o v e => (hb.cell (by exact h.lt)).trans e
    exact ⟨hc _ _ h1.1, hc _ _ h1.2.1, hc _ _ h1.2.2.1, hc _ _ h1.2.2.2.1, hc _ _ h1.2.2.2.2.1, hc _ _ h1.2.2.2.2.2.1, hc _ _ h1.2.2.2.2.2.2⟩⟩
def RdG (w : World) (v : Value) (l : List M.Tg) : Prop := ∃ A cap, v = .slice A l.length cap ∧ (l = [] ∨ ∃ b o, A = some ⟨b, o, none⟩ ∧ SlG w b o l)
theorem RdG.below {w w' : World} {v : Value} {l : List M.Tg} (h : RdG w v l) (hb : Below w.heap.size w w') : RdG w' v l := by
  obtain ⟨A, cap, e, h2⟩ := h
  refine ⟨A, cap, e, ?_⟩
  rcases h2 with h2 | ⟨b, o, e2, h3⟩
  · exact Or.inl h2
  · exact Or.inr ⟨b, o, e2, h3.below' hb⟩
theorem RdG.len {w : World} {v : Value} {l : List M.Tg} (h : RdG w v l) : ∃ A cap, v = .slice A l.length cap := by
  obtain ⟨A, cap, e, _⟩ := h; exact ⟨A, cap, e⟩
theorem RdG.row {w : World} {A : Option Addr} {n cap : Nat} {l : List M.Tg} (h : RdG w (.slice A n cap) l) (i : Nat) (hi : i < l.length) : ∃ b o, A = some ⟨b, o, none⟩ ∧ SlG w b o l := by
  obtain ⟨A', cap', e, h2⟩ := h
  injection e with e
  subst e
  exact h2.resolve_left (fun e => by rw [e] at hi; cases hi)
/-- The cells of an element, of a list. -/
def csG (l : List M.Tg) : List Value := l.flatMap fun x => [.int .i64 x.x, .int .i64 x.y, .int .i64 x.lo, .int .i64 x.hi, .int .i64 x.tol, .int .i64 x.mat, .bool x.pin]
theorem csG_get (l : List M.Tg) (i : Nat) (h : i < l.length) : (csG l)[i * 7]? = some (.int .i64 l[i].x) ∧ (csG l)[i * 7 + 1]? = some (.int .i64 l[i].y) ∧ (csG l)[i * 7 + 2]? = some (.int .i64 l[i].lo) ∧ (csG l)[i * 7 + 3]? = some (.int .i64 l[i].hi) ∧ (csG l)[i * 7 + 4]? = some (.int .i64 l[i].tol) ∧ (csG l)[i * 7 + 5]? = some (.int .i64 l[i].mat) ∧ (csG l)[i * 7 + 6]? = some (.bool l[i].pin) := by
  induction l generalizing i with
  | nil => cases h
  | cons x t ih =>
    rcases i with _ | j
    · exact ⟨rfl, rfl, rfl, rfl, rfl, rfl, rfl⟩
    · have hj : j < t.length := by simpa using h
      have e1 : csG (x :: t) = (.int .i64 x.x : Value) :: (.int .i64 x.y : Value) :: (.int .i64 x.lo : Value) :: (.int .i64 x.hi : Value) :: (.int .i64 x.tol : Value) :: (.int .i64 x.mat : Value) :: (.bool x.pin : Value) :: csG t := rfl
      have k := ih j hj
      rw [e1]
      have hs : ∀ m v, (csG t)[m]? = some v → ((.int .i64 x.x : Value) :: (.int .i64 x.y : Value) :: (.int .i64 x.lo : Value) :: (.int .i64 x.hi : Value) :: (.int .i64 x.tol : Value) :: (.int .i64 x.mat : Value) :: (.bool x.pin : Value) :: csG t)[m + 7]? = some v := fun m v e => e
      exact ⟨(by have := hs _ _ k.1; rwa [show j * 7 + 7 = (j + 1) * 7 by omega] at this), (by have := hs _ _ k.2.1; rwa [show j * 7 + 1 + 7 = (j + 1) * 7 + 1 by omega] at this), (by have := hs _ _ k.2.2.1; rwa [show j * 7 + 2 + 7 = (j + 1) * 7 + 2 by omega] at this), (by have := hs _ _ k.2.2.2.1; rwa [show j * 7 + 3 + 7 = (j + 1) * 7 + 3 by omega] at this), (by have := hs _ _ k.2.2.2.2.1; rwa [show j * 7 + 4 + 7 = (j + 1) * 7 + 4 by omega] at this), (by have := hs _ _ k.2.2.2.2.2.1; rwa [show j * 7 + 5 + 7 = (j + 1) * 7 + 5 by omega] at this), (by have := hs _ _ k.2.2.2.2.2.2; rwa [show j * 7 + 6 + 7 = (j + 1) * 7 + 6 by omega] at this)⟩
theorem SlG.of_row {w : World} {g : Nat} {t : TypeId} {l : List M.Tg} (h : Row w g t (csG l)) : SlG w g 0 l :=
  ⟨h.lt, fun i hi => by
    have k := csG_get l i hi
    exact ⟨(by have := h.cell k.1; rwa [show 0 + i * 7 = i * 7 by omega]), (by have := h.cell k.2.1; rwa [show 0 + i * 7 + 1 = i * 7 + 1 by omega]), (by have := h.cell k.2.2.1; rwa [show 0 + i * 7 + 2 = i * 7 + 2 by omega]), (by have := h.cell k.2.2.2.1; rwa [show 0 + i * 7 + 3 = i * 7 + 3 by omega]), (by have := h.cell k.2.2.2.2.1; rwa [show 0 + i * 7 + 4 = i * 7 + 4 by omega]), (by have := h.cell k.2.2.2.2.2.1; rwa [show 0 + i * 7 + 5 = i * 7 + 5 by omega]), (by have := h.cell k.2.2.2.2.2.2; rwa [show 0 + i * 7 + 6 = i * 7 + 6 by omega])⟩⟩
theorem SlG.drop {w : World} {b o : Nat} {l : List M.Tg} (h : SlG w b o l) (k : Nat) : SlG w b (o + k * 7) (l.drop k) :=
  ⟨h.lt, fun i hi => by
    have hi2 : k + i < l.length := by rw [List.length_drop] at hi; omega
    have k1 := h.val (k + i) hi2
    rw [List.getElem_drop]
    have e0 : o + k * 7 + i * 7 = o + (k + i) * 7 := by omega
    rw [e0]
    exact k1⟩
theorem SlG.take {w : World} {b o : Nat} {l : List M.Tg} (h : SlG w b o l) (k : Nat) : SlG w b o (l.take k) :=
  ⟨h.lt, fun i hi => by
    have hi2 : i < l.length := by rw [List.length_take] at hi; omega
    have k1 := h.val i hi2
    rw [List.getElem_take]
    exact k1⟩
/-- A list of C that lies at ⟨b, o⟩; a value that reads as one. -/
structure SlC (w : World) (b o : Nat) (l : List M.Cc) : Prop where
  lt : b < w.heap.size
  val : ∀ i (h : i < l.length), w.cell? ⟨b, o + i * 3, none⟩ = some (.int .i64 l[i].x) ∧ w.cell? ⟨b, o + i * 3 + 1, none⟩ = some (.int .i64 l[i].y) ∧ w.cell? ⟨b, o + i * 3 + 2, none⟩ = some (.int .i64 l[i].d)
theorem SlC.below' {w w' : World} {b o : Nat} {l : List M.Cc} (h : SlC w b o l) (hb : Below w.heap.size w w') : SlC w' b o l :=
  ⟨Nat.lt_of_lt_of_le h.lt hb.size, fun i hi => by
    have h1 := h.val i hi
    have hc : ∀ o v, w.cell? ⟨b, o, none⟩ = some v → w'.cell? ⟨b, o, none⟩ = some v := fun o v e => (hb.cell (by exact h.lt)).trans e
    exact ⟨hc _ _ h1.1, hc _ _ h1.2.1, hc _ _ h1.2.2⟩⟩
def RdC (w : World) (v : Value) (l : List M.Cc) : Prop := ∃ A cap, v = .slice A l.length cap ∧ (l = [] ∨ ∃ b o, A = some ⟨b, o, none⟩ ∧ SlC w b o l)
theorem RdC.below {w w' : World} {v : Value} {l : List M.Cc} (h : RdC w v l) (hb : Below w.heap.size w w') : RdC w' v l := by
  obtain ⟨A, cap, e, h2⟩ := h
  refine ⟨A, cap, e, ?_⟩
  rcases h2 with h2 | ⟨b, o, e2, h3⟩
  · exact Or.inl h2
  · exact Or.inr ⟨b, o, e2, h3.below' hb⟩
theorem RdC.len {w : World} {v : Value} {l : List M.Cc} (h : RdC w v l) : ∃ A cap, v = .slice A l.length cap := by
  obtain ⟨A, cap, e, _⟩ := h; exact ⟨A, cap, e⟩
theorem RdC.row {w : World} {A : Option Addr} {n cap : Nat} {l : List M.Cc} (h : RdC w (.slice A n cap) l) (i : Nat) (hi : i < l.length) : ∃ b o, A = some ⟨b, o, none⟩ ∧ SlC w b o l := by
  obtain ⟨A', cap', e, h2⟩ := h
  injection e with e
  subst e
  exact h2.resolve_left (fun e => by rw [e] at hi; cases hi)
/-- The cells of an element, of a list. -/
def csC (l : List M.Cc) : List Value := l.flatMap fun x => [.int .i64 x.x, .int .i64 x.y, .int .i64 x.d]
theorem csC_get (l : List M.Cc) (i : Nat) (h : i < l.length) : (csC l)[i * 3]? = some (.int .i64 l[i].x) ∧ (csC l)[i * 3 + 1]? = some (.int .i64 l[i].y) ∧ (csC l)[i * 3 + 2]? = some (.int .i64 l[i].d) := by
  induction l generalizing i with
  | nil => cases h
  | cons x t ih =>
    rcases i with _ | j
    · exact ⟨rfl, rfl, rfl⟩
    · have hj : j < t.length := by simpa using h
      have e1 : csC (x :: t) = (.int .i64 x.x : Value) :: (.int .i64 x.y : Value) :: (.int .i64 x.d : Value) :: csC t := rfl
      have k := ih j hj
      rw [e1]
      have hs : ∀ m v, (csC t)[m]? = some v → ((.int .i64 x.x : Value) :: (.int .i64 x.y : Value) :: (.int .i64 x.d : Value) :: csC t)[m + 3]? = some v := fun m v e => e
      exact ⟨(by have := hs _ _ k.1; rwa [show j * 3 + 3 = (j + 1) * 3 by omega] at this), (by have := hs _ _ k.2.1; rwa [show j * 3 + 1 + 3 = (j + 1) * 3 + 1 by omega] at this), (by have := hs _ _ k.2.2; rwa [show j * 3 + 2 + 3 = (j + 1) * 3 + 2 by omega] at this)⟩
theorem SlC.of_row {w : World} {g : Nat} {t : TypeId} {l : List M.Cc} (h : Row w g t (csC l)) : SlC w g 0 l :=
  ⟨h.lt, fun i hi => by
    have k := csC_get l i hi
    exact ⟨(by have := h.cell k.1; rwa [show 0 + i * 3 = i * 3 by omega]), (by have := h.cell k.2.1; rwa [show 0 + i * 3 + 1 = i * 3 + 1 by omega]), (by have := h.cell k.2.2; rwa [show 0 + i * 3 + 2 = i * 3 + 2 by omega])⟩⟩
theorem SlC.drop {w : World} {b o : Nat} {l : List M.Cc} (h : SlC w b o l) (k : Nat) : SlC w b (o + k * 3) (l.drop k) :=
  ⟨h.lt, fun i hi => by
    have hi2 : k + i < l.length := by rw [List.length_drop] at hi; omega
    have k1 := h.val (k + i) hi2
    rw [List.getElem_drop]
    have e0 : o + k * 3 + i * 3 = o + (k + i) * 3 := by omega
    rw [e0]
    exact k1⟩
theorem SlC.take {w : World} {b o : Nat} {l : List M.Cc} (h : SlC w b o l) (k : Nat) : SlC w b o (l.take k) :=
  ⟨h.lt, fun i hi => by
    have hi2 : i < l.length := by rw [List.length_take] at hi; omega
    have k1 := h.val i hi2
    rw [List.getElem_take]
    exact k1⟩
end Go.Proofs.YtfcffheboncmbaaGreatDoor
end
section
namespace Go.Proofs.YtfcffheboncmbaaGreatDoor
open Go Go.RowKit Go.Deep Go.Sort
/-- The sums in block b have no error. -/
def NoErP (w : World) (b : Nat) : Prop := Row w b 164 [.int .i64 0]
theorem NoErP.below' {b : Nat} {w w' : World} (h : NoErP w b) (hb : Below w.heap.size w w') : NoErP w' b := Row.below' h hb
theorem NoErP.cell {w : World} {b : Nat} (h : NoErP w b) : w.cell? ⟨b, 0, none⟩ = some (.int .i64 0) := Row.cell h rfl
theorem NoErP.free {w : World} {b : Nat} (h : NoErP w b) : w.frozen? ⟨b, 0, none⟩ = false := Row.free h 0
theorem Below.sameP {B : Nat} {a w : World} (h : Below B a w) {b : Nat} (hn : NoErP w b) : Below B a (w.setCell ⟨b, 0, none⟩ (.int .i64 0)) := by
  have hr := Row.set hn 0 (.int .i64 0)
  refine h.trans ⟨rfl, rfl, rfl, ?_, fun k hk => ?_⟩
  · show _ ≤ (w.heap.modify _ _).size; simp
  · by_cases hkb : k = b
    · subst hkb
      exact hr.trans (Eq.symm hn)
    · exact Below.heap_setCell _ _ _ _ hkb
/-- Calls one behind the other. -/
theorem bel_to {W E W2 : World} (h1 : Below W.heap.size W E) (h2 : Below E.heap.size E W2) : Below W.heap.size W W2 := h1.trans (h2.mono h1.size)
namespace W
open M
attribute [local go_sem] bs_size bs_toList bs_get bs_extract bs_append bs_lit0 bs_lit1 lit1_bs
set_option maxHeartbeats 1000000
set_option maxRecDepth 20000
theorem psof (b : Nat) (s : List UInt8) (w : World) (hs : NoErP w b) :
    Calls Tryz.prog 147 #[.pointer (some ⟨b, 0, none⟩), .string (bs s), .int .i64 0] w (Ret w (.string (bs s))) := by
  have hc := hs.cell
  have hf := hs.free
  have HS := Lib.hid hs
  clear hs
  go_enter Tryz.func147, Tryz.ntmps147
  go_wp2
  go_ret
  exact Ret.of rfl (Below.sameP (Below.refl _ _) HS.out)
theorem pssign (b : Nat) (q : Rat) (k : Nat) (w : World) (hg : Glob w) (hs : NoErP w b) (hq : Bq k q) (hk : k ≤ 1024) :
    Calls Tryz.prog 148 #[.pointer (some ⟨b, 0, none⟩), .string (bs (R q))] w (Ret w (.int .i64 (Int.sign q.num))) := by
  have HC := Lib.hid (rsign_ok q k w hg hq hk)
  have HO := Lib.hid (fun W (hW : Below w.heap.size w W) => psof b [48] W (hs.below' hW))
  clear hs hq
  generalize Int.sign q.num = sg at *
  generalize R q = s at *
  go_enter Tryz.func148, Tryz.ntmps148
  go_wp2_with fail
  refine (HC.out).mono ?_
  rintro e w1 ⟨rfl, hb1⟩
  go_wp2_with fail
  refine (HO.out _ hb1).mono ?_
  rintro e w2 ⟨rfl, hb2⟩
  go_wp2
  go_ret
  exact Ret.of rfl (Below.then hb1 hb2)
theorem R_is0 {q : Rat} : R q = [48] ↔ q = 0 := by
  rw [← R_nil]
  exact ⟨fun h => R_inj h, fun h => by rw [h]⟩
theorem psless (b : Nat) (x y z : Rat) (i j k : Nat) (w : World) (hg : Glob w) (hs : NoErP w b) (hx : Bq i x) (hy : Bq j y) (hz : Bq k z) (hb : i + (j + k) + 1 ≤ 1024) :
    Calls Tryz.prog 153 #[.pointer (some ⟨b, 0, none⟩), .string (bs (R x)), .string (bs (R y)), .string (bs (R z))] w (Ret w (.string (bs (R (x - y * z))))) := by
  by_cases hy0 : y = 0
  · have e : x - y * z = x := by rw [hy0]; grind
    rw [e]
    have ey := R_is0.2 hy0
    clear hs hx hy hz e
    generalize R y = sy at *
    subst ey
    generalize R x = sx at *
    generalize R z = sz at *
    go_enter Tryz.func153, Tryz.ntmps153
    go_wp2
    go_ret
    exact Ret.of rfl (Below.refl _ _)
  · have ny : (R y == [48]) = false := by rw [beq_eq_false_iff_ne]; exact fun h => hy0 (R_is0.1 h)
    by_cases hz0 : z = 0
    · have e : x - y * z = x := by rw [hz0]; grind
      rw [e]
      have ez := R_is0.2 hz0
      clear hs hx hy hz e
      generalize R z = sz at *
      subst ez
      generalize R x = sx at *
      generalize R y = sy at *
      go_enter Tryz.func153, Tryz.ntmps153
      go_wp2
      go_ret
      exact Ret.of rfl (Below.refl _ _)
    · have nz : (R z == [48]) = false := by rw [beq_eq_false_iff_ne]; exact fun h => hz0 (R_is0.1 h)
      have HM := Lib.hid (ratMul y z j k w hg hy hz (by omega))
      have HS := Lib.hid (fun W (hW : Below w.heap.size w W) => ratSub x (y * z) i (j + k) W (hg.of hW) hx (hy.mul hz) hb)
      have HO := Lib.hid (fun s W (hW : Below w.heap.size w W) => psof b s W (hs.below' hW))
      clear hs hx hy hz hy0 hz0
      generalize R (x - y * z) = r at *
      generalize R (y * z) = p at *
      generalize R x = sx at *
      generalize R y = sy at *
      generalize R z = sz at *
      go_enter Tryz.func153, Tryz.ntmps153
      go_wp2_with fail
      refine (HM.out).mono ?_
      rintro e w1 ⟨rfl, hb1⟩
      go_wp2_with fail
      refine (HO.out _ _ hb1).mono ?_
      rintro e w2 ⟨rfl, hb2⟩
      have hb2 := Below.then hb1 hb2
      go_wp2_with fail
      refine (HS.out _ hb2).mono ?_
      rintro e w3 ⟨rfl, hb3⟩
      have hb3 := Below.then hb2 hb3
      go_wp2_with fail
      refine (HO.out _ _ hb3).mono ?_
      rintro e w4 ⟨rfl, hb4⟩
      go_wp2
      go_ret
      exact Ret.of rfl (Below.then hb3 hb4)
/-- The errors of lists of numbers. -/
noncomputable def chkLs : List (List (List UInt8)) → Nat
  | [] => 0
  | l :: t => if chkRs l = 0 then chkLs t else chkRs l
theorem pnumbers (ls : List (Value × List (List UInt8))) (g : Nat) (w : World) (hg : Glob w) (hr : Row w g 42 (ls.map (·.1)))
    (h : ∀ x ∈ ls, RdT w x.1 x.2 ∧ x.2.length ≤ 1000000 ∧ ∀ p ∈ x.2, p.length ≤ 90000) (hn : ls.length ≤ 10) :
    Calls Tryz.prog 109 #[.slice (some ⟨g, 0, none⟩) ls.length ls.length] w (Ret w (.int .i64 ((chkLs (ls.map (·.2)) : Nat) : Int))) := by
  have HR := Lib.hid hr
  have HL := Lib.hid (fun i (hi : i < ls.length) => h _ (List.getElem_mem hi))
  generalize hch : ((chkLs (ls.map (·.2)) : Nat) : Int) = ch
  have HCH := Lib.hid hch
  clear hr h hch
  go_enter Tryz.func109, Tryz.ntmps109
  go_wp2
  go_loopw [10] (fun iv wr => ∃ i : Nat, iv = .int .i64 (i : Int) ∧ i ≤ ls.length ∧ Hid (chkLs (ls.map (·.2)) = chkLs ((ls.drop i).map (·.2))) ∧ Below w.heap.size w wr) (fun iv _ => ls.length - (intOf iv).toNat)
  case atStart => exact ⟨0, rfl, by omega, (rfl : chkLs (ls.map (·.2)) = chkLs ((ls.drop 0).map (·.2))), Below.refl _ _⟩
  case round =>
    obtain ⟨i, rfl, hi, hk, hbw⟩ := hrel
    by_cases hlt : i < ls.length
    · have cc := (HR.out.below' hbw).cell (i := i) (v := ls[i].1) (by simp [hlt])
      have hk2 := hk.out
      rw [List.drop_eq_getElem_cons hlt, List.map_cons, chkLs] at hk2
      obtain ⟨hrd, hln, hps⟩ := HL.out i hlt
      have hrd := hrd.below hbw
      clear hk
      generalize ls[i] = x at *
      obtain ⟨v, l⟩ := x
      simp only at cc hk2 hrd hln hps
      have HRD := Lib.hid hrd
      obtain ⟨A, cap, rfl⟩ := hrd.len
      have HPC := Lib.hid (fun j (hj : j < l.length) W (hW : Below w.heap.size w W) => vcheckR l[j] W (hg.of hW) (hps _ (List.getElem_mem hj)))
      have HK := Lib.hid hk2
      clear hrd hk2 hps
      obtain ⟨W0, hW0⟩ : ∃ y, y = wr := ⟨wr, rfl⟩
      subst hW0
      go_wp2
      go_loopw [16] (fun jv wr2 => ∃ j : Nat, jv = .int .i64 (j : Int) ∧ j ≤ l.length ∧ Hid (chkRs l = chkRs (l.drop j)) ∧ Below W0.heap.size W0 wr2) (fun jv _ => l.length - (intOf jv).toNat)
      case atStart => exact ⟨0, rfl, by omega, (rfl : chkRs l = chkRs (l.drop 0)), Below.refl _ _⟩
      case round =>
        obtain ⟨j, rfl, hj, hq, hbv⟩ := hrel
        by_cases hlj : j < l.length
        · obtain ⟨b1, o1, rfl, hw⟩ := HRD.out.row j hlj
          have cv := (hw.below' hbv).val j hlj
          have hq2 := hq.out
          rw [chkRs_drop l j hlj] at hq2
          have HP := Lib.hid (HPC.out j hlj wr (bel_to hbw hbv))
          clear hq hw
          generalize l[j] = x at *
          by_cases hc : chkR x = 0
          · rw [if_pos hc] at hq2
            rw [hc] at HP
            have HQ := Lib.hid hq2
            clear hq2 hc
            go_wp2_with fail
            refine (HP.out).mono ?_
            rintro e w1 ⟨rfl, hb1⟩
            have hb1' := hbv.trans (hb1.mono hbv.size)
            go_wp2
            go_roundw
            case rel => exact ⟨j + 1, by go_num, by omega, HQ, hb1'⟩
            case measure => simp [intOf]; omega
          · rw [if_neg hc] at hq2
            have hz : (((chkR x : Nat) : Int) != 0) = true := by simp; exact hc
            have HQ := Lib.hid (show chkLs (ls.map (·.2)) = chkR x by rw [HK.out, hq2, if_neg hc])
            clear hq2 hc
            generalize hcc : ((chkR x : Nat) : Int) = c at *
            have HCC := Lib.hid hcc
            clear hcc
            go_wp2_with fail
            refine (HP.out).mono ?_
            rintro e w1 ⟨rfl, hb1⟩
            have hb1' := hbw.trans ((hbv.trans (hb1.mono hbv.size)).mono hbw.size)
            go_wp2
            go_ret
            exact Ret.of (by rw [← HCH.out, HQ.out, HCC.out]; rfl) hb1'
        · obtain rfl : j = l.length := by omega
          have hq2 := hq.out
          rw [List.drop_length] at hq2
          have HQ := Lib.hid (show chkLs (ls.map (·.2)) = chkLs ((ls.drop (i + 1)).map (·.2)) by rw [HK.out, hq2]; rfl)
          clear hq2 hq
          go_wp2
          go_roundw
          case rel => exact ⟨i + 1, by go_num, hlt, HQ, bel_to hbw hbv⟩
          case measure => simp [intOf]; omega
    · obtain rfl : i = ls.length := by omega
      have hk2 := hk.out
      rw [List.drop_length] at hk2
      have HK := Lib.hid hk2
      clear hk2 hk
      go_wp2
      go_ret
      exact Ret.of (by rw [← HCH.out, HK.out]; rfl) hbw
end W
end Go.Proofs.YtfcffheboncmbaaGreatDoor
end
section
namespace Go.Proofs.YtfcffheboncmbaaGreatDoor
open Go Go.RowKit Go.Deep
/-- A target, a circle as values. -/
abbrev tgV (t : M.Tg) : Value := .agg #[.int .i64 t.x, .int .i64 t.y, .int .i64 t.lo, .int .i64 t.hi, .int .i64 t.tol, .int .i64 t.mat, .bool t.pin]
abbrev ccV (c : M.Cc) : Value := .agg #[.int .i64 c.x, .int .i64 c.y, .int .i64 c.d]
abbrev tgO (t : M.Tg) : Obj := .cells #[.int .i64 t.x, .int .i64 t.y, .int .i64 t.lo, .int .i64 t.hi, .int .i64 t.tol, .int .i64 t.mat, .bool t.pin] 27 (0, 0)
abbrev ccO (c : M.Cc) : Obj := .cells #[.int .i64 c.x, .int .i64 c.y, .int .i64 c.d] 29 (0, 0)
theorem bel_al (w : World) (o : Obj) : Below w.heap.size w (w.alloc o) := (Below.refl _ _).alloc (Nat.le_refl _) o
namespace W
open M
attribute [local go_sem] bs_size bs_toList bs_get bs_extract bs_append bs_lit0 bs_lit1 lit1_bs
set_option maxHeartbeats 1000000
set_option maxRecDepth 20000
theorem bin_ (n : Int) (w : World) : Calls Tryz.prog 177 #[.int .i64 n] w fun e w' => e = .returned (.bool (inC n)) ∧ w = w' := by
  unfold inC
  cases h1 : decide (-100000 ≤ n) <;> cases h2 : decide (n ≤ 100000) <;>
  · go_enter Tryz.func177, Tryz.ntmps177
    go_wp2
    go_ret
    exact ⟨rfl, rfl⟩
theorem bsize (n : Int) (w : World) : Calls Tryz.prog 178 #[.int .i64 n] w fun e w' => e = .returned (.bool (szC n)) ∧ w = w' := by
  unfold szC
  cases h1 : decide (1 ≤ n) <;> cases h2 : decide (n ≤ 100000) <;>
  · go_enter Tryz.func178, Tryz.ntmps178
    go_wp2
    go_ret
    exact ⟨rfl, rfl⟩
theorem rsize44 (n : Int) (w : World) : Calls Tryz.prog 95 #[.int .i64 n] w fun e w' => e = .returned (.bool (szC n)) ∧ w = w' := by
  unfold szC
  cases h1 : decide (1 ≤ n) <;> cases h2 : decide (n ≤ 100000) <;>
  · go_enter Tryz.func95, Tryz.ntmps95
    go_wp2
    go_ret
    exact ⟨rfl, rfl⟩
theorem rright07 (x y : Int) (w : World) : Calls Tryz.prog 94 #[.agg #[.int .i64 x, .int .i64 y]] w (Ret w (.bool (inC x && inC y))) := by
  have hb0 := bel_al w (.cells #[.int .i64 x, .int .i64 y] 23 (0, 0))
  unfold inC
  cases h1 : decide (-100000 ≤ x) <;> cases h2 : decide (x ≤ 100000) <;> cases h3 : decide (-100000 ≤ y) <;> cases h4 : decide (y ≤ 100000) <;>
  · go_enter Tryz.func94, Tryz.ntmps94
    go_wp2
    go_ret
    exact Ret.of rfl hb0
/-- The program's check of a target. -/
theorem bcheck (t : Tg) (w : World) : Calls Tryz.prog 140 #[tgV t] w (Ret w (.int .i64 ((chkT t : Nat) : Int))) := by
  have HX := Lib.hid (fun w => bin_ t.x w)
  have HY := Lib.hid (fun w => bin_ t.y w)
  have HL := Lib.hid (fun w => bsize t.lo w)
  have HH := Lib.hid (fun w => bsize t.hi w)
  have hb0 := bel_al w (tgO t)
  unfold chkT
  obtain ⟨x, y, lo, hi, tol, mat, pin⟩ := t
  simp only at *
  generalize inC x = a1 at *
  generalize inC y = a2 at *
  generalize szC lo = a3 at *
  generalize szC hi = a4 at *
  generalize hc : (if (a1 && a2 && a3 && a4) = false then 2 else if hi < lo then 9 else if (decide (tol < 0) || decide (100000 < tol) || (!pin && decide (lo ≤ tol))) = true then 2 else if (decide (mat < 0) || decide (3 ≤ mat)) = true then 1 else 0) = c
  go_enter Tryz.func140, Tryz.ntmps140
  go_wp2_with fail
  refine (HX.out _).mono ?_
  rintro e w' ⟨rfl, rfl⟩
  cases a1
  · go_wp2
    go_ret
    subst hc
    exact Ret.of rfl hb0
  go_wp2_with fail
  refine (HY.out _).mono ?_
  rintro e w' ⟨rfl, rfl⟩
  cases a2
  · go_wp2
    go_ret
    subst hc
    exact Ret.of rfl hb0
  go_wp2_with fail
  refine (HL.out _).mono ?_
  rintro e w' ⟨rfl, rfl⟩
  cases a3
  · go_wp2
    go_ret
    subst hc
    exact Ret.of rfl hb0
  go_wp2_with fail
  refine (HH.out _).mono ?_
  rintro e w' ⟨rfl, rfl⟩
  cases a4
  · go_wp2
    go_ret
    subst hc
    exact Ret.of rfl hb0
  cases pin <;>
  · go_wp2
    all_goals
      go_ret
      subst hc
      refine Ret.of ?_ hb0
      (try simp_all) <;> (repeat' split) <;> omega
/-- The reference's. -/
theorem rcheck44 (t : Tg) (w : World) : Calls Tryz.prog 47 #[tgV t] w (Ret w (.int .i64 ((chkT t : Nat) : Int))) := by
  have HX := Lib.hid (fun w => rright07 t.x t.y w)
  have HL := Lib.hid (fun w => rsize44 t.lo w)
  have HH := Lib.hid (fun w => rsize44 t.hi w)
  have HB0 := Lib.hid (bel_al w (tgO t))
  have HR := Lib.hid (Row.new w 27 [.int .i64 t.x, .int .i64 t.y, .int .i64 t.lo, .int .i64 t.hi, .int .i64 t.tol, .int .i64 t.mat, .bool t.pin])
  unfold chkT
  obtain ⟨x, y, lo, hi, tol, mat, pin⟩ := t
  simp only at *
  generalize inC x = a1 at *
  generalize inC y = a2 at *
  generalize szC lo = a3 at *
  generalize szC hi = a4 at *
  generalize hc : (if (a1 && a2 && a3 && a4) = false then 2 else if hi < lo then 9 else if (decide (tol < 0) || decide (100000 < tol) || (!pin && decide (lo ≤ tol))) = true then 2 else if (decide (mat < 0) || decide (3 ≤ mat)) = true then 1 else 0) = c
  generalize ha : (a1 && a2) = a at *
  go_enter Tryz.func47, Tryz.ntmps47
  go_wp2_with fail
  refine (HX.out _).mono ?_
  rintro e w1 ⟨rfl, hb1⟩
  have HB1 := Lib.hid (bel_to HB0.out hb1)
  have hr := HR.out.below' hb1
  have x2 := hr.cell (i := 2) rfl
  have x3 := hr.cell (i := 3) rfl
  have x4 := hr.cell (i := 4) rfl
  have x5 := hr.cell (i := 5) rfl
  have x6 := hr.cell (i := 6) rfl
  clear hr hb1 HB0 HR
  cases a
  · go_wp2
    go_ret
    subst hc
    exact Ret.of (by simp) HB1.out
  go_wp2_with fail
  refine (HL.out _).mono ?_
  rintro e w' ⟨rfl, rfl⟩
  cases a3
  · go_wp2
    go_ret
    subst hc
    exact Ret.of (by simp) HB1.out
  go_wp2_with fail
  refine (HH.out _).mono ?_
  rintro e w' ⟨rfl, rfl⟩
  cases a4
  · go_wp2
    go_ret
    subst hc
    exact Ret.of (by simp) HB1.out
  cases pin <;>
  · go_wp2
    all_goals
      go_ret
      subst hc
      refine Ret.of ?_ HB1.out
      clear x2 x3 x4 x5 x6
      (try simp_all) <;> (repeat' split) <;> omega
theorem bring (c : Cc) (w : World) : Calls Tryz.prog 141 #[ccV c] w (Ret w (.int .i64 ((ringC c : Nat) : Int))) := by
  have HX := Lib.hid (fun w => bin_ c.x w)
  have HY := Lib.hid (fun w => bin_ c.y w)
  have HL := Lib.hid (fun w => bsize c.d w)
  have hb0 := bel_al w (ccO c)
  unfold ringC
  obtain ⟨x, y, d⟩ := c
  simp only at *
  generalize inC x = a1 at *
  generalize inC y = a2 at *
  generalize szC d = a3 at *
  generalize hc : (if (a1 && a2 && a3) = true then 0 else 2) = c
  go_enter Tryz.func141, Tryz.ntmps141
  go_wp2_with fail
  refine (HX.out _).mono ?_
  rintro e w' ⟨rfl, rfl⟩
  cases a1
  · go_wp2
    go_ret
    subst hc
    exact Ret.of rfl hb0
  go_wp2_with fail
  refine (HY.out _).mono ?_
  rintro e w' ⟨rfl, rfl⟩
  cases a2
  · go_wp2
    go_ret
    subst hc
    exact Ret.of rfl hb0
  go_wp2_with fail
  refine (HL.out _).mono ?_
  rintro e w' ⟨rfl, rfl⟩
  cases a3 <;>
  · go_wp2
    go_ret
    subst hc
    exact Ret.of rfl hb0
theorem rring44 (c : Cc) (w : World) : Calls Tryz.prog 48 #[ccV c] w (Ret w (.int .i64 ((ringC c : Nat) : Int))) := by
  have HX := Lib.hid (fun w => rright07 c.x c.y w)
  have HL := Lib.hid (fun w => rsize44 c.d w)
  have HB0 := Lib.hid (bel_al w (ccO c))
  have HR := Lib.hid (Row.new w 29 [.int .i64 c.x, .int .i64 c.y, .int .i64 c.d])
  unfold ringC
  obtain ⟨x, y, d⟩ := c
  simp only at *
  generalize inC x = a1 at *
  generalize inC y = a2 at *
  generalize szC d = a3 at *
  generalize (a1 && a2) = a at *
  generalize hc : (if (a && a3) = true then 0 else 2) = c
  go_enter Tryz.func48, Tryz.ntmps48
  go_wp2_with fail
  refine (HX.out _).mono ?_
  rintro e w1 ⟨rfl, hb1⟩
  have HB1 := Lib.hid (bel_to HB0.out hb1)
  have hr := HR.out.below' hb1
  have x2 := hr.cell (i := 2) rfl
  clear hr hb1 HB0 HR
  cases a
  · go_wp2
    go_ret
    subst hc
    exact Ret.of rfl HB1.out
  go_wp2_with fail
  refine (HL.out _).mono ?_
  rintro e w' ⟨rfl, rfl⟩
  cases a3 <;>
  · go_wp2
    go_ret
    subst hc
    exact Ret.of rfl HB1.out
theorem bwithin (t : Tg) (n : Int) (w : World) : Calls Tryz.prog 142 #[tgV t, .int .i64 n] w (Ret w (.bool (wth t n))) := by
  have hb0 := bel_al w (tgO t)
  unfold wth
  obtain ⟨x, y, lo, hi, tol, mat, pin⟩ := t
  simp only at *
  cases h1 : decide (lo ≤ n) <;> cases h2 : decide (n ≤ hi) <;>
  · go_enter Tryz.func142, Tryz.ntmps142
    go_wp2
    go_ret
    exact Ret.of rfl hb0
theorem rinside44 (t : Tg) (n : Int) (w : World) : Calls Tryz.prog 49 #[tgV t, .int .i64 n] w (Ret w (.bool (wth t n))) := by
  have hb0 := bel_al w (tgO t)
  unfold wth
  obtain ⟨x, y, lo, hi, tol, mat, pin⟩ := t
  simp only at *
  cases h1 : decide (lo ≤ n) <;> cases h2 : decide (n ≤ hi) <;>
  · go_enter Tryz.func49, Tryz.ntmps49
    go_wp2
    go_ret
    exact Ret.of rfl hb0
/-- The bonus of the reference. -/
theorem rextra44 (t : Tg) (n : Int) (w : World) (ht : RtT t) (hn : 1 ≤ n ∧ n ≤ 100000) : Calls Tryz.prog 96 #[tgV t, .int .i64 n] w (Ret w (.int .i64 (extr t n))) := by
  have hb0 := bel_al w (tgO t)
  have a1 := ht.lo
  have a2 := ht.hi
  unfold extr
  obtain ⟨x, y, lo, hi, tol, mat, pin⟩ := t
  simp only at *
  have w1 : wrap64 (n - lo) = n - lo := by unfold wrap64; omega
  have w2 : wrap64 (hi - n) = hi - n := by unfold wrap64; omega
  clear ht
  by_cases h0 : mat = 0
  · subst h0
    go_enter Tryz.func96, Tryz.ntmps96
    go_wp2
    go_ret
    exact Ret.of rfl hb0
  · rw [if_neg h0]
    have e0 : (mat == 0) = false := by simpa using h0
    by_cases h1 : mat = 1
    · subst h1
      cases pin <;>
      · go_enter Tryz.func96, Tryz.ntmps96
        go_wp2
        go_ret
        exact Ret.of (by simp_all) hb0
    · have e1 : (mat == 1) = false := by simpa using h1
      rw [decide_eq_false h1]
      cases pin <;>
      · go_enter Tryz.func96, Tryz.ntmps96
        go_wp2
        go_ret
        exact Ret.of (by simp_all) hb0
end W
end Go.Proofs.YtfcffheboncmbaaGreatDoor
end
section
namespace Go.Proofs.YtfcffheboncmbaaGreatDoor
open Go Go.RowKit Go.Deep
namespace M
theorem chkTs_drop (l : List Tg) (i : Nat) (h : i < l.length) : chkTs (l.drop i) = if chkT l[i] = 0 then chkTs (l.drop (i + 1)) else chkT l[i] := by
  rw [List.drop_eq_getElem_cons h, chkTs]
theorem chkCs_drop (l : List Cc) (i : Nat) (h : i < l.length) : chkCs (l.drop i) = if ringC l[i] = 0 then chkCs (l.drop (i + 1)) else ringC l[i] := by
  rw [List.drop_eq_getElem_cons h, chkCs]
end M
namespace W
open M
attribute [local go_sem] bs_size bs_toList bs_get bs_extract bs_append bs_lit0 bs_lit1 lit1_bs
set_option maxHeartbeats 1000000
set_option maxRecDepth 20000
theorem bplate (vt vc : Value) (ts : List Tg) (cs : List Cc) (w : World) (ht : RdG w vt ts) (hc : RdC w vc cs) (nt : ts.length ≤ maxLen) (nc : cs.length ≤ maxLen) :
    Calls Tryz.prog 97 #[vt, vc] w (Ret w (.int .i64 ((chkPl ts cs : Nat) : Int))) := by
  unfold maxLen at nt nc
  obtain ⟨At, ct, rfl⟩ := ht.len
  obtain ⟨Ac, cc, rfl⟩ := hc.len
  by_cases h16 : 16 < ts.length
  · unfold chkPl
    rw [if_pos h16]
    have hd : decide (16 < (ts.length : Int)) = true := by simp; omega
    clear ht hc
    go_enter Tryz.func97, Tryz.ntmps97
    go_wp2
    go_ret
    exact Ret.of rfl (Below.refl _ _)
  · have hd : decide (16 < (ts.length : Int)) = false := by simp; omega
    have HT := Lib.hid ht
    have HC := Lib.hid hc
    have hp : chkPl ts cs = if chkTs ts ≠ 0 then chkTs ts else if cs.length ≠ ts.length then 8 else chkCs cs := by unfold chkPl; rw [if_neg h16]
    generalize hch : ((chkPl ts cs : Nat) : Int) = ch
    rw [hp] at hch
    have HCH := Lib.hid hch
    clear ht hc hp hch
    have hts : ts.length ≤ 16 := by omega
    go_enter Tryz.func97, Tryz.ntmps97
    go_wp2
    go_loopw [16] (fun iv wr => ∃ i : Nat, iv = .int .i64 (i : Int) ∧ i ≤ ts.length ∧ Hid (chkTs ts = chkTs (ts.drop i)) ∧ Hid (Below w.heap.size w wr)) (fun iv _ => ts.length - (intOf iv).toNat)
    case atStart => exact ⟨0, rfl, by omega, Lib.hid (by rw [List.drop_zero]), Lib.hid (Below.refl _ _)⟩
    case round =>
      obtain ⟨i, rfl, hi, hk, hbw⟩ := hrel
      by_cases hlt : i < ts.length
      · obtain ⟨b1, o1, rfl, hw⟩ := HT.out.row i hlt
        obtain ⟨c0, c1, c2, c3, c4, c5, c6⟩ := (hw.below' hbw.out).val i hlt
        have hk2 := hk.out
        rw [chkTs_drop ts i hlt] at hk2
        clear hk hw
        generalize ts[i] = x at *
        have HB := Lib.hid (bel_to hbw.out (bel_al wr (tgO x)))
        have HCK := Lib.hid (bcheck x (wr.alloc (tgO x)))
        have hz : (((chkT x : Nat) : Int) != 0) = decide (chkT x ≠ 0) := by
          by_cases h : chkT x = 0
          · rw [h]; rfl
          · rw [decide_eq_true h, bne_iff_ne]; omega
        by_cases h0 : chkT x = 0
        · rw [if_pos h0] at hk2
          rw [h0] at HCK
          have HK := Lib.hid hk2
          clear hk2 hz h0
          go_wp2_with fail
          refine (HCK.out).mono ?_
          rintro e w1 ⟨rfl, hb1⟩
          have HB1 := Lib.hid (bel_to HB.out hb1)
          clear hb1 HB HCK
          go_wp2
          go_roundw
          case rel => exact ⟨i + 1, by go_num, by omega, HK, HB1⟩
          case measure => simp [intOf]; omega
        · rw [if_neg h0] at hk2
          rw [decide_eq_true h0] at hz
          have HK := Lib.hid (show ch = ((chkT x : Nat) : Int) by rw [← HCH.out, hk2, if_pos h0])
          clear hk2 h0
          generalize ((chkT x : Nat) : Int) = c at *
          go_wp2_with fail
          refine (HCK.out).mono ?_
          rintro e w1 ⟨rfl, hb1⟩
          have HB1 := Lib.hid (bel_to HB.out hb1)
          clear hb1 HB HCK
          go_wp2
          go_ret
          exact Ret.of (by rw [HK.out]; rfl) HB1.out
      · obtain rfl : i = ts.length := by omega
        have hk2 := hk.out
        rw [List.drop_length] at hk2
        rw [hk2] at HCH
        have hch := HCH.out
        rw [if_neg (by simp [chkTs])] at hch
        clear hk hk2 HCH HT
        by_cases hl : cs.length = ts.length
        · have hz : ((cs.length : Int) != (ts.length : Int)) = false := by rw [hl]; simp
          rw [if_neg (by simpa using hl)] at hch
          have HCH := Lib.hid hch
          clear hch hl
          go_wp2
          go_loopw [33] (fun iv wr => ∃ i : Nat, iv = .int .i64 (i : Int) ∧ i ≤ cs.length ∧ Hid (chkCs cs = chkCs (cs.drop i)) ∧ Hid (Below w.heap.size w wr)) (fun iv _ => cs.length - (intOf iv).toNat)
          case atStart => exact ⟨0, rfl, by omega, Lib.hid (by rw [List.drop_zero]), hbw⟩
          case round =>
            clear hbw
            obtain ⟨i, rfl, hi, hk, hbw⟩ := hrel
            by_cases hlt : i < cs.length
            · obtain ⟨b1, o1, rfl, hw⟩ := HC.out.row i hlt
              obtain ⟨c0, c1, c2⟩ := (hw.below' hbw.out).val i hlt
              have hk2 := hk.out
              rw [chkCs_drop cs i hlt] at hk2
              clear hk hw
              generalize cs[i] = x at *
              have HB := Lib.hid (bel_to hbw.out (bel_al wr (ccO x)))
              have HCK := Lib.hid (fun W => bring x W)
              by_cases h0 : ringC x = 0
              · rw [if_pos h0] at hk2
                rw [h0] at HCK
                have HK := Lib.hid hk2
                clear hk2 h0
                go_wp2_with fail
                refine (HCK.out _).mono ?_
                rintro e w1 ⟨rfl, hb1⟩
                have HB1 := Lib.hid (bel_to HB.out hb1)
                clear hb1 HB HCK
                go_wp2
                go_roundw
                case rel => exact ⟨i + 1, by go_num, by omega, HK, HB1⟩
                case measure => simp [intOf]; omega
              · rw [if_neg h0] at hk2
                have hz : (((ringC x : Nat) : Int) != 0) = true := by rw [bne_iff_ne]; omega
                have HK := Lib.hid (show ch = ((ringC x : Nat) : Int) by rw [← HCH.out, hk2])
                clear hk2 h0
                generalize ((ringC x : Nat) : Int) = c at *
                go_wp2_with fail
                refine (HCK.out _).mono ?_
                rintro e w1 ⟨rfl, hb1⟩
                have HB1 := Lib.hid (bel_to HB.out hb1)
                clear hb1 HB HCK
                go_wp2
                go_ret
                exact Ret.of (by rw [HK.out]; rfl) HB1.out
            · obtain rfl : i = cs.length := by omega
              have hk2 := hk.out
              rw [List.drop_length] at hk2
              have HK := Lib.hid (show ch = 0 by rw [← HCH.out, hk2]; rfl)
              clear hk hk2
              go_wp2
              go_ret
              exact Ret.of (by rw [HK.out]; rfl) hbw.out
        · have hz : ((cs.length : Int) != (ts.length : Int)) = true := by rw [bne_iff_ne]; omega
          rw [if_pos hl] at hch
          have HCH := Lib.hid hch
          clear hch
          go_wp2
          go_ret
          exact Ret.of (by rw [← HCH.out]; rfl) hbw.out
end W
end Go.Proofs.YtfcffheboncmbaaGreatDoor
end
