/-
  Chapter 5: the reference's weighted sums, walked.
  Chapter 5: the simplex table in memory.
  Chapter 5, plain: the simplex over tables that are written out anew at each step.
  Chapter 5: slices.Repeat of one text.
  Chapter 5: 'width', and the closure of 'pivot' that takes a multiple of a row away.
  Chapter 5: 'pivot' lets a row determine a column.
-/
import Derived.Test.YtellemlhhlafcaaGreatDoorKI
import Derived.Shelf.Bits.Mul64
import Derived.Laws.CopyRow
import Derived.BigRegion
section
namespace Go.Proofs.YtellemlhhlafcaaGreatDoor
open Go Go.RowKit Go.Deep Go.Sort
namespace W
open M
attribute [local go_sem] bs_size bs_toList bs_get bs_extract bs_append bs_lit0 bs_lit1 lit1_bs
set_option maxHeartbeats 2000000
set_option maxRecDepth 20000
end W
end Go.Proofs.YtellemlhhlafcaaGreatDoor
end
section
namespace Go.Proofs.YtellemlhhlafcaaGreatDoor
open Go Go.RowKit Go.Deep Go.Sort
def Pre (w : World) (b : Nat) (t : TypeId) (xs : List Value) : Prop := ∃ sp, Row w b t (xs ++ sp)
theorem Pre.of {w : World} {b : Nat} {t : TypeId} {xs : List Value} (h : Row w b t xs) : Pre w b t xs := ⟨[], by rw [List.append_nil]; exact h⟩
theorem Pre.lt {w : World} {b : Nat} {t : TypeId} {xs : List Value} (h : Pre w b t xs) : b < w.heap.size := by
  obtain ⟨sp, h⟩ := h; exact h.lt
theorem Pre.cell {w : World} {b : Nat} {t : TypeId} {xs : List Value} (h : Pre w b t xs) {i : Nat} {v : Value} (hi : xs[i]? = some v) : w.cell? ⟨b, i, none⟩ = some v := by
  obtain ⟨sp, h⟩ := h
  refine h.cell ?_
  have := (List.getElem?_eq_some_iff.1 hi).1
  rw [List.getElem?_append_left this]; exact hi
theorem Pre.free {w : World} {b : Nat} {t : TypeId} {xs : List Value} (h : Pre w b t xs) (i : Nat) : w.frozen? ⟨b, i, none⟩ = false := by
  obtain ⟨sp, h⟩ := h; exact h.free i
theorem Pre.set {w : World} {b : Nat} {t : TypeId} {xs : List Value} (h : Pre w b t xs) {i : Nat} (hi : i < xs.length) (v : Value) : Pre (w.setCell ⟨b, i, none⟩ v) b t (xs.set i v) := by
  obtain ⟨sp, h⟩ := h
  refine ⟨sp, ?_⟩
  have := h.set i v
  rwa [List.set_append_left _ _ hi] at this
theorem Pre.other {w : World} {b : Nat} {t : TypeId} {xs : List Value} (h : Pre w b t xs) {a : Addr} (ha : b ≠ a.block) (v : Value) : Pre (w.setCell a v) b t xs := by
  obtain ⟨sp, h⟩ := h; exact ⟨sp, h.other ha v⟩
theorem Pre.alloc {w : World} {b : Nat} {t : TypeId} {xs : List Value} (h : Pre w b t xs) (o : Obj) : Pre (w.alloc o) b t xs := by
  obtain ⟨sp, h⟩ := h; exact ⟨sp, h.alloc o⟩
theorem Pre.below' {w w' : World} {b : Nat} {t : TypeId} {xs : List Value} (h : Pre w b t xs) (hb : Below w.heap.size w w') : Pre w' b t xs := by
  obtain ⟨sp, h⟩ := h; exact ⟨sp, h.below' hb⟩
theorem pre_own {w : World} {B : Nat} {e : TypeId} {v : Value} {n : Nat} {xs : List Value} (h : w.ownsRow B e 1 v n xs) (h0 : 0 < n) : ∃ g cap, v = .slice (some ⟨g, 0, none⟩) n cap ∧ B ≤ g ∧ Pre w g e xs := by
  obtain ⟨h1, h2⟩ := h
  rcases h2 with ⟨_, h3⟩ | ⟨g, cap, cur, rfl, hg, hh, _, _, _, hx⟩
  · omega
  · refine ⟨g, cap, rfl, hg, cur.toList.drop (n * 1), ?_⟩
    rw [← hx, List.take_append_drop]
    unfold Row
    rw [Array.toArray_toList]; exact hh
namespace M
def upd {α : Type} (f : Nat → α) (k : Nat) (v : α) : Nat → α := fun j => if j = k then v else f j
theorem upd_same {α : Type} (f : Nat → α) (k : Nat) (v : α) : upd f k v k = v := by unfold upd; rw [if_pos rfl]
theorem upd_other {α : Type} (f : Nat → α) {k j : Nat} (h : j ≠ k) (v : α) : upd f k v j = f j := by unfold upd; rw [if_neg h]
theorem mapR_upd (f : Nat → Rat) (k n : Nat) (q : Rat) : mapR (upd f k q) n = (mapR f n).set k (R q) := by
  apply List.ext_getElem
  · rw [List.length_set, mapR_len, mapR_len]
  · intro j h1 h2
    rw [mapR_len] at h1
    rw [mapR_get _ _ _ h1, List.getElem_set]
    by_cases e : k = j
    · subst e; rw [if_pos rfl, upd_same]
    · rw [if_neg e, mapR_get _ _ _ h1, upd_other _ (fun h => e h.symm)]
theorem mapR_congr {f g : Nat → Rat} {n : Nat} (h : ∀ k, k < n → f k = g k) : mapR f n = mapR g n := by
  unfold mapR
  apply List.map_congr_left
  intro k hk
  rw [h k (List.mem_range.1 hk)]
def intsV (b : Nat → Nat) (m : Nat) : List Value := (List.range m).map fun i => .int .i64 (b i : Int)
theorem intsV_upd (b : Nat → Nat) (k m c : Nat) : intsV (upd b k c) m = (intsV b m).set k (.int .i64 (c : Int)) := by
  unfold intsV
  apply List.ext_getElem
  · simp
  · intro j h1 h2
    have h3 : j < m := by simpa using h1
    rw [List.getElem_set]
    by_cases e : k = j
    · subst e; rw [if_pos rfl]; simp [upd_same]
    · rw [if_neg e]; simp [upd_other _ (show j ≠ k from fun h => e h.symm)]
theorem intsV_congr {f g : Nat → Nat} {n : Nat} (h : ∀ k, k < n → f k = g k) : intsV f n = intsV g n := by
  unfold intsV
  apply List.map_congr_left
  intro k hk
  rw [h k (List.mem_range.1 hk)]
def rowsV (h : Nat → Nat) (m L : Nat) : List Value := (List.range m).map fun i => .slice (some ⟨h i, 0, none⟩) L L
def wdt (n m : Nat) : Nat := 2 * n + m + 1
end M
open M
structure TabS (w : World) (B p S gr gb cr cb : Nat) (h : Nat → Nat) (n m : Nat) (A : Nat → Nat → Rat) (b : Nat → Nat) : Prop where
  tab : Pre w p 204 [.pointer (some ⟨S, 0, none⟩), .int .i64 (n : Int), .int .i64 (m : Int), .slice (some ⟨gr, 0, none⟩) m cr, .slice (some ⟨gb, 0, none⟩) m cb, .slice (some ⟨h m, 0, none⟩) (wdt n m + 1) (wdt n m + 1)]
  err : NoErP w S
  rows : Pre w gr 60 (rowsV h m (wdt n m + 1))
  bas : Pre w gb 3 (intsV b m)
  mat : ∀ j, j ≤ m → Pre w (h j) 86 (Strs (mapR (A j) (wdt n m + 1)))
  blt : ∀ i, i < m → b i < wdt n m
  lowp : B ≤ p
  lowS : B ≤ S
  lowr : B ≤ gr
  lowb : B ≤ gb
  lowh : ∀ j, j ≤ m → B ≤ h j
  inj : ∀ i j, i ≤ m → j ≤ m → h i = h j → i = j
  hne : ∀ j, j ≤ m → h j ≠ p ∧ h j ≠ S ∧ h j ≠ gr ∧ h j ≠ gb
  pne : p ≠ S ∧ p ≠ gr ∧ p ≠ gb ∧ S ≠ gr ∧ S ≠ gb ∧ gr ≠ gb
  gl : Glob w
  hB : 8 ≤ B
  hn : n ≤ 100
  hm : m ≤ 1000
section
variable {w w' : World} {B p S gr gb cr cb : Nat} {h : Nat → Nat} {n m : Nat} {A : Nat → Nat → Rat} {b : Nat → Nat}
theorem TabS.below' (t : TabS w B p S gr gb cr cb h n m A b) (hb : Below w.heap.size w w') : TabS w' B p S gr gb cr cb h n m A b :=
  { t with gl := t.gl.of hb, tab := t.tab.below' hb, err := t.err.below' hb, rows := t.rows.below' hb, bas := t.bas.below' hb, mat := fun j hj => (t.mat j hj).below' hb }
theorem TabS.congr (t : TabS w B p S gr gb cr cb h n m A b) {A2 : Nat → Nat → Rat} {b2 : Nat → Nat} (h1 : ∀ j, j ≤ m → ∀ k, k ≤ wdt n m → A j k = A2 j k) (h2 : ∀ i, i < m → b i = b2 i) : TabS w B p S gr gb cr cb h n m A2 b2 :=
  { t with bas := by rw [← intsV_congr h2]; exact t.bas, mat := fun j hj => by rw [← mapR_congr (fun k hk => h1 j hj k (by omega))]; exact t.mat j hj, blt := fun i hi => by rw [← h2 i hi]; exact t.blt i hi }
theorem TabS.c0 (t : TabS w B p S gr gb cr cb h n m A b) : w.cell? ⟨p, 0, none⟩ = some (.pointer (some ⟨S, 0, none⟩)) := t.tab.cell rfl
theorem TabS.c1 (t : TabS w B p S gr gb cr cb h n m A b) : w.cell? ⟨p, 1, none⟩ = some (.int .i64 (n : Int)) := t.tab.cell rfl
theorem TabS.c2 (t : TabS w B p S gr gb cr cb h n m A b) : w.cell? ⟨p, 2, none⟩ = some (.int .i64 (m : Int)) := t.tab.cell rfl
theorem TabS.c3 (t : TabS w B p S gr gb cr cb h n m A b) : w.cell? ⟨p, 3, none⟩ = some (.slice (some ⟨gr, 0, none⟩) m cr) := t.tab.cell rfl
theorem TabS.c4 (t : TabS w B p S gr gb cr cb h n m A b) : w.cell? ⟨p, 4, none⟩ = some (.slice (some ⟨gb, 0, none⟩) m cb) := t.tab.cell rfl
theorem TabS.c5 (t : TabS w B p S gr gb cr cb h n m A b) : w.cell? ⟨p, 5, none⟩ = some (.slice (some ⟨h m, 0, none⟩) (wdt n m + 1) (wdt n m + 1)) := t.tab.cell rfl
theorem TabS.crow (t : TabS w B p S gr gb cr cb h n m A b) {j : Nat} (hj : j < m) : w.cell? ⟨gr, j, none⟩ = some (.slice (some ⟨h j, 0, none⟩) (wdt n m + 1) (wdt n m + 1)) :=
  t.rows.cell (by simp [rowsV, hj])
theorem TabS.cbas (t : TabS w B p S gr gb cr cb h n m A b) {i : Nat} (hi : i < m) : w.cell? ⟨gb, i, none⟩ = some (.int .i64 (b i : Int)) :=
  t.bas.cell (by simp [intsV, hi])
theorem TabS.ce (t : TabS w B p S gr gb cr cb h n m A b) {j k : Nat} (hj : j ≤ m) (hk : k ≤ wdt n m) : w.cell? ⟨h j, k, none⟩ = some (.string (bs (R (A j k)))) :=
  (t.mat j hj).cell (by simp [Strs, mapR, show k < wdt n m + 1 by omega])
theorem TabS.fe (t : TabS w B p S gr gb cr cb h n m A b) {j : Nat} (hj : j ≤ m) (k : Nat) : w.frozen? ⟨h j, k, none⟩ = false := (t.mat j hj).free k
theorem TabS.fb (t : TabS w B p S gr gb cr cb h n m A b) (k : Nat) : w.frozen? ⟨gb, k, none⟩ = false := t.bas.free k
theorem TabS.ft (t : TabS w B p S gr gb cr cb h n m A b) (k : Nat) : w.frozen? ⟨p, k, none⟩ = false := t.tab.free k
theorem TabS.setA (t : TabS w B p S gr gb cr cb h n m A b) {j k : Nat} (hj : j ≤ m) (hk : k ≤ wdt n m) (q : Rat) :
    TabS (w.setCell ⟨h j, k, none⟩ (.string (bs (R q)))) B p S gr gb cr cb h n m (upd A j (upd (A j) k q)) b := by
  obtain ⟨n1, n2, n3, n4⟩ := t.hne j hj
  refine { t with gl := t.gl.below ((Below.refl B w).setCell (p := ⟨h j, k, none⟩) (t.lowh j hj) _) t.hB, tab := t.tab.other (fun e => n1 e.symm) _, err := Row.other t.err (fun e => n2 e.symm) _, rows := t.rows.other (fun e => n3 e.symm) _, bas := t.bas.other (fun e => n4 e.symm) _, mat := fun i hi => ?_ }
  by_cases e : i = j
  · subst e
    rw [upd_same, mapR_upd]
    have h2 := (t.mat i hi).set (i := k) (by simp [Strs, mapR_len]; omega) (.string (bs (R q)))
    have e2 : Strs ((mapR (A i) (wdt n m + 1)).set k (R q)) = (Strs (mapR (A i) (wdt n m + 1))).set k (.string (bs (R q))) := by simp [Strs, List.map_set]
    rw [e2]; exact h2
  · rw [upd_other _ e]
    exact (t.mat i hi).other (fun e2 => e (t.inj i j hi hj e2)) _
theorem TabS.setB (t : TabS w B p S gr gb cr cb h n m A b) {r c : Nat} (hr : r < m) (hc : c < wdt n m) :
    TabS (w.setCell ⟨gb, r, none⟩ (.int .i64 (c : Int))) B p S gr gb cr cb h n m A (upd b r c) := by
  obtain ⟨_, _, n3, _, n5, n6⟩ := t.pne
  refine { t with gl := t.gl.below ((Below.refl B w).setCell (p := ⟨gb, r, none⟩) t.lowb _) t.hB, tab := t.tab.other n3 _, err := Row.other t.err n5 _, rows := t.rows.other n6 _, bas := ?_, mat := fun i hi => (t.mat i hi).other (t.hne i hi).2.2.2 _, blt := fun i hi => ?_ }
  · rw [intsV_upd]; exact t.bas.set (by simp [intsV]; exact hr) _
  · unfold upd; split
    · exact hc
    · exact t.blt i hi
theorem TabS.belowA (t : TabS w B p S gr gb cr cb h n m A b) {w0 : World} (h0 : Below B w0 w) {j : Nat} (hj : j ≤ m) (k : Nat) (v : Value) : Below B w0 (w.setCell ⟨h j, k, none⟩ v) := h0.setCell (p := ⟨h j, k, none⟩) (t.lowh j hj) v
theorem TabS.belowB (t : TabS w B p S gr gb cr cb h n m A b) {w0 : World} (h0 : Below B w0 w) (k : Nat) (v : Value) : Below B w0 (w.setCell ⟨gb, k, none⟩ v) := h0.setCell (p := ⟨gb, k, none⟩) t.lowb v
end
end Go.Proofs.YtellemlhhlafcaaGreatDoor
end
section
namespace Go.Proofs.YtellemlhhlafcaaGreatDoor
open Go Go.RowKit Go.Deep
namespace M
abbrev Mx := Nat → Nat → Rat
def pivA (A : Mx) (r c : Nat) : Mx := fun i k => if i = r then A r k / A r c else A i k - A i c * (A r k / A r c)
structure Tbl where
  rows : List (List Rat)
  bas : List Nat
def Tbl.A (t : Tbl) : Mx := fun j k => nth (t.rows.getD j []) k
def Tbl.b (t : Tbl) : Nat → Nat := fun i => t.bas.getD i 0
def tab (n m : Nat) (A : Mx) (b : Nat → Nat) : Tbl := ⟨(List.range (m + 1)).map fun j => (List.range (wdt n m + 1)).map fun k => A j k, (List.range m).map b⟩
theorem nth_map (f : Nat → Rat) (n k : Nat) (h : k < n) : nth ((List.range n).map f) k = f k := by unfold nth; simp [h]
theorem tab_A {n m : Nat} (A : Mx) (b : Nat → Nat) {j k : Nat} (hj : j ≤ m) (hk : k ≤ wdt n m) : (tab n m A b).A j k = A j k := by
  unfold Tbl.A tab
  simp only
  rw [show ((List.range (m + 1)).map fun j => (List.range (wdt n m + 1)).map fun k => A j k).getD j [] = (List.range (wdt n m + 1)).map fun k => A j k by simp [show j < m + 1 by omega]]
  exact nth_map _ _ _ (by omega)
theorem tab_b {n m : Nat} (A : Mx) (b : Nat → Nat) {i : Nat} (hi : i < m) : (tab n m A b).b i = b i := by
  unfold Tbl.b tab; simp [hi]
def smallQ (ez : Nat) (q : Rat) : Bool := decide (q.num.natAbs < 10 ^ ez) && decide (q.den < 10 ^ ez)
theorem smallQ_bq {ez : Nat} {q : Rat} (h : smallQ ez q = true) : Bq ez q := by
  unfold smallQ at h
  simp only [Bool.and_eq_true, decide_eq_true_eq] at h
  exact h
def smallT (ez n m : Nat) (t : Tbl) : Bool := (List.range (m + 1)).all fun j => (List.range (wdt n m + 1)).all fun k => smallQ ez (t.A j k)
theorem smallT_bq {ez n m : Nat} {t : Tbl} (h : smallT ez n m t = true) {j k : Nat} (hj : j ≤ m) (hk : k ≤ wdt n m) : Bq ez (t.A j k) := by
  unfold smallT at h
  rw [List.all_eq_true] at h
  have h1 := h j (List.mem_range.2 (by omega))
  rw [List.all_eq_true] at h1
  exact smallQ_bq (h1 k (List.mem_range.2 (by omega)))
def smallL (ez : Nat) (l : List Rat) : Bool := l.all (smallQ ez)
theorem smallL_bq {ez : Nat} {l : List Rat} (h : smallL ez l = true) : ∀ q ∈ l, Bq ez q := fun q hq => smallQ_bq (List.all_eq_true.1 h q hq)
def colT (n m : Nat) (A : Mx) (ban : Option Nat) : Option Nat := (List.range (wdt n m)).find? fun c => decide (some c ≠ ban) && decide (0 < A m c)
def lvOne (A : Mx) (b : Nat → Nat) (c wd i : Nat) : Option Nat × Rat → Option Nat × Rat
  | (none, l) => if A i c ≤ 0 then (none, l) else (some i, A i wd / A i c)
  | (some k, l) => if A i c ≤ 0 then (some k, l) else
      if A i wd / A i c < l ∨ (A i wd / A i c = l ∧ b i < b k) then (some i, A i wd / A i c) else (some k, l)
def lvS (A : Mx) (b : Nat → Nat) (c wd : Nat) : Nat → Option Nat × Rat
  | 0 => (none, 0)
  | i + 1 => lvOne A b c wd i (lvS A b c wd i)
def leaveT (n m : Nat) (A : Mx) (b : Nat → Nat) (c : Nat) : Option Nat := (lvS A b c (wdt n m) m).1
def pivT (n m : Nat) (t : Tbl) (r c : Nat) : Tbl := tab n m (pivA t.A r c) (upd t.b r c)
def climbT (ez n m : Nat) (ban : Option Nat) : Nat → Tbl → Option (Bool × Tbl)
  | 0, _ => none
  | f + 1, t => if smallT ez n m t = false then none else
    match colT n m t.A ban with
    | none => some (true, t)
    | some c => match leaveT n m t.A t.b c with
      | none => some (false, t)
      | some r => climbT ez n m ban f (pivT n m t r c)
def wsOne (A : Mx) (wd i : Nat) : Option Nat → Option Nat
  | none => if 0 ≤ A i wd then none else some i
  | some k => if 0 ≤ A i wd then some k else if A k wd ≤ A i wd then some k else some i
def wsS (A : Mx) (wd : Nat) : Nat → Option Nat
  | 0 => none
  | i + 1 => wsOne A wd i (wsS A wd i)
def outT (n m : Nat) (t : Tbl) : Tbl :=
  match (List.range m).find? fun i => decide (t.b i = wdt n m - 1) with
  | none => t
  | some r => match (List.range (wdt n m - 1)).find? fun c => decide (t.A r c ≠ 0) with
    | none => t
    | some c => pivT n m t r c
def readyC (ez n m f : Nat) (t : Tbl) : Option (Bool × Tbl) :=
  if smallT ez n m t = false then none else
  match wsS t.A (wdt n m) m with
  | none => some (true, t)
  | some w =>
    if t.A w (wdt n m - 1) = 0 then none else
    match climbT ez n m none f (tab n m (pivA (upd t.A m (upd (t.A m) (wdt n m - 1) (-1))) w (wdt n m - 1)) (upd t.b w (wdt n m - 1))) with
    | none => none
    | some (_, t1) => if t1.A m (wdt n m) ≠ 0 then some (false, t1) else some (true, outT n m t1)
def readyT (ez n m f : Nat) (t : Tbl) : Option (Bool × Tbl) := match readyC ez n m f t with
  | none => none
  | some s => if smallT ez n m s.2 = true then some s else none
def allS (A : Mx) (b : Nat → Nat) (wd : Nat) : Nat → Nat → Rat
  | 0 => fun _ => 0
  | i + 1 => upd (allS A b wd i) (b i) (A i wd)
def pointF (n m : Nat) (A : Mx) (b : Nat → Nat) (k : Nat) : Rat := allS A b (wdt n m) m k - allS A b (wdt n m) m (n + k)
def weightF (n m : Nat) (A : Mx) (i : Nat) : Rat := - A m (2 * n + i)
def goalF (n : Nat) (goal : List Rat) (k : Nat) : Rat := if k < n then nth goal k else if k < 2 * n then - nth goal (k - n) else 0
def aimT (ez n m : Nat) (A : Mx) (b : Nat → Nat) (goal : List Rat) : Nat → Option (List Rat)
  | 0 => some ((List.range (wdt n m + 1)).map (goalF n goal))
  | i + 1 => match aimT ez n m A b goal i with
    | none => none
    | some g => if smallL ez g = true then some ((List.range (wdt n m + 1)).map fun k => nth g k - nth g (b i) * A i k) else none
def laidA (n : Nat) (l : List BQ) : Mx := fun j k =>
  if j < l.length then
    if k < n then nth (l.getD j ([], 0)).1 k else if k < 2 * n then - nth (l.getD j ([], 0)).1 (k - n)
    else if k = 2 * n + j then 1 else if k = wdt n l.length - 1 then -1 else if k = wdt n l.length then (l.getD j ([], 0)).2 else 0
  else 0
def laidT (n : Nat) (l : List BQ) : Tbl := tab n l.length (laidA n l) fun i => 2 * n + i
def mostT (ez f n : Nat) (l : List BQ) (goal : List Rat) : Option ((Rat × List Rat × List Rat) ⊕ Nat) :=
  match readyT ez n l.length f (laidT n l) with
  | none => none
  | some (false, _) => some (.inr 6)
  | some (true, t) => match aimT ez n l.length t.A t.b goal l.length with
    | none => none
    | some g => match climbT ez n l.length (some (wdt n l.length - 1)) f (tab n l.length (upd t.A l.length (nth g)) t.b) with
      | none => none
      | some (ok, t2) =>
        let p := (List.range n).map (pointF n l.length t2.A t2.b)
        if smallL ez p = true then (if ok = true then some (.inl (dotP goal p n, p, (List.range l.length).map (weightF n l.length t2.A))) else some (.inr 14)) else none
end M
end Go.Proofs.YtellemlhhlafcaaGreatDoor
end
section
namespace Go.Proofs.YtellemlhhlafcaaGreatDoor
open Go Go.RowKit Go.Deep Go.Sort
theorem infoRat : (Tryz.prog.info? 86).map (fun i => (i.zero, i.size, i.bytes)) = some (some (.string ⟨#[]⟩), 1, 16) := by kernel_rfl
theorem sizeRat : (Tryz.prog.info? 86).map (·.size) = some 1 := by kernel_rfl
theorem make_rt (n : Nat) (h : n ≤ 1000000) (w : World) :
    (Instr.makeSlice 60 (.int .i64 (n : Int)) (.int .i64 (n : Int))).run Tryz.prog w = .ok (.slice (some ⟨w.heap.size, 0, none⟩) n n) (w.alloc (.cells (Strs (List.replicate n [])).toArray 86 (0, 0))) := by
  rw [run_make_row' 60 86 (.string ⟨#[]⟩) 16 Tryz.underlying60 infoRat rfl .i64 .i64 n (by omega) (by omega) w]
  have : madeCells #[Value.string ⟨#[]⟩] n = (Strs (List.replicate n [])).toArray := by
    apply Array.toList_inj.1
    rw [toList_madeCells_one]; simp [Strs, bs]
  rw [this]
def Part0 (k n : Nat) : List Value := Strs (List.replicate k [48] ++ List.replicate (n - k) [])
theorem Part0.len {k n : Nat} (h : k ≤ n) : (Part0 k n).length = n := by simp [Part0, Strs]; omega
theorem Part0.get {k n j : Nat} (h : j < k) : (Part0 k n)[j]? = some (.string (bs [48])) := by
  simp only [Part0, Strs, List.getElem?_map]
  rw [List.getElem?_append_left (by simpa using h)]; simp [h]
theorem Part0.put {k c n : Nat} (h : k + c ≤ n) : (Part0 k n).take k ++ List.replicate c (.string (bs [48])) ++ (Part0 k n).drop (k + c) = Part0 (k + c) n := by
  have e1 : (Part0 k n).take k = List.replicate k (.string (bs [48])) := by simp [Part0, Strs]
  have e2 : (Part0 k n).drop (k + c) = List.replicate (n - (k + c)) (.string (bs [])) := by
    simp only [Part0, Strs, List.map_append, List.map_replicate]
    rw [List.drop_append, List.drop_eq_nil_of_le (by simp), List.nil_append, List.drop_replicate, List.length_replicate]
    congr 1; omega
  rw [e1, e2]
  simp only [Part0, Strs, List.map_append, List.map_replicate, List.replicate_append_replicate]
theorem copy_rt {w : World} {g a o k c n sCap : Nat} (h : Row w g 86 (Part0 k n)) (dLen dCap sLen : Nat) (hc : c = Nat.min sLen dLen) (hk : k + c ≤ n) (hs : ∀ j, j < c → w.cell? ⟨a, o + j, none⟩ = some (.string (bs [48]))) :
    ∃ wx, (∀ ty, (Builtin.copy_ #[60, 60] ty #[.slice (some ⟨g, k, none⟩) dLen dCap, .slice (some ⟨a, o, none⟩) sLen sCap]).run Tryz.prog w = .ok (goInt c) wx)
      ∧ Row wx g 86 (Part0 (k + c) n) ∧ (∀ B, B ≤ g → Below B w wx) := by
  refine ⟨w.setRow g (Part0 (k + c) n).toArray, fun ty => ?_, by simpa using h.setRow (Part0 (k + c) n).toArray, fun B hB => Below.setRow (RowKit.Below.refl B w) hB _⟩
  have := run_copy_row (P := Tryz.prog) w 60 60 ty 86 g k dLen dCap ⟨a, o, none⟩ sLen sCap (Part0 k n).toArray 86 (List.replicate c (.string (bs [48]))) Tryz.underlying60 sizeRat h (by rw [List.length_replicate]; exact hc) (by
    intro j v hj
    have hjc : j < c := by
      rcases Nat.lt_or_ge j c with h2 | h2
      · exact h2
      · rw [List.getElem?_eq_none (by rw [List.length_replicate]; exact h2)] at hj; cases hj
    rw [List.getElem?_replicate, if_pos hjc] at hj
    have hadd : (⟨a, o, none⟩ : Addr).add j = ⟨a, o + j, none⟩ := by unfold Addr.add; split <;> simp_all
    rw [hadd, hs j hjc, hj]) (by rw [List.length_replicate]; simp [Part0.len (show k ≤ n by omega)]; exact hk) (fun v hv => by rw [List.eq_of_mem_replicate hv]; rfl)
  rw [this, List.length_replicate]
  simp only [Part0.put hk]
namespace W
open M
attribute [local go_sem] bs_size bs_toList bs_get bs_extract bs_append bs_lit0 bs_lit1 lit1_bs
set_option maxHeartbeats 1000000
set_option maxRecDepth 20000
theorem pmul64 (x y : Nat) (hx : x < 18446744073709551616) (hy : y < 18446744073709551616) (w : World) :
    Calls Tryz.prog 225 #[.int .u64 x, .int .u64 y] w fun e w' => e = .returned (.tuple #[.int .u64 ((x * y / 18446744073709551616 : Nat) : Int), .int .u64 ((x * y % 18446744073709551616 : Nat) : Int)]) ∧ w' = w := by
  obtain ⟨bd, bt, bw, hhi⟩ := Lib.mul64_hi x y hx hy
  have ba := Lib.half_mul_le (a := x / 4294967296) (b := y / 4294967296) (by omega) (by omega)
  have bb := Lib.half_mul_le (a := x / 4294967296) (b := y % 4294967296) (by omega) (by omega)
  have bc := Lib.half_mul_le (a := x % 4294967296) (b := y / 4294967296) (by omega) (by omega)
  have ba' : x / 4294967296 * (y / 4294967296) < 18446744073709551616 := by omega
  have bb' : x / 4294967296 * (y % 4294967296) < 18446744073709551616 := by omega
  have bc' : x % 4294967296 * (y / 4294967296) < 18446744073709551616 := by omega
  have bh1 : x / 4294967296 * (y / 4294967296) + (x / 4294967296 * (y % 4294967296) + x % 4294967296 * (y % 4294967296) / 4294967296) / 4294967296 < 18446744073709551616 := by omega
  have bh : x / 4294967296 * (y / 4294967296) + (x / 4294967296 * (y % 4294967296) + x % 4294967296 * (y % 4294967296) / 4294967296) / 4294967296 + ((x / 4294967296 * (y % 4294967296) + x % 4294967296 * (y % 4294967296) / 4294967296) % 4294967296 + x % 4294967296 * (y / 4294967296)) / 4294967296 < 18446744073709551616 := by omega
  go_enter Tryz.func225, Tryz.ntmps225
  go_wp2
  simp only [Mul64.maskN x hx, Mul64.maskN y hy, Mul64.divN, Mul64.mulN, Mul64.addN, Mul64.wrapN _ bd, Mul64.wrapN _ bb', Mul64.wrapN _ bt, Mul64.maskN _ bt, Mul64.wrapN _ bc', Mul64.wrapN _ bw, Mul64.wrapN _ ba', Mul64.wrapN _ bh1, Mul64.wrapN _ bh, Mul64.wrapM (x * y)]
  rw [hhi]
  go_ret2
  exact ⟨rfl, rfl⟩
theorem pmul (x y : Nat) (hx : x < 18446744073709551616) (hy : y < 18446744073709551616) (w : World) :
    Calls Tryz.prog 195 #[.int .u64 x, .int .u64 y] w fun e w' => e = .returned (.tuple #[.int .u64 ((x * y / 18446744073709551616 : Nat) : Int), .int .u64 ((x * y % 18446744073709551616 : Nat) : Int)]) ∧ w = w' := by
  have H := Lib.hid (pmul64 x y hx hy w)
  go_enter Tryz.func195, Tryz.ntmps195
  go_wp2_with fail
  refine (H.out).mono ?_
  rintro e w' ⟨rfl, rfl⟩
  go_wp2
  go_ret2
  exact ⟨rfl, rfl⟩
theorem prepeat (gx cx n : Nat) (w : World) (hx : w.cell? ⟨gx, 0, none⟩ = some (.string (bs [48]))) (hn1 : 1 ≤ n) (hn : n ≤ 1000000) :
    Calls Tryz.prog 149 #[.slice (some ⟨gx, 0, none⟩) 1 cx, .int .i64 (n : Int)] w fun e w' => ∃ g, e = .returned (.slice (some ⟨g, 0, none⟩) n n) ∧ w.heap.size ≤ g ∧ Row w' g 86 (Part0 n n) ∧ Below w.heap.size w w' := by
  have HM := Lib.hid (fun w => pmul 1 n (by omega) (by omega) w)
  rw [show 1 * n / 18446744073709551616 = 0 by omega, show 1 * n % 18446744073709551616 = n by omega] at HM
  have hmk := make_rt n hn
  have hr0 : Row (w.alloc (.cells (Strs (List.replicate n [])).toArray 86 (0, 0))) w.heap.size 86 (Part0 0 n) := by
    have := Row.new w 86 (Strs (List.replicate n []))
    simpa [Part0] using this
  have hb0 : Below w.heap.size w (w.alloc (.cells (Strs (List.replicate n [])).toArray 86 (0, 0))) := (Below.refl _ _).alloc (Nat.le_refl _) _
  obtain ⟨wx, hcp, hrx, hbx⟩ := copy_rt (w := w.alloc (.cells (Strs (List.replicate n [])).toArray 86 (0, 0))) (a := gx) (o := 0) (c := 1) (sCap := cx) hr0 n n 1 (by show 1 = min 1 n; omega) (by omega) (fun j hj => by
    obtain rfl : j = 0 := by omega
    exact (hb0.cell (p := ⟨gx, 0, none⟩) (block_lt_of_cell hx)).trans hx)
  have hw1 : IntKind.u64.wrap (n : Int) = (n : Int) := by rw [IntKind.wrap_u64]; omega
  have hw2 : IntKind.i64.wrap (n : Int) = (n : Int) := IntWalk.i64_in _ (by omega)
  have hw3 : decide ((9223372036854775807 : Int) < (n : Int)) = false := decide_eq_false (by omega)
  have HR := Lib.hid (And.intro hrx (hb0.trans (hbx _ (Nat.le_refl _))))
  clear hr0 hb0 hrx hbx hx
  go_enter Tryz.func149, Tryz.ntmps149
  go_wp2_with fail
  refine ((HM.out _)).mono ?_
  rintro e w' ⟨rfl, rfl⟩
  go_wp2
  clear hmk hcp hw1 hw2 hw3 HM
  go_loopw [8] (fun iv wr => ∃ k : Nat, iv = .int .i64 (k : Int) ∧ 1 ≤ k ∧ k ≤ n ∧ Hid (Row wr w.heap.size 86 (Part0 k n) ∧ Below w.heap.size w wr)) (fun iv _ => n - (intOf iv).toNat)
  case atStart => exact ⟨1, rfl, by omega, hn1, by rw [Nat.zero_add] at HR; exact HR⟩
  case round =>
    clear HR
    obtain ⟨k, rfl, hk1, hkn, hin⟩ := hrel
    by_cases hlt : k < n
    · have hrd : Row wr.drew w.heap.size 86 (Part0 k n) := hin.out.1
      obtain ⟨wy, hcp, hry, hby⟩ := copy_rt (a := w.heap.size) (o := 0) (c := min k (n - k)) (sCap := n) hrd (n - k) (n - k) k rfl (by omega) (fun j hj => hin.out.1.cell (by rw [Nat.zero_add]; exact Part0.get (by omega)))
      have HR := Lib.hid (And.intro hry (And.intro (hin.out.2.trans (RowKit.Below.drew (Below.refl _ _))) (hby _ (Nat.le_refl _))))
      clear hry hby hrd hin
      go_wp2_with fail
      go_region
      go_wp2
      go_roundw
      case rel => exact ⟨k + min k (n - k), by go_num, by omega, by omega, Lib.hid ⟨HR.out.1, HR.out.2.1.trans HR.out.2.2⟩⟩
      case measure => simp [intOf]; omega
    · obtain rfl : n = k := by omega
      go_wp2
      go_ret
      exact ⟨_, rfl, Nat.le_refl _, hin.out.1, hin.out.2⟩
end W
end Go.Proofs.YtellemlhhlafcaaGreatDoor
end
section
namespace Go.Proofs.YtellemlhhlafcaaGreatDoor
open Go Go.RowKit Go.Deep Go.Sort
def Kp (h : Nat → Nat) (m : Nat) (w w' : World) : Prop := w.heap.size ≤ w'.heap.size ∧ ∀ x, x < w.heap.size → (∀ j, j ≤ m → x ≠ h j) → w'.heap[x]? = w.heap[x]?
theorem Kp.refl (h : Nat → Nat) (m : Nat) (w : World) : Kp h m w w := ⟨Nat.le_refl _, fun _ _ _ => rfl⟩
theorem Kp.trans {h : Nat → Nat} {m : Nat} {u v w : World} (h1 : Kp h m u v) (h2 : Kp h m v w) : Kp h m u w :=
  ⟨Nat.le_trans h1.1 h2.1, fun x hx hn => (h2.2 x (Nat.lt_of_lt_of_le hx h1.1) hn).trans (h1.2 x hx hn)⟩
theorem Kp.bel {h : Nat → Nat} {m : Nat} {u v : World} (hb : Below u.heap.size u v) : Kp h m u v := ⟨hb.size, fun x hx _ => hb.block x hx⟩
theorem Kp.set {h : Nat → Nat} {m : Nat} {u v : World} (h1 : Kp h m u v) {j : Nat} (hj : j ≤ m) (k : Nat) (q : Value) : Kp h m u (v.setCell ⟨h j, k, none⟩ q) :=
  ⟨by
    have := h1.1
    show _ ≤ (v.heap.modify _ _).size
    simp; exact this, fun x hx hn => (Below.heap_setCell _ _ _ _ (hn j hj)).trans (h1.2 x hx hn)⟩
theorem Pre.kp {h : Nat → Nat} {m : Nat} {u v : World} {x : Nat} {t : TypeId} {xs : List Value} (hp : Pre u x t xs) (hk : Kp h m u v) (hn : ∀ j, j ≤ m → x ≠ h j) : Pre v x t xs := by
  have hl := hp.lt
  obtain ⟨sp, hp⟩ := hp
  exact ⟨sp, (hk.2 x hl hn).trans hp⟩
namespace M
theorem upd_mix (A : Mx) (f G : Nat → Rat) (j k : Nat) : upd (upd A j (mix f G k)) j (upd ((upd A j (mix f G k)) j) k (G k)) = upd A j (mix f G (k + 1)) := by
  funext i
  by_cases e : i = j
  · subst e
    rw [upd_same, upd_same, upd_same]
    funext x
    by_cases e2 : x = k
    · subst e2; rw [upd_same]; simp [mix]
    · rw [upd_other _ e2]; unfold mix
      by_cases h3 : x < k
      · rw [if_pos h3, if_pos (by omega)]
      · rw [if_neg h3, if_neg (by omega)]
  · rw [upd_other _ e, upd_other _ e, upd_other _ e]
theorem upd_self (A : Mx) (j : Nat) : upd A j (A j) = A := by
  funext i
  by_cases e : i = j
  · subst e; rw [upd_same]
  · rw [upd_other _ e]
theorem mix_lt {f G : Nat → Rat} {k x : Nat} (h : x < k) : mix f G k x = G x := by unfold mix; rw [if_pos h]
theorem mix_ge {f G : Nat → Rat} {k x : Nat} (h : k ≤ x) : mix f G k x = f x := by unfold mix; rw [if_neg (by omega)]
end M
namespace W
open M
attribute [local go_sem] bs_size bs_toList bs_get bs_extract bs_append bs_lit0 bs_lit1 lit1_bs
set_option maxHeartbeats 1000000
set_option maxRecDepth 20000
section
variable {w : World} {B p S gr gb cr cb : Nat} {h : Nat → Nat} {n m : Nat} {A : Mx} {b : Nat → Nat}
theorem pwidth (t : TabS w B p S gr gb cr cb h n m A b) : Calls Tryz.prog 110 #[.pointer (some ⟨p, 0, none⟩)] w (Ret w (.int .i64 ((wdt n m : Nat) : Int))) := by
  have c1 := t.c1
  have c2 := t.c2
  have hn := t.hn
  have hm := t.hm
  have hw1 : IntKind.i64.wrap (2 * (n : Int)) = 2 * (n : Int) := IntWalk.i64_in _ (by omega)
  have hw2 : IntKind.i64.wrap (2 * (n : Int) + (m : Int)) = 2 * (n : Int) + (m : Int) := IntWalk.i64_in _ (by omega)
  have hw3 : IntKind.i64.wrap (2 * (n : Int) + (m : Int) + 1) = ((wdt n m : Nat) : Int) := by rw [IntWalk.i64_in _ (by omega)]; unfold wdt; omega
  clear t hn hm
  go_enter Tryz.func110, Tryz.ntmps110
  go_wp2
  go_quiet (fail)
  go_wp2
  go_ret
  exact Ret.of rfl (Below.drewN (Below.refl _ _) _)
theorem pdrop (t : TabS w B p S gr gb cr cb h n m A b) (xc xt xr j r c e1 e2 : Nat)
    (hc : Pre w xc 3 [.int .i64 (c : Int)]) (ht : Pre w xt 199 [.pointer (some ⟨p, 0, none⟩)]) (hr : Pre w xr 3 [.int .i64 (r : Int)])
    (nc : ∀ j, j ≤ m → xc ≠ h j) (nt : ∀ j, j ≤ m → xt ≠ h j) (nr : ∀ j, j ≤ m → xr ≠ h j)
    (hj : j ≤ m) (hrm : r < m) (hjr : j ≠ r) (hcw : c ≤ wdt n m)
    (b1 : ∀ k, k ≤ wdt n m → Bq e1 (A j k)) (b2 : ∀ k, k ≤ wdt n m → Bq e2 (A r k)) (hb : e1 + (e1 + e2) + 1 ≤ 1024) :
    Calls Tryz.prog 198 #[.slice (some ⟨h j, 0, none⟩) (wdt n m + 1) (wdt n m + 1), .pointer (some ⟨xc, 0, none⟩), .pointer (some ⟨xt, 0, none⟩), .pointer (some ⟨xr, 0, none⟩)] w fun e w' =>
      e = .returned (.tuple #[]) ∧ TabS w' B p S gr gb cr cb h n m (upd A j fun k => A j k - A j c * A r k) b ∧ Below B w w' ∧ Kp h m w w' := by
  obtain ⟨L, hL⟩ : ∃ L, L = wdt n m + 1 := ⟨_, rfl⟩
  have hLs : L ≤ 100000 := by have := t.hn; have := t.hm; rw [hL]; unfold wdt; omega
  obtain ⟨G, hG⟩ : ∃ G : Nat → Rat, G = fun k => A j k - A j c * A r k := ⟨_, rfl⟩
  rw [← hL, ← hG]
  have HI := Lib.hid (fun W k (hk : k < L) (hT : TabS W B p S gr gb cr cb h n m (upd A j (mix (A j) G k)) b) => (by
    have e : G k = A j k - A j c * A r k := by rw [hG]
    rw [e]
    exact psless S (A j k) (A j c) (A r k) e1 e1 e2 W hT.gl hT.err (b1 k (by omega)) (b1 c hcw) (b2 k (by omega)) hb : Calls Tryz.prog 155 #[.pointer (some ⟨S, 0, none⟩), .string (bs (R (A j k))), .string (bs (R (A j c))), .string (bs (R (A r k)))] W (Ret W (.string (bs (R (G k)))))))
  have HT0 : Hid (TabS w B p S gr gb cr cb h n m (upd A j (mix (A j) G 0)) b ∧ Below B w w ∧ Kp h m w w) := Lib.hid ⟨by rw [mix_zero, upd_self]; exact t, Below.refl _ _, Kp.refl _ _ _⟩
  have HC := Lib.hid (fun W (hW : Kp h m w W) => And.intro ((hc.kp hW nc).cell (i := 0) rfl) (And.intro ((ht.kp hW nt).cell (i := 0) rfl) ((hr.kp hW nr).cell (i := 0) rfl)))
  have HA := Lib.hid (fun W k (hk : k < L) (hT : TabS W B p S gr gb cr cb h n m (upd A j (mix (A j) G k)) b) => (by
    have e1 := hT.ce hj (show k ≤ wdt n m by omega)
    rw [upd_same, mix_ge (Nat.le_refl k)] at e1
    have e2 := hT.ce (show r ≤ m by omega) (show k ≤ wdt n m by omega)
    rw [upd_other _ (fun e => hjr e.symm)] at e2
    have e3 := hT.crow hrm
    rw [← hL] at e3
    exact ⟨hT.c0, hT.c3, e3, e1, e2⟩ : W.cell? ⟨p, 0, none⟩ = some (.pointer (some ⟨S, 0, none⟩)) ∧ W.cell? ⟨p, 3, none⟩ = some (.slice (some ⟨gr, 0, none⟩) m cr) ∧ W.cell? ⟨gr, r, none⟩ = some (.slice (some ⟨h r, 0, none⟩) L L) ∧ W.cell? ⟨h j, k, none⟩ = some (.string (bs (R (A j k)))) ∧ W.cell? ⟨h r, k, none⟩ = some (.string (bs (R (A r k))))))
  have HS := Lib.hid (fun W k (hk : k < L) (hT : TabS W B p S gr gb cr cb h n m (upd A j (mix (A j) G k)) b ∧ Below B w W ∧ Kp h m w W) => (by
    have h2 := hT.1.setA hj (show k ≤ wdt n m by omega) (G k)
    rw [upd_mix] at h2
    exact ⟨h2, hT.1.belowA hT.2.1 hj k _, hT.2.2.set hj k _⟩ : TabS (W.setCell ⟨h j, k, none⟩ (.string (bs (R (G k))))) B p S gr gb cr cb h n m (upd A j (mix (A j) G (k + 1))) b ∧ Below B w (W.setCell ⟨h j, k, none⟩ (.string (bs (R (G k))))) ∧ Kp h m w (W.setCell ⟨h j, k, none⟩ (.string (bs (R (G k)))))))
  have HE := Lib.hid (fun W (hT : TabS W B p S gr gb cr cb h n m (upd A j (mix (A j) G L)) b) => (hT.congr (fun i hi k hk => by
    by_cases e : i = j
    · subst e; rw [upd_same, upd_same, mix_lt (by omega)]
    · rw [upd_other _ e, upd_other _ e]) (fun _ _ => rfl) : TabS W B p S gr gb cr cb h n m (upd A j G) b))
  have HF := Lib.hid (fun W k (hT : TabS W B p S gr gb cr cb h n m (upd A j (mix (A j) G k)) b) => hT.fe hj k)
  have cx := t.ce hj hcw
  obtain ⟨cc, ct, cR⟩ := HC.out w (Kp.refl _ _ _)
  have hcl : (c : Int) < (L : Int) := by omega
  have hc0 : (0 : Int) ≤ (c : Int) := by omega
  have hrs : (r : Int) < (m : Int) := by omega
  have hr0 : (0 : Int) ≤ (r : Int) := by omega
  clear t hc ht hr nc nt nr b1 b2 hb hL hG
  go_enter Tryz.func198, Tryz.ntmps198
  go_wp2
  go_loopw [13] (fun iv wr => ∃ k : Nat, iv = .int .i64 (k : Int) ∧ k ≤ L ∧ Hid (TabS wr B p S gr gb cr cb h n m (upd A j (mix (A j) G k)) b ∧ Below B w wr ∧ Kp h m w wr)) (fun iv _ => L - (intOf iv).toNat)
  case atStart => exact ⟨0, rfl, by omega, HT0⟩
  case round =>
    clear HT0 cx cc ct cR
    obtain ⟨k, rfl, hk, hin⟩ := hrel
    by_cases hlt : k < L
    · obtain ⟨cc, ct, cR⟩ := HC.out wr hin.out.2.2
      obtain ⟨c0, c3, c4, c5, c6⟩ := HA.out wr k hlt hin.out.1
      have k1 := reg_of (w := wr) (fun W hW => HI.out W k hlt (hin.out.1.below' hW))
      have m0 := cell_regrown c0
      have m3 := cell_regrown c3
      have m4 := cell_regrown c4
      have m5 := cell_regrown c5
      have m6 := cell_regrown c6
      have mt := cell_regrown ct
      have mr := cell_regrown cR
      have e1 : ∀ args w, (callFunc 155 args).run Tryz.prog w = .ok (.enter 155 args) w := enters_of Tryz.func155 (by kernel_rfl) rfl
      have hk0 : (0 : Int) ≤ (k : Int) := by omega
      have hks : (k : Int) < (L : Int) := by omega
      have HSW := Lib.hid (HS.out · k hlt)
      have HFW := Lib.hid (HF.out · k)
      clear c0 c3 c4 c5 c6 cc ct cR
      go_wp2_with fail
      refine region_below_tail 22 (by kernel_rfl) (by kernel_rfl) ?_
      simp only [List.take_succ_cons, List.take_zero, List.drop_succ_cons, List.drop_zero]
      repeat (go_big_quiet_step (fail))
      go_big_quiet_step (exact k1 _ _)
      repeat (go_big_quiet_step (fail))
      refine wpQuiet_nil ?_
      intro W6 hw'
      have hb6 : Below wr.heap.size wr W6 := by obtain ⟨p, e⟩ := hw'; rw [e]; exact below_regrown wr p.d p.os
      have HT6 : Hid (TabS W6 B p S gr gb cr cb h n m (upd A j (mix (A j) G k)) b ∧ Below B w W6 ∧ Kp h m w W6) := Lib.hid ⟨hin.out.1.below' hb6, hin.out.2.1.trans (hb6.mono (by have := (hin.out.1.mat j hj).lt; have := hin.out.1.lowh j hj; omega)), hin.out.2.2.trans (Kp.bel hb6)⟩
      clear k1 m0 m3 m4 m5 m6 mt mr e1 hw' hb6
      have fz := HFW.out W6 HT6.out.1
      have fc := (HA.out W6 k hlt HT6.out.1).2.2.2.1
      go_wp2
      go_roundw
      case rel => exact ⟨k + 1, by go_num, hlt, Lib.hid (HSW.out W6 HT6.out)⟩
      case measure => simp [intOf]; omega
    · obtain rfl : L = k := by omega
      have HX := Lib.hid (And.intro (HE.out wr hin.out.1) hin.out.2)
      clear hin
      go_wp2
      go_end0
      exact ⟨rfl, HX.out.1, HX.out.2.1, HX.out.2.2⟩
end
end W
end Go.Proofs.YtellemlhhlafcaaGreatDoor
end
section
namespace Go.Proofs.YtellemlhhlafcaaGreatDoor
open Go Go.RowKit Go.Deep Go.Sort
namespace M
theorem Bq.div {a b : Rat} {j k : Nat} (ha : Bq j a) (hb : Bq k b) (h0 : b ≠ 0) : Bq (j + k) (a / b) := by
  rw [← W.div_div]
  have hn0 : b.num ≠ 0 := fun e => h0 (Rat.num_eq_zero.1 e)
  exact Bq_div (Int.mul_ne_zero (by have := a.den_pos; omega) hn0) (mul_pow ha.1 (den_abs hb)) (mul_pow (den_abs ha) hb.1)
def dropA (A : Mx) (r c i : Nat) : Mx := fun j => if j < i ∧ j ≠ r then fun k => A j k - A j c * A r k else A j
theorem dropA_zero (A : Mx) (r c : Nat) : dropA A r c 0 = A := by funext j; simp [dropA]
theorem dropA_r (A : Mx) (r c i : Nat) : dropA A r c i r = A r := by simp [dropA]
theorem dropA_ge (A : Mx) (r c : Nat) {i j : Nat} (h : i ≤ j) : dropA A r c i j = A j := by unfold dropA; rw [if_neg (by omega)]
theorem dropA_step (A : Mx) (r c : Nat) {i : Nat} (h : i ≠ r) : upd (dropA A r c i) i (fun k => dropA A r c i i k - dropA A r c i i c * dropA A r c i r k) = dropA A r c (i + 1) := by
  funext j
  by_cases e : j = i
  · subst e
    rw [upd_same, dropA_r, dropA_ge _ _ _ (Nat.le_refl j)]
    unfold dropA
    rw [if_pos ⟨by omega, h⟩]
  · rw [upd_other _ e]
    unfold dropA
    by_cases h2 : j < i ∧ j ≠ r
    · rw [if_pos h2, if_pos ⟨by omega, h2.2⟩]
    · rw [if_neg h2, if_neg (by omega)]
theorem dropA_skip (A : Mx) (r c : Nat) (i : Nat) (h : i = r ∨ A i c = 0) (j k : Nat) : dropA A r c i j k = dropA A r c (i + 1) j k := by
  unfold dropA
  by_cases h2 : j < i ∧ j ≠ r
  · rw [if_pos h2, if_pos ⟨by omega, h2.2⟩]
  · rw [if_neg h2]
    by_cases h3 : j < i + 1 ∧ j ≠ r
    · rw [if_pos h3]
      have : j = i := by omega
      subst this
      rcases h with h | h
      · exact absurd h h3.2
      · rw [h]; grind
    · rw [if_neg h3]
theorem pivA_of (A : Mx) (r c m : Nat) (hr : r < m) (h0 : A r c ≠ 0) (j k : Nat) (hj : j ≤ m) :
    upd (dropA (upd A r fun k => A r k / A r c) r c m) m (fun k => dropA (upd A r fun k => A r k / A r c) r c m m k - dropA (upd A r fun k => A r k / A r c) r c m m c * dropA (upd A r fun k => A r k / A r c) r c m r k) j k = pivA A r c j k := by
  rw [dropA_step _ _ _ (by omega)]
  unfold dropA pivA
  by_cases e : j = r
  · subst e
    rw [if_neg (by simp), if_pos rfl, upd_same]
  · rw [if_pos ⟨by omega, e⟩, if_neg e, upd_other _ e, upd_same]
end M
namespace W
open M
attribute [local go_sem] bs_size bs_toList bs_get bs_extract bs_append bs_lit0 bs_lit1 lit1_bs
set_option maxHeartbeats 2000000
set_option maxRecDepth 20000
section
variable {w : World} {B p S gr gb cr cb : Nat} {h : Nat → Nat} {n m : Nat} {A : Mx} {b : Nat → Nat}
theorem TabS.size (t : TabS w B p S gr gb cr cb h n m A b) : B ≤ w.heap.size := Nat.le_trans t.lowp (Nat.le_of_lt t.tab.lt)
theorem TabS.hlt (t : TabS w B p S gr gb cr cb h n m A b) {j : Nat} (hj : j ≤ m) : h j < w.heap.size := (t.mat j hj).lt
theorem ppivot (t : TabS w B p S gr gb cr cb h n m A b) (r c e : Nat) (hrm : r < m) (hcw : c < wdt n m)
    (hA : ∀ j, j ≤ m → ∀ k, k ≤ wdt n m → Bq e (A j k)) (he : e ≤ 210) (h0 : A r c ≠ 0) :
    Calls Tryz.prog 153 #[.pointer (some ⟨p, 0, none⟩), .int .i64 (r : Int), .int .i64 (c : Int)] w fun ee w' =>
      ee = .returned (.tuple #[]) ∧ TabS w' B p S gr gb cr cb h n m (pivA A r c) (upd b r c) ∧ Below B w w' := by
  obtain ⟨L, hL⟩ : ∃ L, L = wdt n m + 1 := ⟨_, rfl⟩
  have hLs : L ≤ 100000 := by have := t.hn; have := t.hm; rw [hL]; unfold wdt; omega
  obtain ⟨Q, hQ⟩ : ∃ Q : Nat → Rat, Q = fun k => A r k / A r c := ⟨_, rfl⟩
  have hms := t.hm
  -- the world with the three boxes
  obtain ⟨W0, hW0⟩ : ∃ W0, W0 = ((w.alloc (.cells #[.pointer (some ⟨p, 0, none⟩)] 199 (0, 0))).alloc (.cells #[.int .i64 (r : Int)] 3 (0, 0))).alloc (.cells #[.int .i64 (c : Int)] 3 (0, 0)) := ⟨_, rfl⟩
  have hb0 : Below w.heap.size w W0 := by rw [hW0]; exact (((Below.refl _ _).alloc (Nat.le_refl _) _).alloc (by simp) _).alloc (by simp only [World.size_alloc]; omega) _
  have p0 : Pre W0 w.heap.size 199 [.pointer (some ⟨p, 0, none⟩)] := by
    rw [hW0]; exact ((Pre.of (Row.new w 199 [.pointer (some ⟨p, 0, none⟩)])).alloc _).alloc _
  have p1 : Pre W0 (w.heap.size + 1) 3 [.int .i64 (r : Int)] := by
    have := (Pre.of (Row.new (w.alloc (.cells #[.pointer (some ⟨p, 0, none⟩)] 199 (0, 0))) 3 [.int .i64 (r : Int)])).alloc (.cells #[.int .i64 (c : Int)] 3 (0, 0))
    rw [World.size_alloc] at this
    rw [hW0]; exact this
  have p2 : Pre W0 (w.heap.size + 1 + 1) 3 [.int .i64 (c : Int)] := by
    have := Pre.of (Row.new ((w.alloc (.cells #[.pointer (some ⟨p, 0, none⟩)] 199 (0, 0))).alloc (.cells #[.int .i64 (r : Int)] 3 (0, 0))) 3 [.int .i64 (c : Int)])
    rw [World.size_alloc, World.size_alloc] at this
    rw [hW0]; exact this
  have nx : ∀ d j, j ≤ m → w.heap.size + d ≠ h j := fun d j hj => by have := (t.mat j hj).lt; omega
  have HP := Lib.hid (fun W (hW : Kp h m W0 W) => And.intro (p0.kp hW (nx 0)) (And.intro (p1.kp hW (nx 1)) (p2.kp hW (nx 2))))
  have HC := Lib.hid (fun W (hW : Kp h m W0 W) => And.intro ((p0.kp hW (nx 0)).cell (i := 0) rfl) (And.intro ((p1.kp hW (nx 1)).cell (i := 0) rfl) ((p2.kp hW (nx 2)).cell (i := 0) rfl)))
  have t0 := t.below' hb0
  have hBw : B ≤ w.heap.size := Nat.le_trans t.lowp (Nat.le_of_lt t.tab.lt)
  have HT0 : Hid (TabS W0 B p S gr gb cr cb h n m (upd A r (mix (A r) Q 0)) b ∧ Below B w W0 ∧ Kp h m W0 W0) := Lib.hid ⟨by rw [mix_zero, upd_self]; exact t0, hb0.mono hBw, Kp.refl _ _ _⟩
  -- loop 1
  have HA := Lib.hid (fun W k (hk : k < L) (hT : TabS W B p S gr gb cr cb h n m (upd A r (mix (A r) Q k)) b) => (by
    have e1 := hT.ce (show r ≤ m by omega) (show k ≤ wdt n m by omega)
    rw [upd_same, mix_ge (Nat.le_refl k)] at e1
    have e3 := hT.crow hrm
    rw [← hL] at e3
    exact ⟨hT.c0, hT.c3, e3, e1⟩ : W.cell? ⟨p, 0, none⟩ = some (.pointer (some ⟨S, 0, none⟩)) ∧ W.cell? ⟨p, 3, none⟩ = some (.slice (some ⟨gr, 0, none⟩) m cr) ∧ W.cell? ⟨gr, r, none⟩ = some (.slice (some ⟨h r, 0, none⟩) L L) ∧ W.cell? ⟨h r, k, none⟩ = some (.string (bs (R (A r k))))))
  have HZ := Lib.hid (fun W k (_ : k < L) (h0 : A r k = 0) (hT : TabS W B p S gr gb cr cb h n m (upd A r (mix (A r) Q k)) b) => (hT.congr (fun i hi x hx => by
    by_cases e : i = r
    · subst e; rw [upd_same, upd_same]
      by_cases e2 : x = k
      · subst e2; rw [mix_ge (Nat.le_refl x), mix_lt (by omega), hQ, h0]; simp only; grind
      · by_cases e3 : x < k
        · rw [mix_lt e3, mix_lt (by omega)]
        · rw [mix_ge (by omega), mix_ge (by omega)]
    · rw [upd_other _ e, upd_other _ e]) (fun _ _ => rfl) : TabS W B p S gr gb cr cb h n m (upd A r (mix (A r) Q (k + 1))) b))
  have HD := Lib.hid (fun W k (hk : k < L) (hG : Glob W) => (by
    have e2 : Q k = A r k / A r c := by rw [hQ]
    rw [e2]
    exact ratDiv (A r k) (A r c) e e W hG (hA r (by omega) k (by omega)) (hA r (by omega) c (by omega)) h0 (by omega) : Calls Tryz.prog 197 #[.string (bs (R (A r k))), .string (bs (R (A r c)))] W (Ret W (.tuple #[.string (bs (R (Q k))), .int .i64 0]))))
  have HO := Lib.hid (fun W k (hT : TabS W B p S gr gb cr cb h n m (upd A r (mix (A r) Q k)) b) => psof S (R (Q k)) W hT.err)
  have HS := Lib.hid (fun W k (hk : k < L) (hT : TabS W B p S gr gb cr cb h n m (upd A r (mix (A r) Q k)) b ∧ Below B w W ∧ Kp h m W0 W) => (by
    have h2 := hT.1.setA (show r ≤ m by omega) (show k ≤ wdt n m by omega) (Q k)
    rw [upd_mix] at h2
    exact ⟨h2, hT.1.belowA hT.2.1 (by omega) k _, hT.2.2.set (by omega) k _⟩ : TabS (W.setCell ⟨h r, k, none⟩ (.string (bs (R (Q k))))) B p S gr gb cr cb h n m (upd A r (mix (A r) Q (k + 1))) b ∧ Below B w (W.setCell ⟨h r, k, none⟩ (.string (bs (R (Q k))))) ∧ Kp h m W0 (W.setCell ⟨h r, k, none⟩ (.string (bs (R (Q k)))))))
  have HF := Lib.hid (fun W k (hT : TabS W B p S gr gb cr cb h n m (upd A r (mix (A r) Q k)) b) => hT.fe (show r ≤ m by omega) k)
  -- loop 2
  have HE := Lib.hid (fun W (hT : TabS W B p S gr gb cr cb h n m (upd A r (mix (A r) Q L)) b) => (hT.congr (fun i hi k hk => by
    rw [dropA_zero]
    by_cases e : i = r
    · subst e; rw [upd_same, upd_same, mix_lt (by omega)]
    · rw [upd_other _ e, upd_other _ e]) (fun _ _ => rfl) : TabS W B p S gr gb cr cb h n m (dropA (upd A r Q) r c 0) b))
  have bQ : ∀ k, k ≤ wdt n m → Bq (e + e) (Q k) := fun k hk => by
    rw [hQ]; exact Bq.div (hA r (by omega) k hk) (hA r (by omega) c (by omega)) h0
  have HDR := Lib.hid (fun W i j (hij : i ≤ j) (hj : j ≤ m) (hjr : j ≠ r) (hK : Kp h m W0 W) (hT : TabS W B p S gr gb cr cb h n m (dropA (upd A r Q) r c i) b) => pdrop hT (w.heap.size + 1 + 1) w.heap.size (w.heap.size + 1) j r c e (e + e) (HP.out W hK).2.2 (HP.out W hK).1 (HP.out W hK).2.1 (nx 2) (nx 0) (nx 1) hj hrm hjr (by omega)
    (fun k hk => by rw [dropA_ge _ _ _ hij, upd_other _ hjr]; exact hA j hj k hk) (fun k hk => by rw [dropA_r, upd_same]; exact bQ k hk) (by omega))
  rw [← hL] at HDR
  have HFN := Lib.hid (fun W (hK : Kp h m W0 W ∧ Below B w W) (hT : TabS W B p S gr gb cr cb h n m (upd (dropA (upd A r Q) r c m) m fun k => dropA (upd A r Q) r c m m k - dropA (upd A r Q) r c m m c * dropA (upd A r Q) r c m r k) b) => (by
    have h2 := hT.setB hrm hcw
    exact ⟨(TabS.congr h2 (fun j hj k _ => by rw [hQ]; exact pivA_of A r c m hrm h0 j k hj) (fun _ _ => rfl)), hT.belowB hK.2 r _⟩ : TabS (W.setCell ⟨gb, r, none⟩ (.int .i64 (c : Int))) B p S gr gb cr cb h n m (pivA A r c) (upd b r c) ∧ Below B w (W.setCell ⟨gb, r, none⟩ (.int .i64 (c : Int)))))
  have HSK := Lib.hid (fun W i (hi : i = r ∨ A i c = 0) (hT : TabS W B p S gr gb cr cb h n m (dropA (upd A r Q) r c i) b) => (hT.congr (fun j hj k _ => dropA_skip (upd A r Q) r c i (by
    rcases hi with e | e
    · exact .inl e
    · by_cases e2 : i = r
      · exact .inl e2
      · right; rw [upd_other _ e2]; exact e) j k) (fun _ _ => rfl) : TabS W B p S gr gb cr cb h n m (dropA (upd A r Q) r c (i + 1)) b))
  have HC2 := Lib.hid (fun W i (hi : i < m) (hT : TabS W B p S gr gb cr cb h n m (dropA (upd A r Q) r c i) b) => (by
    have e3 := hT.crow hi
    rw [← hL] at e3
    exact e3 : W.cell? ⟨gr, i, none⟩ = some (.slice (some ⟨h i, 0, none⟩) L L)))
  have HC3 := Lib.hid (fun W i (hi : i < m) (hir : i ≠ r) (hT : TabS W B p S gr gb cr cb h n m (dropA (upd A r Q) r c i) b) => (by
    have e3 := hT.ce (show i ≤ m by omega) (show c ≤ wdt n m by omega)
    rw [dropA_ge _ _ _ (Nat.le_refl i), upd_other _ hir] at e3
    exact e3 : W.cell? ⟨h i, c, none⟩ = some (.string (bs (R (A i c))))))
  have HC5 := Lib.hid (fun W i (hT : TabS W B p S gr gb cr cb h n m (dropA (upd A r Q) r c i) b) => (by
    have e3 := hT.c5
    rw [← hL] at e3
    exact e3 : W.cell? ⟨p, 5, none⟩ = some (.slice (some ⟨h m, 0, none⟩) L L)))
  have hmr : m ≠ r := by omega
  have hc0 : (0 : Int) ≤ (c : Int) := by omega
  have hcL : (c : Int) < (L : Int) := by omega
  have hr0 : (0 : Int) ≤ (r : Int) := by omega
  have hrs : (r : Int) < (m : Int) := by omega
  have ca := (HA.out W0 0 (by omega) HT0.out.1)
  have cy := (by
    have e1 := t0.ce (show r ≤ m by omega) (show c ≤ wdt n m by omega)
    exact e1 : W0.cell? ⟨h r, c, none⟩ = some (.string (bs (R (A r c)))))
  obtain ⟨ct, cR, cC⟩ := HC.out W0 (Kp.refl _ _ _)
  clear HP
  clear t t0 p0 p1 p2 nx hA bQ hQ hL
  go_enter Tryz.func153, Tryz.ntmps153
  go_wp2_with fail
  rw [← hW0]
  obtain ⟨X, hX⟩ : ∃ X, X = w.heap.size := ⟨_, rfl⟩
  rw [← hX] at ct cR cC HDR HC ⊢
  clear hX hW0 hb0
  obtain ⟨a0, a3, a4, _⟩ := ca
  refine wp_region_quiet_lit (by kernel_rfl) (by kernel_rfl) ?_
  repeat (go_big_quiet_step (fail))
  refine wpQuiet_nil ?_
  intro _ hw'
  obtain ⟨n1, hw''⟩ := hw'
  subst hw''
  go_wp2_with fail
  refine wp_region_quiet_lit (by kernel_rfl) (by kernel_rfl) ?_
  repeat (go_big_quiet_step (fail))
  refine wpQuiet_nil ?_
  intro _ hw'
  obtain ⟨n2, hw''⟩ := hw'
  subst hw''
  clear ct cR cC a0 a3 a4 cy
  have HT1 : Hid (TabS ((W0.drewN n1).drewN n2) B p S gr gb cr cb h n m (upd A r (mix (A r) Q 0)) b ∧ Below B w ((W0.drewN n1).drewN n2) ∧ Kp h m W0 ((W0.drewN n1).drewN n2)) := by
    have hbx : Below W0.heap.size W0 ((W0.drewN n1).drewN n2) := Below.drewN (Below.drewN (Below.refl _ _) _) _
    exact Lib.hid ⟨HT0.out.1.below' hbx, Below.drewN (Below.drewN HT0.out.2.1 _) _, Kp.bel hbx⟩
  clear HT0
  go_wp2_with fail
  go_loopw [30] (fun iv wr => ∃ k : Nat, iv = .int .i64 (k : Int) ∧ k ≤ L ∧ Hid (TabS wr B p S gr gb cr cb h n m (upd A r (mix (A r) Q k)) b ∧ Below B w wr ∧ Kp h m W0 wr)) (fun iv _ => L - (intOf iv).toNat)
  case atStart => exact ⟨0, rfl, by omega, HT1⟩
  case round =>
    clear HT1
    obtain ⟨k, rfl, hk, hin⟩ := hrel
    by_cases hlt : k < L
    · obtain ⟨ct, cR, cC⟩ := HC.out wr hin.out.2.2
      obtain ⟨c0, c3, c4, c5⟩ := HA.out wr k hlt hin.out.1
      have hk0 : (0 : Int) ≤ (k : Int) := by omega
      have hks : (k : Int) < (L : Int) := by omega
      by_cases hz : A r k = 0
      · have hz1 : R (A r k) = [48] := R_is0.2 hz
        rw [hz1] at c5
        have HN := Lib.hid (And.intro (HZ.out wr k hlt hz hin.out.1) hin.out.2)
        clear hin ct cR cC c0 c3 c4 HZ HA HD HO HS HF HE HDR HFN HSK HC2 HC3 HC5 HC
        go_wp2
        go_roundw
        case rel => exact ⟨k + 1, by go_num, hlt, HN⟩
        case measure => simp [intOf]; omega
      · have hz1 : (R (A r k) == [48]) = false := by rw [beq_eq_false_iff_ne]; exact fun e => hz (R_is0.1 e)
        have k1 := reg_of (w := wr) (fun W hW => HD.out W k hlt (hin.out.1.gl.of hW))
        have k2 := reg_of (w := wr) (fun W hW => HO.out W k (hin.out.1.below' hW))
        have m0 := cell_regrown c0
        have m3 := cell_regrown c3
        have m4 := cell_regrown c4
        have mt := cell_regrown ct
        have mr := cell_regrown cR
        have e1 : ∀ args w, (callFunc 197 args).run Tryz.prog w = .ok (.enter 197 args) w := enters_of Tryz.func197 (by kernel_rfl) rfl
        have e2 : ∀ args w, (callFunc 150 args).run Tryz.prog w = .ok (.enter 150 args) w := enters_of Tryz.func150 (by kernel_rfl) rfl
        have HSW := Lib.hid (HS.out · k hlt)
        have HFW := Lib.hid (HF.out · k)
        have HAW := Lib.hid (HA.out · k hlt)
        clear c0 c3 c4 ct cR cC HZ HA HD HO HS HF HE HDR HFN HSK HC2 HC3 HC5 HC
        go_wp2_with fail
        refine region_below_tail 18 (by kernel_rfl) (by kernel_rfl) ?_
        simp only [List.take_succ_cons, List.take_zero, List.drop_succ_cons, List.drop_zero]
        repeat (go_big_quiet_step (fail))
        go_big_quiet_step (exact k1 _ _)
        repeat (go_big_quiet_step (fail))
        go_big_quiet_step (exact k2 _ _)
        repeat (go_big_quiet_step (fail))
        refine wpQuiet_nil ?_
        intro W6 hw'
        have hb6 : Below wr.heap.size wr W6 := by obtain ⟨p, e⟩ := hw'; rw [e]; exact below_regrown wr p.d p.os
        clear hw'
        have HT6 : Hid (TabS W6 B p S gr gb cr cb h n m (upd A r (mix (A r) Q k)) b ∧ Below B w W6 ∧ Kp h m W0 W6) := Lib.hid ⟨hin.out.1.below' hb6, hin.out.2.1.trans (hb6.mono (TabS.size hin.out.1)), hin.out.2.2.trans (Kp.bel hb6)⟩
        clear k1 k2 m0 m3 m4 mt mr e1 e2 hb6 hin
        have fz := HFW.out W6 HT6.out.1
        have fc := (HAW.out W6 HT6.out.1).2.2.2
        go_wp2
        go_roundw
        case rel => exact ⟨k + 1, by go_num, hlt, Lib.hid (HSW.out W6 HT6.out)⟩
        case measure => simp [intOf]; omega
    · obtain rfl : L = k := by omega
      obtain ⟨ct, cR, cC⟩ := HC.out wr hin.out.2.2
      have c3 := hin.out.1.c3
      have HT2 : Hid (TabS wr B p S gr gb cr cb h n m (dropA (upd A r Q) r c 0) b ∧ Below B w wr ∧ Kp h m W0 wr) := Lib.hid ⟨HE.out wr hin.out.1, hin.out.2.1, hin.out.2.2⟩
      clear hin HZ HA HD HO HS HF HE
      have hms0 : (0 : Int) ≤ (m : Int) := by omega
      go_wp2_with fail
      go_loopw [63] (fun iv wr => ∃ i : Nat, iv = .int .i64 (i : Int) ∧ i ≤ m ∧ Hid (TabS wr B p S gr gb cr cb h n m (dropA (upd A r Q) r c i) b ∧ Below B w wr ∧ Kp h m W0 wr)) (fun iv _ => m - (intOf iv).toNat)
      case atStart => exact ⟨0, rfl, by omega, HT2⟩
      case round =>
        clear HT2 ct cR cC c3
        obtain ⟨i, rfl, hi, hin⟩ := hrel
        obtain ⟨ct, cR, cC⟩ := HC.out wr hin.out.2.2
        by_cases hlt : i < m
        · have c4 := HC2.out wr i hlt hin.out.1
          have hi0 : (0 : Int) ≤ (i : Int) := by omega
          have his : (i : Int) < (m : Int) := by omega
          by_cases hir : i = r
          · have HN := Lib.hid (And.intro (HSK.out wr i (.inl hir) hin.out.1) hin.out.2)
            clear hin HDR HFN HSK HC2 HC3 HC5 HC
            subst hir
            go_wp2
            go_roundw
            case rel => exact ⟨i + 1, by go_num, hlt, HN⟩
            case measure => simp [intOf]; omega
          · have c5 := HC3.out wr i hlt hir hin.out.1
            have hdi : ¬ (i : Int) = (r : Int) := by omega
            by_cases hz : A i c = 0
            · have hz1 : R (A i c) = [48] := R_is0.2 hz
              rw [hz1] at c5
              have HN := Lib.hid (And.intro (HSK.out wr i (.inr hz) hin.out.1) hin.out.2)
              clear hin HDR HFN HSK HC2 HC3 HC5 HC hir
              go_wp2
              go_roundw
              case rel => exact ⟨i + 1, by go_num, hlt, HN⟩
              case measure => simp [intOf]; omega
            · have hz1 : (R (A i c) == [48]) = false := by rw [beq_eq_false_iff_ne]; exact fun e => hz (R_is0.1 e)
              have HK := Lib.hid (HDR.out wr i i (Nat.le_refl _) (by omega) hir hin.out.2.2 hin.out.1)
              rw [dropA_step _ _ _ hir] at HK
              have HIN := hin
              clear hin HDR HFN HSK HC2 HC3 HC5 HC hir
              go_wp2_with fail
              refine HK.out.mono ?_
              rintro e w5 ⟨rfl, hT5, hb5, hk5⟩
              have HN := Lib.hid (And.intro hT5 (And.intro (HIN.out.2.1.trans hb5) (HIN.out.2.2.trans hk5)))
              clear hT5 hb5 hk5 HIN HK
              go_wp2
              go_roundw
              case rel => exact ⟨i + 1, by go_num, hlt, HN⟩
              case measure => simp [intOf]; omega
        · obtain rfl : m = i := by omega
          have c5 := HC5.out wr _ hin.out.1
          have HK := Lib.hid (HDR.out wr m m (Nat.le_refl _) (by omega) hmr hin.out.2.2 hin.out.1)
          have HIN := hin
          clear hin HDR HSK HC2 HC3 HC5
          go_wp2_with fail
          refine HK.out.mono ?_
          rintro e w5 ⟨rfl, hT5, hb5, hk5⟩
          obtain ⟨ct, cR, cC⟩ := HC.out w5 (HIN.out.2.2.trans hk5)
          have c4 := hT5.c4
          have HN := Lib.hid (And.intro hT5 (And.intro (HIN.out.2.1.trans hb5) (HIN.out.2.2.trans hk5)))
          clear hT5 hb5 hk5 HIN HK HC
          have m4 := cell_regrown c4
          have mt := cell_regrown ct
          have mr := cell_regrown cR
          have mc := cell_regrown cC
          clear ct cR cC c4 c5
          go_wp2_with fail
          refine region_below_tail 7 (by kernel_rfl) (by kernel_rfl) ?_
          simp only [List.take_succ_cons, List.take_zero, List.drop_succ_cons, List.drop_zero]
          repeat (go_big_quiet_step (fail))
          refine wpQuiet_nil ?_
          intro W6 hw'
          have hb6 : Below w5.heap.size w5 W6 := by obtain ⟨p, e⟩ := hw'; rw [e]; exact below_regrown w5 p.d p.os
          clear hw'
          have HT6 := Lib.hid (And.intro (HN.out.1.below' hb6) (And.intro (HN.out.2.1.trans (hb6.mono (TabS.size HN.out.1))) (HN.out.2.2.trans (Kp.bel hb6))))
          clear m4 mt mr mc hb6
          have fz := HT6.out.1.fb r
          have fc := HT6.out.1.cbas hrm
          go_wp2
          go_end0
          have hf := HFN.out W6 ⟨HT6.out.2.2, HT6.out.2.1⟩ HT6.out.1
          exact ⟨rfl, hf.1, hf.2⟩
end
end W
end Go.Proofs.YtellemlhhlafcaaGreatDoor
end
