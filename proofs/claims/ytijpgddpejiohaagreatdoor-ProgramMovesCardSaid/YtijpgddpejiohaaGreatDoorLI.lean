/-
  Chapter 3: lists of spans, and lists of numbers' texts, that a call makes by 'append'; and lists that are read. (Printed by wip/span.py.)
  Chapter 3: 'Check' of both sides, for spans with short ends.
  Chapter 3 of the program: 'checks', and what the methods of 'sums' do where there is no error.
  Chapter 3 of the program: 'ratio.Parts' and 'ratio.Sign'; what lies in a result that is a span.
  Layer 2 of the program: 'Neg' and 'Div' at valid numbers, where no result is too long.
  Chapter 5: lists of texts and of bounds that are read.
  What the rows' listed variables give a walk; arguments that are lists of texts and of bounds (chapter 5).
  A world for the witness: the settled one, the listed variables holding what the rows list.
  Chapter 5, plain: the simplex table over rational numbers, as the program turns it; the examples of the chapter.
-/
import Derived.Test.YtijpgddpejiohaaGreatDoorLH
import Derived.Laws.OwnMore
import Derived.Laws.StructEq
import Derived.Deep.RegionLaw
import Derived.Lib.QuietBelow
import Derived.Laws.ResultCell
import Derived.Test.YtijpgddpejiohaaGreatDoorLC
import Derived.Test.YtijpgddpejiohaaGreatDoorCards
import Derived.Test.YtijpgddpejiohaaGreatDoorTie
import Derived.ProofKit
import Derived.OpenShut
import Derived.Deep.DeepHandedRow
import Derived.Deep.DeepWitnessRowRef
import Derived.Deep.Slices
import Derived.Deep.Fields
import Derived.ChangeSame
import Derived.Shelf.Vars
import Derived.Test.YtijpgddpejiohaaGreatDoorLG
section
namespace Go.Proofs.YtijpgddpejiohaaGreatDoor
open Go Go.RowKit Go.Deep
namespace M
abbrev PT := List UInt8 × List UInt8
/-- The texts of spans. -/
def sx (l : List SQ) : List PT := l.map fun a => (R a.1, R a.2)
theorem sx_len (l : List SQ) : (sx l).length = l.length := by simp [sx]
theorem sx_get (l : List SQ) (i : Nat) (h : i < l.length) : (sx l)[i]'(by rw [sx_len]; exact h) = (R l[i].1, R l[i].2) := by simp [sx]
theorem sx_append (a b : List SQ) : sx (a ++ b) = sx a ++ sx b := by simp [sx]
end M
/-- Whatever was there below block B is as it was. -/
def Keeps (B : Nat) (w w' : World) : Prop := ∀ (C : Nat) (a : World), C ≤ B → Below C a w → Below C a w'
theorem Keeps.refl (B : Nat) (w : World) : Keeps B w w := fun _ _ _ h => h
theorem Keeps.trans {B : Nat} {a b c : World} (h1 : Keeps B a b) (h2 : Keeps B b c) : Keeps B a c := fun C x hC h => h2 C x hC (h1 C x hC h)
theorem Keeps.set {B : Nat} {w w' : World} (h : Keeps B w w') {g j : Nat} (hg : B ≤ g) (v : Value) : Keeps B w (w'.setCell ⟨g, j, none⟩ v) :=
  fun C x hC hb => (h C x hC hb).setCell (Nat.le_trans hC hg) v
theorem Keeps.drew {B : Nat} {w w' : World} (h : Keeps B w w') : Keeps B w w'.drew := fun C x hC hb => RowKit.Below.drew (h C x hC hb)
/-- The law of 'out = append(out, x)', out a row of the call's own. -/
theorem wpList_app_one {ops : Array Oper} {rest : List Oper} {o : Oper} {a : Act} {Q : Exit → Act → World → Prop} {t e : TypeId} {i : TypeInfo} {z : Value} {size bytes : Nat}
    (ht : Tryz.prog.underlying t = some (.slice e)) (hi : Tryz.prog.info? e = some i) (hz : i.zero = some z) (hsize : i.size = size) (hby : i.bytes = bytes) (hzs : z.cells.size = size) (hsz : 0 < size)
    {w : World} {B A : Nat} {v : Value} {n : Nat} {xs : List Value} (hgd : o.guard = none) (s x : Operand) (ho : o.op = .call { callee := .builtin .append, args := #[s, x], argTypes := #[t, t] })
    (hs : a.eval s = v) (hx : a.eval x = .slice (some ⟨A, 0, none⟩) 1 1) (hA : A = w.heap.size)
    (hown : w.ownsRow B e size v n xs) (hB : B ≤ w.heap.size) (cs : List Value) (hl : cs.length = size) (h1 : ∀ u ∈ cs, u.oneCell' = true) (hn : n ≤ 1000000000) (hb : bytes ≤ 1000)
    (h : ∀ v' w', w'.ownsRow B e size v' (n + 1) (xs ++ cs) → Keeps B w w' → wpList Tryz.prog ops Q rest (a.put o.dst v') w') : wpList Tryz.prog ops Q (o :: rest) a (w.alloc (.cells cs.toArray e (0, 0))) := by
  subst hA
  have hr := Row.new w e cs
  refine wpList_append_own (w.alloc (.cells cs.toArray e (0, 0))) hgd s x t ho B e i z size bytes ht hi hz hsize hby hzs hsz v n xs hs (hown.alloc _) ⟨w.heap.size, 0, none⟩ 1 1 cs hx (by rw [hl, Nat.one_mul])
    (fun j u hj => by
      have hadd : (⟨w.heap.size, 0, none⟩ : Addr).add j = ⟨w.heap.size, j, none⟩ := by unfold Addr.add; split <;> simp_all
      rw [hadd]
      exact hr.cell hj) h1 (by unfold maxLen; omega) (by
      have : (n + 1) * bytes ≤ (n + 1) * 1000 := Nat.mul_le_mul_left _ hb
      omega) (by show B ≤ (w.heap.push _).size; simp; omega) ?_
  intro v' w' h3 h4 _
  refine h v' w' h3 (fun C a2 hC hbl => ?_)
  have hC' : C ≤ w.heap.size := Nat.le_trans hC hB
  have hbl2 : Below C a2 (w.alloc (.cells cs.toArray e (0, 0))) := hbl.alloc hC' _
  refine hbl2.grown h4 (by show C ≤ (w.heap.push _).size; simp; omega) (fun k hk => ?_)
  have := (hown.lt k hk).1
  omega
/-- The cells at ⟨b, o⟩ hold the list. -/
structure PSl (w : World) (b o : Nat) (l : List M.PT) : Prop where
  lt : b < w.heap.size
  val : ∀ i (h : i < l.length), w.cell? ⟨b, o + i * 2, none⟩ = some (.string (bs l[i].1))
  wt : ∀ i (h : i < l.length), w.cell? ⟨b, o + i * 2 + 1, none⟩ = some (.string (bs l[i].2))
theorem PSl.below {B : Nat} {w w' : World} {b o : Nat} {l : List M.PT} (h : PSl w b o l) (hb : Below B w w') (hB : b < B) : PSl w' b o l :=
  ⟨Nat.lt_of_lt_of_le h.lt hb.size, fun i hi => (hb.cell (by exact hB)).trans (h.val i hi), fun i hi => (hb.cell (by exact hB)).trans (h.wt i hi)⟩
theorem PSl.below' {w w' : World} {b o : Nat} {l : List M.PT} (h : PSl w b o l) (hb : Below w.heap.size w w') : PSl w' b o l := h.below hb h.lt
/-- The cells of a right list. -/
def pcs (l : List M.PT) : List Value := l.flatMap fun x => [.string (bs x.1), .string (bs x.2)]
theorem pcs_append (a b : List M.PT) : pcs (a ++ b) = pcs a ++ pcs b := by simp [pcs]
theorem pcs_len (l : List M.PT) : (pcs l).length = l.length * 2 := by
  induction l with
  | nil => rfl
  | cons x t ih => simp only [pcs, List.flatMap_cons, List.length_append, List.length_cons, List.length_nil] at *; omega
theorem pcs_get (l : List M.PT) (i : Nat) (h : i < l.length) : (pcs l)[i * 2]? = some (.string (bs l[i].1)) ∧ (pcs l)[i * 2 + 1]? = some (.string (bs l[i].2)) := by
  induction l generalizing i with
  | nil => cases h
  | cons x t ih =>
    rcases i with _ | j
    · exact ⟨rfl, rfl⟩
    · have hj : j < t.length := by simpa using h
      have e1 : pcs (x :: t) = .string (bs x.1) :: .string (bs x.2) :: pcs t := rfl
      have k := ih j hj
      rw [e1, show (j + 1) * 2 = (j * 2 + 1) + 1 by omega, show (j * 2 + 1) + 1 + 1 = (j * 2 + 1 + 1) + 1 by omega]
      exact k
/-- A value that reads as a list. -/
def RdP (w : World) (v : Value) (l : List M.PT) : Prop := ∃ A cap, v = .slice A l.length cap ∧ (l = [] ∨ ∃ b o, A = some ⟨b, o, none⟩ ∧ PSl w b o l)
theorem RdP.below {w w' : World} {v : Value} {l : List M.PT} (h : RdP w v l) (hb : Below w.heap.size w w') : RdP w' v l := by
  obtain ⟨A, cap, h1, h2⟩ := h
  refine ⟨A, cap, h1, ?_⟩
  rcases h2 with h2 | ⟨b, o, h3, h4⟩
  · exact Or.inl h2
  · exact Or.inr ⟨b, o, h3, h4.below' hb⟩
theorem ownsRow_base {w : World} {B B' e size : Nat} {v : Value} {n : Nat} {xs : List Value} (h : w.ownsRow B e size v n xs) (hB : B' ≤ B) : w.ownsRow B' e size v n xs := by
  obtain ⟨h1, h2⟩ := h
  refine ⟨h1, ?_⟩
  rcases h2 with h2 | ⟨g, cap, cur, a, b, c⟩
  · exact Or.inl h2
  · exact Or.inr ⟨g, cap, cur, a, Nat.le_trans hB b, c⟩
/-- A row of the call's own that holds texts. -/
def OwnS (w : World) (B : Nat) (v : Value) (l : List (List UInt8)) : Prop := w.ownsRow B 29 1 v l.length (Strs l)
theorem infoRt : (Tryz.prog.info? 29).map (fun i => (i.zero, i.size, i.bytes)) = some (some (.string ⟨#[]⟩), 1, 16) := by kernel_rfl
theorem OwnS.below {w w' : World} {B : Nat} {v : Value} {l : List (List UInt8)} (h : OwnS w B v l) (hb : Below w.heap.size w w') : OwnS w' B v l :=
  World.ownsRow.kept (row := none) h ⟨hb.os, hb.tape, hb.output, hb.size, fun k hk _ => hb.block k hk⟩ (Classical.em _)
theorem wpList_app_s {ops : Array Oper} {rest : List Oper} {o : Oper} {a : Act} {Q : Exit → Act → World → Prop} {w : World} {B A : Nat} {v : Value} {l : List (List UInt8)} {q : List UInt8}
    (hgd : o.guard = none) (s x : Operand) (ho : o.op = .call { callee := .builtin .append, args := #[s, x], argTypes := #[23, 23] })
    (hs : a.eval s = v) (hx : a.eval x = .slice (some ⟨A, 0, none⟩) 1 1) (hA : A = w.heap.size) (h : OwnS w B v l) (hB : B ≤ w.heap.size) (hn : l.length ≤ 1000000000)
    (hK : ∀ v' w', OwnS w' B v' (l ++ [q]) → Keeps B w w' → wpList Tryz.prog ops Q rest (a.put o.dst v') w') : wpList Tryz.prog ops Q (o :: rest) a (w.alloc (.cells #[.string (bs q)] 29 (0, 0))) := by
  obtain ⟨i, h1, h2, h3, h4⟩ := info_parts infoRt
  refine wpList_app_one Tryz.underlying23 h1 h2 h3 h4 rfl (by decide) hgd s x ho hs hx hA h hB [.string (bs q)] rfl (fun u hu => by simp at hu; subst hu; rfl) hn (by decide) (fun v' w' k2 k3 => hK v' w' ?_ k3)
  unfold OwnS
  rw [List.length_append]
  have : Strs (l ++ [q]) = Strs l ++ [.string (bs q)] := by simp [Strs]
  rw [this]
  exact k2
/-- Where a row of texts lies. -/
theorem OwnS.form {w : World} {B : Nat} {v : Value} {l : List (List UInt8)} (h : OwnS w B v l) (hn : l ≠ []) :
    ∃ g cap, v = .slice (some ⟨g, 0, none⟩) l.length cap ∧ B ≤ g ∧ g < w.heap.size ∧ ∀ i (hi : i < l.length), w.cell? ⟨g, i, none⟩ = some (.string (bs l[i])) := by
  obtain ⟨h1, h2⟩ := h
  rcases h2 with ⟨_, hn2⟩ | ⟨g, cap, cur, hv, hB, hh, _, _, _, ht⟩
  · exact absurd (List.length_eq_zero_iff.1 hn2) hn
  · refine ⟨g, cap, hv, hB, lt_of_block hh, fun i hi => ?_⟩
    have : (Strs l)[i]? = some (.string (bs l[i])) := by simp [Strs, hi]
    rw [← ht, List.getElem?_take] at this
    split at this
    · simp [World.cell?, hh]; simpa using this
    · cases this
/-- The call returns v; memory is only read. -/
def Quie (w : World) (v : Value) (e : Ending) (w' : World) : Prop := e = .returned v ∧ ∃ n, w' = w.drewN n
theorem Quie.below {w w' : World} {v : Value} {e : Ending} (h : Quie w v e w') : Ret w v e w' := by
  obtain ⟨h1, n, rfl⟩ := h
  exact ⟨h1, Below.drewN (Below.refl _ _) n⟩
/-- A slice that is nil, or lies in a block. -/
def SrcP (w : World) (v : Value) (l : List M.PT) : Prop :=
  (v = .slice none 0 0 ∧ l = []) ∨ ∃ b o cap, v = .slice (some ⟨b, o, none⟩) l.length cap ∧ ∀ j u, (pcs l)[j]? = some u → w.cell? ⟨b, o + j, none⟩ = some u
theorem pcs_cells {w : World} {b o : Nat} {l : List M.PT} (h : PSl w b o l) : ∀ j u, (pcs l)[j]? = some u → w.cell? ⟨b, o + j, none⟩ = some u := by
  intro j u hu
  have hj : j < l.length * 2 := by
    rcases Nat.lt_or_ge j (l.length * 2) with h1 | h1
    · exact h1
    · rw [List.getElem?_eq_none (by rw [pcs_len]; exact h1)] at hu; cases hu
  have hi : j / 2 < l.length := by omega
  have k := pcs_get l (j / 2) hi
  rcases Nat.mod_two_eq_zero_or_one j with h2 | h2
  · have e : j / 2 * 2 = j := by omega
    rw [e] at k
    rw [k.1] at hu
    have := h.val (j / 2) hi
    rw [e] at this
    rw [this, Option.some.inj hu]
  · have e : j / 2 * 2 + 1 = j := by omega
    rw [e] at k
    rw [k.2] at hu
    have := h.wt (j / 2) hi
    rw [show o + j / 2 * 2 + 1 = o + j by omega] at this
    rw [this, Option.some.inj hu]
theorem PSl.take {w : World} {b o : Nat} {l : List M.PT} (h : PSl w b o l) (k : Nat) : PSl w b o (l.take k) :=
  ⟨h.lt, fun i hi => by
    have h2 : i < l.length := by rw [List.length_take] at hi; omega
    rw [h.val i h2, List.getElem_take], fun i hi => by
    have h2 : i < l.length := by rw [List.length_take] at hi; omega
    rw [h.wt i h2, List.getElem_take]⟩
theorem PSl.drop {w : World} {b o : Nat} {l : List M.PT} (h : PSl w b o l) (k : Nat) : PSl w b (o + k * 2) (l.drop k) :=
  ⟨h.lt, fun i hi => by
    have h2 : k + i < l.length := by rw [List.length_drop] at hi; omega
    rw [List.getElem_drop, ← h.val (k + i) h2]
    congr 2; omega, fun i hi => by
    have h2 : k + i < l.length := by rw [List.length_drop] at hi; omega
    rw [List.getElem_drop, ← h.wt (k + i) h2]
    congr 2; omega⟩
theorem pcs_one (l : List M.PT) : ∀ u ∈ pcs l, u.oneCell' = true := by
  intro u hu
  simp only [pcs, List.mem_flatMap] at hu
  obtain ⟨x, _, hx⟩ := hu
  simp at hx
  rcases hx with rfl | rfl <;> rfl
theorem SrcP.of {w : World} {b o cap n : Nat} {l : List M.PT} (h : PSl w b o l) (hn : n = l.length) : SrcP w (.slice (some ⟨b, o, none⟩) n cap) l :=
  Or.inr ⟨b, o, cap, by rw [hn], pcs_cells h⟩
theorem SrcP.empty (w : World) (b o cap : Nat) : SrcP w (.slice (some ⟨b, o, none⟩) 0 cap) [] := Or.inr ⟨b, o, cap, rfl, fun j u h => by simp [pcs] at h⟩
theorem SrcP.nil (w : World) : SrcP w (.slice none 0 0) [] := Or.inl ⟨rfl, rfl⟩
theorem SrcP.cut {w : World} {g k n gc : Nat} {l : List M.PT} (hl : l.length = n - k) (h : PSl w g (0 + k * 2) l) (hn : n ≤ gc) :
    SrcP w (.slice (if gc = k then some ⟨g, 0, none⟩ else some ⟨g, k * 2, none⟩) (n - k) (gc - k)) l := by
  rw [Nat.zero_add] at h
  split
  · have h0 : l = [] := List.length_eq_zero_iff.1 (by omega)
    subst h0
    rw [← hl]
    exact SrcP.empty w g 0 _
  · exact SrcP.of h hl.symm
theorem grown_refl (w : World) (row : Option Nat) : w.grownBy w row := ⟨rfl, rfl, rfl, Nat.le_refl _, fun _ _ _ => rfl⟩
theorem grown_cell {a b : World} {row : Option Nat} (h : a.grownBy b row) {p : Addr} (hlt : p.block < a.heap.size) (hne : some p.block ≠ row) : b.cell? p = a.cell? p := by
  unfold World.cell?; rw [h.block p.block hlt hne]
/-- A slice of texts that lies in a block. -/
def SrcS (w : World) (v : Value) (l : List (List UInt8)) : Prop :=
  ∃ b cap, v = .slice (some ⟨b, 0, none⟩) l.length cap ∧ ∀ j u, (Strs l)[j]? = some u → w.cell? ⟨b, j, none⟩ = some u
theorem SrcS.new (w : World) (l : List (List UInt8)) (cs : Array Value) (n A : Nat) (h : cs = (Strs l).toArray) (hn : n = l.length) (hA : A = w.heap.size) : SrcS (w.alloc (.cells cs 29 (0, 0))) (.slice (some ⟨A, 0, none⟩) n n) l := by
  subst hA h hn
  exact ⟨_, _, rfl, fun j u hj => (Row.new w 29 (Strs l)).cell hj⟩
theorem OwnS.alloc {w : World} {B : Nat} {v : Value} {l : List (List UInt8)} (h : OwnS w B v l) (o : Obj) : OwnS (w.alloc o) B v l := World.ownsRow.alloc h o
theorem OwnS.drew {w : World} {B : Nat} {v : Value} {l : List (List UInt8)} (h : OwnS w B v l) : OwnS w.drew B v l := h.below (RowKit.Below.drew (Below.refl _ _))
theorem OwnS.new (w : World) (l : List (List UInt8)) (cs : Array Value) (B n A : Nat) (h : cs = (Strs l).toArray) (hn : n = l.length) (hA : A = w.heap.size) (hB : B ≤ A) (hl : n ≤ maxLen) : OwnS (w.alloc (.cells cs 29 (0, 0))) B (.slice (some ⟨A, 0, none⟩) n n) l := by
  subst hA h hn
  refine ⟨by simp [Strs], Or.inr ⟨w.heap.size, l.length, (Strs l).toArray, rfl, hB, ?_, Nat.le_refl _, hl, by simp [Strs], by rw [Nat.mul_one]; exact List.take_of_length_le (by simp [Strs])⟩⟩
  show (w.heap.push _)[w.heap.size]? = _
  simp
theorem wp_app_s {o : Oper} {a : Act} {K : Act → World → Prop} {Q : Exit → Act → World → Prop} {w : World} {B : Nat} {v xv : Value} {l m : List (List UInt8)} (s x : Operand)
    (ho : o.op = .call { callee := .builtin .append, args := #[s, x], argTypes := #[23, 23] }) (hs : a.eval s = v) (hx : a.eval x = xv)
    (h : OwnS w B v l) (hsrc : SrcS w xv m) (hB : B ≤ w.heap.size) (hn : l.length + m.length ≤ 1000000000)
    (hK : ∀ v' w', OwnS w' B v' (l ++ m) → Keeps B w w' → K (a.put o.dst v') w') : o.wp Tryz.prog a w K Q := by
  obtain ⟨i, h1, h2, h3, h4⟩ := info_parts infoRt
  obtain ⟨b, cap, rfl, hc⟩ := hsrc
  have hadd : ∀ j, (⟨b, 0, none⟩ : Addr).add j = ⟨b, j, none⟩ := fun j => by unfold Addr.add; split <;> simp_all
  refine wp_append_own w s x _ ho B _ i _ 1 16 Tryz.underlying23 h1 h2 h3 h4 rfl (by decide) v l.length (Strs l) hs h ⟨b, 0, none⟩ m.length cap (Strs m) hx (by simp [Strs])
    (fun j u hj => by rw [hadd]; exact hc j u hj) (fun u hu => by simp [Strs] at hu; obtain ⟨_, _, rfl⟩ := hu; rfl) (by unfold maxLen; omega) (by omega) hB (fun v' w' k2 k3 _ => hK v' w' ?_ (fun C a2 hC hbl => ?_))
  · unfold OwnS
    rw [List.length_append, show Strs (l ++ m) = Strs l ++ Strs m by simp [Strs]]
    exact k2
  · refine hbl.grown k3 (Nat.le_trans hC hB) (fun k hk => ?_)
    have := (h.lt k hk).1
    omega
theorem wpList_app_sl {ops : Array Oper} {rest : List Oper} {o : Oper} {a : Act} {Q : Exit → Act → World → Prop} {w : World} {B : Nat} {v xv : Value} {l m : List (List UInt8)} (hgd : o.guard = none) (s x : Operand)
    (ho : o.op = .call { callee := .builtin .append, args := #[s, x], argTypes := #[23, 23] }) (hs : a.eval s = v) (hx : a.eval x = xv)
    (h : OwnS w B v l) (hsrc : SrcS w xv m) (hB : B ≤ w.heap.size) (hn : l.length + m.length ≤ 1000000000)
    (hK : ∀ v' w', OwnS w' B v' (l ++ m) → Keeps B w w' → wpList Tryz.prog ops Q rest (a.put o.dst v') w') : wpList Tryz.prog ops Q (o :: rest) a w :=
  wpList_plain hgd fun _ hK2 => wp_app_s s x ho hs hx h hsrc hB hn fun v' w' h2 h3 => hK2 _ _ (hK v' w' h2 h3)
theorem step_app_s {ops : Array Oper} {o : Oper} {a : Act} {K : Act → World → Prop} {Q : Exit → Act → World → Prop} {E : Prop} {w : World} {B : Nat} {v xv : Value} {l m : List (List UInt8)} (hgd : o.guard = none) (s x : Operand)
    (ho : o.op = .call { callee := .builtin .append, args := #[s, x], argTypes := #[23, 23] }) (hs : a.eval s = v) (hx : a.eval x = xv)
    (h : OwnS w B v l) (hsrc : SrcS w xv m) (hB : B ≤ w.heap.size) (hn : l.length + m.length ≤ 1000000000)
    (hK : ∀ v' w', OwnS w' B v' (l ++ m) → Keeps B w w' → K (a.put o.dst v') w') : if Region.wanted o (yielded ops a.tmps) = true then Oper.wp Tryz.prog o a w K Q else E := by
  have hw : Region.wanted o (yielded ops a.tmps) = true := by simp [Region.wanted, hgd]
  rw [if_pos hw]
  exact wp_app_s s x ho hs hx h hsrc hB hn hK
namespace W
open M
attribute [local go_sem] bs_size bs_toList bs_get bs_extract bs_append bs_lit0 bs_lit1 lit1_bs
set_option maxHeartbeats 1000000
set_option maxRecDepth 20000
end W
end Go.Proofs.YtijpgddpejiohaaGreatDoor
end
section
namespace Go.Proofs.YtijpgddpejiohaaGreatDoor
open Go Go.RowKit Go.Deep
namespace M
/-- A short text: if it is a number, then one with few digits. -/
def Sht (l : List UInt8) : Prop := l.length ≤ 2100 ∧ (chkR l = 0 → ∃ q, l = R q ∧ Bq 30 q)
theorem Sht.of {l : List UInt8} (h : shortB l = true) : Sht l := ⟨by have := short_num h; omega, short_R h⟩
theorem Sht.R {q : Rat} (h : Bq 30 q) : Sht (M.R q) := ⟨by have := h.R_len (by decide); omega, fun _ => ⟨q, rfl, h⟩⟩
/-- The number of the error of a span. -/
noncomputable def chkP (p : PT) : Nat := if chkR p.1 ≠ 0 then chkR p.1 else if chkR p.2 ≠ 0 then chkR p.2 else if qval p.2 < qval p.1 then 9 else 0
/-- A right span with short ends. -/
def SpB (k : Nat) (a : SQ) : Prop := a.1 ≤ a.2 ∧ Bq k a.1 ∧ Bq k a.2
theorem chkP_right {p : PT} (h1 : Sht p.1) (h2 : Sht p.2) (h : chkP p = 0) : ∃ a : SQ, p = (R a.1, R a.2) ∧ SpB 30 a := by
  unfold chkP at h
  by_cases c1 : chkR p.1 = 0
  · rw [if_neg (by simp [c1])] at h
    by_cases c2 : chkR p.2 = 0
    · rw [if_neg (by simp [c2])] at h
      obtain ⟨q1, e1, b1⟩ := h1.2 c1
      obtain ⟨q2, e2, b2⟩ := h2.2 c2
      rw [e1, e2, qval_R, qval_R] at h
      by_cases hlt : q2 < q1
      · rw [if_pos hlt] at h; cases h
      · exact ⟨(q1, q2), Prod.ext e1 e2, Rat.not_lt.1 hlt, b1, b2⟩
    · rw [if_pos c2] at h; exact absurd h c2
  · rw [if_pos c1] at h; exact absurd h c1
theorem chkP_sp {a : SQ} {k : Nat} (hk : k ≤ 1024) (h : SpB k a) : chkP (R a.1, R a.2) = 0 := by
  unfold chkP
  simp only
  rw [h.2.1.chk hk, h.2.2.chk hk, if_neg (by decide), if_neg (by decide), qval_R, qval_R, if_neg (Rat.not_lt.2 h.1)]
end M
namespace W
open M
attribute [local go_sem] bs_size bs_toList bs_get bs_extract bs_append bs_lit0 bs_lit1 lit1_bs
set_option maxHeartbeats 1000000
set_option maxRecDepth 20000
theorem order_cmp (a b : Rat) : Int.sign (a.num * (b.den : Int) - b.num * (a.den : Int)) = cmpQ a b := rfl
end W
end Go.Proofs.YtijpgddpejiohaaGreatDoor
end
section
namespace Go.Proofs.YtijpgddpejiohaaGreatDoor
open Go Go.RowKit Go.Deep Go.Sort
namespace M
/-- The first error of spans. -/
noncomputable def chkL : List PT → Nat
  | [] => 0
  | p :: t => if chkP p = 0 then chkL t else chkP p
theorem chkL_drop (l : List PT) (i : Nat) (h : i < l.length) : chkL (l.drop i) = if chkP l[i] = 0 then chkL (l.drop (i + 1)) else chkP l[i] := by
  rw [List.drop_eq_getElem_cons h, chkL]
/-- Spans with short ends. -/
def ShtL (l : List PT) : Prop := ∀ p ∈ l, Sht p.1 ∧ Sht p.2
theorem chkL_right : ∀ {l : List PT}, ShtL l → chkL l = 0 → ∃ zl : List SQ, l = sx zl ∧ ∀ a ∈ zl, SpB 30 a
  | [], _, _ => ⟨[], rfl, fun a h => by cases h⟩
  | p :: t, hs, h => by
    rw [chkL] at h
    by_cases hp : chkP p = 0
    · rw [if_pos hp] at h
      obtain ⟨h1, h2⟩ := hs p List.mem_cons_self
      obtain ⟨a, e, ha⟩ := chkP_right h1 h2 hp
      obtain ⟨zl, e2, hz⟩ := chkL_right (fun q hq => hs q (List.mem_cons_of_mem _ hq)) h
      refine ⟨a :: zl, by rw [e, e2]; rfl, fun b hb => ?_⟩
      rcases List.mem_cons.1 hb with rfl | hb
      · exact ha
      · exact hz b hb
    · rw [if_neg hp] at h; exact absurd h hp
theorem chkL_sx : ∀ {zl : List SQ}, (∀ a ∈ zl, SpB 30 a) → chkL (sx zl) = 0
  | [], _ => rfl
  | a :: t, h => by
    show chkL ((R a.1, R a.2) :: sx t) = 0
    rw [chkL, if_pos (chkP_sp (by decide) (h a List.mem_cons_self))]
    exact chkL_sx fun b hb => h b (List.mem_cons_of_mem _ hb)
end M
/-- A span as a value. -/
abbrev spV (p : M.PT) : Value := .agg #[.string (bs p.1), .string (bs p.2)]
/-- A contract in every world that a region which only reads comes to. -/
theorem reg_of {f : Nat} {args : Array Value} {v : Value} {w : World} (h : ∀ W, Below w.heap.size w W → Calls Tryz.prog f args W (Ret W v)) :
    ∀ d os, Calls Tryz.prog f args (grow (redrawn w d) os) fun e w'' => e = .returned v ∧ ∃ p : Regrown, w'' = grow (redrawn w p.d) p.os := fun d os => Calls.regrown_of (h _ (below_regrown w d os))
namespace W
open M
attribute [local go_sem] bs_size bs_toList bs_get bs_extract bs_append bs_lit0 bs_lit1 lit1_bs
set_option maxHeartbeats 1000000
set_option maxRecDepth 20000
end W
end Go.Proofs.YtijpgddpejiohaaGreatDoor
end
section
namespace Go.Proofs.YtijpgddpejiohaaGreatDoor
open Go Go.RowKit Go.Deep Go.Sort
namespace W
open M
attribute [local go_sem] bs_size bs_toList bs_get bs_extract bs_append bs_lit0 bs_lit1 lit1_bs
set_option maxHeartbeats 1000000
set_option maxRecDepth 20000
theorem rparts_bad (p : List UInt8) (w : World) (hg : Glob w) (hl : p.length ≤ 90000) (h : chkR p ≠ 0) :
    Calls Tryz.prog 192 #[.string (bs p)] w (Ret w (.tuple #[.string (bs []), .string (bs []), .int .i64 ((chkR p : Nat) : Int)])) := by
  have HC := Lib.hid (vcheckR p w hg hl)
  have hz : (((chkR p : Nat) : Int) != 0) = true := by simp; exact h
  clear h
  generalize chkR p = c at *
  go_enter Tryz.func192, Tryz.ntmps192
  go_wp2_with fail
  refine (HC.out).mono ?_
  rintro e w1 ⟨rfl, hb1⟩
  go_wp2
  refine bodyPost_ret (v := .tuple #[.string (bs []), .string (bs []), .int .i64 (c : Int)]) (by simp [results, Tryz.results192, go_sem]; rfl) rfl ⟨rfl, hb1⟩
theorem rparts_ok (q : Rat) (k : Nat) (w : World) (hg : Glob w) (hq : Bq k q) (hk : k ≤ 1024) :
    Calls Tryz.prog 192 #[.string (bs (R q))] w (Ret w (.tuple #[.string (bs (I q.num)), .string (bs (I (q.den : Int))), .int .i64 0])) := by
  have hlen := hq.R_len hk
  have hc := vcheckR (R q) w hg (by omega)
  rw [hq.chk hk] at hc
  have HC := Lib.hid hc
  have HU := Lib.hid (fun wx hgx => cut_any (R q) wx hgx (by omega))
  rw [R_cutN, R_cutD] at HU
  clear hc hlen hq hk
  generalize I q.num = a at *
  generalize I (q.den : Int) = b at *
  generalize R q = s at *
  go_enter Tryz.func192, Tryz.ntmps192
  go_wp2_with fail
  refine (HC.out).mono ?_
  rintro e w1 ⟨rfl, hb1⟩
  go_wp2_with fail
  refine (HU.out _ (hg.of hb1)).mono ?_
  rintro e w2 ⟨rfl, hb2⟩
  go_wp2
  go_ret3
  exact Ret.of rfl (Below.then hb1 hb2)
theorem rsign_bad (p : List UInt8) (w : World) (hg : Glob w) (hl : p.length ≤ 90000) (h : chkR p ≠ 0) :
    Calls Tryz.prog 195 #[.string (bs p)] w (Ret w (.tuple #[.int .i64 0, .int .i64 ((chkR p : Nat) : Int)])) := by
  have HC := Lib.hid (rparts_bad p w hg hl h)
  have hz : (((chkR p : Nat) : Int) != 0) = true := by simp; exact h
  clear h
  generalize ((chkR p : Nat) : Int) = c at *
  go_enter Tryz.func195, Tryz.ntmps195
  go_wp2_with fail
  refine (HC.out).mono ?_
  rintro e w1 ⟨rfl, hb1⟩
  go_wp2
  go_ret2
  exact Ret.of rfl hb1
theorem rsign_ok (q : Rat) (k : Nat) (w : World) (hg : Glob w) (hq : Bq k q) (hk : k ≤ 1024) :
    Calls Tryz.prog 195 #[.string (bs (R q))] w (Ret w (.tuple #[.int .i64 (Int.sign q.num), .int .i64 0])) := by
  have HC := Lib.hid (rparts_ok q k w hg hq hk)
  have HS := Lib.hid (fun wx => vSign_I q.num wx (hq.num hk))
  clear hq hk
  generalize Int.sign q.num = sg at *
  generalize I q.num = a at *
  generalize I (q.den : Int) = b at *
  generalize R q = s at *
  go_enter Tryz.func195, Tryz.ntmps195
  go_wp2_with fail
  refine (HC.out).mono ?_
  rintro e w1 ⟨rfl, hb1⟩
  go_wp2_with fail
  refine (HS.out _).mono ?_
  rintro e w2 ⟨rfl, hb2⟩
  go_wp2
  go_ret2
  exact Ret.of rfl (Below.then hb1 hb2)
end W
end Go.Proofs.YtijpgddpejiohaaGreatDoor
end
section
namespace Go.Proofs.YtijpgddpejiohaaGreatDoor
open Go Go.RowKit Go.Deep
namespace W
open M
attribute [local go_sem] bs_size bs_toList bs_get bs_extract bs_append bs_lit0 bs_lit1 lit1_bs
set_option maxHeartbeats 1000000
set_option maxRecDepth 20000
theorem R_nil : R 0 = [48] := by
  have : ((0 : Int) : Rat) = 0 := rfl
  rw [← this, W.R_int, I_zero]
theorem neg_I (x : Int) (w : World) (hx : Ok x) :
    Calls Tryz.prog 193 #[.string (bs (I x))] w (Ret w (.tuple #[.string (bs (I (-x))), .int .i64 0])) := by
  have lx := hx.len
  have hv := fun w' => vcheck_any (I x) w' (by omega)
  rw [chk_I0 hx] at hv
  have HV := Lib.hid hv
  clear hv hx
  go_enter Tryz.func193, Tryz.ntmps193
  go_wp2_with fail
  refine (HV.out _).mono ?_
  rintro e w1 ⟨rfl, hb1⟩
  go_wp2_with fail
  refine (opposite_I x _ (by omega)).mono ?_
  rintro e w' ⟨rfl, rfl⟩
  go_wp2
  go_ret2
  exact Ret.of rfl hb1
theorem Bq.neg {k : Nat} {q : Rat} (h : Bq k q) : Bq k (-q) := by
  unfold Bq at *
  rw [Rat.neg_num, Rat.neg_den, Int.natAbs_neg]
  exact h
theorem ratNeg (q : Rat) (k : Nat) (w : World) (hg : Glob w) (hq : Bq k q) (hk : k ≤ 1024) :
    Calls Tryz.prog 129 #[.string (bs (R q))] w (Ret w (.tuple #[.string (bs (R (-q))), .int .i64 0])) := by
  have HP := Lib.hid (rparts_ok q k w hg hq hk)
  have HN := Lib.hid (fun wx => neg_I q.num wx (hq.num hk))
  have hq' := Bq.neg hq
  have hj := fun wx => joined_R (-q) wx (by have := (hq'.num hk).len; omega) (by have := (hq'.den hk).len; omega)
  rw [Rat.neg_num, Rat.neg_den] at hj
  have HJ := Lib.hid hj
  clear hq hq' hj
  generalize R (-q) = r at *
  generalize I (-q.num) = na at *
  generalize I q.num = a at *
  generalize I (q.den : Int) = b at *
  generalize R q = s at *
  go_enter Tryz.func129, Tryz.ntmps129
  go_wp2_with fail
  refine (HP.out).mono ?_
  rintro e w1 ⟨rfl, hb1⟩
  go_wp2_with fail
  refine (HN.out _).mono ?_
  rintro e w2 ⟨rfl, hb2⟩
  go_wp2_with fail
  refine (HJ.out w2).mono ?_
  rintro e w3 ⟨rfl, rfl⟩
  go_wp2
  go_ret2
  exact Ret.of rfl (Below.then hb1 hb2)
theorem ent_divc : Enters Tryz.prog 230 := enters_of Tryz.func230 (by kernel_rfl) rfl
theorem div_c (b : Nat) (n p m q : Int) (w : World) (hg : Glob w) (hs : NoErr w b) (hn : Ok n) (hp : Ok p) (hm : Ok m) (hq : Ok q) (h1 : Ok (n * q)) (h4 : Ok (p * m)) :
    Calls Tryz.prog 230 #[.pointer (some ⟨b, 0, none⟩), .string (bs (I n)), .string (bs (I p)), .string (bs (I m)), .string (bs (I q))] w (Ret w (.tuple #[.string (bs (I (n * q))), .string (bs (I (p * m)))])) := by
  have H1 := Lib.hid (fun w' hg hs => smul_two b n q w' hg hs hn hq h1)
  have H4 := Lib.hid (fun w' hg hs => smul_two b p m w' hg hs hp hm h4)
  have HS := Lib.hid hs
  have hbl := hs.lt
  clear hs hn hp hm hq h1 h4
  go_enter Tryz.func230, Tryz.ntmps230
  go_wp2_with fail
  refine (H1.out _ hg HS.out).mono ?_
  rintro e w1 ⟨rfl, hb1⟩
  have hb1 := alloc_then hb1
  go_wp2_with fail
  refine (H4.out _ (hg.of hb1) (HS.out.below' hb1)).mono ?_
  rintro e w4 ⟨rfl, hb4⟩
  have hb4 := Below.then hb1 (alloc_then hb4)
  go_wp2
  go_ret2
  exact Ret.of rfl hb4
theorem div_div (a b : Rat) : Rat.divInt (a.num * (b.den : Int)) ((a.den : Int) * b.num) = a / b := by
  conv => rhs; rw [← Rat.num_divInt_den a, ← Rat.num_divInt_den b]
  rw [Rat.divInt_eq_div, Rat.divInt_eq_div, Rat.divInt_eq_div, Rat.intCast_mul, Rat.intCast_mul]
  grind
theorem ratDiv (a b : Rat) (j k : Nat) (w : World) (hg : Glob w) (ha : Bq j a) (hb : Bq k b) (h0 : b ≠ 0) (hjk : j + k ≤ 1024) :
    Calls Tryz.prog 196 #[.string (bs (R a)), .string (bs (R b))] w (Ret w (.tuple #[.string (bs (R (a / b))), .int .i64 0])) := by
  have h1 := mul_pow ha.1 (den_abs hb)
  have h4 := mul_pow (den_abs ha) hb.1
  have hn0 : b.num ≠ 0 := fun e => h0 (Rat.num_eq_zero.1 e)
  have hd0 : (a.den : Int) * b.num ≠ 0 := Int.mul_ne_zero (by have := a.den_pos; omega) hn0
  have HM := Lib.hid (fun wx hgx => made_ok 230 a b (a.num * (b.den : Int)) ((a.den : Int) * b.num) j k wx ent_divc hgx ha hb (by omega) (by omega) (ok_pow h1 (by omega)) (ok_pow h4 (by omega)) hd0
    (fun wy bx hgy hsx => div_c bx _ _ _ _ wy hgy hsx (ha.num (by omega)) (ha.den (by omega)) (hb.num (by omega)) (hb.den (by omega)) (ok_pow h1 (by omega)) (ok_pow h4 (by omega))))
  rw [div_div] at HM
  have la := ha.R_len (by omega)
  have lb := hb.R_len (by omega)
  have hc := checks_two (R a) (R b) w hg (by omega) (by omega)
  rw [show chkRs [R a, R b] = 0 by simp [chkRs, ha.chk (by omega), hb.chk (by omega)]] at hc
  have HC := Lib.hid hc
  have hz : (R b == [48]) = false := by
    rw [beq_eq_false_iff_ne]
    intro e
    rw [← R_nil] at e
    exact h0 (R_inj e)
  have HAL := Lib.hid ((Below.refl w.heap.size w).alloc (Nat.le_refl _) (.cells #[.string (bs (R a)), .string (bs (R b))] 29))
  clear h1 h4 hd0 hn0 ha hb h0 hc la lb
  generalize R (a / b) = r at *
  generalize R a = p at *
  generalize R b = q at *
  go_enter Tryz.func196, Tryz.ntmps196
  go_wp2_with fail
  refine (HC.out).mono ?_
  rintro e w1 ⟨rfl, hb1⟩
  have hb1' := HAL.out.trans (hb1.mono HAL.out.size)
  go_wp2_with fail
  refine (HM.out _ (hg.of hb1')).mono ?_
  rintro e w2 ⟨rfl, hb2⟩
  go_wp2
  go_ret2
  exact Ret.of rfl (Below.then hb1' hb2)
end W
end Go.Proofs.YtijpgddpejiohaaGreatDoor
end
section
namespace Go.Proofs.YtijpgddpejiohaaGreatDoor
open Go Go.RowKit Go.Deep
/-- The texts lie at ⟨b, o⟩. -/
structure TSl (w : World) (b o : Nat) (l : List (List UInt8)) : Prop where
  lt : b < w.heap.size
  val : ∀ i (h : i < l.length), w.cell? ⟨b, o + i, none⟩ = some (.string (bs l[i]))
theorem TSl.below' {w w' : World} {b o : Nat} {l : List (List UInt8)} (h : TSl w b o l) (hb : Below w.heap.size w w') : TSl w' b o l :=
  ⟨Nat.lt_of_lt_of_le h.lt hb.size, fun i hi => (hb.cell (by exact h.lt)).trans (h.val i hi)⟩
/-- A slice as the language has it: nil, or with a block. -/
def Shp (v : Value) : Prop := v = .slice none 0 0 ∨ ∃ a n c, v = .slice (some a) n c
/-- A value that reads as a list of texts. -/
def RdT (w : World) (v : Value) (l : List (List UInt8)) : Prop := ∃ A cap, v = .slice A l.length cap ∧ (l = [] ∨ ∃ b o, A = some ⟨b, o, none⟩ ∧ TSl w b o l)
theorem RdT.below {w w' : World} {v : Value} {l : List (List UInt8)} (h : RdT w v l) (hb : Below w.heap.size w w') : RdT w' v l := by
  obtain ⟨A, cap, e, h2⟩ := h
  refine ⟨A, cap, e, ?_⟩
  rcases h2 with h2 | ⟨b, o, e2, h3⟩
  · exact Or.inl h2
  · exact Or.inr ⟨b, o, e2, h3.below' hb⟩
theorem RdT.len {w : World} {v : Value} {l : List (List UInt8)} (h : RdT w v l) : ∃ A cap, v = .slice A l.length cap := by
  obtain ⟨A, cap, e, _⟩ := h; exact ⟨A, cap, e⟩
theorem RdT.row {w : World} {A : Option Addr} {n cap : Nat} {l : List (List UInt8)} (h : RdT w (.slice A n cap) l) (i : Nat) (hi : i < l.length) : ∃ b o, A = some ⟨b, o, none⟩ ∧ TSl w b o l := by
  obtain ⟨A', cap', e, h2⟩ := h
  injection e with e
  subst e
  exact h2.resolve_left (fun e => by rw [e] at hi; cases hi)
namespace M
/-- A bound on the wire: the texts of its row, and that of its right side. -/
abbrev BT := List (List UInt8) × List UInt8
end M
/-- The bounds lie at ⟨b, o⟩. -/
structure BSl (w : World) (b o : Nat) (l : List M.BT) : Prop where
  lt : b < w.heap.size
  row : ∀ i (h : i < l.length), ∃ u, w.cell? ⟨b, o + i * 2, none⟩ = some u ∧ RdT w u l[i].1 ∧ Shp u
  most : ∀ i (h : i < l.length), w.cell? ⟨b, o + i * 2 + 1, none⟩ = some (.string (bs l[i].2))
theorem BSl.below' {w w' : World} {b o : Nat} {l : List M.BT} (h : BSl w b o l) (hb : Below w.heap.size w w') : BSl w' b o l :=
  ⟨Nat.lt_of_lt_of_le h.lt hb.size, fun i hi => by
    obtain ⟨u, h1, h2, h3⟩ := h.row i hi
    exact ⟨u, (hb.cell (by exact h.lt)).trans h1, h2.below hb, h3⟩, fun i hi => (hb.cell (by exact h.lt)).trans (h.most i hi)⟩
/-- A value that reads as a list of bounds. -/
def RdB (w : World) (v : Value) (l : List M.BT) : Prop := ∃ A cap, v = .slice A l.length cap ∧ (l = [] ∨ ∃ b o, A = some ⟨b, o, none⟩ ∧ BSl w b o l)
theorem RdB.below {w w' : World} {v : Value} {l : List M.BT} (h : RdB w v l) (hb : Below w.heap.size w w') : RdB w' v l := by
  obtain ⟨A, cap, e, h2⟩ := h
  refine ⟨A, cap, e, ?_⟩
  rcases h2 with h2 | ⟨b, o, e2, h3⟩
  · exact Or.inl h2
  · exact Or.inr ⟨b, o, e2, h3.below' hb⟩
theorem RdB.len {w : World} {v : Value} {l : List M.BT} (h : RdB w v l) : ∃ A cap, v = .slice A l.length cap := by
  obtain ⟨A, cap, e, _⟩ := h; exact ⟨A, cap, e⟩
theorem RdB.row {w : World} {A : Option Addr} {n cap : Nat} {l : List M.BT} (h : RdB w (.slice A n cap) l) (i : Nat) (hi : i < l.length) : ∃ b o, A = some ⟨b, o, none⟩ ∧ BSl w b o l := by
  obtain ⟨A', cap', e, h2⟩ := h
  injection e with e
  subst e
  exact h2.resolve_left (fun e => by rw [e] at hi; cases hi)
namespace M
theorem chkRs_drop (l : List (List UInt8)) (i : Nat) (h : i < l.length) : chkRs (l.drop i) = if chkR l[i] = 0 then chkRs (l.drop (i + 1)) else chkR l[i] := by
  rw [List.drop_eq_getElem_cons h, chkRs]
theorem chkRs_append : ∀ (a b : List (List UInt8)), chkRs (a ++ b) = if chkRs a = 0 then chkRs b else chkRs a
  | [], b => rfl
  | x :: t, b => by
    rw [List.cons_append, chkRs, chkRs]
    by_cases h : chkR x = 0
    · rw [if_pos h, if_pos h, chkRs_append t b]
    · rw [if_neg h, if_neg h, if_neg h]
/-- The number of the error of a bound, of bounds, of all. -/
noncomputable def chkB1 (n : Int) (b : BT) : Nat := if (b.1.length : Int) ≠ n then 8 else chkRs (b.1 ++ [b.2])
noncomputable def chkBs (n : Int) : List BT → Nat
  | [] => 0
  | b :: t => if chkB1 n b = 0 then chkBs n t else chkB1 n b
theorem chkBs_drop (n : Int) (l : List BT) (i : Nat) (h : i < l.length) : chkBs n (l.drop i) = if chkB1 n l[i] = 0 then chkBs n (l.drop (i + 1)) else chkB1 n l[i] := by
  rw [List.drop_eq_getElem_cons h, chkBs]
end M
end Go.Proofs.YtijpgddpejiohaaGreatDoor
end
section
namespace Go.Proofs.YtijpgddpejiohaaGreatDoor
open Go Go.RowKit Go.ChangeShapes Go.WideShapes Go.ChangeAt Go.Deep
namespace Fin
set_option maxRecDepth 20000
theorem own : ownKnob Tryz.prog.godebug = none := by kernel_rfl
theorem laid_each {P : Program} {W : World} : ∀ {l : List (String × DataW Unit)} {ps : List MemPlace}, DataW.LaidVars P W l ps → ∀ n d, (n, d) ∈ l →
    ∃ g t cs fuel p, P.globalNamed n = some g ∧ (P.globals[g]?).map (·.type) = some t ∧ W.var? P n = some cs ∧ DataW.trod (fun _ => ()) P W 0 (fun _ => true) false fuel t cs.toList = some (d, p)
  | [], _, _, n, d, hm => by cases hm
  | (n0, d0) :: r, ps, h, n, d, hm => by
    obtain ⟨g, t, cs, fuel, p, q, h1, h2, h3, h4, h5, _⟩ := h
    rcases List.mem_cons.1 hm with e | hm
    · cases e
      exact ⟨g, t, cs, fuel, p, h1, h2, h3, h4⟩
    · exact laid_each h5 n d hm
theorem laid_tab {P : Program} {W : World} {l : List (String × DataW Unit)} {name : String} {k : IntKind} {zs : List Int} {g : Nat} {t e : TypeId} {n : Nat}
    (hg : P.globalNamed name = some g) (hty : (P.globals[g]?).map (·.type) = some t) (ht : P.underlying t = some (.array n e)) (he : P.underlying e = some (.int k)) (hce : P.cellsOf e = 1) (hct : P.cellsOf t = n)
    (h : laidMet P l W) (hm : (name, Lib.tabData k zs) ∈ l) : Lib.TabIs P W name k zs := by
  obtain ⟨ps, hl, _⟩ := h
  obtain ⟨g', t', cs, fuel, p, hg', ht', hvar, hd⟩ := laid_each hl name _ hm
  obtain rfl := Option.some.inj (hg.symm.trans hg')
  obtain rfl := Option.some.inj (hty.symm.trans ht')
  unfold Lib.TabIs
  rw [hvar, ← Lib.cells_of_tab ht he hce hct hd]
theorem laid_lt {P : Program} {W : World} {l : List (String × DataW Unit)} {name : String} {d : DataW Unit} {g : Nat} (hg : P.globalNamed name = some g) (h : laidMet P l W) (hm : (name, d) ∈ l) : g < W.heap.size := by
  obtain ⟨ps, hl, _⟩ := h
  obtain ⟨g', t', cs, fuel, p, hg', _, hvar, _⟩ := laid_each hl name d hm
  obtain rfl := Option.some.inj (hg.symm.trans hg')
  unfold World.var? at hvar
  rw [hg] at hvar
  simp only [Option.bind_some] at hvar
  rcases Nat.lt_or_ge g W.heap.size with h | h
  · exact h
  · rw [Array.getElem?_eq_none h] at hvar; cases hvar
theorem gPowType : (Tryz.prog.globals[1]?).map (·.type) = some 295 := by kernel_rfl
theorem cellsPow : Tryz.prog.cellsOf 295 = 20 := by kernel_rfl
theorem cellsU64 : Tryz.prog.cellsOf 206 = 1 := by kernel_rfl
theorem gLast : Tryz.prog.globalNamed "math/bits.deBruijn64tab" = some 7 := by kernel_rfl
/-- The variables that every row of this seat lists. -/
def lists : List (String × DataW Unit) := [("math/bits.deBruijn32tab", Rows.laid_math_bits_deBruijn32tab), ("math/bits.deBruijn64tab", Rows.laid_math_bits_deBruijn64tab), ("internal/strconv.uint64pow10", Rows.laid_internal_strconv_uint64pow10), ("unicode/utf8.acceptRanges", Rows.laid_unicode_utf8_acceptRanges), ("strconv.ErrRange", Rows.laid_strconv_ErrRange), ("strconv.ErrSyntax", Rows.laid_strconv_ErrSyntax), ("unicode/utf8.first", Rows.laid_unicode_utf8_first)]
theorem pow_laid : (Rows.laid_internal_strconv_uint64pow10 : DataW Unit) = Lib.tabData .u64 Lib.pow10Tab := by kernel_rfl
theorem noHandle : (lists.filter fun x => x.2.handleName?.isSome) = [] := by kernel_rfl
theorem glob {W : World} (h : laidMetH Tryz.prog lists W) (hs : W.ShapedOpen Tryz.prog) : Glob W := by
  unfold laidMetH at h
  rw [noHandle] at h
  refine ⟨?_, ?_, ?_⟩
  · exact cell_of_shapedOpen_int (t := 3) (zero := #[.int .i64 0]) hs (of_decide_eq_true (by kernel_rfl)) (by kernel_rfl) rfl (by kernel_rfl) (by kernel_rfl) Tryz.underlying3
  · exact laid_tab gTab gPowType Tryz.underlying295 Tryz.underlying206 cellsU64 cellsPow h (by rw [← pow_laid]; simp [lists])
  · have := laid_lt (d := Rows.laid_math_bits_deBruijn64tab) gLast h (by unfold lists; exact List.mem_cons_of_mem _ (List.mem_cons_self ..))
    omega
theorem cellsRat : Tryz.prog.cellsOf 29 = 1 := by kernel_rfl
theorem cellsBd : Tryz.prog.cellsOf 31 = 2 := by kernel_rfl
theorem cellsSl : Tryz.prog.cellsOf 23 = 1 := by kernel_rfl
theorem cell_lt1 {w : World} {a : Addr} {v : Value} (h : w.cell? a = some v) : a.block < w.heap.size := by
  rcases Nat.lt_or_ge a.block w.heap.size with h1 | h1
  · exact h1
  · unfold World.cell? at h; rw [Array.getElem?_eq_none h1] at h; cases h
theorem bs_size {l : List UInt8} (h : (bs l).size ≤ maxLen) : l.length ≤ maxLen := by
  have e : (bs l).size = l.length := by simp [bs, ByteArray.size]
  omega
def txOf {H : Type} : DataW H → List UInt8
  | .lit (.string s) => s
  | _ => []
/-- A cell that is a list of texts. -/
theorem cell_tl {H : Type} {enc : TypeId × Value → H} {W : World} {fuel : Nat} {v : Value} {x : DataW H × List MemPlace} (hf : DataW.trod enc Tryz.prog W 0 (fun _ => true) true fuel 23 [v] = some x) :
    ∃ l : List (List UInt8), RdT W v l ∧ Shp v ∧ l.length ≤ maxLen ∧ ∀ p ∈ l, p.length ≤ maxLen := by
  rcases open_slice Tryz.underlying23 hf with ⟨hcs, _⟩ | ⟨a, len, cap, m, n, D, Pl, hcs, _, hl, hm, hmm, _, hi⟩
  · simp only [List.cons.injEq, and_true] at hcs
    subst hcs
    exact ⟨[], ⟨_, _, rfl, Or.inl rfl⟩, Or.inl rfl, Nat.zero_le _, fun x hx => by cases hx⟩
  · simp only [List.cons.injEq, and_true] at hcs
    subst hcs
    simp only [if_true] at hmm
    subst hmm
    clear hf
    rw [cellsRat] at hi
    have hel : ∀ i, i < len → ∃ (s : ByteArray), W.cell? (a.add i) = some (.string s) ∧ txOf (D i) = s.data.toList ∧ s.size ≤ maxLen := by
      intro i hil
      obtain ⟨cs', hc, ht⟩ := hi i (by omega)
      obtain ⟨s, hs, hx, hsz⟩ := DataW.trod_string Tryz.underlying29 ht
      subst hs
      obtain ⟨_, _, hat⟩ := World.cells?_some hc
      have c0 := hat 0 (by decide)
      rw [Go.Deep.add_add, Nat.mul_one] at c0
      have e : D i = .lit (.string s.data.toList) := (Prod.mk.inj hx).1
      exact ⟨s, c0, by rw [e]; rfl, hsz⟩
    refine ⟨(List.range len).map fun i => txOf (D i), ⟨some a, m, by simp, ?_⟩, Or.inr ⟨_, _, _, rfl⟩, by simp; omega, ?_⟩
    · by_cases h0 : len = 0
      · left; subst h0; rfl
      · right
        obtain ⟨s, c0, _⟩ := hel 0 (by omega)
        obtain ⟨b, off, spot⟩ := a
        have hspot : spot = none := by simpa [Addr.add] using World.cell?_spot c0
        subst hspot
        have hadd : ∀ j, (⟨b, off, none⟩ : Addr).add j = ⟨b, off + j, none⟩ := by
          intro j; unfold Addr.add; split <;> simp_all
        refine ⟨b, off, rfl, cell_lt1 c0, fun i hil => ?_⟩
        obtain ⟨s, c0, hw, _⟩ := hel i (by simpa using hil)
        rw [hadd] at c0
        simp [hw, c0]
        rfl
    · intro x hx
      obtain ⟨i, hil, rfl⟩ := List.mem_map.1 hx
      obtain ⟨s, _, hw, hs⟩ := hel i (by simpa using hil)
      rw [hw]
      show s.data.toList.length ≤ maxLen
      rw [Array.length_toList]
      exact hs
/-- An argument that is a list of texts. -/
theorem open_tl {H : Type} {enc : TypeId × Value → H} {W : World} {v : Value} {d : DataW H} {p : List MemPlace}
    (hv : ∃ a len cap, v = .slice a len cap) (h : DataW.Trod enc Tryz.prog W 0 (fun _ => true) true 23 v d p) :
    ∃ l : List (List UInt8), RdT W v l ∧ Shp v ∧ l.length ≤ maxLen ∧ ∀ p ∈ l, p.length ≤ maxLen := by
  obtain ⟨fuel, hf⟩ := h
  obtain ⟨a0, len0, cap0, rfl⟩ := hv
  exact cell_tl hf
/-- Two cells that are a bound. -/
theorem elt_bd {H : Type} {enc : TypeId × Value → H} {W : World} {n : Nat} {cs : List Value} {x : DataW H × List MemPlace} (h : DataW.trod enc Tryz.prog W 0 (fun _ => true) true n 31 cs = some x) :
    ∃ (u : Value) (r : List (List UInt8)) (s : List UInt8), cs = [u, .string (bs s)] ∧ RdT W u r ∧ Shp u ∧ r.length ≤ maxLen ∧ (∀ p ∈ r, p.length ≤ maxLen) ∧ s.length ≤ maxLen := by
  obtain ⟨xs, k, _, rfl, hlen, hxl, hf⟩ := DataW.trod_struct Tryz.underlying31 h
  rw [cellsBd] at hlen
  match cs, hlen with
  | [c0, c1], _ =>
    have h0 := hf 0 _ rfl
    have h1 := hf 1 _ rfl
    change DataW.trod enc Tryz.prog W 0 (fun _ => true) true k 23 ((([c0, c1] : List Value).drop 0).take (Tryz.prog.cellsOf 23)) = xs[0]? at h0
    change DataW.trod enc Tryz.prog W 0 (fun _ => true) true k 29 ((([c0, c1] : List Value).drop 1).take (Tryz.prog.cellsOf 29)) = xs[1]? at h1
    rw [cellsSl] at h0
    rw [cellsRat] at h1
    change DataW.trod enc Tryz.prog W 0 (fun _ => true) true k 23 [c0] = xs[0]? at h0
    change DataW.trod enc Tryz.prog W 0 (fun _ => true) true k 29 [c1] = xs[1]? at h1
    match xs, hxl with
    | [x0, x1], _ =>
      simp only [List.getElem?_cons_zero, List.getElem?_cons_succ] at h0 h1
      obtain ⟨r, hr, hs, hn, hp⟩ := cell_tl h0
      obtain ⟨s, hs1, _, hsz⟩ := DataW.trod_string Tryz.underlying29 h1
      simp only [List.cons.injEq, and_true] at hs1
      subst hs1
      obtain ⟨q, rfl⟩ := bs_of s
      exact ⟨c0, r, q, rfl, hr, hs, hn, hp, bs_size hsz⟩
/-- An argument that is a list of bounds. -/
theorem open_bl {H : Type} {enc : TypeId × Value → H} {W : World} {v : Value} {d : DataW H} {p : List MemPlace}
    (hv : ∃ a len cap, v = .slice a len cap) (h : DataW.Trod enc Tryz.prog W 0 (fun _ => true) true 22 v d p) :
    ∃ l : List M.BT, RdB W v l ∧ l.length ≤ maxLen ∧ ∀ b ∈ l, b.1.length ≤ maxLen ∧ (∀ p ∈ b.1, p.length ≤ maxLen) ∧ b.2.length ≤ maxLen := by
  obtain ⟨fuel, hf⟩ := h
  obtain ⟨a0, len0, cap0, rfl⟩ := hv
  have hf' : DataW.trod enc Tryz.prog W 0 (fun _ => true) true fuel 22 [.slice a0 len0 cap0] = some (d, p) := hf
  rcases open_slice Tryz.underlying22 hf' with ⟨hcs, _⟩ | ⟨a, len, cap, m, n, D, Pl, hcs, _, hl, hm, hmm, _, hi⟩
  · simp at hcs
    obtain ⟨rfl, rfl, rfl⟩ := hcs
    exact ⟨[], ⟨_, _, rfl, Or.inl rfl⟩, Nat.zero_le _, fun x hx => by cases hx⟩
  · simp at hcs
    obtain ⟨rfl, rfl, rfl⟩ := hcs
    simp only [if_true] at hmm
    subst hmm
    clear hf hf'
    rw [cellsBd] at hi
    have hel : ∀ i, i < len0 → ∃ b : M.BT × Value, W.cell? (a.add (i * 2)) = some b.2 ∧ W.cell? (a.add (i * 2 + 1)) = some (.string (bs b.1.2)) ∧ RdT W b.2 b.1.1 ∧ Shp b.2 ∧ b.1.1.length ≤ maxLen ∧ (∀ p ∈ b.1.1, p.length ≤ maxLen) ∧ b.1.2.length ≤ maxLen := by
      intro i hil
      obtain ⟨cs', hc, ht⟩ := hi i (by omega)
      obtain ⟨u, r, s, rfl, h1, h2, h3, h4, h5⟩ := elt_bd ht
      obtain ⟨_, _, hat⟩ := World.cells?_some hc
      have c0 := hat 0 (by decide)
      have c1 := hat 1 (by decide)
      rw [Go.Deep.add_add] at c0 c1
      exact ⟨((r, s), u), c0, c1, h1, h2, h3, h4, h5⟩
    obtain ⟨F, hF⟩ : ∃ F : Nat → M.BT × Value, ∀ i, i < len0 → W.cell? (a.add (i * 2)) = some (F i).2 ∧ W.cell? (a.add (i * 2 + 1)) = some (.string (bs (F i).1.2)) ∧ RdT W (F i).2 (F i).1.1 ∧ Shp (F i).2 ∧ (F i).1.1.length ≤ maxLen ∧ (∀ p ∈ (F i).1.1, p.length ≤ maxLen) ∧ (F i).1.2.length ≤ maxLen :=
      ⟨fun i => if h : i < len0 then (hel i h).choose else (([], []), .slice none 0 0), fun i hil => by
        simp only [dif_pos hil]
        exact (hel i hil).choose_spec⟩
    refine ⟨(List.range len0).map fun i => (F i).1, ⟨some a, m, by simp, ?_⟩, by simp; omega, ?_⟩
    · by_cases h0 : len0 = 0
      · left; subst h0; rfl
      · right
        obtain ⟨c0, _⟩ := hF 0 (by omega)
        obtain ⟨b, off, spot⟩ := a
        have hspot : spot = none := by simpa [Addr.add] using World.cell?_spot c0
        subst hspot
        have hadd : ∀ j, (⟨b, off, none⟩ : Addr).add j = ⟨b, off + j, none⟩ := by
          intro j; unfold Addr.add; split <;> simp_all
        refine ⟨b, off, rfl, cell_lt1 c0, fun i hil => ?_, fun i hil => ?_⟩
        · obtain ⟨c0, c1, h1, h2, _⟩ := hF i (by simpa using hil)
          rw [hadd] at c0
          refine ⟨_, c0, ?_, h2⟩
          simpa using h1
        · obtain ⟨c0, c1, h1, h2, _⟩ := hF i (by simpa using hil)
          rw [hadd] at c1
          rw [show off + i * 2 + 1 = off + (i * 2 + 1) by omega, c1]
          simp
    · intro x hx
      obtain ⟨i, hil, rfl⟩ := List.mem_map.1 hx
      obtain ⟨_, _, _, _, h3, h4, h5⟩ := hF i (by simpa using hil)
      exact ⟨h3, h4, h5⟩
theorem okWide_array {P : Program} {w : World} {r : Reach} {base n : Nat} {t e : TypeId} {v : Value} (ht : P.underlying t = some (.array n e)) (h : Value.okWide P w r base t v) : ∃ cs, v = .agg cs ∧ cs.size = P.cellsOf t := by
  simp only [Value.okWide, ht] at h
  obtain ⟨cs, h1, h2, _⟩ := h
  exact ⟨cs, h1, h2⟩
theorem cellsAr : Tryz.prog.cellsOf 24 = 2 := by kernel_rfl
/-- An argument that is a pair of lists of texts. -/
theorem open_al {H : Type} {enc : TypeId × Value → H} {W : World} {r : Reach} {b0 : Nat} {v : Value} {d : DataW H} {p : List MemPlace} (hv : Value.okWide Tryz.prog W r b0 24 v)
    (h : DataW.Trod enc Tryz.prog W 0 (fun _ => true) true 24 v d p) :
    ∃ (v0 v1 : Value) (l0 l1 : List (List UInt8)), v = .agg #[v0, v1] ∧ RdT W v0 l0 ∧ RdT W v1 l1 ∧ l0.length ≤ maxLen ∧ (∀ p ∈ l0, p.length ≤ maxLen) ∧ l1.length ≤ maxLen ∧ ∀ p ∈ l1, p.length ≤ maxLen := by
  obtain ⟨cs, rfl, hsz⟩ := okWide_array Tryz.underlying24 hv
  rw [cellsAr] at hsz
  obtain ⟨c0, c1, rfl⟩ : ∃ c0 c1, cs = #[c0, c1] := by
    obtain ⟨l⟩ := cs
    match l, hsz with
    | [c0, c1], _ => exact ⟨c0, c1, rfl⟩
  obtain ⟨fuel, hf⟩ := h
  have hf' : DataW.trod enc Tryz.prog W 0 (fun _ => true) true fuel 24 [c0, c1] = some (d, p) := hf
  obtain ⟨xs, k, _, _, _, hxl, hel⟩ := DataW.trod_array Tryz.underlying24 hf'
  have h0 := hel 0 (by decide)
  have h1 := hel 1 (by decide)
  rw [cellsSl] at h0 h1
  change DataW.trod enc Tryz.prog W 0 (fun _ => true) true k 23 [c0] = xs[0]? at h0
  change DataW.trod enc Tryz.prog W 0 (fun _ => true) true k 23 [c1] = xs[1]? at h1
  match xs, hxl with
  | [x0, x1], _ =>
    simp only [List.getElem?_cons_zero, List.getElem?_cons_succ] at h0 h1
    obtain ⟨l0, a1, _, a2, a3⟩ := cell_tl h0
    obtain ⟨l1, b1, _, b2, b3⟩ := cell_tl h1
    exact ⟨c0, c1, l0, l1, rfl, a1, b1, a2, a3, b2, b3⟩
theorem laidOut : laidOutB Tryz.prog = true := by kernel_rfl
theorem below_all {H : Type} {enc : TypeId × Value → H} {P : Program} (hl : laidOutB P = true) {W W' : World} (hb : Below W.heap.size W W') :
    ∀ (ts : List TypeId) (vs : List Value) (ds : List (DataW H)) (ps : List MemPlace), DataW.TrodAll enc P W 0 (fun _ => true) true ts vs ds ps →
      (ts.all fun t => P.readableRec t && decide (t < P.types.size)) = true → (∀ x ∈ ps, x.block < W.heap.size) → DataW.TrodAll enc P W' 0 (fun b => decide (b < W.heap.size)) true ts vs ds ps := by
  intro ts
  induction ts with
  | nil =>
    intro vs ds ps h _ _
    cases vs <;> cases ds <;> exact h
  | cons t ts ih =>
    intro vs ds ps h ht hlt
    cases vs with
    | nil => exact h.elim
    | cons v vs =>
      cases ds with
      | nil => exact h.elim
      | cons d ds =>
        obtain ⟨p, q, h1, h2, rfl⟩ := h
        rw [List.all_cons, Bool.and_eq_true, Bool.and_eq_true, decide_eq_true_eq] at ht
        exact ⟨p, q, Below.trod hl ht.1.1 ht.1.2 h1 hb (fun x hx => hlt x (by simp [hx])), ih vs ds q h2 ht.2 (fun x hx => hlt x (by simp [hx])), rfl⟩
theorem post_true {H : Type} {enc : TypeId × Value → H} {f : Func} {s : ChangeSpec} {W W' : World} {args : Array Value} {ds : List (DataW H)} {before : List MemPlace}
    (hW : DataW.Whole enc Tryz.prog f.params.toList s.vars false W args.toList ds [] before) (hfn : s.fn H (ds ++ []) = { results := [.lit (.bool true)], args := ds }) (hv : s.vars = []) (hrt : f.resultTypes = #[4])
    (ht : (f.params.toList.all fun t => Tryz.prog.readableRec t && decide (t < Tryz.prog.types.size)) = true) (hb : Below W.heap.size W W') :
    s.post enc Tryz.prog f false true false false W args (.bool true) W' := by
  have hW' := hW
  obtain ⟨p, q, hA, hV, rfl, hfz, hnd⟩ := hW
  have hq : q = [] := by rw [hv] at hV; exact (trodVars_none hV).2
  subst hq
  refine ⟨ds, [], p ++ [], [], p, [], hW', ?_, ?_, ?_, hb.frame _, fun h => by cases h⟩
  · rw [hfn, hrt]
    exact trodAll_cons_mk (shut_bool Tryz.underlying4 true) trodAll_mk0
  · rw [hfn]
    exact below_all laidOut hb _ _ _ _ hA ht (fun x hx => hW'.lt x (by simp [hx]))
  · rw [hfn, hv]
    exact rfl
end Fin
end Go.Proofs.YtijpgddpejiohaaGreatDoor
end
section
namespace Go.Proofs.YtijpgddpejiohaaGreatDoor
open Go Go.RowKit Go.ChangeShapes Go.WideShapes Go.ChangeAt Go.Deep
namespace Fin
set_option maxRecDepth 20000
abbrev rngS : ByteArray := { data := #[118, 97, 108, 117, 101, 32, 111, 117, 116, 32, 111, 102, 32, 114, 97, 110, 103, 101] }
abbrev synS : ByteArray := { data := #[105, 110, 118, 97, 108, 105, 100, 32, 115, 121, 110, 116, 97, 120] }
/-- The cells of a datum that is a table. -/
def cellsOfD : DataW Unit → List Value
  | .lit (.int k n) => [.int k n]
  | .agg l => l.flatMap fun
    | .lit (.int k n) => [.int k n]
    | .agg l2 => l2.map fun
      | .lit (.int k n) => .int k n
      | _ => .int .u8 0
    | _ => []
  | _ => []
noncomputable def low : Nat := (World.holding Tryz.prog default ⟨#[], #[], []⟩).heap.size
/-- Block g holds the cells cs. -/
def lay (h : Array Obj) (g : Nat) (cs : List Value) : Array Obj := h.modify g fun
  | .cells _ t frozen => .cells cs.toArray t frozen
  | o => o
noncomputable def laidWorld (os : Os) : World :=
  let w0 := World.holding Tryz.prog os ⟨#[.cells #[.string rngS] 314, .cells #[.string synS] 314], #[], []⟩
  { w0 with heap := lay (lay (lay (lay (lay (lay (lay w0.heap 6 (cellsOfD Rows.laid_math_bits_deBruijn32tab)) 7 (cellsOfD Rows.laid_math_bits_deBruijn64tab))
      1 (cellsOfD Rows.laid_internal_strconv_uint64pow10)) 5 (cellsOfD Rows.laid_unicode_utf8_acceptRanges)) 4 (cellsOfD Rows.laid_unicode_utf8_first))
      3 [.iface 312 (.pointer (some ⟨low, 0, none⟩))]) 2 [.iface 312 (.pointer (some ⟨low + 1, 0, none⟩))] }
theorem laid_met (os : Os) (args : Array Value) : laidMet Tryz.prog lists ((laidWorld os).forCall (fun _ _ => 0) ⟨#[], args, []⟩).memory :=
  laidMet_of_run' 8 (by kernel_rfl) (by kernel_rfl)
end Fin
end Go.Proofs.YtijpgddpejiohaaGreatDoor
end
section
namespace Go.Proofs.YtijpgddpejiohaaGreatDoor
open Go Go.RowKit Go.Deep
namespace M
/-- A bound: its row and its right side. -/
abbrev BQ := List Rat × Rat
structure Tb where
  n : Nat
  m : Nat
  rows : List (List Rat)
  basis : List Nat
  goal : List Rat
  deriving DecidableEq
def Tb.wd (t : Tb) : Nat := 2 * t.n + t.m + 1
def zs (k : Nat) : List Rat := List.replicate k 0
/-- The row of bound number i, the unknowns with both signs. -/
def rowQ (m i : Nat) (b : BQ) : List Rat := b.1 ++ b.1.map (fun x => -x) ++ (zs m).set i 1 ++ [-1, b.2]
def laidQ (n : Nat) (l : List BQ) : Tb :=
  { n := n, m := l.length, rows := l.mapIdx fun i b => rowQ l.length i b, basis := (List.range l.length).map fun i => 2 * n + i, goal := zs (2 * n + l.length + 2) }
def nth (l : List Rat) (k : Nat) : Rat := l.getD k 0
/-- A row less a multiple of the pivot's row. -/
def dropQ (row : List Rat) (c : Nat) (p : List Rat) : List Rat := List.zipWith (fun a b => a - nth row c * b) row p
def pivRow (row : List Rat) (c : Nat) : List Rat := row.map fun x => x / nth row c
def pivotQ (t : Tb) (r c : Nat) : Tb :=
  let p := pivRow (t.rows.getD r []) c
  { t with rows := t.rows.mapIdx fun i row => if i = r then p else dropQ row c p, basis := t.basis.set r c, goal := dropQ t.goal c p }
/-- The first column that makes the goal greater. -/
def columnQ (t : Tb) (banned : Option Nat) : Option Nat := (List.range t.wd).find? fun c => decide (some c ≠ banned) && decide (0 < nth t.goal c)
def leaveF (t : Tb) (c : Nat) (s : Option (Nat × Rat)) (i : Nat) : Option (Nat × Rat) :=
  let row := t.rows.getD i []
  if nth row c ≤ 0 then s else
    let q := nth row t.wd / nth row c
    match s with
    | none => some (i, q)
    | some (b, least) => if q < least ∨ (q = least ∧ t.basis.getD i 0 < t.basis.getD b 0) then some (i, q) else some (b, least)
def leavingQ (t : Tb) (c : Nat) : Option Nat := ((List.range t.rows.length).foldl (leaveF t c) none).map (·.1)
/-- The goal made as great as possible: whether there is an end, and the table; none if the rounds do not suffice. -/
def climbQ : Nat → Option Nat → Tb → Option (Bool × Tb)
  | 0, _, _ => none
  | f + 1, banned, t =>
    match columnQ t banned with
    | none => some (true, t)
    | some c => match leavingQ t c with
      | none => some (false, t)
      | some r => climbQ f banned (pivotQ t r c)
def worstF (t : Tb) (s : Option Nat) (i : Nat) : Option Nat :=
  let v := nth (t.rows.getD i []) t.wd
  if 0 ≤ v then s else match s with
    | none => some i
    | some w => if nth (t.rows.getD w []) t.wd ≤ v then some w else some i
def worstQ (t : Tb) : Option Nat := (List.range t.rows.length).foldl (worstF t) none
/-- All right sides made not negative. -/
def readyQ (f : Nat) (t : Tb) : Option (Bool × Tb) :=
  match worstQ t with
  | none => some (true, t)
  | some w =>
    let last := t.wd - 1
    match climbQ f none (pivotQ { t with goal := t.goal.set last (-1) } w last) with
    | none => none
    | some (_, t1) =>
      if nth t1.goal t1.wd ≠ 0 then some (false, t1) else
        match t1.basis.findIdx? (· == last) with
        | none => some (true, t1)
        | some r => match (List.range last).find? fun c => decide (nth (t1.rows.getD r []) c ≠ 0) with
          | none => some (true, t1)
          | some c => some (true, pivotQ t1 r c)
def allQ (t : Tb) : List Rat := (List.range t.rows.length).foldl (fun l i => l.set (t.basis.getD i 0) (nth (t.rows.getD i []) t.wd)) (zs t.wd)
def pointQ (t : Tb) : List Rat := (List.range t.n).map fun k => nth (allQ t) k - nth (allQ t) (t.n + k)
def weightsQ (t : Tb) : List Rat := (List.range t.m).map fun i => - nth t.goal (2 * t.n + i)
def aimQ (t : Tb) (goal : List Rat) : Tb :=
  let g := goal ++ goal.map (fun x => -x) ++ zs (t.m + 2)
  { t with goal := (List.range t.rows.length).foldl (fun g i => List.zipWith (fun a b => a - nth g (t.basis.getD i 0) * b) g (t.rows.getD i [])) g }
def dotQ (a b : List Rat) : Rat := (List.zipWith (· * ·) a b).foldl (· + ·) 0
/-- What Most computes: the value, a point, the weights; or the number of the error. -/
def mostQ (f n : Nat) (l : List BQ) (goal : List Rat) : Option ((Rat × List Rat × List Rat) ⊕ Nat) :=
  match readyQ f (laidQ n l) with
  | none => none
  | some (false, _) => some (.inr 6)
  | some (true, t) => match climbQ f (some (t.wd - 1)) (aimQ t goal) with
    | none => none
    | some (false, _) => some (.inr 14)
    | some (true, t2) => some (.inl (dotQ goal (pointQ t2), pointQ t2, weightsQ t2))
/-- What Feasible computes: a point, or weights. -/
def feasQ (f n : Nat) (l : List BQ) : Option (List Rat ⊕ List Rat) :=
  match readyQ f (laidQ n l) with
  | none => none
  | some (true, t) => some (.inl (pointQ t))
  | some (false, t) => some (.inr (weightsQ t))
theorem ex1 : mostQ 10 2 [([1, 1], 4), ([-1, 0], 0), ([0, -1], 0)] [2, 3] = some (.inl (12, [0, 4], [3, 1, 0])) := by decide +kernel
theorem ex2 : feasQ 10 1 [([1], 1), ([-1], -2)] = some (.inr [1 / 2, 1 / 2]) := by decide +kernel
theorem ex3 : mostQ 10 1 [([-1], 0)] [1] = some (.inr 14) := by decide +kernel
end M
end Go.Proofs.YtijpgddpejiohaaGreatDoor
end
