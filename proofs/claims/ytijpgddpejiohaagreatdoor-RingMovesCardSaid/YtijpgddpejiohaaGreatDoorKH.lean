/-
  Chapter 3, plain: sets of numbers as lists of spans; the normal form is unique; what 'Tidy' of the reference does.
  Chapter 3, plain: the sweep over the ends of spans, and the set that it yields.
  Chapter 3, plain: union, intersection, difference and length of sets, as the program and as the reference find them.
  Numbers and their texts: what the chapters above layer 2 want. (Printed by wip/gend.py.)
  Chapter 3: lists of spans, and lists of numbers' texts, that a call makes by 'append'; and lists that are read. (Printed by wip/span.py.)
  Chapter 3: 'Check' of both sides, for spans with short ends.
  Chapter 3 of the program: 'checks', and what the methods of 'sums' do where there is no error.
  Chapter 3 of the program: 'ratio.Parts' and 'ratio.Sign'; what lies in a result that is a span.
  Layer 2 of the program: 'Neg' and 'Div' at valid numbers, where no result is too long.
  Chapter 5: lists of texts and of bounds that are read.
  What the rows' listed variables give a walk; arguments that are lists of texts and of bounds (chapter 5).
  A world for the witness: the settled one, the listed variables holding what the rows list.
  Chapter 5, plain: the simplex table over rational numbers, as the program turns it; the examples of the chapter.
  Chapter 46, plain: plates, their errors, their bounds.
  Chapter 5: the checks of lists of numbers, on both sides; the program's sums.
-/
import Derived.Test.YtijpgddpejiohaaGreatDoorKG
import Derived.Test.YtijpgddpejiohaaGreatDoorKF
import Derived.Laws.OwnMore
import Derived.Laws.StructEq
import Derived.Deep.RegionLaw
import Derived.Lib.QuietBelow
import Derived.Laws.ResultCell
import Derived.Test.YtijpgddpejiohaaGreatDoorKC
import Derived.Test.YtijpgddpejiohaaGreatDoorCards
import Derived.Test.YtijpgddpejiohaaGreatDoorTie
import Derived.ProofKit
import Derived.OpenShut
import Derived.Deep.DeepHandedRow
import Derived.Deep.DeepWitnessRowRef
import Derived.Deep.Slices
import Derived.Deep.Fields
import Derived.ChangeSame
import Derived.Shelf.Vars
section
namespace Go.Proofs.YtijpgddpejiohaaGreatDoor
open Go Go.RowKit Go.Deep
namespace M
abbrev SQ := Rat × Rat
def inS (a : SQ) (x : Rat) : Prop := a.1 ≤ x ∧ x ≤ a.2
def inL (l : List SQ) (x : Rat) : Prop := ∃ a ∈ l, inS a x
def Nf (l : List SQ) : Prop := (∀ a ∈ l, a.1 ≤ a.2) ∧ l.Pairwise fun a b => a.2 < b.1
theorem Nf.first {a : SQ} {l : List SQ} (h : Nf (a :: l)) : a.1 ≤ a.2 := h.1 a List.mem_cons_self
theorem Nf.head {a : SQ} {l : List SQ} (h : Nf (a :: l)) : ∀ b ∈ l, a.2 < b.1 := (List.pairwise_cons.1 h.2).1
theorem Nf.above {a : SQ} {l : List SQ} (h : Nf (a :: l)) {x : Rat} (hx : inL l x) : a.2 < x := by
  obtain ⟨b, hb, h1, h2⟩ := hx
  have h3 := h.head b hb
  grind
end M
end Go.Proofs.YtijpgddpejiohaaGreatDoor
end
section
namespace Go.Proofs.YtijpgddpejiohaaGreatDoor
open Go Go.RowKit Go.Deep
namespace M
def hasB (l : List SQ) (x : Rat) : Bool := l.any fun a => decide (a.1 ≤ x) && decide (x ≤ a.2)
def Endsin (l : List SQ) (es : List Rat) : Prop := ∀ a ∈ l, (a.1 ∈ es ∨ ∀ x ∈ es, a.1 < x) ∧ (a.2 ∈ es ∨ ∀ x ∈ es, a.2 < x)
end M
end Go.Proofs.YtijpgddpejiohaaGreatDoor
end
section
namespace Go.Proofs.YtijpgddpejiohaaGreatDoor
open Go Go.RowKit Go.Deep
namespace M
def IsEnds (l : List SQ) (es : List Rat) : Prop := es.Pairwise (· < ·) ∧ ∀ v, v ∈ es ↔ ∃ a ∈ l, v = a.1 ∨ v = a.2
theorem IsEnds.within {l m : List SQ} {es : List Rat} (h : IsEnds l es) (hm : ∀ a ∈ m, a ∈ l) : Endsin m es := fun a ha =>
  ⟨Or.inl ((h.2 a.1).2 ⟨a, hm a ha, Or.inl rfl⟩), Or.inl ((h.2 a.2).2 ⟨a, hm a ha, Or.inr rfl⟩)⟩
def rDif (p q : Bool) : Bool := p && !q
def midQ (p q : Rat) : Rat := (p + q) * Rat.divInt 1 2
def woP (a b : List SQ) (x : Rat) : List SQ := if rDif (hasB a x) (hasB b x) = true then [(x, x)] else []
def woS (a b : List SQ) (q x : Rat) : List SQ := if rDif (hasB a (midQ q x)) (hasB b (midQ q x)) = true then [(q, x)] else []
def wo (a b : List SQ) : Option Rat → List Rat → List SQ
  | _, [] => []
  | p, x :: t => woP a b x ++ (match p with | none => [] | some q => woS a b q x) ++ wo a b (some x) t
end M
end Go.Proofs.YtijpgddpejiohaaGreatDoor
end
section
namespace Go.Proofs.YtijpgddpejiohaaGreatDoor
open Go Go.RowKit Go.Deep
namespace M
theorem I_le {z : Int} {k : Nat} (h : z.natAbs < 10 ^ k) (hk : 1 ≤ k) : (I z).length ≤ k + 1 := I_len hk h
theorem Bq.sh {k : Nat} {q : Rat} (h : Bq k q) (hk : 1 ≤ k) (hk2 : k ≤ 39990) : Sh q :=
  ⟨Nat.le_trans (I_le h.1 hk) (by omega), Nat.le_trans (I_le (den_abs h) hk) (by omega)⟩
theorem cmpQ_ge {a b : Rat} : 0 ≤ cmpQ a b ↔ b ≤ a := by
  rcases cmpQ_cases a b with ⟨h, e⟩ | ⟨h, e⟩ | ⟨h, e⟩
  · rw [e]; constructor
    · intro h2; omega
    · intro h2; exact absurd h2 (Rat.not_le.2 h)
  · rw [e]; constructor
    · intro _; rw [h]; exact Rat.le_refl
    · intro _; omega
  · rw [e]; constructor
    · intro _; exact Rat.le_of_lt h
    · intro _; omega
theorem cmpQ_gt {a b : Rat} : 0 < cmpQ a b ↔ b < a := by
  rcases cmpQ_cases a b with ⟨h, e⟩ | ⟨h, e⟩ | ⟨h, e⟩
  · rw [e]; constructor
    · intro h2; omega
    · intro h2; exact absurd (Rat.le_of_lt h2) (Rat.not_le.2 h)
  · rw [e]; constructor
    · intro h2; omega
    · intro h2; rw [h] at h2; exact absurd h2 (Rat.lt_irrefl)
  · rw [e]; constructor
    · intro _; exact h
    · intro _; omega
theorem R_inj {a b : Rat} (h : R a = R b) : a = b := by
  have h1 := R_cutN a
  have h2 := R_cutD a
  rw [h] at h1 h2
  have e1 : I b.num = I a.num := (R_cutN b).symm.trans h1
  have e2 : I (b.den : Int) = I (a.den : Int) := (R_cutD b).symm.trans h2
  have f1 := zv_I a.num
  rw [← e1, zv_I] at f1
  have f2 := zv_I (a.den : Int)
  rw [← e2, zv_I] at f2
  exact Rat.ext f1.symm (by omega)
def shortB (p : List UInt8) : Bool := decide ((cutN p).length ≤ 30) && decide ((cutD p).length ≤ 30)
theorem I_short {z : Int} {k : Nat} (h : (I z).length ≤ k) (hk : 1 ≤ k) : z.natAbs < 10 ^ k := (D_len_le hk).1 (Nat.le_trans (D_le_I z) h)
theorem short_num {p : List UInt8} (h : shortB p = true) : p.length ≤ 61 := by
  unfold shortB at h
  rw [Bool.and_eq_true, decide_eq_true_eq, decide_eq_true_eq] at h
  by_cases hc : p.contains 47 = true
  · have e := congrArg List.length (cut_back hc)
    simp at e; omega
  · have hn : ∀ c ∈ p, c ≠ (47 : UInt8) := fun c hm e => hc (by rw [e] at hm; simpa using hm)
    rw [cutN_none hn] at h; omega
theorem short_R {p : List UInt8} (h : shortB p = true) (h0 : chkR p = 0) : ∃ q, p = R q ∧ Bq 30 q := by
  obtain ⟨q, rfl, _, _⟩ := chkR_form h0
  unfold shortB at h
  rw [Bool.and_eq_true, decide_eq_true_eq, decide_eq_true_eq, R_cutN, R_cutD] at h
  refine ⟨q, rfl, I_short h.1 (by decide), ?_⟩
  have := I_short h.2 (by decide)
  rwa [Int.natAbs_natCast] at this
end M
namespace W
open M
attribute [local go_sem] bs_size bs_toList bs_get bs_extract bs_append bs_lit0 bs_lit1 lit1_bs
set_option maxHeartbeats 1000000
set_option maxRecDepth 20000
theorem short_any (p : List UInt8) (w : World) (hl : p.length ≤ 9223372036854775807) :
    Calls Tryz.prog 32 #[.string (bs p)] w (Ret w (.bool (shortB p))) := by
  have HS := Lib.hid (split_any p w hl)
  have hn := cutN_len p
  have hd := cutD_len p
  unfold shortB
  generalize cutN p = a at *
  generalize cutD p = b at *
  by_cases h1 : a.length ≤ 30
  · by_cases h2 : b.length ≤ 30
    · rw [decide_eq_true h1, decide_eq_true h2]
      have d2 : decide ((b.length : Int) ≤ 30) = true := by simp; omega
      go_enter Tryz.func32, Tryz.ntmps32
      go_wp2_with fail
      refine (HS.out).mono ?_
      rintro e w1 ⟨rfl, hb1⟩
      go_wp2
      go_ret
      exact Ret.of rfl hb1
    · rw [decide_eq_true h1, decide_eq_false h2]
      have d2 : decide ((b.length : Int) ≤ 30) = false := by simp; omega
      go_enter Tryz.func32, Tryz.ntmps32
      go_wp2_with fail
      refine (HS.out).mono ?_
      rintro e w1 ⟨rfl, hb1⟩
      go_wp2
      go_ret
      exact Ret.of rfl hb1
  · rw [decide_eq_false h1]
    have d1 : decide ((a.length : Int) ≤ 30) = false := by simp; omega
    go_enter Tryz.func32, Tryz.ntmps32
    go_wp2_with fail
    refine (HS.out).mono ?_
    rintro e w1 ⟨rfl, hb1⟩
    go_wp2
    go_ret
    exact Ret.of (by simp) hb1
theorem ratWhole (n : Int) (w : World) (hg : Glob w) (h0 : -9223372036854775808 ≤ n) (h1 : n ≤ 9223372036854775807) :
    Calls Tryz.prog 46 #[.int .i64 n] w (Ret w (.string (bs (R (n : Rat))))) := by
  rw [R_int]
  have HO := Lib.hid (vof_any n w hg h0 h1)
  go_enter Tryz.func46, Tryz.ntmps46
  go_wp2_with fail
  refine (HO.out).mono ?_
  rintro e w1 ⟨rfl, hb1⟩
  go_wp2
  go_ret
  exact Ret.of rfl hb1
end W
end Go.Proofs.YtijpgddpejiohaaGreatDoor
end
section
namespace Go.Proofs.YtijpgddpejiohaaGreatDoor
open Go Go.RowKit Go.Deep
namespace M
abbrev PT := List UInt8 × List UInt8
def sx (l : List SQ) : List PT := l.map fun a => (R a.1, R a.2)
end M
def Keeps (B : Nat) (w w' : World) : Prop := ∀ (C : Nat) (a : World), C ≤ B → Below C a w → Below C a w'
theorem wpList_app_one {ops : Array Oper} {rest : List Oper} {o : Oper} {a : Act} {Q : Exit → Act → World → Prop} {t e : TypeId} {i : TypeInfo} {z : Value} {size bytes : Nat}
    (ht : Tryz.prog.underlying t = some (.slice e)) (hi : Tryz.prog.info? e = some i) (hz : i.zero = some z) (hsize : i.size = size) (hby : i.bytes = bytes) (hzs : z.cells.size = size) (hsz : 0 < size)
    {w : World} {B A : Nat} {v : Value} {n : Nat} {xs : List Value} (hgd : o.guard = none) (s x : Operand) (ho : o.op = .call { callee := .builtin .append, args := #[s, x], argTypes := #[t, t] })
    (hs : a.eval s = v) (hx : a.eval x = .slice (some ⟨A, 0, none⟩) 1 1) (hA : A = w.heap.size)
    (hown : w.ownsRow B e size v n xs) (hB : B ≤ w.heap.size) (cs : List Value) (hl : cs.length = size) (h1 : ∀ u ∈ cs, u.oneCell' = true) (hn : n ≤ 1000000000) (hb : bytes ≤ 1000)
    (h : ∀ v' w', w'.ownsRow B e size v' (n + 1) (xs ++ cs) → Keeps B w w' → wpList Tryz.prog ops Q rest (a.put o.dst v') w') : wpList Tryz.prog ops Q (o :: rest) a (w.alloc (.cells cs.toArray e (0, 0))) := by
  subst hA
  have hr := Row.new w e cs
  refine wpList_append_own (w.alloc (.cells cs.toArray e (0, 0))) hgd s x t ho B e i z size bytes ht hi hz hsize hby hzs hsz v n xs hs (hown.alloc _) ⟨w.heap.size, 0, none⟩ 1 1 cs hx (by rw [hl, Nat.one_mul])
    (fun j u hj => by
      have hadd : (⟨w.heap.size, 0, none⟩ : Addr).add j = ⟨w.heap.size, j, none⟩ := by unfold Addr.add; split <;> simp_all
      rw [hadd]
      exact hr.cell hj) h1 (by unfold maxLen; omega) (by
      have : (n + 1) * bytes ≤ (n + 1) * 1000 := Nat.mul_le_mul_left _ hb
      omega) (by show B ≤ (w.heap.push _).size; simp; omega) ?_
  intro v' w' h3 h4 _
  refine h v' w' h3 (fun C a2 hC hbl => ?_)
  have hC' : C ≤ w.heap.size := Nat.le_trans hC hB
  have hbl2 : Below C a2 (w.alloc (.cells cs.toArray e (0, 0))) := hbl.alloc hC' _
  refine hbl2.grown h4 (by show C ≤ (w.heap.push _).size; simp; omega) (fun k hk => ?_)
  have := (hown.lt k hk).1
  omega
structure PSl (w : World) (b o : Nat) (l : List M.PT) : Prop where
  lt : b < w.heap.size
  val : ∀ i (h : i < l.length), w.cell? ⟨b, o + i * 2, none⟩ = some (.string (bs l[i].1))
  wt : ∀ i (h : i < l.length), w.cell? ⟨b, o + i * 2 + 1, none⟩ = some (.string (bs l[i].2))
def pcs (l : List M.PT) : List Value := l.flatMap fun x => [.string (bs x.1), .string (bs x.2)]
theorem pcs_len (l : List M.PT) : (pcs l).length = l.length * 2 := by
  induction l with
  | nil => rfl
  | cons x t ih => simp only [pcs, List.flatMap_cons, List.length_append, List.length_cons, List.length_nil] at *; omega
theorem pcs_get (l : List M.PT) (i : Nat) (h : i < l.length) : (pcs l)[i * 2]? = some (.string (bs l[i].1)) ∧ (pcs l)[i * 2 + 1]? = some (.string (bs l[i].2)) := by
  induction l generalizing i with
  | nil => cases h
  | cons x t ih =>
    rcases i with _ | j
    · exact ⟨rfl, rfl⟩
    · have hj : j < t.length := by simpa using h
      have e1 : pcs (x :: t) = .string (bs x.1) :: .string (bs x.2) :: pcs t := rfl
      have k := ih j hj
      rw [e1, show (j + 1) * 2 = (j * 2 + 1) + 1 by omega, show (j * 2 + 1) + 1 + 1 = (j * 2 + 1 + 1) + 1 by omega]
      exact k
theorem ownsRow_base {w : World} {B B' e size : Nat} {v : Value} {n : Nat} {xs : List Value} (h : w.ownsRow B e size v n xs) (hB : B' ≤ B) : w.ownsRow B' e size v n xs := by
  obtain ⟨h1, h2⟩ := h
  refine ⟨h1, ?_⟩
  rcases h2 with h2 | ⟨g, cap, cur, a, b, c⟩
  · exact Or.inl h2
  · exact Or.inr ⟨g, cap, cur, a, Nat.le_trans hB b, c⟩
def OwnS (w : World) (B : Nat) (v : Value) (l : List (List UInt8)) : Prop := w.ownsRow B 29 1 v l.length (Strs l)
theorem infoRt : (Tryz.prog.info? 29).map (fun i => (i.zero, i.size, i.bytes)) = some (some (.string ⟨#[]⟩), 1, 16) := by kernel_rfl
theorem OwnS.below {w w' : World} {B : Nat} {v : Value} {l : List (List UInt8)} (h : OwnS w B v l) (hb : Below w.heap.size w w') : OwnS w' B v l :=
  World.ownsRow.kept (row := none) h ⟨hb.os, hb.tape, hb.output, hb.size, fun k hk _ => hb.block k hk⟩ (Classical.em _)
theorem wpList_app_s {ops : Array Oper} {rest : List Oper} {o : Oper} {a : Act} {Q : Exit → Act → World → Prop} {w : World} {B A : Nat} {v : Value} {l : List (List UInt8)} {q : List UInt8}
    (hgd : o.guard = none) (s x : Operand) (ho : o.op = .call { callee := .builtin .append, args := #[s, x], argTypes := #[23, 23] })
    (hs : a.eval s = v) (hx : a.eval x = .slice (some ⟨A, 0, none⟩) 1 1) (hA : A = w.heap.size) (h : OwnS w B v l) (hB : B ≤ w.heap.size) (hn : l.length ≤ 1000000000)
    (hK : ∀ v' w', OwnS w' B v' (l ++ [q]) → Keeps B w w' → wpList Tryz.prog ops Q rest (a.put o.dst v') w') : wpList Tryz.prog ops Q (o :: rest) a (w.alloc (.cells #[.string (bs q)] 29 (0, 0))) := by
  obtain ⟨i, h1, h2, h3, h4⟩ := info_parts infoRt
  refine wpList_app_one Tryz.underlying23 h1 h2 h3 h4 rfl (by decide) hgd s x ho hs hx hA h hB [.string (bs q)] rfl (fun u hu => by simp at hu; subst hu; rfl) hn (by decide) (fun v' w' k2 k3 => hK v' w' ?_ k3)
  unfold OwnS
  rw [List.length_append]
  have : Strs (l ++ [q]) = Strs l ++ [.string (bs q)] := by simp [Strs]
  rw [this]
  exact k2
theorem OwnS.form {w : World} {B : Nat} {v : Value} {l : List (List UInt8)} (h : OwnS w B v l) (hn : l ≠ []) :
    ∃ g cap, v = .slice (some ⟨g, 0, none⟩) l.length cap ∧ B ≤ g ∧ g < w.heap.size ∧ ∀ i (hi : i < l.length), w.cell? ⟨g, i, none⟩ = some (.string (bs l[i])) := by
  obtain ⟨h1, h2⟩ := h
  rcases h2 with ⟨_, hn2⟩ | ⟨g, cap, cur, hv, hB, hh, _, _, _, ht⟩
  · exact absurd (List.length_eq_zero_iff.1 hn2) hn
  · refine ⟨g, cap, hv, hB, lt_of_block hh, fun i hi => ?_⟩
    have : (Strs l)[i]? = some (.string (bs l[i])) := by simp [Strs, hi]
    rw [← ht, List.getElem?_take] at this
    split at this
    · simp [World.cell?, hh]; simpa using this
    · cases this
def SrcP (w : World) (v : Value) (l : List M.PT) : Prop :=
  (v = .slice none 0 0 ∧ l = []) ∨ ∃ b o cap, v = .slice (some ⟨b, o, none⟩) l.length cap ∧ ∀ j u, (pcs l)[j]? = some u → w.cell? ⟨b, o + j, none⟩ = some u
theorem pcs_cells {w : World} {b o : Nat} {l : List M.PT} (h : PSl w b o l) : ∀ j u, (pcs l)[j]? = some u → w.cell? ⟨b, o + j, none⟩ = some u := by
  intro j u hu
  have hj : j < l.length * 2 := by
    rcases Nat.lt_or_ge j (l.length * 2) with h1 | h1
    · exact h1
    · rw [List.getElem?_eq_none (by rw [pcs_len]; exact h1)] at hu; cases hu
  have hi : j / 2 < l.length := by omega
  have k := pcs_get l (j / 2) hi
  rcases Nat.mod_two_eq_zero_or_one j with h2 | h2
  · have e : j / 2 * 2 = j := by omega
    rw [e] at k
    rw [k.1] at hu
    have := h.val (j / 2) hi
    rw [e] at this
    rw [this, Option.some.inj hu]
  · have e : j / 2 * 2 + 1 = j := by omega
    rw [e] at k
    rw [k.2] at hu
    have := h.wt (j / 2) hi
    rw [show o + j / 2 * 2 + 1 = o + j by omega] at this
    rw [this, Option.some.inj hu]
theorem SrcP.of {w : World} {b o cap n : Nat} {l : List M.PT} (h : PSl w b o l) (hn : n = l.length) : SrcP w (.slice (some ⟨b, o, none⟩) n cap) l :=
  Or.inr ⟨b, o, cap, by rw [hn], pcs_cells h⟩
theorem SrcP.empty (w : World) (b o cap : Nat) : SrcP w (.slice (some ⟨b, o, none⟩) 0 cap) [] := Or.inr ⟨b, o, cap, rfl, fun j u h => by simp [pcs] at h⟩
theorem SrcP.cut {w : World} {g k n gc : Nat} {l : List M.PT} (hl : l.length = n - k) (h : PSl w g (0 + k * 2) l) (hn : n ≤ gc) :
    SrcP w (.slice (if gc = k then some ⟨g, 0, none⟩ else some ⟨g, k * 2, none⟩) (n - k) (gc - k)) l := by
  rw [Nat.zero_add] at h
  split
  · have h0 : l = [] := List.length_eq_zero_iff.1 (by omega)
    subst h0
    rw [← hl]
    exact SrcP.empty w g 0 _
  · exact SrcP.of h hl.symm
namespace W
open M
attribute [local go_sem] bs_size bs_toList bs_get bs_extract bs_append bs_lit0 bs_lit1 lit1_bs
set_option maxHeartbeats 1000000
set_option maxRecDepth 20000
end W
end Go.Proofs.YtijpgddpejiohaaGreatDoor
end
section
namespace Go.Proofs.YtijpgddpejiohaaGreatDoor
open Go Go.RowKit Go.Deep
namespace M
end M
namespace W
open M
attribute [local go_sem] bs_size bs_toList bs_get bs_extract bs_append bs_lit0 bs_lit1 lit1_bs
set_option maxHeartbeats 1000000
set_option maxRecDepth 20000
end W
end Go.Proofs.YtijpgddpejiohaaGreatDoor
end
section
namespace Go.Proofs.YtijpgddpejiohaaGreatDoor
open Go Go.RowKit Go.Deep Go.Sort
namespace M
end M
theorem reg_of {f : Nat} {args : Array Value} {v : Value} {w : World} (h : ∀ W, Below w.heap.size w W → Calls Tryz.prog f args W (Ret W v)) :
    ∀ d os, Calls Tryz.prog f args (grow (redrawn w d) os) fun e w'' => e = .returned v ∧ ∃ p : Regrown, w'' = grow (redrawn w p.d) p.os := fun d os => Calls.regrown_of (h _ (below_regrown w d os))
namespace W
open M
attribute [local go_sem] bs_size bs_toList bs_get bs_extract bs_append bs_lit0 bs_lit1 lit1_bs
set_option maxHeartbeats 1000000
set_option maxRecDepth 20000
end W
end Go.Proofs.YtijpgddpejiohaaGreatDoor
end
section
namespace Go.Proofs.YtijpgddpejiohaaGreatDoor
open Go Go.RowKit Go.Deep Go.Sort
namespace W
open M
attribute [local go_sem] bs_size bs_toList bs_get bs_extract bs_append bs_lit0 bs_lit1 lit1_bs
set_option maxHeartbeats 1000000
set_option maxRecDepth 20000
theorem rparts_ok (q : Rat) (k : Nat) (w : World) (hg : Glob w) (hq : Bq k q) (hk : k ≤ 1024) :
    Calls Tryz.prog 192 #[.string (bs (R q))] w (Ret w (.tuple #[.string (bs (I q.num)), .string (bs (I (q.den : Int))), .int .i64 0])) := by
  have hlen := hq.R_len hk
  have hc := vcheckR (R q) w hg (by omega)
  rw [hq.chk hk] at hc
  have HC := Lib.hid hc
  have HU := Lib.hid (fun wx hgx => cut_any (R q) wx hgx (by omega))
  rw [R_cutN, R_cutD] at HU
  clear hc hlen hq hk
  generalize I q.num = a at *
  generalize I (q.den : Int) = b at *
  generalize R q = s at *
  go_enter Tryz.func192, Tryz.ntmps192
  go_wp2_with fail
  refine (HC.out).mono ?_
  rintro e w1 ⟨rfl, hb1⟩
  go_wp2_with fail
  refine (HU.out _ (hg.of hb1)).mono ?_
  rintro e w2 ⟨rfl, hb2⟩
  go_wp2
  go_ret3
  exact Ret.of rfl (Below.then hb1 hb2)
theorem rsign_ok (q : Rat) (k : Nat) (w : World) (hg : Glob w) (hq : Bq k q) (hk : k ≤ 1024) :
    Calls Tryz.prog 195 #[.string (bs (R q))] w (Ret w (.tuple #[.int .i64 (Int.sign q.num), .int .i64 0])) := by
  have HC := Lib.hid (rparts_ok q k w hg hq hk)
  have HS := Lib.hid (fun wx => vSign_I q.num wx (hq.num hk))
  clear hq hk
  generalize Int.sign q.num = sg at *
  generalize I q.num = a at *
  generalize I (q.den : Int) = b at *
  generalize R q = s at *
  go_enter Tryz.func195, Tryz.ntmps195
  go_wp2_with fail
  refine (HC.out).mono ?_
  rintro e w1 ⟨rfl, hb1⟩
  go_wp2_with fail
  refine (HS.out _).mono ?_
  rintro e w2 ⟨rfl, hb2⟩
  go_wp2
  go_ret2
  exact Ret.of rfl (Below.then hb1 hb2)
end W
end Go.Proofs.YtijpgddpejiohaaGreatDoor
end
section
namespace Go.Proofs.YtijpgddpejiohaaGreatDoor
open Go Go.RowKit Go.Deep
namespace W
open M
attribute [local go_sem] bs_size bs_toList bs_get bs_extract bs_append bs_lit0 bs_lit1 lit1_bs
set_option maxHeartbeats 1000000
set_option maxRecDepth 20000
theorem R_nil : R 0 = [48] := by
  have : ((0 : Int) : Rat) = 0 := rfl
  rw [← this, W.R_int, I_zero]
theorem neg_I (x : Int) (w : World) (hx : Ok x) :
    Calls Tryz.prog 193 #[.string (bs (I x))] w (Ret w (.tuple #[.string (bs (I (-x))), .int .i64 0])) := by
  have lx := hx.len
  have hv := fun w' => vcheck_any (I x) w' (by omega)
  rw [chk_I0 hx] at hv
  have HV := Lib.hid hv
  clear hv hx
  go_enter Tryz.func193, Tryz.ntmps193
  go_wp2_with fail
  refine (HV.out _).mono ?_
  rintro e w1 ⟨rfl, hb1⟩
  go_wp2_with fail
  refine (opposite_I x _ (by omega)).mono ?_
  rintro e w' ⟨rfl, rfl⟩
  go_wp2
  go_ret2
  exact Ret.of rfl hb1
theorem Bq.neg {k : Nat} {q : Rat} (h : Bq k q) : Bq k (-q) := by
  unfold Bq at *
  rw [Rat.neg_num, Rat.neg_den, Int.natAbs_neg]
  exact h
theorem ratNeg (q : Rat) (k : Nat) (w : World) (hg : Glob w) (hq : Bq k q) (hk : k ≤ 1024) :
    Calls Tryz.prog 129 #[.string (bs (R q))] w (Ret w (.tuple #[.string (bs (R (-q))), .int .i64 0])) := by
  have HP := Lib.hid (rparts_ok q k w hg hq hk)
  have HN := Lib.hid (fun wx => neg_I q.num wx (hq.num hk))
  have hq' := Bq.neg hq
  have hj := fun wx => joined_R (-q) wx (by have := (hq'.num hk).len; omega) (by have := (hq'.den hk).len; omega)
  rw [Rat.neg_num, Rat.neg_den] at hj
  have HJ := Lib.hid hj
  clear hq hq' hj
  generalize R (-q) = r at *
  generalize I (-q.num) = na at *
  generalize I q.num = a at *
  generalize I (q.den : Int) = b at *
  generalize R q = s at *
  go_enter Tryz.func129, Tryz.ntmps129
  go_wp2_with fail
  refine (HP.out).mono ?_
  rintro e w1 ⟨rfl, hb1⟩
  go_wp2_with fail
  refine (HN.out _).mono ?_
  rintro e w2 ⟨rfl, hb2⟩
  go_wp2_with fail
  refine (HJ.out w2).mono ?_
  rintro e w3 ⟨rfl, rfl⟩
  go_wp2
  go_ret2
  exact Ret.of rfl (Below.then hb1 hb2)
theorem ent_divc : Enters Tryz.prog 230 := enters_of Tryz.func230 (by kernel_rfl) rfl
theorem div_c (b : Nat) (n p m q : Int) (w : World) (hg : Glob w) (hs : NoErr w b) (hn : Ok n) (hp : Ok p) (hm : Ok m) (hq : Ok q) (h1 : Ok (n * q)) (h4 : Ok (p * m)) :
    Calls Tryz.prog 230 #[.pointer (some ⟨b, 0, none⟩), .string (bs (I n)), .string (bs (I p)), .string (bs (I m)), .string (bs (I q))] w (Ret w (.tuple #[.string (bs (I (n * q))), .string (bs (I (p * m)))])) := by
  have H1 := Lib.hid (fun w' hg hs => smul_two b n q w' hg hs hn hq h1)
  have H4 := Lib.hid (fun w' hg hs => smul_two b p m w' hg hs hp hm h4)
  have HS := Lib.hid hs
  have hbl := hs.lt
  clear hs hn hp hm hq h1 h4
  go_enter Tryz.func230, Tryz.ntmps230
  go_wp2_with fail
  refine (H1.out _ hg HS.out).mono ?_
  rintro e w1 ⟨rfl, hb1⟩
  have hb1 := alloc_then hb1
  go_wp2_with fail
  refine (H4.out _ (hg.of hb1) (HS.out.below' hb1)).mono ?_
  rintro e w4 ⟨rfl, hb4⟩
  have hb4 := Below.then hb1 (alloc_then hb4)
  go_wp2
  go_ret2
  exact Ret.of rfl hb4
theorem div_div (a b : Rat) : Rat.divInt (a.num * (b.den : Int)) ((a.den : Int) * b.num) = a / b := by
  conv => rhs; rw [← Rat.num_divInt_den a, ← Rat.num_divInt_den b]
  rw [Rat.divInt_eq_div, Rat.divInt_eq_div, Rat.divInt_eq_div, Rat.intCast_mul, Rat.intCast_mul]
  grind
theorem ratDiv (a b : Rat) (j k : Nat) (w : World) (hg : Glob w) (ha : Bq j a) (hb : Bq k b) (h0 : b ≠ 0) (hjk : j + k ≤ 1024) :
    Calls Tryz.prog 196 #[.string (bs (R a)), .string (bs (R b))] w (Ret w (.tuple #[.string (bs (R (a / b))), .int .i64 0])) := by
  have h1 := mul_pow ha.1 (den_abs hb)
  have h4 := mul_pow (den_abs ha) hb.1
  have hn0 : b.num ≠ 0 := fun e => h0 (Rat.num_eq_zero.1 e)
  have hd0 : (a.den : Int) * b.num ≠ 0 := Int.mul_ne_zero (by have := a.den_pos; omega) hn0
  have HM := Lib.hid (fun wx hgx => made_ok 230 a b (a.num * (b.den : Int)) ((a.den : Int) * b.num) j k wx ent_divc hgx ha hb (by omega) (by omega) (ok_pow h1 (by omega)) (ok_pow h4 (by omega)) hd0
    (fun wy bx hgy hsx => div_c bx _ _ _ _ wy hgy hsx (ha.num (by omega)) (ha.den (by omega)) (hb.num (by omega)) (hb.den (by omega)) (ok_pow h1 (by omega)) (ok_pow h4 (by omega))))
  rw [div_div] at HM
  have la := ha.R_len (by omega)
  have lb := hb.R_len (by omega)
  have hc := checks_two (R a) (R b) w hg (by omega) (by omega)
  rw [show chkRs [R a, R b] = 0 by simp [chkRs, ha.chk (by omega), hb.chk (by omega)]] at hc
  have HC := Lib.hid hc
  have hz : (R b == [48]) = false := by
    rw [beq_eq_false_iff_ne]
    intro e
    rw [← R_nil] at e
    exact h0 (R_inj e)
  have HAL := Lib.hid ((Below.refl w.heap.size w).alloc (Nat.le_refl _) (.cells #[.string (bs (R a)), .string (bs (R b))] 29))
  clear h1 h4 hd0 hn0 ha hb h0 hc la lb
  generalize R (a / b) = r at *
  generalize R a = p at *
  generalize R b = q at *
  go_enter Tryz.func196, Tryz.ntmps196
  go_wp2_with fail
  refine (HC.out).mono ?_
  rintro e w1 ⟨rfl, hb1⟩
  have hb1' := HAL.out.trans (hb1.mono HAL.out.size)
  go_wp2_with fail
  refine (HM.out _ (hg.of hb1')).mono ?_
  rintro e w2 ⟨rfl, hb2⟩
  go_wp2
  go_ret2
  exact Ret.of rfl (Below.then hb1' hb2)
end W
end Go.Proofs.YtijpgddpejiohaaGreatDoor
end
section
namespace Go.Proofs.YtijpgddpejiohaaGreatDoor
open Go Go.RowKit Go.Deep
structure TSl (w : World) (b o : Nat) (l : List (List UInt8)) : Prop where
  lt : b < w.heap.size
  val : ∀ i (h : i < l.length), w.cell? ⟨b, o + i, none⟩ = some (.string (bs l[i]))
theorem TSl.below' {w w' : World} {b o : Nat} {l : List (List UInt8)} (h : TSl w b o l) (hb : Below w.heap.size w w') : TSl w' b o l :=
  ⟨Nat.lt_of_lt_of_le h.lt hb.size, fun i hi => (hb.cell (by exact h.lt)).trans (h.val i hi)⟩
def Shp (v : Value) : Prop := v = .slice none 0 0 ∨ ∃ a n c, v = .slice (some a) n c
def RdT (w : World) (v : Value) (l : List (List UInt8)) : Prop := ∃ A cap, v = .slice A l.length cap ∧ (l = [] ∨ ∃ b o, A = some ⟨b, o, none⟩ ∧ TSl w b o l)
theorem RdT.below {w w' : World} {v : Value} {l : List (List UInt8)} (h : RdT w v l) (hb : Below w.heap.size w w') : RdT w' v l := by
  obtain ⟨A, cap, e, h2⟩ := h
  refine ⟨A, cap, e, ?_⟩
  rcases h2 with h2 | ⟨b, o, e2, h3⟩
  · exact Or.inl h2
  · exact Or.inr ⟨b, o, e2, h3.below' hb⟩
theorem RdT.len {w : World} {v : Value} {l : List (List UInt8)} (h : RdT w v l) : ∃ A cap, v = .slice A l.length cap := by
  obtain ⟨A, cap, e, _⟩ := h; exact ⟨A, cap, e⟩
theorem RdT.row {w : World} {A : Option Addr} {n cap : Nat} {l : List (List UInt8)} (h : RdT w (.slice A n cap) l) (i : Nat) (hi : i < l.length) : ∃ b o, A = some ⟨b, o, none⟩ ∧ TSl w b o l := by
  obtain ⟨A', cap', e, h2⟩ := h
  injection e with e
  subst e
  exact h2.resolve_left (fun e => by rw [e] at hi; cases hi)
namespace M
abbrev BT := List (List UInt8) × List UInt8
end M
structure BSl (w : World) (b o : Nat) (l : List M.BT) : Prop where
  lt : b < w.heap.size
  row : ∀ i (h : i < l.length), ∃ u, w.cell? ⟨b, o + i * 2, none⟩ = some u ∧ RdT w u l[i].1 ∧ Shp u
  most : ∀ i (h : i < l.length), w.cell? ⟨b, o + i * 2 + 1, none⟩ = some (.string (bs l[i].2))
theorem BSl.below' {w w' : World} {b o : Nat} {l : List M.BT} (h : BSl w b o l) (hb : Below w.heap.size w w') : BSl w' b o l :=
  ⟨Nat.lt_of_lt_of_le h.lt hb.size, fun i hi => by
    obtain ⟨u, h1, h2, h3⟩ := h.row i hi
    exact ⟨u, (hb.cell (by exact h.lt)).trans h1, h2.below hb, h3⟩, fun i hi => (hb.cell (by exact h.lt)).trans (h.most i hi)⟩
def RdB (w : World) (v : Value) (l : List M.BT) : Prop := ∃ A cap, v = .slice A l.length cap ∧ (l = [] ∨ ∃ b o, A = some ⟨b, o, none⟩ ∧ BSl w b o l)
theorem RdB.below {w w' : World} {v : Value} {l : List M.BT} (h : RdB w v l) (hb : Below w.heap.size w w') : RdB w' v l := by
  obtain ⟨A, cap, e, h2⟩ := h
  refine ⟨A, cap, e, ?_⟩
  rcases h2 with h2 | ⟨b, o, e2, h3⟩
  · exact Or.inl h2
  · exact Or.inr ⟨b, o, e2, h3.below' hb⟩
theorem RdB.len {w : World} {v : Value} {l : List M.BT} (h : RdB w v l) : ∃ A cap, v = .slice A l.length cap := by
  obtain ⟨A, cap, e, _⟩ := h; exact ⟨A, cap, e⟩
theorem RdB.row {w : World} {A : Option Addr} {n cap : Nat} {l : List M.BT} (h : RdB w (.slice A n cap) l) (i : Nat) (hi : i < l.length) : ∃ b o, A = some ⟨b, o, none⟩ ∧ BSl w b o l := by
  obtain ⟨A', cap', e, h2⟩ := h
  injection e with e
  subst e
  exact h2.resolve_left (fun e => by rw [e] at hi; cases hi)
namespace M
theorem chkRs_drop (l : List (List UInt8)) (i : Nat) (h : i < l.length) : chkRs (l.drop i) = if chkR l[i] = 0 then chkRs (l.drop (i + 1)) else chkR l[i] := by
  rw [List.drop_eq_getElem_cons h, chkRs]
theorem chkRs_append : ∀ (a b : List (List UInt8)), chkRs (a ++ b) = if chkRs a = 0 then chkRs b else chkRs a
  | [], b => rfl
  | x :: t, b => by
    rw [List.cons_append, chkRs, chkRs]
    by_cases h : chkR x = 0
    · rw [if_pos h, if_pos h, chkRs_append t b]
    · rw [if_neg h, if_neg h, if_neg h]
noncomputable def chkB1 (n : Int) (b : BT) : Nat := if (b.1.length : Int) ≠ n then 8 else chkRs (b.1 ++ [b.2])
noncomputable def chkBs (n : Int) : List BT → Nat
  | [] => 0
  | b :: t => if chkB1 n b = 0 then chkBs n t else chkB1 n b
theorem chkBs_drop (n : Int) (l : List BT) (i : Nat) (h : i < l.length) : chkBs n (l.drop i) = if chkB1 n l[i] = 0 then chkBs n (l.drop (i + 1)) else chkB1 n l[i] := by
  rw [List.drop_eq_getElem_cons h, chkBs]
end M
end Go.Proofs.YtijpgddpejiohaaGreatDoor
end
section
namespace Go.Proofs.YtijpgddpejiohaaGreatDoor
open Go Go.RowKit Go.ChangeShapes Go.WideShapes Go.ChangeAt Go.Deep
namespace Fin
set_option maxRecDepth 20000
theorem own : ownKnob Tryz.prog.godebug = none := by kernel_rfl
theorem laid_each {P : Program} {W : World} : ∀ {l : List (String × DataW Unit)} {ps : List MemPlace}, DataW.LaidVars P W l ps → ∀ n d, (n, d) ∈ l →
    ∃ g t cs fuel p, P.globalNamed n = some g ∧ (P.globals[g]?).map (·.type) = some t ∧ W.var? P n = some cs ∧ DataW.trod (fun _ => ()) P W 0 (fun _ => true) false fuel t cs.toList = some (d, p)
  | [], _, _, n, d, hm => by cases hm
  | (n0, d0) :: r, ps, h, n, d, hm => by
    obtain ⟨g, t, cs, fuel, p, q, h1, h2, h3, h4, h5, _⟩ := h
    rcases List.mem_cons.1 hm with e | hm
    · cases e
      exact ⟨g, t, cs, fuel, p, h1, h2, h3, h4⟩
    · exact laid_each h5 n d hm
theorem laid_tab {P : Program} {W : World} {l : List (String × DataW Unit)} {name : String} {k : IntKind} {zs : List Int} {g : Nat} {t e : TypeId} {n : Nat}
    (hg : P.globalNamed name = some g) (hty : (P.globals[g]?).map (·.type) = some t) (ht : P.underlying t = some (.array n e)) (he : P.underlying e = some (.int k)) (hce : P.cellsOf e = 1) (hct : P.cellsOf t = n)
    (h : laidMet P l W) (hm : (name, Lib.tabData k zs) ∈ l) : Lib.TabIs P W name k zs := by
  obtain ⟨ps, hl, _⟩ := h
  obtain ⟨g', t', cs, fuel, p, hg', ht', hvar, hd⟩ := laid_each hl name _ hm
  obtain rfl := Option.some.inj (hg.symm.trans hg')
  obtain rfl := Option.some.inj (hty.symm.trans ht')
  unfold Lib.TabIs
  rw [hvar, ← Lib.cells_of_tab ht he hce hct hd]
theorem laid_lt {P : Program} {W : World} {l : List (String × DataW Unit)} {name : String} {d : DataW Unit} {g : Nat} (hg : P.globalNamed name = some g) (h : laidMet P l W) (hm : (name, d) ∈ l) : g < W.heap.size := by
  obtain ⟨ps, hl, _⟩ := h
  obtain ⟨g', t', cs, fuel, p, hg', _, hvar, _⟩ := laid_each hl name d hm
  obtain rfl := Option.some.inj (hg.symm.trans hg')
  unfold World.var? at hvar
  rw [hg] at hvar
  simp only [Option.bind_some] at hvar
  rcases Nat.lt_or_ge g W.heap.size with h | h
  · exact h
  · rw [Array.getElem?_eq_none h] at hvar; cases hvar
theorem gPowType : (Tryz.prog.globals[1]?).map (·.type) = some 295 := by kernel_rfl
theorem cellsPow : Tryz.prog.cellsOf 295 = 20 := by kernel_rfl
theorem cellsU64 : Tryz.prog.cellsOf 206 = 1 := by kernel_rfl
theorem gLast : Tryz.prog.globalNamed "math/bits.deBruijn64tab" = some 7 := by kernel_rfl
def lists : List (String × DataW Unit) := [("math/bits.deBruijn32tab", Rows.laid_math_bits_deBruijn32tab), ("math/bits.deBruijn64tab", Rows.laid_math_bits_deBruijn64tab), ("internal/strconv.uint64pow10", Rows.laid_internal_strconv_uint64pow10), ("unicode/utf8.acceptRanges", Rows.laid_unicode_utf8_acceptRanges), ("strconv.ErrRange", Rows.laid_strconv_ErrRange), ("strconv.ErrSyntax", Rows.laid_strconv_ErrSyntax), ("unicode/utf8.first", Rows.laid_unicode_utf8_first)]
theorem pow_laid : (Rows.laid_internal_strconv_uint64pow10 : DataW Unit) = Lib.tabData .u64 Lib.pow10Tab := by kernel_rfl
theorem noHandle : (lists.filter fun x => x.2.handleName?.isSome) = [] := by kernel_rfl
theorem glob {W : World} (h : laidMetH Tryz.prog lists W) (hs : W.ShapedOpen Tryz.prog) : Glob W := by
  unfold laidMetH at h
  rw [noHandle] at h
  refine ⟨?_, ?_, ?_⟩
  · exact cell_of_shapedOpen_int (t := 3) (zero := #[.int .i64 0]) hs (of_decide_eq_true (by kernel_rfl)) (by kernel_rfl) rfl (by kernel_rfl) (by kernel_rfl) Tryz.underlying3
  · exact laid_tab gTab gPowType Tryz.underlying295 Tryz.underlying206 cellsU64 cellsPow h (by rw [← pow_laid]; simp [lists])
  · have := laid_lt (d := Rows.laid_math_bits_deBruijn64tab) gLast h (by unfold lists; exact List.mem_cons_of_mem _ (List.mem_cons_self ..))
    omega
theorem cellsRat : Tryz.prog.cellsOf 29 = 1 := by kernel_rfl
theorem cell_lt1 {w : World} {a : Addr} {v : Value} (h : w.cell? a = some v) : a.block < w.heap.size := by
  rcases Nat.lt_or_ge a.block w.heap.size with h1 | h1
  · exact h1
  · unfold World.cell? at h; rw [Array.getElem?_eq_none h1] at h; cases h
theorem bs_size {l : List UInt8} (h : (bs l).size ≤ maxLen) : l.length ≤ maxLen := by
  have e : (bs l).size = l.length := by simp [bs, ByteArray.size]
  omega
def txOf {H : Type} : DataW H → List UInt8
  | .lit (.string s) => s
  | _ => []
theorem cell_tl {H : Type} {enc : TypeId × Value → H} {W : World} {fuel : Nat} {v : Value} {x : DataW H × List MemPlace} (hf : DataW.trod enc Tryz.prog W 0 (fun _ => true) true fuel 23 [v] = some x) :
    ∃ l : List (List UInt8), RdT W v l ∧ Shp v ∧ l.length ≤ maxLen ∧ ∀ p ∈ l, p.length ≤ maxLen := by
  rcases open_slice Tryz.underlying23 hf with ⟨hcs, _⟩ | ⟨a, len, cap, m, n, D, Pl, hcs, _, hl, hm, hmm, _, hi⟩
  · simp only [List.cons.injEq, and_true] at hcs
    subst hcs
    exact ⟨[], ⟨_, _, rfl, Or.inl rfl⟩, Or.inl rfl, Nat.zero_le _, fun x hx => by cases hx⟩
  · simp only [List.cons.injEq, and_true] at hcs
    subst hcs
    simp only [if_true] at hmm
    subst hmm
    clear hf
    rw [cellsRat] at hi
    have hel : ∀ i, i < len → ∃ (s : ByteArray), W.cell? (a.add i) = some (.string s) ∧ txOf (D i) = s.data.toList ∧ s.size ≤ maxLen := by
      intro i hil
      obtain ⟨cs', hc, ht⟩ := hi i (by omega)
      obtain ⟨s, hs, hx, hsz⟩ := DataW.trod_string Tryz.underlying29 ht
      subst hs
      obtain ⟨_, _, hat⟩ := World.cells?_some hc
      have c0 := hat 0 (by decide)
      rw [Go.Deep.add_add, Nat.mul_one] at c0
      have e : D i = .lit (.string s.data.toList) := (Prod.mk.inj hx).1
      exact ⟨s, c0, by rw [e]; rfl, hsz⟩
    refine ⟨(List.range len).map fun i => txOf (D i), ⟨some a, m, by simp, ?_⟩, Or.inr ⟨_, _, _, rfl⟩, by simp; omega, ?_⟩
    · by_cases h0 : len = 0
      · left; subst h0; rfl
      · right
        obtain ⟨s, c0, _⟩ := hel 0 (by omega)
        obtain ⟨b, off, spot⟩ := a
        have hspot : spot = none := by simpa [Addr.add] using World.cell?_spot c0
        subst hspot
        have hadd : ∀ j, (⟨b, off, none⟩ : Addr).add j = ⟨b, off + j, none⟩ := by
          intro j; unfold Addr.add; split <;> simp_all
        refine ⟨b, off, rfl, cell_lt1 c0, fun i hil => ?_⟩
        obtain ⟨s, c0, hw, _⟩ := hel i (by simpa using hil)
        rw [hadd] at c0
        simp [hw, c0]
        rfl
    · intro x hx
      obtain ⟨i, hil, rfl⟩ := List.mem_map.1 hx
      obtain ⟨s, _, hw, hs⟩ := hel i (by simpa using hil)
      rw [hw]
      show s.data.toList.length ≤ maxLen
      rw [Array.length_toList]
      exact hs
theorem open_tl {H : Type} {enc : TypeId × Value → H} {W : World} {v : Value} {d : DataW H} {p : List MemPlace}
    (hv : ∃ a len cap, v = .slice a len cap) (h : DataW.Trod enc Tryz.prog W 0 (fun _ => true) true 23 v d p) :
    ∃ l : List (List UInt8), RdT W v l ∧ Shp v ∧ l.length ≤ maxLen ∧ ∀ p ∈ l, p.length ≤ maxLen := by
  obtain ⟨fuel, hf⟩ := h
  obtain ⟨a0, len0, cap0, rfl⟩ := hv
  exact cell_tl hf
theorem laidOut : laidOutB Tryz.prog = true := by kernel_rfl
theorem below_all {H : Type} {enc : TypeId × Value → H} {P : Program} (hl : laidOutB P = true) {W W' : World} (hb : Below W.heap.size W W') :
    ∀ (ts : List TypeId) (vs : List Value) (ds : List (DataW H)) (ps : List MemPlace), DataW.TrodAll enc P W 0 (fun _ => true) true ts vs ds ps →
      (ts.all fun t => P.readableRec t && decide (t < P.types.size)) = true → (∀ x ∈ ps, x.block < W.heap.size) → DataW.TrodAll enc P W' 0 (fun b => decide (b < W.heap.size)) true ts vs ds ps := by
  intro ts
  induction ts with
  | nil =>
    intro vs ds ps h _ _
    cases vs <;> cases ds <;> exact h
  | cons t ts ih =>
    intro vs ds ps h ht hlt
    cases vs with
    | nil => exact h.elim
    | cons v vs =>
      cases ds with
      | nil => exact h.elim
      | cons d ds =>
        obtain ⟨p, q, h1, h2, rfl⟩ := h
        rw [List.all_cons, Bool.and_eq_true, Bool.and_eq_true, decide_eq_true_eq] at ht
        exact ⟨p, q, Below.trod hl ht.1.1 ht.1.2 h1 hb (fun x hx => hlt x (by simp [hx])), ih vs ds q h2 ht.2 (fun x hx => hlt x (by simp [hx])), rfl⟩
theorem post_true {H : Type} {enc : TypeId × Value → H} {f : Func} {s : ChangeSpec} {W W' : World} {args : Array Value} {ds : List (DataW H)} {before : List MemPlace}
    (hW : DataW.Whole enc Tryz.prog f.params.toList s.vars false W args.toList ds [] before) (hfn : s.fn H (ds ++ []) = { results := [.lit (.bool true)], args := ds }) (hv : s.vars = []) (hrt : f.resultTypes = #[4])
    (ht : (f.params.toList.all fun t => Tryz.prog.readableRec t && decide (t < Tryz.prog.types.size)) = true) (hb : Below W.heap.size W W') :
    s.post enc Tryz.prog f false true false false W args (.bool true) W' := by
  have hW' := hW
  obtain ⟨p, q, hA, hV, rfl, hfz, hnd⟩ := hW
  have hq : q = [] := by rw [hv] at hV; exact (trodVars_none hV).2
  subst hq
  refine ⟨ds, [], p ++ [], [], p, [], hW', ?_, ?_, ?_, hb.frame _, fun h => by cases h⟩
  · rw [hfn, hrt]
    exact trodAll_cons_mk (shut_bool Tryz.underlying4 true) trodAll_mk0
  · rw [hfn]
    exact below_all laidOut hb _ _ _ _ hA ht (fun x hx => hW'.lt x (by simp [hx]))
  · rw [hfn, hv]
    exact rfl
end Fin
end Go.Proofs.YtijpgddpejiohaaGreatDoor
end
section
namespace Go.Proofs.YtijpgddpejiohaaGreatDoor
open Go Go.RowKit Go.ChangeShapes Go.WideShapes Go.ChangeAt Go.Deep
namespace Fin
set_option maxRecDepth 20000
abbrev rngS : ByteArray := { data := #[118, 97, 108, 117, 101, 32, 111, 117, 116, 32, 111, 102, 32, 114, 97, 110, 103, 101] }
abbrev synS : ByteArray := { data := #[105, 110, 118, 97, 108, 105, 100, 32, 115, 121, 110, 116, 97, 120] }
def cellsOfD : DataW Unit → List Value
  | .lit (.int k n) => [.int k n]
  | .agg l => l.flatMap fun
    | .lit (.int k n) => [.int k n]
    | .agg l2 => l2.map fun
      | .lit (.int k n) => .int k n
      | _ => .int .u8 0
    | _ => []
  | _ => []
noncomputable def low : Nat := (World.holding Tryz.prog default ⟨#[], #[], []⟩).heap.size
def lay (h : Array Obj) (g : Nat) (cs : List Value) : Array Obj := h.modify g fun
  | .cells _ t frozen => .cells cs.toArray t frozen
  | o => o
noncomputable def laidWorld (os : Os) : World :=
  let w0 := World.holding Tryz.prog os ⟨#[.cells #[.string rngS] 314, .cells #[.string synS] 314], #[], []⟩
  { w0 with heap := lay (lay (lay (lay (lay (lay (lay w0.heap 6 (cellsOfD Rows.laid_math_bits_deBruijn32tab)) 7 (cellsOfD Rows.laid_math_bits_deBruijn64tab))
      1 (cellsOfD Rows.laid_internal_strconv_uint64pow10)) 5 (cellsOfD Rows.laid_unicode_utf8_acceptRanges)) 4 (cellsOfD Rows.laid_unicode_utf8_first))
      3 [.iface 312 (.pointer (some ⟨low, 0, none⟩))]) 2 [.iface 312 (.pointer (some ⟨low + 1, 0, none⟩))] }
theorem laid_met (os : Os) (args : Array Value) : laidMet Tryz.prog lists ((laidWorld os).forCall (fun _ _ => 0) ⟨#[], args, []⟩).memory :=
  laidMet_of_run' 8 (by kernel_rfl) (by kernel_rfl)
end Fin
end Go.Proofs.YtijpgddpejiohaaGreatDoor
end
section
namespace Go.Proofs.YtijpgddpejiohaaGreatDoor
open Go Go.RowKit Go.Deep
namespace M
abbrev BQ := List Rat × Rat
structure Tb where
  n : Nat
  m : Nat
  rows : List (List Rat)
  basis : List Nat
  goal : List Rat
  deriving DecidableEq
def Tb.wd (t : Tb) : Nat := 2 * t.n + t.m + 1
def zs (k : Nat) : List Rat := List.replicate k 0
def nth (l : List Rat) (k : Nat) : Rat := l.getD k 0
end M
end Go.Proofs.YtijpgddpejiohaaGreatDoor
end
section
namespace Go.Proofs.YtijpgddpejiohaaGreatDoor
open Go
namespace M
structure Tg where
  x : Int
  y : Int
  lo : Int
  hi : Int
  tol : Int
  mat : Int
  pin : Bool
structure Cc where
  x : Int
  y : Int
  d : Int
def inC (n : Int) : Bool := decide (-100000 ≤ n) && decide (n ≤ 100000)
def extr (t : Tg) (n : Int) : Int := if t.mat = 0 then 0 else if (decide (t.mat = 1) != t.pin) = true then n - t.lo else t.hi - n
abbrev Pl := List (Tg × Cc)
end M
end Go.Proofs.YtijpgddpejiohaaGreatDoor
end
section
namespace Go.Proofs.YtijpgddpejiohaaGreatDoor
open Go Go.RowKit Go.Deep Go.Sort
def NoErP (w : World) (b : Nat) : Prop := Row w b 110 [.int .i64 0]
theorem NoErP.below' {b : Nat} {w w' : World} (h : NoErP w b) (hb : Below w.heap.size w w') : NoErP w' b := Row.below' h hb
theorem NoErP.cell {w : World} {b : Nat} (h : NoErP w b) : w.cell? ⟨b, 0, none⟩ = some (.int .i64 0) := Row.cell h rfl
theorem NoErP.free {w : World} {b : Nat} (h : NoErP w b) : w.frozen? ⟨b, 0, none⟩ = false := Row.free h 0
theorem Below.sameP {B : Nat} {a w : World} (h : Below B a w) {b : Nat} (hn : NoErP w b) : Below B a (w.setCell ⟨b, 0, none⟩ (.int .i64 0)) := by
  have hr := Row.set hn 0 (.int .i64 0)
  refine h.trans ⟨rfl, rfl, rfl, ?_, fun k hk => ?_⟩
  · show _ ≤ (w.heap.modify _ _).size; simp
  · by_cases hkb : k = b
    · subst hkb
      exact hr.trans (Eq.symm hn)
    · exact Below.heap_setCell _ _ _ _ hkb
theorem bel_to {W E W2 : World} (h1 : Below W.heap.size W E) (h2 : Below E.heap.size E W2) : Below W.heap.size W W2 := h1.trans (h2.mono h1.size)
namespace W
open M
attribute [local go_sem] bs_size bs_toList bs_get bs_extract bs_append bs_lit0 bs_lit1 lit1_bs
set_option maxHeartbeats 1000000
set_option maxRecDepth 20000
theorem psof (b : Nat) (s : List UInt8) (w : World) (hs : NoErP w b) :
    Calls Tryz.prog 128 #[.pointer (some ⟨b, 0, none⟩), .string (bs s), .int .i64 0] w (Ret w (.string (bs s))) := by
  have hc := hs.cell
  have hf := hs.free
  have HS := Lib.hid hs
  clear hs
  go_enter Tryz.func128, Tryz.ntmps128
  go_wp2
  go_ret
  exact Ret.of rfl (Below.sameP (Below.refl _ _) HS.out)
theorem pssign (b : Nat) (q : Rat) (k : Nat) (w : World) (hg : Glob w) (hs : NoErP w b) (hq : Bq k q) (hk : k ≤ 1024) :
    Calls Tryz.prog 130 #[.pointer (some ⟨b, 0, none⟩), .string (bs (R q))] w (Ret w (.int .i64 (Int.sign q.num))) := by
  have HC := Lib.hid (rsign_ok q k w hg hq hk)
  have HO := Lib.hid (fun W (hW : Below w.heap.size w W) => psof b [48] W (hs.below' hW))
  clear hs hq
  generalize Int.sign q.num = sg at *
  generalize R q = s at *
  go_enter Tryz.func130, Tryz.ntmps130
  go_wp2_with fail
  refine (HC.out).mono ?_
  rintro e w1 ⟨rfl, hb1⟩
  go_wp2_with fail
  refine (HO.out _ hb1).mono ?_
  rintro e w2 ⟨rfl, hb2⟩
  go_wp2
  go_ret
  exact Ret.of rfl (Below.then hb1 hb2)
theorem R_is0 {q : Rat} : R q = [48] ↔ q = 0 := by
  rw [← R_nil]
  exact ⟨fun h => R_inj h, fun h => by rw [h]⟩
theorem psless (b : Nat) (x y z : Rat) (i j k : Nat) (w : World) (hg : Glob w) (hs : NoErP w b) (hx : Bq i x) (hy : Bq j y) (hz : Bq k z) (hb : i + (j + k) + 1 ≤ 1024) :
    Calls Tryz.prog 133 #[.pointer (some ⟨b, 0, none⟩), .string (bs (R x)), .string (bs (R y)), .string (bs (R z))] w (Ret w (.string (bs (R (x - y * z))))) := by
  by_cases hy0 : y = 0
  · have e : x - y * z = x := by rw [hy0]; grind
    rw [e]
    have ey := R_is0.2 hy0
    clear hs hx hy hz e
    generalize R y = sy at *
    subst ey
    generalize R x = sx at *
    generalize R z = sz at *
    go_enter Tryz.func133, Tryz.ntmps133
    go_wp2
    go_ret
    exact Ret.of rfl (Below.refl _ _)
  · have ny : (R y == [48]) = false := by rw [beq_eq_false_iff_ne]; exact fun h => hy0 (R_is0.1 h)
    by_cases hz0 : z = 0
    · have e : x - y * z = x := by rw [hz0]; grind
      rw [e]
      have ez := R_is0.2 hz0
      clear hs hx hy hz e
      generalize R z = sz at *
      subst ez
      generalize R x = sx at *
      generalize R y = sy at *
      go_enter Tryz.func133, Tryz.ntmps133
      go_wp2
      go_ret
      exact Ret.of rfl (Below.refl _ _)
    · have nz : (R z == [48]) = false := by rw [beq_eq_false_iff_ne]; exact fun h => hz0 (R_is0.1 h)
      have HM := Lib.hid (ratMul y z j k w hg hy hz (by omega))
      have HS := Lib.hid (fun W (hW : Below w.heap.size w W) => ratSub x (y * z) i (j + k) W (hg.of hW) hx (hy.mul hz) hb)
      have HO := Lib.hid (fun s W (hW : Below w.heap.size w W) => psof b s W (hs.below' hW))
      clear hs hx hy hz hy0 hz0
      generalize R (x - y * z) = r at *
      generalize R (y * z) = p at *
      generalize R x = sx at *
      generalize R y = sy at *
      generalize R z = sz at *
      go_enter Tryz.func133, Tryz.ntmps133
      go_wp2_with fail
      refine (HM.out).mono ?_
      rintro e w1 ⟨rfl, hb1⟩
      go_wp2_with fail
      refine (HO.out _ _ hb1).mono ?_
      rintro e w2 ⟨rfl, hb2⟩
      have hb2 := Below.then hb1 hb2
      go_wp2_with fail
      refine (HS.out _ hb2).mono ?_
      rintro e w3 ⟨rfl, hb3⟩
      have hb3 := Below.then hb2 hb3
      go_wp2_with fail
      refine (HO.out _ _ hb3).mono ?_
      rintro e w4 ⟨rfl, hb4⟩
      go_wp2
      go_ret
      exact Ret.of rfl (Below.then hb3 hb4)
noncomputable def chkLs : List (List (List UInt8)) → Nat
  | [] => 0
  | l :: t => if chkRs l = 0 then chkLs t else chkRs l
theorem pnumbers (ls : List (Value × List (List UInt8))) (g : Nat) (w : World) (hg : Glob w) (hr : Row w g 23 (ls.map (·.1)))
    (h : ∀ x ∈ ls, RdT w x.1 x.2 ∧ x.2.length ≤ 1000000 ∧ ∀ p ∈ x.2, p.length ≤ 90000) (hn : ls.length ≤ 10) :
    Calls Tryz.prog 62 #[.slice (some ⟨g, 0, none⟩) ls.length ls.length] w (Ret w (.int .i64 ((chkLs (ls.map (·.2)) : Nat) : Int))) := by
  have HR := Lib.hid hr
  have HL := Lib.hid (fun i (hi : i < ls.length) => h _ (List.getElem_mem hi))
  generalize hch : ((chkLs (ls.map (·.2)) : Nat) : Int) = ch
  have HCH := Lib.hid hch
  clear hr h hch
  go_enter Tryz.func62, Tryz.ntmps62
  go_wp2
  go_loopw [10] (fun iv wr => ∃ i : Nat, iv = .int .i64 (i : Int) ∧ i ≤ ls.length ∧ Hid (chkLs (ls.map (·.2)) = chkLs ((ls.drop i).map (·.2))) ∧ Below w.heap.size w wr) (fun iv _ => ls.length - (intOf iv).toNat)
  case atStart => exact ⟨0, rfl, by omega, (rfl : chkLs (ls.map (·.2)) = chkLs ((ls.drop 0).map (·.2))), Below.refl _ _⟩
  case round =>
    obtain ⟨i, rfl, hi, hk, hbw⟩ := hrel
    by_cases hlt : i < ls.length
    · have cc := (HR.out.below' hbw).cell (i := i) (v := ls[i].1) (by simp [hlt])
      have hk2 := hk.out
      rw [List.drop_eq_getElem_cons hlt, List.map_cons, chkLs] at hk2
      obtain ⟨hrd, hln, hps⟩ := HL.out i hlt
      have hrd := hrd.below hbw
      clear hk
      generalize ls[i] = x at *
      obtain ⟨v, l⟩ := x
      simp only at cc hk2 hrd hln hps
      have HRD := Lib.hid hrd
      obtain ⟨A, cap, rfl⟩ := hrd.len
      have HPC := Lib.hid (fun j (hj : j < l.length) W (hW : Below w.heap.size w W) => vcheckR l[j] W (hg.of hW) (hps _ (List.getElem_mem hj)))
      have HK := Lib.hid hk2
      clear hrd hk2 hps
      obtain ⟨W0, hW0⟩ : ∃ y, y = wr := ⟨wr, rfl⟩
      subst hW0
      go_wp2
      go_loopw [16] (fun jv wr2 => ∃ j : Nat, jv = .int .i64 (j : Int) ∧ j ≤ l.length ∧ Hid (chkRs l = chkRs (l.drop j)) ∧ Below W0.heap.size W0 wr2) (fun jv _ => l.length - (intOf jv).toNat)
      case atStart => exact ⟨0, rfl, by omega, (rfl : chkRs l = chkRs (l.drop 0)), Below.refl _ _⟩
      case round =>
        obtain ⟨j, rfl, hj, hq, hbv⟩ := hrel
        by_cases hlj : j < l.length
        · obtain ⟨b1, o1, rfl, hw⟩ := HRD.out.row j hlj
          have cv := (hw.below' hbv).val j hlj
          have hq2 := hq.out
          rw [chkRs_drop l j hlj] at hq2
          have HP := Lib.hid (HPC.out j hlj wr (bel_to hbw hbv))
          clear hq hw
          generalize l[j] = x at *
          by_cases hc : chkR x = 0
          · rw [if_pos hc] at hq2
            rw [hc] at HP
            have HQ := Lib.hid hq2
            clear hq2 hc
            go_wp2_with fail
            refine (HP.out).mono ?_
            rintro e w1 ⟨rfl, hb1⟩
            have hb1' := hbv.trans (hb1.mono hbv.size)
            go_wp2
            go_roundw
            case rel => exact ⟨j + 1, by go_num, by omega, HQ, hb1'⟩
            case measure => simp [intOf]; omega
          · rw [if_neg hc] at hq2
            have hz : (((chkR x : Nat) : Int) != 0) = true := by simp; exact hc
            have HQ := Lib.hid (show chkLs (ls.map (·.2)) = chkR x by rw [HK.out, hq2, if_neg hc])
            clear hq2 hc
            generalize hcc : ((chkR x : Nat) : Int) = c at *
            have HCC := Lib.hid hcc
            clear hcc
            go_wp2_with fail
            refine (HP.out).mono ?_
            rintro e w1 ⟨rfl, hb1⟩
            have hb1' := hbw.trans ((hbv.trans (hb1.mono hbv.size)).mono hbw.size)
            go_wp2
            go_ret
            exact Ret.of (by rw [← HCH.out, HQ.out, HCC.out]; rfl) hb1'
        · obtain rfl : j = l.length := by omega
          have hq2 := hq.out
          rw [List.drop_length] at hq2
          have HQ := Lib.hid (show chkLs (ls.map (·.2)) = chkLs ((ls.drop (i + 1)).map (·.2)) by rw [HK.out, hq2]; rfl)
          clear hq2 hq
          go_wp2
          go_roundw
          case rel => exact ⟨i + 1, by go_num, hlt, HQ, bel_to hbw hbv⟩
          case measure => simp [intOf]; omega
    · obtain rfl : i = ls.length := by omega
      have hk2 := hk.out
      rw [List.drop_length] at hk2
      have HK := Lib.hid hk2
      clear hk2 hk
      go_wp2
      go_ret
      exact Ret.of (by rw [← HCH.out, HK.out]; rfl) hbw
end W
end Go.Proofs.YtijpgddpejiohaaGreatDoor
end
