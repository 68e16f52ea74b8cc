/-
  What the rows' listed variables give a walk; a world for the witness; an argument that is a span, or a list of spans.
  A world for the witness: the settled one, the listed variables holding what the rows list.
-/
import Derived.Test.YtpjaoapnangccaaGreatDoorKP
import Derived.Test.YtpjaoapnangccaaGreatDoorCards
import Derived.Test.YtpjaoapnangccaaGreatDoorTie
import Derived.ProofKit
import Derived.OpenShut
import Derived.Deep.DeepHandedRow
import Derived.Deep.DeepWitnessRowRef
import Derived.Deep.Slices
import Derived.Deep.Fields
import Derived.ChangeSame
import Derived.Shelf.Vars
namespace Go.Proofs.YtpjaoapnangccaaGreatDoor
open Go Go.RowKit Go.ChangeShapes Go.WideShapes Go.ChangeAt Go.Deep
namespace Fin
set_option maxRecDepth 20000
theorem own : ownKnob Tryz.prog.godebug = none := by kernel_rfl
theorem laid_each {P : Program} {W : World} : ∀ {l : List (String × DataW Unit)} {ps : List MemPlace}, DataW.LaidVars P W l ps → ∀ n d, (n, d) ∈ l →
    ∃ g t cs fuel p, P.globalNamed n = some g ∧ (P.globals[g]?).map (·.type) = some t ∧ W.var? P n = some cs ∧ DataW.trod (fun _ => ()) P W 0 (fun _ => true) false fuel t cs.toList = some (d, p)
  | [], _, _, n, d, hm => by cases hm
  | (n0, d0) :: r, ps, h, n, d, hm => by
    obtain ⟨g, t, cs, fuel, p, q, h1, h2, h3, h4, h5, _⟩ := h
    rcases List.mem_cons.1 hm with e | hm
    · cases e
      exact ⟨g, t, cs, fuel, p, h1, h2, h3, h4⟩
    · exact laid_each h5 n d hm
theorem laid_tab {P : Program} {W : World} {l : List (String × DataW Unit)} {name : String} {k : IntKind} {zs : List Int} {g : Nat} {t e : TypeId} {n : Nat}
    (hg : P.globalNamed name = some g) (hty : (P.globals[g]?).map (·.type) = some t) (ht : P.underlying t = some (.array n e)) (he : P.underlying e = some (.int k)) (hce : P.cellsOf e = 1) (hct : P.cellsOf t = n)
    (h : laidMet P l W) (hm : (name, Lib.tabData k zs) ∈ l) : Lib.TabIs P W name k zs := by
  obtain ⟨ps, hl, _⟩ := h
  obtain ⟨g', t', cs, fuel, p, hg', ht', hvar, hd⟩ := laid_each hl name _ hm
  obtain rfl := Option.some.inj (hg.symm.trans hg')
  obtain rfl := Option.some.inj (hty.symm.trans ht')
  unfold Lib.TabIs
  rw [hvar, ← Lib.cells_of_tab ht he hce hct hd]
theorem laid_lt {P : Program} {W : World} {l : List (String × DataW Unit)} {name : String} {d : DataW Unit} {g : Nat} (hg : P.globalNamed name = some g) (h : laidMet P l W) (hm : (name, d) ∈ l) : g < W.heap.size := by
  obtain ⟨ps, hl, _⟩ := h
  obtain ⟨g', t', cs, fuel, p, hg', _, hvar, _⟩ := laid_each hl name d hm
  obtain rfl := Option.some.inj (hg.symm.trans hg')
  unfold World.var? at hvar
  rw [hg] at hvar
  simp only [Option.bind_some] at hvar
  rcases Nat.lt_or_ge g W.heap.size with h | h
  · exact h
  · rw [Array.getElem?_eq_none h] at hvar; cases hvar
theorem gPowType : (Tryz.prog.globals[3]?).map (·.type) = some 248 := by kernel_rfl
theorem cellsPow : Tryz.prog.cellsOf 248 = 20 := by kernel_rfl
theorem cellsU64 : Tryz.prog.cellsOf 185 = 1 := by kernel_rfl
theorem gLast : Tryz.prog.globalNamed "math/bits.deBruijn64tab" = some 7 := by kernel_rfl
/-- The variables that every row of this seat lists. -/
def lists : List (String × DataW Unit) := [("math/bits.deBruijn32tab", Rows.laid_math_bits_deBruijn32tab), ("math/bits.deBruijn64tab", Rows.laid_math_bits_deBruijn64tab), ("internal/strconv.uint64pow10", Rows.laid_internal_strconv_uint64pow10), ("unicode/utf8.acceptRanges", Rows.laid_unicode_utf8_acceptRanges), ("strconv.ErrRange", Rows.laid_strconv_ErrRange), ("strconv.ErrSyntax", Rows.laid_strconv_ErrSyntax), ("unicode/utf8.first", Rows.laid_unicode_utf8_first)]
theorem pow_laid : (Rows.laid_internal_strconv_uint64pow10 : DataW Unit) = Lib.tabData .u64 Lib.pow10Tab := by kernel_rfl
theorem noHandle : (lists.filter fun x => x.2.handleName?.isSome) = [] := by kernel_rfl
theorem glob {W : World} (h : laidMetH Tryz.prog lists W) (hs : W.ShapedOpen Tryz.prog) : Glob W := by
  unfold laidMetH at h
  rw [noHandle] at h
  refine ⟨?_, ?_, ?_⟩
  · exact cell_of_shapedOpen_int (t := 3) (zero := #[.int .i64 0]) hs (of_decide_eq_true (by kernel_rfl)) (by kernel_rfl) rfl (by kernel_rfl) (by kernel_rfl) Tryz.underlying3
  · exact laid_tab gTab gPowType Tryz.underlying248 Tryz.underlying185 cellsU64 cellsPow h (by rw [← pow_laid]; simp [lists])
  · exact laid_lt (d := Rows.laid_math_bits_deBruijn64tab) gLast h (by unfold lists; exact List.mem_cons_of_mem _ (List.mem_cons_self ..))
theorem cellsSp : Tryz.prog.cellsOf 24 = 2 := by kernel_rfl
theorem cellsRat : Tryz.prog.cellsOf 22 = 1 := by kernel_rfl
theorem cell_lt1 {w : World} {a : Addr} {v : Value} (h : w.cell? a = some v) : a.block < w.heap.size := by
  rcases Nat.lt_or_ge a.block w.heap.size with h1 | h1
  · exact h1
  · unfold World.cell? at h; rw [Array.getElem?_eq_none h1] at h; cases h
theorem bs_size {l : List UInt8} (h : (bs l).size ≤ maxLen) : l.length ≤ maxLen := by
  have e : (bs l).size = l.length := by simp [bs, ByteArray.size]
  omega
def spOf {H : Type} : DataW H → M.PT
  | .agg [.lit (.string s), .lit (.string t)] => (s, t)
  | _ => ([], [])
theorem elt_sp {H : Type} {enc : TypeId × Value → H} {W : World} {base n : Nat} {sp : Nat → Bool} {held : Bool} {cs : List Value} {x : DataW H × List MemPlace} (h : DataW.trod enc Tryz.prog W base sp held n 24 cs = some x) :
    ∃ (s t : ByteArray), cs = [.string s, .string t] ∧ spOf x.1 = (s.data.toList, t.data.toList) ∧ s.size ≤ maxLen ∧ t.size ≤ maxLen := by
  obtain ⟨xs, k, _, rfl, hlen, hxl, hf⟩ := DataW.trod_struct Tryz.underlying24 h
  rw [cellsSp] at hlen
  match cs, hlen with
  | [c0, c1], _ =>
    have h0 := hf 0 _ rfl
    have h1 := hf 1 _ rfl
    change DataW.trod enc Tryz.prog W base sp held k 22 ((([c0, c1] : List Value).drop 0).take (Tryz.prog.cellsOf 22)) = xs[0]? at h0
    change DataW.trod enc Tryz.prog W base sp held k 22 ((([c0, c1] : List Value).drop 1).take (Tryz.prog.cellsOf 22)) = xs[1]? at h1
    rw [cellsRat] at h0 h1
    change DataW.trod enc Tryz.prog W base sp held k 22 [c0] = xs[0]? at h0
    change DataW.trod enc Tryz.prog W base sp held k 22 [c1] = xs[1]? at h1
    match xs, hxl with
    | [x0, x1], _ =>
      simp only [List.getElem?_cons_zero, List.getElem?_cons_succ] at h0 h1
      obtain ⟨z, hz, hx0, hsz0⟩ := DataW.trod_string Tryz.underlying22 h0
      obtain ⟨s, hs, hx1, hsz⟩ := DataW.trod_string Tryz.underlying22 h1
      simp only [List.cons.injEq, and_true] at hz hs
      subst hz; subst hs; subst hx0; subst hx1
      exact ⟨z, s, rfl, rfl, hsz0, hsz⟩
/-- An argument that is a list of spans. -/
theorem open_sl {H : Type} {enc : TypeId × Value → H} {W : World} {v : Value} {d : DataW H} {p : List MemPlace}
    (hv : ∃ a len cap, v = .slice a len cap) (h : DataW.Trod enc Tryz.prog W 0 (fun _ => true) true 36 v d p) :
    ∃ l : List M.PT, RdP W v l ∧ l.length ≤ maxLen ∧ ∀ x ∈ l, x.1.length ≤ maxLen ∧ x.2.length ≤ maxLen := by
  obtain ⟨fuel, hf⟩ := h
  obtain ⟨a0, len0, cap0, rfl⟩ := hv
  have hf' : DataW.trod enc Tryz.prog W 0 (fun _ => true) true fuel 36 [.slice a0 len0 cap0] = some (d, p) := hf
  rcases open_slice Tryz.underlying36 hf' with ⟨hcs, _⟩ | ⟨a, len, cap, m, n, D, Pl, hcs, _, hl, hm, hmm, _, hi⟩
  · simp at hcs
    obtain ⟨rfl, rfl, rfl⟩ := hcs
    exact ⟨[], ⟨_, _, rfl, Or.inl rfl⟩, Nat.zero_le _, fun x hx => by cases hx⟩
  · simp at hcs
    obtain ⟨rfl, rfl, rfl⟩ := hcs
    simp only [if_true] at hmm
    subst hmm
    clear hf hf'
    rw [cellsSp] at hi
    have hel : ∀ i, i < len0 → ∃ (z s : ByteArray), W.cell? (a.add (i * 2)) = some (.string z) ∧ W.cell? (a.add (i * 2 + 1)) = some (.string s) ∧ spOf (D i) = (z.data.toList, s.data.toList) ∧ z.size ≤ maxLen ∧ s.size ≤ maxLen := by
      intro i hil
      obtain ⟨cs', hc, ht⟩ := hi i (by omega)
      obtain ⟨z, s, rfl, hw, hs⟩ := elt_sp ht
      obtain ⟨_, _, hat⟩ := World.cells?_some hc
      have c0 := hat 0 (by decide)
      have c1 := hat 1 (by decide)
      rw [Go.Deep.add_add] at c0 c1
      exact ⟨z, s, c0, c1, hw, hs⟩
    refine ⟨(List.range len0).map fun i => spOf (D i), ⟨some a, m, by simp, ?_⟩, by simp; omega, ?_⟩
    · by_cases h0 : len0 = 0
      · left; subst h0; rfl
      · right
        obtain ⟨z, s, c0, _⟩ := hel 0 (by omega)
        obtain ⟨b, off, spot⟩ := a
        have hspot : spot = none := by simpa [Addr.add] using World.cell?_spot c0
        subst hspot
        have hadd : ∀ j, (⟨b, off, none⟩ : Addr).add j = ⟨b, off + j, none⟩ := by
          intro j; unfold Addr.add; split <;> simp_all
        refine ⟨b, off, rfl, cell_lt1 c0, fun i hil => ?_, fun i hil => ?_⟩
        · obtain ⟨z, s, c0, c1, hw, _⟩ := hel i (by simpa using hil)
          rw [hadd] at c0
          simp [hw, c0]
          rfl
        · obtain ⟨z, s, c0, c1, hw, _⟩ := hel i (by simpa using hil)
          rw [hadd] at c1
          simp [hw]
          rw [show off + i * 2 + 1 = off + (i * 2 + 1) by omega, c1]
          rfl
    · intro x hx
      obtain ⟨i, hil, rfl⟩ := List.mem_map.1 hx
      obtain ⟨z, s, _, _, hw, hz, hs⟩ := hel i (by simpa using hil)
      rw [hw]
      constructor
      · show z.data.toList.length ≤ maxLen
        rw [Array.length_toList]
        exact hz
      · show s.data.toList.length ≤ maxLen
        rw [Array.length_toList]
        exact hs
theorem laidOut : laidOutB Tryz.prog = true := by kernel_rfl
theorem below_all {H : Type} {enc : TypeId × Value → H} {P : Program} (hl : laidOutB P = true) {W W' : World} (hb : Below W.heap.size W W') :
    ∀ (ts : List TypeId) (vs : List Value) (ds : List (DataW H)) (ps : List MemPlace), DataW.TrodAll enc P W 0 (fun _ => true) true ts vs ds ps →
      (ts.all fun t => P.readableRec t && decide (t < P.types.size)) = true → (∀ x ∈ ps, x.block < W.heap.size) → DataW.TrodAll enc P W' 0 (fun b => decide (b < W.heap.size)) true ts vs ds ps := by
  intro ts
  induction ts with
  | nil =>
    intro vs ds ps h _ _
    cases vs <;> cases ds <;> exact h
  | cons t ts ih =>
    intro vs ds ps h ht hlt
    cases vs with
    | nil => exact h.elim
    | cons v vs =>
      cases ds with
      | nil => exact h.elim
      | cons d ds =>
        obtain ⟨p, q, h1, h2, rfl⟩ := h
        rw [List.all_cons, Bool.and_eq_true, Bool.and_eq_true, decide_eq_true_eq] at ht
        exact ⟨p, q, Below.trod hl ht.1.1 ht.1.2 h1 hb (fun x hx => hlt x (by simp [hx])), ih vs ds q h2 ht.2 (fun x hx => hlt x (by simp [hx])), rfl⟩
theorem post_true {H : Type} {enc : TypeId × Value → H} {f : Func} {s : ChangeSpec} {W W' : World} {args : Array Value} {ds : List (DataW H)} {before : List MemPlace}
    (hW : DataW.Whole enc Tryz.prog f.params.toList s.vars false W args.toList ds [] before) (hfn : s.fn H (ds ++ []) = { results := [.lit (.bool true)], args := ds }) (hv : s.vars = []) (hrt : f.resultTypes = #[4])
    (ht : (f.params.toList.all fun t => Tryz.prog.readableRec t && decide (t < Tryz.prog.types.size)) = true) (hb : Below W.heap.size W W') :
    s.post enc Tryz.prog f false true false false W args (.bool true) W' := by
  have hW' := hW
  obtain ⟨p, q, hA, hV, rfl, hfz, hnd⟩ := hW
  have hq : q = [] := by rw [hv] at hV; exact (trodVars_none hV).2
  subst hq
  refine ⟨ds, [], p ++ [], [], p, [], hW', ?_, ?_, ?_, hb.frame _, fun h => by cases h⟩
  · rw [hfn, hrt]
    exact trodAll_cons_mk (shut_bool Tryz.underlying4 true) trodAll_mk0
  · rw [hfn]
    exact below_all laidOut hb _ _ _ _ hA ht (fun x hx => hW'.lt x (by simp [hx]))
  · rw [hfn, hv]
    exact rfl
end Fin
end Go.Proofs.YtpjaoapnangccaaGreatDoor
namespace Go.Proofs.YtpjaoapnangccaaGreatDoor
open Go Go.RowKit Go.ChangeShapes Go.WideShapes Go.ChangeAt Go.Deep
namespace Fin
set_option maxRecDepth 20000
abbrev rngS : ByteArray := { data := #[118, 97, 108, 117, 101, 32, 111, 117, 116, 32, 111, 102, 32, 114, 97, 110, 103, 101] }
abbrev synS : ByteArray := { data := #[105, 110, 118, 97, 108, 105, 100, 32, 115, 121, 110, 116, 97, 120] }
/-- The cells of a datum that is a table. -/
def cellsOfD : DataW Unit → List Value
  | .lit (.int k n) => [.int k n]
  | .agg l => l.flatMap fun
    | .lit (.int k n) => [.int k n]
    | .agg l2 => l2.map fun
      | .lit (.int k n) => .int k n
      | _ => .int .u8 0
    | _ => []
  | _ => []
noncomputable def low : Nat := (World.holding Tryz.prog default ⟨#[], #[], []⟩).heap.size
/-- Block g holds the cells cs. -/
def lay (h : Array Obj) (g : Nat) (cs : List Value) : Array Obj := h.modify g fun
  | .cells _ t frozen => .cells cs.toArray t frozen
  | o => o
noncomputable def laidWorld (os : Os) : World :=
  let w0 := World.holding Tryz.prog os ⟨#[.cells #[.string rngS] 260, .cells #[.string synS] 260], #[], []⟩
  { w0 with heap := lay (lay (lay (lay (lay (lay (lay w0.heap 6 (cellsOfD Rows.laid_math_bits_deBruijn32tab)) 7 (cellsOfD Rows.laid_math_bits_deBruijn64tab))
      3 (cellsOfD Rows.laid_internal_strconv_uint64pow10)) 5 (cellsOfD Rows.laid_unicode_utf8_acceptRanges)) 4 (cellsOfD Rows.laid_unicode_utf8_first))
      2 [.iface 258 (.pointer (some ⟨low, 0, none⟩))]) 1 [.iface 258 (.pointer (some ⟨low + 1, 0, none⟩))] }
theorem laid_met (os : Os) (args : Array Value) : laidMet Tryz.prog lists ((laidWorld os).forCall (fun _ _ => 0) ⟨#[], args, []⟩).memory :=
  laidMet_of_run' 8 (by kernel_rfl) (by kernel_rfl)
end Fin
end Go.Proofs.YtpjaoapnangccaaGreatDoor
