/-
  Numbers and their texts: what the chapters above layer 2 want. (Printed by wip/gend.py.)
  Chapter 3 of the program: 'checks', and what the methods of 'sums' do where there is no error.
  Layer 2 of the program: 'Neg' and 'Div' at valid numbers, where no result is too long.
  What the rows' listed variables give a walk; arguments that are lists of texts and of bounds (chapter 5).
  A world for the witness: the settled one, the listed variables holding what the rows list.
  Chapter 5, plain: the simplex table over rational numbers, as the program turns it; the examples of the chapter.
  Chapter 46, plain: plates, their errors, their bounds.
  Chapter 46: lists of targets and of circles that are read. (Printed by wip/flat.py.)
-/
import Derived.Test.YtellemlhhlafcaaGreatDoorMG
import Derived.Test.YtellemlhhlafcaaGreatDoorMF
import Derived.RegionTactic
import Derived.ChangeAlike
import Derived.BigRegion
import Derived.Laws.OwnMore
import Derived.Laws.StructEq
import Derived.Deep.RegionLaw
import Derived.Lib.QuietBelow
import Derived.Laws.ResultCell
import Derived.Test.YtellemlhhlafcaaGreatDoorMC
import Derived.Test.YtellemlhhlafcaaGreatDoorCards
import Derived.Test.YtellemlhhlafcaaGreatDoorTie
import Derived.ProofKit
import Derived.OpenShut
import Derived.Deep.DeepHandedRow
import Derived.Deep.DeepWitnessRowRef
import Derived.Deep.Slices
import Derived.Deep.Fields
import Derived.ChangeSame
import Derived.Shelf.Vars
section
namespace Go.Proofs.YtellemlhhlafcaaGreatDoor
open Go Go.RowKit Go.Deep
namespace M
theorem R_inj {a b : Rat} (h : R a = R b) : a = b := by
  have h1 := R_cutN a
  have h2 := R_cutD a
  rw [h] at h1 h2
  have e1 : I b.num = I a.num := (R_cutN b).symm.trans h1
  have e2 : I (b.den : Int) = I (a.den : Int) := (R_cutD b).symm.trans h2
  have f1 := zv_I a.num
  rw [← e1, zv_I] at f1
  have f2 := zv_I (a.den : Int)
  rw [← e2, zv_I] at f2
  exact Rat.ext f1.symm (by omega)
end M
namespace W
open M
attribute [local go_sem] bs_size bs_toList bs_get bs_extract bs_append bs_lit0 bs_lit1 lit1_bs
set_option maxHeartbeats 1000000
set_option maxRecDepth 20000
theorem ratWhole (n : Int) (w : World) (hg : Glob w) (h0 : -9223372036854775808 ≤ n) (h1 : n ≤ 9223372036854775807) :
    Calls Tryz.prog 93 #[.int .i64 n] w (Ret w (.string (bs (R (n : Rat))))) := by
  rw [R_int]
  have HO := Lib.hid (vof_any n w hg h0 h1)
  go_enter Tryz.func93, Tryz.ntmps93
  go_wp2_with fail
  refine (HO.out).mono ?_
  rintro e w1 ⟨rfl, hb1⟩
  go_wp2
  go_ret
  exact Ret.of rfl hb1
end W
end Go.Proofs.YtellemlhhlafcaaGreatDoor
end
section
namespace Go.Proofs.YtellemlhhlafcaaGreatDoor
open Go Go.RowKit Go.Deep Go.Sort
namespace M
end M
theorem reg_of {f : Nat} {args : Array Value} {v : Value} {w : World} (h : ∀ W, Below w.heap.size w W → Calls Tryz.prog f args W (Ret W v)) :
    ∀ d os, Calls Tryz.prog f args (grow (redrawn w d) os) fun e w'' => e = .returned v ∧ ∃ p : Regrown, w'' = grow (redrawn w p.d) p.os := fun d os => Calls.regrown_of (h _ (below_regrown w d os))
namespace W
open M
attribute [local go_sem] bs_size bs_toList bs_get bs_extract bs_append bs_lit0 bs_lit1 lit1_bs
set_option maxHeartbeats 1000000
set_option maxRecDepth 20000
end W
end Go.Proofs.YtellemlhhlafcaaGreatDoor
end
section
namespace Go.Proofs.YtellemlhhlafcaaGreatDoor
open Go Go.RowKit Go.Deep
namespace W
open M
attribute [local go_sem] bs_size bs_toList bs_get bs_extract bs_append bs_lit0 bs_lit1 lit1_bs
set_option maxHeartbeats 1000000
set_option maxRecDepth 20000
theorem R_nil : R 0 = [48] := by
  have : ((0 : Int) : Rat) = 0 := rfl
  rw [← this, W.R_int, I_zero]
theorem ent_divc : Enters Tryz.prog 227 := enters_of Tryz.func227 (by kernel_rfl) rfl
theorem div_c (b : Nat) (n p m q : Int) (w : World) (hg : Glob w) (hs : NoErr w b) (hn : Ok n) (hp : Ok p) (hm : Ok m) (hq : Ok q) (h1 : Ok (n * q)) (h4 : Ok (p * m)) :
    Calls Tryz.prog 227 #[.pointer (some ⟨b, 0, none⟩), .string (bs (I n)), .string (bs (I p)), .string (bs (I m)), .string (bs (I q))] w (Ret w (.tuple #[.string (bs (I (n * q))), .string (bs (I (p * m)))])) := by
  have H1 := Lib.hid (fun w' hg hs => smul_two b n q w' hg hs hn hq h1)
  have H4 := Lib.hid (fun w' hg hs => smul_two b p m w' hg hs hp hm h4)
  have HS := Lib.hid hs
  have hbl := hs.lt
  clear hs hn hp hm hq h1 h4
  go_enter Tryz.func227, Tryz.ntmps227
  go_wp2_with fail
  refine (H1.out _ hg HS.out).mono ?_
  rintro e w1 ⟨rfl, hb1⟩
  have hb1 := alloc_then hb1
  go_wp2_with fail
  refine (H4.out _ (hg.of hb1) (HS.out.below' hb1)).mono ?_
  rintro e w4 ⟨rfl, hb4⟩
  have hb4 := Below.then hb1 (alloc_then hb4)
  go_wp2
  go_ret2
  exact Ret.of rfl hb4
theorem div_div (a b : Rat) : Rat.divInt (a.num * (b.den : Int)) ((a.den : Int) * b.num) = a / b := by
  conv => rhs; rw [← Rat.num_divInt_den a, ← Rat.num_divInt_den b]
  rw [Rat.divInt_eq_div, Rat.divInt_eq_div, Rat.divInt_eq_div, Rat.intCast_mul, Rat.intCast_mul]
  grind
theorem ratDiv (a b : Rat) (j k : Nat) (w : World) (hg : Glob w) (ha : Bq j a) (hb : Bq k b) (h0 : b ≠ 0) (hjk : j + k ≤ 1024) :
    Calls Tryz.prog 197 #[.string (bs (R a)), .string (bs (R b))] w (Ret w (.tuple #[.string (bs (R (a / b))), .int .i64 0])) := by
  have h1 := mul_pow ha.1 (den_abs hb)
  have h4 := mul_pow (den_abs ha) hb.1
  have hn0 : b.num ≠ 0 := fun e => h0 (Rat.num_eq_zero.1 e)
  have hd0 : (a.den : Int) * b.num ≠ 0 := Int.mul_ne_zero (by have := a.den_pos; omega) hn0
  have HM := Lib.hid (fun wx hgx => made_ok 227 a b (a.num * (b.den : Int)) ((a.den : Int) * b.num) j k wx ent_divc hgx ha hb (by omega) (by omega) (ok_pow h1 (by omega)) (ok_pow h4 (by omega)) hd0
    (fun wy bx hgy hsx => div_c bx _ _ _ _ wy hgy hsx (ha.num (by omega)) (ha.den (by omega)) (hb.num (by omega)) (hb.den (by omega)) (ok_pow h1 (by omega)) (ok_pow h4 (by omega))))
  rw [div_div] at HM
  have la := ha.R_len (by omega)
  have lb := hb.R_len (by omega)
  have hc := checks_two (R a) (R b) w hg (by omega) (by omega)
  rw [show chkRs [R a, R b] = 0 by simp [chkRs, ha.chk (by omega), hb.chk (by omega)]] at hc
  have HC := Lib.hid hc
  have hz : (R b == [48]) = false := by
    rw [beq_eq_false_iff_ne]
    intro e
    rw [← R_nil] at e
    exact h0 (R_inj e)
  have HAL := Lib.hid ((Below.refl w.heap.size w).alloc (Nat.le_refl _) (.cells #[.string (bs (R a)), .string (bs (R b))] 86))
  clear h1 h4 hd0 hn0 ha hb h0 hc la lb
  generalize R (a / b) = r at *
  generalize R a = p at *
  generalize R b = q at *
  go_enter Tryz.func197, Tryz.ntmps197
  go_wp2_with fail
  refine (HC.out).mono ?_
  rintro e w1 ⟨rfl, hb1⟩
  have hb1' := HAL.out.trans (hb1.mono HAL.out.size)
  go_wp2_with fail
  refine (HM.out _ (hg.of hb1')).mono ?_
  rintro e w2 ⟨rfl, hb2⟩
  go_wp2
  go_ret2
  exact Ret.of rfl (Below.then hb1' hb2)
end W
end Go.Proofs.YtellemlhhlafcaaGreatDoor
end
section
namespace Go.Proofs.YtellemlhhlafcaaGreatDoor
open Go Go.RowKit Go.ChangeShapes Go.WideShapes Go.ChangeAt Go.Deep
namespace Fin
set_option maxRecDepth 20000
theorem own : ownKnob Tryz.prog.godebug = none := by kernel_rfl
theorem laid_each {P : Program} {W : World} : ∀ {l : List (String × DataW Unit)} {ps : List MemPlace}, DataW.LaidVars P W l ps → ∀ n d, (n, d) ∈ l →
    ∃ g t cs fuel p, P.globalNamed n = some g ∧ (P.globals[g]?).map (·.type) = some t ∧ W.var? P n = some cs ∧ DataW.trod (fun _ => ()) P W 0 (fun _ => true) false fuel t cs.toList = some (d, p)
  | [], _, _, n, d, hm => by cases hm
  | (n0, d0) :: r, ps, h, n, d, hm => by
    obtain ⟨g, t, cs, fuel, p, q, h1, h2, h3, h4, h5, _⟩ := h
    rcases List.mem_cons.1 hm with e | hm
    · cases e
      exact ⟨g, t, cs, fuel, p, h1, h2, h3, h4⟩
    · exact laid_each h5 n d hm
theorem laid_tab {P : Program} {W : World} {l : List (String × DataW Unit)} {name : String} {k : IntKind} {zs : List Int} {g : Nat} {t e : TypeId} {n : Nat}
    (hg : P.globalNamed name = some g) (hty : (P.globals[g]?).map (·.type) = some t) (ht : P.underlying t = some (.array n e)) (he : P.underlying e = some (.int k)) (hce : P.cellsOf e = 1) (hct : P.cellsOf t = n)
    (h : laidMet P l W) (hm : (name, Lib.tabData k zs) ∈ l) : Lib.TabIs P W name k zs := by
  obtain ⟨ps, hl, _⟩ := h
  obtain ⟨g', t', cs, fuel, p, hg', ht', hvar, hd⟩ := laid_each hl name _ hm
  obtain rfl := Option.some.inj (hg.symm.trans hg')
  obtain rfl := Option.some.inj (hty.symm.trans ht')
  unfold Lib.TabIs
  rw [hvar, ← Lib.cells_of_tab ht he hce hct hd]
theorem laid_lt {P : Program} {W : World} {l : List (String × DataW Unit)} {name : String} {d : DataW Unit} {g : Nat} (hg : P.globalNamed name = some g) (h : laidMet P l W) (hm : (name, d) ∈ l) : g < W.heap.size := by
  obtain ⟨ps, hl, _⟩ := h
  obtain ⟨g', t', cs, fuel, p, hg', _, hvar, _⟩ := laid_each hl name d hm
  obtain rfl := Option.some.inj (hg.symm.trans hg')
  unfold World.var? at hvar
  rw [hg] at hvar
  simp only [Option.bind_some] at hvar
  rcases Nat.lt_or_ge g W.heap.size with h | h
  · exact h
  · rw [Array.getElem?_eq_none h] at hvar; cases hvar
theorem gPowType : (Tryz.prog.globals[6]?).map (·.type) = some 367 := by kernel_rfl
theorem cellsPow : Tryz.prog.cellsOf 367 = 20 := by kernel_rfl
theorem cellsU64 : Tryz.prog.cellsOf 330 = 1 := by kernel_rfl
theorem gLast : Tryz.prog.globalNamed "math/bits.deBruijn64tab" = some 8 := by kernel_rfl
theorem pow_laid : (Rows.laid_internal_strconv_uint64pow10 : DataW Unit) = Lib.tabData .u64 Lib.pow10Tab := by kernel_rfl
theorem cell_lt1 {w : World} {a : Addr} {v : Value} (h : w.cell? a = some v) : a.block < w.heap.size := by
  rcases Nat.lt_or_ge a.block w.heap.size with h1 | h1
  · exact h1
  · unfold World.cell? at h; rw [Array.getElem?_eq_none h1] at h; cases h
theorem laidOut : laidOutB Tryz.prog = true := by kernel_rfl
theorem below_all {H : Type} {enc : TypeId × Value → H} {P : Program} (hl : laidOutB P = true) {W W' : World} (hb : Below W.heap.size W W') :
    ∀ (ts : List TypeId) (vs : List Value) (ds : List (DataW H)) (ps : List MemPlace), DataW.TrodAll enc P W 0 (fun _ => true) true ts vs ds ps →
      (ts.all fun t => P.readableRec t && decide (t < P.types.size)) = true → (∀ x ∈ ps, x.block < W.heap.size) → DataW.TrodAll enc P W' 0 (fun b => decide (b < W.heap.size)) true ts vs ds ps := by
  intro ts
  induction ts with
  | nil =>
    intro vs ds ps h _ _
    cases vs <;> cases ds <;> exact h
  | cons t ts ih =>
    intro vs ds ps h ht hlt
    cases vs with
    | nil => exact h.elim
    | cons v vs =>
      cases ds with
      | nil => exact h.elim
      | cons d ds =>
        obtain ⟨p, q, h1, h2, rfl⟩ := h
        rw [List.all_cons, Bool.and_eq_true, Bool.and_eq_true, decide_eq_true_eq] at ht
        exact ⟨p, q, Below.trod hl ht.1.1 ht.1.2 h1 hb (fun x hx => hlt x (by simp [hx])), ih vs ds q h2 ht.2 (fun x hx => hlt x (by simp [hx])), rfl⟩
theorem post_true {H : Type} {enc : TypeId × Value → H} {f : Func} {s : ChangeSpec} {W W' : World} {args : Array Value} {ds : List (DataW H)} {before : List MemPlace}
    (hW : DataW.Whole enc Tryz.prog f.params.toList s.vars false W args.toList ds [] before) (hfn : s.fn H (ds ++ []) = { results := [.lit (.bool true)], args := ds }) (hv : s.vars = []) (hrt : f.resultTypes = #[4])
    (ht : (f.params.toList.all fun t => Tryz.prog.readableRec t && decide (t < Tryz.prog.types.size)) = true) (hb : Below W.heap.size W W') :
    s.post enc Tryz.prog f false true false false W args (.bool true) W' := by
  have hW' := hW
  obtain ⟨p, q, hA, hV, rfl, hfz, hnd⟩ := hW
  have hq : q = [] := by rw [hv] at hV; exact (trodVars_none hV).2
  subst hq
  refine ⟨ds, [], p ++ [], [], p, [], hW', ?_, ?_, ?_, hb.frame _, fun h => by cases h⟩
  · rw [hfn, hrt]
    exact trodAll_cons_mk (shut_bool Tryz.underlying4 true) trodAll_mk0
  · rw [hfn]
    exact below_all laidOut hb _ _ _ _ hA ht (fun x hx => hW'.lt x (by simp [hx]))
  · rw [hfn, hv]
    exact rfl
end Fin
end Go.Proofs.YtellemlhhlafcaaGreatDoor
end
section
namespace Go.Proofs.YtellemlhhlafcaaGreatDoor
open Go Go.RowKit Go.ChangeShapes Go.WideShapes Go.ChangeAt Go.Deep
namespace Fin
set_option maxRecDepth 20000
abbrev rngS : ByteArray := { data := #[118, 97, 108, 117, 101, 32, 111, 117, 116, 32, 111, 102, 32, 114, 97, 110, 103, 101] }
abbrev synS : ByteArray := { data := #[105, 110, 118, 97, 108, 105, 100, 32, 115, 121, 110, 116, 97, 120] }
def cellsOfD : DataW Unit → List Value
  | .lit (.int k n) => [.int k n]
  | .agg l => l.flatMap fun
    | .lit (.int k n) => [.int k n]
    | .agg l2 => l2.map fun
      | .lit (.int k n) => .int k n
      | _ => .int .u8 0
    | _ => []
  | _ => []
noncomputable def low : Nat := (World.holding Tryz.prog default ⟨#[], #[], []⟩).heap.size
def lay (h : Array Obj) (g : Nat) (cs : List Value) : Array Obj := h.modify g fun
  | .cells _ t frozen => .cells cs.toArray t frozen
  | o => o
noncomputable def laidWorld (os : Os) : World :=
  let w0 := World.holding Tryz.prog os ⟨#[.cells #[.string rngS] 374, .cells #[.string synS] 374], #[], []⟩
  { w0 with heap := lay (lay (lay (lay (lay (lay (lay w0.heap 7 (cellsOfD Rows.laid_math_bits_deBruijn32tab)) 8 (cellsOfD Rows.laid_math_bits_deBruijn64tab))
      6 (cellsOfD Rows.laid_internal_strconv_uint64pow10)) 3 (cellsOfD Rows.laid_unicode_utf8_acceptRanges)) 2 (cellsOfD Rows.laid_unicode_utf8_first))
      5 [.iface 372 (.pointer (some ⟨low, 0, none⟩))]) 4 [.iface 372 (.pointer (some ⟨low + 1, 0, none⟩))] }
end Fin
end Go.Proofs.YtellemlhhlafcaaGreatDoor
end
section
namespace Go.Proofs.YtellemlhhlafcaaGreatDoor
open Go Go.RowKit Go.Deep
namespace M
abbrev BQ := List Rat × Rat
end M
end Go.Proofs.YtellemlhhlafcaaGreatDoor
end
section
namespace Go.Proofs.YtellemlhhlafcaaGreatDoor
open Go
namespace M
structure Tg where
  x : Int
  y : Int
  lo : Int
  hi : Int
  tol : Int
  mat : Int
  pin : Bool
structure Cc where
  x : Int
  y : Int
  d : Int
def inC (n : Int) : Bool := decide (-100000 ≤ n) && decide (n ≤ 100000)
def szC (n : Int) : Bool := decide (1 ≤ n) && decide (n ≤ 100000)
def chkT (t : Tg) : Nat :=
  if (inC t.x && inC t.y && szC t.lo && szC t.hi) = false then 2 else if t.hi < t.lo then 9
  else if (decide (t.tol < 0) || decide (100000 < t.tol) || (!t.pin && decide (t.lo ≤ t.tol))) = true then 2 else if (decide (t.mat < 0) || decide (3 ≤ t.mat)) = true then 1 else 0
def ringC (c : Cc) : Nat := if (inC c.x && inC c.y && szC c.d) = true then 0 else 2
def wth (t : Tg) (n : Int) : Bool := decide (t.lo ≤ n) && decide (n ≤ t.hi)
def extr (t : Tg) (n : Int) : Int := if t.mat = 0 then 0 else if (decide (t.mat = 1) != t.pin) = true then n - t.lo else t.hi - n
def wide (t : Tg) (c : Cc) : Int := t.tol + extr t c.d
structure RtT (t : Tg) : Prop where
  x : -100000 ≤ t.x ∧ t.x ≤ 100000
  y : -100000 ≤ t.y ∧ t.y ≤ 100000
  lo : 1 ≤ t.lo ∧ t.lo ≤ 100000
  hi : 1 ≤ t.hi ∧ t.hi ≤ 100000
  lh : t.lo ≤ t.hi
  tol : 0 ≤ t.tol ∧ t.tol ≤ 100000
  pin : t.pin = false → t.tol < t.lo
  mat : t.mat = 0 ∨ t.mat = 1 ∨ t.mat = 2
structure RtC (c : Cc) : Prop where
  x : -100000 ≤ c.x ∧ c.x ≤ 100000
  y : -100000 ≤ c.y ∧ c.y ≤ 100000
  d : 1 ≤ c.d ∧ c.d ≤ 100000
theorem chkT_iff (t : Tg) : chkT t = 0 ↔ RtT t := by
  unfold chkT
  constructor
  · intro h
    split at h
    · cases h
    · rename_i h1
      split at h
      · cases h
      · rename_i h2
        split at h
        · cases h
        · rename_i h3
          split at h
          · cases h
          · rename_i h4
            simp only [inC, szC, Bool.and_eq_false_iff, Bool.or_eq_true, Bool.and_eq_true, decide_eq_true_eq, decide_eq_false_iff_not, Bool.not_eq_true'] at h1 h3 h4
            refine ⟨by omega, by omega, by omega, by omega, by omega, by omega, fun hp => ?_, by omega⟩
            rw [hp] at h3
            simp only [true_and] at h3
            omega
  · intro h
    obtain ⟨h1, h2, h3, h4, h5, h6, h7, h8⟩ := h
    rw [if_neg, if_neg (by omega), if_neg, if_neg]
    · simp only [Bool.or_eq_true, decide_eq_true_eq]; omega
    · simp only [Bool.or_eq_true, Bool.and_eq_true, decide_eq_true_eq, Bool.not_eq_true']
      rintro ((h | h) | ⟨h, h'⟩)
      · omega
      · omega
      · have := h7 h; omega
    · simp only [inC, szC, Bool.and_eq_false_iff, decide_eq_false_iff_not]; omega
theorem ringC_iff (c : Cc) : ringC c = 0 ↔ RtC c := by
  unfold ringC
  constructor
  · intro h
    split at h
    · rename_i h1
      simp only [inC, szC, Bool.and_eq_true, decide_eq_true_eq] at h1
      exact ⟨by omega, by omega, by omega⟩
    · cases h
  · intro h
    obtain ⟨h1, h2, h3⟩ := h
    rw [if_pos]
    simp only [inC, szC, Bool.and_eq_true, decide_eq_true_eq]; omega
def RtH (p : Tg × Cc) : Prop := RtT p.1 ∧ RtC p.2 ∧ p.1.lo ≤ p.2.d ∧ p.2.d ≤ p.1.hi
theorem RtH.wide {p : Tg × Cc} (h : RtH p) : 0 ≤ wide p.1 p.2 ∧ wide p.1 p.2 ≤ 200000 := by
  obtain ⟨h1, h2, h3, h4⟩ := h
  have a := h1.lo
  have b := h1.hi
  have c := h1.tol
  unfold M.wide extr
  split
  · omega
  · split <;> omega
abbrev Pl := List (Tg × Cc)
end M
end Go.Proofs.YtellemlhhlafcaaGreatDoor
end
section
namespace Go.Proofs.YtellemlhhlafcaaGreatDoor
open Go Go.RowKit Go.Deep
structure SlG (w : World) (b o : Nat) (l : List M.Tg) : Prop where
  lt : b < w.heap.size
  val : ∀ i (h : i < l.length), w.cell? ⟨b, o + i * 7, none⟩ = some (.int .i64 l[i].x) ∧ w.cell? ⟨b, o + i * 7 + 1, none⟩ = some (.int .i64 l[i].y) ∧ w.cell? ⟨b, o + i * 7 + 2, none⟩ = some (.int .i64 l[i].lo) ∧ w.cell? ⟨b, o + i * 7 + 3, none⟩ = some (.int .i64 l[i].hi) ∧ w.cell? ⟨b, o + i * 7 + 4, none⟩ = some (.int .i64 l[i].tol) ∧ w.cell? ⟨b, o + i * 7 + 5, none⟩ = some (.int .i64 l[i].mat) ∧ w.cell? ⟨b, o + i * 7 + 6, none⟩ = some (.bool l[i].pin)
theorem SlG.below' {w w' : World} {b o : Nat} {l : List M.Tg} (h : SlG w b o l) (hb : Below w.heap.size w w') : SlG w' b o l :=
  ⟨Nat.lt_of_lt_of_le h.lt hb.size, fun i hi => by
    have h1 := h.val i hi
    have hc : ∀ o v, w.cell? ⟨b, o, none⟩ = some v → w'.cell? ⟨b, o, none⟩ = some v := fun o v e => (hb.cell (by exact h.lt)).trans e
    exact ⟨hc _ _ h1.1, hc _ _ h1.2.1, hc _ _ h1.2.2.1, hc _ _ h1.2.2.2.1, hc _ _ h1.2.2.2.2.1, hc _ _ h1.2.2.2.2.2.1, hc _ _ h1.2.2.2.2.2.2⟩⟩
def RdG (w : World) (v : Value) (l : List M.Tg) : Prop := ∃ A cap, v = .slice A l.length cap ∧ (l = [] ∨ ∃ b o, A = some ⟨b, o, none⟩ ∧ SlG w b o l)
theorem RdG.below {w w' : World} {v : Value} {l : List M.Tg} (h : RdG w v l) (hb : Below w.heap.size w w') : RdG w' v l := by
  obtain ⟨A, cap, e, h2⟩ := h
  refine ⟨A, cap, e, ?_⟩
  rcases h2 with h2 | ⟨b, o, e2, h3⟩
  · exact Or.inl h2
  · exact Or.inr ⟨b, o, e2, h3.below' hb⟩
theorem RdG.len {w : World} {v : Value} {l : List M.Tg} (h : RdG w v l) : ∃ A cap, v = .slice A l.length cap := by
  obtain ⟨A, cap, e, _⟩ := h; exact ⟨A, cap, e⟩
theorem RdG.row {w : World} {A : Option Addr} {n cap : Nat} {l : List M.Tg} (h : RdG w (.slice A n cap) l) (i : Nat) (hi : i < l.length) : ∃ b o, A = some ⟨b, o, none⟩ ∧ SlG w b o l := by
  obtain ⟨A', cap', e, h2⟩ := h
  injection e with e
  subst e
  exact h2.resolve_left (fun e => by rw [e] at hi; cases hi)
def csG (l : List M.Tg) : List Value := l.flatMap fun x => [.int .i64 x.x, .int .i64 x.y, .int .i64 x.lo, .int .i64 x.hi, .int .i64 x.tol, .int .i64 x.mat, .bool x.pin]
theorem csG_append (a b : List M.Tg) : csG (a ++ b) = csG a ++ csG b := by simp [csG]
theorem csG_len (l : List M.Tg) : (csG l).length = l.length * 7 := by
  induction l with
  | nil => rfl
  | cons x t ih => simp only [csG, List.flatMap_cons, List.length_append, List.length_cons, List.length_nil] at *; omega
theorem csG_get (l : List M.Tg) (i : Nat) (h : i < l.length) : (csG l)[i * 7]? = some (.int .i64 l[i].x) ∧ (csG l)[i * 7 + 1]? = some (.int .i64 l[i].y) ∧ (csG l)[i * 7 + 2]? = some (.int .i64 l[i].lo) ∧ (csG l)[i * 7 + 3]? = some (.int .i64 l[i].hi) ∧ (csG l)[i * 7 + 4]? = some (.int .i64 l[i].tol) ∧ (csG l)[i * 7 + 5]? = some (.int .i64 l[i].mat) ∧ (csG l)[i * 7 + 6]? = some (.bool l[i].pin) := by
  induction l generalizing i with
  | nil => cases h
  | cons x t ih =>
    rcases i with _ | j
    · exact ⟨rfl, rfl, rfl, rfl, rfl, rfl, rfl⟩
    · have hj : j < t.length := by simpa using h
      have e1 : csG (x :: t) = (.int .i64 x.x : Value) :: (.int .i64 x.y : Value) :: (.int .i64 x.lo : Value) :: (.int .i64 x.hi : Value) :: (.int .i64 x.tol : Value) :: (.int .i64 x.mat : Value) :: (.bool x.pin : Value) :: csG t := rfl
      have k := ih j hj
      rw [e1]
      have hs : ∀ m v, (csG t)[m]? = some v → ((.int .i64 x.x : Value) :: (.int .i64 x.y : Value) :: (.int .i64 x.lo : Value) :: (.int .i64 x.hi : Value) :: (.int .i64 x.tol : Value) :: (.int .i64 x.mat : Value) :: (.bool x.pin : Value) :: csG t)[m + 7]? = some v := fun m v e => e
      exact ⟨(by have := hs _ _ k.1; rwa [show j * 7 + 7 = (j + 1) * 7 by omega] at this), (by have := hs _ _ k.2.1; rwa [show j * 7 + 1 + 7 = (j + 1) * 7 + 1 by omega] at this), (by have := hs _ _ k.2.2.1; rwa [show j * 7 + 2 + 7 = (j + 1) * 7 + 2 by omega] at this), (by have := hs _ _ k.2.2.2.1; rwa [show j * 7 + 3 + 7 = (j + 1) * 7 + 3 by omega] at this), (by have := hs _ _ k.2.2.2.2.1; rwa [show j * 7 + 4 + 7 = (j + 1) * 7 + 4 by omega] at this), (by have := hs _ _ k.2.2.2.2.2.1; rwa [show j * 7 + 5 + 7 = (j + 1) * 7 + 5 by omega] at this), (by have := hs _ _ k.2.2.2.2.2.2; rwa [show j * 7 + 6 + 7 = (j + 1) * 7 + 6 by omega] at this)⟩
structure SlC (w : World) (b o : Nat) (l : List M.Cc) : Prop where
  lt : b < w.heap.size
  val : ∀ i (h : i < l.length), w.cell? ⟨b, o + i * 3, none⟩ = some (.int .i64 l[i].x) ∧ w.cell? ⟨b, o + i * 3 + 1, none⟩ = some (.int .i64 l[i].y) ∧ w.cell? ⟨b, o + i * 3 + 2, none⟩ = some (.int .i64 l[i].d)
theorem SlC.below' {w w' : World} {b o : Nat} {l : List M.Cc} (h : SlC w b o l) (hb : Below w.heap.size w w') : SlC w' b o l :=
  ⟨Nat.lt_of_lt_of_le h.lt hb.size, fun i hi => by
    have h1 := h.val i hi
    have hc : ∀ o v, w.cell? ⟨b, o, none⟩ = some v → w'.cell? ⟨b, o, none⟩ = some v := fun o v e => (hb.cell (by exact h.lt)).trans e
    exact ⟨hc _ _ h1.1, hc _ _ h1.2.1, hc _ _ h1.2.2⟩⟩
def RdC (w : World) (v : Value) (l : List M.Cc) : Prop := ∃ A cap, v = .slice A l.length cap ∧ (l = [] ∨ ∃ b o, A = some ⟨b, o, none⟩ ∧ SlC w b o l)
theorem RdC.below {w w' : World} {v : Value} {l : List M.Cc} (h : RdC w v l) (hb : Below w.heap.size w w') : RdC w' v l := by
  obtain ⟨A, cap, e, h2⟩ := h
  refine ⟨A, cap, e, ?_⟩
  rcases h2 with h2 | ⟨b, o, e2, h3⟩
  · exact Or.inl h2
  · exact Or.inr ⟨b, o, e2, h3.below' hb⟩
theorem RdC.len {w : World} {v : Value} {l : List M.Cc} (h : RdC w v l) : ∃ A cap, v = .slice A l.length cap := by
  obtain ⟨A, cap, e, _⟩ := h; exact ⟨A, cap, e⟩
theorem RdC.row {w : World} {A : Option Addr} {n cap : Nat} {l : List M.Cc} (h : RdC w (.slice A n cap) l) (i : Nat) (hi : i < l.length) : ∃ b o, A = some ⟨b, o, none⟩ ∧ SlC w b o l := by
  obtain ⟨A', cap', e, h2⟩ := h
  injection e with e
  subst e
  exact h2.resolve_left (fun e => by rw [e] at hi; cases hi)
def csC (l : List M.Cc) : List Value := l.flatMap fun x => [.int .i64 x.x, .int .i64 x.y, .int .i64 x.d]
theorem csC_get (l : List M.Cc) (i : Nat) (h : i < l.length) : (csC l)[i * 3]? = some (.int .i64 l[i].x) ∧ (csC l)[i * 3 + 1]? = some (.int .i64 l[i].y) ∧ (csC l)[i * 3 + 2]? = some (.int .i64 l[i].d) := by
  induction l generalizing i with
  | nil => cases h
  | cons x t ih =>
    rcases i with _ | j
    · exact ⟨rfl, rfl, rfl⟩
    · have hj : j < t.length := by simpa using h
      have e1 : csC (x :: t) = (.int .i64 x.x : Value) :: (.int .i64 x.y : Value) :: (.int .i64 x.d : Value) :: csC t := rfl
      have k := ih j hj
      rw [e1]
      have hs : ∀ m v, (csC t)[m]? = some v → ((.int .i64 x.x : Value) :: (.int .i64 x.y : Value) :: (.int .i64 x.d : Value) :: csC t)[m + 3]? = some v := fun m v e => e
      exact ⟨(by have := hs _ _ k.1; rwa [show j * 3 + 3 = (j + 1) * 3 by omega] at this), (by have := hs _ _ k.2.1; rwa [show j * 3 + 1 + 3 = (j + 1) * 3 + 1 by omega] at this), (by have := hs _ _ k.2.2; rwa [show j * 3 + 2 + 3 = (j + 1) * 3 + 2 by omega] at this)⟩
theorem SlC.of_row {w : World} {g : Nat} {t : TypeId} {l : List M.Cc} (h : Row w g t (csC l)) : SlC w g 0 l :=
  ⟨h.lt, fun i hi => by
    have k := csC_get l i hi
    exact ⟨(by have := h.cell k.1; rwa [show 0 + i * 3 = i * 3 by omega]), (by have := h.cell k.2.1; rwa [show 0 + i * 3 + 1 = i * 3 + 1 by omega]), (by have := h.cell k.2.2; rwa [show 0 + i * 3 + 2 = i * 3 + 2 by omega])⟩⟩
end Go.Proofs.YtellemlhhlafcaaGreatDoor
end
