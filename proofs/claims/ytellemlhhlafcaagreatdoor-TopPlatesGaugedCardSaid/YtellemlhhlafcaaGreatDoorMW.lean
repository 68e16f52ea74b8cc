/-
  Chapter 12 of the program: the place that a witness names ('named'). (Printed by wip/ce.py.)
-/
import Derived.Test.YtellemlhhlafcaaGreatDoorMTD
import Derived.Test.YtellemlhhlafcaaGreatDoorMV
import Derived.Test.YtellemlhhlafcaaGreatDoorMJ
import Derived.Test.YtellemlhhlafcaaGreatDoorMU
import Derived.BigRegion
section
namespace Go.Proofs.YtellemlhhlafcaaGreatDoor
open Go Go.RowKit Go.Deep Go.Sort
abbrev Z5 : List Value := [.string ⟨#[]⟩, .string ⟨#[]⟩, .string ⟨#[]⟩, .string ⟨#[]⟩, .string ⟨#[]⟩]
theorem five_store {w : World} {A : Nat} {t : TypeId} {x0 x1 x2 x3 x4 : Value} (y0 y1 y2 y3 y4 : Value) (hr : Row w A t [x0, x1, x2, x3, x4]) :
    (w.frozen? ⟨A, 0, none⟩ = false ∧ w.cell? ⟨A, 0, none⟩ = some x0) ∧
    ((w.setCell ⟨A, 0, none⟩ y0).frozen? ⟨A, 1, none⟩ = false ∧ (w.setCell ⟨A, 0, none⟩ y0).cell? ⟨A, 1, none⟩ = some x1) ∧
    (((w.setCell ⟨A, 0, none⟩ y0).setCell ⟨A, 1, none⟩ y1).frozen? ⟨A, 2, none⟩ = false ∧ ((w.setCell ⟨A, 0, none⟩ y0).setCell ⟨A, 1, none⟩ y1).cell? ⟨A, 2, none⟩ = some x2) ∧
    ((((w.setCell ⟨A, 0, none⟩ y0).setCell ⟨A, 1, none⟩ y1).setCell ⟨A, 2, none⟩ y2).frozen? ⟨A, 3, none⟩ = false ∧ (((w.setCell ⟨A, 0, none⟩ y0).setCell ⟨A, 1, none⟩ y1).setCell ⟨A, 2, none⟩ y2).cell? ⟨A, 3, none⟩ = some x3) ∧
    (((((w.setCell ⟨A, 0, none⟩ y0).setCell ⟨A, 1, none⟩ y1).setCell ⟨A, 2, none⟩ y2).setCell ⟨A, 3, none⟩ y3).frozen? ⟨A, 4, none⟩ = false ∧ ((((w.setCell ⟨A, 0, none⟩ y0).setCell ⟨A, 1, none⟩ y1).setCell ⟨A, 2, none⟩ y2).setCell ⟨A, 3, none⟩ y3).cell? ⟨A, 4, none⟩ = some x4) ∧
    Row (((((w.setCell ⟨A, 0, none⟩ y0).setCell ⟨A, 1, none⟩ y1).setCell ⟨A, 2, none⟩ y2).setCell ⟨A, 3, none⟩ y3).setCell ⟨A, 4, none⟩ y4) A t [y0, y1, y2, y3, y4] := by
  have h1 := hr.set 0 y0
  have h2 := h1.set 1 y1
  have h3 := h2.set 2 y2
  have h4 := h3.set 3 y3
  exact ⟨⟨hr.free 0, hr.cell rfl⟩, ⟨h1.free 1, h1.cell rfl⟩, ⟨h2.free 2, h2.cell rfl⟩, ⟨h3.free 3, h3.cell rfl⟩, ⟨h4.free 4, h4.cell rfl⟩, h4.set 4 y4⟩
theorem five_below {w0 w : World} {A : Nat} (y0 y1 y2 y3 y4 : Value) (hb : Below w0.heap.size w0 w) (hA : w0.heap.size ≤ A) :
    Below w0.heap.size w0 (((((w.setCell ⟨A, 0, none⟩ y0).setCell ⟨A, 1, none⟩ y1).setCell ⟨A, 2, none⟩ y2).setCell ⟨A, 3, none⟩ y3).setCell ⟨A, 4, none⟩ y4) :=
  ((((hb.setCell (p := ⟨A, 0, none⟩) hA y0).setCell (p := ⟨A, 1, none⟩) hA y1).setCell (p := ⟨A, 2, none⟩) hA y2).setCell (p := ⟨A, 3, none⟩) hA y3).setCell (p := ⟨A, 4, none⟩) hA y4
theorem join2 {K : Act → World → Prop} {G : Prop} {a : Nat → Nat → Act} {P : Nat → Nat → World → Prop} (main : (∀ A B E, P A B E → K (a A B) E) → G) (rest : ∀ A B E, P A B E → K (a A B) E) : G := main rest
structure Nm (w W : World) (b A B : Nat) (i j s : Int) (a1 a2 a3 c1 c2 c3 : List UInt8) : Prop where
  rw : Row W w.heap.size 42 [.int .i64 i, .int .i64 j, .int .i64 s]
  rr : Row W (w.heap.size + 1) 270 Z5
  ra : Row W A 127 [.string (bs a1), .string (bs a2), .string (bs a3)]
  rc : Row W B 127 [.string (bs c1), .string (bs c2), .string (bs c3)]
  ne : NoErrD W b
  bel : Below w.heap.size w W
theorem Nm.to {w W W' : World} {b A B : Nat} {i j s : Int} {a1 a2 a3 c1 c2 c3 : List UInt8} (h : Nm w W b A B i j s a1 a2 a3 c1 c2 c3) (hb : Below W.heap.size W W') : Nm w W' b A B i j s a1 a2 a3 c1 c2 c3 :=
  ⟨h.rw.below' hb, h.rr.below' hb, h.ra.below' hb, h.rc.below' hb, h.ne.below' hb, bel_to h.bel hb⟩
theorem Nm.two {w W0 : World} {b : Nat} {i j s : Int} (a1 a2 a3 c1 c2 c3 : List UInt8) (h1 : Row W0 w.heap.size 42 [.int .i64 i, .int .i64 j, .int .i64 s]) (h2 : Row W0 (w.heap.size + 1) 270 Z5) (hn : NoErrD W0 b) (hb : Below w.heap.size w W0) :
    Nm w ((W0.alloc (.cells #[.string (bs a1), .string (bs a2), .string (bs a3)] 127 (0, 0))).alloc (.cells #[.string (bs c1), .string (bs c2), .string (bs c3)] 127 (0, 0))).drew b W0.heap.size (W0.heap.size + 1) i j s a1 a2 a3 c1 c2 c3 := by
  have hd : ∀ W : World, Below W.heap.size W W.drew := fun W => RowKit.Below.drew (Below.refl _ _)
  have hb2 := bel_to (bel_al2 W0 (.cells #[.string (bs a1), .string (bs a2), .string (bs a3)] 127 (0, 0)) (.cells #[.string (bs c1), .string (bs c2), .string (bs c3)] 127 (0, 0))) (hd _)
  refine ⟨h1.below' hb2, h2.below' hb2, ?_, ?_, hn.below' hb2, bel_to hb hb2⟩
  · have h : Row (W0.alloc (.cells #[.string (bs a1), .string (bs a2), .string (bs a3)] 127 (0, 0))) W0.heap.size 127 [.string (bs a1), .string (bs a2), .string (bs a3)] := rnw
    exact (h.alloc _).below' (hd _)
  · have h : Row ((W0.alloc (.cells #[.string (bs a1), .string (bs a2), .string (bs a3)] 127 (0, 0))).alloc (.cells #[.string (bs c1), .string (bs c2), .string (bs c3)] 127 (0, 0))) (W0.heap.size + 1) 127 [.string (bs c1), .string (bs c2), .string (bs c3)] := rnew0 (World.size_alloc _ _).symm
    exact h.below' (hd _)
theorem Nm.swap {w W : World} {b A B : Nat} {i j s : Int} {a1 a2 a3 c1 c2 c3 : List UInt8} (h : Nm w W b A B i j s a1 a2 a3 c1 c2 c3) : Nm w W b B A i j s c1 c2 c3 a1 a2 a3 := ⟨h.rw, h.rr, h.rc, h.ra, h.ne, h.bel⟩
theorem row_neD {w : World} {a b : Nat} {t t' : TypeId} {xs ys : List Value} (h : Row w a t xs) (h2 : Row w b t' ys) (ht : t ≠ t') : a ≠ b := fun e => by
  unfold Row at h h2
  rw [e, h2] at h
  injection h with h
  injection h with _ h _
  exact ht h.symm
namespace M
theorem SmD.bf {a b : Dk} (ha : SmD a) (hb : SmD b) : Bq 15 (farD a b) := by
  by_cases h : farD a b = 0
  · rw [h]; exact Bq_nil.mono (by decide)
  · exact (ha.bt hb h).2
end M
def NamP (w : World) (l : List M.Dk) (x : M.Wn) (e : Ending) (w' : World) : Prop := ∃ f0 f1 f2 f3 f4, e = .returned (.tuple #[.agg #[.string (bs f0), .string (bs f1), .string (bs f2), .string (bs f3), .string (bs f4)], .bool (M.reachD l x).isSome]) ∧ Below w.heap.size w w' ∧
  ∀ p, M.reachD l x = some p → f0 = M.R p.fx ∧ f1 = M.R p.fy ∧ f2 = M.R p.ax ∧ f3 = M.R p.ay ∧ f4 = M.R p.h
namespace W
open M
attribute [local go_sem] bs_size bs_toList bs_get bs_extract bs_append bs_lit0 bs_lit1 lit1_bs
set_option maxHeartbeats 4000000
set_option maxRecDepth 20000
theorem R_zero_iff (q : Rat) : (R q == [48]) = decide (q = 0) := by
  by_cases h : q = 0
  · rw [h, R_nil]; rfl
  · rw [decide_eq_false h, beq_eq_false_iff_ne]
    intro e
    rw [← R_nil] at e
    exact h (R_inj e)
theorem R_two : R 2 = [50] := by kernel_rfl
theorem Bq_two : Bq 1 (2 : Rat) := by unfold Bq; decide +kernel
theorem knamed (vl : Value) (l : List Dk) (x : Wn) (b : Nat) (w : World) (hg : Glob w) (hs : NoErrD w b) (hl : RdK w vl l) (hi : x.i < l.length) (hj : x.j < l.length) (hn : l.length ≤ 64) (hS : ∀ d ∈ l, SmD d) :
    Calls Tryz.prog 162 #[.pointer (some ⟨b, 0, none⟩), vl, wnV x] w (NamP w l x) := by
  obtain ⟨A0, cap, rfl⟩ := hl.len
  obtain ⟨bb, o0, rfl, hsl⟩ := hl.row x.i hi
  obtain ⟨a, ha⟩ : ∃ a, l[x.i] = a := ⟨_, rfl⟩
  obtain ⟨c, hc⟩ : ∃ c, l[x.j] = c := ⟨_, rfl⟩
  have sa : SmD a := ha ▸ hS _ (List.getElem_mem hi)
  have sc : SmD c := hc ▸ hS _ (List.getElem_mem hj)
  have ea : atD l x.i = a := by unfold atD; rw [List.getD_eq_getElem?_getD, List.getElem?_eq_getElem hi]; exact ha
  have ec : atD l x.j = c := by unfold atD; rw [List.getD_eq_getElem?_getD, List.getElem?_eq_getElem hj]; exact hc
  have hRE : reachD l x = if x.i = x.j then (if x.side = 0 then some ⟨a.x, a.y, 0, 0, 0⟩ else none)
      else if farD a c = 0 then none
      else if 0 ≤ highD a c ∧ (highD a c = 0 ↔ x.side = 0) then some (crossD a c x.side) else none := by
    unfold reachD; rw [ea, ec]
  have HRE := Lib.hid hRE
  have hb0 := bel_al2 w (.cells #[.int .i64 (x.i : Int), .int .i64 (x.j : Int), .int .i64 x.side] 42 (0, 0)) (.cells Z5.toArray 270 (0, 0))
  have hW := rnw (w := w) (t := 42) (xs := [.int .i64 (x.i : Int), .int .i64 (x.j : Int), .int .i64 x.side])
  have hP : Row ((w.alloc (.cells #[.int .i64 (x.i : Int), .int .i64 (x.j : Int), .int .i64 x.side] 42 (0, 0))).alloc (.cells Z5.toArray 270 (0, 0))) (w.heap.size + 1) 270 Z5 := rnew0 (World.size_alloc _ _).symm
  have HR : Hid (Row ((w.alloc (.cells #[.int .i64 (x.i : Int), .int .i64 (x.j : Int), .int .i64 x.side] 42 (0, 0))).alloc (.cells #[.string ⟨#[]⟩, .string ⟨#[]⟩, .string ⟨#[]⟩, .string ⟨#[]⟩, .string ⟨#[]⟩] 270 (0, 0))) w.heap.size 42 [.int .i64 (x.i : Int), .int .i64 (x.j : Int), .int .i64 x.side] ∧ Row ((w.alloc (.cells #[.int .i64 (x.i : Int), .int .i64 (x.j : Int), .int .i64 x.side] 42 (0, 0))).alloc (.cells #[.string ⟨#[]⟩, .string ⟨#[]⟩, .string ⟨#[]⟩, .string ⟨#[]⟩, .string ⟨#[]⟩] 270 (0, 0))) (w.heap.size + 1) 270 Z5 ∧ Below w.heap.size w ((w.alloc (.cells #[.int .i64 (x.i : Int), .int .i64 (x.j : Int), .int .i64 x.side] 42 (0, 0))).alloc (.cells #[.string ⟨#[]⟩, .string ⟨#[]⟩, .string ⟨#[]⟩, .string ⟨#[]⟩, .string ⟨#[]⟩] 270 (0, 0)))) := Lib.hid ⟨hW.alloc _, hP, hb0⟩
  obtain ⟨q1, q2, q3, _⟩ := sa.bq
  obtain ⟨p1, p2, p3, _⟩ := sc.bq
  obtain ⟨ix, iy, e1, e2, d1, d2⟩ := sa.far sc
  have bx : Bq 7 (c.x - a.x) := by rw [e1]; exact Bq_int (by decide) d1
  have bY : Bq 7 (c.y - a.y) := by rw [e2]; exact Bq_int (by decide) d2
  have bF := sa.bf sc
  have b2F := Bq_two.mul bF
  have HL := Lib.hid (fun W (hW : Below w.heap.size w W) => kless b c.x c.y a.x a.y 6 6 W (hg.of hW) (hs.below' hW) p1 p2 q1 q2 (by decide))
  have hD := fun W (hW : Below w.heap.size w W) => kdot b (c.x - a.x) (c.y - a.y) (c.x - a.x) (c.y - a.y) 7 7 W (hg.of hW) (hs.below' hW) bx bY bx bY (by decide)
  rw [show (c.x - a.x) * (c.x - a.x) + (c.y - a.y) * (c.y - a.y) = farD a c from rfl] at hD
  have HD := Lib.hid hD
  have H55 := Lib.hid (fun W (hW : Below w.heap.size w W) => kadd b (farD a c) a.s 15 11 W (hg.of hW) (hs.below' hW) bF q3 (by decide))
  have b55 : Bq 27 (farD a c + a.s) := bF.add q3
  have H58 := Lib.hid (fun W (hW : Below w.heap.size w W) => ksub b (farD a c + a.s) c.s 27 11 W (hg.of hW) (hs.below' hW) b55 p3 (by decide))
  have b58 : Bq 39 (farD a c + a.s - c.s) := b55.sub p3
  have h61 := fun W (hW : Below w.heap.size w W) => kmul b 2 (farD a c) 1 15 W (hg.of hW) (hs.below' hW) Bq_two bF (by decide)
  rw [R_two] at h61
  have H61 := Lib.hid h61
  have h62 := fun (h0 : farD a c ≠ 0) W (hW : Below w.heap.size w W) => kdiv b (farD a c + a.s - c.s) (2 * farD a c) 39 16 W (hg.of hW) (hs.below' hW) b58 b2F (by grind) (by decide)
  rw [show (farD a c + a.s - c.s) / (2 * farD a c) = partD a c from rfl] at h62
  have H62 := Lib.hid h62
  have H71 := Lib.hid (fun (h0 : farD a c ≠ 0) W (hW : Below w.heap.size w W) => kmul b (partD a c) (c.x - a.x) 17 7 W (hg.of hW) (hs.below' hW) (sa.bt sc h0).1 bx (by decide))
  have H81 := Lib.hid (fun (h0 : farD a c ≠ 0) W (hW : Below w.heap.size w W) => kmul b (partD a c) (c.y - a.y) 17 7 W (hg.of hW) (hs.below' hW) (sa.bt sc h0).1 bY (by decide))
  have H72 := Lib.hid (fun (h0 : farD a c ≠ 0) W (hW : Below w.heap.size w W) => kadd b a.x (partD a c * (c.x - a.x)) 6 24 W (hg.of hW) (hs.below' hW) q1 ((sa.bt sc h0).1.mul bx) (by decide))
  have H82 := Lib.hid (fun (h0 : farD a c ≠ 0) W (hW : Below w.heap.size w W) => kadd b a.y (partD a c * (c.y - a.y)) 6 24 W (hg.of hW) (hs.below' hW) q2 ((sa.bt sc h0).1.mul bY) (by decide))
  have h87 := fun W (hW : Below w.heap.size w W) => ksub b 0 (c.y - a.y) 1 7 W (hg.of hW) (hs.below' hW) Bq_nil bY (by decide)
  have h111 := fun W (hW : Below w.heap.size w W) => ksub b 0 (c.x - a.x) 1 7 W (hg.of hW) (hs.below' hW) Bq_nil bx (by decide)
  rw [R_nil] at h87 h111
  have H87 := Lib.hid h87
  have H111 := Lib.hid h111
  have H96 := Lib.hid (fun (h0 : farD a c ≠ 0) W (hW : Below w.heap.size w W) => kdiv b a.s (farD a c) 11 15 W (hg.of hW) (hs.below' hW) q3 bF h0 (by decide))
  have H100 := Lib.hid (fun (h0 : farD a c ≠ 0) W (hW : Below w.heap.size w W) => kmul b (partD a c) (partD a c) 17 17 W (hg.of hW) (hs.below' hW) (sa.bt sc h0).1 (sa.bt sc h0).1 (by decide))
  have h101 := fun (h0 : farD a c ≠ 0) W (hW : Below w.heap.size w W) => ksub b (a.s / farD a c) (partD a c * partD a c) 26 34 W (hg.of hW) (hs.below' hW) (q3.div bF h0) ((sa.bt sc h0).1.mul (sa.bt sc h0).1) (by decide)
  rw [show a.s / farD a c - partD a c * partD a c = highD a c from rfl] at h101
  have H101 := Lib.hid h101
  have HF0 := Lib.hid (R_zero_iff (farD a c))
  have HH0 := Lib.hid (R_zero_iff (highD a c))
  obtain ⟨ch, ct, hct, hc45⟩ := R_head (highD a c)
  rw [hct] at H101 HH0
  have HC45 := Lib.hid hc45
  have ECH := Lib.hid hct
  have HV := Lib.hid (fun W (hW : Below w.heap.size w W) => And.intro ((hsl.below' hW).val x.i hi) ((hsl.below' hW).val x.j hj))
  rw [ha, hc] at HV
  have HNE := Lib.hid (fun W (hW : Below w.heap.size w W) => hs.below' hW)
  have hbl : b < w.heap.size := Row.lt hs
  clear hct hc45 hD h61 h62 h87 h111 h101 b55 b58 b2F bF bx bY e1 e2 d1 d2 q1 q2 q3 p1 p2 p3 sa sc hS hl ha hc ea ec hs hg hW hP hb0 hsl
  generalize R (a.s / farD a c) = s96 at *
  generalize R (partD a c * partD a c) = s100 at *
  generalize e72q : R (a.x + partD a c * (c.x - a.x)) = s72 at *
  have E72 := Lib.hid e72q
  clear e72q
  generalize e82q : R (a.y + partD a c * (c.y - a.y)) = s82 at *
  have E82 := Lib.hid e82q
  clear e82q
  generalize R (partD a c * (c.x - a.x)) = s71 at *
  generalize R (partD a c * (c.y - a.y)) = s81 at *
  generalize e87q : R (0 - (c.y - a.y)) = s87 at *
  have E87 := Lib.hid e87q
  clear e87q
  generalize e111q : R (0 - (c.x - a.x)) = s111 at *
  have E111 := Lib.hid e111q
  clear e111q
  generalize R (partD a c) = sT at *
  generalize R (2 * farD a c) = s61 at *
  generalize R (farD a c + a.s - c.s) = s58 at *
  generalize R (farD a c + a.s) = s55 at *
  generalize R (farD a c) = sF at *
  generalize edxq : R (c.x - a.x) = dx at *
  have Edx := Lib.hid edxq
  clear edxq
  generalize edyq : R (c.y - a.y) = dy at *
  have Edy := Lib.hid edyq
  clear edyq
  generalize ea1q : R a.x = a1 at *
  have Ea1 := Lib.hid ea1q
  clear ea1q
  generalize ea2q : R a.y = a2 at *
  have Ea2 := Lib.hid ea2q
  clear ea2q
  generalize R a.s = a3 at *
  generalize R c.x = c1 at *
  generalize R c.y = c2 at *
  generalize R c.s = c3 at *
  have hi0 : (0 : Int) ≤ (x.i : Int) := by omega
  have hi1 : (x.i : Int) < (l.length : Int) := by omega
  have hj0 : (0 : Int) ≤ (x.j : Int) := by omega
  have hj1 : (x.j : Int) < (l.length : Int) := by omega
  have _ := hn
  clear hi hj hn
  go_enter Tryz.func162, Tryz.ntmps162
  go_wp2_with fail
  generalize ((w.alloc (.cells #[.int .i64 (x.i : Int), .int .i64 (x.j : Int), .int .i64 x.side] 42 (0, 0))).alloc (.cells #[.string ⟨#[]⟩, .string ⟨#[]⟩, .string ⟨#[]⟩, .string ⟨#[]⟩, .string ⟨#[]⟩] 270 (0, 0))) = W0 at *
  have HV2 := Lib.hid (fun W (hW : Below W0.heap.size W0 W) => HV.out W (bel_to HR.out.2.2 hW))
  obtain ⟨⟨u0, u1, u2⟩, ⟨t0, t1, t2⟩⟩ := HV2.out _ (Below.refl _ _)
  have z0 := HR.out.1.cell (i := 0) rfl
  have z1 := HR.out.1.cell (i := 1) rfl
  have z0B := fun o => (HR.out.1.alloc o).cell (i := 0) rfl
  have z1B := fun o => (HR.out.1.alloc o).cell (i := 1) rfl
  have z0C := fun o o2 => ((HR.out.1.alloc o).alloc o2).cell (i := 0) rfl
  have z1C := fun o o2 => ((HR.out.1.alloc o).alloc o2).cell (i := 1) rfl
  have u0B := fun o => (HV2.out _ (bel_al W0 o)).1.1
  have u1B := fun o => (HV2.out _ (bel_al W0 o)).1.2.1
  have u2B := fun o => (HV2.out _ (bel_al W0 o)).1.2.2
  have t0B := fun o => (HV2.out _ (bel_al W0 o)).2.1
  have t1B := fun o => (HV2.out _ (bel_al W0 o)).2.2.1
  have t2B := fun o => (HV2.out _ (bel_al W0 o)).2.2.2
  have u0C := fun o o2 => (HV2.out _ (bel_al2 W0 o o2)).1.1
  have u1C := fun o o2 => (HV2.out _ (bel_al2 W0 o o2)).1.2.1
  have u2C := fun o o2 => (HV2.out _ (bel_al2 W0 o o2)).1.2.2
  have t0C := fun o o2 => (HV2.out _ (bel_al2 W0 o o2)).2.1
  have t1C := fun o o2 => (HV2.out _ (bel_al2 W0 o o2)).2.2.1
  have t2C := fun o o2 => (HV2.out _ (bel_al2 W0 o o2)).2.2.2
  rename_i K hK
  apply join2 (K := K) (P := fun A B E => Nm w E b A B x.i x.j x.side a1 a2 a3 c1 c2 c3)
  case main =>
    intro HF
    have HFI := Lib.hid HF
    clear HF
    go_region
    · generalize hA : W0.heap.size = AA
      generalize hB : AA + 1 = BB
      refine HFI.out AA BB _ ?_
      rw [← hB, ← hA]
      exact Nm.two _ _ _ _ _ _ HR.out.1 HR.out.2.1 (HNE.out _ HR.out.2.2) HR.out.2.2
    · generalize hA : W0.heap.size = AA
      generalize hB : AA + 1 = BB
      refine HFI.out BB AA _ ?_
      rw [← hB, ← hA]
      exact (Nm.two _ _ _ _ _ _ HR.out.1 HR.out.2.1 (HNE.out _ HR.out.2.2) HR.out.2.2).swap
  case rest =>
    intro A B E hE
    have HE := Lib.hid hE
    have i0 := hE.rw.cell (i := 0) rfl
    have i1 := hE.rw.cell (i := 1) rfl
    have i2 := hE.rw.cell (i := 2) rfl
    have g0 := hE.ra.cell (i := 0) rfl
    have g1 := hE.ra.cell (i := 1) rfl
    have n1 : A ≠ w.heap.size + 1 := row_neD hE.ra hE.rr (by decide)
    have n2 : w.heap.size ≠ w.heap.size + 1 := by omega
    refine hK _ _ ?_
    clear hE HV2 HV u0 u1 u2 t0 t1 t2 z0 z1 z0B z1B z0C z1C u0B u1B u2B t0B t1B t2B u0C u1C u2C t0C t1C t2C hi0 hi1 hj0 hj1 HR hK
    by_cases hij : x.i = x.j
    · have d : ((x.i : Int) == (x.j : Int)) = true := by simp [hij]
      obtain ⟨⟨f0, m0⟩, ⟨f1, m1⟩, ⟨f2, m2⟩, ⟨f3, m3⟩, ⟨f4, m4⟩, hrow⟩ := five_store (.string (bs a1)) (.string (bs a2)) (.string ⟨#[48]⟩) (.string ⟨#[48]⟩) (.string ⟨#[48]⟩) HE.out.rr
      have HQ := Lib.hid (And.intro hrow (five_below (.string (bs a1)) (.string (bs a2)) (.string ⟨#[48]⟩) (.string ⟨#[48]⟩) (.string ⟨#[48]⟩) HE.out.bel (A := w.heap.size + 1) (by omega)))
      clear hrow HL HD H55 H58 H61 H62 H71 H72 H81 H82 H87 H96 H100 H101 H111
      go_wp2_with fail
      go_region
      have hq := HQ.out.1.below' (RowKit.Below.drew (Below.refl _ _))
      have q0 := hq.cell (i := 0) rfl
      have q1 := hq.cell (i := 1) rfl
      have q2 := hq.cell (i := 2) rfl
      have q3 := hq.cell (i := 3) rfl
      have q4 := hq.cell (i := 4) rfl
      clear hq f0 f1 f2 f3 f4 m0 m1 m2 m3 m4 i0 i1 i2 g0 g1 n1 n2 HE
      have HSD : (M.reachD l x).isSome = (x.side == 0) := by
        rw [HRE.out, if_pos hij]
        by_cases hs : x.side = 0
        · rw [if_pos hs, hs]; rfl
        · rw [if_neg hs]; simp [hs]
      have HPP : ∀ p, M.reachD l x = some p → a1 = R p.fx ∧ a2 = R p.fy ∧ [48] = R p.ax ∧ [48] = R p.ay ∧ [48] = R p.h := by
        intro p hp
        rw [HRE.out, if_pos hij] at hp
        split at hp
        · cases hp; exact ⟨Ea1.out.symm, Ea2.out.symm, R_nil.symm, R_nil.symm, R_nil.symm⟩
        · cases hp
      have HF1 := Lib.hid HSD
      have HF2 := Lib.hid HPP
      clear HSD HPP
      go_wp2
      refine bodyPost_ret (v := .tuple #[.agg #[.string (bs a1), .string (bs a2), .string ⟨#[48]⟩, .string ⟨#[48]⟩, .string ⟨#[48]⟩], .bool (x.side == 0)]) (by simp [results, Tryz.results162, go_sem, q0, q1, q2, q3, q4]) rfl ⟨a1, a2, [48], [48], [48], ?_, RowKit.Below.drew HQ.out.2, HF2.out⟩
      rw [HF1.out]; rfl
    · have d : ((x.i : Int) == (x.j : Int)) = false := by simp; omega
      have h0 := HE.out.rc.cell (i := 0) rfl
      have h1 := HE.out.rc.cell (i := 1) rfl
      go_wp2_with fail
      refine (HL.out _ HE.out.bel).mono ?_
      rintro e w1 ⟨rfl, hb1⟩
      have hb2 := bel_to hb1 (bel_al w1 (.cells #[.string (bs dx), .string (bs dy)] 88 (0, 0)))
      have hrn : Row (w1.alloc (.cells #[.string (bs dx), .string (bs dy)] 88 (0, 0))) w1.heap.size 88 [.string (bs dx), .string (bs dy)] := rnw
      have y0 := hrn.cell (i := 0) rfl
      have y1 := hrn.cell (i := 1) rfl
      have H2 := Lib.hid (And.intro (HE.out.to hb2) hrn)
      clear hb1 hb2 hrn h0 h1 g0 g1 i0 i1 i2 HE HL
      go_wp2_with fail
      refine (HD.out _ H2.out.1.bel).mono ?_
      rintro e w3 ⟨rfl, hb3⟩
      generalize w1.heap.size = D at *
      have H3 := Lib.hid (And.intro (H2.out.1.to hb3) (H2.out.2.below' hb3))
      clear hb3 H2 HD y0 y1
      have hz := HF0.out
      by_cases hf0 : farD a c = 0
      · rw [decide_eq_true hf0] at hz
        obtain ⟨⟨f0, m0⟩, ⟨f1, m1⟩, ⟨f2, m2⟩, ⟨f3, m3⟩, ⟨f4, m4⟩, hrow⟩ := five_store (.string ⟨#[]⟩) (.string ⟨#[]⟩) (.string ⟨#[]⟩) (.string ⟨#[]⟩) (.string ⟨#[]⟩) H3.out.1.rr
        have HQ := Lib.hid (And.intro hrow (five_below (.string ⟨#[]⟩) (.string ⟨#[]⟩) (.string ⟨#[]⟩) (.string ⟨#[]⟩) (.string ⟨#[]⟩) H3.out.1.bel (A := w.heap.size + 1) (by omega)))
        have HNO : M.reachD l x = none := by rw [HRE.out, if_neg hij, if_pos hf0]
        have HF1 := Lib.hid HNO
        clear hrow H55 H58 H61 H62 H71 H72 H81 H82 H87 H96 H100 H101 H111 HNO
        go_wp2
        have q0 := HQ.out.1.cell (i := 0) rfl
        have q1 := HQ.out.1.cell (i := 1) rfl
        have q2 := HQ.out.1.cell (i := 2) rfl
        have q3 := HQ.out.1.cell (i := 3) rfl
        have q4 := HQ.out.1.cell (i := 4) rfl
        refine bodyPost_ret (v := .tuple #[.agg #[.string ⟨#[]⟩, .string ⟨#[]⟩, .string ⟨#[]⟩, .string ⟨#[]⟩, .string ⟨#[]⟩], .bool false]) (by simp [results, Tryz.results162, go_sem, q0, q1, q2, q3, q4]) rfl ⟨[], [], [], [], [], ?_, HQ.out.2, fun p hp => by rw [HF1.out] at hp; cases hp⟩
        rw [HF1.out]; rfl
      · rw [decide_eq_false hf0] at hz
        have m2 := cell_regrown (H3.out.1.ra.cell (i := 2) rfl)
        have m3 := cell_regrown (H3.out.1.rc.cell (i := 2) rfl)
        have k1 := reg_of (w := w3) (fun E hE => H55.out E (bel_to H3.out.1.bel hE))
        have k2 := reg_of (w := w3) (fun E hE => H58.out E (bel_to H3.out.1.bel hE))
        have k3 := reg_of (w := w3) (fun E hE => H61.out E (bel_to H3.out.1.bel hE))
        have k4 := reg_of (w := w3) (fun E hE => H62.out hf0 E (bel_to H3.out.1.bel hE))
        have e1 : ∀ args w, (callFunc 192 args).run Tryz.prog w = .ok (.enter 192 args) w := enters_of Tryz.func192 (by kernel_rfl) rfl
        have e2 : ∀ args w, (callFunc 145 args).run Tryz.prog w = .ok (.enter 145 args) w := enters_of Tryz.func145 (by kernel_rfl) rfl
        have e3 : ∀ args w, (callFunc 193 args).run Tryz.prog w = .ok (.enter 193 args) w := enters_of Tryz.func193 (by kernel_rfl) rfl
        have e4 : ∀ args w, (callFunc 191 args).run Tryz.prog w = .ok (.enter 191 args) w := enters_of Tryz.func191 (by kernel_rfl) rfl
        go_wp2_with fail
        refine wp_region_quiet_below (by kernel_rfl) (by kernel_rfl) ?_
        repeat (go_big_quiet_step (fail))
        go_big_quiet_step (exact k1 _ _)
        repeat (go_big_quiet_step (fail))
        go_big_quiet_step (exact k2 _ _)
        repeat (go_big_quiet_step (fail))
        go_big_quiet_step (exact k3 _ _)
        repeat (go_big_quiet_step (fail))
        go_big_quiet_step (exact k4 _ _)
        repeat (go_big_quiet_step (fail))
        refine wpQuiet_nil ?_
        intro W6 hw'
        have hb6 : Below w3.heap.size w3 W6 := by obtain ⟨p, e⟩ := hw'; rw [e]; exact below_regrown w3 p.d p.os
        clear hw'
        have H6 := Lib.hid (And.intro (H3.out.1.to hb6) (H3.out.2.below' hb6))
        clear hb6 k1 k2 k3 k4 m2 m3 H3 H55 H58 H61 H62 hz HF0
        go_wp2_with fail
        generalize W6 = W at *
        have hrl : w.heap.size + 1 < W.heap.size := Row.lt H6.out.1.rr
        have hAl : A < W.heap.size := Row.lt H6.out.1.ra
        have hBl : B < W.heap.size := Row.lt H6.out.1.rc
        have HCL := Lib.hid (fun w' (hb : Below W.heap.size W w') => And.intro ((H6.out.1.ra.below' hb).cell (i := 0) rfl) (And.intro ((H6.out.1.ra.below' hb).cell (i := 1) rfl) (And.intro ((H6.out.1.ra.below' hb).cell (i := 2) rfl) (And.intro ((H6.out.2.below' hb).cell (i := 0) rfl) ((H6.out.2.below' hb).cell (i := 1) rfl)))))
        have K71 := Lib.hid (fun w' (hb : Below W.heap.size W w') => H71.out hf0 w' (bel_to H6.out.1.bel hb))
        have K72 := Lib.hid (fun w' (hb : Below W.heap.size W w') => H72.out hf0 w' (bel_to H6.out.1.bel hb))
        have K81 := Lib.hid (fun w' (hb : Below W.heap.size W w') => H81.out hf0 w' (bel_to H6.out.1.bel hb))
        have K82 := Lib.hid (fun w' (hb : Below W.heap.size W w') => H82.out hf0 w' (bel_to H6.out.1.bel hb))
        have K87 := Lib.hid (fun w' (hb : Below W.heap.size W w') => (show Calls Tryz.prog 145 #[.pointer (some ⟨b, 0, none⟩), .string ⟨#[48]⟩, .string (bs dy)] w' (Ret w' (.string (bs s87))) from H87.out w' (bel_to H6.out.1.bel hb)))
        have K96 := Lib.hid (fun w' (hb : Below W.heap.size W w') => H96.out hf0 w' (bel_to H6.out.1.bel hb))
        have K100 := Lib.hid (fun w' (hb : Below W.heap.size W w') => H100.out hf0 w' (bel_to H6.out.1.bel hb))
        have K101 := Lib.hid (fun w' (hb : Below W.heap.size W w') => H101.out hf0 w' (bel_to H6.out.1.bel hb))
        clear H71 H72 H81 H82 H87 H96 H100 H101
        refine region_grow_tail (ψ := psi [(0, .pointer (some ⟨b, 0, none⟩)), (1, .slice (some ⟨bb, o0, none⟩) l.length cap), (5, .pointer (some ⟨w.heap.size, 0, none⟩)), (6, .pointer (some ⟨w.heap.size + 1, 0, none⟩)), (7, .bool false), (8, .pointer (some ⟨A, 0, none⟩)), (9, .pointer (some ⟨B, 0, none⟩)), (10, .pointer (some ⟨D, 0, none⟩)), (11, .string (bs sF)), (12, .string (bs sT)), (63, .pointer (some ⟨b, 0, none⟩)), (64, .pointer (some ⟨A, 0, none⟩)), (65, .pointer (some ⟨A, 0, none⟩)), (66, .string (bs a1)), (67, .pointer (some ⟨b, 0, none⟩)), (68, .string (bs sT)), (69, .pointer (some ⟨D, 0, none⟩)), (70, .string (bs dx)), (71, .string (bs s71)), (72, .string (bs s72)), (73, .pointer (some ⟨b, 0, none⟩)), (74, .pointer (some ⟨A, 0, none⟩)), (75, .pointer (some ⟨A, 1, none⟩)), (76, .string (bs a2)), (77, .pointer (some ⟨b, 0, none⟩)), (78, .string (bs sT)), (79, .pointer (some ⟨D, 1, none⟩)), (80, .string (bs dy)), (81, .string (bs s81)), (82, .string (bs s82)), (83, .agg #[.string (bs s72), .string (bs s82)]), (84, .pointer (some ⟨b, 0, none⟩)), (85, .pointer (some ⟨D, 1, none⟩)), (86, .string (bs dy)), (87, .string (bs s87)), (88, .pointer (some ⟨D, 0, none⟩)), (89, .string (bs dx)), (90, .agg #[.string (bs s87), .string (bs dx)]), (91, .pointer (some ⟨b, 0, none⟩)), (92, .pointer (some ⟨b, 0, none⟩)), (93, .pointer (some ⟨A, 2, none⟩)), (94, .string (bs a3)), (95, .string (bs sF)), (96, .string (bs s96)), (97, .pointer (some ⟨b, 0, none⟩)), (98, .string (bs sT)), (99, .string (bs sT)), (100, .string (bs s100)), (101, .string (bs (ch :: ct))), (102, .agg #[.string (bs s72), .string (bs s82), .string (bs s87), .string (bs dx), .string (bs (ch :: ct))])] [(13, AtNew W 270 Z5)]) 135 41 (by kernel_rfl) (by kernel_rfl) (by kernel_rfl) (by kernel_rfl) (by decide) (by kernel_rfl) (psi_st ?_) rfl ?_ ?_ ?_
        · intro p hp w w' v hb h
          simp only [List.mem_cons, List.not_mem_nil, or_false] at hp
          rcases hp with rfl
          all_goals exact AtNew.below hb h
        · intro t ht hno
          unfold psi
          split
          · rename_i c hc
            have hm := lookup_mem hc
            simp only [List.mem_cons, List.not_mem_nil, or_false, Prod.mk.injEq] at hm
            repeat' (rcases hm with ⟨rfl, rfl⟩ | hm)
            all_goals first
              | rfl
              | exact Bool.noConfusion (show true = false from hno)
              | (obtain ⟨rfl, rfl⟩ := hm; first | rfl | exact Bool.noConfusion (show true = false from hno))
          · split
            · rename_i p hp
              have hm := lookup_mem hp
              simp only [List.mem_cons, List.not_mem_nil, or_false, Prod.mk.injEq] at hm
              repeat' (rcases hm with ⟨rfl, rfl⟩ | hm)
              all_goals first
                | exact Bool.noConfusion (show true = false from hno)
                | (obtain ⟨rfl, rfl⟩ := hm; exact Bool.noConfusion (show true = false from hno))
            · trivial
        · simp only [List.take_succ_cons, List.take_zero]
          repeat' (first | exact List.forall_mem_nil _ | refine List.forall_mem_cons.2 ⟨?_, ?_⟩)
          · intro a w' hb hN hpre
            have h0 : a.tmps.getD 0 undef = (.pointer (some ⟨b, 0, none⟩) : Value) := hpre 0 (by simp [Op.operands])
            exact step_val (v := .pointer (some ⟨b, 0, none⟩)) rfl (by rw [← h0]; rfl) rfl
          · intro a w' hb hN hpre
            have h8 : a.tmps.getD 8 undef = (.pointer (some ⟨A, 0, none⟩) : Value) := hpre 8 (by simp [Op.operands])
            exact step_val (v := .pointer (some ⟨A, 0, none⟩)) rfl (by simp only [execOp, Act.eval, h8]; go_simp) rfl
          · intro a w' hb hN hpre
            have h64 : a.tmps.getD 64 undef = (.pointer (some ⟨A, 0, none⟩) : Value) := hpre 64 (by simp [Op.operands])
            exact step_val (v := .pointer (some ⟨A, 0, none⟩)) rfl (by simp only [execOp, Act.eval, h64]; go_simp) rfl
          · intro a w' hb hN hpre
            have h65 : a.tmps.getD 65 undef = (.pointer (some ⟨A, 0, none⟩) : Value) := hpre 65 (by simp [Op.operands])
            obtain ⟨x1, x2, x3, y1, y2⟩ := HCL.out w' hb
            exact step_val (v := .string (bs a1)) rfl (by simp only [execOp, Act.eval, h65]; go_simp) rfl
          · intro a w' hb hN hpre
            have h0 : a.tmps.getD 0 undef = (.pointer (some ⟨b, 0, none⟩) : Value) := hpre 0 (by simp [Op.operands])
            exact step_val (v := .pointer (some ⟨b, 0, none⟩)) rfl (by rw [← h0]; rfl) rfl
          · intro a w' hb hN hpre
            have h12 : a.tmps.getD 12 undef = (.string (bs sT) : Value) := hpre 12 (by simp [Op.operands])
            exact step_val (v := .string (bs sT)) rfl (by rw [← h12]; rfl) rfl
          · intro a w' hb hN hpre
            have h10 : a.tmps.getD 10 undef = (.pointer (some ⟨D, 0, none⟩) : Value) := hpre 10 (by simp [Op.operands])
            exact step_val (v := .pointer (some ⟨D, 0, none⟩)) rfl (by simp only [execOp, Act.eval, h10]; go_simp) rfl
          · intro a w' hb hN hpre
            have h69 : a.tmps.getD 69 undef = (.pointer (some ⟨D, 0, none⟩) : Value) := hpre 69 (by simp [Op.operands])
            obtain ⟨x1, x2, x3, y1, y2⟩ := HCL.out w' hb
            exact step_val (v := .string (bs dx)) rfl (by simp only [execOp, Act.eval, h69]; go_simp) rfl
          · intro a w' hb hN hpre
            have h67 : a.tmps.getD 67 undef = (.pointer (some ⟨b, 0, none⟩) : Value) := hpre 67 (by simp [Op.operands, Call.operands])
            have h68 : a.tmps.getD 68 undef = (.string (bs sT) : Value) := hpre 68 (by simp [Op.operands, Call.operands])
            have h70 : a.tmps.getD 70 undef = (.string (bs dx) : Value) := hpre 70 (by simp [Op.operands, Call.operands])
            exact step_call (f := 193) rfl (by simp only [execOp]; go_simp) (psi_ret (K71.out w' hb) (fun _ => rfl))
          · intro a w' hb hN hpre
            have h63 : a.tmps.getD 63 undef = (.pointer (some ⟨b, 0, none⟩) : Value) := hpre 63 (by simp [Op.operands, Call.operands])
            have h66 : a.tmps.getD 66 undef = (.string (bs a1) : Value) := hpre 66 (by simp [Op.operands, Call.operands])
            have h71 : a.tmps.getD 71 undef = (.string (bs s71) : Value) := hpre 71 (by simp [Op.operands, Call.operands])
            exact step_call (f := 192) rfl (by simp only [execOp]; go_simp) (psi_ret (K72.out w' hb) (fun _ => rfl))
          · intro a w' hb hN hpre
            have h0 : a.tmps.getD 0 undef = (.pointer (some ⟨b, 0, none⟩) : Value) := hpre 0 (by simp [Op.operands])
            exact step_val (v := .pointer (some ⟨b, 0, none⟩)) rfl (by rw [← h0]; rfl) rfl
          · intro a w' hb hN hpre
            have h8 : a.tmps.getD 8 undef = (.pointer (some ⟨A, 0, none⟩) : Value) := hpre 8 (by simp [Op.operands])
            exact step_val (v := .pointer (some ⟨A, 0, none⟩)) rfl (by simp only [execOp, Act.eval, h8]; go_simp) rfl
          · intro a w' hb hN hpre
            have h74 : a.tmps.getD 74 undef = (.pointer (some ⟨A, 0, none⟩) : Value) := hpre 74 (by simp [Op.operands])
            exact step_val (v := .pointer (some ⟨A, 1, none⟩)) rfl (by simp only [execOp, Act.eval, h74]; go_simp) rfl
          · intro a w' hb hN hpre
            have h75 : a.tmps.getD 75 undef = (.pointer (some ⟨A, 1, none⟩) : Value) := hpre 75 (by simp [Op.operands])
            obtain ⟨x1, x2, x3, y1, y2⟩ := HCL.out w' hb
            exact step_val (v := .string (bs a2)) rfl (by simp only [execOp, Act.eval, h75]; go_simp) rfl
          · intro a w' hb hN hpre
            have h0 : a.tmps.getD 0 undef = (.pointer (some ⟨b, 0, none⟩) : Value) := hpre 0 (by simp [Op.operands])
            exact step_val (v := .pointer (some ⟨b, 0, none⟩)) rfl (by rw [← h0]; rfl) rfl
          · intro a w' hb hN hpre
            have h12 : a.tmps.getD 12 undef = (.string (bs sT) : Value) := hpre 12 (by simp [Op.operands])
            exact step_val (v := .string (bs sT)) rfl (by rw [← h12]; rfl) rfl
          · intro a w' hb hN hpre
            have h10 : a.tmps.getD 10 undef = (.pointer (some ⟨D, 0, none⟩) : Value) := hpre 10 (by simp [Op.operands])
            exact step_val (v := .pointer (some ⟨D, 1, none⟩)) rfl (by simp only [execOp, Act.eval, h10]; go_simp) rfl
          · intro a w' hb hN hpre
            have h79 : a.tmps.getD 79 undef = (.pointer (some ⟨D, 1, none⟩) : Value) := hpre 79 (by simp [Op.operands])
            obtain ⟨x1, x2, x3, y1, y2⟩ := HCL.out w' hb
            exact step_val (v := .string (bs dy)) rfl (by simp only [execOp, Act.eval, h79]; go_simp) rfl
          · intro a w' hb hN hpre
            have h77 : a.tmps.getD 77 undef = (.pointer (some ⟨b, 0, none⟩) : Value) := hpre 77 (by simp [Op.operands, Call.operands])
            have h78 : a.tmps.getD 78 undef = (.string (bs sT) : Value) := hpre 78 (by simp [Op.operands, Call.operands])
            have h80 : a.tmps.getD 80 undef = (.string (bs dy) : Value) := hpre 80 (by simp [Op.operands, Call.operands])
            exact step_call (f := 193) rfl (by simp only [execOp]; go_simp) (psi_ret (K81.out w' hb) (fun _ => rfl))
          · intro a w' hb hN hpre
            have h73 : a.tmps.getD 73 undef = (.pointer (some ⟨b, 0, none⟩) : Value) := hpre 73 (by simp [Op.operands, Call.operands])
            have h76 : a.tmps.getD 76 undef = (.string (bs a2) : Value) := hpre 76 (by simp [Op.operands, Call.operands])
            have h81 : a.tmps.getD 81 undef = (.string (bs s81) : Value) := hpre 81 (by simp [Op.operands, Call.operands])
            exact step_call (f := 192) rfl (by simp only [execOp]; go_simp) (psi_ret (K82.out w' hb) (fun _ => rfl))
          · intro a w' hb hN hpre
            have h72 : a.tmps.getD 72 undef = (.string (bs s72) : Value) := hpre 72 (by simp [Op.operands])
            have h82 : a.tmps.getD 82 undef = (.string (bs s82) : Value) := hpre 82 (by simp [Op.operands])
            exact step_val (v := .agg #[.string (bs s72), .string (bs s82)]) rfl (by simp only [execOp, List.map_toArray, List.map_cons, List.map_nil, Act.eval, h72, h82]; go_simp) rfl
          · intro a w' hb hN hpre
            have h0 : a.tmps.getD 0 undef = (.pointer (some ⟨b, 0, none⟩) : Value) := hpre 0 (by simp [Op.operands])
            exact step_val (v := .pointer (some ⟨b, 0, none⟩)) rfl (by rw [← h0]; rfl) rfl
          · intro a w' hb hN hpre
            have h10 : a.tmps.getD 10 undef = (.pointer (some ⟨D, 0, none⟩) : Value) := hpre 10 (by simp [Op.operands])
            exact step_val (v := .pointer (some ⟨D, 1, none⟩)) rfl (by simp only [execOp, Act.eval, h10]; go_simp) rfl
          · intro a w' hb hN hpre
            have h85 : a.tmps.getD 85 undef = (.pointer (some ⟨D, 1, none⟩) : Value) := hpre 85 (by simp [Op.operands])
            obtain ⟨x1, x2, x3, y1, y2⟩ := HCL.out w' hb
            exact step_val (v := .string (bs dy)) rfl (by simp only [execOp, Act.eval, h85]; go_simp) rfl
          · intro a w' hb hN hpre
            have h84 : a.tmps.getD 84 undef = (.pointer (some ⟨b, 0, none⟩) : Value) := hpre 84 (by simp [Op.operands, Call.operands])
            have h86 : a.tmps.getD 86 undef = (.string (bs dy) : Value) := hpre 86 (by simp [Op.operands, Call.operands])
            exact step_call (f := 145) rfl (by simp only [execOp]; go_simp) (psi_ret (K87.out w' hb) (fun _ => rfl))
          · intro a w' hb hN hpre
            have h10 : a.tmps.getD 10 undef = (.pointer (some ⟨D, 0, none⟩) : Value) := hpre 10 (by simp [Op.operands])
            exact step_val (v := .pointer (some ⟨D, 0, none⟩)) rfl (by simp only [execOp, Act.eval, h10]; go_simp) rfl
          · intro a w' hb hN hpre
            have h88 : a.tmps.getD 88 undef = (.pointer (some ⟨D, 0, none⟩) : Value) := hpre 88 (by simp [Op.operands])
            obtain ⟨x1, x2, x3, y1, y2⟩ := HCL.out w' hb
            exact step_val (v := .string (bs dx)) rfl (by simp only [execOp, Act.eval, h88]; go_simp) rfl
          · intro a w' hb hN hpre
            have h87 : a.tmps.getD 87 undef = (.string (bs s87) : Value) := hpre 87 (by simp [Op.operands])
            have h89 : a.tmps.getD 89 undef = (.string (bs dx) : Value) := hpre 89 (by simp [Op.operands])
            exact step_val (v := .agg #[.string (bs s87), .string (bs dx)]) rfl (by simp only [execOp, List.map_toArray, List.map_cons, List.map_nil, Act.eval, h87, h89]; go_simp) rfl
          · intro a w' hb hN hpre
            have h0 : a.tmps.getD 0 undef = (.pointer (some ⟨b, 0, none⟩) : Value) := hpre 0 (by simp [Op.operands])
            exact step_val (v := .pointer (some ⟨b, 0, none⟩)) rfl (by rw [← h0]; rfl) rfl
          · intro a w' hb hN hpre
            have h0 : a.tmps.getD 0 undef = (.pointer (some ⟨b, 0, none⟩) : Value) := hpre 0 (by simp [Op.operands])
            exact step_val (v := .pointer (some ⟨b, 0, none⟩)) rfl (by rw [← h0]; rfl) rfl
          · intro a w' hb hN hpre
            have h8 : a.tmps.getD 8 undef = (.pointer (some ⟨A, 0, none⟩) : Value) := hpre 8 (by simp [Op.operands])
            exact step_val (v := .pointer (some ⟨A, 2, none⟩)) rfl (by simp only [execOp, Act.eval, h8]; go_simp) rfl
          · intro a w' hb hN hpre
            have h93 : a.tmps.getD 93 undef = (.pointer (some ⟨A, 2, none⟩) : Value) := hpre 93 (by simp [Op.operands])
            obtain ⟨x1, x2, x3, y1, y2⟩ := HCL.out w' hb
            exact step_val (v := .string (bs a3)) rfl (by simp only [execOp, Act.eval, h93]; go_simp) rfl
          · intro a w' hb hN hpre
            have h11 : a.tmps.getD 11 undef = (.string (bs sF) : Value) := hpre 11 (by simp [Op.operands])
            exact step_val (v := .string (bs sF)) rfl (by rw [← h11]; rfl) rfl
          · intro a w' hb hN hpre
            have h92 : a.tmps.getD 92 undef = (.pointer (some ⟨b, 0, none⟩) : Value) := hpre 92 (by simp [Op.operands, Call.operands])
            have h94 : a.tmps.getD 94 undef = (.string (bs a3) : Value) := hpre 94 (by simp [Op.operands, Call.operands])
            have h95 : a.tmps.getD 95 undef = (.string (bs sF) : Value) := hpre 95 (by simp [Op.operands, Call.operands])
            exact step_call (f := 191) rfl (by simp only [execOp]; go_simp) (psi_ret (K96.out w' hb) (fun _ => rfl))
          · intro a w' hb hN hpre
            have h0 : a.tmps.getD 0 undef = (.pointer (some ⟨b, 0, none⟩) : Value) := hpre 0 (by simp [Op.operands])
            exact step_val (v := .pointer (some ⟨b, 0, none⟩)) rfl (by rw [← h0]; rfl) rfl
          · intro a w' hb hN hpre
            have h12 : a.tmps.getD 12 undef = (.string (bs sT) : Value) := hpre 12 (by simp [Op.operands])
            exact step_val (v := .string (bs sT)) rfl (by rw [← h12]; rfl) rfl
          · intro a w' hb hN hpre
            have h12 : a.tmps.getD 12 undef = (.string (bs sT) : Value) := hpre 12 (by simp [Op.operands])
            exact step_val (v := .string (bs sT)) rfl (by rw [← h12]; rfl) rfl
          · intro a w' hb hN hpre
            have h97 : a.tmps.getD 97 undef = (.pointer (some ⟨b, 0, none⟩) : Value) := hpre 97 (by simp [Op.operands, Call.operands])
            have h98 : a.tmps.getD 98 undef = (.string (bs sT) : Value) := hpre 98 (by simp [Op.operands, Call.operands])
            have h99 : a.tmps.getD 99 undef = (.string (bs sT) : Value) := hpre 99 (by simp [Op.operands, Call.operands])
            exact step_call (f := 193) rfl (by simp only [execOp]; go_simp) (psi_ret (K100.out w' hb) (fun _ => rfl))
          · intro a w' hb hN hpre
            have h91 : a.tmps.getD 91 undef = (.pointer (some ⟨b, 0, none⟩) : Value) := hpre 91 (by simp [Op.operands, Call.operands])
            have h96 : a.tmps.getD 96 undef = (.string (bs s96) : Value) := hpre 96 (by simp [Op.operands, Call.operands])
            have h100 : a.tmps.getD 100 undef = (.string (bs s100) : Value) := hpre 100 (by simp [Op.operands, Call.operands])
            exact step_call (f := 145) rfl (by simp only [execOp]; go_simp) (psi_ret (K101.out w' hb) (fun _ => rfl))
          · intro a w' hb hN hpre
            have h83 : a.tmps.getD 83 undef = (.agg #[.string (bs s72), .string (bs s82)] : Value) := hpre 83 (by simp [Op.operands])
            have h90 : a.tmps.getD 90 undef = (.agg #[.string (bs s87), .string (bs dx)] : Value) := hpre 90 (by simp [Op.operands])
            have h101 : a.tmps.getD 101 undef = (.string (bs (ch :: ct)) : Value) := hpre 101 (by simp [Op.operands])
            exact step_val (v := .agg #[.string (bs s72), .string (bs s82), .string (bs s87), .string (bs dx), .string (bs (ch :: ct))]) rfl (by simp only [execOp, List.map_toArray, List.map_cons, List.map_nil, Act.eval, h83, h90, h101]; go_simp) rfl
          · intro a w' hb hN hpre
            exact step_grow (w1 := w'.alloc (.cells Z5.toArray 270 (0, 0))) (v := .pointer (some ⟨w'.heap.size, 0, none⟩)) rfl (by go_simp) (bel_al _ _) (AtNew.new hb)
        · intro a' w' hb hd hN hpre
          have h0 : a'.tmps.getD 0 undef = (.pointer (some ⟨b, 0, none⟩) : Value) := hpre 0 (by decide)
          have h1 : a'.tmps.getD 1 undef = (.slice (some ⟨bb, o0, none⟩) l.length cap : Value) := hpre 1 (by decide)
          have h5 : a'.tmps.getD 5 undef = (.pointer (some ⟨w.heap.size, 0, none⟩) : Value) := hpre 5 (by decide)
          have h6 : a'.tmps.getD 6 undef = (.pointer (some ⟨w.heap.size + 1, 0, none⟩) : Value) := hpre 6 (by decide)
          have h7 : a'.tmps.getD 7 undef = (.bool false : Value) := hpre 7 (by decide)
          have h8 : a'.tmps.getD 8 undef = (.pointer (some ⟨A, 0, none⟩) : Value) := hpre 8 (by decide)
          have h9 : a'.tmps.getD 9 undef = (.pointer (some ⟨B, 0, none⟩) : Value) := hpre 9 (by decide)
          have h10 : a'.tmps.getD 10 undef = (.pointer (some ⟨D, 0, none⟩) : Value) := hpre 10 (by decide)
          have h11 : a'.tmps.getD 11 undef = (.string (bs sF) : Value) := hpre 11 (by decide)
          have h12 : a'.tmps.getD 12 undef = (.string (bs sT) : Value) := hpre 12 (by decide)
          have h63 : a'.tmps.getD 63 undef = (.pointer (some ⟨b, 0, none⟩) : Value) := hpre 63 (by decide)
          have h64 : a'.tmps.getD 64 undef = (.pointer (some ⟨A, 0, none⟩) : Value) := hpre 64 (by decide)
          have h65 : a'.tmps.getD 65 undef = (.pointer (some ⟨A, 0, none⟩) : Value) := hpre 65 (by decide)
          have h66 : a'.tmps.getD 66 undef = (.string (bs a1) : Value) := hpre 66 (by decide)
          have h67 : a'.tmps.getD 67 undef = (.pointer (some ⟨b, 0, none⟩) : Value) := hpre 67 (by decide)
          have h68 : a'.tmps.getD 68 undef = (.string (bs sT) : Value) := hpre 68 (by decide)
          have h69 : a'.tmps.getD 69 undef = (.pointer (some ⟨D, 0, none⟩) : Value) := hpre 69 (by decide)
          have h70 : a'.tmps.getD 70 undef = (.string (bs dx) : Value) := hpre 70 (by decide)
          have h71 : a'.tmps.getD 71 undef = (.string (bs s71) : Value) := hpre 71 (by decide)
          have h72 : a'.tmps.getD 72 undef = (.string (bs s72) : Value) := hpre 72 (by decide)
          have h73 : a'.tmps.getD 73 undef = (.pointer (some ⟨b, 0, none⟩) : Value) := hpre 73 (by decide)
          have h74 : a'.tmps.getD 74 undef = (.pointer (some ⟨A, 0, none⟩) : Value) := hpre 74 (by decide)
          have h75 : a'.tmps.getD 75 undef = (.pointer (some ⟨A, 1, none⟩) : Value) := hpre 75 (by decide)
          have h76 : a'.tmps.getD 76 undef = (.string (bs a2) : Value) := hpre 76 (by decide)
          have h77 : a'.tmps.getD 77 undef = (.pointer (some ⟨b, 0, none⟩) : Value) := hpre 77 (by decide)
          have h78 : a'.tmps.getD 78 undef = (.string (bs sT) : Value) := hpre 78 (by decide)
          have h79 : a'.tmps.getD 79 undef = (.pointer (some ⟨D, 1, none⟩) : Value) := hpre 79 (by decide)
          have h80 : a'.tmps.getD 80 undef = (.string (bs dy) : Value) := hpre 80 (by decide)
          have h81 : a'.tmps.getD 81 undef = (.string (bs s81) : Value) := hpre 81 (by decide)
          have h82 : a'.tmps.getD 82 undef = (.string (bs s82) : Value) := hpre 82 (by decide)
          have h83 : a'.tmps.getD 83 undef = (.agg #[.string (bs s72), .string (bs s82)] : Value) := hpre 83 (by decide)
          have h84 : a'.tmps.getD 84 undef = (.pointer (some ⟨b, 0, none⟩) : Value) := hpre 84 (by decide)
          have h85 : a'.tmps.getD 85 undef = (.pointer (some ⟨D, 1, none⟩) : Value) := hpre 85 (by decide)
          have h86 : a'.tmps.getD 86 undef = (.string (bs dy) : Value) := hpre 86 (by decide)
          have h87 : a'.tmps.getD 87 undef = (.string (bs s87) : Value) := hpre 87 (by decide)
          have h88 : a'.tmps.getD 88 undef = (.pointer (some ⟨D, 0, none⟩) : Value) := hpre 88 (by decide)
          have h89 : a'.tmps.getD 89 undef = (.string (bs dx) : Value) := hpre 89 (by decide)
          have h90 : a'.tmps.getD 90 undef = (.agg #[.string (bs s87), .string (bs dx)] : Value) := hpre 90 (by decide)
          have h91 : a'.tmps.getD 91 undef = (.pointer (some ⟨b, 0, none⟩) : Value) := hpre 91 (by decide)
          have h92 : a'.tmps.getD 92 undef = (.pointer (some ⟨b, 0, none⟩) : Value) := hpre 92 (by decide)
          have h93 : a'.tmps.getD 93 undef = (.pointer (some ⟨A, 2, none⟩) : Value) := hpre 93 (by decide)
          have h94 : a'.tmps.getD 94 undef = (.string (bs a3) : Value) := hpre 94 (by decide)
          have h95 : a'.tmps.getD 95 undef = (.string (bs sF) : Value) := hpre 95 (by decide)
          have h96 : a'.tmps.getD 96 undef = (.string (bs s96) : Value) := hpre 96 (by decide)
          have h97 : a'.tmps.getD 97 undef = (.pointer (some ⟨b, 0, none⟩) : Value) := hpre 97 (by decide)
          have h98 : a'.tmps.getD 98 undef = (.string (bs sT) : Value) := hpre 98 (by decide)
          have h99 : a'.tmps.getD 99 undef = (.string (bs sT) : Value) := hpre 99 (by decide)
          have h100 : a'.tmps.getD 100 undef = (.string (bs s100) : Value) := hpre 100 (by decide)
          have h101 : a'.tmps.getD 101 undef = (.string (bs (ch :: ct)) : Value) := hpre 101 (by decide)
          have h102 : a'.tmps.getD 102 undef = (.agg #[.string (bs s72), .string (bs s82), .string (bs s87), .string (bs dx), .string (bs (ch :: ct))] : Value) := hpre 102 (by decide)
          obtain ⟨g13, h13, hge13, hrow13⟩ : (AtNew W 270 Z5) w' (a'.tmps.getD 13 undef) := hpre 13 (by decide)
          obtain ⟨⟨f0, m0⟩, ⟨f1, m1⟩, ⟨f2, m2⟩, ⟨f3, m3⟩, ⟨f4, m4⟩, hrow⟩ := five_store (.string (bs s72)) (.string (bs s82)) (.string (bs s87)) (.string (bs dx)) (.string (bs (ch :: ct))) hrow13
          simp only [List.drop_succ_cons, List.drop_zero]
          refine wpList_store (w1 := (((((w'.setCell ⟨g13, 0, none⟩ (.string (bs s72))).setCell ⟨g13, 1, none⟩ (.string (bs s82))).setCell ⟨g13, 2, none⟩ (.string (bs s87))).setCell ⟨g13, 3, none⟩ (.string (bs dx))).setCell ⟨g13, 4, none⟩ (.string (bs (ch :: ct))))) rfl rfl (by simp only [execOp, Act.eval, h13, h102]; go_simp) ?_
          obtain ⟨tm, df⟩ := a'
          simp only at hd hN hpre h0 h1 h5 h6 h7 h8 h9 h10 h11 h12 h13 h63 h64 h65 h66 h67 h68 h69 h70 h71 h72 h73 h74 h75 h76 h77 h78 h79 h80 h81 h82 h83 h84 h85 h86 h87 h88 h89 h90 h91 h92 h93 h94 h95 h96 h97 h98 h99 h100 h101 h102
          subst hd
          have htm : tm = #[tm.getD 0 undef, tm.getD 1 undef, tm.getD 2 undef, tm.getD 3 undef, tm.getD 4 undef, tm.getD 5 undef, tm.getD 6 undef, tm.getD 7 undef, tm.getD 8 undef, tm.getD 9 undef, tm.getD 10 undef, tm.getD 11 undef, tm.getD 12 undef, tm.getD 13 undef, tm.getD 14 undef, tm.getD 15 undef, tm.getD 16 undef, tm.getD 17 undef, tm.getD 18 undef, tm.getD 19 undef, tm.getD 20 undef, tm.getD 21 undef, tm.getD 22 undef, tm.getD 23 undef, tm.getD 24 undef, tm.getD 25 undef, tm.getD 26 undef, tm.getD 27 undef, tm.getD 28 undef, tm.getD 29 undef, tm.getD 30 undef, tm.getD 31 undef, tm.getD 32 undef, tm.getD 33 undef, tm.getD 34 undef, tm.getD 35 undef, tm.getD 36 undef, tm.getD 37 undef, tm.getD 38 undef, tm.getD 39 undef, tm.getD 40 undef, tm.getD 41 undef, tm.getD 42 undef, tm.getD 43 undef, tm.getD 44 undef, tm.getD 45 undef, tm.getD 46 undef, tm.getD 47 undef, tm.getD 48 undef, tm.getD 49 undef, tm.getD 50 undef, tm.getD 51 undef, tm.getD 52 undef, tm.getD 53 undef, tm.getD 54 undef, tm.getD 55 undef, tm.getD 56 undef, tm.getD 57 undef, tm.getD 58 undef, tm.getD 59 undef, tm.getD 60 undef, tm.getD 61 undef, tm.getD 62 undef, tm.getD 63 undef, tm.getD 64 undef, tm.getD 65 undef, tm.getD 66 undef, tm.getD 67 undef, tm.getD 68 undef, tm.getD 69 undef, tm.getD 70 undef, tm.getD 71 undef, tm.getD 72 undef, tm.getD 73 undef, tm.getD 74 undef, tm.getD 75 undef, tm.getD 76 undef, tm.getD 77 undef, tm.getD 78 undef, tm.getD 79 undef, tm.getD 80 undef, tm.getD 81 undef, tm.getD 82 undef, tm.getD 83 undef, tm.getD 84 undef, tm.getD 85 undef, tm.getD 86 undef, tm.getD 87 undef, tm.getD 88 undef, tm.getD 89 undef, tm.getD 90 undef, tm.getD 91 undef, tm.getD 92 undef, tm.getD 93 undef, tm.getD 94 undef, tm.getD 95 undef, tm.getD 96 undef, tm.getD 97 undef, tm.getD 98 undef, tm.getD 99 undef, tm.getD 100 undef, tm.getD 101 undef, tm.getD 102 undef, tm.getD 103 undef, tm.getD 104 undef, tm.getD 105 undef, tm.getD 106 undef, tm.getD 107 undef, tm.getD 108 undef, tm.getD 109 undef, tm.getD 110 undef, tm.getD 111 undef, tm.getD 112 undef, tm.getD 113 undef, tm.getD 114 undef, tm.getD 115 undef, tm.getD 116 undef, tm.getD 117 undef, tm.getD 118 undef, tm.getD 119 undef, tm.getD 120 undef, tm.getD 121 undef, tm.getD 122 undef, tm.getD 123 undef, tm.getD 124 undef, tm.getD 125 undef, tm.getD 126 undef, tm.getD 127 undef, tm.getD 128 undef, tm.getD 129 undef, tm.getD 130 undef, tm.getD 131 undef, tm.getD 132 undef, tm.getD 133 undef, tm.getD 134 undef] := (tmps_lit hN).trans (by kernel_rfl)
          simp only [h0, h1, h5, h6, h7, h8, h9, h10, h11, h12, h13, h63, h64, h65, h66, h67, h68, h69, h70, h71, h72, h73, h74, h75, h76, h77, h78, h79, h80, h81, h82, h83, h84, h85, h86, h87, h88, h89, h90, h91, h92, h93, h94, h95, h96, h97, h98, h99, h100, h101, h102] at htm
          clear hpre hN h0 h1 h5 h6 h7 h8 h9 h10 h11 h12 h13 h63 h64 h65 h66 h67 h68 h69 h70 h71 h72 h73 h74 h75 h76 h77 h78 h79 h80 h81 h82 h83 h84 h85 h86 h87 h88 h89 h90 h91 h92 h93 h94 h95 h96 h97 h98 h99 h100 h101 h102
          generalize tm.getD 2 undef = u2 at htm
          generalize tm.getD 3 undef = u3 at htm
          generalize tm.getD 4 undef = u4 at htm
          generalize tm.getD 14 undef = u14 at htm
          generalize tm.getD 15 undef = u15 at htm
          generalize tm.getD 16 undef = u16 at htm
          generalize tm.getD 17 undef = u17 at htm
          generalize tm.getD 18 undef = u18 at htm
          generalize tm.getD 19 undef = u19 at htm
          generalize tm.getD 20 undef = u20 at htm
          generalize tm.getD 21 undef = u21 at htm
          generalize tm.getD 22 undef = u22 at htm
          generalize tm.getD 23 undef = u23 at htm
          generalize tm.getD 24 undef = u24 at htm
          generalize tm.getD 25 undef = u25 at htm
          generalize tm.getD 26 undef = u26 at htm
          generalize tm.getD 27 undef = u27 at htm
          generalize tm.getD 28 undef = u28 at htm
          generalize tm.getD 29 undef = u29 at htm
          generalize tm.getD 30 undef = u30 at htm
          generalize tm.getD 31 undef = u31 at htm
          generalize tm.getD 32 undef = u32 at htm
          generalize tm.getD 33 undef = u33 at htm
          generalize tm.getD 34 undef = u34 at htm
          generalize tm.getD 35 undef = u35 at htm
          generalize tm.getD 36 undef = u36 at htm
          generalize tm.getD 37 undef = u37 at htm
          generalize tm.getD 38 undef = u38 at htm
          generalize tm.getD 39 undef = u39 at htm
          generalize tm.getD 40 undef = u40 at htm
          generalize tm.getD 41 undef = u41 at htm
          generalize tm.getD 42 undef = u42 at htm
          generalize tm.getD 43 undef = u43 at htm
          generalize tm.getD 44 undef = u44 at htm
          generalize tm.getD 45 undef = u45 at htm
          generalize tm.getD 46 undef = u46 at htm
          generalize tm.getD 47 undef = u47 at htm
          generalize tm.getD 48 undef = u48 at htm
          generalize tm.getD 49 undef = u49 at htm
          generalize tm.getD 50 undef = u50 at htm
          generalize tm.getD 51 undef = u51 at htm
          generalize tm.getD 52 undef = u52 at htm
          generalize tm.getD 53 undef = u53 at htm
          generalize tm.getD 54 undef = u54 at htm
          generalize tm.getD 55 undef = u55 at htm
          generalize tm.getD 56 undef = u56 at htm
          generalize tm.getD 57 undef = u57 at htm
          generalize tm.getD 58 undef = u58 at htm
          generalize tm.getD 59 undef = u59 at htm
          generalize tm.getD 60 undef = u60 at htm
          generalize tm.getD 61 undef = u61 at htm
          generalize tm.getD 62 undef = u62 at htm
          generalize tm.getD 103 undef = u103 at htm
          generalize tm.getD 104 undef = u104 at htm
          generalize tm.getD 105 undef = u105 at htm
          generalize tm.getD 106 undef = u106 at htm
          generalize tm.getD 107 undef = u107 at htm
          generalize tm.getD 108 undef = u108 at htm
          generalize tm.getD 109 undef = u109 at htm
          generalize tm.getD 110 undef = u110 at htm
          generalize tm.getD 111 undef = u111 at htm
          generalize tm.getD 112 undef = u112 at htm
          generalize tm.getD 113 undef = u113 at htm
          generalize tm.getD 114 undef = u114 at htm
          generalize tm.getD 115 undef = u115 at htm
          generalize tm.getD 116 undef = u116 at htm
          generalize tm.getD 117 undef = u117 at htm
          generalize tm.getD 118 undef = u118 at htm
          generalize tm.getD 119 undef = u119 at htm
          generalize tm.getD 120 undef = u120 at htm
          generalize tm.getD 121 undef = u121 at htm
          generalize tm.getD 122 undef = u122 at htm
          generalize tm.getD 123 undef = u123 at htm
          generalize tm.getD 124 undef = u124 at htm
          generalize tm.getD 125 undef = u125 at htm
          generalize tm.getD 126 undef = u126 at htm
          generalize tm.getD 127 undef = u127 at htm
          generalize tm.getD 128 undef = u128 at htm
          generalize tm.getD 129 undef = u129 at htm
          generalize tm.getD 130 undef = u130 at htm
          generalize tm.getD 131 undef = u131 at htm
          generalize tm.getD 132 undef = u132 at htm
          generalize tm.getD 133 undef = u133 at htm
          generalize tm.getD 134 undef = u134 at htm
          subst htm

          have HB2 := five_below (.string (bs s72)) (.string (bs s82)) (.string (bs s87)) (.string (bs dx)) (.string (bs (ch :: ct))) hb hge13
          have H7 := Lib.hid (And.intro (H6.out.1.to HB2) (And.intro (H6.out.2.below' HB2) hrow))
          clear hb HB2 hrow13 hrow K71 K72 K81 K82 K87 K96 K100 K101 HCL H6
          generalize (((((w'.setCell ⟨g13, 0, none⟩ (.string (bs s72))).setCell ⟨g13, 1, none⟩ (.string (bs s82))).setCell ⟨g13, 2, none⟩ (.string (bs s87))).setCell ⟨g13, 3, none⟩ (.string (bs dx))).setCell ⟨g13, 4, none⟩ (.string (bs (ch :: ct)))) = W2 at *
          clear f0 f1 f2 f3 f4 m0 m1 m2 m3 m4
          have i2 := H7.out.1.rw.cell (i := 2) rfl
          by_cases hs : x.side < 0
          · have d2 : decide (x.side < 0) = true := decide_eq_true hs
            have y0 := cell_regrown (H7.out.2.1.cell (i := 0) rfl)
            have y1 := cell_regrown (H7.out.2.1.cell (i := 1) rfl)
            have k1 := reg_of (w := W2) (fun E hE => H111.out E (bel_to H7.out.1.bel hE))
            go_wp2_with fail
            refine region_below_tail 8 (by kernel_rfl) (by kernel_rfl) ?_
            simp only [List.take_succ_cons, List.take_zero, List.drop_succ_cons, List.drop_zero]
            repeat (go_big_quiet_step (fail))
            go_big_quiet_step (exact k1 _ _)
            repeat (go_big_quiet_step (fail))
            refine wpQuiet_nil ?_
            intro W6 hw'
            have hb6 : Below W2.heap.size W2 W6 := by obtain ⟨p, e⟩ := hw'; rw [e]; exact below_regrown W2 p.d p.os
            clear hw'
            have hr2 := H7.out.2.2.below' hb6
            have f2 := hr2.free 2
            have kc2 := hr2.cell (i := 2) rfl
            have hr3 := hr2.set 2 (.string (bs dy))
            have f3 := hr3.free 3
            have kc3 := hr3.cell (i := 3) rfl
            have hr4 := hr3.set 3 (.string (bs s111))
            have hbz := bel_to H7.out.1.bel hb6
            have hB3 := (hbz.setCell (p := ⟨g13, 2, none⟩) (by show w.heap.size ≤ g13; omega) (.string (bs dy))).setCell (p := ⟨g13, 3, none⟩) (by show w.heap.size ≤ g13; omega) (.string (bs s111))
            have nA : A ≠ g13 := by omega
            have nB : B ≠ g13 := by omega
            have nw : w.heap.size ≠ g13 := by omega
            have nr : w.heap.size + 1 ≠ g13 := by omega
            have nb : b ≠ g13 := by omega
            have hN6 := H7.out.1.to hb6
            have H8 := Lib.hid (And.intro (show Nm w ((W6.setCell ⟨g13, 2, none⟩ (.string (bs dy))).setCell ⟨g13, 3, none⟩ (.string (bs s111))) b A B x.i x.j x.side a1 a2 a3 c1 c2 c3 from
              ⟨row_other (row_other hN6.rw nw _) nw _, row_other (row_other hN6.rr nr _) nr _, row_other (row_other hN6.ra nA _) nA _, row_other (row_other hN6.rc nB _) nB _, row_other (row_other hN6.ne nb _) nb _, hB3⟩) (And.intro True.intro hr4))
            clear i2 y0 y1 k1 hbz hB3 nA nB nw nr nb hN6 H7 hb6 hr2 hr3 hr4
            go_wp2_with fail
            generalize ((W6.setCell ⟨g13, 2, none⟩ (.string (bs dy))).setCell ⟨g13, 3, none⟩ (.string (bs s111))) = W8 at *
            clear f2 kc2 f3 kc3
            have c0 := H8.out.2.2.cell (i := 0) rfl
            have c1 := H8.out.2.2.cell (i := 1) rfl
            have c2 := H8.out.2.2.cell (i := 2) rfl
            have c3 := H8.out.2.2.cell (i := 3) rfl
            have c4 := H8.out.2.2.cell (i := 4) rfl
            have i2 := H8.out.1.rw.cell (i := 2) rfl
            have er := H8.out.1.ne.cell
            have n3 : g13 ≠ w.heap.size + 1 := by omega
            have n4 : b ≠ w.heap.size + 1 := by omega
            obtain ⟨⟨f0, m0⟩, ⟨f1, m1⟩, ⟨f2, m2⟩, ⟨f3, m3⟩, ⟨f4, m4⟩, hrow⟩ := five_store (.string (bs s72)) (.string (bs s82)) (.string (bs dy)) (.string (bs s111)) (.string (bs (ch :: ct))) H8.out.1.rr
            have HQ := Lib.hid (And.intro hrow (five_below (.string (bs s72)) (.string (bs s82)) (.string (bs dy)) (.string (bs s111)) (.string (bs (ch :: ct))) H8.out.1.bel (A := w.heap.size + 1) (by omega)))
            have HPP : Hid (∀ p, M.reachD l x = some p → s72 = R p.fx ∧ s82 = R p.fy ∧ dy = R p.ax ∧ s111 = R p.ay ∧ (ch :: ct) = R p.h) := Lib.hid fun p hp => by
              rw [HRE.out, if_neg hij, if_neg hf0] at hp
              split at hp
              · cases hp
                unfold crossD
                simp only [if_pos (show x.side < 0 by omega)]
                exact ⟨E72.out.symm, E82.out.symm, Edy.out.symm, E111.out.symm, ECH.out.symm⟩
              · cases hp
            clear hrow H8
            by_cases hn : highD a c < 0
            · have hcd : ((ch.toNat : Int) != 45) = false := by
                have h1 := HC45.out
                rw [decide_eq_true hn, beq_iff_eq] at h1
                rw [h1]; rfl
              have HIS : Hid ((M.reachD l x).isSome = false) := Lib.hid (by rw [HRE.out, if_neg hij, if_neg hf0]; rw [if_neg (fun e => absurd hn (Rat.not_lt.2 e.1))]; rfl)
              clear HRE HC45 HH0
              go_region
              have hq := HQ.out.1.below' (RowKit.Below.drew (Below.refl _ _))
              have q0 := hq.cell (i := 0) rfl
              have q1 := hq.cell (i := 1) rfl
              have q2 := hq.cell (i := 2) rfl
              have q3 := hq.cell (i := 3) rfl
              have q4 := hq.cell (i := 4) rfl
              clear hq f0 f1 f2 f3 f4 m0 m1 m2 m3 m4 c0 c1 c2 c3 c4 i2 er n1 n2 n3 n4
              go_wp2
              refine bodyPost_ret (v := .tuple #[.agg #[.string (bs s72), .string (bs s82), .string (bs dy), .string (bs s111), .string (bs (ch :: ct))], .bool false]) (by simp [results, Tryz.results162, go_sem, q0, q1, q2, q3, q4]) rfl ⟨s72, s82, dy, s111, ch :: ct, ?_, RowKit.Below.drew HQ.out.2, HPP.out⟩
              rw [HIS.out]
            · have hcd : ((ch.toNat : Int) != 45) = true := by
                have h1 := HC45.out
                rw [decide_eq_false hn, beq_eq_false_iff_ne] at h1
                have h2 : ch.toNat ≠ 45 := fun e => h1 (UInt8.toNat_inj.1 (by rw [e]; rfl))
                simp; omega
              have hnn : 0 ≤ highD a c := Rat.not_lt.1 hn
              have hzs := HH0.out
              by_cases hz : highD a c = 0
              · rw [decide_eq_true hz] at hzs
                have hsd : (x.side == 0) = false := by simp; omega
                have hs0 : x.side ≠ 0 := by omega
                have HIS : Hid ((M.reachD l x).isSome = false) := Lib.hid (by rw [HRE.out, if_neg hij, if_neg hf0]; rw [if_neg (fun e => hs0 (e.2.1 hz))]; rfl)
                clear HRE HC45 HH0
                go_region
                have hq := HQ.out.1.below' (RowKit.Below.drew (Below.refl _ _))
                have q0 := hq.cell (i := 0) rfl
                have q1 := hq.cell (i := 1) rfl
                have q2 := hq.cell (i := 2) rfl
                have q3 := hq.cell (i := 3) rfl
                have q4 := hq.cell (i := 4) rfl
                clear hq f0 f1 f2 f3 f4 m0 m1 m2 m3 m4 c0 c1 c2 c3 c4 i2 er n1 n2 n3 n4
                go_wp2
                refine bodyPost_ret (v := .tuple #[.agg #[.string (bs s72), .string (bs s82), .string (bs dy), .string (bs s111), .string (bs (ch :: ct))], .bool false]) (by simp [results, Tryz.results162, go_sem, q0, q1, q2, q3, q4]) rfl ⟨s72, s82, dy, s111, ch :: ct, ?_, RowKit.Below.drew HQ.out.2, HPP.out⟩
                rw [HIS.out]
              · rw [decide_eq_false hz] at hzs
                have hsd : (x.side == 0) = false := by simp; omega
                have hs0 : x.side ≠ 0 := by omega
                have HIS : Hid ((M.reachD l x).isSome = true) := Lib.hid (by rw [HRE.out, if_neg hij, if_neg hf0]; rw [if_pos ⟨hnn, fun e => absurd e hz, fun e => absurd e hs0⟩]; rfl)
                clear HRE HC45 HH0
                go_region
                have hq := HQ.out.1.below' (RowKit.Below.drew (Below.refl _ _))
                have q0 := hq.cell (i := 0) rfl
                have q1 := hq.cell (i := 1) rfl
                have q2 := hq.cell (i := 2) rfl
                have q3 := hq.cell (i := 3) rfl
                have q4 := hq.cell (i := 4) rfl
                clear hq f0 f1 f2 f3 f4 m0 m1 m2 m3 m4 c0 c1 c2 c3 c4 i2 er n1 n2 n3 n4
                go_wp2
                refine bodyPost_ret (v := .tuple #[.agg #[.string (bs s72), .string (bs s82), .string (bs dy), .string (bs s111), .string (bs (ch :: ct))], .bool true]) (by simp [results, Tryz.results162, go_sem, q0, q1, q2, q3, q4]) rfl ⟨s72, s82, dy, s111, ch :: ct, ?_, RowKit.Below.drew HQ.out.2, HPP.out⟩
                rw [HIS.out]

          · have d2 : decide (x.side < 0) = false := decide_eq_false hs
            go_wp2_with fail
            clear i2
            have c0 := H7.out.2.2.cell (i := 0) rfl
            have c1 := H7.out.2.2.cell (i := 1) rfl
            have c2 := H7.out.2.2.cell (i := 2) rfl
            have c3 := H7.out.2.2.cell (i := 3) rfl
            have c4 := H7.out.2.2.cell (i := 4) rfl
            have i2 := H7.out.1.rw.cell (i := 2) rfl
            have er := H7.out.1.ne.cell
            have n3 : g13 ≠ w.heap.size + 1 := by omega
            have n4 : b ≠ w.heap.size + 1 := by omega
            obtain ⟨⟨f0, m0⟩, ⟨f1, m1⟩, ⟨f2, m2⟩, ⟨f3, m3⟩, ⟨f4, m4⟩, hrow⟩ := five_store (.string (bs s72)) (.string (bs s82)) (.string (bs s87)) (.string (bs dx)) (.string (bs (ch :: ct))) H7.out.1.rr
            have HQ := Lib.hid (And.intro hrow (five_below (.string (bs s72)) (.string (bs s82)) (.string (bs s87)) (.string (bs dx)) (.string (bs (ch :: ct))) H7.out.1.bel (A := w.heap.size + 1) (by omega)))
            have HPP : Hid (∀ p, M.reachD l x = some p → s72 = R p.fx ∧ s82 = R p.fy ∧ s87 = R p.ax ∧ dx = R p.ay ∧ (ch :: ct) = R p.h) := Lib.hid fun p hp => by
              rw [HRE.out, if_neg hij, if_neg hf0] at hp
              split at hp
              · cases hp
                unfold crossD
                simp only [if_neg (show ¬ x.side < 0 by omega)]
                exact ⟨E72.out.symm, E82.out.symm, E87.out.symm, Edx.out.symm, ECH.out.symm⟩
              · cases hp
            clear hrow H7
            by_cases hn : highD a c < 0
            · have hcd : ((ch.toNat : Int) != 45) = false := by
                have h1 := HC45.out
                rw [decide_eq_true hn, beq_iff_eq] at h1
                rw [h1]; rfl
              have HIS : Hid ((M.reachD l x).isSome = false) := Lib.hid (by rw [HRE.out, if_neg hij, if_neg hf0]; rw [if_neg (fun e => absurd hn (Rat.not_lt.2 e.1))]; rfl)
              clear HRE HC45 HH0
              go_region
              have hq := HQ.out.1.below' (RowKit.Below.drew (Below.refl _ _))
              have q0 := hq.cell (i := 0) rfl
              have q1 := hq.cell (i := 1) rfl
              have q2 := hq.cell (i := 2) rfl
              have q3 := hq.cell (i := 3) rfl
              have q4 := hq.cell (i := 4) rfl
              clear hq f0 f1 f2 f3 f4 m0 m1 m2 m3 m4 c0 c1 c2 c3 c4 i2 er n1 n2 n3 n4
              go_wp2
              refine bodyPost_ret (v := .tuple #[.agg #[.string (bs s72), .string (bs s82), .string (bs s87), .string (bs dx), .string (bs (ch :: ct))], .bool false]) (by simp [results, Tryz.results162, go_sem, q0, q1, q2, q3, q4]) rfl ⟨s72, s82, s87, dx, ch :: ct, ?_, RowKit.Below.drew HQ.out.2, HPP.out⟩
              rw [HIS.out]
            · have hcd : ((ch.toNat : Int) != 45) = true := by
                have h1 := HC45.out
                rw [decide_eq_false hn, beq_eq_false_iff_ne] at h1
                have h2 : ch.toNat ≠ 45 := fun e => h1 (UInt8.toNat_inj.1 (by rw [e]; rfl))
                simp; omega
              have hnn : 0 ≤ highD a c := Rat.not_lt.1 hn
              have hzs := HH0.out
              by_cases hz : highD a c = 0
              · rw [decide_eq_true hz] at hzs
                by_cases hs0 : x.side = 0
                · have hsd : (x.side == 0) = true := by simp [hs0]
                  have HIS : Hid ((M.reachD l x).isSome = true) := Lib.hid (by rw [HRE.out, if_neg hij, if_neg hf0]; rw [if_pos ⟨hnn, fun _ => hs0, fun _ => hz⟩]; rfl)
                  clear HRE HC45 HH0
                  go_region
                  have hq := HQ.out.1.below' (RowKit.Below.drew (Below.refl _ _))
                  have q0 := hq.cell (i := 0) rfl
                  have q1 := hq.cell (i := 1) rfl
                  have q2 := hq.cell (i := 2) rfl
                  have q3 := hq.cell (i := 3) rfl
                  have q4 := hq.cell (i := 4) rfl
                  clear hq f0 f1 f2 f3 f4 m0 m1 m2 m3 m4 c0 c1 c2 c3 c4 i2 er n1 n2 n3 n4
                  go_wp2
                  refine bodyPost_ret (v := .tuple #[.agg #[.string (bs s72), .string (bs s82), .string (bs s87), .string (bs dx), .string (bs (ch :: ct))], .bool true]) (by simp [results, Tryz.results162, go_sem, q0, q1, q2, q3, q4]) rfl ⟨s72, s82, s87, dx, ch :: ct, ?_, RowKit.Below.drew HQ.out.2, HPP.out⟩
                  rw [HIS.out]
                · have hsd : (x.side == 0) = false := by simp [hs0]
                  have HIS : Hid ((M.reachD l x).isSome = false) := Lib.hid (by rw [HRE.out, if_neg hij, if_neg hf0]; rw [if_neg (fun e => hs0 (e.2.1 hz))]; rfl)
                  clear HRE HC45 HH0
                  go_region
                  have hq := HQ.out.1.below' (RowKit.Below.drew (Below.refl _ _))
                  have q0 := hq.cell (i := 0) rfl
                  have q1 := hq.cell (i := 1) rfl
                  have q2 := hq.cell (i := 2) rfl
                  have q3 := hq.cell (i := 3) rfl
                  have q4 := hq.cell (i := 4) rfl
                  clear hq f0 f1 f2 f3 f4 m0 m1 m2 m3 m4 c0 c1 c2 c3 c4 i2 er n1 n2 n3 n4
                  go_wp2
                  refine bodyPost_ret (v := .tuple #[.agg #[.string (bs s72), .string (bs s82), .string (bs s87), .string (bs dx), .string (bs (ch :: ct))], .bool false]) (by simp [results, Tryz.results162, go_sem, q0, q1, q2, q3, q4]) rfl ⟨s72, s82, s87, dx, ch :: ct, ?_, RowKit.Below.drew HQ.out.2, HPP.out⟩
                  rw [HIS.out]
              · rw [decide_eq_false hz] at hzs
                by_cases hs0 : x.side = 0
                · have hsd : (x.side == 0) = true := by simp [hs0]
                  have HIS : Hid ((M.reachD l x).isSome = false) := Lib.hid (by rw [HRE.out, if_neg hij, if_neg hf0]; rw [if_neg (fun e => hz (e.2.2 hs0))]; rfl)
                  clear HRE HC45 HH0
                  go_region
                  have hq := HQ.out.1.below' (RowKit.Below.drew (Below.refl _ _))
                  have q0 := hq.cell (i := 0) rfl
                  have q1 := hq.cell (i := 1) rfl
                  have q2 := hq.cell (i := 2) rfl
                  have q3 := hq.cell (i := 3) rfl
                  have q4 := hq.cell (i := 4) rfl
                  clear hq f0 f1 f2 f3 f4 m0 m1 m2 m3 m4 c0 c1 c2 c3 c4 i2 er n1 n2 n3 n4
                  go_wp2
                  refine bodyPost_ret (v := .tuple #[.agg #[.string (bs s72), .string (bs s82), .string (bs s87), .string (bs dx), .string (bs (ch :: ct))], .bool false]) (by simp [results, Tryz.results162, go_sem, q0, q1, q2, q3, q4]) rfl ⟨s72, s82, s87, dx, ch :: ct, ?_, RowKit.Below.drew HQ.out.2, HPP.out⟩
                  rw [HIS.out]
                · have hsd : (x.side == 0) = false := by simp [hs0]
                  have HIS : Hid ((M.reachD l x).isSome = true) := Lib.hid (by rw [HRE.out, if_neg hij, if_neg hf0]; rw [if_pos ⟨hnn, fun e => absurd e hz, fun e => absurd e hs0⟩]; rfl)
                  clear HRE HC45 HH0
                  go_region
                  have hq := HQ.out.1.below' (RowKit.Below.drew (Below.refl _ _))
                  have q0 := hq.cell (i := 0) rfl
                  have q1 := hq.cell (i := 1) rfl
                  have q2 := hq.cell (i := 2) rfl
                  have q3 := hq.cell (i := 3) rfl
                  have q4 := hq.cell (i := 4) rfl
                  clear hq f0 f1 f2 f3 f4 m0 m1 m2 m3 m4 c0 c1 c2 c3 c4 i2 er n1 n2 n3 n4
                  go_wp2
                  refine bodyPost_ret (v := .tuple #[.agg #[.string (bs s72), .string (bs s82), .string (bs s87), .string (bs dx), .string (bs (ch :: ct))], .bool true]) (by simp [results, Tryz.results162, go_sem, q0, q1, q2, q3, q4]) rfl ⟨s72, s82, s87, dx, ch :: ct, ?_, RowKit.Below.drew HQ.out.2, HPP.out⟩
                  rw [HIS.out]

end W
end Go.Proofs.YtellemlhhlafcaaGreatDoor
end
