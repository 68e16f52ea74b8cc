/-
  Chapter 5's laws: the examples ('awake').
  Sums of rational numbers, plain.
  Tables of equations, plain: what a pivot keeps; a table is determined by its basis.
  Bland's rule, plain: a climb that always takes the first column and, among the rows with the least quotient, that of the least column, never comes back to a basis.
-/
import Derived.Test.YtijpgddpejiohaaGreatDoorLQ
import Derived.Test.YtijpgddpejiohaaGreatDoorLK
section
namespace Go.Proofs.YtijpgddpejiohaaGreatDoor
open Go Go.RowKit Go.Deep Go.Sort
namespace M
theorem t0 : R 0 = [48] := by decide +kernel
theorem t1 : R 1 = [49] := by decide +kernel
theorem t2 : R 2 = [50] := by decide +kernel
theorem t3 : R 3 = [51] := by decide +kernel
theorem t4 : R 4 = [52] := by decide +kernel
theorem t12 : R 12 = [49, 50] := by decide +kernel
theorem tm1 : R (-1) = [45, 49] := by decide +kernel
theorem tm2 : R (-2) = [45, 50] := by decide +kernel
instance (k : Nat) (q : Rat) : Decidable (Bq k q) := by unfold Bq; exact inferInstance
/-- The examples' bounds. -/
def cornQ : List BQ := [([1, 1], 4), ([-1, 0], 0), ([0, -1], 0)]
def cornT : List BT := [([[49], [49]], [52]), ([[45, 49], [48]], [48]), ([[48], [45, 49]], [48])]
def apaQ : List BQ := [([1], 1), ([-1], -2)]
def apaT : List BT := [([[49]], [49]), ([[45, 49]], [45, 50])]
def lowQ : List BQ := [([-1], 0)]
def lowT : List BT := [([[45, 49]], [48])]
theorem corn_t : bx cornQ = cornT := by simp only [bx, cornQ, rx, cornT, List.map_cons, List.map_nil, t0, t1, t4, tm1]
theorem apa_t : bx apaQ = apaT := by simp only [bx, apaQ, rx, apaT, List.map_cons, List.map_nil, t1, tm1, tm2]
theorem low_t : bx lowQ = lowT := by simp only [bx, lowQ, rx, lowT, List.map_cons, List.map_nil, t0, tm1]
theorem corn_r : RightB 2 cornQ := by unfold RightB cornQ; decide +kernel
theorem apa_r : RightB 1 apaQ := by unfold RightB apaQ; decide +kernel
theorem low_r : RightB 1 lowQ := by unfold RightB lowQ; decide +kernel
theorem corn_w : Wire cornT := ⟨by decide +kernel, fun _ => by decide +kernel⟩
theorem apa_w : Wire apaT := ⟨by decide +kernel, fun _ => by decide +kernel⟩
theorem corn_0 : chk5 2 cornT = 0 := by rw [← corn_t]; exact chk5_ok (n := 2) (by decide) (by decide) (by decide) corn_r
theorem apa_0 : chk5 1 apaT = 0 := by rw [← apa_t]; exact chk5_ok (n := 1) (by decide) (by decide) (by decide) apa_r
theorem kp1 : (cornQ.all fun b => keepsB b [0, 0]) = true := by decide +kernel
theorem rf1 : rfV apaQ [1, 1] 1 = 0 := by unfold rfV; rw [if_pos]; decide +kernel
theorem vm1 : vmV cornQ 2 [2, 3] 12 [0, 4] [3, 1, 0] = 0 := by unfold vmV; rw [if_pos]; decide +kernel
end M
theorem rdt_row {W : World} {g cap : Nat} {l : List (List UInt8)} (hr : Row W g 29 (Strs l)) : RdT W (.slice (some ⟨g, 0, none⟩) l.length cap) l :=
  ⟨_, _, rfl, Or.inr ⟨g, 0, rfl, hr.lt, fun i hi => by rw [Nat.zero_add]; exact hr.cell (by simp [Strs, hi])⟩⟩
theorem rdb3 {W : World} {g cap : Nat} {u0 u1 u2 : Value} {b0 b1 b2 : M.BT} (hr : Row W g 31 [u0, .string (bs b0.2), u1, .string (bs b1.2), u2, .string (bs b2.2)])
    (h0 : RdT W u0 b0.1) (h1 : RdT W u1 b1.1) (h2 : RdT W u2 b2.1) (s0 : Shp u0) (s1 : Shp u1) (s2 : Shp u2) : RdB W (.slice (some ⟨g, 0, none⟩) 3 cap) [b0, b1, b2] :=
  ⟨_, _, rfl, Or.inr ⟨g, 0, rfl, hr.lt, fun i hi => match i, hi with
    | 0, _ => ⟨u0, hr.cell (i := 0) rfl, h0, s0⟩
    | 1, _ => ⟨u1, hr.cell (i := 2) rfl, h1, s1⟩
    | 2, _ => ⟨u2, hr.cell (i := 4) rfl, h2, s2⟩, fun i hi => match i, hi with
    | 0, _ => hr.cell (i := 1) rfl
    | 1, _ => hr.cell (i := 3) rfl
    | 2, _ => hr.cell (i := 5) rfl⟩⟩
theorem rdb2 {W : World} {g cap : Nat} {u0 u1 : Value} {b0 b1 : M.BT} (hr : Row W g 31 [u0, .string (bs b0.2), u1, .string (bs b1.2)])
    (h0 : RdT W u0 b0.1) (h1 : RdT W u1 b1.1) (s0 : Shp u0) (s1 : Shp u1) : RdB W (.slice (some ⟨g, 0, none⟩) 2 cap) [b0, b1] :=
  ⟨_, _, rfl, Or.inr ⟨g, 0, rfl, hr.lt, fun i hi => match i, hi with
    | 0, _ => ⟨u0, hr.cell (i := 0) rfl, h0, s0⟩
    | 1, _ => ⟨u1, hr.cell (i := 2) rfl, h1, s1⟩, fun i hi => match i, hi with
    | 0, _ => hr.cell (i := 1) rfl
    | 1, _ => hr.cell (i := 3) rfl⟩⟩
theorem rdb1 {W : World} {g cap : Nat} {u0 : Value} {b0 : M.BT} (hr : Row W g 31 [u0, .string (bs b0.2)])
    (h0 : RdT W u0 b0.1) (s0 : Shp u0) : RdB W (.slice (some ⟨g, 0, none⟩) 1 cap) [b0] :=
  ⟨_, _, rfl, Or.inr ⟨g, 0, rfl, hr.lt, fun i hi => match i, hi with
    | 0, _ => ⟨u0, hr.cell (i := 0) rfl, h0, s0⟩, fun i hi => match i, hi with
    | 0, _ => hr.cell (i := 1) rfl⟩⟩
namespace W
open M
attribute [local go_sem] bs_size bs_toList bs_get bs_extract bs_append bs_lit0 bs_lit1 lit1_bs
set_option maxHeartbeats 1000000
set_option maxRecDepth 20000
/-- A list of bounds is returned. -/
def BndP (l : List BT) (w : World) (e : Ending) (w' : World) : Prop := ∃ A cap, e = .returned (.slice A l.length cap) ∧ RdB w' (.slice A l.length cap) l ∧ Below w.heap.size w w'
theorem bel_alloc {W W' : World} (h : Below W.heap.size W W') (o : Obj) : Below W.heap.size W (W'.alloc o) := h.alloc h.size o
theorem pcorner (w : World) : Calls Tryz.prog 50 #[] w (BndP cornT w) := by
  go_enter Tryz.func50, Tryz.ntmps50
  go_wp2
  refine bodyPost_ret (v := .slice (some ⟨w.heap.size + 1 + 1 + 1, 0, none⟩) 3 3) (by simp [results, Tryz.results50]) rfl ⟨_, _, rfl, ?_, bel_alloc (bel_alloc (bel_alloc (bel_alloc (Below.refl _ _) _) _) _) _⟩
  have s1 := fun (W : World) o => World.size_alloc W o
  have r0 := rdt_row (cap := 2) (l := [[49], [49]]) ((((rnw (w := w) (t := 29) (xs := [.string (bs [49]), .string (bs [49])])).alloc (.cells #[.string (bs [45, 49]), .string (bs [48])] 29)).alloc (.cells #[.string (bs [48]), .string (bs [45, 49])] 29)).alloc
    (.cells #[.slice (some ⟨w.heap.size, 0, none⟩) 2 2, .string (bs [52]), .slice (some ⟨w.heap.size + 1, 0, none⟩) 2 2, .string (bs [48]), .slice (some ⟨w.heap.size + 1 + 1, 0, none⟩) 2 2, .string (bs [48])] 31))
  have r1 := rdt_row (cap := 2) (l := [[45, 49], [48]]) (((rnew0 (w := w.alloc (.cells #[.string (bs [49]), .string (bs [49])] 29)) (b := w.heap.size + 1) (t := 29) (xs := [.string (bs [45, 49]), .string (bs [48])]) (s1 _ _).symm).alloc (.cells #[.string (bs [48]), .string (bs [45, 49])] 29)).alloc
    (.cells #[.slice (some ⟨w.heap.size, 0, none⟩) 2 2, .string (bs [52]), .slice (some ⟨w.heap.size + 1, 0, none⟩) 2 2, .string (bs [48]), .slice (some ⟨w.heap.size + 1 + 1, 0, none⟩) 2 2, .string (bs [48])] 31))
  have r2 := rdt_row (cap := 2) (l := [[48], [45, 49]]) ((rnew0 (w := (w.alloc (.cells #[.string (bs [49]), .string (bs [49])] 29)).alloc (.cells #[.string (bs [45, 49]), .string (bs [48])] 29)) (b := w.heap.size + 1 + 1) (t := 29) (xs := [.string (bs [48]), .string (bs [45, 49])]) (by rw [s1, s1])).alloc
    (.cells #[.slice (some ⟨w.heap.size, 0, none⟩) 2 2, .string (bs [52]), .slice (some ⟨w.heap.size + 1, 0, none⟩) 2 2, .string (bs [48]), .slice (some ⟨w.heap.size + 1 + 1, 0, none⟩) 2 2, .string (bs [48])] 31))
  have r3 := rnew0 (w := ((w.alloc (.cells #[.string (bs [49]), .string (bs [49])] 29)).alloc (.cells #[.string (bs [45, 49]), .string (bs [48])] 29)).alloc (.cells #[.string (bs [48]), .string (bs [45, 49])] 29)) (b := w.heap.size + 1 + 1 + 1) (t := 31)
    (xs := [.slice (some ⟨w.heap.size, 0, none⟩) 2 2, .string (bs [52]), .slice (some ⟨w.heap.size + 1, 0, none⟩) 2 2, .string (bs [48]), .slice (some ⟨w.heap.size + 1 + 1, 0, none⟩) 2 2, .string (bs [48])]) (by rw [s1, s1, s1])
  exact rdb3 (b0 := ([[49], [49]], [52])) (b1 := ([[45, 49], [48]], [48])) (b2 := ([[48], [45, 49]], [48])) r3 r0 r1 r2 (Or.inr ⟨_, _, _, rfl⟩) (Or.inr ⟨_, _, _, rfl⟩) (Or.inr ⟨_, _, _, rfl⟩)
/-- What the examples' calls return. -/
def Opt5 (t : List UInt8) (p q : List (List UInt8)) (w : World) (e : Ending) (w' : World) : Prop :=
  ∃ v1 v2, e = .returned (.tuple #[.string (bs t), v1, v2, .int .i64 0]) ∧ RdT w' v1 p ∧ RdT w' v2 q ∧ Below w.heap.size w w'
theorem pmost1 (vl vg : Value) (W : World) (hg : Glob W) (hl : RdB W vl cornT) (hgo : RdT W vg [[50], [51]]) : Calls Tryz.prog 18 #[.int .i64 2, vl, vg] W (Opt5 [49, 50] [[48], [52]] [[51], [49], [48]] W) := by
  refine (pmost 20 10 2 (by decide) (by decide) (by decide) cornQ [2, 3] _ fx1 vl vg W hg (by rw [corn_t]; exact hl) (by simp only [rx, List.map_cons, List.map_nil, t2, t3]; exact hgo) (by decide) (by decide) corn_r (by decide) (by decide) rfl (by decide +kernel)).mono ?_
  rintro e w' ⟨v1, v2, rfl, h1, h2, hb⟩
  refine ⟨v1, v2, by rw [t12], ?_, ?_, hb⟩
  · have h := h1.rd
    simpa only [rx, List.map_cons, List.map_nil, t0, t4] using h
  · have h := h2.rd
    simpa only [rx, List.map_cons, List.map_nil, t0, t1, t3] using h
theorem pmost3 (vl vg : Value) (W : World) (hg : Glob W) (hl : RdB W vl lowT) (hgo : RdT W vg [[49]]) : Calls Tryz.prog 18 #[.int .i64 1, vl, vg] W (fun e w' => e = .returned (.tuple #[.string (bs []), .slice none 0 0, .slice none 0 0, .int .i64 14]) ∧ Below W.heap.size W w') := by
  refine (pmost 20 10 1 (by decide) (by decide) (by decide) lowQ [1] _ fx3 vl vg W hg (by rw [low_t]; exact hl) (by simp only [rx, List.map_cons, List.map_nil, t1]; exact hgo) (by decide) (by decide) low_r (by decide) (by decide) rfl (by decide +kernel)).mono ?_
  rintro e w' ⟨rfl, hb⟩
  exact ⟨rfl, hb⟩
theorem pfeas2 (vl : Value) (W : World) (hg : Glob W) (hl : RdB W vl apaT) : Calls Tryz.prog 51 #[.int .i64 1, vl] W (fun e w' => ∃ A n c, e = .returned (.tuple #[.slice none 0 0, .slice A n c, .bool false, .int .i64 0]) ∧ Below W.heap.size W w') := by
  refine (pfeas 20 10 1 (by decide) (by decide) apaQ _ fx2 vl W hg (by rw [apa_t]; exact hl) (by decide) (by decide) apa_r (by decide) (by decide)).mono ?_
  rintro e w' ⟨v2, rfl, h, hb⟩
  obtain ⟨A, c, rfl⟩ := h.rd.len
  exact ⟨A, _, c, rfl, hb⟩
theorem pvm1 (vl vg vp vq : Value) (W : World) (hg : Glob W) (hl : RdB W vl cornT) (h1 : RdT W vg [[50], [51]]) (h2 : RdT W vp [[48], [52]]) (h3 : RdT W vq [[51], [49], [48]]) :
    Calls Tryz.prog 53 #[.int .i64 2, vl, .agg #[vg, .string (bs [49, 50]), vp, vq]] W (Ret W (.int .i64 0)) := by
  have h := pvm_ok 2 vl vg vp vq cornQ [2, 3] [0, 4] [3, 1, 0] 12 W hg (by rw [corn_t]; exact hl) (by rw [corn_t]; exact corn_w) (by rw [corn_t]; exact corn_0) (by simp only [rx, List.map_cons, List.map_nil, t2, t3]; exact h1) (by simp only [rx, List.map_cons, List.map_nil, t0, t4]; exact h2)
    (by simp only [rx, List.map_cons, List.map_nil, t0, t1, t3]; exact h3) (by decide) (by decide) corn_r rfl rfl rfl (by decide +kernel) (by decide +kernel) (by decide +kernel) (by decide +kernel) (by decide)
  rw [vm1, t12] at h
  exact h
theorem prefute1 (vl vp : Value) (W : World) (hg : Glob W) (hl : RdB W vl apaT) (h1 : RdT W vp [[49], [49]]) : Calls Tryz.prog 54 #[.int .i64 1, vl, vp] W (Ret W (.int .i64 0)) := by
  have h := prefute_ok 1 vl vp apaQ [1, 1] W hg (by rw [apa_t]; exact hl) (by rw [apa_t]; exact apa_w) (by rw [apa_t]; exact apa_0) (by simp only [rx, List.map_cons, List.map_nil, t1]; exact h1) (by decide) (by decide) apa_r rfl (by decide +kernel) (by decide)
  rw [rf1] at h
  exact h
theorem pverify1 (vl vp : Value) (W : World) (hg : Glob W) (hl : RdB W vl cornT) (h1 : RdT W vp [[48], [48]]) : Calls Tryz.prog 55 #[.int .i64 2, vl, vp] W (Ret W (.int .i64 0)) := by
  have h := pverify_ok 2 vl vp cornQ [0, 0] W hg (by rw [corn_t]; exact hl) (by rw [corn_t]; exact corn_w) (by rw [corn_t]; exact corn_0) (by simp only [rx, List.map_cons, List.map_nil, t0]; exact h1) (by decide) corn_r rfl (by decide +kernel) (chk_rx30 (by decide +kernel)) (by decide)
  rw [if_pos kp1] at h
  exact h
theorem pequal1 (va vb : Value) (l : List (List UInt8)) (a : List Rat) (e : rx a = l) (W : World) (ha : RdT W va l) (hb : RdT W vb l) (hn : a.length ≤ 1000) : Calls Tryz.prog 52 #[va, vb] W (Ret W (.bool true)) := by
  subst e
  have h := pequal va vb a a W ha hb hn
  rwa [decide_eq_true rfl] at h
def awA (w : World) (gg : Nat) : World := ((w.alloc (.cells #[.string (bs [48]), .string (bs [52])] 29)).alloc (.cells #[.string (bs [51]), .string (bs [49]), .string (bs [48])] 29)).alloc
  (.cells #[.slice (some ⟨gg, 0, none⟩) 2 2, .string (bs [49, 50]), .slice (some ⟨w.heap.size, 0, none⟩) 2 2, .slice (some ⟨w.heap.size + 1, 0, none⟩) 3 3] 89)
theorem awA_size (w : World) (gg : Nat) : (awA w gg).heap.size = w.heap.size + 1 + 1 + 1 := by unfold awA; rw [World.size_alloc, World.size_alloc, World.size_alloc]
theorem awA_facts (w : World) (gg : Nat) : Below w.heap.size w (awA w gg) ∧ RdT (awA w gg) (.slice (some ⟨w.heap.size, 0, none⟩) 2 2) [[48], [52]] ∧ RdT (awA w gg) (.slice (some ⟨w.heap.size + 1, 0, none⟩) 3 3) [[51], [49], [48]] ∧
    Row (awA w gg) (w.heap.size + 1 + 1) 89 [.slice (some ⟨gg, 0, none⟩) 2 2, .string (bs [49, 50]), .slice (some ⟨w.heap.size, 0, none⟩) 2 2, .slice (some ⟨w.heap.size + 1, 0, none⟩) 3 3] :=
  ⟨bel_alloc (bel_alloc (bel_alloc (Below.refl _ _) _) _) _, rdt_row (l := [[48], [52]]) ((rnw.alloc _).alloc _), rdt_row (l := [[51], [49], [48]]) ((rnew0 (World.size_alloc _ _).symm).alloc _), rnew0 (by rw [World.size_alloc, World.size_alloc])⟩
def awB (w : World) (n : Nat) : World := ((w.alloc (.cells #[.string (bs [49])] 29)).alloc (.cells #[.string (bs [45, 49])] 29)).alloc
  (.cells #[.slice (some ⟨n, 0, none⟩) 1 1, .string (bs [49]), .slice (some ⟨n + 1, 0, none⟩) 1 1, .string (bs [45, 50])] 31)
theorem awB_facts (w : World) (n : Nat) (hn : n = w.heap.size) : Below w.heap.size w (awB w n) ∧ RdB (awB w n) (.slice (some ⟨n + 1 + 1, 0, none⟩) 2 2) apaT := by
  subst hn
  exact ⟨bel_alloc (bel_alloc (bel_alloc (Below.refl _ _) _) _) _, rdb2 (b0 := ([[49]], [49])) (b1 := ([[45, 49]], [45, 50])) (rnew0 (by rw [World.size_alloc, World.size_alloc]))
    (rdt_row (l := [[49]]) ((rnw.alloc _).alloc _)) (rdt_row (l := [[45, 49]]) ((rnew0 (World.size_alloc _ _).symm).alloc _)) (Or.inr ⟨_, _, _, rfl⟩) (Or.inr ⟨_, _, _, rfl⟩)⟩
def awC (w : World) : World := ((w.alloc (.cells #[.string (bs [45, 49])] 29)).alloc (.cells #[.slice (some ⟨w.heap.size, 0, none⟩) 1 1, .string (bs [48])] 31)).alloc (.cells #[.string (bs [49])] 29)
theorem awC_facts (w : World) : Below w.heap.size w (awC w) ∧ RdB (awC w) (.slice (some ⟨w.heap.size + 1, 0, none⟩) 1 1) lowT ∧ RdT (awC w) (.slice (some ⟨w.heap.size + 1 + 1, 0, none⟩) 1 1) [[49]] :=
  ⟨bel_alloc (bel_alloc (bel_alloc (Below.refl _ _) _) _) _, rdb1 (b0 := ([[45, 49]], [48])) ((rnew0 (World.size_alloc _ _).symm).alloc _) (rdt_row (l := [[45, 49]]) ((rnw.alloc _).alloc _)) (Or.inr ⟨_, _, _, rfl⟩),
    rdt_row (l := [[49]]) (rnew0 (by rw [World.size_alloc, World.size_alloc]))⟩
/-- What is known of the world in the examples. -/
structure AwS (w W : World) (Al A1 A2 : Option Addr) (cl c1 c2 gg b : Nat) : Prop where
  bel : Below w.heap.size w W
  corn : RdB W (.slice Al 3 cl) cornT
  goal : RdT W (.slice (some ⟨gg, 0, none⟩) 2 2) [[50], [51]]
  p1 : RdT W (.slice A1 2 c1) [[48], [52]]
  p2 : RdT W (.slice A2 3 c2) [[51], [49], [48]]
  q1 : RdT W (.slice (some ⟨b, 0, none⟩) 2 2) [[48], [52]]
  q2 : RdT W (.slice (some ⟨b + 1, 0, none⟩) 3 3) [[51], [49], [48]]
  row : Row W (b + 1 + 1) 89 [.slice (some ⟨gg, 0, none⟩) 2 2, .string (bs [49, 50]), .slice (some ⟨b, 0, none⟩) 2 2, .slice (some ⟨b + 1, 0, none⟩) 3 3]
  apa : RdB W (.slice (some ⟨b + 1 + 1 + 1 + 1 + 1, 0, none⟩) 2 2) apaT
theorem AwS.to {w W W2 : World} {Al A1 A2 : Option Addr} {cl c1 c2 gg b : Nat} (h : AwS w W Al A1 A2 cl c1 c2 gg b) (hb : Below W.heap.size W W2) : AwS w W2 Al A1 A2 cl c1 c2 gg b :=
  ⟨bel_to h.bel hb, h.corn.below hb, h.goal.below hb, h.p1.below hb, h.p2.below hb, h.q1.below hb, h.q2.below hb, h.row.below' hb, h.apa.below hb⟩
theorem AwS.mk2 {w w2 : World} {Al A1 A2 : Option Addr} {cl c1 c2 gg : Nat} (hb : Below w.heap.size w w2) (h1 : RdB w2 (.slice Al 3 cl) cornT) (h2 : RdT w2 (.slice (some ⟨gg, 0, none⟩) 2 2) [[50], [51]]) (h3 : RdT w2 (.slice A1 2 c1) [[48], [52]]) (h4 : RdT w2 (.slice A2 3 c2) [[51], [49], [48]]) :
    AwS w (awB (awA w2 gg) (w2.heap.size + 1 + 1 + 1)) Al A1 A2 cl c1 c2 gg w2.heap.size := by
  obtain ⟨a1, a2, a3, a4⟩ := awA_facts w2 gg
  obtain ⟨b1, b2⟩ := awB_facts (awA w2 gg) (w2.heap.size + 1 + 1 + 1) (awA_size w2 gg).symm
  have ab := bel_to a1 b1
  exact ⟨bel_to hb ab, h1.below ab, h2.below ab, h3.below ab, h4.below ab, a2.below b1, a3.below b1, a4.below' b1, b2⟩
theorem awake5 (w : World) (hg : Glob w) : Calls Tryz.prog 12 #[] w (Ret w (.bool true)) := by
  have HCO := Lib.hid (fun W => pcorner W)
  have HG := Lib.hid hg
  clear hg
  go_enter Tryz.func12, Tryz.ntmps12
  go_wp2_with fail
  refine (HCO.out w).mono ?_
  rintro e w1 ⟨Al, cl, rfl, hrd, hb1⟩
  have HL := Lib.hid (And.intro hrd hb1)
  have HM1 := Lib.hid (pmost1 (.slice Al 3 cl) (.slice (some ⟨w1.heap.size, 0, none⟩) 2 2) (w1.alloc (.cells #[.string (bs [50]), .string (bs [51])] 29)) (HG.out.of (bel_alloc hb1 _)) (hrd.below (bel_alloc (Below.refl _ _) _)) (rdt_row (l := [[50], [51]]) rnw))
  rw [show cornT.length = 3 from rfl] at HL ⊢
  clear hrd hb1 HCO
  go_wp2_with fail
  refine HM1.out.mono ?_
  rintro e w2 ⟨v1, v2, rfl, h1, h2, hb2⟩
  obtain ⟨A1, c1, rfl⟩ := h1.len
  obtain ⟨A2, c2, rfl⟩ := h2.len
  have HL2 : Hid (Below w.heap.size w w2 ∧ RdB w2 (.slice Al 3 cl) cornT ∧ RdT w2 (.slice (some ⟨w1.heap.size, 0, none⟩) 2 2) [[50], [51]]) := Lib.hid ⟨bel_to (bel_alloc HL.out.2 _) hb2, (HL.out.1.below (bel_alloc (Below.refl _ _) _)).below hb2, (rdt_row (l := [[50], [51]]) rnw).below hb2⟩
  have HS2 := Lib.hid (AwS.mk2 HL2.out.1 HL2.out.2.1 HL2.out.2.2 h1 h2)
  clear h1 h2 hb2 HL HM1 HL2
  generalize w1.heap.size = gg at *
  go_wp2_with fail
  refine (pfeas2 _ (awB (awA w2 gg) (w2.heap.size + 1 + 1 + 1)) (HG.out.of HS2.out.bel) HS2.out.apa).mono ?_
  rintro e w3 ⟨A3, n3, c3, rfl, hb3⟩
  have HS3 := Lib.hid (HS2.out.to hb3)
  clear hb3 HS2
  generalize w2.heap.size = gb at *
  go_wp2_with fail
  refine (pmost3 _ _ (awC w3) (HG.out.of (bel_to HS3.out.bel (awC_facts w3).1)) (awC_facts w3).2.1 (awC_facts w3).2.2).mono ?_
  rintro e w4 ⟨rfl, hb4⟩
  have HS4 := Lib.hid (HS3.out.to (bel_to (awC_facts w3).1 hb4))
  clear hb4 HS3
  have x0 := HS4.out.row.cell (i := 0) rfl
  have x1 := HS4.out.row.cell (i := 1) rfl
  have x2 := HS4.out.row.cell (i := 2) rfl
  have x3 := HS4.out.row.cell (i := 3) rfl
  go_wp2_with fail
  refine (pequal1 _ _ _ [0, 4] (by simp only [rx, List.map_cons, List.map_nil, t0, t4]) w4 HS4.out.p1 HS4.out.q1 (by decide)).mono ?_
  rintro e w5 ⟨rfl, hb5⟩
  have HS5 := Lib.hid (HS4.out.to hb5)
  clear hb5 HS4 x0 x1 x2 x3
  have x0 := HS5.out.row.cell (i := 0) rfl
  have x1 := HS5.out.row.cell (i := 1) rfl
  have x2 := HS5.out.row.cell (i := 2) rfl
  have x3 := HS5.out.row.cell (i := 3) rfl
  go_wp2_with fail
  refine (pequal1 _ _ _ [3, 1, 0] (by simp only [rx, List.map_cons, List.map_nil, t0, t1, t3]) w5 HS5.out.p2 HS5.out.q2 (by decide)).mono ?_
  rintro e w6 ⟨rfl, hb6⟩
  have HS6 := Lib.hid (HS5.out.to hb6)
  clear hb6 HS5 x0 x1 x2 x3
  have x0 := HS6.out.row.cell (i := 0) rfl
  have x1 := HS6.out.row.cell (i := 1) rfl
  have x2 := HS6.out.row.cell (i := 2) rfl
  have x3 := HS6.out.row.cell (i := 3) rfl
  go_wp2_with fail
  refine (pvm1 _ _ _ _ w6 (HG.out.of HS6.out.bel) HS6.out.corn HS6.out.goal HS6.out.q1 HS6.out.q2).mono ?_
  rintro e w7 ⟨rfl, hb7⟩
  have HS7 := Lib.hid (HS6.out.to hb7)
  clear hb7 HS6 x0 x1 x2 x3
  have HB7 := Lib.hid (bel_alloc (Below.refl w7.heap.size w7) (.cells #[.string (bs [49]), .string (bs [49])] 29))
  go_wp2_with fail
  refine (prefute1 _ _ (w7.alloc (.cells #[.string (bs [49]), .string (bs [49])] 29)) (HG.out.of (bel_to HS7.out.bel HB7.out)) (HS7.out.apa.below HB7.out) (rdt_row (l := [[49], [49]]) rnw)).mono ?_
  rintro e w8 ⟨rfl, hb8⟩
  have HS8 := Lib.hid (HS7.out.to (bel_to HB7.out hb8))
  clear hb8 HS7 HB7
  have HB8 := Lib.hid (bel_alloc (Below.refl w8.heap.size w8) (.cells #[.string (bs [48]), .string (bs [48])] 29))
  go_wp2_with fail
  refine (pverify1 _ _ (w8.alloc (.cells #[.string (bs [48]), .string (bs [48])] 29)) (HG.out.of (bel_to HS8.out.bel HB8.out)) (HS8.out.corn.below HB8.out) (rdt_row (l := [[48], [48]]) rnw)).mono ?_
  rintro e w9 ⟨rfl, hb9⟩
  have hb9' := bel_to HS8.out.bel (bel_to HB8.out hb9)
  clear HS8 HB8 hb9
  go_wp2
  go_ret
  exact Ret.of rfl hb9'
end W
end Go.Proofs.YtijpgddpejiohaaGreatDoor
end
section
namespace Go.Proofs.YtijpgddpejiohaaGreatDoor
open Go
namespace Sx
open M
/-- The sum of f 0 .. f (n - 1). -/
def sm : Nat → (Nat → Rat) → Rat
  | 0, _ => 0
  | n + 1, f => sm n f + f n
theorem sm_congr {n : Nat} {f g : Nat → Rat} (h : ∀ k, k < n → f k = g k) : sm n f = sm n g := by
  induction n with
  | zero => rfl
  | succ n ih => rw [sm, sm, ih fun k hk => h k (by omega), h n (by omega)]
theorem sm_zero {n : Nat} {f : Nat → Rat} (h : ∀ k, k < n → f k = 0) : sm n f = 0 := by
  induction n with
  | zero => rfl
  | succ n ih => rw [sm, ih fun k hk => h k (by omega), h n (by omega)]; grind
theorem sm_add (n : Nat) (f g : Nat → Rat) : sm n (fun k => f k + g k) = sm n f + sm n g := by
  induction n with
  | zero => simp only [sm]; grind
  | succ n ih => rw [sm, sm, sm, ih]; grind
theorem sm_sub (n : Nat) (f g : Nat → Rat) : sm n (fun k => f k - g k) = sm n f - sm n g := by
  induction n with
  | zero => simp only [sm]; grind
  | succ n ih => rw [sm, sm, sm, ih]; grind
theorem sm_mul (n : Nat) (c : Rat) (f : Nat → Rat) : sm n (fun k => c * f k) = c * sm n f := by
  induction n with
  | zero => rw [sm, sm, Rat.mul_zero]
  | succ n ih => rw [sm, sm, ih]; grind
theorem sm_mul_right (n : Nat) (c : Rat) (f : Nat → Rat) : sm n (fun k => f k * c) = sm n f * c := by
  induction n with
  | zero => rw [sm, sm, Rat.zero_mul]
  | succ n ih => rw [sm, sm, ih]; grind
theorem sm_neg (n : Nat) (f : Nat → Rat) : sm n (fun k => - f k) = - sm n f := by
  induction n with
  | zero => simp only [sm]; grind
  | succ n ih => rw [sm, sm, ih]; grind
theorem sm_one {n k : Nat} {f : Nat → Rat} (hk : k < n) (h : ∀ j, j < n → j ≠ k → f j = 0) : sm n f = f k := by
  induction n with
  | zero => omega
  | succ n ih =>
    rw [sm]
    by_cases e : k = n
    · subst e
      rw [sm_zero fun j hj => h j (by omega) (by omega)]; grind
    · rw [ih (by omega) fun j hj => h j (by omega), h n (by omega) (by omega)]; grind
theorem sm_swap (n m : Nat) (f : Nat → Nat → Rat) : sm n (fun i => sm m fun j => f i j) = sm m (fun j => sm n fun i => f i j) := by
  induction n with
  | zero =>
    rw [sm]
    exact (sm_zero fun k _ => rfl).symm
  | succ n ih =>
    rw [sm, ih, ← sm_add]
    exact sm_congr fun k _ => rfl
theorem sm_le {n : Nat} {f g : Nat → Rat} (h : ∀ k, k < n → f k ≤ g k) : sm n f ≤ sm n g := by
  induction n with
  | zero => exact Rat.le_refl
  | succ n ih =>
    have h1 := ih fun k hk => h k (by omega)
    have h2 := h n (by omega)
    rw [sm, sm]; grind
theorem sm_nonneg {n : Nat} {f : Nat → Rat} (h : ∀ k, k < n → 0 ≤ f k) : 0 ≤ sm n f := by
  induction n with
  | zero => exact Rat.le_refl
  | succ n ih =>
    have h1 := ih fun k hk => h k (by omega)
    have h2 := h n (by omega)
    rw [sm]; grind
theorem sm_nonpos {n : Nat} {f : Nat → Rat} (h : ∀ k, k < n → f k ≤ 0) : sm n f ≤ 0 := by
  induction n with
  | zero => exact Rat.le_refl
  | succ n ih =>
    have h1 := ih fun k hk => h k (by omega)
    have h2 := h n (by omega)
    rw [sm]; grind
/-- A negative sum has a negative term. -/
theorem sm_neg_ex {n : Nat} {f : Nat → Rat} (h : sm n f < 0) : ∃ k, k < n ∧ f k < 0 := by
  induction n with
  | zero => simp only [sm] at h; exact absurd h Rat.lt_irrefl
  | succ n ih =>
    rw [sm] at h
    by_cases h1 : sm n f < 0
    · obtain ⟨k, hk, hf⟩ := ih h1
      exact ⟨k, by omega, hf⟩
    · exact ⟨n, by omega, by grind⟩
theorem sm_split (a b : Nat) (f : Nat → Rat) : sm (a + b) f = sm a f + sm b (fun k => f (a + k)) := by
  induction b with
  | zero => rw [sm]; show sm a f = _; grind
  | succ b ih => rw [← Nat.add_assoc, sm, ih, sm]; grind
end Sx
end Go.Proofs.YtijpgddpejiohaaGreatDoor
end
section
namespace Go.Proofs.YtijpgddpejiohaaGreatDoor
open Go
namespace Sx
open M
/-- x solves the rows, the right sides (in column D) taken t times; what the goal (row m) has there. -/
def Sol (m D : Nat) (A : Mx) (t : Rat) (x : Nat → Rat) : Prop := ∀ i, i < m → sm D (fun k => A i k * x k) = A i D * t
def Zv (m D : Nat) (A : Mx) (t : Rat) (x : Nat → Rat) : Rat := sm D (fun k => A m k * x k) - A m D * t
/-- Row i determines column b i. -/
structure Bas (m D : Nat) (A : Mx) (b : Nat → Nat) : Prop where
  lt : ∀ i, i < m → b i < D
  one : ∀ i, i < m → A i (b i) = 1
  zer : ∀ i j, i < m → j ≤ m → j ≠ i → A j (b i) = 0
theorem Bas.inj {m D : Nat} {A : Mx} {b : Nat → Nat} (h : Bas m D A b) {i j : Nat} (hi : i < m) (hj : j < m) (e : b i = b j) : i = j := by
  by_cases h1 : i = j
  · exact h1
  · have h2 := h.zer j i hj (by omega) h1
    rw [← e, h.one i hi] at h2
    exact absurd h2 (by decide +kernel)
section
variable {m D : Nat} {A A' : Mx} {b : Nat → Nat} {r c : Nat}
theorem piv_row {i k : Nat} (h : i ≠ r) : pivA A r c i k = A i k - A i c * (A r k / A r c) := by unfold pivA; rw [if_neg h]
theorem piv_r (k : Nat) : pivA A r c r k = A r k / A r c := by unfold pivA; rw [if_pos rfl]
theorem piv_sum_r (x : Nat → Rat) : sm D (fun k => pivA A r c r k * x k) = sm D (fun k => A r k * x k) / A r c := by
  rw [Rat.div_def, ← sm_mul_right]
  exact sm_congr fun k _ => by rw [piv_r]; grind
theorem piv_sum {i : Nat} (h : i ≠ r) (x : Nat → Rat) : sm D (fun k => pivA A r c i k * x k) = sm D (fun k => A i k * x k) - A i c * (sm D (fun k => A r k * x k) / A r c) := by
  rw [← piv_sum_r, ← sm_mul, ← sm_sub]
  exact sm_congr fun k _ => by rw [piv_row h, piv_r]; grind
theorem piv_sol (hr : r < m) (h0 : A r c ≠ 0) {t : Rat} {x : Nat → Rat} : Sol m D (pivA A r c) t x ↔ Sol m D A t x := by
  constructor
  · intro h i hi
    have h1 := h r hr
    rw [piv_sum_r, piv_r] at h1
    have h2 : sm D (fun k => A r k * x k) = A r D * t := by grind
    by_cases e : i = r
    · subst e; exact h2
    · have h3 := h i hi
      rw [piv_sum e, piv_row e] at h3
      grind
  · intro h i hi
    have h2 := h r hr
    by_cases e : i = r
    · subst e
      rw [piv_sum_r, piv_r, h2]; grind
    · rw [piv_sum e, piv_row e, h i hi, h2]; grind
theorem piv_zv (hr : r < m) {t : Rat} {x : Nat → Rat} (h : Sol m D A t x) : Zv m D (pivA A r c) t x = Zv m D A t x := by
  unfold Zv
  rw [piv_sum (by omega), piv_row (by omega), h r hr]; grind
theorem piv_bas (h : Bas m D A b) (hr : r < m) (hc : c < D) (h0 : A r c ≠ 0) : Bas m D (pivA A r c) (upd b r c) := by
  refine ⟨fun i hi => ?_, fun i hi => ?_, fun i j hi hj hij => ?_⟩
  · by_cases e : i = r
    · subst e; rw [upd_same]; exact hc
    · rw [upd_other _ e]; exact h.lt i hi
  · by_cases e : i = r
    · subst e; rw [upd_same, piv_r]; grind
    · rw [upd_other _ e, piv_row e, h.one i hi, h.zer i r hi (by omega) (by omega)]; grind
  · by_cases e : i = r
    · subst e
      rw [upd_same, piv_row hij]; grind
    · rw [upd_other _ e]
      have h1 := h.zer i r hi (by omega) (by omega)
      by_cases e2 : j = r
      · subst e2; rw [piv_r, h1]; grind
      · rw [piv_row e2, h1, h.zer i j hi hj hij]; grind
/-- The vector that has y i in column b i. -/
def bv (m : Nat) (b : Nat → Nat) (y : Nat → Rat) : Nat → Rat := fun k => sm m fun i => if b i = k then y i else 0
theorem bv_at (h : Bas m D A b) (y : Nat → Rat) {i : Nat} (hi : i < m) : bv m b y (b i) = y i := by
  unfold bv
  rw [sm_one hi fun j hj e => ?_, if_pos rfl]
  rw [if_neg fun e2 => e (h.inj hj hi e2)]
theorem bv_off (y : Nat → Rat) {k : Nat} (hk : ∀ i, i < m → b i ≠ k) : bv m b y k = 0 := sm_zero fun i hi => if_neg (hk i hi)
/-- Any row's sum over such a vector. -/
theorem bv_sum (hb : ∀ i, i < m → b i < D) (f y : Nat → Rat) : sm D (fun k => f k * bv m b y k) = sm m fun i => f (b i) * y i := by
  have e : sm D (fun k => f k * bv m b y k) = sm D (fun k => sm m fun i => if b i = k then f k * y i else 0) :=
    sm_congr fun k _ => by
      unfold bv
      rw [← sm_mul]
      exact sm_congr fun i _ => by split <;> grind
  rw [e, sm_swap]
  refine sm_congr fun i hi => ?_
  rw [sm_one (hb i hi) fun j _ e => if_neg fun e2 => e e2.symm, if_pos rfl]
theorem bv_row (h : Bas m D A b) (y : Nat → Rat) {i : Nat} (hi : i < m) : sm D (fun k => A i k * bv m b y k) = y i := by
  rw [bv_sum h.lt, sm_one hi fun j hj e => by rw [h.zer j i hj (by omega) (by omega)]; grind, h.one i hi]; grind
theorem bv_goal (h : Bas m D A b) (y : Nat → Rat) : sm D (fun k => A m k * bv m b y k) = 0 := by
  rw [bv_sum h.lt]
  exact sm_zero fun i hi => by rw [h.zer i m hi (Nat.le_refl _) (by omega)]; grind
/-- The table's point. -/
theorem bas_sol (h : Bas m D A b) : Sol m D A 1 (bv m b fun i => A i D) := fun i hi => by rw [bv_row h _ hi]; grind
theorem bas_zv (h : Bas m D A b) : Zv m D A 1 (bv m b fun i => A i D) = - A m D := by unfold Zv; rw [bv_goal h]; grind
/-- The direction of column s. -/
def dirV (m : Nat) (A : Mx) (b : Nat → Nat) (s : Nat) : Nat → Rat := fun k => (if k = s then 1 else 0) - bv m b (fun i => A i s) k
theorem dir_sum {s : Nat} (hs : s < D) (f : Nat → Rat) : sm D (fun k => f k * dirV m A b s k) = f s - sm D (fun k => f k * bv m b (fun i => A i s) k) := by
  have e : sm D (fun k => f k * dirV m A b s k) = sm D (fun k => (if k = s then f k else 0) - f k * bv m b (fun i => A i s) k) :=
    sm_congr fun k _ => by unfold dirV; split <;> grind
  rw [e, sm_sub, sm_one hs fun j _ e => if_neg e, if_pos rfl]
theorem dir_sol (h : Bas m D A b) {s : Nat} (hs : s < D) : Sol m D A 0 (dirV m A b s) := fun i hi => by
  rw [dir_sum hs, bv_row h _ hi]; grind
theorem dir_zv (h : Bas m D A b) {s : Nat} (hs : s < D) : Zv m D A 0 (dirV m A b s) = A m s := by
  unfold Zv
  rw [dir_sum hs, bv_goal h]; grind
/-- Two tables of the same equations, with goals that have the same values. -/
structure Eqv (m D : Nat) (A A' : Mx) : Prop where
  sol : ∀ t x, Sol m D A t x ↔ Sol m D A' t x
  zv : ∀ t x, Sol m D A t x → Zv m D A t x = Zv m D A' t x
theorem Eqv.refl (m D : Nat) (A : Mx) : Eqv m D A A := ⟨fun _ _ => Iff.rfl, fun _ _ _ => rfl⟩
theorem Eqv.symm (h : Eqv m D A A') : Eqv m D A' A := ⟨fun t x => (h.sol t x).symm, fun t x hs => (h.zv t x ((h.sol t x).2 hs)).symm⟩
theorem Eqv.trans {A'' : Mx} (h : Eqv m D A A') (h2 : Eqv m D A' A'') : Eqv m D A A'' :=
  ⟨fun t x => (h.sol t x).trans (h2.sol t x), fun t x hs => (h.zv t x hs).trans (h2.zv t x ((h.sol t x).1 hs))⟩
theorem eqv_piv (hr : r < m) (h0 : A r c ≠ 0) : Eqv m D A (pivA A r c) := ⟨fun _ _ => (piv_sol hr h0).symm, fun _ _ h => (piv_zv hr h).symm⟩
theorem Eqv.col (e : Eqv m D A A') (h : Bas m D A b) (h' : Bas m D A' b) {s : Nat} (hs : s < D) : (∀ i, i < m → A i s = A' i s) ∧ A m s = A' m s := by
  have hd := dir_sol h hs
  have hz := e.zv 0 _ hd
  rw [dir_zv h hs] at hz
  have hd' := (e.sol 0 _).1 hd
  refine ⟨fun i hi => ?_, ?_⟩
  · have h1 := hd' i hi
    rw [dir_sum hs, bv_row h' _ hi] at h1
    grind
  · rw [hz]; unfold Zv
    rw [dir_sum hs, bv_goal h']; grind
theorem Eqv.rhs (e : Eqv m D A A') (h : Bas m D A b) (h' : Bas m D A' b) : (∀ i, i < m → A i D = A' i D) ∧ A m D = A' m D := by
  have hd := bas_sol h
  have hz := e.zv 1 _ hd
  rw [bas_zv h] at hz
  have hd' := (e.sol 1 _).1 hd
  refine ⟨fun i hi => ?_, ?_⟩
  · have h1 := hd' i hi
    rw [bv_row h' _ hi] at h1
    grind
  · unfold Zv at hz
    rw [bv_goal h'] at hz
    grind
end
end Sx
end Go.Proofs.YtijpgddpejiohaaGreatDoor
end
section
namespace Go.Proofs.YtijpgddpejiohaaGreatDoor
open Go
namespace Sx
open M
/-- One step of a climb. -/
structure Stp (m D : Nat) (ban : Option Nat) (A : Mx) (b : Nat → Nat) (r c : Nat) (A' : Mx) (b' : Nat → Nat) : Prop where
  cD : c < D
  cb : some c ≠ ban
  cp : 0 < A m c
  cf : ∀ k, k < c → some k ≠ ban → A m k ≤ 0
  rm : r < m
  rp : 0 < A r c
  rr : ∀ i, i < m → 0 < A i c → A r D / A r c ≤ A i D / A i c
  rt : ∀ i, i < m → 0 < A i c → A r D / A r c = A i D / A i c → b r ≤ b i
  pA : ∀ j, j ≤ m → ∀ k, k ≤ D → A' j k = pivA A r c j k
  pb : ∀ i, i < m → b' i = upd b r c i
theorem Bas.congr {m D : Nat} {A A' : Mx} {b b' : Nat → Nat} (h : Bas m D A b) (hA : ∀ j, j ≤ m → ∀ k, k ≤ D → A' j k = A j k) (hb : ∀ i, i < m → b' i = b i) : Bas m D A' b' := by
  refine ⟨fun i hi => ?_, fun i hi => ?_, fun i j hi hj e => ?_⟩
  · rw [hb i hi]; exact h.lt i hi
  · have := h.lt i hi
    rw [hb i hi, hA i (by omega) _ (by omega)]; exact h.one i hi
  · have := h.lt i hi
    rw [hb i hi, hA j hj _ (by omega)]; exact h.zer i j hi hj e
theorem Eqv.congr {m D : Nat} {A A' : Mx} (hA : ∀ j, j ≤ m → ∀ k, k ≤ D → A' j k = A j k) : Eqv m D A A' := by
  have e : ∀ j, j ≤ m → ∀ x : Nat → Rat, sm D (fun k => A' j k * x k) = sm D (fun k => A j k * x k) := fun j hj x => sm_congr fun k hk => by rw [hA j hj k (by omega)]
  refine ⟨fun t x => ⟨fun h i hi => ?_, fun h i hi => ?_⟩, fun t x _ => ?_⟩
  · rw [e i (by omega), hA i (by omega) D (Nat.le_refl _)]; exact h i hi
  · have := h i hi
    rwa [e i (by omega), hA i (by omega) D (Nat.le_refl _)] at this
  · unfold Zv; rw [e m (Nat.le_refl _), hA m (Nat.le_refl _) D (Nat.le_refl _)]
section
variable {m D : Nat} {ban : Option Nat} {A A' : Mx} {b b' : Nat → Nat} {r c : Nat}
theorem Stp.bas (s : Stp m D ban A b r c A' b') (h : Bas m D A b) : Bas m D A' b' :=
  (piv_bas h s.rm s.cD (fun e => by have := s.rp; rw [e] at this; exact Rat.lt_irrefl this)).congr s.pA s.pb
theorem Stp.eqv (s : Stp m D ban A b r c A' b') : Eqv m D A A' :=
  (eqv_piv s.rm (fun e => by have := s.rp; rw [e] at this; exact Rat.lt_irrefl this)).trans (Eqv.congr s.pA)
theorem div_nonneg' {a b : Rat} (ha : 0 ≤ a) (hb : 0 < b) : 0 ≤ a / b := by
  rw [Rat.div_def]; exact Rat.mul_nonneg ha (Rat.le_of_lt (Rat.inv_pos.2 hb))
theorem Stp.ratio (s : Stp m D ban A b r c A' b') (hf : ∀ i, i < m → 0 ≤ A i D) : 0 ≤ A r D / A r c := div_nonneg' (hf r s.rm) s.rp
theorem Stp.feas (s : Stp m D ban A b r c A' b') (hf : ∀ i, i < m → 0 ≤ A i D) : ∀ i, i < m → 0 ≤ A' i D := fun i hi => by
  rw [s.pA i (by omega) D (Nat.le_refl _)]
  have h0 := s.ratio hf
  by_cases e : i = r
  · subst e; rw [piv_r]; exact h0
  · rw [piv_row e]
    by_cases hp : 0 < A i c
    · have h1 := Rat.mul_le_mul_of_nonneg_left (s.rr i hi hp) (Rat.le_of_lt hp)
      have h2 : A i c * (A i D / A i c) = A i D := by grind
      grind
    · have h1 := Rat.mul_nonneg (show 0 ≤ - A i c by grind) h0
      have h2 := hf i hi
      grind
theorem Stp.goal (s : Stp m D ban A b r c A' b') (hf : ∀ i, i < m → 0 ≤ A i D) : A' m D ≤ A m D := by
  rw [s.pA m (Nat.le_refl _) D (Nat.le_refl _), piv_row (by have := s.rm; omega)]
  have h1 := Rat.mul_nonneg (Rat.le_of_lt s.cp) (s.ratio hf)
  grind
theorem Stp.still (s : Stp m D ban A b r c A' b') (e : A' m D = A m D) : A r D = 0 := by
  rw [s.pA m (Nat.le_refl _) D (Nat.le_refl _), piv_row (by have := s.rm; omega)] at e
  have h1 : A m c * (A r D / A r c) = 0 := by grind
  rcases Rat.mul_eq_zero.1 h1 with h | h
  · have := s.cp; rw [h] at this; exact absurd this Rat.lt_irrefl
  · have := s.rp
    have h2 : A r D = A r D / A r c * A r c := by grind
    rw [h2, h]; grind
theorem Stp.stay (s : Stp m D ban A b r c A' b') (e : A r D = 0) : ∀ i, i < m → A' i D = A i D := fun i hi => by
  rw [s.pA i (by omega) D (Nat.le_refl _)]
  have h0 : A r D / A r c = 0 := by rw [e]; grind
  by_cases h : i = r
  · subst h; rw [piv_r, h0, e]
  · rw [piv_row h, h0]; grind
/-- The column that comes in was not in the basis. -/
theorem Stp.new (s : Stp m D ban A b r c A' b') (h : Bas m D A b) {i : Nat} (hi : i < m) : b i ≠ c := fun e => by
  have h1 := h.zer i m hi (Nat.le_refl _) (by omega)
  have := s.cp
  rw [← e, h1] at this
  exact Rat.lt_irrefl this
end
/-- A run of N steps. -/
def Runs (m D : Nat) (ban : Option Nat) (T : Nat → Mx) (b : Nat → Nat → Nat) (r c : Nat → Nat) (N : Nat) : Prop := ∀ x, x < N → Stp m D ban (T x) (b x) (r x) (c x) (T (x + 1)) (b (x + 1))
section
variable {m D : Nat} {ban : Option Nat} {T : Nat → Mx} {b : Nat → Nat → Nat} {r c : Nat → Nat} {N : Nat}
theorem Runs.bas (h : Runs m D ban T b r c N) (h0 : Bas m D (T 0) (b 0)) : ∀ x, x ≤ N → Bas m D (T x) (b x)
  | 0, _ => h0
  | x + 1, hx => (h x (by omega)).bas (Runs.bas h h0 x (by omega))
theorem Runs.feas (h : Runs m D ban T b r c N) (h0 : ∀ i, i < m → 0 ≤ T 0 i D) : ∀ x, x ≤ N → ∀ i, i < m → 0 ≤ T x i D
  | 0, _ => h0
  | x + 1, hx => (h x (by omega)).feas (Runs.feas h h0 x (by omega))
theorem Runs.eqv (h : Runs m D ban T b r c N) {x : Nat} : ∀ d, x + d ≤ N → Eqv m D (T x) (T (x + d))
  | 0, _ => Eqv.refl _ _ _
  | d + 1, hx => (Runs.eqv h d (by omega)).trans (h (x + d) (by omega)).eqv
theorem Runs.goal (h : Runs m D ban T b r c N) (h0 : ∀ i, i < m → 0 ≤ T 0 i D) {x : Nat} : ∀ d, x + d ≤ N → T (x + d) m D ≤ T x m D
  | 0, _ => Rat.le_refl
  | d + 1, hx => Rat.le_trans ((h (x + d) (by omega)).goal (h.feas h0 _ (by omega))) (Runs.goal h h0 d (by omega))
/-- A row that has column k later and not before took it in between. -/
theorem Runs.took (h : Runs m D ban T b r c N) {i k : Nat} (hi : i < m) {x : Nat} (hx : b x i ≠ k) : ∀ d, x + d ≤ N → b (x + d) i = k → ∃ w, x ≤ w ∧ w < x + d ∧ r w = i ∧ c w = k
  | 0, _, e => absurd e hx
  | d + 1, hd, e => by
    by_cases h1 : b (x + d) i = k
    · obtain ⟨w, a1, a2, a3⟩ := Runs.took h hi hx d (by omega) h1
      exact ⟨w, a1, by omega, a3⟩
    · have s := h (x + d) (by omega)
      rw [show x + (d + 1) = x + d + 1 by omega, s.pb i hi] at e
      by_cases h2 : i = r (x + d)
      · rw [h2, upd_same] at e
        exact ⟨x + d, by omega, by omega, h2.symm, e⟩
      · rw [upd_other _ h2] at e; exact absurd e h1
/-- A row that had column k and has it no longer gave it away in between. -/
theorem Runs.gave (h : Runs m D ban T b r c N) {i k : Nat} (hi : i < m) {x : Nat} (hx : b x i = k) : ∀ d, x + d ≤ N → b (x + d) i ≠ k → ∃ w, x ≤ w ∧ w < x + d ∧ r w = i ∧ b w i = k
  | 0, _, e => absurd hx e
  | d + 1, hd, e => by
    by_cases h1 : b (x + d) i = k
    · have s := h (x + d) (by omega)
      rw [show x + (d + 1) = x + d + 1 by omega, s.pb i hi] at e
      by_cases h2 : i = r (x + d)
      · exact ⟨x + d, by omega, by omega, h2.symm, h1⟩
      · rw [upd_other _ h2] at e; exact absurd h1 e
    · obtain ⟨w, a1, a2, a3⟩ := Runs.gave h hi hx d (by omega) h1
      exact ⟨w, a1, by omega, a3⟩
theorem max_of (f : Nat → Nat) (p : Nat) : ∀ d, 0 < d → ∃ u, p ≤ u ∧ u < p + d ∧ ∀ w, p ≤ w → w < p + d → f w ≤ f u
  | 0, h => absurd h (by omega)
  | 1, _ => ⟨p, by omega, by omega, fun w h1 h2 => by rw [show w = p by omega]; exact Nat.le_refl _⟩
  | d + 2, _ => by
    obtain ⟨u, h1, h2, h3⟩ := max_of f p (d + 1) (by omega)
    by_cases h : f u ≤ f (p + d + 1)
    · exact ⟨p + d + 1, by omega, by omega, fun w hw1 hw2 => by
        by_cases e : w < p + (d + 1)
        · exact Nat.le_trans (h3 w hw1 e) h
        · rw [show w = p + d + 1 by omega]; exact Nat.le_refl _⟩
    · exact ⟨u, h1, by omega, fun w hw1 hw2 => by
        by_cases e : w < p + (d + 1)
        · exact h3 w hw1 e
        · rw [show w = p + d + 1 by omega]; omega⟩
/-- No basis comes twice. -/
theorem Runs.once (h : Runs m D ban T b r c N) (h0 : Bas m D (T 0) (b 0)) (hf : ∀ i, i < m → 0 ≤ T 0 i D) {p d : Nat} (hd : 0 < d) (hq : p + d ≤ N) (he : ∀ i, i < m → b p i = b (p + d) i) : False := by
  have hB := h.bas h0
  have hF := h.feas hf
  -- the goal's right side does not change from p to p + d
  have hpq : T p m D = T (p + d) m D := by
    have e := h.eqv (x := p) d hq
    exact (Eqv.rhs e (hB p (by omega)) ((hB (p + d) hq).congr (fun _ _ _ _ => rfl) he)).2
  have hg : ∀ w, p ≤ w → w < p + d → T (w + 1) m D = T w m D := fun w h1 h2 => by
    have a1 := h.goal hf (x := p) (w - p) (by omega)
    have a2 := h.goal hf (x := w + 1) (p + d - (w + 1)) (by omega)
    have a3 := h.goal hf (x := w) 1 (by omega)
    rw [show p + (w - p) = w by omega] at a1
    rw [show w + 1 + (p + d - (w + 1)) = p + d by omega] at a2
    exact Rat.le_antisymm a3 (by rw [← hpq] at a2; exact Rat.le_trans a1 a2)
  have hz : ∀ w, p ≤ w → w < p + d → T w (r w) D = 0 := fun w h1 h2 => (h w (by omega)).still (hg w h1 h2)
  have hs : ∀ i, i < m → ∀ k, k ≤ d → T (p + k) i D = T p i D := fun i hi k => by
    induction k with
    | zero => intro _; rfl
    | succ k ih => intro hk; rw [← ih (by omega)]; exact (h (p + k) (by omega)).stay (hz _ (by omega) (by omega)) i hi
  have hs2 : ∀ i, i < m → ∀ w, p ≤ w → w ≤ p + d → T w i D = T p i D := fun i hi w h1 h2 => by
    have := hs i hi (w - p) (by omega)
    rwa [show p + (w - p) = w by omega] at this
  -- the greatest column that comes in
  obtain ⟨u, u1, u2, umax⟩ := max_of c p d hd
  have su := h u (by omega)
  have bu := hB u (by omega)
  -- it goes out at some step v
  obtain ⟨v, v1, v2, vt⟩ : ∃ v, p ≤ v ∧ v < p + d ∧ b v (r v) = c u := by
    have hru := su.rm
    have e1 : b (u + 1) (r u) = c u := by rw [su.pb _ hru, upd_same]
    by_cases h1 : b (p + d) (r u) = c u
    · have h2 : b p (r u) = c u := by rw [he _ hru]; exact h1
      obtain ⟨w, a1, a2, a3, a4⟩ := h.gave hru h2 (u - p) (by omega) (by rw [show p + (u - p) = u by omega]; exact su.new bu hru)
      exact ⟨w, a1, by omega, by rw [a3]; exact a4⟩
    · obtain ⟨w, a1, a2, a3, a4⟩ := h.gave hru e1 (p + d - (u + 1)) (by omega) (by rw [show u + 1 + (p + d - (u + 1)) = p + d by omega]; exact h1)
      exact ⟨w, by omega, by omega, by rw [a3]; exact a4⟩
  have sv := h v (by omega)
  have bvv := hB v (by omega)
  have hsl : c v < c u := by
    have h1 := umax v v1 v2
    have h2 := sv.new bvv sv.rm
    rw [vt] at h2
    omega
  -- the direction of the column that comes in at v, valued by the goal of u
  have hE : Eqv m D (T u) (T v) := by
    rcases Nat.le_total u v with h1 | h1
    · have := h.eqv (x := u) (v - u) (by omega)
      rwa [show u + (v - u) = v by omega] at this
    · have := (h.eqv (x := v) (u - v) (by omega)).symm
      rwa [show v + (u - v) = u by omega] at this
  have hd2 := dir_sol bvv sv.cD
  have hd1 := (hE.sol 0 _).2 hd2
  have hzv := hE.zv 0 _ hd1
  rw [dir_zv bvv sv.cD] at hzv
  unfold Zv at hzv
  rw [dir_sum sv.cD, bv_sum bvv.lt] at hzv
  have hcs := su.cf _ hsl sv.cb
  have hcp := sv.cp
  have hneg : sm m (fun i => T u m (b v i) * T v i (c v)) < 0 := by grind
  obtain ⟨i, hi, hti⟩ := sm_neg_ex hneg
  -- the row's column is not in the basis at u
  have hku : ∀ j, j < m → b u j ≠ b v i := fun j hj e => by
    have h1 := bu.zer j m hj (Nat.le_refl _) (by omega)
    rw [e] at h1
    rw [h1, Rat.zero_mul] at hti
    exact Rat.lt_irrefl hti
  -- so it comes in at some step, and its row has right side 0
  have hk : ∃ w, p ≤ w ∧ w < p + d ∧ r w = i ∧ c w = b v i := by
    by_cases h1 : u < v
    · obtain ⟨w, a1, a2, a3, a4⟩ := h.took hi (hku i hi) (v - u) (by omega) (by rw [show u + (v - u) = v by omega])
      exact ⟨w, by omega, by omega, a3, a4⟩
    · by_cases h2 : b (p + d) i = b v i
      · obtain ⟨w, a1, a2, a3, a4⟩ := h.took hi (hku i hi) (p + d - u) (by omega) (by rw [show u + (p + d - u) = p + d by omega]; exact h2)
        exact ⟨w, by omega, by omega, a3, a4⟩
      · obtain ⟨w, a1, a2, a3, a4⟩ := h.took hi (x := p) (by rw [he i hi]; exact h2) (v - p) (by omega) (by rw [show p + (v - p) = v by omega])
        exact ⟨w, by omega, by omega, a3, a4⟩
  obtain ⟨w, w1, w2, w3, w4⟩ := hk
  have hr0 : T v i D = 0 := by
    have h1 := hz w w1 w2
    rw [w3, hs2 i hi w w1 (by omega), ← hs2 i hi v v1 (by omega)] at h1
    exact h1
  have hle := umax w w1 w2
  rw [w4] at hle
  rcases Nat.lt_or_eq_of_le hle with hlt | heq
  · have h1 := su.cf _ hlt (by rw [← w4]; exact (h w (by omega)).cb)
    have h2 : 0 < T v i (c v) := by
      rcases Rat.lt_iff_le_and_ne.1 hti with ⟨h3, h4⟩
      by_cases h5 : 0 < T v i (c v)
      · exact h5
      · have h6 := Rat.mul_nonneg (show 0 ≤ - T u m (b v i) by grind) (show 0 ≤ - T v i (c v) by grind)
        grind
    have h3 := sv.rt i hi h2 (by rw [hz v v1 v2, hr0]; grind)
    rw [vt] at h3
    omega
  · have h1 : i = r v := bvv.inj hi sv.rm (by rw [vt]; exact heq)
    subst h1
    rw [heq] at hti
    have h2 := Rat.mul_pos su.cp sv.rp
    grind
end
/-- Among more numbers than there are below M, two are alike. -/
theorem alike : ∀ (M : Nat) (f : Nat → Nat) (N : Nat), (∀ x, x ≤ N → f x < M) → M ≤ N → ∃ x y, x < y ∧ y ≤ N ∧ f x = f y
  | 0, f, N, h, _ => absurd (h 0 (by omega)) (by omega)
  | M + 1, f, N, h, hN => by
    by_cases h1 : ∃ x y, x < y ∧ y ≤ N ∧ f x = f y
    · exact h1
    · exfalso
      -- take out the number that has the last value
      obtain ⟨N', rfl⟩ : ∃ N', N = N' + 1 := ⟨N - 1, by omega⟩
      have hne : ∀ x, x < N' + 1 → f x ≠ f (N' + 1) := fun x hx e => h1 ⟨x, _, hx, Nat.le_refl _, e⟩
      have hg : ∀ x, x ≤ N' → (if f x = M then f (N' + 1) else f x) < M := fun x hx => by
        have a := h x (by omega)
        have a2 := h (N' + 1) (Nat.le_refl _)
        have a3 := hne x (by omega)
        split <;> omega
      obtain ⟨x, y, hxy, hy, e⟩ := alike M (fun x => if f x = M then f (N' + 1) else f x) N' hg (by omega)
      have h2 : f x ≠ f y := fun e2 => h1 ⟨x, y, hxy, by omega, e2⟩
      have h3 := hne x (by omega)
      have h4 := hne y (by omega)
      split at e <;> split at e <;> omega
/-- The number of a basis. -/
def codeB (D : Nat) (b : Nat → Nat) : Nat → Nat
  | 0 => 0
  | m + 1 => codeB D b m * D + b m
theorem codeB_lt {D : Nat} {b : Nat → Nat} : ∀ {m : Nat}, (∀ i, i < m → b i < D) → codeB D b m < D ^ m
  | 0, _ => by simp [codeB]
  | m + 1, h => by
    have h1 := codeB_lt (m := m) fun i hi => h i (by omega)
    have h2 := h m (by omega)
    rw [codeB, Nat.pow_succ]
    have h3 : (codeB D b m + 1) * D ≤ D ^ m * D := Nat.mul_le_mul_right _ h1
    rw [Nat.add_mul] at h3
    omega
theorem codeB_inj {D : Nat} {b b' : Nat → Nat} : ∀ {m : Nat}, (∀ i, i < m → b i < D) → (∀ i, i < m → b' i < D) → codeB D b m = codeB D b' m → ∀ i, i < m → b i = b' i
  | 0, _, _, _, i, hi => absurd hi (by omega)
  | m + 1, h, h', e, i, hi => by
    rw [codeB, codeB] at e
    have h1 := h m (by omega)
    have h2 := h' m (by omega)
    have e1 : b m = b' m := by
      have := congrArg (· % D) e
      simp only [Nat.mul_comm _ D, Nat.mul_add_mod, Nat.mod_eq_of_lt h1, Nat.mod_eq_of_lt h2] at this
      exact this
    have e2 : codeB D b m = codeB D b' m := by
      rw [e1] at e
      exact Nat.eq_of_mul_eq_mul_right (by omega) (Nat.add_right_cancel e)
    by_cases hm : i = m
    · subst hm; exact e1
    · exact codeB_inj (fun j hj => h j (by omega)) (fun j hj => h' j (by omega)) e2 i (by omega)
/-- A climb ends. -/
theorem bland {m D : Nat} {ban : Option Nat} {T : Nat → Mx} {b : Nat → Nat → Nat} {r c : Nat → Nat} {N : Nat} (h : Runs m D ban T b r c N) (h0 : Bas m D (T 0) (b 0)) (hf : ∀ i, i < m → 0 ≤ T 0 i D) : N < D ^ m := by
  rcases Nat.lt_or_ge N (D ^ m) with h1 | h1
  · exact h1
  · exfalso
    have hB := h.bas h0
    obtain ⟨x, y, hxy, hy, e⟩ := alike (D ^ m) (fun x => codeB D (b x) m) N (fun x hx => codeB_lt (hB x hx).lt) h1
    have e2 := codeB_inj (hB x (by omega)).lt (hB y hy).lt e
    exact h.once h0 hf (p := x) (d := y - x) (by omega) (by omega) (fun i hi => by rw [show x + (y - x) = y by omega]; exact e2 i hi)
end Sx
end Go.Proofs.YtijpgddpejiohaaGreatDoor
end
