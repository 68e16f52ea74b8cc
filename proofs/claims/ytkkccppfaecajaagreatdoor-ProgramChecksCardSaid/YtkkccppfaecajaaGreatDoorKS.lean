/-
  Chapter 5's laws: the examples ('awake').
  Chapter 5's laws: ProgramChecks.
  Chapter 5's laws: ProgramProves.
-/
import Derived.Test.YtkkccppfaecajaaGreatDoorKR
section
namespace Go.Proofs.YtkkccppfaecajaaGreatDoor
open Go Go.RowKit Go.Deep Go.Sort
namespace M
theorem t0 : R 0 = [48] := by decide +kernel
theorem t1 : R 1 = [49] := by decide +kernel
theorem t2 : R 2 = [50] := by decide +kernel
theorem t3 : R 3 = [51] := by decide +kernel
theorem t4 : R 4 = [52] := by decide +kernel
theorem t12 : R 12 = [49, 50] := by decide +kernel
theorem tm1 : R (-1) = [45, 49] := by decide +kernel
theorem tm2 : R (-2) = [45, 50] := by decide +kernel
instance (k : Nat) (q : Rat) : Decidable (Bq k q) := by unfold Bq; exact inferInstance
/-- The examples' bounds. -/
def cornQ : List BQ := [([1, 1], 4), ([-1, 0], 0), ([0, -1], 0)]
def cornT : List BT := [([[49], [49]], [52]), ([[45, 49], [48]], [48]), ([[48], [45, 49]], [48])]
def apaQ : List BQ := [([1], 1), ([-1], -2)]
def apaT : List BT := [([[49]], [49]), ([[45, 49]], [45, 50])]
def lowQ : List BQ := [([-1], 0)]
def lowT : List BT := [([[45, 49]], [48])]
theorem corn_t : bx cornQ = cornT := by simp only [bx, cornQ, rx, cornT, List.map_cons, List.map_nil, t0, t1, t4, tm1]
theorem apa_t : bx apaQ = apaT := by simp only [bx, apaQ, rx, apaT, List.map_cons, List.map_nil, t1, tm1, tm2]
theorem low_t : bx lowQ = lowT := by simp only [bx, lowQ, rx, lowT, List.map_cons, List.map_nil, t0, tm1]
theorem corn_r : RightB 2 cornQ := by unfold RightB cornQ; decide +kernel
theorem apa_r : RightB 1 apaQ := by unfold RightB apaQ; decide +kernel
theorem low_r : RightB 1 lowQ := by unfold RightB lowQ; decide +kernel
theorem corn_w : Wire cornT := ⟨by decide +kernel, fun _ => by decide +kernel⟩
theorem apa_w : Wire apaT := ⟨by decide +kernel, fun _ => by decide +kernel⟩
theorem corn_0 : chk5 2 cornT = 0 := by rw [← corn_t]; exact chk5_ok (n := 2) (by decide) (by decide) (by decide) corn_r
theorem apa_0 : chk5 1 apaT = 0 := by rw [← apa_t]; exact chk5_ok (n := 1) (by decide) (by decide) (by decide) apa_r
theorem kp1 : (cornQ.all fun b => keepsB b [0, 0]) = true := by decide +kernel
theorem rf1 : rfV apaQ [1, 1] 1 = 0 := by unfold rfV; rw [if_pos]; decide +kernel
theorem vm1 : vmV cornQ 2 [2, 3] 12 [0, 4] [3, 1, 0] = 0 := by unfold vmV; rw [if_pos]; decide +kernel
end M
theorem rdt_row {W : World} {g cap : Nat} {l : List (List UInt8)} (hr : Row W g 34 (Strs l)) : RdT W (.slice (some ⟨g, 0, none⟩) l.length cap) l :=
  ⟨_, _, rfl, Or.inr ⟨g, 0, rfl, hr.lt, fun i hi => by rw [Nat.zero_add]; exact hr.cell (by simp [Strs, hi])⟩⟩
theorem rdb3 {W : World} {g cap : Nat} {u0 u1 u2 : Value} {b0 b1 b2 : M.BT} (hr : Row W g 42 [u0, .string (bs b0.2), u1, .string (bs b1.2), u2, .string (bs b2.2)])
    (h0 : RdT W u0 b0.1) (h1 : RdT W u1 b1.1) (h2 : RdT W u2 b2.1) (s0 : Shp u0) (s1 : Shp u1) (s2 : Shp u2) : RdB W (.slice (some ⟨g, 0, none⟩) 3 cap) [b0, b1, b2] :=
  ⟨_, _, rfl, Or.inr ⟨g, 0, rfl, hr.lt, fun i hi => match i, hi with
    | 0, _ => ⟨u0, hr.cell (i := 0) rfl, h0, s0⟩
    | 1, _ => ⟨u1, hr.cell (i := 2) rfl, h1, s1⟩
    | 2, _ => ⟨u2, hr.cell (i := 4) rfl, h2, s2⟩, fun i hi => match i, hi with
    | 0, _ => hr.cell (i := 1) rfl
    | 1, _ => hr.cell (i := 3) rfl
    | 2, _ => hr.cell (i := 5) rfl⟩⟩
theorem rdb2 {W : World} {g cap : Nat} {u0 u1 : Value} {b0 b1 : M.BT} (hr : Row W g 42 [u0, .string (bs b0.2), u1, .string (bs b1.2)])
    (h0 : RdT W u0 b0.1) (h1 : RdT W u1 b1.1) (s0 : Shp u0) (s1 : Shp u1) : RdB W (.slice (some ⟨g, 0, none⟩) 2 cap) [b0, b1] :=
  ⟨_, _, rfl, Or.inr ⟨g, 0, rfl, hr.lt, fun i hi => match i, hi with
    | 0, _ => ⟨u0, hr.cell (i := 0) rfl, h0, s0⟩
    | 1, _ => ⟨u1, hr.cell (i := 2) rfl, h1, s1⟩, fun i hi => match i, hi with
    | 0, _ => hr.cell (i := 1) rfl
    | 1, _ => hr.cell (i := 3) rfl⟩⟩
theorem rdb1 {W : World} {g cap : Nat} {u0 : Value} {b0 : M.BT} (hr : Row W g 42 [u0, .string (bs b0.2)])
    (h0 : RdT W u0 b0.1) (s0 : Shp u0) : RdB W (.slice (some ⟨g, 0, none⟩) 1 cap) [b0] :=
  ⟨_, _, rfl, Or.inr ⟨g, 0, rfl, hr.lt, fun i hi => match i, hi with
    | 0, _ => ⟨u0, hr.cell (i := 0) rfl, h0, s0⟩, fun i hi => match i, hi with
    | 0, _ => hr.cell (i := 1) rfl⟩⟩
namespace W
open M
attribute [local go_sem] bs_size bs_toList bs_get bs_extract bs_append bs_lit0 bs_lit1 lit1_bs
set_option maxHeartbeats 1000000
set_option maxRecDepth 20000
/-- A list of bounds is returned. -/
def BndP (l : List BT) (w : World) (e : Ending) (w' : World) : Prop := ∃ A cap, e = .returned (.slice A l.length cap) ∧ RdB w' (.slice A l.length cap) l ∧ Below w.heap.size w w'
theorem bel_alloc {W W' : World} (h : Below W.heap.size W W') (o : Obj) : Below W.heap.size W (W'.alloc o) := h.alloc h.size o
theorem pcorner (w : World) : Calls Tryz.prog 16 #[] w (BndP cornT w) := by
  go_enter Tryz.func16, Tryz.ntmps16
  go_wp2
  refine bodyPost_ret (v := .slice (some ⟨w.heap.size + 1 + 1 + 1, 0, none⟩) 3 3) (by simp [results, Tryz.results16]) rfl ⟨_, _, rfl, ?_, bel_alloc (bel_alloc (bel_alloc (bel_alloc (Below.refl _ _) _) _) _) _⟩
  have s1 := fun (W : World) o => World.size_alloc W o
  have r0 := rdt_row (cap := 2) (l := [[49], [49]]) ((((rnw (w := w) (t := 34) (xs := [.string (bs [49]), .string (bs [49])])).alloc (.cells #[.string (bs [45, 49]), .string (bs [48])] 34)).alloc (.cells #[.string (bs [48]), .string (bs [45, 49])] 34)).alloc
    (.cells #[.slice (some ⟨w.heap.size, 0, none⟩) 2 2, .string (bs [52]), .slice (some ⟨w.heap.size + 1, 0, none⟩) 2 2, .string (bs [48]), .slice (some ⟨w.heap.size + 1 + 1, 0, none⟩) 2 2, .string (bs [48])] 42))
  have r1 := rdt_row (cap := 2) (l := [[45, 49], [48]]) (((rnew0 (w := w.alloc (.cells #[.string (bs [49]), .string (bs [49])] 34)) (b := w.heap.size + 1) (t := 34) (xs := [.string (bs [45, 49]), .string (bs [48])]) (s1 _ _).symm).alloc (.cells #[.string (bs [48]), .string (bs [45, 49])] 34)).alloc
    (.cells #[.slice (some ⟨w.heap.size, 0, none⟩) 2 2, .string (bs [52]), .slice (some ⟨w.heap.size + 1, 0, none⟩) 2 2, .string (bs [48]), .slice (some ⟨w.heap.size + 1 + 1, 0, none⟩) 2 2, .string (bs [48])] 42))
  have r2 := rdt_row (cap := 2) (l := [[48], [45, 49]]) ((rnew0 (w := (w.alloc (.cells #[.string (bs [49]), .string (bs [49])] 34)).alloc (.cells #[.string (bs [45, 49]), .string (bs [48])] 34)) (b := w.heap.size + 1 + 1) (t := 34) (xs := [.string (bs [48]), .string (bs [45, 49])]) (by rw [s1, s1])).alloc
    (.cells #[.slice (some ⟨w.heap.size, 0, none⟩) 2 2, .string (bs [52]), .slice (some ⟨w.heap.size + 1, 0, none⟩) 2 2, .string (bs [48]), .slice (some ⟨w.heap.size + 1 + 1, 0, none⟩) 2 2, .string (bs [48])] 42))
  have r3 := rnew0 (w := ((w.alloc (.cells #[.string (bs [49]), .string (bs [49])] 34)).alloc (.cells #[.string (bs [45, 49]), .string (bs [48])] 34)).alloc (.cells #[.string (bs [48]), .string (bs [45, 49])] 34)) (b := w.heap.size + 1 + 1 + 1) (t := 42)
    (xs := [.slice (some ⟨w.heap.size, 0, none⟩) 2 2, .string (bs [52]), .slice (some ⟨w.heap.size + 1, 0, none⟩) 2 2, .string (bs [48]), .slice (some ⟨w.heap.size + 1 + 1, 0, none⟩) 2 2, .string (bs [48])]) (by rw [s1, s1, s1])
  exact rdb3 (b0 := ([[49], [49]], [52])) (b1 := ([[45, 49], [48]], [48])) (b2 := ([[48], [45, 49]], [48])) r3 r0 r1 r2 (Or.inr ⟨_, _, _, rfl⟩) (Or.inr ⟨_, _, _, rfl⟩) (Or.inr ⟨_, _, _, rfl⟩)
/-- What the examples' calls return. -/
def Opt5 (t : List UInt8) (p q : List (List UInt8)) (w : World) (e : Ending) (w' : World) : Prop :=
  ∃ v1 v2, e = .returned (.tuple #[.string (bs t), v1, v2, .int .i64 0]) ∧ RdT w' v1 p ∧ RdT w' v2 q ∧ Below w.heap.size w w'
theorem pmost1 (vl vg : Value) (W : World) (hg : Glob W) (hl : RdB W vl cornT) (hgo : RdT W vg [[50], [51]]) : Calls Tryz.prog 17 #[.int .i64 2, vl, vg] W (Opt5 [49, 50] [[48], [52]] [[51], [49], [48]] W) := by
  refine (pmost 20 10 2 (by decide) (by decide) (by decide) cornQ [2, 3] _ fx1 vl vg W hg (by rw [corn_t]; exact hl) (by simp only [rx, List.map_cons, List.map_nil, t2, t3]; exact hgo) (by decide) (by decide) corn_r (by decide) (by decide) rfl (by decide +kernel)).mono ?_
  rintro e w' ⟨v1, v2, rfl, h1, h2, hb⟩
  refine ⟨v1, v2, by rw [t12], ?_, ?_, hb⟩
  · have h := h1.rd
    simpa only [rx, List.map_cons, List.map_nil, t0, t4] using h
  · have h := h2.rd
    simpa only [rx, List.map_cons, List.map_nil, t0, t1, t3] using h
theorem pmost3 (vl vg : Value) (W : World) (hg : Glob W) (hl : RdB W vl lowT) (hgo : RdT W vg [[49]]) : Calls Tryz.prog 17 #[.int .i64 1, vl, vg] W (fun e w' => e = .returned (.tuple #[.string (bs []), .slice none 0 0, .slice none 0 0, .int .i64 14]) ∧ Below W.heap.size W w') := by
  refine (pmost 20 10 1 (by decide) (by decide) (by decide) lowQ [1] _ fx3 vl vg W hg (by rw [low_t]; exact hl) (by simp only [rx, List.map_cons, List.map_nil, t1]; exact hgo) (by decide) (by decide) low_r (by decide) (by decide) rfl (by decide +kernel)).mono ?_
  rintro e w' ⟨rfl, hb⟩
  exact ⟨rfl, hb⟩
theorem pfeas2 (vl : Value) (W : World) (hg : Glob W) (hl : RdB W vl apaT) : Calls Tryz.prog 18 #[.int .i64 1, vl] W (fun e w' => ∃ A n c, e = .returned (.tuple #[.slice none 0 0, .slice A n c, .bool false, .int .i64 0]) ∧ Below W.heap.size W w') := by
  refine (pfeas 20 10 1 (by decide) (by decide) apaQ _ fx2 vl W hg (by rw [apa_t]; exact hl) (by decide) (by decide) apa_r (by decide) (by decide)).mono ?_
  rintro e w' ⟨v2, rfl, h, hb⟩
  obtain ⟨A, c, rfl⟩ := h.rd.len
  exact ⟨A, _, c, rfl, hb⟩
theorem pvm1 (vl vg vp vq : Value) (W : World) (hg : Glob W) (hl : RdB W vl cornT) (h1 : RdT W vg [[50], [51]]) (h2 : RdT W vp [[48], [52]]) (h3 : RdT W vq [[51], [49], [48]]) :
    Calls Tryz.prog 14 #[.int .i64 2, vl, .agg #[vg, .string (bs [49, 50]), vp, vq]] W (Ret W (.int .i64 0)) := by
  have h := pvm_ok 2 vl vg vp vq cornQ [2, 3] [0, 4] [3, 1, 0] 12 W hg (by rw [corn_t]; exact hl) (by rw [corn_t]; exact corn_w) (by rw [corn_t]; exact corn_0) (by simp only [rx, List.map_cons, List.map_nil, t2, t3]; exact h1) (by simp only [rx, List.map_cons, List.map_nil, t0, t4]; exact h2)
    (by simp only [rx, List.map_cons, List.map_nil, t0, t1, t3]; exact h3) (by decide) (by decide) corn_r rfl rfl rfl (by decide +kernel) (by decide +kernel) (by decide +kernel) (by decide +kernel) (by decide)
  rw [vm1, t12] at h
  exact h
theorem prefute1 (vl vp : Value) (W : World) (hg : Glob W) (hl : RdB W vl apaT) (h1 : RdT W vp [[49], [49]]) : Calls Tryz.prog 12 #[.int .i64 1, vl, vp] W (Ret W (.int .i64 0)) := by
  have h := prefute_ok 1 vl vp apaQ [1, 1] W hg (by rw [apa_t]; exact hl) (by rw [apa_t]; exact apa_w) (by rw [apa_t]; exact apa_0) (by simp only [rx, List.map_cons, List.map_nil, t1]; exact h1) (by decide) (by decide) apa_r rfl (by decide +kernel) (by decide)
  rw [rf1] at h
  exact h
theorem pverify1 (vl vp : Value) (W : World) (hg : Glob W) (hl : RdB W vl cornT) (h1 : RdT W vp [[48], [48]]) : Calls Tryz.prog 10 #[.int .i64 2, vl, vp] W (Ret W (.int .i64 0)) := by
  have h := pverify_ok 2 vl vp cornQ [0, 0] W hg (by rw [corn_t]; exact hl) (by rw [corn_t]; exact corn_w) (by rw [corn_t]; exact corn_0) (by simp only [rx, List.map_cons, List.map_nil, t0]; exact h1) (by decide) corn_r rfl (by decide +kernel) (chk_rx30 (by decide +kernel)) (by decide)
  rw [if_pos kp1] at h
  exact h
theorem pequal1 (va vb : Value) (l : List (List UInt8)) (a : List Rat) (e : rx a = l) (W : World) (ha : RdT W va l) (hb : RdT W vb l) (hn : a.length ≤ 1000) : Calls Tryz.prog 19 #[va, vb] W (Ret W (.bool true)) := by
  subst e
  have h := pequal va vb a a W ha hb hn
  rwa [decide_eq_true rfl] at h
def awA (w : World) (gg : Nat) : World := ((w.alloc (.cells #[.string (bs [48]), .string (bs [52])] 34)).alloc (.cells #[.string (bs [51]), .string (bs [49]), .string (bs [48])] 34)).alloc
  (.cells #[.slice (some ⟨gg, 0, none⟩) 2 2, .string (bs [49, 50]), .slice (some ⟨w.heap.size, 0, none⟩) 2 2, .slice (some ⟨w.heap.size + 1, 0, none⟩) 3 3] 36)
theorem awA_size (w : World) (gg : Nat) : (awA w gg).heap.size = w.heap.size + 1 + 1 + 1 := by unfold awA; rw [World.size_alloc, World.size_alloc, World.size_alloc]
theorem awA_facts (w : World) (gg : Nat) : Below w.heap.size w (awA w gg) ∧ RdT (awA w gg) (.slice (some ⟨w.heap.size, 0, none⟩) 2 2) [[48], [52]] ∧ RdT (awA w gg) (.slice (some ⟨w.heap.size + 1, 0, none⟩) 3 3) [[51], [49], [48]] ∧
    Row (awA w gg) (w.heap.size + 1 + 1) 36 [.slice (some ⟨gg, 0, none⟩) 2 2, .string (bs [49, 50]), .slice (some ⟨w.heap.size, 0, none⟩) 2 2, .slice (some ⟨w.heap.size + 1, 0, none⟩) 3 3] :=
  ⟨bel_alloc (bel_alloc (bel_alloc (Below.refl _ _) _) _) _, rdt_row (l := [[48], [52]]) ((rnw.alloc _).alloc _), rdt_row (l := [[51], [49], [48]]) ((rnew0 (World.size_alloc _ _).symm).alloc _), rnew0 (by rw [World.size_alloc, World.size_alloc])⟩
def awB (w : World) (n : Nat) : World := ((w.alloc (.cells #[.string (bs [49])] 34)).alloc (.cells #[.string (bs [45, 49])] 34)).alloc
  (.cells #[.slice (some ⟨n, 0, none⟩) 1 1, .string (bs [49]), .slice (some ⟨n + 1, 0, none⟩) 1 1, .string (bs [45, 50])] 42)
theorem awB_facts (w : World) (n : Nat) (hn : n = w.heap.size) : Below w.heap.size w (awB w n) ∧ RdB (awB w n) (.slice (some ⟨n + 1 + 1, 0, none⟩) 2 2) apaT := by
  subst hn
  exact ⟨bel_alloc (bel_alloc (bel_alloc (Below.refl _ _) _) _) _, rdb2 (b0 := ([[49]], [49])) (b1 := ([[45, 49]], [45, 50])) (rnew0 (by rw [World.size_alloc, World.size_alloc]))
    (rdt_row (l := [[49]]) ((rnw.alloc _).alloc _)) (rdt_row (l := [[45, 49]]) ((rnew0 (World.size_alloc _ _).symm).alloc _)) (Or.inr ⟨_, _, _, rfl⟩) (Or.inr ⟨_, _, _, rfl⟩)⟩
def awC (w : World) : World := ((w.alloc (.cells #[.string (bs [45, 49])] 34)).alloc (.cells #[.slice (some ⟨w.heap.size, 0, none⟩) 1 1, .string (bs [48])] 42)).alloc (.cells #[.string (bs [49])] 34)
theorem awC_facts (w : World) : Below w.heap.size w (awC w) ∧ RdB (awC w) (.slice (some ⟨w.heap.size + 1, 0, none⟩) 1 1) lowT ∧ RdT (awC w) (.slice (some ⟨w.heap.size + 1 + 1, 0, none⟩) 1 1) [[49]] :=
  ⟨bel_alloc (bel_alloc (bel_alloc (Below.refl _ _) _) _) _, rdb1 (b0 := ([[45, 49]], [48])) ((rnew0 (World.size_alloc _ _).symm).alloc _) (rdt_row (l := [[45, 49]]) ((rnw.alloc _).alloc _)) (Or.inr ⟨_, _, _, rfl⟩),
    rdt_row (l := [[49]]) (rnew0 (by rw [World.size_alloc, World.size_alloc]))⟩
/-- What is known of the world in the examples. -/
structure AwS (w W : World) (Al A1 A2 : Option Addr) (cl c1 c2 gg b : Nat) : Prop where
  bel : Below w.heap.size w W
  corn : RdB W (.slice Al 3 cl) cornT
  goal : RdT W (.slice (some ⟨gg, 0, none⟩) 2 2) [[50], [51]]
  p1 : RdT W (.slice A1 2 c1) [[48], [52]]
  p2 : RdT W (.slice A2 3 c2) [[51], [49], [48]]
  q1 : RdT W (.slice (some ⟨b, 0, none⟩) 2 2) [[48], [52]]
  q2 : RdT W (.slice (some ⟨b + 1, 0, none⟩) 3 3) [[51], [49], [48]]
  row : Row W (b + 1 + 1) 36 [.slice (some ⟨gg, 0, none⟩) 2 2, .string (bs [49, 50]), .slice (some ⟨b, 0, none⟩) 2 2, .slice (some ⟨b + 1, 0, none⟩) 3 3]
  apa : RdB W (.slice (some ⟨b + 1 + 1 + 1 + 1 + 1, 0, none⟩) 2 2) apaT
theorem AwS.to {w W W2 : World} {Al A1 A2 : Option Addr} {cl c1 c2 gg b : Nat} (h : AwS w W Al A1 A2 cl c1 c2 gg b) (hb : Below W.heap.size W W2) : AwS w W2 Al A1 A2 cl c1 c2 gg b :=
  ⟨bel_to h.bel hb, h.corn.below hb, h.goal.below hb, h.p1.below hb, h.p2.below hb, h.q1.below hb, h.q2.below hb, h.row.below' hb, h.apa.below hb⟩
theorem AwS.mk2 {w w2 : World} {Al A1 A2 : Option Addr} {cl c1 c2 gg : Nat} (hb : Below w.heap.size w w2) (h1 : RdB w2 (.slice Al 3 cl) cornT) (h2 : RdT w2 (.slice (some ⟨gg, 0, none⟩) 2 2) [[50], [51]]) (h3 : RdT w2 (.slice A1 2 c1) [[48], [52]]) (h4 : RdT w2 (.slice A2 3 c2) [[51], [49], [48]]) :
    AwS w (awB (awA w2 gg) (w2.heap.size + 1 + 1 + 1)) Al A1 A2 cl c1 c2 gg w2.heap.size := by
  obtain ⟨a1, a2, a3, a4⟩ := awA_facts w2 gg
  obtain ⟨b1, b2⟩ := awB_facts (awA w2 gg) (w2.heap.size + 1 + 1 + 1) (awA_size w2 gg).symm
  have ab := bel_to a1 b1
  exact ⟨bel_to hb ab, h1.below ab, h2.below ab, h3.below ab, h4.below ab, a2.below b1, a3.below b1, a4.below' b1, b2⟩
theorem awake5 (w : World) (hg : Glob w) : Calls Tryz.prog 7 #[] w (Ret w (.bool true)) := by
  have HCO := Lib.hid (fun W => pcorner W)
  have HG := Lib.hid hg
  clear hg
  go_enter Tryz.func7, Tryz.ntmps7
  go_wp2_with fail
  refine (HCO.out w).mono ?_
  rintro e w1 ⟨Al, cl, rfl, hrd, hb1⟩
  have HL := Lib.hid (And.intro hrd hb1)
  have HM1 := Lib.hid (pmost1 (.slice Al 3 cl) (.slice (some ⟨w1.heap.size, 0, none⟩) 2 2) (w1.alloc (.cells #[.string (bs [50]), .string (bs [51])] 34)) (HG.out.of (bel_alloc hb1 _)) (hrd.below (bel_alloc (Below.refl _ _) _)) (rdt_row (l := [[50], [51]]) rnw))
  rw [show cornT.length = 3 from rfl] at HL ⊢
  clear hrd hb1 HCO
  go_wp2_with fail
  refine HM1.out.mono ?_
  rintro e w2 ⟨v1, v2, rfl, h1, h2, hb2⟩
  obtain ⟨A1, c1, rfl⟩ := h1.len
  obtain ⟨A2, c2, rfl⟩ := h2.len
  have HL2 : Hid (Below w.heap.size w w2 ∧ RdB w2 (.slice Al 3 cl) cornT ∧ RdT w2 (.slice (some ⟨w1.heap.size, 0, none⟩) 2 2) [[50], [51]]) := Lib.hid ⟨bel_to (bel_alloc HL.out.2 _) hb2, (HL.out.1.below (bel_alloc (Below.refl _ _) _)).below hb2, (rdt_row (l := [[50], [51]]) rnw).below hb2⟩
  have HS2 := Lib.hid (AwS.mk2 HL2.out.1 HL2.out.2.1 HL2.out.2.2 h1 h2)
  clear h1 h2 hb2 HL HM1 HL2
  generalize w1.heap.size = gg at *
  go_wp2_with fail
  refine (pfeas2 _ (awB (awA w2 gg) (w2.heap.size + 1 + 1 + 1)) (HG.out.of HS2.out.bel) HS2.out.apa).mono ?_
  rintro e w3 ⟨A3, n3, c3, rfl, hb3⟩
  have HS3 := Lib.hid (HS2.out.to hb3)
  clear hb3 HS2
  generalize w2.heap.size = gb at *
  go_wp2_with fail
  refine (pmost3 _ _ (awC w3) (HG.out.of (bel_to HS3.out.bel (awC_facts w3).1)) (awC_facts w3).2.1 (awC_facts w3).2.2).mono ?_
  rintro e w4 ⟨rfl, hb4⟩
  have HS4 := Lib.hid (HS3.out.to (bel_to (awC_facts w3).1 hb4))
  clear hb4 HS3
  have x0 := HS4.out.row.cell (i := 0) rfl
  have x1 := HS4.out.row.cell (i := 1) rfl
  have x2 := HS4.out.row.cell (i := 2) rfl
  have x3 := HS4.out.row.cell (i := 3) rfl
  go_wp2_with fail
  refine (pequal1 _ _ _ [0, 4] (by simp only [rx, List.map_cons, List.map_nil, t0, t4]) w4 HS4.out.p1 HS4.out.q1 (by decide)).mono ?_
  rintro e w5 ⟨rfl, hb5⟩
  have HS5 := Lib.hid (HS4.out.to hb5)
  clear hb5 HS4 x0 x1 x2 x3
  have x0 := HS5.out.row.cell (i := 0) rfl
  have x1 := HS5.out.row.cell (i := 1) rfl
  have x2 := HS5.out.row.cell (i := 2) rfl
  have x3 := HS5.out.row.cell (i := 3) rfl
  go_wp2_with fail
  refine (pequal1 _ _ _ [3, 1, 0] (by simp only [rx, List.map_cons, List.map_nil, t0, t1, t3]) w5 HS5.out.p2 HS5.out.q2 (by decide)).mono ?_
  rintro e w6 ⟨rfl, hb6⟩
  have HS6 := Lib.hid (HS5.out.to hb6)
  clear hb6 HS5 x0 x1 x2 x3
  have x0 := HS6.out.row.cell (i := 0) rfl
  have x1 := HS6.out.row.cell (i := 1) rfl
  have x2 := HS6.out.row.cell (i := 2) rfl
  have x3 := HS6.out.row.cell (i := 3) rfl
  go_wp2_with fail
  refine (pvm1 _ _ _ _ w6 (HG.out.of HS6.out.bel) HS6.out.corn HS6.out.goal HS6.out.q1 HS6.out.q2).mono ?_
  rintro e w7 ⟨rfl, hb7⟩
  have HS7 := Lib.hid (HS6.out.to hb7)
  clear hb7 HS6 x0 x1 x2 x3
  have HB7 := Lib.hid (bel_alloc (Below.refl w7.heap.size w7) (.cells #[.string (bs [49]), .string (bs [49])] 34))
  go_wp2_with fail
  refine (prefute1 _ _ (w7.alloc (.cells #[.string (bs [49]), .string (bs [49])] 34)) (HG.out.of (bel_to HS7.out.bel HB7.out)) (HS7.out.apa.below HB7.out) (rdt_row (l := [[49], [49]]) rnw)).mono ?_
  rintro e w8 ⟨rfl, hb8⟩
  have HS8 := Lib.hid (HS7.out.to (bel_to HB7.out hb8))
  clear hb8 HS7 HB7
  have HB8 := Lib.hid (bel_alloc (Below.refl w8.heap.size w8) (.cells #[.string (bs [48]), .string (bs [48])] 34))
  go_wp2_with fail
  refine (pverify1 _ _ (w8.alloc (.cells #[.string (bs [48]), .string (bs [48])] 34)) (HG.out.of (bel_to HS8.out.bel HB8.out)) (HS8.out.corn.below HB8.out) (rdt_row (l := [[48], [48]]) rnw)).mono ?_
  rintro e w9 ⟨rfl, hb9⟩
  have hb9' := bel_to HS8.out.bel (bel_to HB8.out hb9)
  clear HS8 HB8 hb9
  go_wp2
  go_ret
  exact Ret.of rfl hb9'
end W
end Go.Proofs.YtkkccppfaecajaaGreatDoor
end
section
namespace Go.Proofs.YtkkccppfaecajaaGreatDoor
open Go Go.RowKit Go.Deep Go.Sort
namespace W
open M
attribute [local go_sem] bs_size bs_toList bs_get bs_extract bs_append bs_lit0 bs_lit1 lit1_bs
set_option maxHeartbeats 1000000
set_option maxRecDepth 20000
theorem checks_law (n : Int) (vl v0 v1 : Value) (l : List BT) (p0 p1 : List (List UInt8)) (w : World) (hg : Glob w) (hl : RdB w vl l) (h0 : RdT w v0 p0) (h1 : RdT w v1 p1)
    (nl : l.length ≤ maxLen) (sl : ∀ b ∈ l, b.1.length ≤ maxLen ∧ (∀ p ∈ b.1, p.length ≤ maxLen) ∧ b.2.length ≤ maxLen) (n0 : p0.length ≤ maxLen) (s0 : ∀ p ∈ p0, p.length ≤ maxLen) (n1 : p1.length ≤ maxLen) (s1 : ∀ p ∈ p1, p.length ≤ maxLen) :
    Calls Tryz.prog 3 #[.int .i64 n, vl, .agg #[v0, v1]] w (Ret w (.bool true)) := by
  have hrow := Row.new w 24 [v0, v1]
  have hal := (Below.refl w.heap.size w).alloc (Nat.le_refl _) (.cells #[v0, v1] 24)
  have HR := Lib.hid (And.intro hrow hal)
  have HG := Lib.hid hg
  have HAW := Lib.hid (fun W hW => awake5 W hW)
  have HFW := Lib.hid (fun W (hW : Below w.heap.size w W) => rfew n vl l W (hl.below hW) nl sl)
  have HS0 := Lib.hid (fun W (hW : Below w.heap.size w W) => rshort5 v0 p0 W (h0.below hW) s0 n0)
  have HS1 := Lib.hid (fun W (hW : Below w.heap.size w W) => rshort5 v1 p1 W (h1.below hW) s1 n1)
  by_cases hf : few5 n l = true
  · rw [hf] at HFW
    by_cases hs0 : short5 p0 = true
    · rw [hs0] at HS0
      by_cases hs1 : short5 p1 = true
      · rw [hs1] at HS1
        obtain ⟨c1, o1, o2⟩ := check_pair n vl l w hg hl (few_wire hf)
        obtain ⟨c2, o3, o4⟩ := verify_pair n vl v0 l p0 w hg hl h0 hf hs0
        obtain ⟨c3, o5, o6⟩ := refute_pair n vl v1 l p1 w hg hl h1 hf hs1
        have O1 := Lib.hid o1
        have O2 := Lib.hid o2
        have O3 := Lib.hid o3
        have O4 := Lib.hid o4
        have O5 := Lib.hid o5
        have O6 := Lib.hid o6
        obtain ⟨Al, cl, rfl⟩ := hl.len
        obtain ⟨A0, k0, rfl⟩ := h0.len
        obtain ⟨A1, k1, rfl⟩ := h1.len
        clear hrow hal hg hl h0 h1 nl sl n0 s0 n1 s1 hf hs0 hs1 o1 o2 o3 o4 o5 o6
        go_enter Tryz.func3, Tryz.ntmps3
        go_wp2_with fail
        refine (HFW.out _ HR.out.2).mono ?_
        rintro e w1 ⟨rfl, hb1⟩
        have H1 := Lib.hid (And.intro (HR.out.1.below' hb1) (bel_to HR.out.2 hb1))
        have x0 := H1.out.1.cell (i := 0) rfl
        have x1 := H1.out.1.cell (i := 1) rfl
        clear hb1 HR HFW
        go_wp2_with fail
        refine (HS0.out _ H1.out.2).mono ?_
        rintro e w2 ⟨rfl, hb2⟩
        have H2 := Lib.hid (And.intro (H1.out.1.below' hb2) (bel_to H1.out.2 hb2))
        clear hb2 H1 HS0 x0 x1
        have x0 := H2.out.1.cell (i := 0) rfl
        have x1 := H2.out.1.cell (i := 1) rfl
        go_wp2_with fail
        refine (HS1.out _ H2.out.2).mono ?_
        rintro e w3 ⟨rfl, hb3⟩
        have H3 := Lib.hid (And.intro (H2.out.1.below' hb3) (bel_to H2.out.2 hb3))
        clear hb3 H2 HS1 x0 x1
        have k1 := reg_of (w := w3) (fun W hW => O1.out W (bel_to H3.out.2 hW))
        have k2 := reg_of (w := w3) (fun W hW => O2.out W (bel_to H3.out.2 hW))
        have e1 : ∀ args w, (callFunc 8 args).run Tryz.prog w = .ok (.enter 8 args) w := enters_of Tryz.func8 (by kernel_rfl) rfl
        have e2 : ∀ args w, (callFunc 9 args).run Tryz.prog w = .ok (.enter 9 args) w := enters_of Tryz.func9 (by kernel_rfl) rfl
        have k3 := reg_of (w := w3) (fun W hW => O3.out W (bel_to H3.out.2 hW))
        have k4 := reg_of (w := w3) (fun W hW => O4.out W (bel_to H3.out.2 hW))
        have k5 := reg_of (w := w3) (fun W hW => O5.out W (bel_to H3.out.2 hW))
        have k6 := reg_of (w := w3) (fun W hW => O6.out W (bel_to H3.out.2 hW))
        have k7 := reg_of (w := w3) (fun W hW => HAW.out W (HG.out.of (bel_to H3.out.2 hW)))
        have e3 : ∀ args w, (callFunc 10 args).run Tryz.prog w = .ok (.enter 10 args) w := enters_of Tryz.func10 (by kernel_rfl) rfl
        have e4 : ∀ args w, (callFunc 11 args).run Tryz.prog w = .ok (.enter 11 args) w := enters_of Tryz.func11 (by kernel_rfl) rfl
        have e5 : ∀ args w, (callFunc 12 args).run Tryz.prog w = .ok (.enter 12 args) w := enters_of Tryz.func12 (by kernel_rfl) rfl
        have e6 : ∀ args w, (callFunc 13 args).run Tryz.prog w = .ok (.enter 13 args) w := enters_of Tryz.func13 (by kernel_rfl) rfl
        have e7 : ∀ args w, (callFunc 7 args).run Tryz.prog w = .ok (.enter 7 args) w := enters_of Tryz.func7 (by kernel_rfl) rfl
        have m0 := cell_regrown (H3.out.1.cell (i := 0) rfl)
        have m1 := cell_regrown (H3.out.1.cell (i := 1) rfl)
        go_wp2_with fail
        refine wp_region_quiet_below (by kernel_rfl) (by kernel_rfl) ?_
        repeat (go_big_quiet_step (fail))
        go_big_quiet_step (exact k1 _ _)
        repeat (go_big_quiet_step (fail))
        go_big_quiet_step (exact k2 _ _)
        repeat (go_big_quiet_step (fail))
        go_big_quiet_step (exact k3 _ _)
        repeat (go_big_quiet_step (fail))
        go_big_quiet_step (exact k4 _ _)
        repeat (go_big_quiet_step (fail))
        go_big_quiet_step (exact k5 _ _)
        repeat (go_big_quiet_step (fail))
        go_big_quiet_step (exact k6 _ _)
        repeat (go_big_quiet_step (fail))
        go_big_quiet_step (exact k7 _ _)
        repeat (go_big_quiet_step (fail))
        refine wpQuiet_nil ?_
        intro W6 hw'
        have hb6 : Below w3.heap.size w3 W6 := by obtain ⟨p, e⟩ := hw'; rw [e]; exact below_regrown w3 p.d p.os
        clear hw'
        have hb6' := bel_to H3.out.2 hb6
        clear hb6 H3 k1 k2 k3 k4 k5 k6 k7 e1 e2 e3 e4 e5 e6 e7 O1 O2 O3 O4 O5 O6 m0 m1 HAW
        go_wp2
        go_ret
        exact Ret.of rfl hb6'
      · rw [Bool.not_eq_true] at hs1
        rw [hs1] at HS1
        obtain ⟨Al, cl, rfl⟩ := hl.len
        obtain ⟨A0, k0, rfl⟩ := h0.len
        obtain ⟨A1, k1, rfl⟩ := h1.len
        clear hrow hal hg hl h0 h1 nl sl n0 s0 n1 s1 hf hs0 hs1
        go_enter Tryz.func3, Tryz.ntmps3
        go_wp2_with fail
        refine (HFW.out _ HR.out.2).mono ?_
        rintro e w1 ⟨rfl, hb1⟩
        have H1 := Lib.hid (And.intro (HR.out.1.below' hb1) (bel_to HR.out.2 hb1))
        have x0 := H1.out.1.cell (i := 0) rfl
        have x1 := H1.out.1.cell (i := 1) rfl
        clear hb1 HR HFW
        go_wp2_with fail
        refine (HS0.out _ H1.out.2).mono ?_
        rintro e w2 ⟨rfl, hb2⟩
        have H2 := Lib.hid (And.intro (H1.out.1.below' hb2) (bel_to H1.out.2 hb2))
        clear hb2 H1 HS0 x0 x1
        have x0 := H2.out.1.cell (i := 0) rfl
        have x1 := H2.out.1.cell (i := 1) rfl
        go_wp2_with fail
        refine (HS1.out _ H2.out.2).mono ?_
        rintro e w3 ⟨rfl, hb3⟩
        have hb3' := bel_to H2.out.2 hb3
        clear hb3 H2 HS1 x0 x1
        go_wp2_with fail
        refine (HAW.out _ (HG.out.of hb3')).mono ?_
        rintro e w4 ⟨rfl, hb4⟩
        go_wp2
        go_ret
        exact Ret.of rfl (bel_to hb3' hb4)
    · rw [Bool.not_eq_true] at hs0
      rw [hs0] at HS0
      obtain ⟨Al, cl, rfl⟩ := hl.len
      obtain ⟨A0, k0, rfl⟩ := h0.len
      obtain ⟨A1, k1, rfl⟩ := h1.len
      clear hrow hal hg hl h0 h1 nl sl n0 s0 n1 s1 hf hs0 HS1
      go_enter Tryz.func3, Tryz.ntmps3
      go_wp2_with fail
      refine (HFW.out _ HR.out.2).mono ?_
      rintro e w1 ⟨rfl, hb1⟩
      have H1 := Lib.hid (And.intro (HR.out.1.below' hb1) (bel_to HR.out.2 hb1))
      have x0 := H1.out.1.cell (i := 0) rfl
      have x1 := H1.out.1.cell (i := 1) rfl
      clear hb1 HR HFW
      go_wp2_with fail
      refine (HS0.out _ H1.out.2).mono ?_
      rintro e w2 ⟨rfl, hb2⟩
      have hb2' := bel_to H1.out.2 hb2
      clear hb2 H1 HS0 x0 x1
      go_wp2_with fail
      refine (HAW.out _ (HG.out.of hb2')).mono ?_
      rintro e w4 ⟨rfl, hb4⟩
      go_wp2
      go_ret
      exact Ret.of rfl (bel_to hb2' hb4)
  · rw [Bool.not_eq_true] at hf
    rw [hf] at HFW
    obtain ⟨Al, cl, rfl⟩ := hl.len
    obtain ⟨A0, k0, rfl⟩ := h0.len
    obtain ⟨A1, k1, rfl⟩ := h1.len
    clear hrow hal hg hl h0 h1 nl sl n0 s0 n1 s1 hf HS0 HS1
    go_enter Tryz.func3, Tryz.ntmps3
    go_wp2_with fail
    refine (HFW.out _ HR.out.2).mono ?_
    rintro e w1 ⟨rfl, hb1⟩
    have hb1' := bel_to HR.out.2 hb1
    clear hb1 HR HFW
    go_wp2_with fail
    refine (HAW.out _ (HG.out.of hb1')).mono ?_
    rintro e w4 ⟨rfl, hb4⟩
    go_wp2
    go_ret
    exact Ret.of rfl (bel_to hb1' hb4)
end W
end Go.Proofs.YtkkccppfaecajaaGreatDoor
end
section
namespace Go.Proofs.YtkkccppfaecajaaGreatDoor
open Go Go.RowKit Go.Deep Go.Sort
namespace W
open M
attribute [local go_sem] bs_size bs_toList bs_get bs_extract bs_append bs_lit0 bs_lit1 lit1_bs
set_option maxHeartbeats 1000000
set_option maxRecDepth 20000
theorem proves_law (n : Int) (vl vg vp vq : Value) (V : List UInt8) (l : List BT) (G P Q : List (List UInt8)) (w : World) (hg : Glob w) (hl : RdB w vl l) (h1 : RdT w vg G) (h2 : RdT w vp P) (h3 : RdT w vq Q) (t1 : Shp vg) (t2 : Shp vp) (t3 : Shp vq)
    (nl : l.length ≤ maxLen) (sl : ∀ b ∈ l, b.1.length ≤ maxLen ∧ (∀ p ∈ b.1, p.length ≤ maxLen) ∧ b.2.length ≤ maxLen) (n1 : G.length ≤ maxLen) (s1 : ∀ p ∈ G, p.length ≤ maxLen) (n2 : P.length ≤ maxLen) (s2 : ∀ p ∈ P, p.length ≤ maxLen) (n3 : Q.length ≤ maxLen) (s3 : ∀ p ∈ Q, p.length ≤ maxLen) :
    Calls Tryz.prog 4 #[.int .i64 n, vl, .agg #[vg, .string (bs V), vp, vq]] w (Ret w (.bool true)) := by
  have hrow := Row.new w 36 [vg, .string (bs V), vp, vq]
  have hal := (Below.refl w.heap.size w).alloc (Nat.le_refl _) (.cells #[vg, .string (bs V), vp, vq] 36)
  have HR := Lib.hid (And.intro hrow hal)
  have HG := Lib.hid hg
  have HAW := Lib.hid (fun W hW => awake5 W hW)
  have HFW := Lib.hid (fun W (hW : Below w.heap.size w W) => rfew n vl l W (hl.below hW) nl sl)
  have HS1 := Lib.hid (fun W (hW : Below w.heap.size w W) => rshort5 vg G W (h1.below hW) s1 n1)
  have HS2 := Lib.hid (fun W (hW : Below w.heap.size w W) => rshort5 vp P W (h2.below hW) s2 n2)
  have HS3 := Lib.hid (fun W (hW : Below w.heap.size w W) => rshort5 vq Q W (h3.below hW) s3 n3)
  by_cases hf : few5 n l = true
  · rw [hf] at HFW
    by_cases hs1 : short5 G = true
    · rw [hs1] at HS1
      by_cases hs2 : short5 P = true
      · rw [hs2] at HS2
        by_cases hs3 : short5 Q = true
        · rw [hs3] at HS3
          by_cases h24 : V.length ≤ 24
          · obtain ⟨c, o1, o2⟩ := vm_pair n vl vg vp vq V G P Q l w hg hl hf h1 h2 h3 t1 t2 t3 hs1 hs2 hs3 h24
            have hd : decide (24 < (V.length : Int)) = false := by simp; omega
            have O1 := Lib.hid o1
            have O2 := Lib.hid o2
            clear hf hs1 hs2 hs3 h24 o1 o2
            obtain ⟨Al, cl, rfl⟩ := hl.len
            obtain ⟨Ag, kg, rfl⟩ := h1.len
            obtain ⟨Ap, kp, rfl⟩ := h2.len
            obtain ⟨Aq, kq, rfl⟩ := h3.len
            clear hrow hal hg hl h1 h2 h3 t1 t2 t3 nl sl n1 s1 n2 s2 n3 s3
            go_enter Tryz.func4, Tryz.ntmps4
            go_wp2_with fail
            refine (HFW.out _ HR.out.2).mono ?_
            rintro e w1 ⟨rfl, hb1⟩
            have H1 := Lib.hid (And.intro (HR.out.1.below' hb1) (bel_to HR.out.2 hb1))
            clear hb1 HR HFW
            have x0 := H1.out.1.cell (i := 0) rfl
            have x1 := H1.out.1.cell (i := 1) rfl
            have x2 := H1.out.1.cell (i := 2) rfl
            have x3 := H1.out.1.cell (i := 3) rfl
            go_wp2_with fail
            refine (HS1.out _ H1.out.2).mono ?_
            rintro e w2 ⟨rfl, hb2⟩
            have H2 := Lib.hid (And.intro (H1.out.1.below' hb2) (bel_to H1.out.2 hb2))
            clear hb2 H1 HS1 x0 x1 x2 x3
            have x0 := H2.out.1.cell (i := 0) rfl
            have x1 := H2.out.1.cell (i := 1) rfl
            have x2 := H2.out.1.cell (i := 2) rfl
            have x3 := H2.out.1.cell (i := 3) rfl
            go_wp2_with fail
            refine (HS2.out _ H2.out.2).mono ?_
            rintro e w3 ⟨rfl, hb3⟩
            have H3 := Lib.hid (And.intro (H2.out.1.below' hb3) (bel_to H2.out.2 hb3))
            clear hb3 H2 HS2 x0 x1 x2 x3
            have x0 := H3.out.1.cell (i := 0) rfl
            have x1 := H3.out.1.cell (i := 1) rfl
            have x2 := H3.out.1.cell (i := 2) rfl
            have x3 := H3.out.1.cell (i := 3) rfl
            go_wp2_with fail
            refine (HS3.out _ H3.out.2).mono ?_
            rintro e w4 ⟨rfl, hb4⟩
            have H4 := Lib.hid (And.intro (H3.out.1.below' hb4) (bel_to H3.out.2 hb4))
            clear hb4 H3 HS3 x0 x1 x2 x3
            have x0 := H4.out.1.cell (i := 0) rfl
            have x1 := H4.out.1.cell (i := 1) rfl
            have x2 := H4.out.1.cell (i := 2) rfl
            have x3 := H4.out.1.cell (i := 3) rfl
            have k1 := reg_of (w := w4) (fun W hW => O1.out W (bel_to H4.out.2 hW))
            have k2 := reg_of (w := w4) (fun W hW => O2.out W (bel_to H4.out.2 hW))
            have e1 : ∀ args w, (callFunc 14 args).run Tryz.prog w = .ok (.enter 14 args) w := enters_of Tryz.func14 (by kernel_rfl) rfl
            have e2 : ∀ args w, (callFunc 15 args).run Tryz.prog w = .ok (.enter 15 args) w := enters_of Tryz.func15 (by kernel_rfl) rfl
            have k3 := reg_of (w := w4) (fun W hW => HAW.out W (HG.out.of (bel_to H4.out.2 hW)))
            have e3 : ∀ args w, (callFunc 7 args).run Tryz.prog w = .ok (.enter 7 args) w := enters_of Tryz.func7 (by kernel_rfl) rfl
            have m0 := cell_regrown x0
            have m1 := cell_regrown x1
            have m2 := cell_regrown x2
            have m3 := cell_regrown x3
            go_wp2_with fail
            clear x0 x1 x2 x3
            refine wp_region_quiet_below (by kernel_rfl) (by kernel_rfl) ?_
            repeat (go_big_quiet_step (fail))
            go_big_quiet_step (exact k1 _ _)
            repeat (go_big_quiet_step (fail))
            go_big_quiet_step (exact k2 _ _)
            repeat (go_big_quiet_step (fail))
            go_big_quiet_step (exact k3 _ _)
            repeat (go_big_quiet_step (fail))
            refine wpQuiet_nil ?_
            intro W6 hw'
            have hb6 : Below w4.heap.size w4 W6 := by obtain ⟨p, e⟩ := hw'; rw [e]; exact below_regrown w4 p.d p.os
            clear hw'
            have hb6' := bel_to H4.out.2 hb6
            clear hb6 H4 k1 k2 k3 e1 e2 e3 O1 O2 m0 m1 m2 m3 HAW
            go_wp2
            go_ret
            exact Ret.of rfl hb6'
          · have hd : decide (24 < (V.length : Int)) = true := by simp; omega
            clear hf hs1 hs2 hs3 h24
            obtain ⟨Al, cl, rfl⟩ := hl.len
            obtain ⟨Ag, kg, rfl⟩ := h1.len
            obtain ⟨Ap, kp, rfl⟩ := h2.len
            obtain ⟨Aq, kq, rfl⟩ := h3.len
            clear hrow hal hg hl h1 h2 h3 t1 t2 t3 nl sl n1 s1 n2 s2 n3 s3
            go_enter Tryz.func4, Tryz.ntmps4
            go_wp2_with fail
            refine (HFW.out _ HR.out.2).mono ?_
            rintro e w1 ⟨rfl, hb1⟩
            have H1 := Lib.hid (And.intro (HR.out.1.below' hb1) (bel_to HR.out.2 hb1))
            clear hb1 HR HFW
            have x0 := H1.out.1.cell (i := 0) rfl
            have x1 := H1.out.1.cell (i := 1) rfl
            have x2 := H1.out.1.cell (i := 2) rfl
            have x3 := H1.out.1.cell (i := 3) rfl
            go_wp2_with fail
            refine (HS1.out _ H1.out.2).mono ?_
            rintro e w2 ⟨rfl, hb2⟩
            have H2 := Lib.hid (And.intro (H1.out.1.below' hb2) (bel_to H1.out.2 hb2))
            clear hb2 H1 HS1 x0 x1 x2 x3
            have x0 := H2.out.1.cell (i := 0) rfl
            have x1 := H2.out.1.cell (i := 1) rfl
            have x2 := H2.out.1.cell (i := 2) rfl
            have x3 := H2.out.1.cell (i := 3) rfl
            go_wp2_with fail
            refine (HS2.out _ H2.out.2).mono ?_
            rintro e w3 ⟨rfl, hb3⟩
            have H3 := Lib.hid (And.intro (H2.out.1.below' hb3) (bel_to H2.out.2 hb3))
            clear hb3 H2 HS2 x0 x1 x2 x3
            have x0 := H3.out.1.cell (i := 0) rfl
            have x1 := H3.out.1.cell (i := 1) rfl
            have x2 := H3.out.1.cell (i := 2) rfl
            have x3 := H3.out.1.cell (i := 3) rfl
            go_wp2_with fail
            refine (HS3.out _ H3.out.2).mono ?_
            rintro e w4 ⟨rfl, hb4⟩
            have H4 := Lib.hid (And.intro (H3.out.1.below' hb4) (bel_to H3.out.2 hb4))
            clear hb4 H3 HS3 x0 x1 x2 x3
            have x0 := H4.out.1.cell (i := 0) rfl
            have x1 := H4.out.1.cell (i := 1) rfl
            have x2 := H4.out.1.cell (i := 2) rfl
            have x3 := H4.out.1.cell (i := 3) rfl
            go_wp2_with fail
            refine (HAW.out _ (HG.out.of H4.out.2)).mono ?_
            rintro e w9 ⟨rfl, hb9⟩
            go_wp2
            go_ret
            exact Ret.of rfl (bel_to H4.out.2 hb9)
        · rw [Bool.not_eq_true] at hs3
          rw [hs3] at HS3
          clear hf hs1 hs2 hs3
          obtain ⟨Al, cl, rfl⟩ := hl.len
          obtain ⟨Ag, kg, rfl⟩ := h1.len
          obtain ⟨Ap, kp, rfl⟩ := h2.len
          obtain ⟨Aq, kq, rfl⟩ := h3.len
          clear hrow hal hg hl h1 h2 h3 t1 t2 t3 nl sl n1 s1 n2 s2 n3 s3
          go_enter Tryz.func4, Tryz.ntmps4
          go_wp2_with fail
          refine (HFW.out _ HR.out.2).mono ?_
          rintro e w1 ⟨rfl, hb1⟩
          have H1 := Lib.hid (And.intro (HR.out.1.below' hb1) (bel_to HR.out.2 hb1))
          clear hb1 HR HFW
          have x0 := H1.out.1.cell (i := 0) rfl
          have x1 := H1.out.1.cell (i := 1) rfl
          have x2 := H1.out.1.cell (i := 2) rfl
          have x3 := H1.out.1.cell (i := 3) rfl
          go_wp2_with fail
          refine (HS1.out _ H1.out.2).mono ?_
          rintro e w2 ⟨rfl, hb2⟩
          have H2 := Lib.hid (And.intro (H1.out.1.below' hb2) (bel_to H1.out.2 hb2))
          clear hb2 H1 HS1 x0 x1 x2 x3
          have x0 := H2.out.1.cell (i := 0) rfl
          have x1 := H2.out.1.cell (i := 1) rfl
          have x2 := H2.out.1.cell (i := 2) rfl
          have x3 := H2.out.1.cell (i := 3) rfl
          go_wp2_with fail
          refine (HS2.out _ H2.out.2).mono ?_
          rintro e w3 ⟨rfl, hb3⟩
          have H3 := Lib.hid (And.intro (H2.out.1.below' hb3) (bel_to H2.out.2 hb3))
          clear hb3 H2 HS2 x0 x1 x2 x3
          have x0 := H3.out.1.cell (i := 0) rfl
          have x1 := H3.out.1.cell (i := 1) rfl
          have x2 := H3.out.1.cell (i := 2) rfl
          have x3 := H3.out.1.cell (i := 3) rfl
          go_wp2_with fail
          refine (HS3.out _ H3.out.2).mono ?_
          rintro e w4 ⟨rfl, hb4⟩
          have H4 := Lib.hid (And.intro (H3.out.1.below' hb4) (bel_to H3.out.2 hb4))
          clear hb4 H3 HS3 x0 x1 x2 x3
          go_wp2_with fail
          refine (HAW.out _ (HG.out.of H4.out.2)).mono ?_
          rintro e w9 ⟨rfl, hb9⟩
          go_wp2
          go_ret
          exact Ret.of rfl (bel_to H4.out.2 hb9)
      · rw [Bool.not_eq_true] at hs2
        rw [hs2] at HS2
        clear hf hs1 hs2 HS3
        obtain ⟨Al, cl, rfl⟩ := hl.len
        obtain ⟨Ag, kg, rfl⟩ := h1.len
        obtain ⟨Ap, kp, rfl⟩ := h2.len
        obtain ⟨Aq, kq, rfl⟩ := h3.len
        clear hrow hal hg hl h1 h2 h3 t1 t2 t3 nl sl n1 s1 n2 s2 n3 s3
        go_enter Tryz.func4, Tryz.ntmps4
        go_wp2_with fail
        refine (HFW.out _ HR.out.2).mono ?_
        rintro e w1 ⟨rfl, hb1⟩
        have H1 := Lib.hid (And.intro (HR.out.1.below' hb1) (bel_to HR.out.2 hb1))
        clear hb1 HR HFW
        have x0 := H1.out.1.cell (i := 0) rfl
        have x1 := H1.out.1.cell (i := 1) rfl
        have x2 := H1.out.1.cell (i := 2) rfl
        have x3 := H1.out.1.cell (i := 3) rfl
        go_wp2_with fail
        refine (HS1.out _ H1.out.2).mono ?_
        rintro e w2 ⟨rfl, hb2⟩
        have H2 := Lib.hid (And.intro (H1.out.1.below' hb2) (bel_to H1.out.2 hb2))
        clear hb2 H1 HS1 x0 x1 x2 x3
        have x0 := H2.out.1.cell (i := 0) rfl
        have x1 := H2.out.1.cell (i := 1) rfl
        have x2 := H2.out.1.cell (i := 2) rfl
        have x3 := H2.out.1.cell (i := 3) rfl
        go_wp2_with fail
        refine (HS2.out _ H2.out.2).mono ?_
        rintro e w3 ⟨rfl, hb3⟩
        have H3 := Lib.hid (And.intro (H2.out.1.below' hb3) (bel_to H2.out.2 hb3))
        clear hb3 H2 HS2 x0 x1 x2 x3
        go_wp2_with fail
        refine (HAW.out _ (HG.out.of H3.out.2)).mono ?_
        rintro e w9 ⟨rfl, hb9⟩
        go_wp2
        go_ret
        exact Ret.of rfl (bel_to H3.out.2 hb9)
    · rw [Bool.not_eq_true] at hs1
      rw [hs1] at HS1
      clear hf hs1 HS2 HS3
      obtain ⟨Al, cl, rfl⟩ := hl.len
      obtain ⟨Ag, kg, rfl⟩ := h1.len
      obtain ⟨Ap, kp, rfl⟩ := h2.len
      obtain ⟨Aq, kq, rfl⟩ := h3.len
      clear hrow hal hg hl h1 h2 h3 t1 t2 t3 nl sl n1 s1 n2 s2 n3 s3
      go_enter Tryz.func4, Tryz.ntmps4
      go_wp2_with fail
      refine (HFW.out _ HR.out.2).mono ?_
      rintro e w1 ⟨rfl, hb1⟩
      have H1 := Lib.hid (And.intro (HR.out.1.below' hb1) (bel_to HR.out.2 hb1))
      clear hb1 HR HFW
      have x0 := H1.out.1.cell (i := 0) rfl
      have x1 := H1.out.1.cell (i := 1) rfl
      have x2 := H1.out.1.cell (i := 2) rfl
      have x3 := H1.out.1.cell (i := 3) rfl
      go_wp2_with fail
      refine (HS1.out _ H1.out.2).mono ?_
      rintro e w2 ⟨rfl, hb2⟩
      have H2 := Lib.hid (And.intro (H1.out.1.below' hb2) (bel_to H1.out.2 hb2))
      clear hb2 H1 HS1 x0 x1 x2 x3
      go_wp2_with fail
      refine (HAW.out _ (HG.out.of H2.out.2)).mono ?_
      rintro e w9 ⟨rfl, hb9⟩
      go_wp2
      go_ret
      exact Ret.of rfl (bel_to H2.out.2 hb9)
  · rw [Bool.not_eq_true] at hf
    rw [hf] at HFW
    clear hf HS1 HS2 HS3
    obtain ⟨Al, cl, rfl⟩ := hl.len
    obtain ⟨Ag, kg, rfl⟩ := h1.len
    obtain ⟨Ap, kp, rfl⟩ := h2.len
    obtain ⟨Aq, kq, rfl⟩ := h3.len
    clear hrow hal hg hl h1 h2 h3 t1 t2 t3 nl sl n1 s1 n2 s2 n3 s3
    go_enter Tryz.func4, Tryz.ntmps4
    go_wp2_with fail
    refine (HFW.out _ HR.out.2).mono ?_
    rintro e w1 ⟨rfl, hb1⟩
    have H1 := Lib.hid (And.intro (HR.out.1.below' hb1) (bel_to HR.out.2 hb1))
    clear hb1 HR HFW
    go_wp2_with fail
    refine (HAW.out _ (HG.out.of H1.out.2)).mono ?_
    rintro e w9 ⟨rfl, hb9⟩
    go_wp2
    go_ret
    exact Ret.of rfl (bel_to H1.out.2 hb9)
end W
end Go.Proofs.YtkkccppfaecajaaGreatDoor
end
