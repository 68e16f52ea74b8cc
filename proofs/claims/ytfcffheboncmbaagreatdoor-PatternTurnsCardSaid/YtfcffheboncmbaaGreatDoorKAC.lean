/-
  Chapter 46: PatternTurns. (Printed by wip/turns.py.)
-/
import Derived.Test.YtfcffheboncmbaaGreatDoorKZ
import Derived.Test.YtfcffheboncmbaaGreatDoorKAA
import Derived.Test.YtfcffheboncmbaaGreatDoorKAB
import Derived.Test.YtfcffheboncmbaaGreatDoorKJ
section
namespace Go.Proofs.YtfcffheboncmbaaGreatDoor
open Go Go.RowKit Go.Deep
/-- A box, and two own lists. -/
structure TuS (w W : World) (bb g g2 cap cap2 n m : Nat) (x y : Int) (ts : List M.Tg) (cs : List M.Cc) : Prop where
  row : Row W bb 23 [.int .i64 x, .int .i64 y]
  og : OwnG W w.heap.size (.slice (some ⟨g, 0, none⟩) n cap) ts
  oc : OwnC W w.heap.size (.slice (some ⟨g2, 0, none⟩) m cap2) cs
  nt : ts.length = n
  nc : cs.length = m
  bel : Below w.heap.size w W
  lo : w.heap.size ≤ bb
  g1 : bb < g
  g12 : g < g2
theorem TuS.to {w W W' : World} {bb g g2 cap cap2 n m : Nat} {x y : Int} {ts : List M.Tg} {cs : List M.Cc} (h : TuS w W bb g g2 cap cap2 n m x y ts cs) (hb : Below W.heap.size W W') : TuS w W' bb g g2 cap cap2 n m x y ts cs :=
  ⟨h.row.below' hb, h.og.below hb, h.oc.below hb, h.nt, h.nc, bel_to h.bel hb, h.lo, h.g1, h.g12⟩
theorem TuS.setT {w W : World} {bb g g2 cap cap2 n m : Nat} {x y : Int} {ts : List M.Tg} {cs : List M.Cc} (h : TuS w W bb g g2 cap cap2 n m x y ts cs) (i : Nat) (hi : i < ts.length) (a b : Int) :
    TuS w ((W.setCell ⟨g, i * 7, none⟩ (.int .i64 a)).setCell ⟨g, i * 7 + 1, none⟩ (.int .i64 b)) bb g g2 cap cap2 n m x y (ts.set i { ts[i] with x := a, y := b }) cs := by
  have ho := h.og
  have hn := h.nt
  have h1 := h.g1
  have h2 := h.g12
  have h3 := h.lo
  have hne : (Value.slice (some ⟨g2, 0, none⟩) m cap2).ownBlock = none ∨ (Value.slice (some ⟨g2, 0, none⟩) m cap2).ownBlock ≠ some g := Or.inr (by simp [Value.ownBlock]; omega)
  rw [← hn] at ho
  have h4 := ho.setAt i hi a b
  rw [hn] at h4
  refine ⟨row_other (p := ⟨g, i * 7 + 1, none⟩) (row_other (p := ⟨g, i * 7, none⟩) h.row (by simp; omega) _) (by simp; omega) _, h4, World.ownsRow.kept (World.ownsRow.kept h.oc (grown_set W ⟨g, i * 7, none⟩ _) hne) (grown_set _ ⟨g, i * 7 + 1, none⟩ _) hne, by rw [List.length_set]; exact hn, h.nc, ?_, h3, h1, h2⟩
  exact Below.setCell (p := ⟨g, i * 7 + 1, none⟩) (Below.setCell (p := ⟨g, i * 7, none⟩) h.bel (by simp; omega) _) (by simp; omega) _
theorem TuS.setC {w W : World} {bb g g2 cap cap2 n m : Nat} {x y : Int} {ts : List M.Tg} {cs : List M.Cc} (h : TuS w W bb g g2 cap cap2 n m x y ts cs) (i : Nat) (hi : i < cs.length) (a b : Int) :
    TuS w ((W.setCell ⟨g2, i * 3, none⟩ (.int .i64 a)).setCell ⟨g2, i * 3 + 1, none⟩ (.int .i64 b)) bb g g2 cap cap2 n m x y ts (cs.set i { cs[i] with x := a, y := b }) := by
  have ho := h.oc
  have hn := h.nc
  have h1 := h.g1
  have h2 := h.g12
  have h3 := h.lo
  have hne : (Value.slice (some ⟨g, 0, none⟩) n cap).ownBlock = none ∨ (Value.slice (some ⟨g, 0, none⟩) n cap).ownBlock ≠ some g2 := Or.inr (by simp [Value.ownBlock]; omega)
  rw [← hn] at ho
  have h4 := ho.setAt i hi a b
  rw [hn] at h4
  refine ⟨row_other (p := ⟨g2, i * 3 + 1, none⟩) (row_other (p := ⟨g2, i * 3, none⟩) h.row (by simp; omega) _) (by simp; omega) _, World.ownsRow.kept (World.ownsRow.kept h.og (grown_set W ⟨g2, i * 3, none⟩ _) hne) (grown_set _ ⟨g2, i * 3 + 1, none⟩ _) hne, h4, h.nt, by rw [List.length_set]; exact hn, ?_, h3, h1, h2⟩
  exact Below.setCell (p := ⟨g2, i * 3 + 1, none⟩) (Below.setCell (p := ⟨g2, i * 3, none⟩) h.bel (by simp; omega) _) (by simp; omega) _
theorem TuS.rev1 {w W W' : World} {bb g g2 cap cap2 n m : Nat} {x y : Int} {ts ts' : List M.Tg} {cs : List M.Cc} (h : TuS w W bb g g2 cap cap2 n m x y ts cs) (ho : OwnG W' w.heap.size (.slice (some ⟨g, 0, none⟩) n cap) ts') (hl : ts'.length = n) (hg : W.grownBy W' (some g)) : TuS w W' bb g g2 cap cap2 n m x y ts' cs := by
  have h1 := h.g1
  have h2 := h.g12
  have h3 := h.lo
  exact ⟨row_grown h.row hg (by simp; omega), ho, World.ownsRow.kept h.oc hg (Or.inr (by simp [Value.ownBlock]; omega)), hl, h.nc, RowKit.Below.grown h.bel hg h.bel.size (fun k hk => by injection hk with hk; omega), h3, h1, h2⟩
theorem TuS.rev2 {w W W' : World} {bb g g2 cap cap2 n m : Nat} {x y : Int} {ts : List M.Tg} {cs cs' : List M.Cc} (h : TuS w W bb g g2 cap cap2 n m x y ts cs) (ho : OwnC W' w.heap.size (.slice (some ⟨g2, 0, none⟩) m cap2) cs') (hl : cs'.length = m) (hg : W.grownBy W' (some g2)) : TuS w W' bb g g2 cap cap2 n m x y ts cs' := by
  have h1 := h.g1
  have h2 := h.g12
  have h3 := h.lo
  exact ⟨row_grown h.row hg (by simp; omega), World.ownsRow.kept h.og hg (Or.inr (by simp [Value.ownBlock]; omega)), ho, h.nt, hl, RowKit.Below.grown h.bel hg h.bel.size (fun k hk => by injection hk with hk; omega), h3, h1, h2⟩
theorem TuS.at {w W : World} {bb g g2 cap cap2 n m : Nat} {x y : Int} {ts : List M.Tg} {cs : List M.Cc} (h : TuS w W bb g g2 cap cap2 n m x y ts cs) (i : Nat) (hi : i < ts.length) (hj : i < cs.length) :
    W.cell? ⟨g, i * 7, none⟩ = some (.int .i64 ts[i].x) ∧ W.cell? ⟨g, i * 7 + 1, none⟩ = some (.int .i64 ts[i].y) ∧ W.cell? ⟨g2, i * 3, none⟩ = some (.int .i64 cs[i].x) ∧ W.cell? ⟨g2, i * 3 + 1, none⟩ = some (.int .i64 cs[i].y) ∧ (∀ j, W.frozen? ⟨g, j, none⟩ = false) ∧ (∀ j, W.frozen? ⟨g2, j, none⟩ = false) := by
  have ho := h.og
  rw [← h.nt] at ho
  have hc := h.oc
  rw [← h.nc] at hc
  exact ⟨ho.cells _ _ (csG_get ts i hi).1, ho.cells _ _ (csG_get ts i hi).2.1, hc.cells _ _ (csC_get cs i hj).1, hc.cells _ _ (csC_get cs i hj).2.1, World.ownsRow.frozenAt ho, World.ownsRow.frozenAt hc⟩
theorem TuS.rd {w W : World} {bb g g2 cap cap2 n m : Nat} {x y : Int} {ts : List M.Tg} {cs : List M.Cc} (h : TuS w W bb g g2 cap cap2 n m x y ts cs) : RdG W (.slice (some ⟨g, 0, none⟩) n cap) ts ∧ RdC W (.slice (some ⟨g2, 0, none⟩) m cap2) cs := ⟨OwnG.rd h.og, OwnC.rd h.oc⟩
/-- The facts of a store of two cells. -/
theorem TuS.freT {w W : World} {bb g g2 cap cap2 n m : Nat} {x y : Int} {ts : List M.Tg} {cs : List M.Cc} (h : TuS w W bb g g2 cap cap2 n m x y ts cs) (i : Nat) (hi : i < ts.length) (v : Value) :
    (W.setCell ⟨g, i * 7, none⟩ v).cell? ⟨g, i * 7 + 1, none⟩ = some (.int .i64 ts[i].y) ∧ (W.setCell ⟨g, i * 7, none⟩ v).frozen? ⟨g, i * 7 + 1, none⟩ = false := by
  have ho := h.og
  rw [← h.nt] at ho
  have h2 := (World.ownsRow.stored ho (i * 7) v).1
  refine ⟨?_, World.ownsRow.frozenAt h2 _⟩
  rw [World.ownsRow.cellAt h2 (i * 7 + 1) (by omega), List.getElem?_set_ne (by omega)]
  exact (csG_get ts i hi).2.1
theorem TuS.freC {w W : World} {bb g g2 cap cap2 n m : Nat} {x y : Int} {ts : List M.Tg} {cs : List M.Cc} (h : TuS w W bb g g2 cap cap2 n m x y ts cs) (i : Nat) (hi : i < cs.length) (v : Value) :
    (W.setCell ⟨g2, i * 3, none⟩ v).cell? ⟨g2, i * 3 + 1, none⟩ = some (.int .i64 cs[i].y) ∧ (W.setCell ⟨g2, i * 3, none⟩ v).frozen? ⟨g2, i * 3 + 1, none⟩ = false := by
  have ho := h.oc
  rw [← h.nc] at ho
  have h2 := (World.ownsRow.stored ho (i * 3) v).1
  refine ⟨?_, World.ownsRow.frozenAt h2 _⟩
  rw [World.ownsRow.cellAt h2 (i * 3 + 1) (by omega), List.getElem?_set_ne (by omega)]
  exact (csC_get cs i hi).2.1
namespace W
open M
attribute [local go_sem] bs_size bs_toList bs_get bs_extract bs_append bs_lit0 bs_lit1 lit1_bs
set_option maxHeartbeats 2000000
set_option maxRecDepth 20000
theorem turns_not (vt vc : Value) (ts : List Tg) (cs : List Cc) (bx bY : Int) (w : World) (hg : Glob w) (hs : Sig w) (ht : RdG w vt ts) (hc : RdC w vc cs) (nt : ts.length ≤ maxLen) (nc : cs.length ≤ maxLen) (hn : (decide (ts.length ≤ 5) && decide (chk46 ts cs = 0)) = false) :
    Calls Tryz.prog 8 #[vt, vc, .agg #[.int .i64 bx, .int .i64 bY]] w (Ret w (.bool true)) := by
  have hb0 := bel_al w (.cells #[.int .i64 bx, .int .i64 bY] 23 (0, 0))
  have hr := lright46 vt vc ts cs _ (ht.below hb0) (hc.below hb0) nt nc
  rw [hn] at hr
  have HR := Lib.hid hr
  have HB0 := Lib.hid hb0
  have HA := Lib.hid (fun W (hW : Below w.heap.size w W) => awake46 W (hg.of hW) (hs.below hW))
  obtain ⟨At, ct, rfl⟩ := ht.len
  obtain ⟨Ac, cc, rfl⟩ := hc.len
  clear hg hs ht hc nt nc hn hr hb0
  go_enter Tryz.func8, Tryz.ntmps8
  go_wp2_with fail
  refine (HR.out).mono ?_
  rintro e w1 ⟨rfl, hb1⟩
  go_wp2_with fail
  refine (HA.out _ (bel_to HB0.out hb1)).mono ?_
  rintro e w2 ⟨rfl, hb2⟩
  go_wp2
  go_ret
  exact Ret.of rfl (bel_to (bel_to HB0.out hb1) hb2)
theorem turns_out (vt vc : Value) (ts : List Tg) (cs : List Cc) (bx bY : Int) (w : World) (hg : Glob w) (hs : Sig w) (ht : RdG w vt ts) (hc : RdC w vc cs) (nt : ts.length ≤ maxLen) (nc : cs.length ≤ maxLen) (hn : (decide (ts.length ≤ 5) && decide (chk46 ts cs = 0)) = true) (ho : bx < -99 ∨ (¬ bx < -99 ∧ 99 < bx) ∨ (¬ bx < -99 ∧ ¬ 99 < bx ∧ bY < -99) ∨ (¬ bx < -99 ∧ ¬ 99 < bx ∧ ¬ bY < -99 ∧ 99 < bY)) :
    Calls Tryz.prog 8 #[vt, vc, .agg #[.int .i64 bx, .int .i64 bY]] w (Ret w (.bool true)) := by
  have hb0 := bel_al w (.cells #[.int .i64 bx, .int .i64 bY] 23 (0, 0))
  have hrow : Row (w.alloc (.cells #[.int .i64 bx, .int .i64 bY] 23 (0, 0))) w.heap.size 23 [.int .i64 bx, .int .i64 bY] := rnw
  have hr := lright46 vt vc ts cs _ (ht.below hb0) (hc.below hb0) nt nc
  rw [hn] at hr
  have HR := Lib.hid hr
  have HB0 := Lib.hid (And.intro hb0 hrow)
  have HA := Lib.hid (fun W (hW : Below w.heap.size w W) => awake46 W (hg.of hW) (hs.below hW))
  obtain ⟨At, ct, rfl⟩ := ht.len
  obtain ⟨Ac, cc, rfl⟩ := hc.len
  clear hg hs ht hc nt nc hn hr hb0 hrow
  go_enter Tryz.func8, Tryz.ntmps8
  go_wp2_with fail
  refine (HR.out).mono ?_
  rintro e w1 ⟨rfl, hb1⟩
  have c0 := (HB0.out.2.below' hb1).cell (i := 0) rfl
  have c1 := (HB0.out.2.below' hb1).cell (i := 1) rfl
  have HB1 := Lib.hid (bel_to HB0.out.1 hb1)
  clear hb1 HR HB0
  rcases ho with h | ⟨h, h1⟩ | ⟨h, h1, h2⟩ | ⟨h, h1, h2, h3⟩
  all_goals
    go_wp2_with fail
    refine (HA.out _ HB1.out).mono ?_
    rintro e w2 ⟨rfl, hb2⟩
    have HB2 := Lib.hid (bel_to HB1.out hb2)
    clear hb2 HB1 c0 c1
    go_wp2
    go_ret
    exact ⟨rfl, HB2.out⟩
theorem turns_main (vt vc : Value) (ts : List Tg) (cs : List Cc) (bx bY : Int) (w : World) (hg : Glob w) (hs : Sig w) (ht : RdG w vt ts) (hc : RdC w vc cs) (nt : ts.length ≤ maxLen) (nc : cs.length ≤ maxLen) (h : chk46 ts cs = 0) (h5 : ts.length ≤ 5) (r0 : ¬ bx < -99) (r1 : ¬ 99 < bx) (r2 : ¬ bY < -99) (r3 : ¬ 99 < bY) :
    Calls Tryz.prog 8 #[vt, vc, .agg #[.int .i64 bx, .int .i64 bY]] w (Ret w (.bool true)) := by
  have hb0 := bel_al w (.cells #[.int .i64 bx, .int .i64 bY] 23 (0, 0))
  have hrow : Row (w.alloc (.cells #[.int .i64 bx, .int .i64 bY] 23 (0, 0))) w.heap.size 23 [.int .i64 bx, .int .i64 bY] := rnw
  have hr := lright46 vt vc ts cs _ (ht.below hb0) (hc.below hb0) nt nc
  rw [show decide (ts.length ≤ 5) = true by simp [h5], show decide (chk46 ts cs = 0) = true by simp [h], Bool.true_and] at hr
  have HR := Lib.hid hr
  have HB0 := Lib.hid (And.intro hb0 hrow)
  obtain ⟨h1, h16, hlen, hrt⟩ := chk46_iff.1 h
  have hl0 : 0 < ts.length := by omega
  have hl1 : 0 < cs.length := by omega
  obtain ⟨d0, d1, d2, x, hexc, _, hbq, hE⟩ := pexcess_ok ts cs h h5
  have HA := Lib.hid (fun W (hW : Below w.heap.size w W) => awake46 W (hg.of hW) (hs.below hW))
  have HE : Hid (∀ W, Below w.heap.size w W → Calls Tryz.prog 22 #[vt, vc] W (Ret W (.tuple #[.string (bs (R x)), .agg #[.string (bs (R d0)), .string (bs (R d1)), .string (bs (R d2))], .int .i64 0]))) := Lib.hid (fun W (hW : Below w.heap.size w W) => hE vt vc W (hg.of hW) (hs.below hW) (ht.below hW) (hc.below hW))
  have HC1 := Lib.hid (fun W (hW : Below w.heap.size w W) => pcloneOwnG vt ts W (ht.below hW) hl0 (by omega))
  have HC2 := Lib.hid (fun W (hW : Below w.heap.size w W) => pcloneOwnC vc cs W (hc.below hW) hl1 (by omega))
  have HCH := Lib.hid (fun vs vd (T : List Tg) (C : List Cc) W (h1 : RdG W vs T) (h2 : RdC W vd C) (n1 : T.length = ts.length) (n2 : C.length = cs.length) => rcheck46 vs vd T C W h1 h2 (by omega) (by omega))
  have HX0 : chk46 (ts.reverse) (cs.reverse) = 0 → ∃ a b c : Rat, ∀ vs vd W, Below w.heap.size w W → RdG W vs (ts.reverse) → RdC W vd (cs.reverse) → Calls Tryz.prog 22 #[vs, vd] W (Ret W (.tuple #[.string (bs (R x)), .agg #[.string (bs (R a)), .string (bs (R b)), .string (bs (R c))], .int .i64 0])) := fun hk => by
    obtain ⟨a, b, c, y, hx2, _, _, hY⟩ := pexcess_ok (ts.reverse) (cs.reverse) hk (by simpa using h5)
    have hy := exc_turn0 hlen hexc hx2
    rw [hy] at hY
    exact ⟨a, b, c, fun vs vd W hW h1 h2 => hY vs vd W (hg.of hW) (hs.below hW) h1 h2⟩
  have HX1 : chk46 (ts.map (movT bx bY)) (cs.map (movC bx bY)) = 0 → ∃ a b c : Rat, ∀ vs vd W, Below w.heap.size w W → RdG W vs (ts.map (movT bx bY)) → RdC W vd (cs.map (movC bx bY)) → Calls Tryz.prog 22 #[vs, vd] W (Ret W (.tuple #[.string (bs (R x)), .agg #[.string (bs (R a)), .string (bs (R b)), .string (bs (R c))], .int .i64 0])) := fun hk => by
    obtain ⟨a, b, c, y, hx2, _, _, hY⟩ := pexcess_ok (ts.map (movT bx bY)) (cs.map (movC bx bY)) hk (by simpa using h5)
    have hy := exc_turn1 bx bY hexc hx2
    rw [hy] at hY
    exact ⟨a, b, c, fun vs vd W hW h1 h2 => hY vs vd W (hg.of hW) (hs.below hW) h1 h2⟩
  have HX2 : chk46 (ts.map swpT) (cs.map swpC) = 0 → ∃ a b c : Rat, ∀ vs vd W, Below w.heap.size w W → RdG W vs (ts.map swpT) → RdC W vd (cs.map swpC) → Calls Tryz.prog 22 #[vs, vd] W (Ret W (.tuple #[.string (bs (R x)), .agg #[.string (bs (R a)), .string (bs (R b)), .string (bs (R c))], .int .i64 0])) := fun hk => by
    obtain ⟨a, b, c, y, hx2, _, _, hY⟩ := pexcess_ok (ts.map swpT) (cs.map swpC) hk (by simpa using h5)
    have hy := exc_turn2 hexc hx2
    rw [hy] at hY
    exact ⟨a, b, c, fun vs vd W hW h1 h2 => hY vs vd W (hg.of hW) (hs.below hW) h1 h2⟩
  have HRG := Lib.hid (fun i (hi : i < ts.length) (hj : i < cs.length) => (show (-100000 ≤ ts[i].x ∧ ts[i].x ≤ 100000 ∧ -100000 ≤ ts[i].y ∧ ts[i].y ≤ 100000) ∧ -100000 ≤ cs[i].x ∧ cs[i].x ≤ 100000 ∧ -100000 ≤ cs[i].y ∧ cs[i].y ≤ 100000 from by
    have hm := hrt (ts[i], cs[i]) (by rw [List.mem_iff_getElem]; exact ⟨i, by rw [List.length_zip]; omega, by simp⟩)
    have q1 := hm.1.x
    have q2 := hm.1.y
    have q3 := hm.2.1.x
    have q4 := hm.2.1.y
    exact ⟨⟨q1.1, q1.2, q2.1, q2.2⟩, q3.1, q3.2, q4.1, q4.2⟩))
  have HLC := Lib.hid (show ∀ i, i < ts.length → i < cs.length from fun i hi => by omega)
  have HCL2 := Lib.hid hlen
  have HNE := Lib.hid (And.intro (show ts ≠ [] from fun e => by rw [e] at hl0; cases hl0) (show cs ≠ [] from fun e => by rw [e] at hl1; cases hl1))
  obtain ⟨At, ct, rfl⟩ := ht.len
  obtain ⟨Ac, cc, rfl⟩ := hc.len
  clear hg hs ht hc nt nc h hr hb0 hrow hlen hrt hexc hbq hE h1 h16
  go_enter Tryz.func8, Tryz.ntmps8
  go_wp2_with fail
  refine (HR.out).mono ?_
  rintro e w1 ⟨rfl, hb1⟩
  have c0 := (HB0.out.2.below' hb1).cell (i := 0) rfl
  have c1 := (HB0.out.2.below' hb1).cell (i := 1) rfl
  have HB1 := Lib.hid (And.intro (bel_to HB0.out.1 hb1) (HB0.out.2.below' hb1))
  clear hb1 HR HB0
  go_wp2_with fail
  refine (HE.out _ HB1.out.1).mono ?_
  rintro e w2 ⟨rfl, hb2⟩
  have hb2a := bel_to hb2 (bel_al w2 (.cells #[.string (bs (R d0)), .string (bs (R d1)), .string (bs (R d2))] 41 (0, 0)))
  have HB2 := Lib.hid (And.intro (bel_to HB1.out.1 hb2a) (HB1.out.2.below' hb2a))
  have hbb : w.heap.size ≤ w.heap.size := Nat.le_refl _
  clear hb2 hb2a c0 c1 HB1 HE
  obtain ⟨bb, hbe⟩ : ∃ bb, bb = w.heap.size := ⟨_, rfl⟩
  rw [← hbe]
  rw [← hbe] at HB2
  have HBE := Lib.hid hbe
  clear hbe hbb
  go_wp2_with fail
  go_loopw [52] (fun iv wr => ∃ k : Int, iv = .int .i64 k ∧ 0 ≤ k ∧ k ≤ 3 ∧ Hid (Below w.heap.size w wr ∧ Row wr bb 23 [.int .i64 bx, .int .i64 bY])) (fun iv _ => (3 - intOf iv).toNat)
  case atStart => exact ⟨0, rfl, by decide, by decide, by rw [HBE.out]; rw [HBE.out] at HB2; exact HB2⟩
  case round =>
    clear HB2
    obtain ⟨k, rfl, hk0, hk3, hin⟩ := hrel
    rcases (by omega : k = 0 ∨ k = 1 ∨ k = 2 ∨ k = 3) with rfl | rfl | rfl | rfl
    · go_wp2_with fail
      refine (HC1.out _ hin.out.1).mono ?_
      rintro e w3 ⟨g, cap, rfl, hgB, ho1, hb3⟩
      have HO1 := Lib.hid (And.intro hgB (And.intro ho1 hb3))
      clear hgB ho1 hb3
      go_wp2_with fail
      refine (HC2.out _ (bel_to hin.out.1 HO1.out.2.2)).mono ?_
      rintro e w4 ⟨g2, cap2, rfl, hgB2, ho2, hb4⟩
      have HT4 : Hid (TuS w w4 bb g g2 cap cap2 ts.length cs.length bx bY ts cs) := Lib.hid ⟨(hin.out.2.below' HO1.out.2.2).below' hb4, OwnG.below (ownsRow_base HO1.out.2.1 hin.out.1.size) hb4, ownsRow_base ho2 (Nat.le_trans hin.out.1.size HO1.out.2.2.size), rfl, rfl, bel_to (bel_to hin.out.1 HO1.out.2.2) hb4, by rw [HBE.out]; exact Nat.le_refl _, Nat.lt_of_lt_of_le hin.out.2.lt HO1.out.1, by
        obtain ⟨g0, _, e0, _, h0⟩ := OwnG.form HO1.out.2.1 hl0
        injection e0 with e0
        injection e0 with e0
        injection e0 with e0
        rw [e0]; exact Nat.lt_of_lt_of_le h0 hgB2⟩
      clear hgB2 ho2 hb4 HO1 hin
      go_wp2_with fail
      refine (revOwnG g cap w.heap.size ts w4 HT4.out.og (by omega) HNE.out.1).mono ?_
      rintro e w5 ⟨rfl, ho5, hg5⟩
      have HT5 := Lib.hid (HT4.out.rev1 ho5 (by simp) hg5)
      clear ho5 hg5 HT4
      go_wp2_with fail
      refine (revOwnC g2 cap2 w.heap.size cs w5 HT5.out.oc (by have := HCL2.out; omega) HNE.out.2).mono ?_
      rintro e w6 ⟨rfl, ho6, hg6⟩
      have HTU := Lib.hid (HT5.out.rev2 ho6 (by simp) hg6)
      clear ho6 hg6 HT5
      have hrd := HTU.out.rd
      have HRD := Lib.hid hrd
      clear hrd
      by_cases hk : chk46 (ts.reverse) (cs.reverse) = 0
      · obtain ⟨a, b, c, hx⟩ := HX0 hk
        have hck := fun W (_ : Below w.heap.size w W) (h1 : RdG W (.slice (some ⟨g, 0, none⟩) ts.length cap) (ts.reverse)) (h2 : RdC W (.slice (some ⟨g2, 0, none⟩) cs.length cap2) (cs.reverse)) => HCH.out _ _ (ts.reverse) (cs.reverse) W h1 h2 (by simp) (by simp)
        rw [hk] at hck
        have HCK : Hid (∀ W, Below w.heap.size w W → RdG W (.slice (some ⟨g, 0, none⟩) ts.length cap) (ts.reverse) → RdC W (.slice (some ⟨g2, 0, none⟩) cs.length cap2) (cs.reverse) → Calls Tryz.prog 17 #[.slice (some ⟨g, 0, none⟩) ts.length cap, .slice (some ⟨g2, 0, none⟩) cs.length cap2] W (Ret W (.int .i64 0))) := Lib.hid hck
        have HXX := Lib.hid hx
        clear hck hx hk
        go_wp2_with fail
        refine (HCK.out _ HTU.out.bel HRD.out.1 HRD.out.2).mono ?_
        rintro e wa ⟨rfl, hba⟩
        have HTV := Lib.hid (HTU.out.to hba)
        clear hba HTU HRD HCK
        go_wp2_with fail
        refine (HXX.out _ _ _ HTV.out.bel HTV.out.rd.1 HTV.out.rd.2).mono ?_
        rintro e wb ⟨rfl, hbb⟩
        have HTW := Lib.hid (HTV.out.to (bel_to hbb (bel_al wb (.cells #[.string (bs (R a)), .string (bs (R b)), .string (bs (R c))] 41 (0, 0)))))
        have HRW := Lib.hid (And.intro HTW.out.bel HTW.out.row)
        clear hbb HTV HXX HTW
        go_wp2
        go_roundw
        case rel => exact ⟨1, by go_num, by decide, by decide, HRW⟩
        case measure => simp [intOf]
      · have HCK := Lib.hid (fun W (h1 : RdG W (.slice (some ⟨g, 0, none⟩) ts.length cap) (ts.reverse)) (h2 : RdC W (.slice (some ⟨g2, 0, none⟩) cs.length cap2) (cs.reverse)) => HCH.out _ _ (ts.reverse) (cs.reverse) W h1 h2 (by simp) (by simp))
        have hz := nz_bne hk
        generalize ((chk46 (ts.reverse) (cs.reverse) : Nat) : Int) = ck at *
        clear hk
        go_wp2_with fail
        refine (HCK.out _ HRD.out.1 HRD.out.2).mono ?_
        rintro e wa ⟨rfl, hba⟩
        have HTV := Lib.hid (HTU.out.to hba)
        have HRW := Lib.hid (And.intro HTV.out.bel HTV.out.row)
        clear hba HTU HRD HCK HTV
        go_wp2
        go_roundw
        case rel => exact ⟨1, by go_num, by decide, by decide, HRW⟩
        case measure => simp [intOf]
    · go_wp2_with fail
      refine (HC1.out _ hin.out.1).mono ?_
      rintro e w3 ⟨g, cap, rfl, hgB, ho1, hb3⟩
      have HO1 := Lib.hid (And.intro hgB (And.intro ho1 hb3))
      clear hgB ho1 hb3
      go_wp2_with fail
      refine (HC2.out _ (bel_to hin.out.1 HO1.out.2.2)).mono ?_
      rintro e w4 ⟨g2, cap2, rfl, hgB2, ho2, hb4⟩
      have HT4 : Hid (TuS w w4 bb g g2 cap cap2 ts.length cs.length bx bY ts cs) := Lib.hid ⟨(hin.out.2.below' HO1.out.2.2).below' hb4, OwnG.below (ownsRow_base HO1.out.2.1 hin.out.1.size) hb4, ownsRow_base ho2 (Nat.le_trans hin.out.1.size HO1.out.2.2.size), rfl, rfl, bel_to (bel_to hin.out.1 HO1.out.2.2) hb4, by rw [HBE.out]; exact Nat.le_refl _, Nat.lt_of_lt_of_le hin.out.2.lt HO1.out.1, by
        obtain ⟨g0, _, e0, _, h0⟩ := OwnG.form HO1.out.2.1 hl0
        injection e0 with e0
        injection e0 with e0
        injection e0 with e0
        rw [e0]; exact Nat.lt_of_lt_of_le h0 hgB2⟩
      clear hgB2 ho2 hb4 HO1 hin
      go_wp2_with fail
      go_loopw [110] (fun jv wq => ∃ i : Nat, jv = .int .i64 (i : Int) ∧ i ≤ ts.length ∧ Hid (TuS w wq bb g g2 cap cap2 ts.length cs.length bx bY (mixL (movT bx bY) i ts) (mixL (movC bx bY) i cs))) (fun jv _ => ts.length - (intOf jv).toNat)
      case atStart => exact ⟨0, rfl, by omega, Lib.hid (by rw [mixL_zero, mixL_zero]; exact HT4.out)⟩
      case round =>
        clear HT4
        obtain ⟨i, rfl, hi, hin⟩ := hrel
        by_cases hlt : i < ts.length
        · have hlc := HLC.out i hlt
          have hl1 := mixL_len (movT bx bY) i ts hi
          have hl2 := mixL_len (movC bx bY) i cs (Nat.le_of_lt hlc)
          have him : i < (mixL (movT bx bY) i ts).length := by omega
          have hjm : i < (mixL (movC bx bY) i cs).length := by omega
          have hat := hin.out.at i him hjm
          rw [mixL_get (movT bx bY) i ts hlt, mixL_get (movC bx bY) i cs hlc] at hat
          have a0 := hat.1
          have a1 := hat.2.1
          clear hat
          have r0 := hin.out.row.cell (i := 0) rfl
          have r1 := hin.out.row.cell (i := 1) rfl
          have hrg := HRG.out i hlt hlc
          have HS1 := Lib.hid (fun W6 (hW : Below wr.heap.size wr W6) => (show TuS w ((W6.setCell ⟨g, i * 7, none⟩ (.int .i64 (ts[i].x + bx))).setCell ⟨g, i * 7 + 1, none⟩ (.int .i64 (ts[i].y + bY))) bb g g2 cap cap2 ts.length cs.length bx bY (mixL (movT bx bY) (i + 1) ts) (mixL (movC bx bY) i cs) ∧ W6.cell? ⟨g, i * 7, none⟩ = some (.int .i64 ts[i].x) ∧ W6.frozen? ⟨g, i * 7, none⟩ = false ∧ (W6.setCell ⟨g, i * 7, none⟩ (.int .i64 (ts[i].x + bx))).cell? ⟨g, i * 7 + 1, none⟩ = some (.int .i64 ts[i].y) ∧ (W6.setCell ⟨g, i * 7, none⟩ (.int .i64 (ts[i].x + bx))).frozen? ⟨g, i * 7 + 1, none⟩ = false from by
            have h6 := hin.out.to hW
            have h7 := h6.setT i him (ts[i].x + bx) (ts[i].y + bY)
            rw [mixL_get (movT bx bY) i ts hlt] at h7
            rw [show ({ ts[i] with x := ts[i].x + bx, y := ts[i].y + bY } : Tg) = movT bx bY ts[i] from rfl, mixL_set (movT bx bY) i ts hlt] at h7
            have h8 := h6.at i him hjm
            have h9 := h6.freT i him (.int .i64 (ts[i].x + bx))
            rw [mixL_get (movT bx bY) i ts hlt] at h8 h9
            exact ⟨h7, h8.1, h8.2.2.2.2.1 _, h9.1, h9.2⟩))
          have HS2 := Lib.hid (fun W5 (h5 : TuS w W5 bb g g2 cap cap2 ts.length cs.length bx bY (mixL (movT bx bY) (i + 1) ts) (mixL (movC bx bY) i cs)) => (show W5.cell? ⟨g2, i * 3, none⟩ = some (.int .i64 cs[i].x) ∧ W5.cell? ⟨g2, i * 3 + 1, none⟩ = some (.int .i64 cs[i].y) ∧ ∀ W6, Below W5.heap.size W5 W6 → TuS w ((W6.setCell ⟨g2, i * 3, none⟩ (.int .i64 (cs[i].x + bx))).setCell ⟨g2, i * 3 + 1, none⟩ (.int .i64 (cs[i].y + bY))) bb g g2 cap cap2 ts.length cs.length bx bY (mixL (movT bx bY) (i + 1) ts) (mixL (movC bx bY) (i + 1) cs) ∧ W6.cell? ⟨g2, i * 3, none⟩ = some (.int .i64 cs[i].x) ∧ W6.frozen? ⟨g2, i * 3, none⟩ = false ∧ (W6.setCell ⟨g2, i * 3, none⟩ (.int .i64 (cs[i].x + bx))).cell? ⟨g2, i * 3 + 1, none⟩ = some (.int .i64 cs[i].y) ∧ (W6.setCell ⟨g2, i * 3, none⟩ (.int .i64 (cs[i].x + bx))).frozen? ⟨g2, i * 3 + 1, none⟩ = false from by
            have him2 : i < (mixL (movT bx bY) (i + 1) ts).length := by rw [mixL_len _ _ _ hlt]; exact hlt
            have h8 := h5.at i him2 hjm
            rw [mixL_get (movC bx bY) i cs hlc] at h8
            refine ⟨h8.2.2.1, h8.2.2.2.1, fun W6 hW => ?_⟩
            have h6 := h5.to hW
            have h7 := h6.setC i hjm (cs[i].x + bx) (cs[i].y + bY)
            rw [mixL_get (movC bx bY) i cs hlc] at h7
            rw [show ({ cs[i] with x := cs[i].x + bx, y := cs[i].y + bY } : Cc) = movC bx bY cs[i] from rfl, mixL_set (movC bx bY) i cs hlc] at h7
            have h10 := h6.at i him2 hjm
            have h9 := h6.freC i hjm (.int .i64 (cs[i].x + bx))
            rw [mixL_get (movC bx bY) i cs hlc] at h10 h9
            exact ⟨h7, h10.2.2.1, h10.2.2.2.2.2 _, h9.1, h9.2⟩))
          have hi0 : (0 : Int) ≤ (i : Int) := by omega
          have hi1 : (i : Int) < (ts.length : Int) := by omega
          have hi2 : (i : Int) < (cs.length : Int) := by omega
          clear hin hl1 hl2 him hjm
          generalize ts[i].x = tx at *
          generalize ts[i].y = ty at *
          generalize cs[i].x = cx at *
          generalize cs[i].y = cy at *
          have v1 : IntKind.i64.wrap (tx + bx) = tx + bx := IntWalk.i64_in _ (by omega)
          have v2 : IntKind.i64.wrap (ty + bY) = ty + bY := IntWalk.i64_in _ (by omega)
          have v3 : IntKind.i64.wrap (cx + bx) = cx + bx := IntWalk.i64_in _ (by omega)
          have v4 : IntKind.i64.wrap (cy + bY) = cy + bY := IntWalk.i64_in _ (by omega)
          have ma0 := cell_regrown a0
          have ma1 := cell_regrown a1
          have mr0 := cell_regrown r0
          have mr1 := cell_regrown r1
          clear a0 a1 r0 r1 hrg
          go_wp2_with fail
          refine region_below_tail 23 (by kernel_rfl) (by kernel_rfl) ?_
          simp only [List.take_succ_cons, List.take_zero, List.drop_succ_cons, List.drop_zero]
          repeat (go_big_quiet_step (fail))
          refine wpQuiet_nil ?_
          intro W6 hw'
          have hb6 : Below wr.heap.size wr W6 := by obtain ⟨p, e⟩ := hw'; rw [e]; exact below_regrown wr p.d p.os
          clear hw'
          obtain ⟨h7, s0, s1, s2, s3⟩ := HS1.out W6 hb6
          have HT7 := Lib.hid h7
          clear ma0 ma1 mr0 mr1 h7 hb6 HS1
          go_wp2_with fail
          refine genw (fun W => TuS w W bb g g2 cap cap2 ts.length cs.length bx bY (mixL (movT bx bY) (i + 1) ts) (mixL (movC bx bY) i cs)) HT7.out ?_
          intro W5 h5
          obtain ⟨b0, b1, hs⟩ := HS2.out W5 h5
          have HSS := Lib.hid hs
          have r0 := h5.row.cell (i := 0) rfl
          have r1 := h5.row.cell (i := 1) rfl
          have mb0 := cell_regrown b0
          have mb1 := cell_regrown b1
          have mr0 := cell_regrown r0
          have mr1 := cell_regrown r1
          clear s0 s1 s2 s3 h5 b0 b1 r0 r1 hs HS2 HT7
          go_wp2_with fail
          refine region_below_tail 23 (by kernel_rfl) (by kernel_rfl) ?_
          simp only [List.take_succ_cons, List.take_zero, List.drop_succ_cons, List.drop_zero]
          repeat (go_big_quiet_step (fail))
          refine wpQuiet_nil ?_
          intro W6 hw'
          have hb6 : Below W5.heap.size W5 W6 := by obtain ⟨p, e⟩ := hw'; rw [e]; exact below_regrown W5 p.d p.os
          clear hw'
          obtain ⟨h7, s0, s1, s2, s3⟩ := HSS.out W6 hb6
          have HT7 := Lib.hid h7
          clear mb0 mb1 mr0 mr1 h7 hb6 HSS
          go_wp2
          go_roundw
          case rel => exact ⟨i + 1, by go_num, by omega, HT7⟩
          case measure => simp [intOf]; omega
        · obtain rfl : i = ts.length := by omega
          have htu := hin.out
          rw [mixL_all, show mixL (movC bx bY) ts.length cs = cs.map (movC bx bY) by rw [← HCL2.out]; exact mixL_all _ _] at htu
          have HTU := Lib.hid htu
          clear hin htu hlt
          have hrd := HTU.out.rd
          have HRD := Lib.hid hrd
          clear hrd
          by_cases hk : chk46 (ts.map (movT bx bY)) (cs.map (movC bx bY)) = 0
          · obtain ⟨a, b, c, hx⟩ := HX1 hk
            have hck := fun W (_ : Below w.heap.size w W) (h1 : RdG W (.slice (some ⟨g, 0, none⟩) ts.length cap) (ts.map (movT bx bY))) (h2 : RdC W (.slice (some ⟨g2, 0, none⟩) cs.length cap2) (cs.map (movC bx bY))) => HCH.out _ _ (ts.map (movT bx bY)) (cs.map (movC bx bY)) W h1 h2 (by simp) (by simp)
            rw [hk] at hck
            have HCK : Hid (∀ W, Below w.heap.size w W → RdG W (.slice (some ⟨g, 0, none⟩) ts.length cap) (ts.map (movT bx bY)) → RdC W (.slice (some ⟨g2, 0, none⟩) cs.length cap2) (cs.map (movC bx bY)) → Calls Tryz.prog 17 #[.slice (some ⟨g, 0, none⟩) ts.length cap, .slice (some ⟨g2, 0, none⟩) cs.length cap2] W (Ret W (.int .i64 0))) := Lib.hid hck
            have HXX := Lib.hid hx
            clear hck hx hk
            go_wp2_with fail
            refine (HCK.out _ HTU.out.bel HRD.out.1 HRD.out.2).mono ?_
            rintro e wa ⟨rfl, hba⟩
            have HTV := Lib.hid (HTU.out.to hba)
            clear hba HTU HRD HCK
            go_wp2_with fail
            refine (HXX.out _ _ _ HTV.out.bel HTV.out.rd.1 HTV.out.rd.2).mono ?_
            rintro e wb ⟨rfl, hbb⟩
            have HTW := Lib.hid (HTV.out.to (bel_to hbb (bel_al wb (.cells #[.string (bs (R a)), .string (bs (R b)), .string (bs (R c))] 41 (0, 0)))))
            have HRW := Lib.hid (And.intro HTW.out.bel HTW.out.row)
            clear hbb HTV HXX HTW
            go_wp2
            go_roundw
            case rel => exact ⟨2, by go_num, by decide, by decide, HRW⟩
            case measure => simp [intOf]
          · have HCK := Lib.hid (fun W (h1 : RdG W (.slice (some ⟨g, 0, none⟩) ts.length cap) (ts.map (movT bx bY))) (h2 : RdC W (.slice (some ⟨g2, 0, none⟩) cs.length cap2) (cs.map (movC bx bY))) => HCH.out _ _ (ts.map (movT bx bY)) (cs.map (movC bx bY)) W h1 h2 (by simp) (by simp))
            have hz := nz_bne hk
            generalize ((chk46 (ts.map (movT bx bY)) (cs.map (movC bx bY)) : Nat) : Int) = ck at *
            clear hk
            go_wp2_with fail
            refine (HCK.out _ HRD.out.1 HRD.out.2).mono ?_
            rintro e wa ⟨rfl, hba⟩
            have HTV := Lib.hid (HTU.out.to hba)
            have HRW := Lib.hid (And.intro HTV.out.bel HTV.out.row)
            clear hba HTU HRD HCK HTV
            go_wp2
            go_roundw
            case rel => exact ⟨2, by go_num, by decide, by decide, HRW⟩
            case measure => simp [intOf]
    · go_wp2_with fail
      refine (HC1.out _ hin.out.1).mono ?_
      rintro e w3 ⟨g, cap, rfl, hgB, ho1, hb3⟩
      have HO1 := Lib.hid (And.intro hgB (And.intro ho1 hb3))
      clear hgB ho1 hb3
      go_wp2_with fail
      refine (HC2.out _ (bel_to hin.out.1 HO1.out.2.2)).mono ?_
      rintro e w4 ⟨g2, cap2, rfl, hgB2, ho2, hb4⟩
      have HT4 : Hid (TuS w w4 bb g g2 cap cap2 ts.length cs.length bx bY ts cs) := Lib.hid ⟨(hin.out.2.below' HO1.out.2.2).below' hb4, OwnG.below (ownsRow_base HO1.out.2.1 hin.out.1.size) hb4, ownsRow_base ho2 (Nat.le_trans hin.out.1.size HO1.out.2.2.size), rfl, rfl, bel_to (bel_to hin.out.1 HO1.out.2.2) hb4, by rw [HBE.out]; exact Nat.le_refl _, Nat.lt_of_lt_of_le hin.out.2.lt HO1.out.1, by
        obtain ⟨g0, _, e0, _, h0⟩ := OwnG.form HO1.out.2.1 hl0
        injection e0 with e0
        injection e0 with e0
        injection e0 with e0
        rw [e0]; exact Nat.lt_of_lt_of_le h0 hgB2⟩
      clear hgB2 ho2 hb4 HO1 hin
      go_wp2_with fail
      go_loopw [62] (fun jv wq => ∃ i : Nat, jv = .int .i64 (i : Int) ∧ i ≤ ts.length ∧ Hid (TuS w wq bb g g2 cap cap2 ts.length cs.length bx bY (mixL (swpT) i ts) (mixL (swpC) i cs))) (fun jv _ => ts.length - (intOf jv).toNat)
      case atStart => exact ⟨0, rfl, by omega, Lib.hid (by rw [mixL_zero, mixL_zero]; exact HT4.out)⟩
      case round =>
        clear HT4
        obtain ⟨i, rfl, hi, hin⟩ := hrel
        by_cases hlt : i < ts.length
        · have hlc := HLC.out i hlt
          have hl1 := mixL_len (swpT) i ts hi
          have hl2 := mixL_len (swpC) i cs (Nat.le_of_lt hlc)
          have him : i < (mixL (swpT) i ts).length := by omega
          have hjm : i < (mixL (swpC) i cs).length := by omega
          have hat := hin.out.at i him hjm
          rw [mixL_get (swpT) i ts hlt, mixL_get (swpC) i cs hlc] at hat
          have a0 := hat.1
          have a1 := hat.2.1
          clear hat
          have r0 := hin.out.row.cell (i := 0) rfl
          have r1 := hin.out.row.cell (i := 1) rfl
          have hrg := HRG.out i hlt hlc
          have HS1 := Lib.hid (fun W6 (hW : Below wr.heap.size wr W6) => (show TuS w ((W6.setCell ⟨g, i * 7, none⟩ (.int .i64 (ts[i].y))).setCell ⟨g, i * 7 + 1, none⟩ (.int .i64 (ts[i].x))) bb g g2 cap cap2 ts.length cs.length bx bY (mixL (swpT) (i + 1) ts) (mixL (swpC) i cs) ∧ W6.cell? ⟨g, i * 7, none⟩ = some (.int .i64 ts[i].x) ∧ W6.frozen? ⟨g, i * 7, none⟩ = false ∧ (W6.setCell ⟨g, i * 7, none⟩ (.int .i64 (ts[i].y))).cell? ⟨g, i * 7 + 1, none⟩ = some (.int .i64 ts[i].y) ∧ (W6.setCell ⟨g, i * 7, none⟩ (.int .i64 (ts[i].y))).frozen? ⟨g, i * 7 + 1, none⟩ = false from by
            have h6 := hin.out.to hW
            have h7 := h6.setT i him (ts[i].y) (ts[i].x)
            rw [mixL_get (swpT) i ts hlt] at h7
            rw [show ({ ts[i] with x := ts[i].y, y := ts[i].x } : Tg) = swpT ts[i] from rfl, mixL_set (swpT) i ts hlt] at h7
            have h8 := h6.at i him hjm
            have h9 := h6.freT i him (.int .i64 (ts[i].y))
            rw [mixL_get (swpT) i ts hlt] at h8 h9
            exact ⟨h7, h8.1, h8.2.2.2.2.1 _, h9.1, h9.2⟩))
          have HS2 := Lib.hid (fun W5 (h5 : TuS w W5 bb g g2 cap cap2 ts.length cs.length bx bY (mixL (swpT) (i + 1) ts) (mixL (swpC) i cs)) => (show W5.cell? ⟨g2, i * 3, none⟩ = some (.int .i64 cs[i].x) ∧ W5.cell? ⟨g2, i * 3 + 1, none⟩ = some (.int .i64 cs[i].y) ∧ ∀ W6, Below W5.heap.size W5 W6 → TuS w ((W6.setCell ⟨g2, i * 3, none⟩ (.int .i64 (cs[i].y))).setCell ⟨g2, i * 3 + 1, none⟩ (.int .i64 (cs[i].x))) bb g g2 cap cap2 ts.length cs.length bx bY (mixL (swpT) (i + 1) ts) (mixL (swpC) (i + 1) cs) ∧ W6.cell? ⟨g2, i * 3, none⟩ = some (.int .i64 cs[i].x) ∧ W6.frozen? ⟨g2, i * 3, none⟩ = false ∧ (W6.setCell ⟨g2, i * 3, none⟩ (.int .i64 (cs[i].y))).cell? ⟨g2, i * 3 + 1, none⟩ = some (.int .i64 cs[i].y) ∧ (W6.setCell ⟨g2, i * 3, none⟩ (.int .i64 (cs[i].y))).frozen? ⟨g2, i * 3 + 1, none⟩ = false from by
            have him2 : i < (mixL (swpT) (i + 1) ts).length := by rw [mixL_len _ _ _ hlt]; exact hlt
            have h8 := h5.at i him2 hjm
            rw [mixL_get (swpC) i cs hlc] at h8
            refine ⟨h8.2.2.1, h8.2.2.2.1, fun W6 hW => ?_⟩
            have h6 := h5.to hW
            have h7 := h6.setC i hjm (cs[i].y) (cs[i].x)
            rw [mixL_get (swpC) i cs hlc] at h7
            rw [show ({ cs[i] with x := cs[i].y, y := cs[i].x } : Cc) = swpC cs[i] from rfl, mixL_set (swpC) i cs hlc] at h7
            have h10 := h6.at i him2 hjm
            have h9 := h6.freC i hjm (.int .i64 (cs[i].y))
            rw [mixL_get (swpC) i cs hlc] at h10 h9
            exact ⟨h7, h10.2.2.1, h10.2.2.2.2.2 _, h9.1, h9.2⟩))
          have hi0 : (0 : Int) ≤ (i : Int) := by omega
          have hi1 : (i : Int) < (ts.length : Int) := by omega
          have hi2 : (i : Int) < (cs.length : Int) := by omega
          clear hin hl1 hl2 him hjm
          generalize ts[i].x = tx at *
          generalize ts[i].y = ty at *
          generalize cs[i].x = cx at *
          generalize cs[i].y = cy at *
          have ma0 := cell_regrown a0
          have ma1 := cell_regrown a1
          have mr0 := cell_regrown r0
          have mr1 := cell_regrown r1
          clear a0 a1 r0 r1 hrg
          go_wp2_with fail
          refine region_below_tail 17 (by kernel_rfl) (by kernel_rfl) ?_
          simp only [List.take_succ_cons, List.take_zero, List.drop_succ_cons, List.drop_zero]
          repeat (go_big_quiet_step (fail))
          refine wpQuiet_nil ?_
          intro W6 hw'
          have hb6 : Below wr.heap.size wr W6 := by obtain ⟨p, e⟩ := hw'; rw [e]; exact below_regrown wr p.d p.os
          clear hw'
          obtain ⟨h7, s0, s1, s2, s3⟩ := HS1.out W6 hb6
          have HT7 := Lib.hid h7
          clear ma0 ma1 mr0 mr1 h7 hb6 HS1
          go_wp2_with fail
          refine genw (fun W => TuS w W bb g g2 cap cap2 ts.length cs.length bx bY (mixL (swpT) (i + 1) ts) (mixL (swpC) i cs)) HT7.out ?_
          intro W5 h5
          obtain ⟨b0, b1, hs⟩ := HS2.out W5 h5
          have HSS := Lib.hid hs
          have r0 := h5.row.cell (i := 0) rfl
          have r1 := h5.row.cell (i := 1) rfl
          have mb0 := cell_regrown b0
          have mb1 := cell_regrown b1
          have mr0 := cell_regrown r0
          have mr1 := cell_regrown r1
          clear s0 s1 s2 s3 h5 b0 b1 r0 r1 hs HS2 HT7
          go_wp2_with fail
          refine region_below_tail 17 (by kernel_rfl) (by kernel_rfl) ?_
          simp only [List.take_succ_cons, List.take_zero, List.drop_succ_cons, List.drop_zero]
          repeat (go_big_quiet_step (fail))
          refine wpQuiet_nil ?_
          intro W6 hw'
          have hb6 : Below W5.heap.size W5 W6 := by obtain ⟨p, e⟩ := hw'; rw [e]; exact below_regrown W5 p.d p.os
          clear hw'
          obtain ⟨h7, s0, s1, s2, s3⟩ := HSS.out W6 hb6
          have HT7 := Lib.hid h7
          clear mb0 mb1 mr0 mr1 h7 hb6 HSS
          go_wp2
          go_roundw
          case rel => exact ⟨i + 1, by go_num, by omega, HT7⟩
          case measure => simp [intOf]; omega
        · obtain rfl : i = ts.length := by omega
          have htu := hin.out
          rw [mixL_all, show mixL (swpC) ts.length cs = cs.map (swpC) by rw [← HCL2.out]; exact mixL_all _ _] at htu
          have HTU := Lib.hid htu
          clear hin htu hlt
          have hrd := HTU.out.rd
          have HRD := Lib.hid hrd
          clear hrd
          by_cases hk : chk46 (ts.map swpT) (cs.map swpC) = 0
          · obtain ⟨a, b, c, hx⟩ := HX2 hk
            have hck := fun W (_ : Below w.heap.size w W) (h1 : RdG W (.slice (some ⟨g, 0, none⟩) ts.length cap) (ts.map swpT)) (h2 : RdC W (.slice (some ⟨g2, 0, none⟩) cs.length cap2) (cs.map swpC)) => HCH.out _ _ (ts.map swpT) (cs.map swpC) W h1 h2 (by simp) (by simp)
            rw [hk] at hck
            have HCK : Hid (∀ W, Below w.heap.size w W → RdG W (.slice (some ⟨g, 0, none⟩) ts.length cap) (ts.map swpT) → RdC W (.slice (some ⟨g2, 0, none⟩) cs.length cap2) (cs.map swpC) → Calls Tryz.prog 17 #[.slice (some ⟨g, 0, none⟩) ts.length cap, .slice (some ⟨g2, 0, none⟩) cs.length cap2] W (Ret W (.int .i64 0))) := Lib.hid hck
            have HXX := Lib.hid hx
            clear hck hx hk
            go_wp2_with fail
            refine (HCK.out _ HTU.out.bel HRD.out.1 HRD.out.2).mono ?_
            rintro e wa ⟨rfl, hba⟩
            have HTV := Lib.hid (HTU.out.to hba)
            clear hba HTU HRD HCK
            go_wp2_with fail
            refine (HXX.out _ _ _ HTV.out.bel HTV.out.rd.1 HTV.out.rd.2).mono ?_
            rintro e wb ⟨rfl, hbb⟩
            have HTW := Lib.hid (HTV.out.to (bel_to hbb (bel_al wb (.cells #[.string (bs (R a)), .string (bs (R b)), .string (bs (R c))] 41 (0, 0)))))
            have HRW := Lib.hid (And.intro HTW.out.bel HTW.out.row)
            clear hbb HTV HXX HTW
            go_wp2
            go_roundw
            case rel => exact ⟨3, by go_num, by decide, by decide, HRW⟩
            case measure => simp [intOf]
          · have HCK := Lib.hid (fun W (h1 : RdG W (.slice (some ⟨g, 0, none⟩) ts.length cap) (ts.map swpT)) (h2 : RdC W (.slice (some ⟨g2, 0, none⟩) cs.length cap2) (cs.map swpC)) => HCH.out _ _ (ts.map swpT) (cs.map swpC) W h1 h2 (by simp) (by simp))
            have hz := nz_bne hk
            generalize ((chk46 (ts.map swpT) (cs.map swpC) : Nat) : Int) = ck at *
            clear hk
            go_wp2_with fail
            refine (HCK.out _ HRD.out.1 HRD.out.2).mono ?_
            rintro e wa ⟨rfl, hba⟩
            have HTV := Lib.hid (HTU.out.to hba)
            have HRW := Lib.hid (And.intro HTV.out.bel HTV.out.row)
            clear hba HTU HRD HCK HTV
            go_wp2
            go_roundw
            case rel => exact ⟨3, by go_num, by decide, by decide, HRW⟩
            case measure => simp [intOf]
    · go_wp2_with fail
      refine (HA.out _ hin.out.1).mono ?_
      rintro e w3 ⟨rfl, hb3⟩
      have HB3 := Lib.hid (bel_to hin.out.1 hb3)
      clear hb3 hin HA
      go_wp2
      go_ret
      exact ⟨rfl, HB3.out⟩
theorem turns_law (vt vc : Value) (ts : List Tg) (cs : List Cc) (bx bY : Int) (w : World) (hg : Glob w) (hs : Sig w) (ht : RdG w vt ts) (hc : RdC w vc cs) (nt : ts.length ≤ maxLen) (nc : cs.length ≤ maxLen) : Calls Tryz.prog 8 #[vt, vc, .agg #[.int .i64 bx, .int .i64 bY]] w (Ret w (.bool true)) := by
  by_cases hr : (decide (ts.length ≤ 5) && decide (chk46 ts cs = 0)) = true
  · by_cases hi : ¬ bx < -99 ∧ ¬ 99 < bx ∧ ¬ bY < -99 ∧ ¬ 99 < bY
    · rw [Bool.and_eq_true, decide_eq_true_eq, decide_eq_true_eq] at hr
      exact turns_main vt vc ts cs bx bY w hg hs ht hc nt nc hr.2 hr.1 hi.1 hi.2.1 hi.2.2.1 hi.2.2.2
    · exact turns_out vt vc ts cs bx bY w hg hs ht hc nt nc hr (by omega)
  · exact turns_not vt vc ts cs bx bY w hg hs ht hc nt nc (by simpa using hr)
end W
end Go.Proofs.YtfcffheboncmbaaGreatDoor
end
