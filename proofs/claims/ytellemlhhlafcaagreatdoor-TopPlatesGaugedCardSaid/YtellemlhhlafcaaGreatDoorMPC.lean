/-
  Chapter 49 of the program: 'Together', 'Margins', 'Safe'; the ideal gauge of a plate.
-/
import Derived.Test.YtellemlhhlafcaaGreatDoorMPB
import Derived.Test.YtellemlhhlafcaaGreatDoorMOG
section
namespace Go.Proofs.YtellemlhhlafcaaGreatDoor
open Go Go.RowKit Go.Deep Go.Sort
theorem row_grownTL {w w' : World} {B g : Nat} {v : Value} {t : TypeId} {xs : List Value} {l : List M.To} (h : Row w g t xs) (ho : OwnTL w B v l) (hg : w.grownBy w' v.ownBlock) (hlt : g < B) : Row w' g t xs := by
  have hne : some g ≠ v.ownBlock := fun e => by have := (World.ownsRow.lt ho g e.symm).1; omega
  exact (hg.block g (Row.lt h) hne).trans h
namespace M
def togT (A : List Tg) (p q : List Cc) : Bool := decide (∀ x ∈ plL A p q, 0 ≤ x) && (firstD (zipJ A p q)).isSome
end M
namespace W
open M
attribute [local go_sem] bs_size bs_toList bs_get bs_extract bs_append bs_lit0 bs_lit1 lit1_bs
set_option maxHeartbeats 2000000
set_option maxRecDepth 20000
def ToP (b : Bool) (w : World) (e : Ending) (w' : World) : Prop := ∃ i j s : Int, e = .returned (.tuple #[.bool b, .agg #[.int .i64 i, .int .i64 j, .int .i64 s], .int .i64 0]) ∧ Below w.heap.size w w'
theorem ToP.mk {b : Bool} {w w' : World} {i j s : Int} (h : Below w.heap.size w w') : ToP b w (.returned (.tuple #[.bool b, .agg #[.int .i64 i, .int .i64 j, .int .i64 s], .int .i64 0])) w' := ⟨i, j, s, rfl, h⟩
theorem atogether (va vb vp vq : Value) (A B : List Tg) (p q : List Cc) (w : World) (hg : Glob w) (ha : RdG w va A) (hb : RdG w vb B) (hp : RdC w vp p) (hq : RdC w vq q) (h : RightG A B p q) :
    Calls Tryz.prog 24 #[joV va vb, joV vp vq] w (ToP (togT A p q) w) := by
  have HPT := Lib.hid (fun W (hW : Below w.heap.size w W) => aplates va vb vp vq A B p q W (ha.below hW) (hb.below hW) (hp.below hW) (hq.below hW) h)
  have HPL := Lib.hid (fun W (hW : Below w.heap.size w W) => aplays va vb vp vq A B p q W (ha.below hW) (hb.below hW) (hp.below hW) (hq.below hW) h)
  have HZO := Lib.hid (fun W (hW : Below w.heap.size w W) => azones va vb vp vq A B p q W (hg.of hW) (ha.below hW) (hb.below hW) (hp.below hW) (hq.below hW) h)
  have hqa : q.length = A.length := by rw [h.lq, h.c.len]
  have hpl := plL_len h.lp hqa
  have hzl := zipJ_len h.lp hqa
  have h1 := h.c.h0
  have h16 := h.c.h1
  have HFL := Lib.hid (fun vl W (hl : RdI W vl (plL A p q)) => afiltered vl (plL A p q) W hl (by rw [hpl]; exact h16))
  have hS : ∀ d ∈ zipJ A p q, SmD d := fun d hd => by
    obtain ⟨i, hi, rfl⟩ := List.mem_iff_getElem.1 hd
    have hiA : i < A.length := by omega
    have h3 : i < p.length := by rw [h.lp]; exact hiA
    have h4 : i < q.length := by rw [hqa]; exact hiA
    rw [zipJ_get i hiA h3 h4]
    obtain ⟨rp, rq⟩ := h.rc i hiA h3 h4
    exact dkJ_sm rp rq
  have HCO := Lib.hid (fun vl W (hW : Below w.heap.size w W) (hl : RdK W vl (zipJ A p q)) => kcommon vl _ W (hg.of hW) hl (by omega) (by omega) hS)
  unfold FlP at HFL
  obtain ⟨Aa, ca, rfl⟩ := ha.len
  obtain ⟨Ab, cb, rfl⟩ := hb.len
  obtain ⟨Ap, cp, rfl⟩ := hp.len
  obtain ⟨Aq, cq, rfl⟩ := hq.len
  unfold togT
  generalize plL A p q = ml at *
  generalize zipJ A p q = dl at *
  obtain ⟨x, hx⟩ : ∃ x, x = (firstD dl).getD ⟨0, 0, 0⟩ := ⟨_, rfl⟩
  rw [← hx] at HCO
  generalize (firstD dl).isSome = ok at *
  generalize hbt : (decide (∀ x ∈ ml, 0 ≤ x) && ok) = bt
  have HBT := Lib.hid hbt
  clear hbt
  have hb0 := bel_al2 w (.cells #[.slice Aa A.length ca, .slice Ab B.length cb] 70 (0, 0)) (.cells #[.slice Ap p.length cp, .slice Aq q.length cq] 72 (0, 0))
  have hr1 : Row ((w.alloc (.cells #[.slice Aa A.length ca, .slice Ab B.length cb] 70 (0, 0))).alloc (.cells #[.slice Ap p.length cp, .slice Aq q.length cq] 72 (0, 0))) w.heap.size 70 [.slice Aa A.length ca, .slice Ab B.length cb] := rnw.alloc _
  have hr2 : Row ((w.alloc (.cells #[.slice Aa A.length ca, .slice Ab B.length cb] 70 (0, 0))).alloc (.cells #[.slice Ap p.length cp, .slice Aq q.length cq] 72 (0, 0))) (w.heap.size + 1) 72 [.slice Ap p.length cp, .slice Aq q.length cq] := rnew0 (World.size_alloc _ _).symm
  have hal := bel_al ((w.alloc (.cells #[.slice Aa A.length ca, .slice Ab B.length cb] 70 (0, 0))).alloc (.cells #[.slice Ap p.length cp, .slice Aq q.length cq] 72 (0, 0))) (.cells #[.int .i64 0, .int .i64 0, .int .i64 0] 42 (0, 0))
  have hr3 : Row (((w.alloc (.cells #[.slice Aa A.length ca, .slice Ab B.length cb] 70 (0, 0))).alloc (.cells #[.slice Ap p.length cp, .slice Aq q.length cq] 72 (0, 0))).alloc (.cells #[.int .i64 0, .int .i64 0, .int .i64 0] 42 (0, 0))) (w.heap.size + 1 + 1) 42 [.int .i64 0, .int .i64 0, .int .i64 0] := rnew0 (by rw [World.size_alloc, World.size_alloc])
  have HR := Lib.hid (And.intro (hr1.below' hal) (And.intro (hr2.below' hal) (And.intro hr3 (bel_to hb0 hal))))
  clear ha hb hp hq hb0 hr1 hr2 hr3 hal h hqa hpl hzl hS hg hx
  unfold joV at HPT HPL HZO ⊢
  go_enter Tryz.func24, Tryz.ntmps24
  have r0 := HR.out.1.cell (i := 0) rfl
  have r1 := HR.out.1.cell (i := 1) rfl
  have s0 := HR.out.2.1.cell (i := 0) rfl
  have s1 := HR.out.2.1.cell (i := 1) rfl
  go_wp2_with fail
  refine (HPT.out _ HR.out.2.2.2).mono ?_
  rintro e w1 ⟨rfl, hb1⟩
  have H1 := Lib.hid (And.intro (HR.out.1.below' hb1) (And.intro (HR.out.2.1.below' hb1) (And.intro (HR.out.2.2.1.below' hb1) (bel_to HR.out.2.2.2 hb1))))
  clear hb1 HR HPT r0 r1 s0 s1
  have r0 := H1.out.1.cell (i := 0) rfl
  have r1 := H1.out.1.cell (i := 1) rfl
  have s0 := H1.out.2.1.cell (i := 0) rfl
  have s1 := H1.out.2.1.cell (i := 1) rfl
  go_wp2_with fail
  refine (HPL.out _ H1.out.2.2.2).mono ?_
  rintro e w2 ⟨v, rfl, ho, hb2⟩
  obtain ⟨VA, vn, vc, hve⟩ := ho.shape
  subst hve
  have H2 := Lib.hid (And.intro (H1.out.1.below' hb2) (And.intro (H1.out.2.1.below' hb2) (And.intro (H1.out.2.2.1.below' hb2) (And.intro (bel_to H1.out.2.2.2 hb2) ho.rd))))
  clear hb2 ho H1 HPL r0 r1 s0 s1
  go_wp2_with fail
  refine (HFL.out _ _ H2.out.2.2.2.2).mono ?_
  rintro e w3 ⟨FA, fn, fc, rfl, hfn, hb3⟩
  have H3 := Lib.hid (And.intro (H2.out.1.below' hb3) (And.intro (H2.out.2.1.below' hb3) (And.intro (H2.out.2.2.1.below' hb3) (bel_to H2.out.2.2.2.1 hb3))))
  clear hb3 H2 HFL
  by_cases hn : fn = 0
  · have hall := hfn.1 hn
    obtain rfl : bt = ok := by rw [← HBT.out, decide_eq_true hall, Bool.true_and]
    clear HBT
    subst hn
    have r0 := H3.out.1.cell (i := 0) rfl
    have r1 := H3.out.1.cell (i := 1) rfl
    have s0 := H3.out.2.1.cell (i := 0) rfl
    have s1 := H3.out.2.1.cell (i := 1) rfl
    clear hfn hall
    go_wp2_with fail
    refine (HZO.out _ H3.out.2.2.2).mono ?_
    rintro e w4 ⟨v, rfl, ho, hb4⟩
    obtain ⟨ZA, zn, zc, hve⟩ := ho.shape
    subst hve
    have H4 := Lib.hid (And.intro (H3.out.2.2.1.below' hb4) (And.intro (bel_to H3.out.2.2.2 hb4) ho.rd))
    clear hb4 ho H3 HZO r0 r1 s0 s1
    go_wp2_with fail
    refine (HCO.out _ _ H4.out.2.1 H4.out.2.2).mono ?_
    rintro e w5 ⟨rfl, hb5⟩
    have hal := bel_al w5 (.cells #[.int .i64 (x.i : Int), .int .i64 (x.j : Int), .int .i64 x.side] 42 (0, 0))
    have hrn : Row (w5.alloc (.cells #[.int .i64 (x.i : Int), .int .i64 (x.j : Int), .int .i64 x.side] 42 (0, 0))) w5.heap.size 42 [.int .i64 (x.i : Int), .int .i64 (x.j : Int), .int .i64 x.side] := rnw
    have hlt5 : w.heap.size + 1 + 1 < w5.heap.size := Nat.lt_of_lt_of_le (Row.lt H4.out.1) hb5.size
    have HW5 := Lib.hid (And.intro (H4.out.1.below' hb5) (bel_to H4.out.2.1 hb5))
    have H5 := Lib.hid (And.intro ((H4.out.1.below' hb5).below' hal) (And.intro (bel_to (bel_to H4.out.2.1 hb5) hal) hrn))
    clear hb5 hal hrn H4 HCO
    have n1 : w5.heap.size ≠ w.heap.size + 1 + 1 := by omega
    cases bt with
    | true =>
      go_wp2_with fail
      generalize w5.alloc (.cells #[.int .i64 (x.i : Int), .int .i64 (x.j : Int), .int .i64 x.side] 42 (0, 0)) = V at *
      generalize w5.heap.size = g5 at *
      have x0 := H5.out.2.2.cell (i := 0) rfl
      have x1 := H5.out.2.2.cell (i := 1) rfl
      have x2 := H5.out.2.2.cell (i := 2) rfl
      obtain ⟨⟨f0, m0⟩, ⟨f1, m1⟩, ⟨f2, m2⟩, hrow⟩ := three_store (.int .i64 (x.i : Int)) (.int .i64 (x.j : Int)) (.int .i64 x.side) H5.out.1
      have HQ := Lib.hid (And.intro hrow (three_below (.int .i64 (x.i : Int)) (.int .i64 (x.j : Int)) (.int .i64 x.side) H5.out.2.1 (A := w.heap.size + 1 + 1) (by omega)))
      clear hrow H5
      go_region
      have hq := HQ.out.1.below' (RowKit.Below.drew (Below.refl _ _))
      have q0 := hq.cell (i := 0) rfl
      have q1 := hq.cell (i := 1) rfl
      have q2 := hq.cell (i := 2) rfl
      clear hq f0 f1 f2 m0 m1 m2 x0 x1 x2 n1
      go_wp2
      refine bodyPost_ret (v := .tuple #[.bool true, .agg #[.int .i64 (x.i : Int), .int .i64 (x.j : Int), .int .i64 x.side], .int .i64 0]) (by simp [results, Tryz.results24, go_sem, q0, q1, q2]) rfl (ToP.mk (RowKit.Below.drew HQ.out.2))
    | false =>
      obtain ⟨⟨f0, m0⟩, ⟨f1, m1⟩, ⟨f2, m2⟩, hrow⟩ := three_store (.int .i64 0) (.int .i64 0) (.int .i64 0) HW5.out.1
      have hbq := three_below (.int .i64 0) (.int .i64 0) (.int .i64 0) HW5.out.2 (A := w.heap.size + 1 + 1) (by omega)
      have HQ := Lib.hid (And.intro (hrow.alloc (.cells #[.int .i64 (x.i : Int), .int .i64 (x.j : Int), .int .i64 x.side] 42 (0, 0))) (bel_to hbq (bel_al _ (.cells #[.int .i64 (x.i : Int), .int .i64 (x.j : Int), .int .i64 x.side] 42 (0, 0)))))
      clear hrow H5 HW5 hbq
      go_wp2
      have q0 := HQ.out.1.cell (i := 0) rfl
      have q1 := HQ.out.1.cell (i := 1) rfl
      have q2 := HQ.out.1.cell (i := 2) rfl
      refine bodyPost_ret (v := .tuple #[.bool false, .agg #[.int .i64 0, .int .i64 0, .int .i64 0], .int .i64 0]) (by simp [results, Tryz.results24, go_sem, q0, q1, q2]) rfl (ToP.mk HQ.out.2)
  · have hall : ¬ ∀ x ∈ ml, 0 ≤ x := fun e => hn (hfn.2 e)
    obtain rfl : bt = false := by rw [← HBT.out, decide_eq_false hall, Bool.false_and]
    clear HBT
    have hpos : 0 < fn := by omega
    have hpos2 : 0 < (fn : Int) := by omega
    obtain ⟨⟨f0, m0⟩, ⟨f1, m1⟩, ⟨f2, m2⟩, hrow⟩ := three_store (.int .i64 0) (.int .i64 0) (.int .i64 0) H3.out.2.2.1
    have HQ := Lib.hid (And.intro hrow (three_below (.int .i64 0) (.int .i64 0) (.int .i64 0) H3.out.2.2.2 (A := w.heap.size + 1 + 1) (by omega)))
    clear hrow H3 hfn hall hn HZO HCO
    go_wp2
    have q0 := HQ.out.1.cell (i := 0) rfl
    have q1 := HQ.out.1.cell (i := 1) rfl
    have q2 := HQ.out.1.cell (i := 2) rfl
    refine bodyPost_ret (v := .tuple #[.bool false, .agg #[.int .i64 0, .int .i64 0, .int .i64 0], .int .i64 0]) (by simp [results, Tryz.results24, go_sem, q0, q1, q2]) rfl (ToP.mk HQ.out.2)
theorem prunIdeal (vl vc : Value) (l : List Tg) (cs : List Cc) (w : World) (hs : Sig w) (hl : RdG w vl l) (hc : RdC w vc cs) (hn : l.length ≤ 16) (ht : ∀ t ∈ l, RtT t ∧ t.mat = 1) :
    Calls Tryz.prog 23 #[vl, vc] w (fun e w' => ∃ v, e = .returned (.tuple #[trV v vc, .bool true]) ∧ OwnTL w' w.heap.size v (l.map idT) ∧ Below w.heap.size w w') := by
  have HV := Lib.hid (fun i (hi : i < l.length) W (hW : Below w.heap.size w W) => bvirtual l[i] W (hs.below hW) (ht _ (List.getElem_mem hi)).1 (ht _ (List.getElem_mem hi)).2)
  have HTK := Lib.hid (fun i (hi : i < l.length) => show (l.map idT).take (i + 1) = (l.map idT).take i ++ [idT l[i]] from by
    rw [List.take_succ_eq_append_getElem (by rw [List.length_map]; exact hi)]
    simp)
  have HFU : Hid ((l.map idT).take l.length = l.map idT) := Lib.hid (List.take_of_length_le (by rw [List.length_map]; omega))
  have HLT := Lib.hid (fun i (hi : i ≤ l.length) => show ((l.map idT).take i).length ≤ 16 from by rw [List.length_take, List.length_map]; omega)
  have HL := Lib.hid hl
  obtain ⟨A, cap, rfl⟩ := hl.len
  obtain ⟨B, cap2, rfl⟩ := hc.len
  have hb0 := bel_al2 w (.cells #[.bool false, .slice none 0 0, .slice none 0 0] 55 (0, 0)) (.cells #[.bool false, .slice none 0 0, .slice B cs.length cap2] 55 (0, 0))
  have hr1 : Row ((w.alloc (.cells #[.bool false, .slice none 0 0, .slice none 0 0] 55 (0, 0))).alloc (.cells #[.bool false, .slice none 0 0, .slice B cs.length cap2] 55 (0, 0))) w.heap.size 55 [.bool false, .slice none 0 0, .slice none 0 0] := rnw.alloc _
  have hr2 : Row ((w.alloc (.cells #[.bool false, .slice none 0 0, .slice none 0 0] 55 (0, 0))).alloc (.cells #[.bool false, .slice none 0 0, .slice B cs.length cap2] 55 (0, 0))) (w.heap.size + 1) 55 [.bool false, .slice none 0 0, .slice B cs.length cap2] := rnew0 (World.size_alloc _ _).symm
  have HR := Lib.hid (And.intro hr1 (And.intro hr2 hb0))
  clear hl hc ht hs hb0 hr1 hr2
  generalize l.map idT = ml at *
  unfold trV
  go_enter Tryz.func23, Tryz.ntmps23
  go_wp2
  go_loopw [15] (fun iv wr => ∃ i : Nat, iv = .int .i64 (i : Int) ∧ i ≤ l.length ∧ Hid (∃ vo, Row wr w.heap.size 55 [.bool false, .slice none 0 0, .slice none 0 0] ∧ Row wr (w.heap.size + 1) 55 [.bool false, vo, .slice B cs.length cap2] ∧ OwnTL wr (w.heap.size + 2) vo (ml.take i) ∧ Below w.heap.size w wr)) (fun iv _ => l.length - (intOf iv).toNat)
  case atStart => exact ⟨0, rfl, by omega, Lib.hid ⟨_, HR.out.1, HR.out.2.1, by rw [List.take_zero]; exact OwnTL.nil _ _, HR.out.2.2⟩⟩
  case round =>
    clear HR
    obtain ⟨i, rfl, hi, hk⟩ := hrel
    obtain ⟨vo, k1, k2, k3, k4⟩ := hk.out
    obtain ⟨VA, vn, vc, hv⟩ := k3.shape
    subst hv
    clear hk
    by_cases hlt : i < l.length
    · obtain ⟨b, o, rfl, hsl⟩ := RdG.row (n := l.length) (HL.out.below k4) i hlt
      obtain ⟨c0, c1, c2, c3, c4, c5, c6⟩ := hsl.val i hlt
      have hi0 : (0 : Int) ≤ (i : Int) := by omega
      have hi1 : (i : Int) < (l.length : Int) := by omega
      have HX := Lib.hid (HV.out i hlt)
      have HTK1 := Lib.hid (HTK.out i hlt)
      have HLT1 := Lib.hid (HLT.out i (by omega))
      clear hsl
      unfold tgV at HX
      unfold idT at HTK1
      generalize virt l[i] = vv at *
      generalize l[i].x = tx at *
      generalize l[i].y = ty at *
      generalize l[i].lo = tl at *
      generalize l[i].hi = th at *
      generalize l[i].tol = tt at *
      generalize l[i].mat = tm at *
      generalize l[i].pin = tp at *
      have hal := bel_al wr (.cells #[.int .i64 tx, .int .i64 ty, .int .i64 tl, .int .i64 th, .int .i64 tt, .int .i64 tm, .bool tp] 27 (0, 0))
      have hrt : Row (wr.alloc (.cells #[.int .i64 tx, .int .i64 ty, .int .i64 tl, .int .i64 th, .int .i64 tt, .int .i64 tm, .bool tp] 27 (0, 0))) wr.heap.size 27 [.int .i64 tx, .int .i64 ty, .int .i64 tl, .int .i64 th, .int .i64 tt, .int .i64 tm, .bool tp] := rnw
      have H1 := Lib.hid (And.intro (k1.below' hal) (And.intro (k2.below' hal) (And.intro (k3.below hal) (And.intro (bel_to k4 hal) hrt))))
      clear hal hrt k1 k2 k3 k4
      go_wp2_with fail
      refine (HX.out _ H1.out.2.2.2.1).mono ?_
      rintro e w2 ⟨rfl, hb2⟩
      have H2 := Lib.hid (And.intro (H1.out.1.below' hb2) (And.intro (H1.out.2.1.below' hb2) (And.intro (H1.out.2.2.1.below hb2) (And.intro (bel_to H1.out.2.2.2.1 hb2) (H1.out.2.2.2.2.below' hb2)))))
      clear hb2 H1 HX c0 c1 c2 c3 c4 c5 c6
      have x0 := H2.out.2.2.2.2.cell (i := 0) rfl
      have x1 := H2.out.2.2.2.2.cell (i := 1) rfl
      have x6 := H2.out.2.2.2.2.cell (i := 6) rfl
      have y1 := H2.out.2.1.cell (i := 1) rfl
      have HC := Lib.hid (fun j u hu => srcTL_one w2 ⟨tx, ty, tp, vv⟩ j u hu w2.heap.size rfl)
      have hal := bel_al w2 (.cells #[.int .i64 tx, .int .i64 ty, .bool tp, .int .i64 vv] 67 (0, 0))
      have H4 := Lib.hid (And.intro (H2.out.1.below' hal) (And.intro (H2.out.2.1.below' hal) (And.intro (H2.out.2.2.1.below hal) (bel_to H2.out.2.2.2.1 hal))))
      have hlt1 := H4.out.2.1.lt
      clear hal H2
      go_wp2_with (at_builtin; (refine wpList_app_OwnTL (m := [⟨tx, ty, tp, vv⟩]) rfl _ _ rfl rfl rfl rfl H4.out.2.2.1 HC.out (by omega) (by have := HLT1.out; simp only [List.length_cons, List.length_nil]; omega) ?_; intro v2 w4 ho2 hg2; obtain ⟨V2, n2, c2, hv2⟩ := (show OwnTL w4 (w.heap.size + 2) v2 (ml.take i ++ [⟨tx, ty, tp, vv⟩]) from ho2).shape; subst hv2; have hb4 := app_belOwnTL H4.out.2.2.1 H4.out.2.2.2 (by omega) hg2; have hk1 := row_grownTL H4.out.1 H4.out.2.2.1 hg2 (by omega); have hk2 := row_grownTL H4.out.2.1 H4.out.2.2.1 hg2 (by omega); have f1 := hk2.free 1; have m1 := hk2.cell (i := 1) rfl; have HN := Lib.hid (And.intro (row_other (p := ⟨w.heap.size + 1, 1, none⟩) hk1 (by show w.heap.size ≠ w.heap.size + 1; omega) (.slice V2 n2 c2)) (And.intro (hk2.set 1 (.slice V2 n2 c2)) (And.intro (own_setT (j := 1) (u := .slice V2 n2 c2) (show w.heap.size + 1 < w.heap.size + 2 by omega) (show OwnTL w4 (w.heap.size + 2) (.slice V2 n2 c2) (ml.take (i + 1)) by rw [HTK1.out]; exact ho2)) (Below.setCell (p := ⟨w.heap.size + 1, 1, none⟩) hb4 (by show w.heap.size ≤ w.heap.size + 1; omega) (.slice V2 n2 c2)))))))
      clear H4 HC x0 x1 x6 y1
      go_wp2
      go_roundw
      case rel => exact ⟨i + 1, by go_num, by omega, Lib.hid ⟨_, HN.out.1, HN.out.2.1, HN.out.2.2.1, HN.out.2.2.2⟩⟩
      case measure => simp [intOf]; omega
    · obtain rfl : l.length = i := by omega
      rw [HFU.out] at k3
      have hlt1 : w.heap.size < w.heap.size + 2 := by omega
      have y0 := k2.cell (i := 0) rfl
      have y1 := k2.cell (i := 1) rfl
      have y2 := k2.cell (i := 2) rfl
      obtain ⟨⟨f0, m0⟩, ⟨f1, m1⟩, ⟨f2, m2⟩, hrow⟩ := three_store (.bool false) (.slice VA vn vc) (.slice B cs.length cap2) k1
      have HQ := Lib.hid (And.intro hrow (And.intro (three_below (.bool false) (.slice VA vn vc) (.slice B cs.length cap2) k4 (A := w.heap.size) (Nat.le_refl _)) ((own_setT (j := 2) (u := .slice B cs.length cap2) hlt1 (own_setT (j := 1) (u := .slice VA vn vc) hlt1 (own_setT (j := 0) (u := .bool false) hlt1 k3))).base (show w.heap.size ≤ w.heap.size + 2 by omega))))
      clear hrow k1 k2 k3 k4
      go_wp2
      have q0 := HQ.out.1.cell (i := 0) rfl
      have q1 := HQ.out.1.cell (i := 1) rfl
      have q2 := HQ.out.1.cell (i := 2) rfl
      refine bodyPost_ret (v := .tuple #[.agg #[.bool false, .slice VA vn vc, .slice B cs.length cap2], .bool true]) (by simp [results, Tryz.results23, go_sem, q0, q1, q2]) rfl ⟨_, rfl, HQ.out.2.2, HQ.out.2.1⟩
end W
end Go.Proofs.YtellemlhhlafcaaGreatDoor
end
