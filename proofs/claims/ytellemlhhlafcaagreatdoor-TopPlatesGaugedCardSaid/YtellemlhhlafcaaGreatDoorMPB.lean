/-
  Chapter 49 of the program: 'plays', 'zones' at right joints and plates. (Printed by wip/ouf.py.)
-/
import Derived.Test.YtellemlhhlafcaaGreatDoorMPA
import Derived.Test.YtellemlhhlafcaaGreatDoorMV
import Derived.Test.YtellemlhhlafcaaGreatDoorMOD
import Derived.Test.YtellemlhhlafcaaGreatDoorMG
section
namespace Go.Proofs.YtellemlhhlafcaaGreatDoor
open Go Go.RowKit Go.Deep Go.Sort
theorem two_storeP {w : World} {A : Nat} {t : TypeId} {x0 x1 : Value} (y0 y1 : Value) (hr : Row w A t [x0, x1]) :
    (w.frozen? ⟨A, 0, none⟩ = false ∧ w.cell? ⟨A, 0, none⟩ = some x0) ∧
    ((w.setCell ⟨A, 0, none⟩ y0).frozen? ⟨A, 1, none⟩ = false ∧ (w.setCell ⟨A, 0, none⟩ y0).cell? ⟨A, 1, none⟩ = some x1) ∧
    Row ((w.setCell ⟨A, 0, none⟩ y0).setCell ⟨A, 1, none⟩ y1) A t [y0, y1] := by
  have h1 := hr.set 0 y0
  exact ⟨⟨hr.free 0, hr.cell rfl⟩, ⟨h1.free 1, h1.cell rfl⟩, h1.set 1 y1⟩
structure Zn (W E : World) (A B : Nat) (a b c d : Int) : Prop where
  ra : Row E A 23 [.int .i64 a, .int .i64 b]
  rb : Row E B 23 [.int .i64 c, .int .i64 d]
  bel : Below W.heap.size W E
theorem Zn.two (W : World) (a b c d : Int) : Zn W ((W.alloc (.cells #[.int .i64 a, .int .i64 b] 23 (0, 0))).alloc (.cells #[.int .i64 c, .int .i64 d] 23 (0, 0))).drew W.heap.size (W.heap.size + 1) a b c d := by
  have hd : ∀ W : World, Below W.heap.size W W.drew := fun W => RowKit.Below.drew (Below.refl _ _)
  have h1 : Row ((W.alloc (.cells #[.int .i64 a, .int .i64 b] 23 (0, 0))).alloc (.cells #[.int .i64 c, .int .i64 d] 23 (0, 0))) W.heap.size 23 [.int .i64 a, .int .i64 b] := rnw.alloc _
  have h2 : Row ((W.alloc (.cells #[.int .i64 a, .int .i64 b] 23 (0, 0))).alloc (.cells #[.int .i64 c, .int .i64 d] 23 (0, 0))) (W.heap.size + 1) 23 [.int .i64 c, .int .i64 d] := rnew0 (World.size_alloc _ _).symm
  exact ⟨h1.below' (hd _), h2.below' (hd _), bel_to (bel_al2 _ _ _) (hd _)⟩
theorem Zn.swap {W E : World} {A B : Nat} {a b c d : Int} (h : Zn W E A B a b c d) : Zn W E B A c d a b := ⟨h.rb, h.ra, h.bel⟩
namespace M
def plL (A : List Tg) (p q : List Cc) : List Int := (A.zip (p.zip q)).map fun t => plyJ t.1 t.2.1 t.2.2
theorem plL_len {A : List Tg} {p q : List Cc} (hp : p.length = A.length) (hq : q.length = A.length) : (plL A p q).length = A.length := by unfold plL; rw [List.length_map, List.length_zip, List.length_zip]; omega
theorem plL_get {A : List Tg} {p q : List Cc} (i : Nat) (hi : i < A.length) (h3 : i < p.length) (h4 : i < q.length) (hk : i < (plL A p q).length) : (plL A p q)[i] = plyJ A[i] p[i] q[i] := by simp [plL]
theorem zipJ_len {A : List Tg} {p q : List Cc} (hp : p.length = A.length) (hq : q.length = A.length) : (zipJ A p q).length = A.length := by unfold zipJ; rw [List.length_map, List.length_zip, List.length_zip]; omega
theorem zipJ_get {A : List Tg} {p q : List Cc} (i : Nat) (hi : i < A.length) (h3 : i < p.length) (h4 : i < q.length) (hk : i < (zipJ A p q).length) : (zipJ A p q)[i] = dkJ A[i] p[i] q[i] := by simp [zipJ]
theorem plyJ_rng {a : Tg} {p q : Cc} (hp : RtC p) (hq : RtC q) : -100000 ≤ plyJ a p q ∧ plyJ a p q ≤ 100000 := by
  have h1 := hp.d
  have h2 := hq.d
  unfold plyJ
  split <;> omega
theorem RightG.rc {A B : List Tg} {p q : List Cc} (h : RightG A B p q) (i : Nat) (h1 : i < A.length) (h3 : i < p.length) (h4 : i < q.length) : RtC p[i] ∧ RtC q[i] := by
  have := h.ok i h1 (by rw [h.c.len]; exact h1) h3 h4
  exact ⟨(ringC_iff _).1 this.1, (ringC_iff _).1 this.2.1⟩
theorem dkJ_sm {a : Tg} {p q : Cc} (hp : RtC p) (hq : RtC q) : SmD (dkJ a p q) := by
  have q1 := hp.x
  have q2 := hp.y
  have q3 := hq.x
  have q4 := hq.y
  have hr := plyJ_rng (a := a) hp hq
  obtain ⟨h4, h3⟩ := ply_sq (n := plyJ a p q) (by omega)
  refine ⟨⟨q.x - p.x, q.y - p.y, plyJ a p q * plyJ a p q, rfl, by omega, by omega, h4, by omega⟩⟩
end M
namespace W
open M
attribute [local go_sem] bs_size bs_toList bs_get bs_extract bs_append bs_lit0 bs_lit1 lit1_bs
set_option maxHeartbeats 2000000
set_option maxRecDepth 20000
theorem aplays (va vb vp vq : Value) (A B : List Tg) (p q : List Cc) (w : World) (ha : RdG w va A) (hb : RdG w vb B) (hp : RdC w vp p) (hq : RdC w vq q) (h : RightG A B p q) :
    Calls Tryz.prog 52 #[joV va vb, joV vp vq] w (fun e w' => ∃ v, e = .returned v ∧ OwnI w' w.heap.size v (plL A p q) ∧ Below w.heap.size w w') := by
  have HAB := Lib.hid (And.intro ha (And.intro hp hq))
  have h16 := h.c.h1
  have hqa : q.length = A.length := by rw [h.lq, h.c.len]
  have HL := Lib.hid (And.intro h.lp hqa)
  have HRC := Lib.hid (fun i (h1 : i < A.length) (h3 : i < p.length) (h4 : i < q.length) => h.rc i h1 h3 h4)
  have HTK := Lib.hid (fun i (hi : i < A.length) (h3 : i < p.length) (h4 : i < q.length) => show (plL A p q).take (i + 1) = (plL A p q).take i ++ [plyJ A[i] p[i] q[i]] from by
    rw [List.take_succ_eq_append_getElem (by rw [plL_len h.lp hqa]; exact hi), plL_get i hi h3 h4])
  have HFU : Hid ((plL A p q).take A.length = plL A p q) := Lib.hid (List.take_of_length_le (by rw [plL_len h.lp hqa]; omega))
  have HLT := Lib.hid (fun i (hi : i ≤ A.length) => show ((plL A p q).take i).length = i from by rw [List.length_take, plL_len h.lp hqa]; omega)
  obtain ⟨Aa, ca, rfl⟩ := ha.len
  obtain ⟨Ab, cb, rfl⟩ := hb.len
  obtain ⟨Ap, cp, rfl⟩ := hp.len
  obtain ⟨Aq, cq, rfl⟩ := hq.len
  have hb0 := bel_al2 w (.cells #[.slice Aa A.length ca, .slice Ab B.length cb] 70 (0, 0)) (.cells #[.slice Ap p.length cp, .slice Aq q.length cq] 72 (0, 0))
  have hr1 : Row ((w.alloc (.cells #[.slice Aa A.length ca, .slice Ab B.length cb] 70 (0, 0))).alloc (.cells #[.slice Ap p.length cp, .slice Aq q.length cq] 72 (0, 0))) w.heap.size 70 [.slice Aa A.length ca, .slice Ab B.length cb] := rnw.alloc _
  have hr2 : Row ((w.alloc (.cells #[.slice Aa A.length ca, .slice Ab B.length cb] 70 (0, 0))).alloc (.cells #[.slice Ap p.length cp, .slice Aq q.length cq] 72 (0, 0))) (w.heap.size + 1) 72 [.slice Ap p.length cp, .slice Aq q.length cq] := rnew0 (World.size_alloc _ _).symm
  have HR := Lib.hid (And.intro hr2 hb0)
  have r0 := hr1.cell (i := 0) rfl
  clear ha hb hp hq hb0 hr1 hr2 h hqa
  generalize plL A p q = ml at *
  unfold joV
  go_enter Tryz.func52, Tryz.ntmps52
  go_wp2
  go_loopw [5, 12] (fun ov iv wr => ∃ (i : Nat) (vo : Value), iv = .int .i64 (i : Int) ∧ ov = vo ∧ i ≤ A.length ∧ Hid (Row wr (w.heap.size + 1) 72 [.slice Ap p.length cp, .slice Aq q.length cq] ∧ OwnI wr (w.heap.size + 2) vo (ml.take i) ∧ Below w.heap.size w wr)) (fun _ iv _ => A.length - (intOf iv).toNat)
  case atStart => exact ⟨0, _, rfl, rfl, by omega, Lib.hid ⟨HR.out.1, by rw [List.take_zero]; exact World.ownsRow_nil _ _ _ _, HR.out.2⟩⟩
  case round =>
    clear HR r0
    obtain ⟨i, vo, rfl, e4, hi, hk⟩ := hrel
    obtain ⟨VA, vn, vc, hv⟩ := hk.out.2.1.shape
    subst hv
    subst e4
    by_cases hlt : i < A.length
    · have h3 : i < p.length := by have := HL.out; omega
      have h4 : i < q.length := by have := HL.out; omega
      obtain ⟨q1, o1, rfl, hA⟩ := HAB.out.1.row i hlt
      obtain ⟨q3, o3, rfl, hP⟩ := HAB.out.2.1.row i h3
      obtain ⟨q4, o4, rfl, hQ⟩ := HAB.out.2.2.row i h4
      obtain ⟨c0, c1, c2, c3, c4, c5, c6⟩ := (hA.below' hk.out.2.2).val i hlt
      have HVP := Lib.hid (fun W (hW : Below w.heap.size w W) => ((hP.below' hW).val i h3).2.2)
      have HVQ := Lib.hid (fun W (hW : Below w.heap.size w W) => ((hQ.below' hW).val i h4).2.2)
      obtain ⟨rp, rq⟩ := HRC.out i hlt h3 h4
      have y1 := rp.d
      have y2 := rq.d
      have hw1 := IntWalk.wrap64_in (p[i].d - q[i].d) (by omega)
      have hw3 := (IntWalk.i64_left _).trans hw1
      have hw2 := IntWalk.wrap64_in (-(p[i].d - q[i].d)) (by omega)
      have hi0 : (0 : Int) ≤ (i : Int) := by omega
      have d1 : (i : Int) < (A.length : Int) := by omega
      have d3 : (i : Int) < (p.length : Int) := by omega
      have d4 : (i : Int) < (q.length : Int) := by omega
      have HTK1 := Lib.hid (HTK.out i hlt h3 h4)
      have HLT1 := Lib.hid (HLT.out i (by omega))
      unfold plyJ at HTK1
      clear hA hP hQ rp rq y1 y2
      generalize A[i].x = jax at *
      generalize A[i].y = jay at *
      generalize A[i].lo = jal at *
      generalize A[i].hi = jah at *
      generalize A[i].tol = jat at *
      generalize A[i].mat = jam at *
      generalize A[i].pin = jap at *
      generalize p[i].d = dp at *
      generalize q[i].d = dq at *
      have hal := bel_al wr (.cells #[.int .i64 jax, .int .i64 jay, .int .i64 jal, .int .i64 jah, .int .i64 jat, .int .i64 jam, .bool jap] 27 (0, 0))
      have hrt : Row (wr.alloc (.cells #[.int .i64 jax, .int .i64 jay, .int .i64 jal, .int .i64 jah, .int .i64 jat, .int .i64 jam, .bool jap] 27 (0, 0))) wr.heap.size 27 [.int .i64 jax, .int .i64 jay, .int .i64 jal, .int .i64 jah, .int .i64 jat, .int .i64 jam, .bool jap] := rnw
      have H1 := Lib.hid (And.intro (hk.out.1.below' hal) (And.intro (hk.out.2.1.below hal) (And.intro (bel_to hk.out.2.2 hal) hrt)))
      clear hal hrt hk
      go_wp2_with fail
      clear c0 c1 c2 c3 c4 c5 c6
      generalize wr.alloc (.cells #[.int .i64 jax, .int .i64 jay, .int .i64 jal, .int .i64 jah, .int .i64 jat, .int .i64 jam, .bool jap] 27 (0, 0)) = V at *
      generalize wr.heap.size = gt at *
      have g1 := cell_regrown (H1.out.1.cell (i := 0) rfl)
      have g2 := cell_regrown (H1.out.1.cell (i := 1) rfl)
      have g3 := cell_regrown (HVP.out _ H1.out.2.2.1)
      have g4 := cell_regrown (HVQ.out _ H1.out.2.2.1)
      refine wp_region_quiet_below (by kernel_rfl) (by kernel_rfl) ?_
      repeat (go_big_quiet_step (fail))
      refine wpQuiet_nil ?_
      intro W6 hw'
      have hb6 : Below V.heap.size V W6 := by obtain ⟨p, e⟩ := hw'; rw [e]; exact below_regrown V p.d p.os
      clear hw'
      have H6 := Lib.hid (And.intro (H1.out.1.below' hb6) (And.intro (H1.out.2.1.below hb6) (And.intro (bel_to H1.out.2.2.1 hb6) (H1.out.2.2.2.below' hb6))))
      clear hb6 g1 g2 g3 g4 H1 HVP HVQ
      have x6 := H6.out.2.2.2.cell (i := 6) rfl
      obtain ⟨iI, s1, s2, s3, s4⟩ := info_parts infoInt
      cases jap with
      | true =>
        rw [if_pos rfl, show dq - dp = -(dp - dq) by omega] at HTK1
        go_wp2_with (at_builtin; refine wpList_app_g (t := 45) (v := .slice VA vn vc) Tryz.underlying45 s1 s2 s3 s4 rfl rfl _ _ rfl rfl rfl rfl H6.out.2.1 (by have := H6.out.1.lt; omega) (.int .i64 (-(dp - dq))) rfl (by rw [HLT1.out]; omega) (by decide) ?_; intro g2 cap2 w10 ho2 hk3)
        have HN := Lib.hid (And.intro (row_grownR (H6.out.1.below' (bel_al _ _)) H6.out.2.1 hk3 (by omega)) (And.intro (by rw [HTK1.out]; exact own_appI ho2 : OwnI w10 (w.heap.size + 2) (.slice (some ⟨g2, 0, none⟩) ((ml.take i).length + 1) cap2) (ml.take (i + 1))) ((bel_to H6.out.2.2.1 (bel_al _ _)).grown hk3 (bel_to H6.out.2.2.1 (bel_al _ _)).size fun k hk => by have := (World.ownsRow.lt H6.out.2.1 k hk).1; omega)))
        clear ho2 hk3 H6
        go_wp2
        go_roundw
        case rel => exact ⟨i + 1, _, by go_num, rfl, by omega, Lib.hid (by have h := HN.out; rwa [List.length_take] at h)⟩
        case measure => simp [intOf]; omega
      | false =>
        rw [if_neg (by decide)] at HTK1
        go_wp2_with (at_builtin; refine wpList_app_g (t := 45) (v := .slice VA vn vc) Tryz.underlying45 s1 s2 s3 s4 rfl rfl _ _ rfl rfl rfl rfl H6.out.2.1 (by have := H6.out.1.lt; omega) (.int .i64 (dp - dq)) rfl (by rw [HLT1.out]; omega) (by decide) ?_; intro g2 cap2 w10 ho2 hk3)
        have HN := Lib.hid (And.intro (row_grownR (H6.out.1.below' (bel_al _ _)) H6.out.2.1 hk3 (by omega)) (And.intro (by rw [HTK1.out]; exact own_appI ho2 : OwnI w10 (w.heap.size + 2) (.slice (some ⟨g2, 0, none⟩) ((ml.take i).length + 1) cap2) (ml.take (i + 1))) ((bel_to H6.out.2.2.1 (bel_al _ _)).grown hk3 (bel_to H6.out.2.2.1 (bel_al _ _)).size fun k hk => by have := (World.ownsRow.lt H6.out.2.1 k hk).1; omega)))
        clear ho2 hk3 H6
        go_wp2
        go_roundw
        case rel => exact ⟨i + 1, _, by go_num, rfl, by omega, Lib.hid (by have h := HN.out; rwa [List.length_take] at h)⟩
        case measure => simp [intOf]; omega
    · obtain rfl : A.length = i := by omega
      have hk2 := hk.out
      rw [HFU.out] at hk2
      have HK := Lib.hid hk2
      clear hk hk2
      go_wp2
      go_ret
      exact ⟨_, rfl, HK.out.2.1.base (by omega), HK.out.2.2⟩
theorem azones (va vb vp vq : Value) (A B : List Tg) (p q : List Cc) (w : World) (hg : Glob w) (ha : RdG w va A) (hb : RdG w vb B) (hp : RdC w vp p) (hq : RdC w vq q) (h : RightG A B p q) :
    Calls Tryz.prog 54 #[joV va vb, joV vp vq] w (fun e w' => ∃ v, e = .returned v ∧ OwnK w' w.heap.size v (zipJ A p q) ∧ Below w.heap.size w w') := by
  have HPL := Lib.hid (fun W (hW : Below w.heap.size w W) => aplays va vb vp vq A B p q W (ha.below hW) (hb.below hW) (hp.below hW) (hq.below hW) h)
  have HAB := Lib.hid (And.intro hp hq)
  have h16 := h.c.h1
  have hqa : q.length = A.length := by rw [h.lq, h.c.len]
  have HL := Lib.hid (And.intro h.lp hqa)
  have HLN := Lib.hid (plL_len h.lp hqa)
  have HGT : Hid (∀ i (h1 : i < A.length) (h3 : i < p.length) (h4 : i < q.length) (hk : i < (plL A p q).length), (plL A p q)[i] = plyJ A[i] p[i] q[i]) := Lib.hid (fun i h1 h3 h4 hk => plL_get i h1 h3 h4 hk)
  have HO := Lib.hid (fun i (h1 : i < A.length) (h3 : i < p.length) (h4 : i < q.length) W (hW : Below w.heap.size w W) => show Calls Tryz.prog 91 #[.int .i64 (plyJ A[i] p[i] q[i]), .int .i64 2] W (Ret W (.tuple #[.string (bs (R ((plyJ A[i] p[i] q[i] : Rat) / 2))), .int .i64 0])) from by
    obtain ⟨rp, rq⟩ := h.rc i h1 h3 h4
    have hr := plyJ_rng (a := A[i]) rp rq
    have := ratOf (plyJ A[i] p[i] q[i]) 2 W (hg.of hW) (by omega) (by decide) (by decide)
    rw [Rat.divInt_eq_div, show ((2 : Int) : Rat) = 2 from rfl] at this
    exact this)
  have HM := Lib.hid (fun i (h1 : i < A.length) (h3 : i < p.length) (h4 : i < q.length) W (hW : Below w.heap.size w W) => show Calls Tryz.prog 92 #[.string (bs (R ((plyJ A[i] p[i] q[i] : Rat) / 2))), .string (bs (R ((plyJ A[i] p[i] q[i] : Rat) / 2)))] W (Ret W (.tuple #[.string (bs (R (dkJ A[i] p[i] q[i]).s)), .int .i64 0])) from by
    obtain ⟨rp, rq⟩ := h.rc i h1 h3 h4
    have hr := plyJ_rng (a := A[i]) rp rq
    have hB : Bq 8 ((plyJ A[i] p[i] q[i] : Rat) / 2) := Bq_frac (n := plyJ A[i] p[i] q[i]) (d := 2) (by rw [show ((2 : Int) : Rat) = 2 from rfl]; grind) (by decide) (by omega) (by decide)
    have := ratMul ((plyJ A[i] p[i] q[i] : Rat) / 2) ((plyJ A[i] p[i] q[i] : Rat) / 2) 8 8 W (hg.of hW) hB hB (by decide)
    rw [← dkJ_s] at this
    exact this)
  have HX := Lib.hid (fun i (h1 : i < A.length) (h3 : i < p.length) (h4 : i < q.length) W (hW : Below w.heap.size w W) => show Calls Tryz.prog 93 #[.int .i64 (q[i].x - p[i].x)] W (Ret W (.string (bs (R (dkJ A[i] p[i] q[i]).x)))) from by
    obtain ⟨rp, rq⟩ := h.rc i h1 h3 h4
    have q1 := rp.x
    have q3 := rq.x
    exact ratWhole _ W (hg.of hW) (by omega) (by omega))
  have HY := Lib.hid (fun i (h1 : i < A.length) (h3 : i < p.length) (h4 : i < q.length) W (hW : Below w.heap.size w W) => show Calls Tryz.prog 93 #[.int .i64 (q[i].y - p[i].y)] W (Ret W (.string (bs (R (dkJ A[i] p[i] q[i]).y)))) from by
    obtain ⟨rp, rq⟩ := h.rc i h1 h3 h4
    have q1 := rp.y
    have q3 := rq.y
    exact ratWhole _ W (hg.of hW) (by omega) (by omega))
  have HXY := Lib.hid (fun i (h1 : i < A.length) (h3 : i < p.length) (h4 : i < q.length) => show wrap64 (q[i].x - p[i].x) = q[i].x - p[i].x ∧ wrap64 (q[i].y - p[i].y) = q[i].y - p[i].y from by
    obtain ⟨rp, rq⟩ := h.rc i h1 h3 h4
    have q1 := rp.x
    have q2 := rp.y
    have q3 := rq.x
    have q4 := rq.y
    exact ⟨IntWalk.wrap64_in _ (by omega), IntWalk.wrap64_in _ (by omega)⟩)
  have HTK := Lib.hid (fun i (hi : i < A.length) (h3 : i < p.length) (h4 : i < q.length) => show (zipJ A p q).take (i + 1) = (zipJ A p q).take i ++ [dkJ A[i] p[i] q[i]] from by
    rw [List.take_succ_eq_append_getElem (by rw [zipJ_len h.lp hqa]; exact hi), zipJ_get i hi h3 h4])
  have HFU : Hid ((zipJ A p q).take A.length = zipJ A p q) := Lib.hid (List.take_of_length_le (by rw [zipJ_len h.lp hqa]; omega))
  have HLT := Lib.hid (fun i (hi : i ≤ A.length) => show ((zipJ A p q).take i).length ≤ 16 from by rw [List.length_take]; omega)
  obtain ⟨Aa, ca, rfl⟩ := ha.len
  obtain ⟨Ab, cb, rfl⟩ := hb.len
  obtain ⟨Ap, cp, rfl⟩ := hp.len
  obtain ⟨Aq, cq, rfl⟩ := hq.len
  have hb0 := bel_al2 w (.cells #[.slice Aa A.length ca, .slice Ab B.length cb] 70 (0, 0)) (.cells #[.slice Ap p.length cp, .slice Aq q.length cq] 72 (0, 0))
  have hr1 : Row ((w.alloc (.cells #[.slice Aa A.length ca, .slice Ab B.length cb] 70 (0, 0))).alloc (.cells #[.slice Ap p.length cp, .slice Aq q.length cq] 72 (0, 0))) w.heap.size 70 [.slice Aa A.length ca, .slice Ab B.length cb] := rnw.alloc _
  have hr2 : Row ((w.alloc (.cells #[.slice Aa A.length ca, .slice Ab B.length cb] 70 (0, 0))).alloc (.cells #[.slice Ap p.length cp, .slice Aq q.length cq] 72 (0, 0))) (w.heap.size + 1) 72 [.slice Ap p.length cp, .slice Aq q.length cq] := rnew0 (World.size_alloc _ _).symm
  have HR := Lib.hid (And.intro hr2 hb0)
  have r0 := hr1.cell (i := 0) rfl
  have r1 := hr1.cell (i := 1) rfl
  have s0 := hr2.cell (i := 0) rfl
  have s1 := hr2.cell (i := 1) rfl
  clear ha hb hp hq hb0 hr1 hr2 h hqa hg
  generalize zipJ A p q = dl at *
  unfold joV at HPL ⊢
  go_enter Tryz.func54, Tryz.ntmps54
  go_wp2_with fail
  refine (HPL.out _ HR.out.2).mono ?_
  rintro e w1 ⟨v, rfl, ho, hb1⟩
  have H1 := Lib.hid (And.intro (HR.out.1.below' hb1) (And.intro (bel_to HR.out.2 hb1) ho.rd))
  obtain ⟨Vz, zcap, hv⟩ := ho.rd.len
  rw [HLN.out] at hv
  subst hv
  have hsz1 := (bel_to HR.out.2 hb1).size
  clear hb1 ho HR HPL r0 r1 s0 s1
  go_wp2
  go_loopw [5, 18] (fun ov iv wr => ∃ (i : Nat) (vo : Value), iv = .int .i64 (i : Int) ∧ ov = vo ∧ i ≤ A.length ∧ Hid (OwnK wr w1.heap.size vo (dl.take i) ∧ Below w1.heap.size w1 wr)) (fun _ iv _ => A.length - (intOf iv).toNat)
  case atStart => exact ⟨0, _, rfl, rfl, by omega, Lib.hid ⟨by rw [List.take_zero]; exact OwnK.nil _ _, Below.refl _ _⟩⟩
  case round =>
    obtain ⟨i, vo, rfl, e4, hi, hk⟩ := hrel
    obtain ⟨VA, vn, vc, hv⟩ := hk.out.1.shape
    subst hv
    subst e4
    by_cases hlt : i < A.length
    · have h3 : i < p.length := by have := HL.out; omega
      have h4 : i < q.length := by have := HL.out; omega
      have hlm : i < (plL A p q).length := by rw [HLN.out]; exact hlt
      obtain ⟨q3, o3, rfl, hP⟩ := HAB.out.1.row i h3
      obtain ⟨q4, o4, rfl, hQ⟩ := HAB.out.2.row i h4
      obtain ⟨bz, oz, rfl, -, hc⟩ := (H1.out.2.2.below hk.out.2).row i hlm
      have z0 := hc i hlm
      rw [HGT.out i hlt h3 h4 hlm] at z0
      have HVP := Lib.hid (fun W (hW : Below w.heap.size w W) => (hP.below' hW).val i h3)
      have HVQ := Lib.hid (fun W (hW : Below w.heap.size w W) => (hQ.below' hW).val i h4)
      have hi0 : (0 : Int) ≤ (i : Int) := by omega
      have d1 : (i : Int) < (A.length : Int) := by omega
      have d3 : (i : Int) < (p.length : Int) := by omega
      have d4 : (i : Int) < (q.length : Int) := by omega
      have HO1 := Lib.hid (HO.out i hlt h3 h4)
      have HM1 := Lib.hid (HM.out i hlt h3 h4)
      have HX1 := Lib.hid (HX.out i hlt h3 h4)
      have HY1 := Lib.hid (HY.out i hlt h3 h4)
      obtain ⟨hx1, hx2⟩ := HXY.out i hlt h3 h4
      have hy1 := (IntWalk.i64_left _).trans hx1
      have hy2 := (IntWalk.i64_left _).trans hx2
      have HTK1 := Lib.hid (HTK.out i hlt h3 h4)
      have HLT1 := Lib.hid (HLT.out i (by omega))
      have H2 := Lib.hid (And.intro (bel_to H1.out.2.1 hk.out.2) (And.intro hk.out.1 (And.intro hk.out.2 (H1.out.1.below' hk.out.2))))
      clear hc hP hQ hk HO HM HX HY HXY HTK HLT
      generalize dkJ A[i] p[i] q[i] = dd at *
      generalize plyJ A[i] p[i] q[i] = z at *
      generalize R ((z : Rat) / 2) = sh at *
      generalize p[i].x = px at *
      generalize p[i].y = py at *
      generalize p[i].d = pd at *
      generalize q[i].x = qx at *
      generalize q[i].y = qy at *
      generalize q[i].d = qd at *
      have e2 : ∀ args w, (callFunc 93 args).run Tryz.prog w = .ok (.enter 93 args) w := enters_of Tryz.func93 (by kernel_rfl) rfl
      go_wp2_with fail
      clear z0
      generalize wr = W at *
      have HCL := Lib.hid (fun V (hV : Below W.heap.size W V) => And.intro ((H2.out.2.2.2.below' hV).cell (i := 0) rfl) (And.intro ((H2.out.2.2.2.below' hV).cell (i := 1) rfl) (And.intro (HVP.out V (bel_to H2.out.1 hV)).1 (And.intro (HVP.out V (bel_to H2.out.1 hV)).2.1 (And.intro (HVQ.out V (bel_to H2.out.1 hV)).1 (HVQ.out V (bel_to H2.out.1 hV)).2.1)))))
      obtain ⟨s0, s1, c0, c1, e0, e1⟩ := HCL.out _ (Below.refl _ _)
      have s0B := fun o => (HCL.out _ (bel_al W o)).1
      have s1B := fun o => (HCL.out _ (bel_al W o)).2.1
      have c0B := fun o => (HCL.out _ (bel_al W o)).2.2.1
      have c1B := fun o => (HCL.out _ (bel_al W o)).2.2.2.1
      have e0B := fun o => (HCL.out _ (bel_al W o)).2.2.2.2.1
      have e1B := fun o => (HCL.out _ (bel_al W o)).2.2.2.2.2
      have s0C := fun o o2 => (HCL.out _ (bel_al2 W o o2)).1
      have s1C := fun o o2 => (HCL.out _ (bel_al2 W o o2)).2.1
      have c0C := fun o o2 => (HCL.out _ (bel_al2 W o o2)).2.2.1
      have c1C := fun o o2 => (HCL.out _ (bel_al2 W o o2)).2.2.2.1
      have e0C := fun o o2 => (HCL.out _ (bel_al2 W o o2)).2.2.2.2.1
      have e1C := fun o o2 => (HCL.out _ (bel_al2 W o o2)).2.2.2.2.2
      rename_i K hK
      apply join2 (K := K) (P := fun A B E => Zn W E A B px py qx qy)
      case main =>
        intro HF
        have HFI := Lib.hid HF
        clear HF
        go_region
        · generalize hA : W.heap.size = AA
          generalize hB : AA + 1 = BB
          refine HFI.out AA BB _ ?_
          rw [← hB, ← hA]
          exact Zn.two _ _ _ _ _
        · generalize hA : W.heap.size = AA
          generalize hB : AA + 1 = BB
          refine HFI.out BB AA _ ?_
          rw [← hB, ← hA]
          exact (Zn.two _ _ _ _ _).swap
      case rest =>
        intro g8 g9 W2 hE
        have H4 := Lib.hid (And.intro (bel_to H2.out.1 hE.bel) (And.intro (H2.out.2.1.below hE.bel) (And.intro (bel_to H2.out.2.2.1 hE.bel) (And.intro hE.ra hE.rb))))
        refine hK _ _ ?_
        clear hE HCL H2 HVP HVQ s0 s1 c0 c1 e0 e1 s0B s1B c0B c1B e0B e1B s0C s1C c0C c1C e0C e1C hK
        go_wp2_with fail
        refine (HO1.out _ H4.out.1).mono ?_
        rintro e w3 ⟨rfl, hb3⟩
        have H4b := Lib.hid (And.intro (bel_to H4.out.1 hb3) (And.intro (H4.out.2.1.below hb3) (And.intro (bel_to H4.out.2.2.1 hb3) (And.intro (H4.out.2.2.2.1.below' hb3) (H4.out.2.2.2.2.below' hb3)))))
        clear hb3 H4 HO1
        go_wp2_with fail
        refine (HM1.out _ H4b.out.1).mono ?_
        rintro e w5 ⟨rfl, hb5⟩
        have H5 := Lib.hid (And.intro (bel_to H4b.out.1 hb5) (And.intro (H4b.out.2.1.below hb5) (And.intro (bel_to H4b.out.2.2.1 hb5) (And.intro (H4b.out.2.2.2.1.below' hb5) (H4b.out.2.2.2.2.below' hb5)))))
        clear hb5 H4b HM1
        go_wp2_with fail
        generalize w5 = W at *
        have HCL := Lib.hid (fun V (hV : Below W.heap.size W V) => And.intro ((H5.out.2.2.2.1.below' hV).cell (i := 0) rfl) (And.intro ((H5.out.2.2.2.1.below' hV).cell (i := 1) rfl) (And.intro ((H5.out.2.2.2.2.below' hV).cell (i := 0) rfl) ((H5.out.2.2.2.2.below' hV).cell (i := 1) rfl))))
        refine region_grow_tailC (ψ := psi [(0, .agg #[.slice Aa A.length ca, .slice Ab B.length cb]), (1, .agg #[.slice (some ⟨q3, o3, none⟩) p.length cp, .slice (some ⟨q4, o4, none⟩) q.length cq]), (2, .pointer (some ⟨w.heap.size, 0, none⟩)), (3, .pointer (some ⟨w.heap.size + 1, 0, none⟩)), (4, .slice none 0 0), (5, .slice VA vn vc), (6, .int .i64 (i : Int)), (7, .int .i64 z), (8, .pointer (some ⟨g8, 0, none⟩)), (9, .pointer (some ⟨g9, 0, none⟩)), (10, .string (bs sh)), (11, .int .i64 0), (12, .string (bs (R dd.s))), (13, .int .i64 0), (14, .agg #[.slice Aa A.length ca, .slice Ab B.length cb]), (15, .agg #[.slice (some ⟨q3, o3, none⟩) p.length cp, .slice (some ⟨q4, o4, none⟩) q.length cq]), (16, .slice (some ⟨bz, oz, none⟩) A.length zcap), (17, .int .i64 (A.length : Int)), (18, .int .i64 (i : Int)), (65, undef), (46, .slice VA vn vc), (47, .pointer (some ⟨g9, 0, none⟩)), (48, .int .i64 qx), (49, .pointer (some ⟨g8, 0, none⟩)), (50, .int .i64 px), (51, .int .i64 (qx - px)), (52, .string (bs (R dd.x))), (53, .pointer (some ⟨g9, 1, none⟩)), (54, .int .i64 qy), (55, .pointer (some ⟨g8, 1, none⟩)), (56, .int .i64 py), (57, .int .i64 (qy - py)), (58, .string (bs (R dd.y))), (59, .agg #[.string (bs (R dd.x)), .string (bs (R dd.y))]), (60, .string (bs (R dd.s))), (61, .agg #[.string (bs (R dd.x)), .string (bs (R dd.y)), .string (bs (R dd.s))])] [(62, SlNew W 127 [.string (bs (R dd.x)), .string (bs (R dd.y)), .string (bs (R dd.s))])]) 66 17 (by kernel_rfl) (by kernel_rfl) (by kernel_rfl) (by kernel_rfl) (by decide) (by kernel_rfl) (psi_st ?_) rfl ?_ ?_ ?_
        · intro p hp w w' v hb h
          simp only [List.mem_cons, List.not_mem_nil, or_false] at hp
          rcases hp with rfl
          all_goals first | exact AtNew.below hb h | exact SlNew.below hb h
        · intro t ht hno
          unfold psi
          split
          · rename_i c hc
            have hm := lookup_mem hc
            simp only [List.mem_cons, List.not_mem_nil, or_false, Prod.mk.injEq] at hm
            repeat' (rcases hm with ⟨rfl, rfl⟩ | hm)
            all_goals first
              | rfl
              | exact Bool.noConfusion (show true = false from hno)
              | (obtain ⟨rfl, rfl⟩ := hm; first | rfl | exact Bool.noConfusion (show true = false from hno))
          · split
            · rename_i p hp
              have hm := lookup_mem hp
              simp only [List.mem_cons, List.not_mem_nil, or_false, Prod.mk.injEq] at hm
              repeat' (rcases hm with ⟨rfl, rfl⟩ | hm)
              all_goals first
                | exact Bool.noConfusion (show true = false from hno)
                | (obtain ⟨rfl, rfl⟩ := hm; exact Bool.noConfusion (show true = false from hno))
            · trivial
        · simp only [List.take_succ_cons, List.take_zero]
          repeat' (first | exact List.forall_mem_nil _ | refine List.forall_mem_cons.2 ⟨?_, ?_⟩)
          · intro a w' hb hN hpre
            have h5 : a.tmps.getD 5 undef = (.slice VA vn vc : Value) := hpre 5 (by simp [Op.operands])
            exact step_val (v := .slice VA vn vc) rfl (by rw [← h5]; rfl) rfl
          · intro a w' hb hN hpre
            have h9 : a.tmps.getD 9 undef = (.pointer (some ⟨g9, 0, none⟩) : Value) := hpre 9 (by simp [Op.operands])
            exact step_val (v := .pointer (some ⟨g9, 0, none⟩)) rfl (by simp only [execOp, Act.eval, h9]; go_simp) rfl
          · intro a w' hb hN hpre
            have h47 : a.tmps.getD 47 undef = (.pointer (some ⟨g9, 0, none⟩) : Value) := hpre 47 (by simp [Op.operands])
            obtain ⟨x0, x1, y0, y1⟩ := HCL.out w' hb
            exact step_val (v := .int .i64 qx) rfl (by simp only [execOp, Act.eval, h47]; go_simp) rfl
          · intro a w' hb hN hpre
            have h8 : a.tmps.getD 8 undef = (.pointer (some ⟨g8, 0, none⟩) : Value) := hpre 8 (by simp [Op.operands])
            exact step_val (v := .pointer (some ⟨g8, 0, none⟩)) rfl (by simp only [execOp, Act.eval, h8]; go_simp) rfl
          · intro a w' hb hN hpre
            have h49 : a.tmps.getD 49 undef = (.pointer (some ⟨g8, 0, none⟩) : Value) := hpre 49 (by simp [Op.operands])
            obtain ⟨x0, x1, y0, y1⟩ := HCL.out w' hb
            exact step_val (v := .int .i64 px) rfl (by simp only [execOp, Act.eval, h49]; go_simp) rfl
          · intro a w' hb hN hpre
            have h48 : a.tmps.getD 48 undef = (.int .i64 qx : Value) := hpre 48 (by simp [Op.operands])
            have h50 : a.tmps.getD 50 undef = (.int .i64 px : Value) := hpre 50 (by simp [Op.operands])
            exact step_val (v := .int .i64 (qx - px)) rfl (by simp only [execOp, Act.eval, h48, h50]; go_simp) rfl
          · intro a w' hb hN hpre
            have h51 : a.tmps.getD 51 undef = (.int .i64 (qx - px) : Value) := hpre 51 (by simp [Op.operands, Call.operands])
            exact step_call (f := 93) rfl (by simp only [execOp]; go_simp) (psi_ret (HX1.out w' (bel_to H5.out.1 hb)) (fun _ => rfl))
          · intro a w' hb hN hpre
            have h9 : a.tmps.getD 9 undef = (.pointer (some ⟨g9, 0, none⟩) : Value) := hpre 9 (by simp [Op.operands])
            exact step_val (v := .pointer (some ⟨g9, 1, none⟩)) rfl (by simp only [execOp, Act.eval, h9]; go_simp) rfl
          · intro a w' hb hN hpre
            have h53 : a.tmps.getD 53 undef = (.pointer (some ⟨g9, 1, none⟩) : Value) := hpre 53 (by simp [Op.operands])
            obtain ⟨x0, x1, y0, y1⟩ := HCL.out w' hb
            exact step_val (v := .int .i64 qy) rfl (by simp only [execOp, Act.eval, h53]; go_simp) rfl
          · intro a w' hb hN hpre
            have h8 : a.tmps.getD 8 undef = (.pointer (some ⟨g8, 0, none⟩) : Value) := hpre 8 (by simp [Op.operands])
            exact step_val (v := .pointer (some ⟨g8, 1, none⟩)) rfl (by simp only [execOp, Act.eval, h8]; go_simp) rfl
          · intro a w' hb hN hpre
            have h55 : a.tmps.getD 55 undef = (.pointer (some ⟨g8, 1, none⟩) : Value) := hpre 55 (by simp [Op.operands])
            obtain ⟨x0, x1, y0, y1⟩ := HCL.out w' hb
            exact step_val (v := .int .i64 py) rfl (by simp only [execOp, Act.eval, h55]; go_simp) rfl
          · intro a w' hb hN hpre
            have h54 : a.tmps.getD 54 undef = (.int .i64 qy : Value) := hpre 54 (by simp [Op.operands])
            have h56 : a.tmps.getD 56 undef = (.int .i64 py : Value) := hpre 56 (by simp [Op.operands])
            exact step_val (v := .int .i64 (qy - py)) rfl (by simp only [execOp, Act.eval, h54, h56]; go_simp) rfl
          · intro a w' hb hN hpre
            have h57 : a.tmps.getD 57 undef = (.int .i64 (qy - py) : Value) := hpre 57 (by simp [Op.operands, Call.operands])
            exact step_call (f := 93) rfl (by simp only [execOp]; go_simp) (psi_ret (HY1.out w' (bel_to H5.out.1 hb)) (fun _ => rfl))
          · intro a w' hb hN hpre
            have h52 : a.tmps.getD 52 undef = (.string (bs (R dd.x)) : Value) := hpre 52 (by simp [Op.operands])
            have h58 : a.tmps.getD 58 undef = (.string (bs (R dd.y)) : Value) := hpre 58 (by simp [Op.operands])
            exact step_val (v := .agg #[.string (bs (R dd.x)), .string (bs (R dd.y))]) rfl (by simp only [execOp, List.map_toArray, List.map_cons, List.map_nil, Act.eval, h52, h58]; go_simp) rfl
          · intro a w' hb hN hpre
            have h12 : a.tmps.getD 12 undef = (.string (bs (R dd.s)) : Value) := hpre 12 (by simp [Op.operands])
            exact step_val (v := .string (bs (R dd.s))) rfl (by rw [← h12]; rfl) rfl
          · intro a w' hb hN hpre
            have h59 : a.tmps.getD 59 undef = (.agg #[.string (bs (R dd.x)), .string (bs (R dd.y))] : Value) := hpre 59 (by simp [Op.operands])
            have h60 : a.tmps.getD 60 undef = (.string (bs (R dd.s)) : Value) := hpre 60 (by simp [Op.operands])
            exact step_val (v := .agg #[.string (bs (R dd.x)), .string (bs (R dd.y)), .string (bs (R dd.s))]) rfl (by simp only [execOp, List.map_toArray, List.map_cons, List.map_nil, Act.eval, h59, h60]; go_simp) rfl
          · intro a w' hb hN hpre
            have h61 : a.tmps.getD 61 undef = (.agg #[.string (bs (R dd.x)), .string (bs (R dd.y)), .string (bs (R dd.s))] : Value) := hpre 61 (by simp [Op.operands])
            exact step_grow (w1 := w'.alloc (.cells #[.string (bs (R dd.x)), .string (bs (R dd.y)), .string (bs (R dd.s))] 127 (0, 0))) (v := .slice (some ⟨w'.heap.size, 0, none⟩) 1 1) rfl (by simp only [execOp, List.map_toArray, List.map_cons, List.map_nil, Act.eval, h61]; go_simp) (bel_al _ _) (SlNew.new hb)
        · intro a' w' hb hd hN hpre
          have h0 : a'.tmps.getD 0 undef = (.agg #[.slice Aa A.length ca, .slice Ab B.length cb] : Value) := hpre 0 (by decide)
          have h1 : a'.tmps.getD 1 undef = (.agg #[.slice (some ⟨q3, o3, none⟩) p.length cp, .slice (some ⟨q4, o4, none⟩) q.length cq] : Value) := hpre 1 (by decide)
          have h2 : a'.tmps.getD 2 undef = (.pointer (some ⟨w.heap.size, 0, none⟩) : Value) := hpre 2 (by decide)
          have h3 : a'.tmps.getD 3 undef = (.pointer (some ⟨w.heap.size + 1, 0, none⟩) : Value) := hpre 3 (by decide)
          have h4 : a'.tmps.getD 4 undef = (.slice none 0 0 : Value) := hpre 4 (by decide)
          have h5 : a'.tmps.getD 5 undef = (.slice VA vn vc : Value) := hpre 5 (by decide)
          have h6 : a'.tmps.getD 6 undef = (.int .i64 (i : Int) : Value) := hpre 6 (by decide)
          have h7 : a'.tmps.getD 7 undef = (.int .i64 z : Value) := hpre 7 (by decide)
          have h8 : a'.tmps.getD 8 undef = (.pointer (some ⟨g8, 0, none⟩) : Value) := hpre 8 (by decide)
          have h9 : a'.tmps.getD 9 undef = (.pointer (some ⟨g9, 0, none⟩) : Value) := hpre 9 (by decide)
          have h10 : a'.tmps.getD 10 undef = (.string (bs sh) : Value) := hpre 10 (by decide)
          have h11 : a'.tmps.getD 11 undef = (.int .i64 0 : Value) := hpre 11 (by decide)
          have h12 : a'.tmps.getD 12 undef = (.string (bs (R dd.s)) : Value) := hpre 12 (by decide)
          have h13 : a'.tmps.getD 13 undef = (.int .i64 0 : Value) := hpre 13 (by decide)
          have h14 : a'.tmps.getD 14 undef = (.agg #[.slice Aa A.length ca, .slice Ab B.length cb] : Value) := hpre 14 (by decide)
          have h15 : a'.tmps.getD 15 undef = (.agg #[.slice (some ⟨q3, o3, none⟩) p.length cp, .slice (some ⟨q4, o4, none⟩) q.length cq] : Value) := hpre 15 (by decide)
          have h16 : a'.tmps.getD 16 undef = (.slice (some ⟨bz, oz, none⟩) A.length zcap : Value) := hpre 16 (by decide)
          have h17 : a'.tmps.getD 17 undef = (.int .i64 (A.length : Int) : Value) := hpre 17 (by decide)
          have h18 : a'.tmps.getD 18 undef = (.int .i64 (i : Int) : Value) := hpre 18 (by decide)
          have h46 : a'.tmps.getD 46 undef = (.slice VA vn vc : Value) := hpre 46 (by decide)
          have h47 : a'.tmps.getD 47 undef = (.pointer (some ⟨g9, 0, none⟩) : Value) := hpre 47 (by decide)
          have h48 : a'.tmps.getD 48 undef = (.int .i64 qx : Value) := hpre 48 (by decide)
          have h49 : a'.tmps.getD 49 undef = (.pointer (some ⟨g8, 0, none⟩) : Value) := hpre 49 (by decide)
          have h50 : a'.tmps.getD 50 undef = (.int .i64 px : Value) := hpre 50 (by decide)
          have h51 : a'.tmps.getD 51 undef = (.int .i64 (qx - px) : Value) := hpre 51 (by decide)
          have h52 : a'.tmps.getD 52 undef = (.string (bs (R dd.x)) : Value) := hpre 52 (by decide)
          have h53 : a'.tmps.getD 53 undef = (.pointer (some ⟨g9, 1, none⟩) : Value) := hpre 53 (by decide)
          have h54 : a'.tmps.getD 54 undef = (.int .i64 qy : Value) := hpre 54 (by decide)
          have h55 : a'.tmps.getD 55 undef = (.pointer (some ⟨g8, 1, none⟩) : Value) := hpre 55 (by decide)
          have h56 : a'.tmps.getD 56 undef = (.int .i64 py : Value) := hpre 56 (by decide)
          have h57 : a'.tmps.getD 57 undef = (.int .i64 (qy - py) : Value) := hpre 57 (by decide)
          have h58 : a'.tmps.getD 58 undef = (.string (bs (R dd.y)) : Value) := hpre 58 (by decide)
          have h59 : a'.tmps.getD 59 undef = (.agg #[.string (bs (R dd.x)), .string (bs (R dd.y))] : Value) := hpre 59 (by decide)
          have h60 : a'.tmps.getD 60 undef = (.string (bs (R dd.s)) : Value) := hpre 60 (by decide)
          have h61 : a'.tmps.getD 61 undef = (.agg #[.string (bs (R dd.x)), .string (bs (R dd.y)), .string (bs (R dd.s))] : Value) := hpre 61 (by decide)
          have h65 : a'.tmps.getD 65 undef = (undef : Value) := hpre 65 (by decide)
          obtain ⟨g62, h62, hge62, hrow62⟩ : (SlNew W 127 [.string (bs (R dd.x)), .string (bs (R dd.y)), .string (bs (R dd.s))]) w' (a'.tmps.getD 62 undef) := hpre 62 (by decide)
          obtain ⟨tm, df⟩ := a'
          simp only at hd hN hpre h0 h1 h2 h3 h4 h5 h6 h7 h8 h9 h10 h11 h12 h13 h14 h15 h16 h17 h18 h46 h47 h48 h49 h50 h51 h52 h53 h54 h55 h56 h57 h58 h59 h60 h61 h62 h65
          subst hd
          have htm : tm = #[tm.getD 0 undef, tm.getD 1 undef, tm.getD 2 undef, tm.getD 3 undef, tm.getD 4 undef, tm.getD 5 undef, tm.getD 6 undef, tm.getD 7 undef, tm.getD 8 undef, tm.getD 9 undef, tm.getD 10 undef, tm.getD 11 undef, tm.getD 12 undef, tm.getD 13 undef, tm.getD 14 undef, tm.getD 15 undef, tm.getD 16 undef, tm.getD 17 undef, tm.getD 18 undef, tm.getD 19 undef, tm.getD 20 undef, tm.getD 21 undef, tm.getD 22 undef, tm.getD 23 undef, tm.getD 24 undef, tm.getD 25 undef, tm.getD 26 undef, tm.getD 27 undef, tm.getD 28 undef, tm.getD 29 undef, tm.getD 30 undef, tm.getD 31 undef, tm.getD 32 undef, tm.getD 33 undef, tm.getD 34 undef, tm.getD 35 undef, tm.getD 36 undef, tm.getD 37 undef, tm.getD 38 undef, tm.getD 39 undef, tm.getD 40 undef, tm.getD 41 undef, tm.getD 42 undef, tm.getD 43 undef, tm.getD 44 undef, tm.getD 45 undef, tm.getD 46 undef, tm.getD 47 undef, tm.getD 48 undef, tm.getD 49 undef, tm.getD 50 undef, tm.getD 51 undef, tm.getD 52 undef, tm.getD 53 undef, tm.getD 54 undef, tm.getD 55 undef, tm.getD 56 undef, tm.getD 57 undef, tm.getD 58 undef, tm.getD 59 undef, tm.getD 60 undef, tm.getD 61 undef, tm.getD 62 undef, tm.getD 63 undef, tm.getD 64 undef, tm.getD 65 undef] := (tmps_lit hN).trans (by kernel_rfl)
          simp only [h0, h1, h2, h3, h4, h5, h6, h7, h8, h9, h10, h11, h12, h13, h14, h15, h16, h17, h18, h46, h47, h48, h49, h50, h51, h52, h53, h54, h55, h56, h57, h58, h59, h60, h61, h62, h65] at htm
          clear hpre hN h0 h1 h2 h3 h4 h5 h6 h7 h8 h9 h10 h11 h12 h13 h14 h15 h16 h17 h18 h46 h47 h48 h49 h50 h51 h52 h53 h54 h55 h56 h57 h58 h59 h60 h61 h62 h65
          generalize tm.getD 19 undef = u19 at htm
          generalize tm.getD 20 undef = u20 at htm
          generalize tm.getD 21 undef = u21 at htm
          generalize tm.getD 22 undef = u22 at htm
          generalize tm.getD 23 undef = u23 at htm
          generalize tm.getD 24 undef = u24 at htm
          generalize tm.getD 25 undef = u25 at htm
          generalize tm.getD 26 undef = u26 at htm
          generalize tm.getD 27 undef = u27 at htm
          generalize tm.getD 28 undef = u28 at htm
          generalize tm.getD 29 undef = u29 at htm
          generalize tm.getD 30 undef = u30 at htm
          generalize tm.getD 31 undef = u31 at htm
          generalize tm.getD 32 undef = u32 at htm
          generalize tm.getD 33 undef = u33 at htm
          generalize tm.getD 34 undef = u34 at htm
          generalize tm.getD 35 undef = u35 at htm
          generalize tm.getD 36 undef = u36 at htm
          generalize tm.getD 37 undef = u37 at htm
          generalize tm.getD 38 undef = u38 at htm
          generalize tm.getD 39 undef = u39 at htm
          generalize tm.getD 40 undef = u40 at htm
          generalize tm.getD 41 undef = u41 at htm
          generalize tm.getD 42 undef = u42 at htm
          generalize tm.getD 43 undef = u43 at htm
          generalize tm.getD 44 undef = u44 at htm
          generalize tm.getD 45 undef = u45 at htm
          generalize tm.getD 63 undef = u63 at htm
          generalize tm.getD 64 undef = u64 at htm
          subst htm
          simp only [List.drop_succ_cons, List.drop_zero]
          have H6 := Lib.hid (And.intro (H5.out.2.1.below hb) (bel_to H5.out.2.2.1 hb))
          have HC := Lib.hid (fun j u hu => srcK_row hrow62 j u hu)
          clear hb hge62 hrow62 H5 HCL HX1 HY1 e2 hx1 hx2 hy1 hy2
          go_wp2_with (at_builtin; refine wpList_app_OwnK (m := [dd]) rfl _ _ rfl rfl rfl rfl H6.out.1 HC.out H6.out.2.size (by have := HLT1.out; simp only [List.length_cons, List.length_nil]; omega) ?_; intro v2 w7 ho2 hg2)
          have HN := Lib.hid (And.intro (by rw [HTK1.out]; exact ho2 : OwnK w7 w1.heap.size v2 (dl.take (i + 1))) (app_belOwnK H6.out.1 H6.out.2 (Nat.le_refl _) hg2))
          clear ho2 hg2 H6 HC
          go_wp2
          go_roundw
          case rel => exact ⟨i + 1, _, by go_num, rfl, by omega, HN⟩
          case measure => simp [intOf]; omega
    · obtain rfl : A.length = i := by omega
      have hk2 := hk.out
      rw [HFU.out] at hk2
      have HK := Lib.hid (And.intro hk2.1 (bel_to H1.out.2.1 hk2.2))
      clear hk hk2
      go_wp2
      go_ret
      exact ⟨_, rfl, HK.out.1.base hsz1, HK.out.2⟩
end W
end Go.Proofs.YtellemlhhlafcaaGreatDoor
end
