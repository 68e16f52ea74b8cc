/-
  Top 24: the law TopGaugeRound.
  Top 25: the example 'runPlates', and the plain joining of both gauges.
  Top 25: the law TopPlatesGauged.
  Chapter 49: arguments that are joints, or plates: a struct of two lists.
-/
import Derived.Test.YtellemlhhlafcaaGreatDoorMOG
import Derived.Test.YtellemlhhlafcaaGreatDoorMAB
import Derived.Test.YtellemlhhlafcaaGreatDoorMH
import Derived.Test.YtellemlhhlafcaaGreatDoorMRE
import Derived.Test.YtellemlhhlafcaaGreatDoorMQ
import Derived.BigRegion
import Derived.Test.YtellemlhhlafcaaGreatDoorMPE
import Derived.Test.YtellemlhhlafcaaGreatDoorMQF
import Derived.Lib.SmallJoins
section
namespace Go.Proofs.YtellemlhhlafcaaGreatDoor
open Go Go.RowKit Go.Deep Go.Sort
namespace M
theorem id_zip {ts : List Tg} {cs : List Cc} (hm : ∀ t ∈ ts, t.mat = 1) : ((ts.map idT).zip cs).map dkT = (ts.zip cs).map dkP := by
  rw [List.zip_map_left, List.map_map]
  refine List.map_congr_left fun p hp => ?_
  exact dkT_id (hm p.1 (List.of_mem_zip hp).1)
end M
namespace W
open M
attribute [local go_sem] bs_size bs_toList bs_get bs_extract bs_append bs_lit0 bs_lit1 lit1_bs
set_option maxHeartbeats 1000000
set_option maxRecDepth 20000
end W
end Go.Proofs.YtellemlhhlafcaaGreatDoor
end
section
namespace Go.Proofs.YtellemlhhlafcaaGreatDoor
open Go Go.RowKit Go.Deep Go.Sort
namespace M
theorem tw_c : RightC twA twB := ⟨by decide, by decide, rfl, fun i h1 _ => by
  have h : i < 2 := h1
  rcases (by omega : i = 0 ∨ i = 1) with rfl | rfl
  · show prN (holT 0) (pnT 0) = 0
    decide +kernel
  · show prN (holT 1000) (pnT 1000) = 0
    decide +kernel⟩
theorem tw_g : RightG twA twB twP twQ := ⟨tw_c, rfl, rfl, fun i h1 _ _ _ => by
  have h : i < 2 := h1
  rcases (by omega : i = 0 ∨ i = 1) with rfl | rfl
  · show ringC ⟨2, 0, 100⟩ = 0 ∧ ringC ⟨-2, 0, 92⟩ = 0 ∧ wth (holT 0) 100 = true ∧ wth (pnT 0) 92 = true
    decide +kernel
  · show ringC ⟨998, 0, 100⟩ = 0 ∧ ringC ⟨1002, 0, 92⟩ = 0 ∧ wth (holT 1000) 100 = true ∧ wth (pnT 1000) 92 = true
    decide +kernel⟩
theorem tw_m : ∀ x ∈ mgL twA twB, 0 ≤ x := by decide +kernel
theorem tw_pl : plL twA twP twQ = [8, 8] := by decide +kernel
theorem tw_z : zipJ twA twP twQ = [(⟨-4, 0, 16⟩ : Dk), ⟨4, 0, 16⟩] := by
  have e1 : plyJ (holT 0) ⟨2, 0, 100⟩ ⟨-2, 0, 92⟩ = 8 := by decide +kernel
  have e2 : plyJ (holT 1000) ⟨998, 0, 100⟩ ⟨1002, 0, 92⟩ = 8 := by decide +kernel
  show [dkJ (holT 0) ⟨2, 0, 100⟩ ⟨-2, 0, 92⟩, dkJ (holT 1000) ⟨998, 0, 100⟩ ⟨1002, 0, 92⟩] = _
  unfold dkJ
  simp only [e1, e2]
  simp
  grind
theorem tw_t : togT twA twP twQ = true := by
  unfold togT
  rw [tw_pl, tw_z, first_two (r := 4) (q := 4) (by show (16 : Rat) = 4 * 4; grind) (by show (16 : Rat) = 4 * 4; grind) (by decide) (by decide)]
  unfold farD
  decide +kernel
theorem RightG.join {A B : List Tg} {p q : List Cc} (h : RightG A B p q) (hm : ∀ i (h1 : i < A.length) (h2 : i < B.length), 0 ≤ mgJ A[i] B[i]) (i : Nat) (h1 : i < A.length) (h2 : i < B.length) (h3 : i < p.length) (h4 : i < q.length) : RtJ A[i] B[i] p[i] q[i] := by
  obtain ⟨g1, g2, g3, g4⟩ := h.ok i h1 h2 h3 h4
  obtain ⟨t1, t2, t3, t4, t5, t6, t7⟩ := prN_ok (h.c.ok i h1 h2)
  unfold wth at g3 g4
  rw [Bool.and_eq_true, decide_eq_true_eq, decide_eq_true_eq] at g3 g4
  exact ⟨⟨t1, (ringC_iff _).1 g1, g3.1, g3.2⟩, ⟨t2, (ringC_iff _).1 g2, g4.1, g4.2⟩, t3, t4, t5, t6, t7, hm i h1 h2⟩
theorem idJ_rt {A : List Tg} {p : List Cc} (h0 : 1 ≤ A.length) (h16 : A.length ≤ 16) (hl : p.length = A.length) (h : ∀ i (h1 : i < A.length) (h3 : i < p.length), RtH (A[i], p[i]) ∧ (A[i]).mat = 1) :
    RtR (A.map idT) p ∧ goT ((A.map idT).zip p) = (firstD ((A.zip p).map dkP)).isSome := by
  have hr : RtR (A.map idT) p := ⟨by rw [List.length_map]; exact h0, by rw [List.length_map]; exact h16, by rw [List.length_map]; exact hl, fun i hi hj => by
    rw [List.length_map] at hi
    rw [List.getElem_map]
    exact RtO_id (h i hi hj).1.1 (h i hi hj).1.2.1⟩
  refine ⟨hr, ?_⟩
  have hm : ∀ t ∈ A, t.mat = 1 := fun t ht => by
    obtain ⟨i, hi, rfl⟩ := List.mem_iff_getElem.1 ht
    exact (h i hi (by omega)).2
  rw [goT_pos hr.len, id_zip hm]
  intro i hi hj
  rw [List.length_map] at hi
  rw [List.getElem_map, plyT_id (hm _ (List.getElem_mem hi))]
  exact (h i hi hj).1.wide.1
theorem both_go {A B : List Tg} {p q : List Cc} (h : RightG A B p q) (hm : ∀ i (h1 : i < A.length) (h2 : i < B.length), 0 ≤ mgJ A[i] B[i]) :
    RtR (A.map idT) p ∧ RtR (B.map idT) q ∧ (goT ((A.map idT).zip p) = true → goT ((B.map idT).zip q) = true → togT A p q = true) := by
  have hl := h.c.len
  have hp := h.lp
  have hq := h.lq
  have h0 := h.c.h0
  have h16 := h.c.h1
  have hj := h.join hm
  obtain ⟨r1, g1⟩ := idJ_rt h0 h16 hp fun i h1 h3 => ⟨(hj i h1 (by omega) h3 (by omega)).hp, (hj i h1 (by omega) h3 (by omega)).ma⟩
  obtain ⟨r2, g2⟩ := idJ_rt (A := B) (p := q) (by omega) (by omega) hq fun i h1 h3 => ⟨(hj i (by omega) h1 (by omega) h3).hq, (hj i (by omega) h1 (by omega) h3).mb⟩
  refine ⟨r1, r2, fun e1 e2 => ?_⟩
  rw [g1] at e1
  rw [g2] at e2
  unfold togT
  rw [join_law (by omega) hl hp (by omega) hj e1 e2, Bool.and_true, decide_eq_true_eq]
  intro x hx
  obtain ⟨i, hi, rfl⟩ := List.mem_iff_getElem.1 hx
  have hpl := plL_len hp (show q.length = A.length by omega)
  have i1 : i < A.length := by omega
  rw [plL_get i i1 (by omega) (by omega) hi]
  have hw := wide_join (hj i i1 (by omega) (by omega) (by omega))
  have w1 := (hj i i1 (by omega) (by omega) (by omega)).hp.wide.1
  have w2 := (hj i i1 (by omega) (by omega) (by omega)).hq.wide.1
  dsimp only at w1 w2
  omega
end M
namespace W
open M
attribute [local go_sem] bs_size bs_toList bs_get bs_extract bs_append bs_lit0 bs_lit1 lit1_bs
set_option maxHeartbeats 2000000
set_option maxRecDepth 20000
theorem prunPlates (w : World) (hg : Glob w) (hs : Sig w) : Calls Tryz.prog 22 #[] w (Ret w (.bool true)) := by
  have HSA := Lib.hid (fun va vb W (hW : Below w.heap.size w W) (ha : RdG W va twA) (hb : RdG W vb twB) => asafe va vb twA twB W (hs.below hW) ha hb tw_c tw_m)
  have HTO := Lib.hid (fun va vb vp vq W (hW : Below w.heap.size w W) (ha : RdG W va twA) (hb : RdG W vb twB) (hp : RdC W vp twP) (hq : RdC W vq twQ) => tw_t ▸ atogether va vb vp vq twA twB twP twQ W (hg.of hW) ha hb hp hq tw_g)
  have H2A := Lib.hid (fun W => law49two W)
  have HMA := Lib.hid (fun W => law49measured W)
  unfold ToP at HTO
  unfold joV at HSA HTO H2A HMA
  clear hg hs
  go_enter Tryz.func22, Tryz.ntmps22
  go_wp2_with fail
  refine (H2A.out _).mono ?_
  rintro e w1 ⟨A, B, n, m, c, d, rfl, ha, hb, hb1⟩
  have H1 := Lib.hid (And.intro hb1 (And.intro ha hb))
  clear hb1 ha hb
  go_wp2_with fail
  refine (HSA.out _ _ _ H1.out.1 H1.out.2.1 H1.out.2.2).mono ?_
  rintro e w2 ⟨rfl, hb2⟩
  have H3 := Lib.hid (bel_to H1.out.1 hb2)
  clear hb2 H1 HSA
  go_wp2_with fail
  refine (H2A.out _).mono ?_
  rintro e w3 ⟨A2, B2, n2, m2, c2, d2, rfl, ha, hb, hb3⟩
  have H4 := Lib.hid (And.intro (bel_to H3.out hb3) (And.intro ha hb))
  clear hb3 ha hb H3 H2A
  go_wp2_with fail
  refine (HMA.out _).mono ?_
  rintro e w4 ⟨P, Q, rfl, hp, hq, hb4⟩
  have H5 := Lib.hid (And.intro (bel_to H4.out.1 hb4) (And.intro (H4.out.2.1.below hb4) (And.intro (H4.out.2.2.below hb4) (And.intro hp hq))))
  clear hb4 hp hq H4 HMA
  go_wp2_with fail
  refine (HTO.out _ _ _ _ _ H5.out.1 H5.out.2.1 H5.out.2.2.1 H5.out.2.2.2.1 H5.out.2.2.2.2).mono ?_
  rintro e w5 ⟨i, j, s, rfl, hb5⟩
  have H6 := Lib.hid (bel_to (bel_to H5.out.1 hb5) (bel_al w5 (.cells #[.int .i64 i, .int .i64 j, .int .i64 s] 42 (0, 0))))
  clear hb5 H5 HTO
  go_wp2
  go_ret
  exact Ret.of rfl H6.out
end W
end Go.Proofs.YtellemlhhlafcaaGreatDoor
end
section
namespace Go.Proofs.YtellemlhhlafcaaGreatDoor
open Go Go.RowKit Go.Deep Go.Sort
namespace M
theorem mg_all {A B : List Tg} {p q : List Cc} (h : RightG A B p q) : (∀ i (h1 : i < A.length), RtT A[i] ∧ (A[i]).mat = 1) ∧ ∀ i (h1 : i < B.length), RtT B[i] ∧ (B[i]).mat = 1 :=
  ⟨fun i h1 => by
    obtain ⟨t1, _, t3, _⟩ := prN_ok (h.c.ok i h1 (by have := h.c.len; omega))
    exact ⟨t1, t3⟩, fun i h1 => by
    obtain ⟨_, t2, _, t4, _⟩ := prN_ok (h.c.ok i (by have := h.c.len; omega) h1)
    exact ⟨t2, t4⟩⟩
theorem mem_all {A : List Tg} (h : ∀ i (h1 : i < A.length), RtT A[i] ∧ (A[i]).mat = 1) : ∀ t ∈ A, RtT t ∧ t.mat = 1 := fun t ht => by
  obtain ⟨i, hi, rfl⟩ := List.mem_iff_getElem.1 ht
  exact h i hi
end M
namespace W
open M
attribute [local go_sem] bs_size bs_toList bs_get bs_extract bs_append bs_lit0 bs_lit1 lit1_bs
set_option maxHeartbeats 2000000
set_option maxRecDepth 20000
theorem gauged_law (va vb vp vq : Value) (A B : List Tg) (p q : List Cc) (w : World) (hg : Glob w) (hs : Sig w) (ha : RdG w va A) (hb : RdG w vb B) (hp : RdC w vp p) (hq : RdC w vq q) (na : A.length ≤ maxLen) :
    Calls Tryz.prog 6 #[joV va vb, joV vp vq] w (Ret w (.bool true)) := by
  have HFW := Lib.hid (fun W (hW : Below w.heap.size w W) => rfew49 va vb vp vq A B p q W (ha.below hW) (hb.below hW) (hp.below hW) (hq.below hW) na)
  have HGV := Lib.hid (fun W (hW : Below w.heap.size w W) => rgiven49 va vb vp vq A B p q W (ha.below hW) (hb.below hW) (hp.below hW) (hq.below hW) na)
  have HGD := Lib.hid (fun W (hW : Below w.heap.size w W) (h : RightC A B) => rgood49 va vb A B W (ha.below hW) (hb.below hW) h)
  have HPR := Lib.hid (fun W (hW : Below w.heap.size w W) => prunPlates W (hg.of hW) (hs.below hW))
  have HIA := Lib.hid (fun W (hW : Below w.heap.size w W) (h1 : A.length ≤ 16) (h2 : ∀ t ∈ A, RtT t ∧ t.mat = 1) => prunIdeal va vp A p W (hs.below hW) (ha.below hW) (hp.below hW) h1 h2)
  have HIB := Lib.hid (fun W (hW : Below w.heap.size w W) (h1 : B.length ≤ 16) (h2 : ∀ t ∈ B, RtT t ∧ t.mat = 1) => prunIdeal vb vq B q W (hs.below hW) (hb.below hW) (hq.below hW) h1 h2)
  have HGA := Lib.hid (fun v W (hW : Below w.heap.size w W) (hv : RdTL W v (A.map idT)) (h : RtR (A.map idT) p) => tGoes v vp (A.map idT) p W (hg.of hW) hv (hp.below hW) h)
  have HGB := Lib.hid (fun v W (hW : Below w.heap.size w W) (hv : RdTL W v (B.map idT)) (h : RtR (B.map idT) q) => tGoes v vq (B.map idT) q W (hg.of hW) hv (hq.below hW) h)
  have HTO := Lib.hid (fun W (hW : Below w.heap.size w W) (h : RightG A B p q) => atogether va vb vp vq A B p q W (hg.of hW) (ha.below hW) (hb.below hW) (hp.below hW) (hq.below hW) h)
  unfold GvP at HGV
  unfold ToP at HTO
  unfold GoP GoQ at HGA HGB
  obtain ⟨Aa, ca, rfl⟩ := ha.len
  obtain ⟨Ab, cb, rfl⟩ := hb.len
  obtain ⟨Ap, cp, rfl⟩ := hp.len
  obtain ⟨Aq, cq, rfl⟩ := hq.len
  have hb0 := bel_al2 w (.cells #[.slice Aa A.length ca, .slice Ab B.length cb] 70 (0, 0)) (.cells #[.slice Ap p.length cp, .slice Aq q.length cq] 72 (0, 0))
  have hr1 : Row ((w.alloc (.cells #[.slice Aa A.length ca, .slice Ab B.length cb] 70 (0, 0))).alloc (.cells #[.slice Ap p.length cp, .slice Aq q.length cq] 72 (0, 0))) w.heap.size 70 [.slice Aa A.length ca, .slice Ab B.length cb] := rnw.alloc _
  have hr2 : Row ((w.alloc (.cells #[.slice Aa A.length ca, .slice Ab B.length cb] 70 (0, 0))).alloc (.cells #[.slice Ap p.length cp, .slice Aq q.length cq] 72 (0, 0))) (w.heap.size + 1) 72 [.slice Ap p.length cp, .slice Aq q.length cq] := rnew0 (World.size_alloc _ _).symm
  have HR := Lib.hid (And.intro hr1 (And.intro hr2 hb0))
  have r0 := hr1.cell (i := 0) rfl
  have r1 := hr1.cell (i := 1) rfl
  have s0 := hr2.cell (i := 0) rfl
  have s1 := hr2.cell (i := 1) rfl
  clear ha hb hp hq hg hs hb0 hr1 hr2
  unfold joV at HFW HGV HGD HTO ⊢
  go_enter Tryz.func6, Tryz.ntmps6
  go_wp2_with fail
  refine (HFW.out _ HR.out.2.2).mono ?_
  rintro e w1 ⟨b, rfl, hb1⟩
  have H1 := Lib.hid (And.intro (HR.out.1.below' hb1) (And.intro (HR.out.2.1.below' hb1) (bel_to HR.out.2.2 hb1)))
  clear hb1 HR HFW r0 r1 s0 s1
  cases b with
  | false =>
    clear HGV HGD HIA HIB HGA HGB HTO
    go_wp2_with fail
    refine (HPR.out _ H1.out.2.2).mono ?_
    rintro e w2 ⟨rfl, hb2⟩
    have hb2 := bel_to H1.out.2.2 hb2
    clear H1
    go_wp2
    go_ret
    exact Ret.of rfl hb2
  | true =>
    have r0 := H1.out.1.cell (i := 0) rfl
    have r1 := H1.out.1.cell (i := 1) rfl
    have s0 := H1.out.2.1.cell (i := 0) rfl
    have s1 := H1.out.2.1.cell (i := 1) rfl
    go_wp2_with fail
    refine (HGV.out _ H1.out.2.2).mono ?_
    rintro e w2 ⟨n, rfl, hn, hb2⟩
    have H2 := Lib.hid (And.intro (H1.out.1.below' hb2) (And.intro (H1.out.2.1.below' hb2) (bel_to H1.out.2.2 hb2)))
    clear hb2 H1 HGV r0 r1 s0 s1
    by_cases h0 : n = 0
    · have HG := Lib.hid (hn.1 h0)
      subst h0
      clear hn
      have r0 := H2.out.1.cell (i := 0) rfl
      have r1 := H2.out.1.cell (i := 1) rfl
      go_wp2_with fail
      refine (HGD.out _ H2.out.2.2 HG.out.c).mono ?_
      rintro e w3 ⟨b, rfl, hm, hb3⟩
      have H3 := Lib.hid (And.intro (H2.out.1.below' hb3) (And.intro (H2.out.2.1.below' hb3) (bel_to H2.out.2.2 hb3)))
      clear hb3 H2 HGD r0 r1
      cases b with
      | false =>
        clear HIA HIB HGA HGB HTO hm
        go_wp2_with fail
        refine (HPR.out _ H3.out.2.2).mono ?_
        rintro e w4 ⟨rfl, hb4⟩
        have hb4 := bel_to H3.out.2.2 hb4
        clear H3
        go_wp2
        go_ret
        exact Ret.of rfl hb4
      | true =>
        obtain ⟨r1A, r1B, hj⟩ := both_go HG.out (hm rfl)
        have HGA := Lib.hid (fun v W (hW : Below w.heap.size w W) (hv : RdTL W v (A.map idT)) => HGA.out v W hW hv r1A)
        have HGB := Lib.hid (fun v W (hW : Below w.heap.size w W) (hv : RdTL W v (B.map idT)) => HGB.out v W hW hv r1B)
        have HIA := Lib.hid (fun W (hW : Below w.heap.size w W) => HIA.out W hW HG.out.c.h1 (mem_all (mg_all HG.out).1))
        have HIB := Lib.hid (fun W (hW : Below w.heap.size w W) => HIB.out W hW (by have := HG.out.c.h1; have := HG.out.c.len; omega) (mem_all (mg_all HG.out).2))
        have HTO := Lib.hid (fun W (hW : Below w.heap.size w W) => HTO.out W hW HG.out)
        have HJ := Lib.hid hj
        clear r1A r1B hj hm HG
        generalize togT A p q = tg at *
        generalize goT ((A.map idT).zip p) = ga at *
        generalize goT ((B.map idT).zip q) = gb at *
        generalize witT ((A.map idT).zip p) = xa at *
        generalize witT ((B.map idT).zip q) = xb at *
        generalize A.map idT = la at *
        generalize B.map idT = lb at *
        unfold trV at HIA HIB HGA HGB
        have r0 := H3.out.1.cell (i := 0) rfl
        have s0 := H3.out.2.1.cell (i := 0) rfl
        go_wp2_with fail
        refine (HIA.out _ H3.out.2.2).mono ?_
        rintro e w4 ⟨v, rfl, ho, hb4⟩
        obtain ⟨VA, vn, vc, hve⟩ := ho.shape
        subst hve
        have hal := bel_al w4 (.cells #[.bool false, .slice VA vn vc, .slice Ap p.length cp] 55 (0, 0))
        have hrt : Row (w4.alloc (.cells #[.bool false, .slice VA vn vc, .slice Ap p.length cp] 55 (0, 0))) w4.heap.size 55 [.bool false, .slice VA vn vc, .slice Ap p.length cp] := rnw
        have H4 := Lib.hid (And.intro (H3.out.1.below' (bel_to hb4 hal)) (And.intro (H3.out.2.1.below' (bel_to hb4 hal)) (And.intro (bel_to H3.out.2.2 (bel_to hb4 hal)) (And.intro (ho.rd.below hal) hrt))))
        clear hb4 ho hal hrt H3 HIA r0 s0
        have r1 := H4.out.1.cell (i := 1) rfl
        have s1 := H4.out.2.1.cell (i := 1) rfl
        go_wp2_with fail
        refine (HIB.out _ H4.out.2.2.1).mono ?_
        rintro e w5 ⟨v, rfl, ho, hb5⟩
        obtain ⟨VB, wn, wc, hve⟩ := ho.shape
        subst hve
        have hal := bel_al w5 (.cells #[.bool false, .slice VB wn wc, .slice Aq q.length cq] 55 (0, 0))
        have hrt : Row (w5.alloc (.cells #[.bool false, .slice VB wn wc, .slice Aq q.length cq] 55 (0, 0))) w5.heap.size 55 [.bool false, .slice VB wn wc, .slice Aq q.length cq] := rnw
        have hbx := bel_to hb5 hal
        have H5 := Lib.hid (And.intro (H4.out.1.below' hbx) (And.intro (H4.out.2.1.below' hbx) (And.intro (bel_to H4.out.2.2.1 hbx) (And.intro (H4.out.2.2.2.1.below hbx) (And.intro (H4.out.2.2.2.2.below' hbx) (And.intro (ho.rd.below hal) hrt))))))
        clear hb5 ho hal hrt H4 HIB r1 s1 hbx
        have x0 := H5.out.2.2.2.2.1.cell (i := 0) rfl
        have x1 := H5.out.2.2.2.2.1.cell (i := 1) rfl
        have x2 := H5.out.2.2.2.2.1.cell (i := 2) rfl
        go_wp2_with fail
        refine (HGA.out _ _ H5.out.2.2.1 H5.out.2.2.2.1).mono ?_
        rintro e w6 ⟨i, j, s, GA, gn, gc, rfl, -, hb6⟩
        have hal := bel_al w6 (.cells #[.int .i64 i, .int .i64 j, .int .i64 s, .slice none 0 0, .slice GA gn gc, .slice none 0 0] 62 (0, 0))
        have hbx := bel_to hb6 hal
        have H6 := Lib.hid (And.intro (H5.out.1.below' hbx) (And.intro (H5.out.2.1.below' hbx) (And.intro (bel_to H5.out.2.2.1 hbx) (And.intro (H5.out.2.2.2.2.2.1.below hbx) (H5.out.2.2.2.2.2.2.below' hbx)))))
        clear hb6 hal hbx H5 HGA x0 x1 x2
        have y0 := H6.out.2.2.2.2.cell (i := 0) rfl
        have y1 := H6.out.2.2.2.2.cell (i := 1) rfl
        have y2 := H6.out.2.2.2.2.cell (i := 2) rfl
        go_wp2_with fail
        refine (HGB.out _ _ H6.out.2.2.1 H6.out.2.2.2.1).mono ?_
        rintro e w7 ⟨i2, j2, s2, GB, gn2, gc2, rfl, -, hb7⟩
        have hal := bel_al w7 (.cells #[.int .i64 i2, .int .i64 j2, .int .i64 s2, .slice none 0 0, .slice GB gn2 gc2, .slice none 0 0] 62 (0, 0))
        have hbx := bel_to hb7 hal
        have H7 := Lib.hid (And.intro (H6.out.1.below' hbx) (And.intro (H6.out.2.1.below' hbx) (bel_to H6.out.2.2.1 hbx)))
        clear hb7 hal hbx H6 HGB y0 y1 y2
        have r0 := H7.out.1.cell (i := 0) rfl
        have r1 := H7.out.1.cell (i := 1) rfl
        have s0 := H7.out.2.1.cell (i := 0) rfl
        have s1 := H7.out.2.1.cell (i := 1) rfl
        go_wp2_with fail
        refine (HTO.out _ H7.out.2.2).mono ?_
        rintro e w8 ⟨i3, j3, s3, rfl, hb8⟩
        have hal := bel_al w8 (.cells #[.int .i64 i3, .int .i64 j3, .int .i64 s3] 42 (0, 0))
        have H8 := Lib.hid (bel_to H7.out.2.2 (bel_to hb8 hal))
        clear hb8 hal H7 HTO r0 r1 s0 s1
        cases ga <;> cases gb <;> cases tg
        case true.true.false => cases HJ.out rfl rfl
        all_goals
        · clear HJ
          go_wp2_with fail
          refine (HPR.out _ H8.out).mono ?_
          rintro e w9 ⟨rfl, hb9⟩
          have hb9 := bel_to H8.out hb9
          clear H8
          go_wp2
          go_ret
          exact Ret.of rfl hb9
    · have hz : ((n : Int) != 0) = true := by rw [bne_iff_ne]; omega
      clear hn h0 HGD HIA HIB HGA HGB HTO
      go_wp2_with fail
      refine (HPR.out _ H2.out.2.2).mono ?_
      rintro e w3 ⟨rfl, hb3⟩
      have hb3 := bel_to H2.out.2.2 hb3
      clear H2
      go_wp2
      go_ret
      exact Ret.of rfl hb3
end W
end Go.Proofs.YtellemlhhlafcaaGreatDoor
end
section
namespace Go.Proofs.YtellemlhhlafcaaGreatDoor
open Go Go.RowKit Go.ChangeShapes Go.WideShapes Go.ChangeAt Go.Deep
namespace Fin
set_option maxRecDepth 20000
section
variable {H : Type} {enc : TypeId × Value → H} {W : World}
theorem cell_sl {t e : TypeId} {n : Nat} {c : Value} {x : DataW H × List MemPlace} (ht : Tryz.prog.underlying t = some (.slice e)) (h : DataW.trod enc Tryz.prog W 0 (fun _ => true) true n t [c] = some x) : ∃ a len cap, c = .slice a len cap := by
  rcases open_slice ht h with ⟨hcs, _⟩ | ⟨a, len, cap, m, n, D, Pl, hcs, _, hl, hm, hmm, _, hi⟩
  · simp only [List.cons.injEq, and_true] at hcs
    exact ⟨_, _, _, hcs⟩
  · simp only [List.cons.injEq, and_true] at hcs
    exact ⟨_, _, _, hcs⟩
theorem cell_gl {n : Nat} {c : Value} {x : DataW H × List MemPlace} (h : DataW.trod enc Tryz.prog W 0 (fun _ => true) true n 33 [c] = some x) : ∃ l : List M.Tg, RdG W c l ∧ l.length ≤ maxLen := by
  obtain ⟨a, len, cap, rfl⟩ := cell_sl Tryz.underlying33 h
  obtain ⟨d, p⟩ := x
  obtain ⟨l, h1, h2, _⟩ := open_gl ⟨a, len, cap, rfl⟩ (⟨n, h⟩ : DataW.Trod enc Tryz.prog W 0 (fun _ => true) true 33 (.slice a len cap) d p)
  exact ⟨l, h1, h2⟩
theorem cell_cl {n : Nat} {c : Value} {x : DataW H × List MemPlace} (h : DataW.trod enc Tryz.prog W 0 (fun _ => true) true n 34 [c] = some x) : ∃ l : List M.Cc, RdC W c l ∧ l.length ≤ maxLen := by
  obtain ⟨a, len, cap, rfl⟩ := cell_sl Tryz.underlying34 h
  obtain ⟨d, p⟩ := x
  obtain ⟨l, h1, h2, _⟩ := open_cl ⟨a, len, cap, rfl⟩ (⟨n, h⟩ : DataW.Trod enc Tryz.prog W 0 (fun _ => true) true 34 (.slice a len cap) d p)
  exact ⟨l, h1, h2⟩
theorem open_jo {r : Reach} {b0 : Nat} {v : Value} {d : DataW H} {p : List MemPlace} (hv : Value.okWide Tryz.prog W r b0 70 v) (h : DataW.Trod enc Tryz.prog W 0 (fun _ => true) true 70 v d p) :
    ∃ (va vb : Value) (A B : List M.Tg), v = .agg #[va, vb] ∧ RdG W va A ∧ RdG W vb B ∧ A.length ≤ maxLen ∧ B.length ≤ maxLen := by
  obtain ⟨va, vb, y0, y1, n, rfl, _, _, e0, e1⟩ := Go.Joins.open_agg2 Tryz.underlying70 (by kernel_rfl) (by kernel_rfl) hv h
  obtain ⟨A, a1, a2⟩ := cell_gl e0
  obtain ⟨B, b1, b2⟩ := cell_gl e1
  exact ⟨va, vb, A, B, rfl, a1, b1, a2, b2⟩
theorem open_pl {r : Reach} {b0 : Nat} {v : Value} {d : DataW H} {p : List MemPlace} (hv : Value.okWide Tryz.prog W r b0 72 v) (h : DataW.Trod enc Tryz.prog W 0 (fun _ => true) true 72 v d p) :
    ∃ (va vb : Value) (A B : List M.Cc), v = .agg #[va, vb] ∧ RdC W va A ∧ RdC W vb B ∧ A.length ≤ maxLen ∧ B.length ≤ maxLen := by
  obtain ⟨va, vb, y0, y1, n, rfl, _, _, e0, e1⟩ := Go.Joins.open_agg2 Tryz.underlying72 (by kernel_rfl) (by kernel_rfl) hv h
  obtain ⟨A, a1, a2⟩ := cell_cl e0
  obtain ⟨B, b1, b2⟩ := cell_cl e1
  exact ⟨va, vb, A, B, rfl, a1, b1, a2, b2⟩
end
end Fin
end Go.Proofs.YtellemlhhlafcaaGreatDoor
end
