/-
  Top 24: 'tryIdeal', 'tryPlate', the fixed example 'tryGauge'.
  Top 24: the law TopGaugeRound.
-/
import Derived.Test.YtellemlhhlafcaaGreatDoorLOC
import Derived.Test.YtellemlhhlafcaaGreatDoorLOE
import Derived.Test.YtellemlhhlafcaaGreatDoorLOB
import Derived.Test.YtellemlhhlafcaaGreatDoorLAB
import Derived.Test.YtellemlhhlafcaaGreatDoorLH
import Derived.Test.YtellemlhhlafcaaGreatDoorLRE
import Derived.Test.YtellemlhhlafcaaGreatDoorLQ
import Derived.BigRegion
section
namespace Go.Proofs.YtellemlhhlafcaaGreatDoor
open Go Go.RowKit Go.Deep Go.Sort
theorem own_setT {w : World} {B g j : Nat} {v u : Value} {l : List M.To} (hg : g < B) (h : OwnTL w B v l) : OwnTL (w.setCell ⟨g, j, none⟩ u) B v l := by
  refine World.ownsRow.kept h (grown_set w ⟨g, j, none⟩ u) ?_
  rcases hv : v.ownBlock with _ | k
  · exact Or.inl rfl
  · refine Or.inr fun e => ?_
    injection e with e
    have := (World.ownsRow.lt h k hv).1
    simp only at e
    omega
namespace M
def paT : List Tg := [⟨0, 0, 100, 110, 8, 1, false⟩, ⟨500, 0, 50, 60, 4, 1, true⟩]
def paC (y : Int) : List Cc := [⟨0, y, 100⟩, ⟨500, 0, 60⟩]
def paO : List To := [⟨0, 0, false, 92⟩, ⟨500, 0, true, 64⟩]
theorem pa_id : paT.map (fun t => hiT (desQ 0 0 t)) = paO := by simp [paT, paO, hiT, desQ, desE, virt]
theorem pa_rt (y : Int) (hy : y = 0 ∨ y = 20) : RtR paO (paC y) := by
  refine ⟨by decide, by decide, rfl, fun i h h2 => ?_⟩
  have hi : i < 2 := h
  rcases (by omega : i = 0 ∨ i = 1) with rfl | rfl
  · exact ⟨show -100000 ≤ (0 : Int) ∧ (0 : Int) ≤ 100000 from by decide, show -100000 ≤ (0 : Int) ∧ (0 : Int) ≤ 100000 from by decide, show 1 ≤ (92 : Int) ∧ (92 : Int) ≤ 300000 from by decide, ⟨show -100000 ≤ (0 : Int) ∧ (0 : Int) ≤ 100000 from by decide, show -100000 ≤ y ∧ y ≤ 100000 from by omega, show 1 ≤ (100 : Int) ∧ (100 : Int) ≤ 100000 from by decide⟩⟩
  · exact ⟨show -100000 ≤ (500 : Int) ∧ (500 : Int) ≤ 100000 from by decide, show -100000 ≤ (0 : Int) ∧ (0 : Int) ≤ 100000 from by decide, show 1 ≤ (64 : Int) ∧ (64 : Int) ≤ 300000 from by decide, ⟨show -100000 ≤ (500 : Int) ∧ (500 : Int) ≤ 100000 from by decide, show -100000 ≤ (0 : Int) ∧ (0 : Int) ≤ 100000 from by decide, show 1 ≤ (60 : Int) ∧ (60 : Int) ≤ 100000 from by decide⟩⟩
theorem pa_zip (y : Int) : (paO.zip (paC y)).map dkT = [(⟨0, ((0 - y : Int) : Rat), 16⟩ : Dk), ⟨0, 0, 4⟩] := by
  have e1 : plyT (⟨0, 0, false, 92⟩, ⟨0, y, 100⟩) = 8 := by unfold plyT; simp
  have e2 : plyT (⟨500, 0, true, 64⟩, ⟨500, 0, 60⟩) = 4 := by decide +kernel
  show [dkT (⟨0, 0, false, 92⟩, ⟨0, y, 100⟩), dkT (⟨500, 0, true, 64⟩, ⟨500, 0, 60⟩)] = _
  unfold dkT
  simp only [e1, e2]
  simp
  grind
theorem pa_ply (y : Int) : (paO.zip (paC y)).all (fun p => decide (0 ≤ plyT p)) = true := by
  have e1 : plyT (⟨0, 0, false, 92⟩, ⟨0, y, 100⟩) = 8 := by unfold plyT; simp
  have e2 : plyT (⟨500, 0, true, 64⟩, ⟨500, 0, 60⟩) = 4 := by decide +kernel
  show [((⟨0, 0, false, 92⟩ : To), (⟨0, y, 100⟩ : Cc)), (⟨500, 0, true, 64⟩, ⟨500, 0, 60⟩)].all (fun p => decide (0 ≤ plyT p)) = true
  simp [e1, e2]
theorem pa_two (y : Int) : goT (paO.zip (paC y)) = decide (farD ⟨0, ((0 - y : Int) : Rat), 16⟩ ⟨0, 0, 4⟩ ≤ (4 + 2) * (4 + 2)) := by
  unfold goT
  rw [pa_ply, Bool.true_and, pa_zip]
  exact first_two (r := 4) (q := 2) (by show (16 : Rat) = 4 * 4; grind) (by show (4 : Rat) = 2 * 2; grind) (by decide) (by decide)
theorem pa_goes : goT (paO.zip (paC 0)) = true := by
  rw [pa_two]
  unfold farD
  decide +kernel
theorem pa_off : goT (paO.zip (paC 20)) = false := by
  rw [pa_two]
  unfold farD
  decide +kernel
theorem pa_des : ∀ t ∈ paT, desC 0 0 t = 0 := by decide +kernel
end M
namespace W
open M
attribute [local go_sem] bs_size bs_toList bs_get bs_extract bs_append bs_lit0 bs_lit1 lit1_bs
set_option maxHeartbeats 1000000
set_option maxRecDepth 20000
def IdP (vc : Value) (l : List Tg) (a b : Int) (w : World) (e : Ending) (w' : World) : Prop := ∃ v, ((e = .returned (.tuple #[trV v vc, .bool true]) ∧ (∀ t ∈ l, desC a b t = 0) ∧ OwnTL w' w.heap.size v (l.map fun t => hiT (desQ a b t))) ∨ (∃ A n c, v = .slice A n c) ∧ (∃ t ∈ l, desC a b t ≠ 0) ∧ e = .returned (.tuple #[trV v vc, .bool false])) ∧ Below w.heap.size w w'
theorem des_lim {a b : Int} {t : Tg} (ht : RtT t) (ha : 0 ≤ a) (hb : 0 ≤ b) (hab : a + b ≤ 100000) (h : desC a b t = 0) : 1 ≤ (desQ a b t).lo ∧ (desQ a b t).lo ≤ (desQ a b t).hi ∧ (desQ a b t).hi ≤ 300000 := by
  have hr := virt_rng ht
  unfold desC at h
  unfold desQ
  by_cases h1 : (desE a b t).lo < 1
  · rw [if_pos h1] at h; cases h
  · rw [if_neg h1]
    unfold desE at h1 ⊢
    cases hp : t.pin with
    | true => rw [hp, if_pos rfl] at h1; rw [if_pos rfl]; dsimp only at h1 ⊢; omega
    | false => rw [hp, if_neg (by decide)] at h1; rw [if_neg (by decide)]; dsimp only at h1 ⊢; omega
theorem ptryIdeal (vl vc : Value) (l : List Tg) (cs : List Cc) (a b : Int) (w : World) (hs : Sig w) (hl : RdG w vl l) (hc : RdC w vc cs) (h0 : 0 < l.length) (hn : l.length ≤ 16) (ht : ∀ t ∈ l, RtT t ∧ t.mat = 1) (ha : 0 ≤ a) (hb : 0 ≤ b) (hab : a + b ≤ 100000) :
    Calls Tryz.prog 17 #[vl, vc, .agg #[.int .i64 a, .int .i64 b]] w (IdP vc l a b w) := by
  have HD := Lib.hid (fun W (hW : Below w.heap.size w W) => gdesign vl l a b W (hs.below hW) (hl.below hW) h0 hn ht ⟨ha, by omega⟩ ⟨hb, by omega⟩)
  have HM := Lib.hid (fun v W (_ : Below w.heap.size w W) (hv : RdEL W v (l.map (desQ a b))) (hz : ∀ t ∈ l, desC a b t = 0) => gmade v (l.map (desQ a b)) W hv (by rw [List.length_map]; exact hn) (fun e he => by
    obtain ⟨t, ht2, rfl⟩ := List.mem_map.1 he
    exact des_lim (ht t ht2).1 ha hb hab (hz t ht2)))
  have HM0 := Lib.hid (fun W => gmade (.slice none 0 0) [] W ⟨none, 0, rfl, Or.inl rfl⟩ (by decide) (fun e he => absurd he List.not_mem_nil))
  obtain ⟨A, cap, rfl⟩ := hl.len
  obtain ⟨B, cap2, rfl⟩ := hc.len
  have hb0 := bel_al2 w (.cells #[.int .i64 a, .int .i64 b] 59 (0, 0)) (.cells #[.bool false, .slice none 0 0, .slice none 0 0] 55 (0, 0))
  have hr1 : Row ((w.alloc (.cells #[.int .i64 a, .int .i64 b] 59 (0, 0))).alloc (.cells #[.bool false, .slice none 0 0, .slice none 0 0] 55 (0, 0))) w.heap.size 59 [.int .i64 a, .int .i64 b] := rnw.alloc _
  have hr2 : Row ((w.alloc (.cells #[.int .i64 a, .int .i64 b] 59 (0, 0))).alloc (.cells #[.bool false, .slice none 0 0, .slice none 0 0] 55 (0, 0))) (w.heap.size + 1) 55 [.bool false, .slice none 0 0, .slice none 0 0] := rnew0 (World.size_alloc _ _).symm
  have HR := Lib.hid (And.intro hr1 (And.intro hr2 hb0))
  have hz1 : ((l.length : Int) == (l.length : Int)) = true := beq_self_eq_true _
  have hlm := Lib.hid (show (l.map (desQ a b)).map hiT = l.map fun t => hiT (desQ a b t) from by rw [List.map_map]; rfl)
  have hll := Lib.hid (show (l.map fun t => hiT (desQ a b t)).length = l.length from List.length_map _)
  clear hs hl hc ht hr1 hr2 hb0 ha hb hab hn
  unfold IdP trV
  unfold DesP at HD
  go_enter Tryz.func17, Tryz.ntmps17
  have r0 := HR.out.1.cell (i := 0) rfl
  have r1 := HR.out.1.cell (i := 1) rfl
  go_wp2_with fail
  refine (HD.out _ HR.out.2.2).mono ?_
  rintro e w1 ⟨hq, hb1⟩
  have H1 := Lib.hid (And.intro (HR.out.2.1.below' hb1) (bel_to HR.out.2.2 hb1))
  have hsz1 := HR.out.2.2.size
  clear hb1 HD r0 r1
  rcases hq with ⟨v, rfl, hz, hv⟩ | ⟨hn, rfl⟩
  · obtain ⟨EA, en, ec, he⟩ := hv.shape
    subst he
    have HMM := Lib.hid (HM.out _ w1 H1.out.2 hv.rd hz)
    have HZ := Lib.hid hz
    clear hv hz HM HM0 HR
    go_wp2_with fail
    refine HMM.out.mono ?_
    rintro e w2 ⟨v, rfl, hv, hb2⟩
    rw [hlm.out] at hv
    obtain ⟨VA, vcap, hve⟩ := hv.rd.len
    rw [hll.out] at hve
    subst hve
    have hlt := H1.out.1.lt
    have H2 := Lib.hid (And.intro (H1.out.1.below' hb2) (And.intro (bel_to H1.out.2 hb2) hv))
    have hsz := H1.out.2.size
    clear hv hb2 H1 HMM
    obtain ⟨⟨f0, m0⟩, ⟨f1, m1⟩, ⟨f2, m2⟩, hrow⟩ := three_store (.bool false) (.slice VA l.length vcap) (.slice B cs.length cap2) H2.out.1
    have HQ := Lib.hid (And.intro hrow (And.intro (three_below (.bool false) (.slice VA l.length vcap) (.slice B cs.length cap2) H2.out.2.1 (A := w.heap.size + 1) (by omega)) ((own_setT (j := 2) (u := .slice B cs.length cap2) hlt (own_setT (j := 1) (u := .slice VA l.length vcap) hlt (own_setT (j := 0) (u := .bool false) hlt H2.out.2.2))).base hsz)))
    clear hrow H2
    go_wp2
    have q0 := HQ.out.1.cell (i := 0) rfl
    have q1 := HQ.out.1.cell (i := 1) rfl
    have q2 := HQ.out.1.cell (i := 2) rfl
    refine bodyPost_ret (v := .tuple #[.agg #[.bool false, .slice VA l.length vcap, .slice B cs.length cap2], .bool true]) (by simp [results, Tryz.results17, go_sem, q0, q1, q2]) rfl ⟨_, Or.inl ⟨rfl, HZ.out, HQ.out.2.2⟩, HQ.out.2.1⟩
  · have HN := Lib.hid hn
    clear hn HM HR
    go_wp2_with fail
    refine (HM0.out _).mono ?_
    rintro e w2 ⟨v, rfl, hv, hb2⟩
    obtain ⟨VA, vcap, hve⟩ := hv.rd.len
    rw [show (([] : List El).map hiT).length = 0 from rfl] at hve
    subst hve
    have H2 := Lib.hid (And.intro (H1.out.1.below' hb2) (bel_to H1.out.2 hb2))
    clear hv hb2 H1 HM0
    obtain ⟨⟨f0, m0⟩, ⟨f1, m1⟩, ⟨f2, m2⟩, hrow⟩ := three_store (.bool false) (.slice VA 0 vcap) (.slice B cs.length cap2) H2.out.1
    have HQ := Lib.hid (And.intro hrow (three_below (.bool false) (.slice VA 0 vcap) (.slice B cs.length cap2) H2.out.2 (A := w.heap.size + 1) (by omega)))
    clear hrow H2
    go_wp2
    have q0 := HQ.out.1.cell (i := 0) rfl
    have q1 := HQ.out.1.cell (i := 1) rfl
    have q2 := HQ.out.1.cell (i := 2) rfl
    refine bodyPost_ret (v := .tuple #[.agg #[.bool false, .slice VA 0 vcap, .slice B cs.length cap2], .bool false]) (by simp [results, Tryz.results17, go_sem, q0, q1, q2]) rfl ⟨_, Or.inr ⟨⟨_, _, _, rfl⟩, HN.out, rfl⟩, HQ.out.2⟩
theorem ptryPlate (vt vc : Value) (ts : List Tg) (cs : List Cc) (w : World) (ht : RdG w vt ts) (hc : RdC w vc cs) (nt : ts.length ≤ maxLen) (nc : cs.length ≤ maxLen) :
    Calls Tryz.prog 15 #[vt, vc, .int .i64 4] w (Ret w (.bool (decide (ts.length ≤ 4) && decide (chk47 ts = 0) && decide (chk46 ts cs = 0)))) := by
  have HC := Lib.hid (fun W (hW : Below w.heap.size w W) => rcheck45 vt vc ts cs W (ht.below hW) (hc.below hW) nt nc)
  have HD := Lib.hid (fun W (hW : Below w.heap.size w W) => rcheck47 vt ts W (ht.below hW) nt)
  obtain ⟨At, ct, rfl⟩ := ht.len
  obtain ⟨Ac, cc, rfl⟩ := hc.len
  have hal := bel_al w (.cells #[.slice At ts.length ct, .slice Ac cs.length cc, .int .i64 (-1)] 98 (0, 0))
  have hrw : Row (w.alloc (.cells #[.slice At ts.length ct, .slice Ac cs.length cc, .int .i64 (-1)] 98 (0, 0))) w.heap.size 98 [.slice At ts.length ct, .slice Ac cs.length cc, .int .i64 (-1)] := rnw
  have HR := Lib.hid (And.intro hrw hal)
  generalize hrs : (decide (ts.length ≤ 4) && decide (chk47 ts = 0) && decide (chk46 ts cs = 0)) = rs
  have HRS := Lib.hid hrs
  clear ht hc hrs hal hrw
  unfold tkW at HC
  by_cases h4 : ts.length ≤ 4
  · have d4 : decide ((ts.length : Int) ≤ 4) = true := decide_eq_true (by omega)
    by_cases h7 : chk47 ts = 0
    · have hq : (((chk46 ts cs : Nat) : Int) == 0) = rs := by
        rw [← HRS.out, decide_eq_true h4, decide_eq_true h7, Bool.true_and, Bool.true_and]
        by_cases h0 : chk46 ts cs = 0
        · rw [decide_eq_true h0, h0]; rfl
        · rw [decide_eq_false h0, beq_eq_false_iff_ne]; omega
      rw [h7] at HD
      generalize ((chk46 ts cs : Nat) : Int) = ck at *
      clear HRS h7
      go_enter Tryz.func15, Tryz.ntmps15
      go_wp2_with fail
      refine (HD.out _ HR.out.2).mono ?_
      rintro e w1 ⟨rfl, hb1⟩
      have H1 := Lib.hid (And.intro (HR.out.1.below' hb1) (bel_to HR.out.2 hb1))
      clear hb1 HR HD
      have r0 := H1.out.1.cell (i := 0) rfl
      have r1 := H1.out.1.cell (i := 1) rfl
      have r2 := H1.out.1.cell (i := 2) rfl
      go_wp2_with fail
      refine (HC.out _ H1.out.2).mono ?_
      rintro e w2 ⟨rfl, hb2⟩
      have hb2 := bel_to H1.out.2 hb2
      clear H1
      go_wp2
      go_ret
      exact Ret.of rfl hb2
    · obtain rfl : false = rs := by rw [← HRS.out, decide_eq_false h7]; simp
      have hq : (((chk47 ts : Nat) : Int) == 0) = false := by rw [beq_eq_false_iff_ne]; omega
      generalize ((chk47 ts : Nat) : Int) = ck at *
      clear HRS h7 HC
      go_enter Tryz.func15, Tryz.ntmps15
      go_wp2_with fail
      refine (HD.out _ HR.out.2).mono ?_
      rintro e w1 ⟨rfl, hb1⟩
      have hb1 := bel_to HR.out.2 hb1
      clear HR HD
      go_wp2
      go_ret
      exact Ret.of rfl hb1
  · have d4 : decide ((ts.length : Int) ≤ 4) = false := decide_eq_false (by omega)
    obtain rfl : false = rs := by rw [← HRS.out, decide_eq_false h4]; rfl
    have hal := HR.out.2
    clear HRS HR HC HD
    go_enter Tryz.func15, Tryz.ntmps15
    go_wp2
    go_ret
    exact Ret.of rfl hal
theorem ppair (w : World) : Calls Tryz.prog 37 #[] w (fun e w' => ∃ g, e = .returned (.slice (some ⟨g, 0, none⟩) 2 2) ∧ RdG w' (.slice (some ⟨g, 0, none⟩) 2 2) paT ∧ Below w.heap.size w w') := by
  have hr : Row (w.alloc (.cells (csG paT).toArray 27 (0, 0))) w.heap.size 27 (csG paT) := rnw
  have HR := Lib.hid (And.intro (rdG_row (n := 2) hr rfl) (bel_al w (.cells (csG paT).toArray 27 (0, 0))))
  clear hr
  go_enter Tryz.func37, Tryz.ntmps37
  go_wp2
  go_ret
  exact ⟨_, rfl, HR.out.1, HR.out.2⟩
theorem pa_ok : ∀ t ∈ paT, RtT t ∧ t.mat = 1 := by
  intro t ht
  simp only [paT, List.mem_cons, List.not_mem_nil, or_false] at ht
  rcases ht with rfl | rfl
  · exact ⟨⟨by decide, by decide, by decide, by decide, by decide, by decide, by decide, by decide⟩, rfl⟩
  · exact ⟨⟨by decide, by decide, by decide, by decide, by decide, by decide, by decide, by decide⟩, rfl⟩
theorem ptryGauge (w : World) (hg : Glob w) (hs : Sig w) : Calls Tryz.prog 16 #[] w (Ret w (.bool true)) := by
  have HG := Lib.hid hg
  have HS := Lib.hid hs
  clear hg hs
  go_enter Tryz.func16, Tryz.ntmps16
  go_wp2_with fail
  refine (ppair _).mono ?_
  rintro e w1 ⟨ga, rfl, hr, hb1⟩
  have hal := bel_al w1 (.cells (csC (paC 0)).toArray 30 (0, 0))
  have hrc : Row (w1.alloc (.cells (csC (paC 0)).toArray 30 (0, 0))) w1.heap.size 30 (csC (paC 0)) := rnw
  have H1 := Lib.hid (And.intro (hr.below hal) (And.intro hrc (bel_to hb1 hal)))
  have HI := Lib.hid (ptryIdeal (.slice (some ⟨ga, 0, none⟩) 2 2) (.slice (some ⟨w1.heap.size, 0, none⟩) 2 2) paT (paC 0) 0 0 _ (HS.out.below (bel_to hb1 hal)) (hr.below hal) (rdC_row (n := 2) hrc rfl) (by decide) (by decide) pa_ok (by decide) (by decide) (by decide))
  have hsz : w1.heap.size < (w1.alloc (.cells (csC (paC 0)).toArray 30 (0, 0))).heap.size := by rw [World.size_alloc]; omega
  have hgc : w.heap.size ≤ w1.heap.size := hb1.size
  clear hr hal hrc hb1
  go_wp2_with fail
  refine HI.out.mono ?_
  unfold IdP
  rintro e w2 ⟨v, hq, hb2⟩
  rcases hq with ⟨rfl, _, hv⟩ | ⟨_, ⟨t, ht, hc⟩, _⟩
  case inr => exact absurd (pa_des t ht) hc
  rw [pa_id] at hv
  obtain ⟨VA, vcap, hve⟩ := hv.rd.len
  rw [show paO.length = 2 from rfl] at hve
  subst hve
  have H2 := Lib.hid (And.intro (H1.out.2.1.below' hb2) (And.intro (bel_to H1.out.2.2 hb2) hv))
  have hsz2 := hb2.size
  generalize (w1.alloc (.cells (csC (paC 0)).toArray 30 (0, 0))).heap.size = SZ at *
  generalize w1.heap.size = gc at *
  clear hb2 hv H1 HI
  unfold trV
  have hal := bel_al w2 (.cells #[.bool false, .slice VA 2 vcap, .slice (some ⟨gc, 0, none⟩) 2 2] 55 (0, 0))
  have hrt : Row (w2.alloc (.cells #[.bool false, .slice VA 2 vcap, .slice (some ⟨gc, 0, none⟩) 2 2] 55 (0, 0))) w2.heap.size 55 [.bool false, .slice VA 2 vcap, .slice (some ⟨gc, 0, none⟩) 2 2] := rnw
  have H3 := Lib.hid (And.intro (H2.out.1.below' hal) (And.intro (bel_to H2.out.2.1 hal) (And.intro (H2.out.2.2.below hal) hrt)))
  have hgc2 : gc < w2.heap.size := Nat.lt_of_lt_of_le hsz hsz2
  clear hal hrt H2
  have HG1 := Lib.hid (tGoes (.slice VA 2 vcap) (.slice (some ⟨gc, 0, none⟩) 2 2) paO (paC 0) _ (HG.out.of H3.out.2.1) H3.out.2.2.1.rd (rdC_row (n := 2) H3.out.1 rfl) (pa_rt 0 (Or.inl rfl)))
  unfold GoP GoQ trV at HG1
  rw [pa_goes] at HG1
  have r0 := H3.out.2.2.2.cell (i := 0) rfl
  have r1 := H3.out.2.2.2.cell (i := 1) rfl
  have r2 := H3.out.2.2.2.cell (i := 2) rfl
  go_wp2_with fail
  generalize w2.alloc (.cells #[.bool false, .slice VA 2 vcap, .slice (some ⟨gc, 0, none⟩) 2 2] 55 (0, 0)) = V at *
  generalize w2.heap.size = gt at *
  refine HG1.out.mono ?_
  rintro e w4 ⟨i, j, s, GA, gn, gcp, rfl, hw, hb4⟩
  clear hw
  have hb4 := bel_to hb4 (bel_al w4 (.cells #[.int .i64 i, .int .i64 j, .int .i64 s, .slice none 0 0, .slice GA gn gcp, .slice none 0 0] 62 (0, 0)))
  have H4 := Lib.hid (And.intro (H3.out.1.below' hb4) (And.intro (bel_to H3.out.2.1 hb4) (And.intro (H3.out.2.2.1.below hb4) (H3.out.2.2.2.below' hb4))))
  clear hb4 H3 HG1 r0 r1 r2
  have r2 := H4.out.2.2.2.cell (i := 2) rfl
  have f1 := H4.out.1.free 1
  have m1 := H4.out.1.cell (i := 1) rfl
  have hne : gt ≠ gc := by omega
  have H5 := Lib.hid (And.intro (H4.out.1.set 1 (.int .i64 20)) (And.intro (H4.out.2.1.setCell (p := ⟨gc, 1, none⟩) hgc (.int .i64 20)) (And.intro (own_setT (j := 1) (u := .int .i64 20) hsz H4.out.2.2.1) (row_other (p := ⟨gc, 1, none⟩) H4.out.2.2.2 hne (.int .i64 20)))))
  clear H4
  have HG2 := Lib.hid (tGoes (.slice VA 2 vcap) (.slice (some ⟨gc, 0, none⟩) 2 2) paO (paC 20) _ (HG.out.of H5.out.2.1) H5.out.2.2.1.rd (rdC_row (n := 2) H5.out.1 rfl) (pa_rt 20 (Or.inr rfl)))
  unfold GoP GoQ trV at HG2
  rw [pa_off] at HG2
  have r0 := H5.out.2.2.2.cell (i := 0) rfl
  have r1 := H5.out.2.2.2.cell (i := 1) rfl
  have r3 := H5.out.2.2.2.cell (i := 2) rfl
  go_wp2_with fail
  refine HG2.out.mono ?_
  rintro e w6 ⟨i2, j2, s2, GA2, gn2, gcp2, rfl, hw, hb6⟩
  clear hw
  have hb6 := bel_to (bel_to H5.out.2.1 hb6) (bel_al w6 (.cells #[.int .i64 i2, .int .i64 j2, .int .i64 s2, .slice none 0 0, .slice GA2 gn2 gcp2, .slice none 0 0] 62 (0, 0)))
  clear H5 HG2 r0 r1 r2 r3 f1 m1
  go_wp2
  go_ret
  exact Ret.of rfl hb6
end W
end Go.Proofs.YtellemlhhlafcaaGreatDoor
end
section
namespace Go.Proofs.YtellemlhhlafcaaGreatDoor
open Go Go.RowKit Go.Deep Go.Sort
namespace M
theorem id_map {ts : List Tg} (h : ∀ t ∈ ts, RtT t) : ts.map (fun t => hiT (desQ 0 0 t)) = ts.map idT := by
  refine List.map_congr_left fun t ht => ?_
  have hr := virt_rng (h t ht)
  unfold desQ
  have h1 : ¬ (desE 0 0 t).lo < 1 := by
    unfold desE
    cases t.pin with
    | true => rw [if_pos rfl]; dsimp only; omega
    | false => rw [if_neg (by decide)]; dsimp only; omega
  rw [if_neg h1, hi_des]
theorem id_des {ts : List Tg} (h : ∀ t ∈ ts, RtT t) : ¬ ∃ t ∈ ts, desC 0 0 t ≠ 0 := by
  rintro ⟨t, ht, h2⟩
  have hr := virt_rng (h t ht)
  have h1 : ¬ (desE 0 0 t).lo < 1 := by
    unfold desE
    cases t.pin with
    | true => rw [if_pos rfl]; dsimp only; omega
    | false => rw [if_neg (by decide)]; dsimp only; omega
  unfold desC at h2
  rw [if_neg h1] at h2
  exact h2 rfl
theorem id_rt {ts : List Tg} {cs : List Cc} (h : chk46 ts cs = 0) : RtR (ts.map idT) cs := by
  obtain ⟨h1, h16, hlen, hrt⟩ := chk46_iff.1 h
  refine ⟨by rw [List.length_map]; exact h1, by rw [List.length_map]; exact h16, by rw [List.length_map]; exact hlen, fun i hi hj => ?_⟩
  rw [List.length_map] at hi
  have hr := hrt (ts[i], cs[i]) (by rw [show (ts[i], cs[i]) = (ts.zip cs)[i]'(by rw [List.length_zip]; omega) by simp]; exact List.getElem_mem _)
  rw [List.getElem_map]
  exact RtO_id hr.1 hr.2.1
theorem id_zip {ts : List Tg} {cs : List Cc} (hm : ∀ t ∈ ts, t.mat = 1) : ((ts.map idT).zip cs).map dkT = (ts.zip cs).map dkP := by
  rw [List.zip_map_left, List.map_map]
  refine List.map_congr_left fun p hp => ?_
  exact dkT_id (hm p.1 (List.of_mem_zip hp).1)
theorem id_goes {ts : List Tg} {cs : List Cc} (h : chk46 ts cs = 0) (hm : ∀ t ∈ ts, t.mat = 1) : goT ((ts.map idT).zip cs) = (firstD ((ts.zip cs).map dkP)).isSome := by
  have hr := id_rt h
  obtain ⟨h1, h16, hlen, hrt⟩ := chk46_iff.1 h
  rw [goT_pos hr.len, id_zip hm]
  intro i hi hj
  rw [List.length_map] at hi
  rw [List.getElem_map, plyT_id (hm _ (List.getElem_mem hi))]
  exact (hrt (ts[i], cs[i]) (by rw [show (ts[i], cs[i]) = (ts.zip cs)[i]'(by rw [List.length_zip]; omega) by simp]; exact List.getElem_mem _)).wide.1
theorem id_wit {ts : List Tg} {cs : List Cc} (hm : ∀ t ∈ ts, t.mat = 1) : witT ((ts.map idT).zip cs) = (firstD ((ts.zip cs).map dkP)).getD ⟨0, 0, 0⟩ := by
  unfold witT
  rw [id_zip hm]
end M
namespace W
open M
attribute [local go_sem] bs_size bs_toList bs_get bs_extract bs_append bs_lit0 bs_lit1 lit1_bs
set_option maxHeartbeats 1000000
set_option maxRecDepth 20000
theorem eq_wn (i j s : Int) (w : World) : (binOp .eql 42 (.agg #[.int .i64 i, .int .i64 j, .int .i64 s]) (.agg #[.int .i64 i, .int .i64 j, .int .i64 s])).run Tryz.prog w = .ok (.bool true) w := by
  have hf : Tryz.prog.underlying 42 = some (.struct (Tryz.prog.fieldsOf 42)) := by unfold Program.fieldsOf; rw [Tryz.underlying42]
  rw [run_eql_struct, show (10000 : Nat) = 9999 + 1 from rfl, run_equalIn_agg w 9999 42 _ _ hf (by kernel_rfl)]
  unfold Program.fieldsOf
  rw [Tryz.underlying42]
  go_simp
theorem gauge_law (vt vc : Value) (ts : List Tg) (cs : List Cc) (w : World) (hg : Glob w) (hs : Sig w) (ht : RdG w vt ts) (hc : RdC w vc cs) (nt : ts.length ≤ maxLen) (nc : cs.length ≤ maxLen) :
    Calls Tryz.prog 4 #[vt, vc] w (Ret w (.bool true)) := by
  have HP := Lib.hid (ptryPlate vt vc ts cs w ht hc nt nc)
  have HY := Lib.hid (fun W (hW : Below w.heap.size w W) => ptryGauge W (hg.of hW) (hs.below hW))
  by_cases hr : (decide (ts.length ≤ 4) && decide (chk47 ts = 0) && decide (chk46 ts cs = 0)) = true
  · rw [hr] at HP
    rw [Bool.and_eq_true, Bool.and_eq_true, decide_eq_true_eq, decide_eq_true_eq, decide_eq_true_eq] at hr
    obtain ⟨⟨h4, h7⟩, h0⟩ := hr
    obtain ⟨h1, h16, hok⟩ := chk47_ok h7
    have HF := Lib.hid (fun W (hW : Below w.heap.size w W) => sfeasible vt vc ts cs W (hg.of hW) (hs.below hW) (ht.below hW) (hc.below hW) h0)
    have HI := Lib.hid (fun W (hW : Below w.heap.size w W) => ptryIdeal vt vc ts cs 0 0 W (hs.below hW) (ht.below hW) (hc.below hW) h1 h16 hok (by decide) (by decide) (by decide))
    have HGO := Lib.hid (fun v W (hW : Below w.heap.size w W) (hv : RdTL W v (ts.map idT)) => tGoes v vc (ts.map idT) cs W (hg.of hW) hv (hc.below hW) (id_rt h0))
    have hgo := id_goes h0 (fun t ht => (hok t ht).2)
    have hwi := id_wit (cs := cs) (fun t ht => (hok t ht).2)
    unfold GoP GoQ at HGO
    unfold IdP at HI
    rw [hgo, hwi] at HGO
    have HNO := Lib.hid (id_des (fun t ht => (hok t ht).1))
    have HMP := Lib.hid (id_map (fun t ht => (hok t ht).1))
    obtain ⟨At, ct, rfl⟩ := ht.len
    obtain ⟨Ac, cc, rfl⟩ := hc.len
    generalize firstD ((ts.zip cs).map dkP) = fd at *
    obtain ⟨x, hx⟩ : ∃ x, x = fd.getD ⟨0, 0, 0⟩ := ⟨_, rfl⟩
    rw [← hx] at HF HGO
    generalize fd.isSome = ok at *
    clear hx ht hc hg hs h0 h4 h7 h1 h16 hok hgo hwi
    unfold tkV wnV at HF
    go_enter Tryz.func4, Tryz.ntmps4
    go_wp2_with fail
    refine (HP.out).mono ?_
    rintro e w1 ⟨rfl, hb1⟩
    go_wp2_with fail
    refine (HI.out _ hb1).mono ?_
    rintro e w2 ⟨v, hq, hb2⟩
    rcases hq with ⟨rfl, _, hv⟩ | ⟨_, hno, _⟩
    case inr => exact absurd hno HNO.out
    rw [HMP.out] at hv
    have hb2 := bel_to hb1 hb2
    obtain ⟨VA, vn, vcap, hve⟩ := hv.shape
    subst hve
    unfold trV at HGO ⊢
    have hal := bel_al w2 (.cells #[.bool false, .slice VA vn vcap, .slice Ac cs.length cc] 55 (0, 0))
    have hrt : Row (w2.alloc (.cells #[.bool false, .slice VA vn vcap, .slice Ac cs.length cc] 55 (0, 0))) w2.heap.size 55 [.bool false, .slice VA vn vcap, .slice Ac cs.length cc] := rnw
    have H2 := Lib.hid (And.intro (bel_to hb2 hal) (And.intro (hv.rd.below hal) hrt))
    clear hb1 hb2 hv hal hrt HI HP HNO HMP
    have r0 := H2.out.2.2.cell (i := 0) rfl
    have r1 := H2.out.2.2.cell (i := 1) rfl
    have r2 := H2.out.2.2.cell (i := 2) rfl
    go_wp2_with fail
    refine (HGO.out _ _ H2.out.1 H2.out.2.1).mono ?_
    rintro e w3 ⟨i, j, s, GA, gn, gc, rfl, hw, hb3⟩
    have hal := bel_al w3 (.cells #[.int .i64 i, .int .i64 j, .int .i64 s, .slice none 0 0, .slice GA gn gc, .slice none 0 0] 62 (0, 0))
    have hrp : Row (w3.alloc (.cells #[.int .i64 i, .int .i64 j, .int .i64 s, .slice none 0 0, .slice GA gn gc, .slice none 0 0] 62 (0, 0))) w3.heap.size 62 [.int .i64 i, .int .i64 j, .int .i64 s, .slice none 0 0, .slice GA gn gc, .slice none 0 0] := rnw
    have H3 := Lib.hid (And.intro (bel_to H2.out.1 (bel_to hb3 hal)) hrp)
    have HW := Lib.hid hw
    clear hal hrp hb3 hw H2 HGO r0 r1 r2
    go_wp2_with fail
    refine (HF.out _ H3.out.1).mono ?_
    rintro e w4 ⟨rfl, hb4⟩
    have hal := bel_al w4 (.cells #[.int .i64 (x.i : Int), .int .i64 (x.j : Int), .int .i64 x.side] 42 (0, 0))
    have hrw : Row (w4.alloc (.cells #[.int .i64 (x.i : Int), .int .i64 (x.j : Int), .int .i64 x.side] 42 (0, 0))) w4.heap.size 42 [.int .i64 (x.i : Int), .int .i64 (x.j : Int), .int .i64 x.side] := rnw
    have H4 := Lib.hid (And.intro (bel_to H3.out.1 (bel_to hb4 hal)) (And.intro ((H3.out.2.below' hb4).below' hal) hrw))
    clear hal hrw hb4 H3 HF
    cases ok with
    | true =>
      obtain ⟨e1, e2, e3⟩ := HW.out rfl
      subst e1 e2 e3
      have p0 := H4.out.2.1.cell (i := 0) rfl
      have p1 := H4.out.2.1.cell (i := 1) rfl
      have p2 := H4.out.2.1.cell (i := 2) rfl
      have q0 := H4.out.2.2.cell (i := 0) rfl
      have q1 := H4.out.2.2.cell (i := 1) rfl
      have q2 := H4.out.2.2.cell (i := 2) rfl
      have hq := fun W => eq_wn (x.i : Int) (x.j : Int) x.side W
      go_wp2_with fail
      refine (HY.out _ H4.out.1).mono ?_
      rintro e w5 ⟨rfl, hb5⟩
      have hb5 := bel_to H4.out.1 hb5
      clear H4 p0 p1 p2 q0 q1 q2
      go_wp2
      go_ret
      exact Ret.of rfl hb5
    | false =>
      go_wp2_with fail
      refine (HY.out _ H4.out.1).mono ?_
      rintro e w5 ⟨rfl, hb5⟩
      have hb5 := bel_to H4.out.1 hb5
      clear H4
      go_wp2
      go_ret
      exact Ret.of rfl hb5
  · rw [Bool.eq_false_iff.2 hr] at HP
    obtain ⟨At, ct, rfl⟩ := ht.len
    obtain ⟨Ac, cc, rfl⟩ := hc.len
    clear ht hc hg hs hr
    go_enter Tryz.func4, Tryz.ntmps4
    go_wp2_with fail
    refine (HP.out).mono ?_
    rintro e w1 ⟨rfl, hb1⟩
    go_wp2_with fail
    refine (HY.out _ hb1).mono ?_
    rintro e w2 ⟨rfl, hb2⟩
    go_wp2
    go_ret
    exact Ret.of rfl (bel_to hb1 hb2)
end W
end Go.Proofs.YtellemlhhlafcaaGreatDoor
end
