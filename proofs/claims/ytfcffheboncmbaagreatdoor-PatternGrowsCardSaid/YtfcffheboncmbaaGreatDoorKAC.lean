/-
  Chapter 46: PatternGrows.
-/
import Derived.Test.YtfcffheboncmbaaGreatDoorKAA
import Derived.Test.YtfcffheboncmbaaGreatDoorKAB
import Derived.Test.YtfcffheboncmbaaGreatDoorKG
import Derived.Test.YtfcffheboncmbaaGreatDoorKF
section
namespace Go.Proofs.YtfcffheboncmbaaGreatDoor
open Go Go.RowKit Go.Deep
namespace W
open M
attribute [local go_sem] bs_size bs_toList bs_get bs_extract bs_append bs_lit0 bs_lit1 lit1_bs
set_option maxHeartbeats 2000000
set_option maxRecDepth 20000
theorem zip_mem {ts : List Tg} {cs : List Cc} (i : Nat) (h : i < ts.length) (h2 : i < cs.length) : (ts[i], cs[i]) ∈ ts.zip cs := by
  rw [List.mem_iff_getElem]
  exact ⟨i, by rw [List.length_zip]; omega, by simp⟩
theorem both_ok2 {t : Tg} {c : Cc} (ht : RtT t) (hc : RtC c) : bothC t c = 0 := by
  unfold bothC
  rw [(chkT_iff t).2 ht, if_neg (by simp), (ringC_iff c).2 hc]
theorem wth_ok2 {t : Tg} {n : Int} (h : t.lo ≤ n ∧ n ≤ t.hi) : wth t n = true := by
  unfold wth
  simp [h.1, h.2]
theorem grows_not (vt vc : Value) (ts : List Tg) (cs : List Cc) (k : Int) (w : World) (hg : Glob w) (hs : Sig w) (ht : RdG w vt ts) (hc : RdC w vc cs) (nt : ts.length ≤ maxLen) (nc : cs.length ≤ maxLen) (hn : (decide (ts.length ≤ 5) && decide (chk46 ts cs = 0)) = false) :
    Calls Tryz.prog 6 #[vt, vc, .int .u8 k] w (Ret w (.bool true)) := by
  have hr := lright46 vt vc ts cs w ht hc nt nc
  rw [hn] at hr
  have HR := Lib.hid hr
  have HA := Lib.hid (fun W (hW : Below w.heap.size w W) => awake46 W (hg.of hW) (hs.below hW))
  obtain ⟨At, ct, rfl⟩ := ht.len
  obtain ⟨Ac, cc, rfl⟩ := hc.len
  clear hg hs ht hc nt nc hn hr
  go_enter Tryz.func6, Tryz.ntmps6
  go_wp2_with fail
  refine (HR.out).mono ?_
  rintro e w1 ⟨rfl, hb1⟩
  go_wp2_with fail
  refine (HA.out _ hb1).mono ?_
  rintro e w2 ⟨rfl, hb2⟩
  go_wp2
  go_ret
  exact Ret.of rfl (Below.then hb1 hb2)
theorem grows_11 (vt vc : Value) (ts : List Tg) (cs : List Cc) (k : Int) (w : World) (hg : Glob w) (hs : Sig w) (ht : RdG w vt ts) (hc : RdC w vc cs) (nt : ts.length ≤ maxLen) (nc : cs.length ≤ maxLen) (hct : ∃ A cap, vt = .slice A ts.length cap ∧ ts.length ≤ cap) (hcc : ∃ A cap, vc = .slice A cs.length cap ∧ cs.length ≤ cap)
    (h : chk46 ts cs = 0) (h5 : ts.length ≤ 5) (hk0 : 0 ≤ k) (hk1 : k ≤ 255) (hm : chk46 (ts.map (tolT k)) cs = 0) (h2 : 2 ≤ ts.length) :
    Calls Tryz.prog 6 #[vt, vc, .int .u8 k] w (Ret w (.bool true)) := by
  have hr := lright46 vt vc ts cs w ht hc nt nc
  rw [show decide (ts.length ≤ 5) = true by simp [h5], show decide (chk46 ts cs = 0) = true by simp [h], Bool.true_and] at hr
  have HR := Lib.hid hr
  obtain ⟨h1, h16, hlen, hrt⟩ := chk46_iff.1 h
  have hl0 : 0 < ts.length := by omega
  have hl1 : 0 < cs.length := by omega
  have hrt0 := hrt _ (zip_mem 0 hl0 hl1)
  have hwd := hrt0.wide
  simp only at hwd
  obtain ⟨d0, d1, d2, x, hexc, _, hbq, hE⟩ := pexcess_ok ts cs h h5
  have hbx : Bq 37 x := hbq x (by simp)
  obtain ⟨o0, o1, o2, o, hoexc, _, _, hO⟩ := pexcess_ok (ts.take 1) (cs.take 1) (chk_take h) (by simp; omega)
  have ho : o = ((-(wide ts[0] cs[0]) : Int) : Rat) := exc_one2 hl0 hl1 hoexc
  obtain ⟨e0, e1, e2, y, hyexc, _, _, hY⟩ := pexcess_ok (ts.map (tolT k)) cs hm (by simpa using h5)
  have hy : y = x - (k : Rat) := exc_more_tol k hexc hyexc
  obtain ⟨q0, q1, q2, qf, hfexc, _, hfbq, hF⟩ := pexcess_ok (ts.drop 1) (cs.drop 1) (chk_drop h h2) (by simp; omega)
  have hbf : Bq 37 qf := hfbq qf (by simp)
  have hfx : cmpQ qf x ≤ 0 := cmpQ_le5.2 (exc_rest hexc hfexc)
  have HA := Lib.hid (fun W (hW : Below w.heap.size w W) => awake46 W (hg.of hW) (hs.below hW))
  have HCL := Lib.hid (fun W (hW : Below w.heap.size w W) => pcloneOwnG vt ts W (ht.below hW) hl0 (by omega))
  have HE := Lib.hid (fun W (hW : Below w.heap.size w W) => hE vt vc W (hg.of hW) (hs.below hW) (ht.below hW) (hc.below hW))
  have hck : ∀ W, Calls Tryz.prog 23 #[.string (bs (R x))] W (Ret W (.int .i64 0)) := fun W => by
    have h := check2_any (R x) W (by have := hbx.R_len (by decide); omega)
    rw [hbx.chk (by decide)] at h
    exact h
  have HCK := Lib.hid hck
  have hmm := fun vm W (hW : Below w.heap.size w W) (hv : RdG W vm (ts.map (tolT k))) => rcheck46 vm vc (ts.map (tolT k)) cs W hv (hc.below hW) (by simpa using nt) nc
  rw [hm] at hmm
  have HM : Hid (∀ vm W, Below w.heap.size w W → RdG W vm (ts.map (tolT k)) → Calls Tryz.prog 17 #[vm, vc] W (Ret W (.int .i64 0))) := Lib.hid hmm
  have HY := Lib.hid (fun vm W (hW : Below w.heap.size w W) (hv : RdG W vm (ts.map (tolT k))) => hY vm vc W (hg.of hW) (hs.below hW) hv (hc.below hW))
  have HWK := Lib.hid (fun W => whole_R k W (by omega) (by omega))
  have hmi := fun W => minus_R x (k : Rat) W (hbx.sh (by decide) (by decide)) ((int_bq (z := k) (by omega)).sh (by decide) (by decide))
  rw [← hy] at hmi
  have HMI := Lib.hid hmi
  have HOC : Hid (∀ v1 v2 W, Below w.heap.size w W → RdG W v1 (ts.take 1) → RdC W v2 (cs.take 1) → Calls Tryz.prog 22 #[v1, v2] W (Ret W (.tuple #[.string (bs (R o)), .agg #[.string (bs (R o0)), .string (bs (R o1)), .string (bs (R o2))], .int .i64 0]))) := Lib.hid (fun v1 v2 W (hW : Below w.heap.size w W) (h1 : RdG W v1 (ts.take 1)) (h2 : RdC W v2 (cs.take 1)) => hO v1 v2 W (hg.of hW) (hs.below hW) h1 h2)
  have hzc : zoneC ts[0] cs[0] = 0 ∧ zoneN ts[0] cs[0] = wide ts[0] cs[0] := zone_ok (both_ok2 hrt0.1 hrt0.2.1) (wth_ok2 hrt0.2.2)
  have hz := fun W (hW : Below w.heap.size w W) => pzone ts[0] cs[0] W (hs.below hW)
  rw [hzc.1, hzc.2] at hz
  have HZ : Hid (∀ W, Below w.heap.size w W → Calls Tryz.prog 12 #[tgV ts[0], ccV cs[0]] W (Ret W (.tuple #[.int .i64 (wide ts[0] cs[0]), .int .i64 0]))) := Lib.hid hz
  have hwo := fun W => whole_R (-(wide ts[0] cs[0])) W (by omega) (by omega)
  rw [← ho] at hwo
  have HWO := Lib.hid hwo
  have hnw : wrap64 (-(wide ts[0] cs[0])) = -(wide ts[0] cs[0]) := by unfold wrap64; omega
  have HFC : Hid (∀ v1 v2 W, Below w.heap.size w W → RdG W v1 (ts.drop 1) → RdC W v2 (cs.drop 1) → Calls Tryz.prog 22 #[v1, v2] W (Ret W (.tuple #[.string (bs (R qf)), .agg #[.string (bs (R q0)), .string (bs (R q1)), .string (bs (R q2))], .int .i64 0]))) := Lib.hid (fun v1 v2 W (hW : Below w.heap.size w W) (h1 : RdG W v1 (ts.drop 1)) (h2 : RdC W v2 (cs.drop 1)) => hF v1 v2 W (hg.of hW) (hs.below hW) h1 h2)
  have HCP := Lib.hid (fun W (hW : Below w.heap.size w W) => ratCompare qf x 37 37 W (hg.of hW) hbf hbx (by decide))
  have HTOL := Lib.hid (fun i (hi : i < ts.length) => (show 0 ≤ ts[i].tol ∧ ts[i].tol ≤ 100000 from (hrt _ (zip_mem i hi (by omega))).1.tol))
  have HLC := Lib.hid (show cs.length = ts.length from hlen)
  obtain ⟨At, ct, rfl, hcap1⟩ := hct
  obtain ⟨Ac, cc, rfl, hcap2⟩ := hcc
  have HT := Lib.hid ht
  have HC := Lib.hid hc
  obtain ⟨bt, ot, rfl, hst⟩ := ht.row 0 hl0
  obtain ⟨bc, oc, rfl, hsc⟩ := hc.row 0 hl1
  have HST := Lib.hid hst
  have HSC := Lib.hid hsc
  have HT0 := Lib.hid (fun W (hW : Below w.heap.size w W) => (show W.cell? ⟨bt, ot, none⟩ = some (.int .i64 ts[0].x) ∧ W.cell? ⟨bt, ot + 1, none⟩ = some (.int .i64 ts[0].y) ∧ W.cell? ⟨bt, ot + 2, none⟩ = some (.int .i64 ts[0].lo) ∧ W.cell? ⟨bt, ot + 3, none⟩ = some (.int .i64 ts[0].hi) ∧ W.cell? ⟨bt, ot + 4, none⟩ = some (.int .i64 ts[0].tol) ∧ W.cell? ⟨bt, ot + 5, none⟩ = some (.int .i64 ts[0].mat) ∧ W.cell? ⟨bt, ot + 6, none⟩ = some (.bool ts[0].pin) from (hst.below' hW).val 0 hl0))
  have HC0 := Lib.hid (fun W (hW : Below w.heap.size w W) => (show W.cell? ⟨bc, oc, none⟩ = some (.int .i64 cs[0].x) ∧ W.cell? ⟨bc, oc + 1, none⟩ = some (.int .i64 cs[0].y) ∧ W.cell? ⟨bc, oc + 2, none⟩ = some (.int .i64 cs[0].d) from (hsc.below' hW).val 0 hl1))
  clear hg hs ht hc nt nc h hr hck hmm hz hwo hst hsc hrt hexc hoexc hbq hE hO ho hzc hwd hrt0 h16 hlen hm hY hyexc hy hmi hF hfexc hfbq
  generalize hwz : wide ts[0] cs[0] = wd at *
  clear hwz
  generalize ts[0] = t0 at *
  generalize cs[0] = c0v at *
  go_enter Tryz.func6, Tryz.ntmps6
  go_wp2_with fail
  refine (HR.out).mono ?_
  rintro e w1 ⟨rfl, hb1⟩
  clear HR
  go_wp2_with fail
  refine (HCL.out _ hb1).mono ?_
  rintro e w2 ⟨g, cap, rfl, hgB, ho2, hb2⟩
  have H2 := Lib.hid (And.intro (bel_to hb1 hb2) (show OwnG w2 w1.heap.size (.slice (some ⟨g, 0, none⟩) ts.length cap) (mixL (tolT k) 0 ts) by rw [mixL_zero]; exact ho2))
  have hgw : w.heap.size ≤ g := Nat.le_trans hb1.size hgB
  have hsz1 := hb1.size
  clear hb1 hb2 ho2 HCL
  go_wp2_with fail
  go_loopw [31] (fun iv wr => ∃ i : Nat, iv = .int .i64 (i : Int) ∧ i ≤ ts.length ∧ Hid (Below w.heap.size w wr ∧ OwnG wr w1.heap.size (.slice (some ⟨g, 0, none⟩) ts.length cap) (mixL (tolT k) i ts))) (fun iv _ => ts.length - (intOf iv).toNat)
  case atStart => exact ⟨0, rfl, by omega, H2⟩
  case round =>
    clear H2
    obtain ⟨i, rfl, hi, hin⟩ := hrel
    by_cases hlt : i < ts.length
    · have hlm := mixL_len (tolT k) i ts hi
      have hin2 := hin.out.2
      rw [← hlm] at hin2
      have him : i < (mixL (tolT k) i ts).length := by omega
      have hcell := hin2.cells _ _ (csG_get _ i him).2.2.2.2.1
      rw [mixL_get (tolT k) i ts hlt] at hcell
      have hfz := World.ownsRow.frozenAt hin2 (i * 7 + 4)
      have htol := HTOL.out i hlt
      have hst2 := hin2.setTol i him (ts[i].tol + k)
      rw [mixL_get (tolT k) i ts hlt] at hst2
      rw [show ({ ts[i] with tol := ts[i].tol + k } : Tg) = tolT k ts[i] from rfl, mixL_set (tolT k) i ts hlt, hlm] at hst2
      have HN := Lib.hid (show Below w.heap.size w (wr.setCell ⟨g, i * 7 + 4, none⟩ (.int .i64 (ts[i].tol + k))) ∧ OwnG (wr.setCell ⟨g, i * 7 + 4, none⟩ (.int .i64 (ts[i].tol + k))) w1.heap.size (.slice (some ⟨g, 0, none⟩) ts.length cap) (mixL (tolT k) (i + 1) ts) from ⟨Below.setCell (p := ⟨g, i * 7 + 4, none⟩) hin.out.1 hgw _, hst2⟩)
      have hwr : wrap64 (ts[i].tol + k) = ts[i].tol + k := by unfold wrap64; omega
      have hi0 : (0 : Int) ≤ (i : Int) := by omega
      have hi1 : (i : Int) < (ts.length : Int) := by omega
      clear hin hin2 hlm him hst2 htol
      generalize ts[i].tol = tl at *
      go_wp2
      go_roundw
      case rel => exact ⟨i + 1, by go_num, by omega, HN⟩
      case measure => simp [intOf]; omega
    · obtain rfl : i = ts.length := by omega
      have hin2 := hin.out.2
      rw [mixL_all] at hin2
      have hrm := hin2.below (Below.refl _ _)
      have HRM := Lib.hid (And.intro hin.out.1 (show RdG wr (.slice (some ⟨g, 0, none⟩) ts.length cap) (ts.map (tolT k)) from OwnG.rd hin2))
      clear hin hin2 hrm hlt
      go_wp2_with fail
      refine (HE.out _ HRM.out.1).mono ?_
      rintro e w3 ⟨rfl, hb3⟩
      have hb3a := bel_to hb3 (bel_al w3 (.cells #[.string (bs (R d0)), .string (bs (R d1)), .string (bs (R d2))] 41 (0, 0)))
      have H3 := Lib.hid (And.intro (bel_to HRM.out.1 hb3a) (HRM.out.2.below hb3a))
      clear hb3 hb3a HRM HE
      go_wp2_with fail
      refine (HCK.out _).mono ?_
      rintro e w4 ⟨rfl, hb4⟩
      have H4 := Lib.hid (And.intro (bel_to H3.out.1 hb4) (H3.out.2.below hb4))
      clear hb4 H3 HCK
      go_wp2_with fail
      refine (HM.out _ _ H4.out.1 H4.out.2).mono ?_
      rintro e w5 ⟨rfl, hb5⟩
      have H5 := Lib.hid (And.intro (bel_to H4.out.1 hb5) (H4.out.2.below hb5))
      clear hb5 H4 HM
      go_wp2_with fail
      refine (HY.out _ _ H5.out.1 H5.out.2).mono ?_
      rintro e w6 ⟨rfl, hb6⟩
      have H6 := Lib.hid (bel_to H5.out.1 (bel_to hb6 (bel_al w6 (.cells #[.string (bs (R e0)), .string (bs (R e1)), .string (bs (R e2))] 41 (0, 0)))))
      clear hb6 H5 HY
      go_wp2_with fail
      refine (HWK.out _).mono ?_
      rintro e w7 ⟨rfl, hb7⟩
      have H7 := Lib.hid (bel_to H6.out hb7)
      clear hb7 H6 HWK
      go_wp2_with fail
      refine (HMI.out _).mono ?_
      rintro e w8 ⟨rfl, hb8⟩
      have H8 := Lib.hid (bel_to H7.out hb8)
      clear hb8 H7 HMI
      go_wp2
      have i1 : (1 : Int) ≤ (ct : Int) := by omega
      have i2 : (1 : Int) ≤ (cc : Int) := by omega
      have HF1 := Lib.hid (fun E (hE : Below w8.heap.size w8 E) => And.intro (bel_to H8.out hE) (And.intro (RdG.front (cap := ct) (n := 1) (HST.out.below' (bel_to H8.out hE)) (by rw [List.length_take]; omega)) (RdC.front (cap := cc) (n := 1) (HSC.out.below' (bel_to H8.out hE)) (by rw [List.length_take]; omega))))
      have X1 := Lib.hid (RowKit.Below.drew (Below.refl w8.heap.size w8))
      have X2 := Lib.hid (RowKit.Below.drew (bel_al w8 (.cells #[.string ⟨#[]⟩, .string ⟨#[]⟩, .string ⟨#[]⟩] 41 (0, 0))))
      go_region_held3 (fun _ => True) (trivial) (first | (go_at_call 22; first | (refine (HOC.out _ _ _ (HF1.out _ X1.out).1 (HF1.out _ X1.out).2.1 (HF1.out _ X1.out).2.2).mono ?_; rintro e w9 ⟨rfl, hb9⟩; have hrw : Row (w9.alloc (.cells #[.string ⟨#[]⟩, .string ⟨#[]⟩, .string ⟨#[]⟩] 41 (0, 0))) w9.heap.size 41 [.string ⟨#[]⟩, .string ⟨#[]⟩, .string ⟨#[]⟩] := rnw; have f0 := hrw.free 0; have f1 := (hrw.set 0 (.string (bs (R o0)))).free 1; have f2 := ((hrw.set 0 (.string (bs (R o0)))).set 1 (.string (bs (R o1)))).free 2; have c0 := hrw.cell (i := 0) rfl; have c1 := (hrw.set 0 (.string (bs (R o0)))).cell (i := 1) rfl; have c2 := ((hrw.set 0 (.string (bs (R o0)))).set 1 (.string (bs (R o1)))).cell (i := 2) rfl) | (refine (HOC.out _ _ _ (HF1.out _ X2.out).1 (HF1.out _ X2.out).2.1 (HF1.out _ X2.out).2.2).mono ?_; rintro e w9 ⟨rfl, hb9⟩; have hrw := (show Row ((w8.alloc (.cells #[.string ⟨#[]⟩, .string ⟨#[]⟩, .string ⟨#[]⟩] 41 (0, 0))).drew) w8.heap.size 41 [.string ⟨#[]⟩, .string ⟨#[]⟩, .string ⟨#[]⟩] from rnw).below' hb9; have f0 := hrw.free 0; have f1 := (hrw.set 0 (.string (bs (R o0)))).free 1; have f2 := ((hrw.set 0 (.string (bs (R o0)))).set 1 (.string (bs (R o1)))).free 2; have c0 := hrw.cell (i := 0) rfl; have c1 := (hrw.set 0 (.string (bs (R o0)))).cell (i := 1) rfl; have c2 := ((hrw.set 0 (.string (bs (R o0)))).set 1 (.string (bs (R o1)))).cell (i := 2) rfl; have HQ := Lib.hid (ar_store (.string (bs (R o0))) (.string (bs (R o1))) (.string (bs (R o2))) hrw H8.out.size (HF1.out _ (bel_to X2.out hb9)).1))))
      all_goals first
        | (refine genw (fun W => Below w.heap.size w W) HQ.out.2 ?_)
        | (refine genw (fun W => Below w.heap.size w W) (bel_to (HF1.out _ X1.out).1 (bel_to hb9 (bel_al w9 (.cells #[.string (bs (R o0)), .string (bs (R o1)), .string (bs (R o2))] 41 (0, 0))))) ?_)
      all_goals
        intro W9 hbw9
        have HB9 := Lib.hid hbw9
        clear hbw9 hb9 X1 X2 HF1 HOC H8 i1 i2
        (try clear hrw f0 f1 f2 c0 c1 c2)
        (try clear HQ)
        obtain ⟨g0, g1, g2, g3, g4, g5, g6⟩ := HT0.out W9 HB9.out
        obtain ⟨j0, j1, j2⟩ := HC0.out W9 HB9.out
        have m0 := cell_regrown g0
        have m1 := cell_regrown g1
        have m2 := cell_regrown g2
        have m3 := cell_regrown g3
        have m4 := cell_regrown g4
        have m5 := cell_regrown g5
        have m6 := cell_regrown g6
        have m7 := cell_regrown j0
        have m8 := cell_regrown j1
        have m9 := cell_regrown j2
        have e1 : ∀ args w, (callFunc 12 args).run Tryz.prog w = .ok (.enter 12 args) w := enters_of Tryz.func12 (by kernel_rfl) rfl
        have k1 := reg_of (w := W9) (fun W hW => HZ.out W (bel_to HB9.out hW))
        clear g0 g1 g2 g3 g4 g5 g6 j0 j1 j2
        go_wp2_with fail
        refine wp_region_quiet_below (by kernel_rfl) (by kernel_rfl) ?_
        repeat (go_big_quiet_step (fail))
        go_big_quiet_step (exact k1 _ _)
        repeat (go_big_quiet_step (fail))
        refine wpQuiet_nil ?_
        intro W6 hw'
        have hb6 : Below W9.heap.size W9 W6 := by obtain ⟨p, e⟩ := hw'; rw [e]; exact below_regrown W9 p.d p.os
        clear hw'
        have HB10 := Lib.hid (bel_to HB9.out hb6)
        clear m0 m1 m2 m3 m4 m5 m6 m7 m8 m9 e1 k1 hb6 HB9 HZ
        go_wp2_with fail
        refine (HWO.out _).mono ?_
        rintro e w11 ⟨rfl, hb11⟩
        have HB11 := Lib.hid (bel_to HB10.out hb11)
        clear hb11 HB10 HWO
        have hone : ((ts.length : Int) == 1) = false := by rw [beq_eq_false_iff_ne]; omega
        go_wp2
        have i3 : (1 : Int) ≤ (ts.length : Int) := by omega
        have i4 : (ts.length : Int) ≤ (ct : Int) := by omega
        have i5 : (1 : Int) ≤ (cs.length : Int) := by omega
        have i6 : (cs.length : Int) ≤ (cc : Int) := by omega
        have i7 : ct ≠ 1 := by omega
        have i8 : cc ≠ 1 := by have := HLC.out; omega
        have HF2 := Lib.hid (fun E (hE : Below w11.heap.size w11 E) => And.intro (bel_to HB11.out hE) (And.intro (RdG.rest (cap := ct - 1) (n := ts.length - 1) (HST.out.below' (bel_to HB11.out hE)) (by rw [List.length_drop])) (RdC.rest (cap := cc - 1) (n := cs.length - 1) (HSC.out.below' (bel_to HB11.out hE)) (by rw [List.length_drop]))))
        have X1 := Lib.hid (RowKit.Below.drew (Below.refl w11.heap.size w11))
        have X2 := Lib.hid (RowKit.Below.drew (bel_al w11 (.cells #[.string ⟨#[]⟩, .string ⟨#[]⟩, .string ⟨#[]⟩] 41 (0, 0))))
        go_region_held3 (fun _ => True) (trivial) (first | (go_at_call 22; first | (refine (HFC.out _ _ _ (HF2.out _ X1.out).1 (HF2.out _ X1.out).2.1 (HF2.out _ X1.out).2.2).mono ?_; rintro e w9 ⟨rfl, hb9⟩; have hrw : Row (w9.alloc (.cells #[.string ⟨#[]⟩, .string ⟨#[]⟩, .string ⟨#[]⟩] 41 (0, 0))) w9.heap.size 41 [.string ⟨#[]⟩, .string ⟨#[]⟩, .string ⟨#[]⟩] := rnw; have f0 := hrw.free 0; have f1 := (hrw.set 0 (.string (bs (R q0)))).free 1; have f2 := ((hrw.set 0 (.string (bs (R q0)))).set 1 (.string (bs (R q1)))).free 2; have c0 := hrw.cell (i := 0) rfl; have c1 := (hrw.set 0 (.string (bs (R q0)))).cell (i := 1) rfl; have c2 := ((hrw.set 0 (.string (bs (R q0)))).set 1 (.string (bs (R q1)))).cell (i := 2) rfl) | (refine (HFC.out _ _ _ (HF2.out _ X2.out).1 (HF2.out _ X2.out).2.1 (HF2.out _ X2.out).2.2).mono ?_; rintro e w9 ⟨rfl, hb9⟩; have hrw := (show Row ((w11.alloc (.cells #[.string ⟨#[]⟩, .string ⟨#[]⟩, .string ⟨#[]⟩] 41 (0, 0))).drew) w11.heap.size 41 [.string ⟨#[]⟩, .string ⟨#[]⟩, .string ⟨#[]⟩] from rnw).below' hb9; have f0 := hrw.free 0; have f1 := (hrw.set 0 (.string (bs (R q0)))).free 1; have f2 := ((hrw.set 0 (.string (bs (R q0)))).set 1 (.string (bs (R q1)))).free 2; have c0 := hrw.cell (i := 0) rfl; have c1 := (hrw.set 0 (.string (bs (R q0)))).cell (i := 1) rfl; have c2 := ((hrw.set 0 (.string (bs (R q0)))).set 1 (.string (bs (R q1)))).cell (i := 2) rfl; have HQ := Lib.hid (ar_store (.string (bs (R q0))) (.string (bs (R q1))) (.string (bs (R q2))) hrw HB11.out.size (HF2.out _ (bel_to X2.out hb9)).1))))
        all_goals first
          | (refine genw (fun W => Below w.heap.size w W) HQ.out.2 ?_)
          | (refine genw (fun W => Below w.heap.size w W) (bel_to (HF2.out _ X1.out).1 (bel_to hb9 (bel_al w9 (.cells #[.string (bs (R q0)), .string (bs (R q1)), .string (bs (R q2))] 41 (0, 0))))) ?_)
        all_goals
          intro W12 hbw12
          have HB12 := Lib.hid hbw12
          clear hbw12 hb9 X1 X2 HF2 HFC HB11 i3 i4 i5 i6 i7 i8
          (try clear hrw f0 f1 f2 c0 c1 c2)
          (try clear HQ)
          go_wp2_with fail
          refine (HCP.out _ HB12.out).mono ?_
          rintro e w13 ⟨rfl, hb13⟩
          have HB13 := Lib.hid (bel_to HB12.out hb13)
          clear hb13 HB12 HCP
          generalize cmpQ qf x = cz at *
          go_wp2_with fail
          refine (HA.out _ HB13.out).mono ?_
          rintro e w14 ⟨rfl, hb14⟩
          have HB14 := Lib.hid (bel_to HB13.out hb14)
          clear hb14 HB13 HA
          go_wp2
          go_ret
          exact ⟨rfl, HB14.out⟩
theorem grows_10 (vt vc : Value) (ts : List Tg) (cs : List Cc) (k : Int) (w : World) (hg : Glob w) (hs : Sig w) (ht : RdG w vt ts) (hc : RdC w vc cs) (nt : ts.length ≤ maxLen) (nc : cs.length ≤ maxLen) (hct : ∃ A cap, vt = .slice A ts.length cap ∧ ts.length ≤ cap) (hcc : ∃ A cap, vc = .slice A cs.length cap ∧ cs.length ≤ cap)
    (h : chk46 ts cs = 0) (h5 : ts.length ≤ 5) (hk0 : 0 ≤ k) (hk1 : k ≤ 255) (hm : chk46 (ts.map (tolT k)) cs = 0) (h2 : ts.length < 2) :
    Calls Tryz.prog 6 #[vt, vc, .int .u8 k] w (Ret w (.bool true)) := by
  have hr := lright46 vt vc ts cs w ht hc nt nc
  rw [show decide (ts.length ≤ 5) = true by simp [h5], show decide (chk46 ts cs = 0) = true by simp [h], Bool.true_and] at hr
  have HR := Lib.hid hr
  obtain ⟨h1, h16, hlen, hrt⟩ := chk46_iff.1 h
  have hl0 : 0 < ts.length := by omega
  have hl1 : 0 < cs.length := by omega
  have hrt0 := hrt _ (zip_mem 0 hl0 hl1)
  have hwd := hrt0.wide
  simp only at hwd
  obtain ⟨d0, d1, d2, x, hexc, _, hbq, hE⟩ := pexcess_ok ts cs h h5
  have hbx : Bq 37 x := hbq x (by simp)
  obtain ⟨o0, o1, o2, o, hoexc, _, _, hO⟩ := pexcess_ok (ts.take 1) (cs.take 1) (chk_take h) (by simp; omega)
  have ho : o = ((-(wide ts[0] cs[0]) : Int) : Rat) := exc_one2 hl0 hl1 hoexc
  obtain ⟨e0, e1, e2, y, hyexc, _, _, hY⟩ := pexcess_ok (ts.map (tolT k)) cs hm (by simpa using h5)
  have hy : y = x - (k : Rat) := exc_more_tol k hexc hyexc
  have HA := Lib.hid (fun W (hW : Below w.heap.size w W) => awake46 W (hg.of hW) (hs.below hW))
  have HCL := Lib.hid (fun W (hW : Below w.heap.size w W) => pcloneOwnG vt ts W (ht.below hW) hl0 (by omega))
  have HE := Lib.hid (fun W (hW : Below w.heap.size w W) => hE vt vc W (hg.of hW) (hs.below hW) (ht.below hW) (hc.below hW))
  have hck : ∀ W, Calls Tryz.prog 23 #[.string (bs (R x))] W (Ret W (.int .i64 0)) := fun W => by
    have h := check2_any (R x) W (by have := hbx.R_len (by decide); omega)
    rw [hbx.chk (by decide)] at h
    exact h
  have HCK := Lib.hid hck
  have hmm := fun vm W (hW : Below w.heap.size w W) (hv : RdG W vm (ts.map (tolT k))) => rcheck46 vm vc (ts.map (tolT k)) cs W hv (hc.below hW) (by simpa using nt) nc
  rw [hm] at hmm
  have HM : Hid (∀ vm W, Below w.heap.size w W → RdG W vm (ts.map (tolT k)) → Calls Tryz.prog 17 #[vm, vc] W (Ret W (.int .i64 0))) := Lib.hid hmm
  have HY := Lib.hid (fun vm W (hW : Below w.heap.size w W) (hv : RdG W vm (ts.map (tolT k))) => hY vm vc W (hg.of hW) (hs.below hW) hv (hc.below hW))
  have HWK := Lib.hid (fun W => whole_R k W (by omega) (by omega))
  have hmi := fun W => minus_R x (k : Rat) W (hbx.sh (by decide) (by decide)) ((int_bq (z := k) (by omega)).sh (by decide) (by decide))
  rw [← hy] at hmi
  have HMI := Lib.hid hmi
  have HOC : Hid (∀ v1 v2 W, Below w.heap.size w W → RdG W v1 (ts.take 1) → RdC W v2 (cs.take 1) → Calls Tryz.prog 22 #[v1, v2] W (Ret W (.tuple #[.string (bs (R o)), .agg #[.string (bs (R o0)), .string (bs (R o1)), .string (bs (R o2))], .int .i64 0]))) := Lib.hid (fun v1 v2 W (hW : Below w.heap.size w W) (h1 : RdG W v1 (ts.take 1)) (h2 : RdC W v2 (cs.take 1)) => hO v1 v2 W (hg.of hW) (hs.below hW) h1 h2)
  have hzc : zoneC ts[0] cs[0] = 0 ∧ zoneN ts[0] cs[0] = wide ts[0] cs[0] := zone_ok (both_ok2 hrt0.1 hrt0.2.1) (wth_ok2 hrt0.2.2)
  have hz := fun W (hW : Below w.heap.size w W) => pzone ts[0] cs[0] W (hs.below hW)
  rw [hzc.1, hzc.2] at hz
  have HZ : Hid (∀ W, Below w.heap.size w W → Calls Tryz.prog 12 #[tgV ts[0], ccV cs[0]] W (Ret W (.tuple #[.int .i64 (wide ts[0] cs[0]), .int .i64 0]))) := Lib.hid hz
  have hwo := fun W => whole_R (-(wide ts[0] cs[0])) W (by omega) (by omega)
  rw [← ho] at hwo
  have HWO := Lib.hid hwo
  have hnw : wrap64 (-(wide ts[0] cs[0])) = -(wide ts[0] cs[0]) := by unfold wrap64; omega
  have HTOL := Lib.hid (fun i (hi : i < ts.length) => (show 0 ≤ ts[i].tol ∧ ts[i].tol ≤ 100000 from (hrt _ (zip_mem i hi (by omega))).1.tol))
  have HLC := Lib.hid (show cs.length = ts.length from hlen)
  obtain ⟨At, ct, rfl, hcap1⟩ := hct
  obtain ⟨Ac, cc, rfl, hcap2⟩ := hcc
  have HT := Lib.hid ht
  have HC := Lib.hid hc
  obtain ⟨bt, ot, rfl, hst⟩ := ht.row 0 hl0
  obtain ⟨bc, oc, rfl, hsc⟩ := hc.row 0 hl1
  have HST := Lib.hid hst
  have HSC := Lib.hid hsc
  have HT0 := Lib.hid (fun W (hW : Below w.heap.size w W) => (show W.cell? ⟨bt, ot, none⟩ = some (.int .i64 ts[0].x) ∧ W.cell? ⟨bt, ot + 1, none⟩ = some (.int .i64 ts[0].y) ∧ W.cell? ⟨bt, ot + 2, none⟩ = some (.int .i64 ts[0].lo) ∧ W.cell? ⟨bt, ot + 3, none⟩ = some (.int .i64 ts[0].hi) ∧ W.cell? ⟨bt, ot + 4, none⟩ = some (.int .i64 ts[0].tol) ∧ W.cell? ⟨bt, ot + 5, none⟩ = some (.int .i64 ts[0].mat) ∧ W.cell? ⟨bt, ot + 6, none⟩ = some (.bool ts[0].pin) from (hst.below' hW).val 0 hl0))
  have HC0 := Lib.hid (fun W (hW : Below w.heap.size w W) => (show W.cell? ⟨bc, oc, none⟩ = some (.int .i64 cs[0].x) ∧ W.cell? ⟨bc, oc + 1, none⟩ = some (.int .i64 cs[0].y) ∧ W.cell? ⟨bc, oc + 2, none⟩ = some (.int .i64 cs[0].d) from (hsc.below' hW).val 0 hl1))
  clear hg hs ht hc nt nc h hr hck hmm hz hwo hst hsc hrt hexc hoexc hbq hE hO ho hzc hwd hrt0 h16 hlen hm hY hyexc hy hmi
  generalize hwz : wide ts[0] cs[0] = wd at *
  clear hwz
  generalize ts[0] = t0 at *
  generalize cs[0] = c0v at *
  go_enter Tryz.func6, Tryz.ntmps6
  go_wp2_with fail
  refine (HR.out).mono ?_
  rintro e w1 ⟨rfl, hb1⟩
  clear HR
  go_wp2_with fail
  refine (HCL.out _ hb1).mono ?_
  rintro e w2 ⟨g, cap, rfl, hgB, ho2, hb2⟩
  have H2 := Lib.hid (And.intro (bel_to hb1 hb2) (show OwnG w2 w1.heap.size (.slice (some ⟨g, 0, none⟩) ts.length cap) (mixL (tolT k) 0 ts) by rw [mixL_zero]; exact ho2))
  have hgw : w.heap.size ≤ g := Nat.le_trans hb1.size hgB
  have hsz1 := hb1.size
  clear hb1 hb2 ho2 HCL
  go_wp2_with fail
  go_loopw [31] (fun iv wr => ∃ i : Nat, iv = .int .i64 (i : Int) ∧ i ≤ ts.length ∧ Hid (Below w.heap.size w wr ∧ OwnG wr w1.heap.size (.slice (some ⟨g, 0, none⟩) ts.length cap) (mixL (tolT k) i ts))) (fun iv _ => ts.length - (intOf iv).toNat)
  case atStart => exact ⟨0, rfl, by omega, H2⟩
  case round =>
    clear H2
    obtain ⟨i, rfl, hi, hin⟩ := hrel
    by_cases hlt : i < ts.length
    · have hlm := mixL_len (tolT k) i ts hi
      have hin2 := hin.out.2
      rw [← hlm] at hin2
      have him : i < (mixL (tolT k) i ts).length := by omega
      have hcell := hin2.cells _ _ (csG_get _ i him).2.2.2.2.1
      rw [mixL_get (tolT k) i ts hlt] at hcell
      have hfz := World.ownsRow.frozenAt hin2 (i * 7 + 4)
      have htol := HTOL.out i hlt
      have hst2 := hin2.setTol i him (ts[i].tol + k)
      rw [mixL_get (tolT k) i ts hlt] at hst2
      rw [show ({ ts[i] with tol := ts[i].tol + k } : Tg) = tolT k ts[i] from rfl, mixL_set (tolT k) i ts hlt, hlm] at hst2
      have HN := Lib.hid (show Below w.heap.size w (wr.setCell ⟨g, i * 7 + 4, none⟩ (.int .i64 (ts[i].tol + k))) ∧ OwnG (wr.setCell ⟨g, i * 7 + 4, none⟩ (.int .i64 (ts[i].tol + k))) w1.heap.size (.slice (some ⟨g, 0, none⟩) ts.length cap) (mixL (tolT k) (i + 1) ts) from ⟨Below.setCell (p := ⟨g, i * 7 + 4, none⟩) hin.out.1 hgw _, hst2⟩)
      have hwr : wrap64 (ts[i].tol + k) = ts[i].tol + k := by unfold wrap64; omega
      have hi0 : (0 : Int) ≤ (i : Int) := by omega
      have hi1 : (i : Int) < (ts.length : Int) := by omega
      clear hin hin2 hlm him hst2 htol
      generalize ts[i].tol = tl at *
      go_wp2
      go_roundw
      case rel => exact ⟨i + 1, by go_num, by omega, HN⟩
      case measure => simp [intOf]; omega
    · obtain rfl : i = ts.length := by omega
      have hin2 := hin.out.2
      rw [mixL_all] at hin2
      have hrm := hin2.below (Below.refl _ _)
      have HRM := Lib.hid (And.intro hin.out.1 (show RdG wr (.slice (some ⟨g, 0, none⟩) ts.length cap) (ts.map (tolT k)) from OwnG.rd hin2))
      clear hin hin2 hrm hlt
      go_wp2_with fail
      refine (HE.out _ HRM.out.1).mono ?_
      rintro e w3 ⟨rfl, hb3⟩
      have hb3a := bel_to hb3 (bel_al w3 (.cells #[.string (bs (R d0)), .string (bs (R d1)), .string (bs (R d2))] 41 (0, 0)))
      have H3 := Lib.hid (And.intro (bel_to HRM.out.1 hb3a) (HRM.out.2.below hb3a))
      clear hb3 hb3a HRM HE
      go_wp2_with fail
      refine (HCK.out _).mono ?_
      rintro e w4 ⟨rfl, hb4⟩
      have H4 := Lib.hid (And.intro (bel_to H3.out.1 hb4) (H3.out.2.below hb4))
      clear hb4 H3 HCK
      go_wp2_with fail
      refine (HM.out _ _ H4.out.1 H4.out.2).mono ?_
      rintro e w5 ⟨rfl, hb5⟩
      have H5 := Lib.hid (And.intro (bel_to H4.out.1 hb5) (H4.out.2.below hb5))
      clear hb5 H4 HM
      go_wp2_with fail
      refine (HY.out _ _ H5.out.1 H5.out.2).mono ?_
      rintro e w6 ⟨rfl, hb6⟩
      have H6 := Lib.hid (bel_to H5.out.1 (bel_to hb6 (bel_al w6 (.cells #[.string (bs (R e0)), .string (bs (R e1)), .string (bs (R e2))] 41 (0, 0)))))
      clear hb6 H5 HY
      go_wp2_with fail
      refine (HWK.out _).mono ?_
      rintro e w7 ⟨rfl, hb7⟩
      have H7 := Lib.hid (bel_to H6.out hb7)
      clear hb7 H6 HWK
      go_wp2_with fail
      refine (HMI.out _).mono ?_
      rintro e w8 ⟨rfl, hb8⟩
      have H8 := Lib.hid (bel_to H7.out hb8)
      clear hb8 H7 HMI
      go_wp2
      have i1 : (1 : Int) ≤ (ct : Int) := by omega
      have i2 : (1 : Int) ≤ (cc : Int) := by omega
      have HF1 := Lib.hid (fun E (hE : Below w8.heap.size w8 E) => And.intro (bel_to H8.out hE) (And.intro (RdG.front (cap := ct) (n := 1) (HST.out.below' (bel_to H8.out hE)) (by rw [List.length_take]; omega)) (RdC.front (cap := cc) (n := 1) (HSC.out.below' (bel_to H8.out hE)) (by rw [List.length_take]; omega))))
      have X1 := Lib.hid (RowKit.Below.drew (Below.refl w8.heap.size w8))
      have X2 := Lib.hid (RowKit.Below.drew (bel_al w8 (.cells #[.string ⟨#[]⟩, .string ⟨#[]⟩, .string ⟨#[]⟩] 41 (0, 0))))
      go_region_held3 (fun _ => True) (trivial) (first | (go_at_call 22; first | (refine (HOC.out _ _ _ (HF1.out _ X1.out).1 (HF1.out _ X1.out).2.1 (HF1.out _ X1.out).2.2).mono ?_; rintro e w9 ⟨rfl, hb9⟩; have hrw : Row (w9.alloc (.cells #[.string ⟨#[]⟩, .string ⟨#[]⟩, .string ⟨#[]⟩] 41 (0, 0))) w9.heap.size 41 [.string ⟨#[]⟩, .string ⟨#[]⟩, .string ⟨#[]⟩] := rnw; have f0 := hrw.free 0; have f1 := (hrw.set 0 (.string (bs (R o0)))).free 1; have f2 := ((hrw.set 0 (.string (bs (R o0)))).set 1 (.string (bs (R o1)))).free 2; have c0 := hrw.cell (i := 0) rfl; have c1 := (hrw.set 0 (.string (bs (R o0)))).cell (i := 1) rfl; have c2 := ((hrw.set 0 (.string (bs (R o0)))).set 1 (.string (bs (R o1)))).cell (i := 2) rfl) | (refine (HOC.out _ _ _ (HF1.out _ X2.out).1 (HF1.out _ X2.out).2.1 (HF1.out _ X2.out).2.2).mono ?_; rintro e w9 ⟨rfl, hb9⟩; have hrw := (show Row ((w8.alloc (.cells #[.string ⟨#[]⟩, .string ⟨#[]⟩, .string ⟨#[]⟩] 41 (0, 0))).drew) w8.heap.size 41 [.string ⟨#[]⟩, .string ⟨#[]⟩, .string ⟨#[]⟩] from rnw).below' hb9; have f0 := hrw.free 0; have f1 := (hrw.set 0 (.string (bs (R o0)))).free 1; have f2 := ((hrw.set 0 (.string (bs (R o0)))).set 1 (.string (bs (R o1)))).free 2; have c0 := hrw.cell (i := 0) rfl; have c1 := (hrw.set 0 (.string (bs (R o0)))).cell (i := 1) rfl; have c2 := ((hrw.set 0 (.string (bs (R o0)))).set 1 (.string (bs (R o1)))).cell (i := 2) rfl; have HQ := Lib.hid (ar_store (.string (bs (R o0))) (.string (bs (R o1))) (.string (bs (R o2))) hrw H8.out.size (HF1.out _ (bel_to X2.out hb9)).1))))
      all_goals first
        | (refine genw (fun W => Below w.heap.size w W) HQ.out.2 ?_)
        | (refine genw (fun W => Below w.heap.size w W) (bel_to (HF1.out _ X1.out).1 (bel_to hb9 (bel_al w9 (.cells #[.string (bs (R o0)), .string (bs (R o1)), .string (bs (R o2))] 41 (0, 0))))) ?_)
      all_goals
        intro W9 hbw9
        have HB9 := Lib.hid hbw9
        clear hbw9 hb9 X1 X2 HF1 HOC H8 i1 i2
        (try clear hrw f0 f1 f2 c0 c1 c2)
        (try clear HQ)
        obtain ⟨g0, g1, g2, g3, g4, g5, g6⟩ := HT0.out W9 HB9.out
        obtain ⟨j0, j1, j2⟩ := HC0.out W9 HB9.out
        have m0 := cell_regrown g0
        have m1 := cell_regrown g1
        have m2 := cell_regrown g2
        have m3 := cell_regrown g3
        have m4 := cell_regrown g4
        have m5 := cell_regrown g5
        have m6 := cell_regrown g6
        have m7 := cell_regrown j0
        have m8 := cell_regrown j1
        have m9 := cell_regrown j2
        have e1 : ∀ args w, (callFunc 12 args).run Tryz.prog w = .ok (.enter 12 args) w := enters_of Tryz.func12 (by kernel_rfl) rfl
        have k1 := reg_of (w := W9) (fun W hW => HZ.out W (bel_to HB9.out hW))
        clear g0 g1 g2 g3 g4 g5 g6 j0 j1 j2
        go_wp2_with fail
        refine wp_region_quiet_below (by kernel_rfl) (by kernel_rfl) ?_
        repeat (go_big_quiet_step (fail))
        go_big_quiet_step (exact k1 _ _)
        repeat (go_big_quiet_step (fail))
        refine wpQuiet_nil ?_
        intro W6 hw'
        have hb6 : Below W9.heap.size W9 W6 := by obtain ⟨p, e⟩ := hw'; rw [e]; exact below_regrown W9 p.d p.os
        clear hw'
        have HB10 := Lib.hid (bel_to HB9.out hb6)
        clear m0 m1 m2 m3 m4 m5 m6 m7 m8 m9 e1 k1 hb6 HB9 HZ
        go_wp2_with fail
        refine (HWO.out _).mono ?_
        rintro e w11 ⟨rfl, hb11⟩
        have HB11 := Lib.hid (bel_to HB10.out hb11)
        clear hb11 HB10 HWO
        have hone : ((ts.length : Int) == 1) = true := by rw [beq_iff_eq]; omega
        go_wp2_with fail
        refine (HA.out _ HB11.out).mono ?_
        rintro e w12 ⟨rfl, hb12⟩
        have HB12 := Lib.hid (bel_to HB11.out hb12)
        clear hb12 HB11 HA
        go_wp2
        go_ret
        exact ⟨rfl, HB12.out⟩
theorem grows_01 (vt vc : Value) (ts : List Tg) (cs : List Cc) (k : Int) (w : World) (hg : Glob w) (hs : Sig w) (ht : RdG w vt ts) (hc : RdC w vc cs) (nt : ts.length ≤ maxLen) (nc : cs.length ≤ maxLen) (hct : ∃ A cap, vt = .slice A ts.length cap ∧ ts.length ≤ cap) (hcc : ∃ A cap, vc = .slice A cs.length cap ∧ cs.length ≤ cap)
    (h : chk46 ts cs = 0) (h5 : ts.length ≤ 5) (hk0 : 0 ≤ k) (hk1 : k ≤ 255) (hm : chk46 (ts.map (tolT k)) cs ≠ 0) (h2 : 2 ≤ ts.length) :
    Calls Tryz.prog 6 #[vt, vc, .int .u8 k] w (Ret w (.bool true)) := by
  have hr := lright46 vt vc ts cs w ht hc nt nc
  rw [show decide (ts.length ≤ 5) = true by simp [h5], show decide (chk46 ts cs = 0) = true by simp [h], Bool.true_and] at hr
  have HR := Lib.hid hr
  obtain ⟨h1, h16, hlen, hrt⟩ := chk46_iff.1 h
  have hl0 : 0 < ts.length := by omega
  have hl1 : 0 < cs.length := by omega
  have hrt0 := hrt _ (zip_mem 0 hl0 hl1)
  have hwd := hrt0.wide
  simp only at hwd
  obtain ⟨d0, d1, d2, x, hexc, _, hbq, hE⟩ := pexcess_ok ts cs h h5
  have hbx : Bq 37 x := hbq x (by simp)
  obtain ⟨o0, o1, o2, o, hoexc, _, _, hO⟩ := pexcess_ok (ts.take 1) (cs.take 1) (chk_take h) (by simp; omega)
  have ho : o = ((-(wide ts[0] cs[0]) : Int) : Rat) := exc_one2 hl0 hl1 hoexc
  obtain ⟨q0, q1, q2, qf, hfexc, _, hfbq, hF⟩ := pexcess_ok (ts.drop 1) (cs.drop 1) (chk_drop h h2) (by simp; omega)
  have hbf : Bq 37 qf := hfbq qf (by simp)
  have hfx : cmpQ qf x ≤ 0 := cmpQ_le5.2 (exc_rest hexc hfexc)
  have HA := Lib.hid (fun W (hW : Below w.heap.size w W) => awake46 W (hg.of hW) (hs.below hW))
  have HCL := Lib.hid (fun W (hW : Below w.heap.size w W) => pcloneOwnG vt ts W (ht.below hW) hl0 (by omega))
  have HE := Lib.hid (fun W (hW : Below w.heap.size w W) => hE vt vc W (hg.of hW) (hs.below hW) (ht.below hW) (hc.below hW))
  have hck : ∀ W, Calls Tryz.prog 23 #[.string (bs (R x))] W (Ret W (.int .i64 0)) := fun W => by
    have h := check2_any (R x) W (by have := hbx.R_len (by decide); omega)
    rw [hbx.chk (by decide)] at h
    exact h
  have HCK := Lib.hid hck
  have hmm := fun vm W (hW : Below w.heap.size w W) (hv : RdG W vm (ts.map (tolT k))) => rcheck46 vm vc (ts.map (tolT k)) cs W hv (hc.below hW) (by simpa using nt) nc
  have hcz : (((chk46 (ts.map (tolT k)) cs : Nat) : Int) == 0) = false := by rw [beq_eq_false_iff_ne]; omega
  have HM := Lib.hid hmm
  have HOC : Hid (∀ v1 v2 W, Below w.heap.size w W → RdG W v1 (ts.take 1) → RdC W v2 (cs.take 1) → Calls Tryz.prog 22 #[v1, v2] W (Ret W (.tuple #[.string (bs (R o)), .agg #[.string (bs (R o0)), .string (bs (R o1)), .string (bs (R o2))], .int .i64 0]))) := Lib.hid (fun v1 v2 W (hW : Below w.heap.size w W) (h1 : RdG W v1 (ts.take 1)) (h2 : RdC W v2 (cs.take 1)) => hO v1 v2 W (hg.of hW) (hs.below hW) h1 h2)
  have hzc : zoneC ts[0] cs[0] = 0 ∧ zoneN ts[0] cs[0] = wide ts[0] cs[0] := zone_ok (both_ok2 hrt0.1 hrt0.2.1) (wth_ok2 hrt0.2.2)
  have hz := fun W (hW : Below w.heap.size w W) => pzone ts[0] cs[0] W (hs.below hW)
  rw [hzc.1, hzc.2] at hz
  have HZ : Hid (∀ W, Below w.heap.size w W → Calls Tryz.prog 12 #[tgV ts[0], ccV cs[0]] W (Ret W (.tuple #[.int .i64 (wide ts[0] cs[0]), .int .i64 0]))) := Lib.hid hz
  have hwo := fun W => whole_R (-(wide ts[0] cs[0])) W (by omega) (by omega)
  rw [← ho] at hwo
  have HWO := Lib.hid hwo
  have hnw : wrap64 (-(wide ts[0] cs[0])) = -(wide ts[0] cs[0]) := by unfold wrap64; omega
  have HFC : Hid (∀ v1 v2 W, Below w.heap.size w W → RdG W v1 (ts.drop 1) → RdC W v2 (cs.drop 1) → Calls Tryz.prog 22 #[v1, v2] W (Ret W (.tuple #[.string (bs (R qf)), .agg #[.string (bs (R q0)), .string (bs (R q1)), .string (bs (R q2))], .int .i64 0]))) := Lib.hid (fun v1 v2 W (hW : Below w.heap.size w W) (h1 : RdG W v1 (ts.drop 1)) (h2 : RdC W v2 (cs.drop 1)) => hF v1 v2 W (hg.of hW) (hs.below hW) h1 h2)
  have HCP := Lib.hid (fun W (hW : Below w.heap.size w W) => ratCompare qf x 37 37 W (hg.of hW) hbf hbx (by decide))
  have HTOL := Lib.hid (fun i (hi : i < ts.length) => (show 0 ≤ ts[i].tol ∧ ts[i].tol ≤ 100000 from (hrt _ (zip_mem i hi (by omega))).1.tol))
  have HLC := Lib.hid (show cs.length = ts.length from hlen)
  obtain ⟨At, ct, rfl, hcap1⟩ := hct
  obtain ⟨Ac, cc, rfl, hcap2⟩ := hcc
  have HT := Lib.hid ht
  have HC := Lib.hid hc
  obtain ⟨bt, ot, rfl, hst⟩ := ht.row 0 hl0
  obtain ⟨bc, oc, rfl, hsc⟩ := hc.row 0 hl1
  have HST := Lib.hid hst
  have HSC := Lib.hid hsc
  have HT0 := Lib.hid (fun W (hW : Below w.heap.size w W) => (show W.cell? ⟨bt, ot, none⟩ = some (.int .i64 ts[0].x) ∧ W.cell? ⟨bt, ot + 1, none⟩ = some (.int .i64 ts[0].y) ∧ W.cell? ⟨bt, ot + 2, none⟩ = some (.int .i64 ts[0].lo) ∧ W.cell? ⟨bt, ot + 3, none⟩ = some (.int .i64 ts[0].hi) ∧ W.cell? ⟨bt, ot + 4, none⟩ = some (.int .i64 ts[0].tol) ∧ W.cell? ⟨bt, ot + 5, none⟩ = some (.int .i64 ts[0].mat) ∧ W.cell? ⟨bt, ot + 6, none⟩ = some (.bool ts[0].pin) from (hst.below' hW).val 0 hl0))
  have HC0 := Lib.hid (fun W (hW : Below w.heap.size w W) => (show W.cell? ⟨bc, oc, none⟩ = some (.int .i64 cs[0].x) ∧ W.cell? ⟨bc, oc + 1, none⟩ = some (.int .i64 cs[0].y) ∧ W.cell? ⟨bc, oc + 2, none⟩ = some (.int .i64 cs[0].d) from (hsc.below' hW).val 0 hl1))
  clear hg hs ht hc nt nc h hr hck hmm hz hwo hst hsc hrt hexc hoexc hbq hE hO ho hzc hwd hrt0 h16 hlen hm hF hfexc hfbq
  generalize hwz : wide ts[0] cs[0] = wd at *
  clear hwz
  generalize ts[0] = t0 at *
  generalize cs[0] = c0v at *
  go_enter Tryz.func6, Tryz.ntmps6
  go_wp2_with fail
  refine (HR.out).mono ?_
  rintro e w1 ⟨rfl, hb1⟩
  clear HR
  go_wp2_with fail
  refine (HCL.out _ hb1).mono ?_
  rintro e w2 ⟨g, cap, rfl, hgB, ho2, hb2⟩
  have H2 := Lib.hid (And.intro (bel_to hb1 hb2) (show OwnG w2 w1.heap.size (.slice (some ⟨g, 0, none⟩) ts.length cap) (mixL (tolT k) 0 ts) by rw [mixL_zero]; exact ho2))
  have hgw : w.heap.size ≤ g := Nat.le_trans hb1.size hgB
  have hsz1 := hb1.size
  clear hb1 hb2 ho2 HCL
  go_wp2_with fail
  go_loopw [31] (fun iv wr => ∃ i : Nat, iv = .int .i64 (i : Int) ∧ i ≤ ts.length ∧ Hid (Below w.heap.size w wr ∧ OwnG wr w1.heap.size (.slice (some ⟨g, 0, none⟩) ts.length cap) (mixL (tolT k) i ts))) (fun iv _ => ts.length - (intOf iv).toNat)
  case atStart => exact ⟨0, rfl, by omega, H2⟩
  case round =>
    clear H2
    obtain ⟨i, rfl, hi, hin⟩ := hrel
    by_cases hlt : i < ts.length
    · have hlm := mixL_len (tolT k) i ts hi
      have hin2 := hin.out.2
      rw [← hlm] at hin2
      have him : i < (mixL (tolT k) i ts).length := by omega
      have hcell := hin2.cells _ _ (csG_get _ i him).2.2.2.2.1
      rw [mixL_get (tolT k) i ts hlt] at hcell
      have hfz := World.ownsRow.frozenAt hin2 (i * 7 + 4)
      have htol := HTOL.out i hlt
      have hst2 := hin2.setTol i him (ts[i].tol + k)
      rw [mixL_get (tolT k) i ts hlt] at hst2
      rw [show ({ ts[i] with tol := ts[i].tol + k } : Tg) = tolT k ts[i] from rfl, mixL_set (tolT k) i ts hlt, hlm] at hst2
      have HN := Lib.hid (show Below w.heap.size w (wr.setCell ⟨g, i * 7 + 4, none⟩ (.int .i64 (ts[i].tol + k))) ∧ OwnG (wr.setCell ⟨g, i * 7 + 4, none⟩ (.int .i64 (ts[i].tol + k))) w1.heap.size (.slice (some ⟨g, 0, none⟩) ts.length cap) (mixL (tolT k) (i + 1) ts) from ⟨Below.setCell (p := ⟨g, i * 7 + 4, none⟩) hin.out.1 hgw _, hst2⟩)
      have hwr : wrap64 (ts[i].tol + k) = ts[i].tol + k := by unfold wrap64; omega
      have hi0 : (0 : Int) ≤ (i : Int) := by omega
      have hi1 : (i : Int) < (ts.length : Int) := by omega
      clear hin hin2 hlm him hst2 htol
      generalize ts[i].tol = tl at *
      go_wp2
      go_roundw
      case rel => exact ⟨i + 1, by go_num, by omega, HN⟩
      case measure => simp [intOf]; omega
    · obtain rfl : i = ts.length := by omega
      have hin2 := hin.out.2
      rw [mixL_all] at hin2
      have hrm := hin2.below (Below.refl _ _)
      have HRM := Lib.hid (And.intro hin.out.1 (show RdG wr (.slice (some ⟨g, 0, none⟩) ts.length cap) (ts.map (tolT k)) from OwnG.rd hin2))
      clear hin hin2 hrm hlt
      go_wp2_with fail
      refine (HE.out _ HRM.out.1).mono ?_
      rintro e w3 ⟨rfl, hb3⟩
      have hb3a := bel_to hb3 (bel_al w3 (.cells #[.string (bs (R d0)), .string (bs (R d1)), .string (bs (R d2))] 41 (0, 0)))
      have H3 := Lib.hid (And.intro (bel_to HRM.out.1 hb3a) (HRM.out.2.below hb3a))
      clear hb3 hb3a HRM HE
      go_wp2_with fail
      refine (HCK.out _).mono ?_
      rintro e w4 ⟨rfl, hb4⟩
      have H4 := Lib.hid (And.intro (bel_to H3.out.1 hb4) (H3.out.2.below hb4))
      clear hb4 H3 HCK
      go_wp2_with fail
      refine (HM.out _ _ H4.out.1 H4.out.2).mono ?_
      rintro e w5 ⟨rfl, hb5⟩
      have H5 := Lib.hid (And.intro (bel_to H4.out.1 hb5) (H4.out.2.below hb5))
      clear hb5 H4 HM
      have H8 := Lib.hid H5.out.1
      obtain ⟨w8, hw8⟩ : ∃ z, z = w5 := ⟨_, rfl⟩
      subst hw8
      clear H5
      go_wp2
      have i1 : (1 : Int) ≤ (ct : Int) := by omega
      have i2 : (1 : Int) ≤ (cc : Int) := by omega
      have HF1 := Lib.hid (fun E (hE : Below w8.heap.size w8 E) => And.intro (bel_to H8.out hE) (And.intro (RdG.front (cap := ct) (n := 1) (HST.out.below' (bel_to H8.out hE)) (by rw [List.length_take]; omega)) (RdC.front (cap := cc) (n := 1) (HSC.out.below' (bel_to H8.out hE)) (by rw [List.length_take]; omega))))
      have X1 := Lib.hid (RowKit.Below.drew (Below.refl w8.heap.size w8))
      have X2 := Lib.hid (RowKit.Below.drew (bel_al w8 (.cells #[.string ⟨#[]⟩, .string ⟨#[]⟩, .string ⟨#[]⟩] 41 (0, 0))))
      go_region_held3 (fun _ => True) (trivial) (first | (go_at_call 22; first | (refine (HOC.out _ _ _ (HF1.out _ X1.out).1 (HF1.out _ X1.out).2.1 (HF1.out _ X1.out).2.2).mono ?_; rintro e w9 ⟨rfl, hb9⟩; have hrw : Row (w9.alloc (.cells #[.string ⟨#[]⟩, .string ⟨#[]⟩, .string ⟨#[]⟩] 41 (0, 0))) w9.heap.size 41 [.string ⟨#[]⟩, .string ⟨#[]⟩, .string ⟨#[]⟩] := rnw; have f0 := hrw.free 0; have f1 := (hrw.set 0 (.string (bs (R o0)))).free 1; have f2 := ((hrw.set 0 (.string (bs (R o0)))).set 1 (.string (bs (R o1)))).free 2; have c0 := hrw.cell (i := 0) rfl; have c1 := (hrw.set 0 (.string (bs (R o0)))).cell (i := 1) rfl; have c2 := ((hrw.set 0 (.string (bs (R o0)))).set 1 (.string (bs (R o1)))).cell (i := 2) rfl) | (refine (HOC.out _ _ _ (HF1.out _ X2.out).1 (HF1.out _ X2.out).2.1 (HF1.out _ X2.out).2.2).mono ?_; rintro e w9 ⟨rfl, hb9⟩; have hrw := (show Row ((w8.alloc (.cells #[.string ⟨#[]⟩, .string ⟨#[]⟩, .string ⟨#[]⟩] 41 (0, 0))).drew) w8.heap.size 41 [.string ⟨#[]⟩, .string ⟨#[]⟩, .string ⟨#[]⟩] from rnw).below' hb9; have f0 := hrw.free 0; have f1 := (hrw.set 0 (.string (bs (R o0)))).free 1; have f2 := ((hrw.set 0 (.string (bs (R o0)))).set 1 (.string (bs (R o1)))).free 2; have c0 := hrw.cell (i := 0) rfl; have c1 := (hrw.set 0 (.string (bs (R o0)))).cell (i := 1) rfl; have c2 := ((hrw.set 0 (.string (bs (R o0)))).set 1 (.string (bs (R o1)))).cell (i := 2) rfl; have HQ := Lib.hid (ar_store (.string (bs (R o0))) (.string (bs (R o1))) (.string (bs (R o2))) hrw H8.out.size (HF1.out _ (bel_to X2.out hb9)).1))))
      all_goals first
        | (refine genw (fun W => Below w.heap.size w W) HQ.out.2 ?_)
        | (refine genw (fun W => Below w.heap.size w W) (bel_to (HF1.out _ X1.out).1 (bel_to hb9 (bel_al w9 (.cells #[.string (bs (R o0)), .string (bs (R o1)), .string (bs (R o2))] 41 (0, 0))))) ?_)
      all_goals
        intro W9 hbw9
        have HB9 := Lib.hid hbw9
        clear hbw9 hb9 X1 X2 HF1 HOC H8 i1 i2
        (try clear hrw f0 f1 f2 c0 c1 c2)
        (try clear HQ)
        obtain ⟨g0, g1, g2, g3, g4, g5, g6⟩ := HT0.out W9 HB9.out
        obtain ⟨j0, j1, j2⟩ := HC0.out W9 HB9.out
        have m0 := cell_regrown g0
        have m1 := cell_regrown g1
        have m2 := cell_regrown g2
        have m3 := cell_regrown g3
        have m4 := cell_regrown g4
        have m5 := cell_regrown g5
        have m6 := cell_regrown g6
        have m7 := cell_regrown j0
        have m8 := cell_regrown j1
        have m9 := cell_regrown j2
        have e1 : ∀ args w, (callFunc 12 args).run Tryz.prog w = .ok (.enter 12 args) w := enters_of Tryz.func12 (by kernel_rfl) rfl
        have k1 := reg_of (w := W9) (fun W hW => HZ.out W (bel_to HB9.out hW))
        clear g0 g1 g2 g3 g4 g5 g6 j0 j1 j2
        go_wp2_with fail
        refine wp_region_quiet_below (by kernel_rfl) (by kernel_rfl) ?_
        repeat (go_big_quiet_step (fail))
        go_big_quiet_step (exact k1 _ _)
        repeat (go_big_quiet_step (fail))
        refine wpQuiet_nil ?_
        intro W6 hw'
        have hb6 : Below W9.heap.size W9 W6 := by obtain ⟨p, e⟩ := hw'; rw [e]; exact below_regrown W9 p.d p.os
        clear hw'
        have HB10 := Lib.hid (bel_to HB9.out hb6)
        clear m0 m1 m2 m3 m4 m5 m6 m7 m8 m9 e1 k1 hb6 HB9 HZ
        go_wp2_with fail
        refine (HWO.out _).mono ?_
        rintro e w11 ⟨rfl, hb11⟩
        have HB11 := Lib.hid (bel_to HB10.out hb11)
        clear hb11 HB10 HWO
        have hone : ((ts.length : Int) == 1) = false := by rw [beq_eq_false_iff_ne]; omega
        go_wp2
        have i3 : (1 : Int) ≤ (ts.length : Int) := by omega
        have i4 : (ts.length : Int) ≤ (ct : Int) := by omega
        have i5 : (1 : Int) ≤ (cs.length : Int) := by omega
        have i6 : (cs.length : Int) ≤ (cc : Int) := by omega
        have i7 : ct ≠ 1 := by omega
        have i8 : cc ≠ 1 := by have := HLC.out; omega
        have HF2 := Lib.hid (fun E (hE : Below w11.heap.size w11 E) => And.intro (bel_to HB11.out hE) (And.intro (RdG.rest (cap := ct - 1) (n := ts.length - 1) (HST.out.below' (bel_to HB11.out hE)) (by rw [List.length_drop])) (RdC.rest (cap := cc - 1) (n := cs.length - 1) (HSC.out.below' (bel_to HB11.out hE)) (by rw [List.length_drop]))))
        have X1 := Lib.hid (RowKit.Below.drew (Below.refl w11.heap.size w11))
        have X2 := Lib.hid (RowKit.Below.drew (bel_al w11 (.cells #[.string ⟨#[]⟩, .string ⟨#[]⟩, .string ⟨#[]⟩] 41 (0, 0))))
        go_region_held3 (fun _ => True) (trivial) (first | (go_at_call 22; first | (refine (HFC.out _ _ _ (HF2.out _ X1.out).1 (HF2.out _ X1.out).2.1 (HF2.out _ X1.out).2.2).mono ?_; rintro e w9 ⟨rfl, hb9⟩; have hrw : Row (w9.alloc (.cells #[.string ⟨#[]⟩, .string ⟨#[]⟩, .string ⟨#[]⟩] 41 (0, 0))) w9.heap.size 41 [.string ⟨#[]⟩, .string ⟨#[]⟩, .string ⟨#[]⟩] := rnw; have f0 := hrw.free 0; have f1 := (hrw.set 0 (.string (bs (R q0)))).free 1; have f2 := ((hrw.set 0 (.string (bs (R q0)))).set 1 (.string (bs (R q1)))).free 2; have c0 := hrw.cell (i := 0) rfl; have c1 := (hrw.set 0 (.string (bs (R q0)))).cell (i := 1) rfl; have c2 := ((hrw.set 0 (.string (bs (R q0)))).set 1 (.string (bs (R q1)))).cell (i := 2) rfl) | (refine (HFC.out _ _ _ (HF2.out _ X2.out).1 (HF2.out _ X2.out).2.1 (HF2.out _ X2.out).2.2).mono ?_; rintro e w9 ⟨rfl, hb9⟩; have hrw := (show Row ((w11.alloc (.cells #[.string ⟨#[]⟩, .string ⟨#[]⟩, .string ⟨#[]⟩] 41 (0, 0))).drew) w11.heap.size 41 [.string ⟨#[]⟩, .string ⟨#[]⟩, .string ⟨#[]⟩] from rnw).below' hb9; have f0 := hrw.free 0; have f1 := (hrw.set 0 (.string (bs (R q0)))).free 1; have f2 := ((hrw.set 0 (.string (bs (R q0)))).set 1 (.string (bs (R q1)))).free 2; have c0 := hrw.cell (i := 0) rfl; have c1 := (hrw.set 0 (.string (bs (R q0)))).cell (i := 1) rfl; have c2 := ((hrw.set 0 (.string (bs (R q0)))).set 1 (.string (bs (R q1)))).cell (i := 2) rfl; have HQ := Lib.hid (ar_store (.string (bs (R q0))) (.string (bs (R q1))) (.string (bs (R q2))) hrw HB11.out.size (HF2.out _ (bel_to X2.out hb9)).1))))
        all_goals first
          | (refine genw (fun W => Below w.heap.size w W) HQ.out.2 ?_)
          | (refine genw (fun W => Below w.heap.size w W) (bel_to (HF2.out _ X1.out).1 (bel_to hb9 (bel_al w9 (.cells #[.string (bs (R q0)), .string (bs (R q1)), .string (bs (R q2))] 41 (0, 0))))) ?_)
        all_goals
          intro W12 hbw12
          have HB12 := Lib.hid hbw12
          clear hbw12 hb9 X1 X2 HF2 HFC HB11 i3 i4 i5 i6 i7 i8
          (try clear hrw f0 f1 f2 c0 c1 c2)
          (try clear HQ)
          go_wp2_with fail
          refine (HCP.out _ HB12.out).mono ?_
          rintro e w13 ⟨rfl, hb13⟩
          have HB13 := Lib.hid (bel_to HB12.out hb13)
          clear hb13 HB12 HCP
          generalize cmpQ qf x = cz at *
          go_wp2_with fail
          refine (HA.out _ HB13.out).mono ?_
          rintro e w14 ⟨rfl, hb14⟩
          have HB14 := Lib.hid (bel_to HB13.out hb14)
          clear hb14 HB13 HA
          go_wp2
          go_ret
          exact ⟨rfl, HB14.out⟩
theorem grows_00 (vt vc : Value) (ts : List Tg) (cs : List Cc) (k : Int) (w : World) (hg : Glob w) (hs : Sig w) (ht : RdG w vt ts) (hc : RdC w vc cs) (nt : ts.length ≤ maxLen) (nc : cs.length ≤ maxLen) (hct : ∃ A cap, vt = .slice A ts.length cap ∧ ts.length ≤ cap) (hcc : ∃ A cap, vc = .slice A cs.length cap ∧ cs.length ≤ cap)
    (h : chk46 ts cs = 0) (h5 : ts.length ≤ 5) (hk0 : 0 ≤ k) (hk1 : k ≤ 255) (hm : chk46 (ts.map (tolT k)) cs ≠ 0) (h2 : ts.length < 2) :
    Calls Tryz.prog 6 #[vt, vc, .int .u8 k] w (Ret w (.bool true)) := by
  have hr := lright46 vt vc ts cs w ht hc nt nc
  rw [show decide (ts.length ≤ 5) = true by simp [h5], show decide (chk46 ts cs = 0) = true by simp [h], Bool.true_and] at hr
  have HR := Lib.hid hr
  obtain ⟨h1, h16, hlen, hrt⟩ := chk46_iff.1 h
  have hl0 : 0 < ts.length := by omega
  have hl1 : 0 < cs.length := by omega
  have hrt0 := hrt _ (zip_mem 0 hl0 hl1)
  have hwd := hrt0.wide
  simp only at hwd
  obtain ⟨d0, d1, d2, x, hexc, _, hbq, hE⟩ := pexcess_ok ts cs h h5
  have hbx : Bq 37 x := hbq x (by simp)
  obtain ⟨o0, o1, o2, o, hoexc, _, _, hO⟩ := pexcess_ok (ts.take 1) (cs.take 1) (chk_take h) (by simp; omega)
  have ho : o = ((-(wide ts[0] cs[0]) : Int) : Rat) := exc_one2 hl0 hl1 hoexc
  have HA := Lib.hid (fun W (hW : Below w.heap.size w W) => awake46 W (hg.of hW) (hs.below hW))
  have HCL := Lib.hid (fun W (hW : Below w.heap.size w W) => pcloneOwnG vt ts W (ht.below hW) hl0 (by omega))
  have HE := Lib.hid (fun W (hW : Below w.heap.size w W) => hE vt vc W (hg.of hW) (hs.below hW) (ht.below hW) (hc.below hW))
  have hck : ∀ W, Calls Tryz.prog 23 #[.string (bs (R x))] W (Ret W (.int .i64 0)) := fun W => by
    have h := check2_any (R x) W (by have := hbx.R_len (by decide); omega)
    rw [hbx.chk (by decide)] at h
    exact h
  have HCK := Lib.hid hck
  have hmm := fun vm W (hW : Below w.heap.size w W) (hv : RdG W vm (ts.map (tolT k))) => rcheck46 vm vc (ts.map (tolT k)) cs W hv (hc.below hW) (by simpa using nt) nc
  have hcz : (((chk46 (ts.map (tolT k)) cs : Nat) : Int) == 0) = false := by rw [beq_eq_false_iff_ne]; omega
  have HM := Lib.hid hmm
  have HOC : Hid (∀ v1 v2 W, Below w.heap.size w W → RdG W v1 (ts.take 1) → RdC W v2 (cs.take 1) → Calls Tryz.prog 22 #[v1, v2] W (Ret W (.tuple #[.string (bs (R o)), .agg #[.string (bs (R o0)), .string (bs (R o1)), .string (bs (R o2))], .int .i64 0]))) := Lib.hid (fun v1 v2 W (hW : Below w.heap.size w W) (h1 : RdG W v1 (ts.take 1)) (h2 : RdC W v2 (cs.take 1)) => hO v1 v2 W (hg.of hW) (hs.below hW) h1 h2)
  have hzc : zoneC ts[0] cs[0] = 0 ∧ zoneN ts[0] cs[0] = wide ts[0] cs[0] := zone_ok (both_ok2 hrt0.1 hrt0.2.1) (wth_ok2 hrt0.2.2)
  have hz := fun W (hW : Below w.heap.size w W) => pzone ts[0] cs[0] W (hs.below hW)
  rw [hzc.1, hzc.2] at hz
  have HZ : Hid (∀ W, Below w.heap.size w W → Calls Tryz.prog 12 #[tgV ts[0], ccV cs[0]] W (Ret W (.tuple #[.int .i64 (wide ts[0] cs[0]), .int .i64 0]))) := Lib.hid hz
  have hwo := fun W => whole_R (-(wide ts[0] cs[0])) W (by omega) (by omega)
  rw [← ho] at hwo
  have HWO := Lib.hid hwo
  have hnw : wrap64 (-(wide ts[0] cs[0])) = -(wide ts[0] cs[0]) := by unfold wrap64; omega
  have HTOL := Lib.hid (fun i (hi : i < ts.length) => (show 0 ≤ ts[i].tol ∧ ts[i].tol ≤ 100000 from (hrt _ (zip_mem i hi (by omega))).1.tol))
  have HLC := Lib.hid (show cs.length = ts.length from hlen)
  obtain ⟨At, ct, rfl, hcap1⟩ := hct
  obtain ⟨Ac, cc, rfl, hcap2⟩ := hcc
  have HT := Lib.hid ht
  have HC := Lib.hid hc
  obtain ⟨bt, ot, rfl, hst⟩ := ht.row 0 hl0
  obtain ⟨bc, oc, rfl, hsc⟩ := hc.row 0 hl1
  have HST := Lib.hid hst
  have HSC := Lib.hid hsc
  have HT0 := Lib.hid (fun W (hW : Below w.heap.size w W) => (show W.cell? ⟨bt, ot, none⟩ = some (.int .i64 ts[0].x) ∧ W.cell? ⟨bt, ot + 1, none⟩ = some (.int .i64 ts[0].y) ∧ W.cell? ⟨bt, ot + 2, none⟩ = some (.int .i64 ts[0].lo) ∧ W.cell? ⟨bt, ot + 3, none⟩ = some (.int .i64 ts[0].hi) ∧ W.cell? ⟨bt, ot + 4, none⟩ = some (.int .i64 ts[0].tol) ∧ W.cell? ⟨bt, ot + 5, none⟩ = some (.int .i64 ts[0].mat) ∧ W.cell? ⟨bt, ot + 6, none⟩ = some (.bool ts[0].pin) from (hst.below' hW).val 0 hl0))
  have HC0 := Lib.hid (fun W (hW : Below w.heap.size w W) => (show W.cell? ⟨bc, oc, none⟩ = some (.int .i64 cs[0].x) ∧ W.cell? ⟨bc, oc + 1, none⟩ = some (.int .i64 cs[0].y) ∧ W.cell? ⟨bc, oc + 2, none⟩ = some (.int .i64 cs[0].d) from (hsc.below' hW).val 0 hl1))
  clear hg hs ht hc nt nc h hr hck hmm hz hwo hst hsc hrt hexc hoexc hbq hE hO ho hzc hwd hrt0 h16 hlen hm
  generalize hwz : wide ts[0] cs[0] = wd at *
  clear hwz
  generalize ts[0] = t0 at *
  generalize cs[0] = c0v at *
  go_enter Tryz.func6, Tryz.ntmps6
  go_wp2_with fail
  refine (HR.out).mono ?_
  rintro e w1 ⟨rfl, hb1⟩
  clear HR
  go_wp2_with fail
  refine (HCL.out _ hb1).mono ?_
  rintro e w2 ⟨g, cap, rfl, hgB, ho2, hb2⟩
  have H2 := Lib.hid (And.intro (bel_to hb1 hb2) (show OwnG w2 w1.heap.size (.slice (some ⟨g, 0, none⟩) ts.length cap) (mixL (tolT k) 0 ts) by rw [mixL_zero]; exact ho2))
  have hgw : w.heap.size ≤ g := Nat.le_trans hb1.size hgB
  have hsz1 := hb1.size
  clear hb1 hb2 ho2 HCL
  go_wp2_with fail
  go_loopw [31] (fun iv wr => ∃ i : Nat, iv = .int .i64 (i : Int) ∧ i ≤ ts.length ∧ Hid (Below w.heap.size w wr ∧ OwnG wr w1.heap.size (.slice (some ⟨g, 0, none⟩) ts.length cap) (mixL (tolT k) i ts))) (fun iv _ => ts.length - (intOf iv).toNat)
  case atStart => exact ⟨0, rfl, by omega, H2⟩
  case round =>
    clear H2
    obtain ⟨i, rfl, hi, hin⟩ := hrel
    by_cases hlt : i < ts.length
    · have hlm := mixL_len (tolT k) i ts hi
      have hin2 := hin.out.2
      rw [← hlm] at hin2
      have him : i < (mixL (tolT k) i ts).length := by omega
      have hcell := hin2.cells _ _ (csG_get _ i him).2.2.2.2.1
      rw [mixL_get (tolT k) i ts hlt] at hcell
      have hfz := World.ownsRow.frozenAt hin2 (i * 7 + 4)
      have htol := HTOL.out i hlt
      have hst2 := hin2.setTol i him (ts[i].tol + k)
      rw [mixL_get (tolT k) i ts hlt] at hst2
      rw [show ({ ts[i] with tol := ts[i].tol + k } : Tg) = tolT k ts[i] from rfl, mixL_set (tolT k) i ts hlt, hlm] at hst2
      have HN := Lib.hid (show Below w.heap.size w (wr.setCell ⟨g, i * 7 + 4, none⟩ (.int .i64 (ts[i].tol + k))) ∧ OwnG (wr.setCell ⟨g, i * 7 + 4, none⟩ (.int .i64 (ts[i].tol + k))) w1.heap.size (.slice (some ⟨g, 0, none⟩) ts.length cap) (mixL (tolT k) (i + 1) ts) from ⟨Below.setCell (p := ⟨g, i * 7 + 4, none⟩) hin.out.1 hgw _, hst2⟩)
      have hwr : wrap64 (ts[i].tol + k) = ts[i].tol + k := by unfold wrap64; omega
      have hi0 : (0 : Int) ≤ (i : Int) := by omega
      have hi1 : (i : Int) < (ts.length : Int) := by omega
      clear hin hin2 hlm him hst2 htol
      generalize ts[i].tol = tl at *
      go_wp2
      go_roundw
      case rel => exact ⟨i + 1, by go_num, by omega, HN⟩
      case measure => simp [intOf]; omega
    · obtain rfl : i = ts.length := by omega
      have hin2 := hin.out.2
      rw [mixL_all] at hin2
      have hrm := hin2.below (Below.refl _ _)
      have HRM := Lib.hid (And.intro hin.out.1 (show RdG wr (.slice (some ⟨g, 0, none⟩) ts.length cap) (ts.map (tolT k)) from OwnG.rd hin2))
      clear hin hin2 hrm hlt
      go_wp2_with fail
      refine (HE.out _ HRM.out.1).mono ?_
      rintro e w3 ⟨rfl, hb3⟩
      have hb3a := bel_to hb3 (bel_al w3 (.cells #[.string (bs (R d0)), .string (bs (R d1)), .string (bs (R d2))] 41 (0, 0)))
      have H3 := Lib.hid (And.intro (bel_to HRM.out.1 hb3a) (HRM.out.2.below hb3a))
      clear hb3 hb3a HRM HE
      go_wp2_with fail
      refine (HCK.out _).mono ?_
      rintro e w4 ⟨rfl, hb4⟩
      have H4 := Lib.hid (And.intro (bel_to H3.out.1 hb4) (H3.out.2.below hb4))
      clear hb4 H3 HCK
      go_wp2_with fail
      refine (HM.out _ _ H4.out.1 H4.out.2).mono ?_
      rintro e w5 ⟨rfl, hb5⟩
      have H5 := Lib.hid (And.intro (bel_to H4.out.1 hb5) (H4.out.2.below hb5))
      clear hb5 H4 HM
      have H8 := Lib.hid H5.out.1
      obtain ⟨w8, hw8⟩ : ∃ z, z = w5 := ⟨_, rfl⟩
      subst hw8
      clear H5
      go_wp2
      have i1 : (1 : Int) ≤ (ct : Int) := by omega
      have i2 : (1 : Int) ≤ (cc : Int) := by omega
      have HF1 := Lib.hid (fun E (hE : Below w8.heap.size w8 E) => And.intro (bel_to H8.out hE) (And.intro (RdG.front (cap := ct) (n := 1) (HST.out.below' (bel_to H8.out hE)) (by rw [List.length_take]; omega)) (RdC.front (cap := cc) (n := 1) (HSC.out.below' (bel_to H8.out hE)) (by rw [List.length_take]; omega))))
      have X1 := Lib.hid (RowKit.Below.drew (Below.refl w8.heap.size w8))
      have X2 := Lib.hid (RowKit.Below.drew (bel_al w8 (.cells #[.string ⟨#[]⟩, .string ⟨#[]⟩, .string ⟨#[]⟩] 41 (0, 0))))
      go_region_held3 (fun _ => True) (trivial) (first | (go_at_call 22; first | (refine (HOC.out _ _ _ (HF1.out _ X1.out).1 (HF1.out _ X1.out).2.1 (HF1.out _ X1.out).2.2).mono ?_; rintro e w9 ⟨rfl, hb9⟩; have hrw : Row (w9.alloc (.cells #[.string ⟨#[]⟩, .string ⟨#[]⟩, .string ⟨#[]⟩] 41 (0, 0))) w9.heap.size 41 [.string ⟨#[]⟩, .string ⟨#[]⟩, .string ⟨#[]⟩] := rnw; have f0 := hrw.free 0; have f1 := (hrw.set 0 (.string (bs (R o0)))).free 1; have f2 := ((hrw.set 0 (.string (bs (R o0)))).set 1 (.string (bs (R o1)))).free 2; have c0 := hrw.cell (i := 0) rfl; have c1 := (hrw.set 0 (.string (bs (R o0)))).cell (i := 1) rfl; have c2 := ((hrw.set 0 (.string (bs (R o0)))).set 1 (.string (bs (R o1)))).cell (i := 2) rfl) | (refine (HOC.out _ _ _ (HF1.out _ X2.out).1 (HF1.out _ X2.out).2.1 (HF1.out _ X2.out).2.2).mono ?_; rintro e w9 ⟨rfl, hb9⟩; have hrw := (show Row ((w8.alloc (.cells #[.string ⟨#[]⟩, .string ⟨#[]⟩, .string ⟨#[]⟩] 41 (0, 0))).drew) w8.heap.size 41 [.string ⟨#[]⟩, .string ⟨#[]⟩, .string ⟨#[]⟩] from rnw).below' hb9; have f0 := hrw.free 0; have f1 := (hrw.set 0 (.string (bs (R o0)))).free 1; have f2 := ((hrw.set 0 (.string (bs (R o0)))).set 1 (.string (bs (R o1)))).free 2; have c0 := hrw.cell (i := 0) rfl; have c1 := (hrw.set 0 (.string (bs (R o0)))).cell (i := 1) rfl; have c2 := ((hrw.set 0 (.string (bs (R o0)))).set 1 (.string (bs (R o1)))).cell (i := 2) rfl; have HQ := Lib.hid (ar_store (.string (bs (R o0))) (.string (bs (R o1))) (.string (bs (R o2))) hrw H8.out.size (HF1.out _ (bel_to X2.out hb9)).1))))
      all_goals first
        | (refine genw (fun W => Below w.heap.size w W) HQ.out.2 ?_)
        | (refine genw (fun W => Below w.heap.size w W) (bel_to (HF1.out _ X1.out).1 (bel_to hb9 (bel_al w9 (.cells #[.string (bs (R o0)), .string (bs (R o1)), .string (bs (R o2))] 41 (0, 0))))) ?_)
      all_goals
        intro W9 hbw9
        have HB9 := Lib.hid hbw9
        clear hbw9 hb9 X1 X2 HF1 HOC H8 i1 i2
        (try clear hrw f0 f1 f2 c0 c1 c2)
        (try clear HQ)
        obtain ⟨g0, g1, g2, g3, g4, g5, g6⟩ := HT0.out W9 HB9.out
        obtain ⟨j0, j1, j2⟩ := HC0.out W9 HB9.out
        have m0 := cell_regrown g0
        have m1 := cell_regrown g1
        have m2 := cell_regrown g2
        have m3 := cell_regrown g3
        have m4 := cell_regrown g4
        have m5 := cell_regrown g5
        have m6 := cell_regrown g6
        have m7 := cell_regrown j0
        have m8 := cell_regrown j1
        have m9 := cell_regrown j2
        have e1 : ∀ args w, (callFunc 12 args).run Tryz.prog w = .ok (.enter 12 args) w := enters_of Tryz.func12 (by kernel_rfl) rfl
        have k1 := reg_of (w := W9) (fun W hW => HZ.out W (bel_to HB9.out hW))
        clear g0 g1 g2 g3 g4 g5 g6 j0 j1 j2
        go_wp2_with fail
        refine wp_region_quiet_below (by kernel_rfl) (by kernel_rfl) ?_
        repeat (go_big_quiet_step (fail))
        go_big_quiet_step (exact k1 _ _)
        repeat (go_big_quiet_step (fail))
        refine wpQuiet_nil ?_
        intro W6 hw'
        have hb6 : Below W9.heap.size W9 W6 := by obtain ⟨p, e⟩ := hw'; rw [e]; exact below_regrown W9 p.d p.os
        clear hw'
        have HB10 := Lib.hid (bel_to HB9.out hb6)
        clear m0 m1 m2 m3 m4 m5 m6 m7 m8 m9 e1 k1 hb6 HB9 HZ
        go_wp2_with fail
        refine (HWO.out _).mono ?_
        rintro e w11 ⟨rfl, hb11⟩
        have HB11 := Lib.hid (bel_to HB10.out hb11)
        clear hb11 HB10 HWO
        have hone : ((ts.length : Int) == 1) = true := by rw [beq_iff_eq]; omega
        go_wp2_with fail
        refine (HA.out _ HB11.out).mono ?_
        rintro e w12 ⟨rfl, hb12⟩
        have HB12 := Lib.hid (bel_to HB11.out hb12)
        clear hb12 HB11 HA
        go_wp2
        go_ret
        exact ⟨rfl, HB12.out⟩
theorem grows_law (vt vc : Value) (ts : List Tg) (cs : List Cc) (k : Int) (w : World) (hg : Glob w) (hs : Sig w) (ht : RdG w vt ts) (hc : RdC w vc cs) (nt : ts.length ≤ maxLen) (nc : cs.length ≤ maxLen) (hct : ∃ A cap, vt = .slice A ts.length cap ∧ ts.length ≤ cap) (hcc : ∃ A cap, vc = .slice A cs.length cap ∧ cs.length ≤ cap)
    (hk0 : 0 ≤ k) (hk1 : k ≤ 255) : Calls Tryz.prog 6 #[vt, vc, .int .u8 k] w (Ret w (.bool true)) := by
  by_cases hr : (decide (ts.length ≤ 5) && decide (chk46 ts cs = 0)) = true
  · rw [Bool.and_eq_true, decide_eq_true_eq, decide_eq_true_eq] at hr
    obtain ⟨h5, h⟩ := hr
    have h1 := (chk46_iff.1 h).1
    by_cases hm : chk46 (ts.map (tolT k)) cs = 0 <;> by_cases h2 : 2 ≤ ts.length
    · exact grows_11 vt vc ts cs k w hg hs ht hc nt nc hct hcc h h5 hk0 hk1 hm h2
    · exact grows_10 vt vc ts cs k w hg hs ht hc nt nc hct hcc h h5 hk0 hk1 hm (by omega)
    · exact grows_01 vt vc ts cs k w hg hs ht hc nt nc hct hcc h h5 hk0 hk1 hm h2
    · exact grows_00 vt vc ts cs k w hg hs ht hc nt nc hct hcc h h5 hk0 hk1 hm (by omega)
  · exact grows_not vt vc ts cs k w hg hs ht hc nt nc (by simpa using hr)
end W
end Go.Proofs.YtfcffheboncmbaaGreatDoor
end
