/-
  Chapter 46, the reference: 'Keeps'.
  Chapter 46, the reference: 'first', 'Accepts' and 'Refuses' for proofs that hold.
  Chapter 46: PatternExcess.
  Chapter 46: PatternAgrees.
  Chapter 46: PatternFits. (Printed by wip/fitslaw.py.)
-/
import Derived.Test.YtnaikafamjebdaaGreatDoorKFX
import Derived.Test.YtnaikafamjebdaaGreatDoorKFY
section
namespace Go.Proofs.YtnaikafamjebdaaGreatDoor
open Go Go.RowKit Go.Deep
namespace M
def keepB (l : List BQ) (p : List Rat) (x : Rat) : Bool := l.all fun b => decide (dotP b.1 p 3 ≤ b.2 + x / 2)
def keepN (l : List BQ) (p : List Rat) (x : Rat) (i : Nat) : Bool := (l.take i).all fun b => decide (dotP b.1 p 3 ≤ b.2 + x / 2)
theorem keepN_zero (l : List BQ) (p : List Rat) (x : Rat) : keepN l p x 0 = true := by simp [keepN]
theorem keepN_all (l : List BQ) (p : List Rat) (x : Rat) : keepN l p x l.length = keepB l p x := by simp [keepN, keepB]
theorem keepN_succ (l : List BQ) (p : List Rat) (x : Rat) (i : Nat) (h : i < l.length) : keepN l p x (i + 1) = (keepN l p x i && decide (dotP l[i].1 p 3 ≤ l[i].2 + x / 2)) := by
  unfold keepN
  rw [List.take_add_one, List.getElem?_eq_getElem h, List.all_append]
  simp
theorem keepN_no {l : List BQ} {p : List Rat} {x : Rat} {i : Nat} (h : i < l.length) (hn : ¬ dotP l[i].1 p 3 ≤ l[i].2 + x / 2) : keepB l p x = false := by
  unfold keepB
  rw [List.all_eq_false]
  exact ⟨l[i], List.getElem_mem h, by simp [hn]⟩
end M
namespace W
open M
attribute [local go_sem] bs_size bs_toList bs_get bs_extract bs_append bs_lit0 bs_lit1 lit1_bs
set_option maxHeartbeats 2000000
set_option maxRecDepth 20000
theorem rkeeps46 (vt vc : Value) (ts : List Tg) (cs : List Cc) (px py pz x : Rat) (w : World) (ht : RdG w vt ts) (hc : RdC w vc cs) (h : chk46 ts cs = 0) (hp : ∀ q ∈ [px, py, pz], Bq 45 q) (hx : Bq 45 x) :
    Calls Tryz.prog 38 #[vt, vc, .agg #[.string (bs (R px)), .string (bs (R py)), .string (bs (R pz))], .string (bs (R x))] w (Ret w (.bool (keepB (bnds (ts.zip cs)) [px, py, pz] x))) := by
  have hrt := (chk46_iff.1 h).2.2.2
  have hrp := (Sx.bnds_rightP hrt).right
  have hb0 := bel_al w (.cells #[.string (bs (R px)), .string (bs (R py)), .string (bs (R pz))] 27 (0, 0))
  have hr0 : Row (w.alloc (.cells #[.string (bs (R px)), .string (bs (R py)), .string (bs (R pz))] 27 (0, 0))) w.heap.size 27 [.string (bs (R px)), .string (bs (R py)), .string (bs (R pz))] := rnw
  have HR0 := Lib.hid (And.intro hb0 hr0)
  have HAL := Lib.hid (rall46 vt vc ts cs _ (ht.below hb0) (hc.below hb0) h)
  have hby := fun W => rby x 2 W (hx.sh (by decide) (by decide)) ((show Bq 8 (2 : Rat) from by decide +kernel).sh (by decide) (by decide)) (by decide +kernel)
  rw [R_texts.2.2.1] at hby
  have HBY := Lib.hid hby
  have hx2 : Bq 53 (x / 2) := (Bq.div (j := 45) (k := 8) hx (show Bq 8 (2 : Rat) from by decide +kernel) (by decide +kernel))
  have HPL := Lib.hid (fun i (hi : i < (bnds (ts.zip cs)).length) W => plus_R ((bnds (ts.zip cs))[i]).2 (x / 2) W (((hrp _ (List.getElem_mem hi)).2.2).sh (by decide) (by decide)) (hx2.sh (by decide) (by decide)))
  have HDT : Hid (∀ i (hi : i < (bnds (ts.zip cs)).length) (va vb : Value) W, RdT W va (rx ((bnds (ts.zip cs))[i]).1) → RdT W vb (rx [px, py, pz]) → Calls Tryz.prog 71 #[va, vb] W (Ret W (.string (bs (R (dotP ((bnds (ts.zip cs))[i]).1 [px, py, pz] 3)))))) := Lib.hid (fun i hi va vb W h1 h2 => by
    have hl := (hrp _ (List.getElem_mem hi)).1
    have := rdot va vb ((bnds (ts.zip cs))[i]).1 [px, py, pz] 45 W h1 h2 (by simp [hl]) (by rw [hl]; decide) (fun y hy => ((hrp _ (List.getElem_mem hi)).2.1 y hy).mono (by decide)) hp (by decide) (by decide)
    rwa [hl] at this)
  have HOR : Hid (∀ i (hi : i < (bnds (ts.zip cs)).length) W, Calls Tryz.prog 67 #[.string (bs (R (dotP ((bnds (ts.zip cs))[i]).1 [px, py, pz] 3))), .string (bs (R (((bnds (ts.zip cs))[i]).2 + x / 2)))] W (Ret W (.int .i64 (cmpQ (dotP ((bnds (ts.zip cs))[i]).1 [px, py, pz] 3) (((bnds (ts.zip cs))[i]).2 + x / 2))))) := Lib.hid (fun i hi W => by
    have hl := (hrp _ (List.getElem_mem hi)).1
    exact order_R _ _ W ((dotP_bq (e := 8) (e2 := 45) (hrp _ (List.getElem_mem hi)).2.1 hp 3 (by omega) (by simp)).sh (by decide) (by decide)) ((Bq.add (hrp _ (List.getElem_mem hi)).2.2 hx2).sh (by decide) (by decide)))
  have HLEN := Lib.hid (show (bnds (ts.zip cs)).length ≤ 100 by rw [bnds_len, List.length_zip]; have := (chk46_iff.1 h).2.1; omega)
  obtain ⟨At, ct, rfl⟩ := ht.len
  obtain ⟨Ac, cc, rfl⟩ := hc.len
  clear ht hc h hrt hrp hb0 hr0 hby hx hx2 hp
  generalize bnds (ts.zip cs) = bl at *
  go_enter Tryz.func38, Tryz.ntmps38
  go_wp2_with fail
  refine HAL.out.mono ?_
  rintro e w1 ⟨v, es, rfl, hs, hm⟩
  have hrd : RdB w1 v (bx bl) := by rw [← hm]; exact OwnE.rd hs.own hs.good.good
  have HR1 := Lib.hid (And.intro (bel_to HR0.out.1 hs.bel) (HR0.out.2.below' hs.bel))
  obtain ⟨A, c, rfl⟩ := hrd.len
  have HRD := Lib.hid hrd
  clear hs hm hrd HAL HR0
  rw [bx_len] at HRD
  rw [bx_len]
  have hlen := HLEN.out
  go_wp2_with fail
  go_loopw [10] (fun iv wr => ∃ i : Nat, iv = .int .i64 (i : Int) ∧ i ≤ bl.length ∧ Hid (keepN bl [px, py, pz] x i = true) ∧ Hid (Below w1.heap.size w1 wr)) (fun iv _ => bl.length - (intOf iv).toNat)
  case atStart => exact ⟨0, rfl, by omega, Lib.hid (keepN_zero _ _ _), Lib.hid (Below.refl _ _)⟩
  case round =>
    obtain ⟨i, rfl, hi, hk, hb⟩ := hrel
    by_cases hlt : i < bl.length
    · have hltb : i < (bx bl).length := by rw [bx_len]; exact hlt
      obtain ⟨b1, o1, rfl, hw⟩ := HRD.out.row i hltb
      have hrow := fun W (hW : Below wr.heap.size wr W) => (hw.below' (bel_to hb.out hW)).row i hltb
      obtain ⟨vr, c0, hvr, hsr⟩ := (hw.below' hb.out).row i hltb
      have c1 := (hw.below' hb.out).most i hltb
      rw [bx_get bl i hlt] at hvr c1
      simp only at hvr c1
      have HVR := Lib.hid hvr
      have HAT := Lib.hid (fun W (hW : Below wr.heap.size wr W) => (show RdT W (.slice (some ⟨w.heap.size, 0, none⟩) 3 3) (rx [px, py, pz]) from rdt_any (l := rx [px, py, pz]) (HR1.out.2.below' (bel_to hb.out hW))))
      obtain ⟨Ar, cr, rfl⟩ := hvr.len
      have HPI := Lib.hid (HPL.out i hlt)
      have HDI := Lib.hid (HDT.out i hlt)
      have HOI := Lib.hid (HOR.out i hlt)
      have HKS := Lib.hid (keepN_succ bl [px, py, pz] x i hlt)
      have HKN := Lib.hid (fun hn => keepN_no (p := [px, py, pz]) (x := x) hlt hn)
      have hi0 : (0 : Int) ≤ (i : Int) := by omega
      have hi1 : (i : Int) < (bl.length : Int) := by omega
      have hcz : (0 < cmpQ (dotP bl[i].1 [px, py, pz] 3) (bl[i].2 + x / 2)) ↔ ¬ dotP bl[i].1 [px, py, pz] 3 ≤ bl[i].2 + x / 2 := by rw [cmpQ_gt, Rat.not_le]
      have HCZ := Lib.hid hcz
      clear hvr hw hrow hcz
      generalize hrr : bl[i].1 = rr at *
      generalize hmm : bl[i].2 = mm at *
      generalize dotP rr [px, py, pz] 3 = dd at *
      generalize mm + x / 2 = ms at *
      have m0 := cell_regrown c1
      have e1 : ∀ args w, (callFunc 34 args).run Tryz.prog w = .ok (.enter 34 args) w := enters_of Tryz.func34 (by kernel_rfl) rfl
      have e2 : ∀ args w, (callFunc 70 args).run Tryz.prog w = .ok (.enter 70 args) w := enters_of Tryz.func70 (by kernel_rfl) rfl
      have k1 := reg_of (w := wr) (fun W _ => HBY.out W)
      have k2 := reg_of (w := wr) (fun W _ => HPI.out W)
      clear c1
      go_wp2_with fail
      refine wp_region_quiet_below (by kernel_rfl) (by kernel_rfl) ?_
      repeat (go_big_quiet_step (fail))
      go_big_quiet_step (exact k1 _ _)
      repeat (go_big_quiet_step (fail))
      go_big_quiet_step (exact k2 _ _)
      repeat (go_big_quiet_step (fail))
      refine wpQuiet_nil ?_
      intro W6 hw'
      have hb6 : Below wr.heap.size wr W6 := by obtain ⟨p, e⟩ := hw'; rw [e]; exact below_regrown wr p.d p.os
      clear hw'
      have HB6 := Lib.hid hb6
      have c0' := (hb6.cell (block_lt_of_cell c0)).trans c0
      clear m0 e1 e2 k1 k2 hb6 c0
      have m0 := cell_regrown c0'
      have e1 : ∀ args w, (callFunc 71 args).run Tryz.prog w = .ok (.enter 71 args) w := enters_of Tryz.func71 (by kernel_rfl) rfl
      have e2 : ∀ args w, (callFunc 67 args).run Tryz.prog w = .ok (.enter 67 args) w := enters_of Tryz.func67 (by kernel_rfl) rfl
      have k1 := reg_of (w := W6) (fun W hW => HDI.out _ _ W (HVR.out.below (bel_to HB6.out hW)) (HAT.out W (bel_to HB6.out hW)))
      have k2 := reg_of (w := W6) (fun W _ => HOI.out W)
      have HB7 := Lib.hid (bel_to hb.out HB6.out)
      clear c0' hb HB6 HVR HAT
      generalize hW7 : W6 = W7 at *
      clear hW7
      go_wp2_with fail
      refine wp_region_quiet_below (by kernel_rfl) (by kernel_rfl) ?_
      repeat (go_big_quiet_step (fail))
      go_big_quiet_step (exact k1 _ _)
      repeat (go_big_quiet_step (fail))
      go_big_quiet_step (exact k2 _ _)
      repeat (go_big_quiet_step (fail))
      refine wpQuiet_nil ?_
      intro W6 hw'
      have hb6 : Below W7.heap.size W7 W6 := by obtain ⟨p, e⟩ := hw'; rw [e]; exact below_regrown W7 p.d p.os
      clear hw'
      have HB8 := Lib.hid (bel_to HB7.out hb6)
      clear m0 e1 e2 k1 k2 hb6 HB7
      by_cases hd : dd ≤ ms
      · have hcn : ¬ 0 < cmpQ dd ms := fun e => HCZ.out.1 e hd
        have HN := Lib.hid (show keepN bl [px, py, pz] x (i + 1) = true by rw [HKS.out, hk.out, decide_eq_true hd]; rfl)
        generalize cmpQ dd ms = cz at *
        clear hd hk HCZ HKN HKS
        go_wp2
        go_roundw
        case rel => exact ⟨i + 1, by go_num, by omega, HN, HB8⟩
        case measure => simp [intOf]; omega
      · have hcn : 0 < cmpQ dd ms := HCZ.out.2 hd
        have HN := Lib.hid (HKN.out hd)
        generalize cmpQ dd ms = cz at *
        clear hd hk HCZ HKN HKS
        go_wp2
        go_ret
        exact Ret.of (by rw [HN.out]; rfl) (bel_to HR1.out.1 HB8.out)
    · obtain rfl : i = bl.length := by omega
      have hk2 := hk.out
      rw [keepN_all] at hk2
      have HK := Lib.hid hk2
      clear hk hk2
      go_wp2
      go_ret
      exact Ret.of (by rw [HK.out]; rfl) (bel_to HR1.out.1 hb.out)
end W
end Go.Proofs.YtnaikafamjebdaaGreatDoor
end
section
namespace Go.Proofs.YtnaikafamjebdaaGreatDoor
open Go Go.RowKit Go.Deep
namespace M
theorem keep_fz {pl : Pl} {x y z : Rat} (h : Sx.Fz pl x y z 0) : keepB (bnds pl) [x, y, z] 0 = true := by
  unfold keepB
  rw [List.all_eq_true]
  intro b hb
  have hk := Sx.keeps3_iff.2 h
  have h1 := hk.2 b hb
  rw [decide_eq_true_eq]
  grind
end M
namespace W
open M
attribute [local go_sem] bs_size bs_toList bs_get bs_extract bs_append bs_lit0 bs_lit1 lit1_bs
set_option maxHeartbeats 2000000
set_option maxRecDepth 20000
theorem rfirst46 (va : Value) (l : List (List UInt8)) (w : World) (ha : RdT w va l) (hl : ∀ p ∈ l, p.length ≤ 90000) (hn : l.length ≤ 1000000) :
    Calls Tryz.prog 37 #[va] w (Ret w (.int .i64 ((chkRs l : Nat) : Int))) := by
  obtain ⟨A, cap, rfl⟩ := ha.len
  have HW := Lib.hid ha
  have HC := Lib.hid (fun i (hi : i < l.length) W => check2_any l[i] W (hl _ (List.getElem_mem hi)))
  generalize hch : ((chkRs l : Nat) : Int) = ch
  have HCH := Lib.hid hch
  clear ha hl hch
  go_enter Tryz.func37, Tryz.ntmps37
  go_wp2
  go_loopw [3] (fun iv wr => ∃ i : Nat, iv = .int .i64 (i : Int) ∧ i ≤ l.length ∧ Hid (chkRs l = chkRs (l.drop i)) ∧ Below w.heap.size w wr) (fun iv _ => l.length - (intOf iv).toNat)
  case atStart => exact ⟨0, rfl, by omega, (rfl : chkRs l = chkRs (l.drop 0)), Below.refl _ _⟩
  case round =>
    obtain ⟨i, rfl, hi, hk, hbw⟩ := hrel
    by_cases hlt : i < l.length
    · obtain ⟨b1, o1, rfl, hw⟩ := HW.out.row i hlt
      have cv := (hw.below' hbw).val i hlt
      have hk2 := hk.out
      rw [chkRs_drop l i hlt] at hk2
      have HP := Lib.hid (HC.out i hlt)
      clear hk hw
      generalize l[i] = x at *
      by_cases hc : chkR x = 0
      · rw [if_pos hc] at hk2
        rw [hc] at HP
        have HK := Lib.hid hk2
        clear hk2 hc
        go_wp2_with fail
        refine (HP.out _).mono ?_
        rintro e w1 ⟨rfl, hb1⟩
        have hb1' := hbw.trans (hb1.mono hbw.size)
        go_wp2
        go_roundw
        case rel => exact ⟨i + 1, by go_num, by omega, HK, hb1'⟩
        case measure => simp [intOf]; omega
      · rw [if_neg hc] at hk2
        have hz : (((chkR x : Nat) : Int) != 0) = true := by simp; exact hc
        have HK := Lib.hid hk2
        clear hk2 hc
        generalize hcc : ((chkR x : Nat) : Int) = c at *
        have HCC := Lib.hid hcc
        clear hcc
        go_wp2_with fail
        refine (HP.out _).mono ?_
        rintro e w1 ⟨rfl, hb1⟩
        have hb1' := hbw.trans (hb1.mono hbw.size)
        go_wp2
        go_ret
        exact Ret.of (by rw [← HCH.out, HK.out, HCC.out]; rfl) hb1'
    · obtain rfl : i = l.length := by omega
      have hk2 := hk.out
      rw [List.drop_length] at hk2
      have HK := Lib.hid hk2
      clear hk2 hk
      go_wp2
      go_ret
      exact Ret.of (by rw [← HCH.out, HK.out]; rfl) hbw
theorem raccepts_fz (vt vc : Value) (ts : List Tg) (cs : List Cc) (x y z : Rat) (w : World) (ht : RdG w vt ts) (hc : RdC w vc cs) (h : chk46 ts cs = 0) (hq : ∀ q ∈ [x, y, z], Bq 30 q) (hf : Sx.Fz (ts.zip cs) x y z 0) :
    Calls Tryz.prog 12 #[vt, vc, .agg #[.string (bs (R x)), .string (bs (R y)), .string (bs (R z))]] w (Ret w (.tuple #[.bool true, .int .i64 0])) := by
  obtain ⟨_, h16, hlen, _⟩ := chk46_iff.1 h
  have hb0 := bel_al w (.cells #[.string (bs (R x)), .string (bs (R y)), .string (bs (R z))] 27 (0, 0))
  have hr0 : Row (w.alloc (.cells #[.string (bs (R x)), .string (bs (R y)), .string (bs (R z))] 27 (0, 0))) w.heap.size 27 [.string (bs (R x)), .string (bs (R y)), .string (bs (R z))] := rnw
  have HR0 := Lib.hid (And.intro hb0 hr0)
  have hck := fun W (hW : Below w.heap.size w W) => rcheck46 vt vc ts cs W (ht.below hW) (hc.below hW) (by unfold maxLen; omega) (by unfold maxLen; omega)
  rw [h] at hck
  have HC : Hid (∀ W, Below w.heap.size w W → Calls Tryz.prog 9 #[vt, vc] W (Ret W (.int .i64 0))) := Lib.hid hck
  have HFI : Hid (∀ v W, RdT W v (rx [x, y, z]) → Calls Tryz.prog 37 #[v] W (Ret W (.int .i64 0))) := Lib.hid (fun v W hv => by
    have h1 := rfirst46 v (rx [x, y, z]) W hv (rx_small30 hq) (by simp [rx])
    rw [chk_rx30 hq] at h1
    exact h1)
  have hkp := fun W (hW : Below w.heap.size w W) => rkeeps46 vt vc ts cs x y z 0 W (ht.below hW) (hc.below hW) h (fun q hq2 => (hq q hq2).mono (by decide)) (Bq_nil.mono (by decide))
  rw [keep_fz hf, R_nil] at hkp
  have HKP := Lib.hid hkp
  obtain ⟨At, ct, rfl⟩ := ht.len
  obtain ⟨Ac, cc, rfl⟩ := hc.len
  clear ht hc h hq hf hb0 hr0 hck hkp h16 hlen
  go_enter Tryz.func12, Tryz.ntmps12
  go_wp2_with fail
  refine (HC.out _ HR0.out.1).mono ?_
  rintro e w1 ⟨rfl, hb1⟩
  have H1 := Lib.hid (And.intro (bel_to HR0.out.1 hb1) (HR0.out.2.below' hb1))
  clear hb1 HR0 HC
  go_wp2_with fail
  refine (HFI.out _ _ (rdt_any (l := rx [x, y, z]) H1.out.2)).mono ?_
  rintro e w2 ⟨rfl, hb2⟩
  have H2 := Lib.hid (And.intro (bel_to H1.out.1 hb2) (H1.out.2.below' hb2))
  clear hb2 H1 HFI
  have q0 := H2.out.2.cell (i := 0) rfl
  have q1 := H2.out.2.cell (i := 1) rfl
  have q2 := H2.out.2.cell (i := 2) rfl
  go_wp2_with fail
  refine (HKP.out _ H2.out.1).mono ?_
  rintro e w3 ⟨rfl, hb3⟩
  have HB3 := Lib.hid (bel_to H2.out.1 hb3)
  clear hb3 q0 q1 q2 H2 HKP
  go_wp2
  go_ret2
  exact ⟨rfl, HB3.out⟩
theorem rrefuses_contra (vt vc vp : Value) (ts : List Tg) (cs : List Cc) (q : List Rat) (w : World) (ht : RdG w vt ts) (hc : RdC w vc cs) (h : chk46 ts cs = 0) (h5 : ts.length ≤ 5) (hq : ∀ x ∈ q, Bq 30 x) (hf : Sx.Contra 3 (bnds (ts.zip cs)) q) (hp : RdT w vp (rx q)) :
    Calls Tryz.prog 13 #[vt, vc, vp] w (Ret w (.tuple #[.bool true, .int .i64 0])) := by
  obtain ⟨_, h16, hlen, _⟩ := chk46_iff.1 h
  obtain ⟨h1, h2, h3⟩ := bnds_few h h5
  have hql : q.length = 4 * ts.length := by rw [hf.1, bnds_len, List.length_zip]; omega
  have hck := fun W (hW : Below w.heap.size w W) => rcheck46 vt vc ts cs W (ht.below hW) (hc.below hW) (by unfold maxLen; omega) (by unfold maxLen; omega)
  rw [h] at hck
  have HC : Hid (∀ W, Below w.heap.size w W → Calls Tryz.prog 9 #[vt, vc] W (Ret W (.int .i64 0))) := Lib.hid hck
  have HFI : Hid (∀ W, Below w.heap.size w W → Calls Tryz.prog 37 #[vp] W (Ret W (.int .i64 0))) := Lib.hid (fun W hW => by
    have h1 := rfirst46 vp (rx q) W (hp.below hW) (rx_small30 hq) (by rw [rx_len]; omega)
    rw [chk_rx30 hq] at h1
    exact h1)
  have HAL := Lib.hid (fun W (hW : Below w.heap.size w W) => rall46 vt vc ts cs W (ht.below hW) (hc.below hW) h)
  have HRF : Hid (∀ v W, Below w.heap.size w W → RdB W v (bx (bnds (ts.zip cs))) → Calls Tryz.prog 39 #[.int .i64 3, v, vp] W (Ret W (.int .i64 0))) := Lib.hid (fun v W hW hv => by
    have hh := rrefute_ok 3 v vp _ q W hv (wire_right h1.right (by decide) (by omega)) (chk5_ok (n := 3) (by decide) (by decide) (by omega) h1.right) (hp.below hW) (by decide) (by decide) h1.right hf.1 hq (by omega)
    rw [contra_rf hf] at hh
    exact hh)
  obtain ⟨At, ct, rfl⟩ := ht.len
  obtain ⟨Ac, cc, rfl⟩ := hc.len
  obtain ⟨Aq, cq, rfl⟩ := hp.len
  rw [rx_len] at HFI HRF ⊢
  have hmul : wrap64 (4 * (ts.length : Int)) = 4 * (ts.length : Int) := by unfold wrap64; omega
  have hne : ((q.length : Int) != 4 * (ts.length : Int)) = false := by rw [bne_eq_false_iff_eq]; omega
  clear ht hc h h5 hq hf hp hck h16 hlen h1 h2 h3 hql
  go_enter Tryz.func13, Tryz.ntmps13
  go_wp2_with fail
  refine (HC.out _ (Below.refl _ _)).mono ?_
  rintro e w1 ⟨rfl, hb1⟩
  have HB1 := Lib.hid hb1
  clear hb1 HC
  go_wp2_with fail
  refine (HFI.out _ HB1.out).mono ?_
  rintro e w2 ⟨rfl, hb2⟩
  have HB2 := Lib.hid (bel_to HB1.out hb2)
  clear hb2 HB1 HFI
  go_wp2_with fail
  refine (HAL.out _ HB2.out).mono ?_
  rintro e w3 ⟨v, es, rfl, hs, hm⟩
  have hrd : RdB w3 v (bx (bnds (ts.zip cs))) := by rw [← hm]; exact OwnE.rd hs.own hs.good.good
  have HB3 := Lib.hid (bel_to HB2.out hs.bel)
  obtain ⟨A, c, rfl⟩ := hrd.len
  have HRD := Lib.hid hrd
  clear hs hm hrd HAL HB2
  go_wp2_with fail
  refine (HRF.out _ _ HB3.out HRD.out).mono ?_
  rintro e w4 ⟨rfl, hb4⟩
  have HB4 := Lib.hid (bel_to HB3.out hb4)
  clear hb4 HB3 HRD HRF
  go_wp2
  go_ret2
  exact ⟨rfl, HB4.out⟩
end W
end Go.Proofs.YtnaikafamjebdaaGreatDoor
end
section
namespace Go.Proofs.YtnaikafamjebdaaGreatDoor
open Go Go.RowKit Go.Deep
namespace M
def few46 (n m : Nat) : Bool := (decide (n ≤ 5) && decide (m ≤ 6)) || (decide (16 < n) && decide (n < 100) && decide (m < 100))
end M
namespace W
open M
attribute [local go_sem] bs_size bs_toList bs_get bs_extract bs_append bs_lit0 bs_lit1 lit1_bs
set_option maxHeartbeats 2000000
set_option maxRecDepth 20000
theorem rfew46 (vt vc : Value) (ts : List Tg) (cs : List Cc) (w : World) (ht : RdG w vt ts) (hc : RdC w vc cs) : Calls Tryz.prog 6 #[vt, vc] w (Ret w (.bool (few46 ts.length cs.length))) := by
  obtain ⟨At, ct, rfl⟩ := ht.len
  obtain ⟨Ac, cc, rfl⟩ := hc.len
  clear ht hc
  generalize ts.length = n at *
  generalize cs.length = m at *
  by_cases h1 : n ≤ 5
  · have i1 : (n : Int) ≤ 5 := by omega
    by_cases h2 : m ≤ 6
    · have i2 : (m : Int) ≤ 6 := by omega
      have HF := Lib.hid (show few46 n m = true by unfold few46; simp [h1, h2])
      clear h1 h2
      go_enter Tryz.func6, Tryz.ntmps6
      go_wp2
      go_ret
      exact Ret.of (by rw [HF.out]; rfl) (Below.refl _ _)
    · have i2 : ¬ (m : Int) ≤ 6 := by omega
      have i3 : ¬ (16 : Int) < (n : Int) := by omega
      have HF := Lib.hid (show few46 n m = false by unfold few46; simp [h1, h2]; omega)
      clear h1 h2
      go_enter Tryz.func6, Tryz.ntmps6
      go_wp2
      go_ret
      exact Ret.of (by rw [HF.out]; rfl) (Below.refl _ _)
  · have i1 : ¬ (n : Int) ≤ 5 := by omega
    by_cases h3 : 16 < n
    · have i3 : (16 : Int) < (n : Int) := by omega
      by_cases h4 : n < 100
      · have i4 : (n : Int) < 100 := by omega
        by_cases h5 : m < 100
        · have i5 : (m : Int) < 100 := by omega
          have HF := Lib.hid (show few46 n m = true by unfold few46; simp [h1, h3, h4, h5])
          clear h1 h3 h4 h5
          go_enter Tryz.func6, Tryz.ntmps6
          go_wp2
          go_ret
          exact Ret.of (by rw [HF.out]; rfl) (Below.refl _ _)
        · have i5 : ¬ (m : Int) < 100 := by omega
          have HF := Lib.hid (show few46 n m = false by unfold few46; simp [h1, h3, h4, h5])
          clear h1 h3 h4 h5
          go_enter Tryz.func6, Tryz.ntmps6
          go_wp2
          go_ret
          exact Ret.of (by rw [HF.out]; rfl) (Below.refl _ _)
      · have i4 : ¬ (n : Int) < 100 := by omega
        have HF := Lib.hid (show few46 n m = false by unfold few46; simp [h1, h3, h4])
        clear h1 h3 h4
        go_enter Tryz.func6, Tryz.ntmps6
        go_wp2
        go_ret
        exact Ret.of (by rw [HF.out]; rfl) (Below.refl _ _)
    · have i3 : ¬ (16 : Int) < (n : Int) := by omega
      have HF := Lib.hid (show few46 n m = false by unfold few46; simp [h1, h3])
      clear h1 h3
      go_enter Tryz.func6, Tryz.ntmps6
      go_wp2
      go_ret
      exact Ret.of (by rw [HF.out]; rfl) (Below.refl _ _)
end W
end Go.Proofs.YtnaikafamjebdaaGreatDoor
end
section
namespace Go.Proofs.YtnaikafamjebdaaGreatDoor
open Go Go.RowKit Go.Deep
namespace W
open M
attribute [local go_sem] bs_size bs_toList bs_get bs_extract bs_append bs_lit0 bs_lit1 lit1_bs
set_option maxHeartbeats 2000000
set_option maxRecDepth 20000
theorem sign_le {x : Rat} : Int.sign x.num ≤ 0 ↔ x ≤ 0 := by
  rw [show x ≤ 0 ↔ 0 ≤ -x from ⟨fun h => by grind, fun h => by grind⟩, ← Rat.num_nonneg, Rat.neg_num]
  rcases Int.lt_trichotomy x.num 0 with h | h | h
  · rw [Int.sign_eq_neg_one_of_neg h]; omega
  · rw [h]; simp
  · rw [Int.sign_eq_one_of_pos h]; omega
end W
end Go.Proofs.YtnaikafamjebdaaGreatDoor
end
section
namespace Go.Proofs.YtnaikafamjebdaaGreatDoor
open Go Go.RowKit Go.Deep
namespace W
open M
attribute [local go_sem] bs_size bs_toList bs_get bs_extract bs_append bs_lit0 bs_lit1 lit1_bs
set_option maxHeartbeats 2000000
set_option maxRecDepth 20000
theorem fits_not (vt vc : Value) (ts : List Tg) (cs : List Cc) (w : World) (hg : Glob w) (hs : Sig w) (ht : RdG w vt ts) (hc : RdC w vc cs) (hn : few46 ts.length cs.length = false) : Calls Tryz.prog 3 #[vt, vc] w (Ret w (.bool true)) := by
  have hr := rfew46 vt vc ts cs w ht hc
  rw [hn] at hr
  have HR := Lib.hid hr
  have HA := Lib.hid (fun W (hW : Below w.heap.size w W) => awake46 W (hg.of hW) (hs.below hW))
  obtain ⟨At, ct, rfl⟩ := ht.len
  obtain ⟨Ac, cc, rfl⟩ := hc.len
  clear hg hs ht hc hn hr
  go_enter Tryz.func3, Tryz.ntmps3
  go_wp2_with fail
  refine (HR.out).mono ?_
  rintro e w1 ⟨rfl, hb1⟩
  go_wp2_with fail
  refine (HA.out _ hb1).mono ?_
  rintro e w2 ⟨rfl, hb2⟩
  go_wp2
  go_ret
  exact Ret.of rfl (Below.then hb1 hb2)
theorem fits_bad (vt vc : Value) (ts : List Tg) (cs : List Cc) (w : World) (hg : Glob w) (hs : Sig w) (ht : RdG w vt ts) (hc : RdC w vc cs) (nt : ts.length ≤ maxLen) (nc : cs.length ≤ maxLen) (hn : few46 ts.length cs.length = true) (h : chk46 ts cs ≠ 0) : Calls Tryz.prog 3 #[vt, vc] w (Ret w (.bool true)) := by
  have hr := rfew46 vt vc ts cs w ht hc
  rw [hn] at hr
  have HR := Lib.hid hr
  have HA := Lib.hid (fun W (hW : Below w.heap.size w W) => awake46 W (hg.of hW) (hs.below hW))
  have HE : Hid (∀ W, Below w.heap.size w W → Calls Tryz.prog 8 #[vt, vc] W (Ret W (.tuple #[.bool false, .agg #[.string ⟨#[]⟩, .string ⟨#[]⟩, .string ⟨#[]⟩], .slice none 0 0, .int .i64 ((chk46 ts cs : Nat) : Int)]))) := Lib.hid (fun W (hW : Below w.heap.size w W) => pfits_bad vt vc ts cs W (hs.below hW) (ht.below hW) (hc.below hW) nt nc h)
  have HC := Lib.hid (fun W (hW : Below w.heap.size w W) => rcheck46 vt vc ts cs W (ht.below hW) (hc.below hW) nt nc)
  have hz := nz_bne h
  have heq : ∀ W, (binOp .eql 27 (.agg #[.string ⟨#[]⟩, .string ⟨#[]⟩, .string ⟨#[]⟩]) (.agg #[.string ⟨#[]⟩, .string ⟨#[]⟩, .string ⟨#[]⟩])).run Tryz.prog W = .ok (.bool true) W := fun W => by kernel_rfl
  obtain ⟨At, ct, rfl⟩ := ht.len
  obtain ⟨Ac, cc, rfl⟩ := hc.len
  generalize ((chk46 ts cs : Nat) : Int) = ck at *
  clear hg hs ht hc hn hr nt nc h
  go_enter Tryz.func3, Tryz.ntmps3
  go_wp2_with fail
  refine (HR.out).mono ?_
  rintro e w1 ⟨rfl, hb1⟩
  go_wp2_with fail
  refine (HE.out _ hb1).mono ?_
  rintro e w2 ⟨rfl, hb2⟩
  have hb2a := bel_to hb1 (bel_to hb2 (bel_al w2 (.cells #[.string ⟨#[]⟩, .string ⟨#[]⟩, .string ⟨#[]⟩] 27 (0, 0))))
  have hrow : Row (w2.alloc (.cells #[.string ⟨#[]⟩, .string ⟨#[]⟩, .string ⟨#[]⟩] 27 (0, 0))) w2.heap.size 27 [.string ⟨#[]⟩, .string ⟨#[]⟩, .string ⟨#[]⟩] := rnw
  have H2 := Lib.hid (And.intro hb2a hrow)
  clear hb1 hb2 hb2a hrow HR HE
  go_wp2_with fail
  refine (HC.out _ H2.out.1).mono ?_
  rintro e w3 ⟨rfl, hb3⟩
  have hrw := H2.out.2.below' hb3
  have q0 := hrw.cell (i := 0) rfl
  have q1 := hrw.cell (i := 1) rfl
  have q2 := hrw.cell (i := 2) rfl
  have HB3 := Lib.hid (bel_to H2.out.1 hb3)
  clear hb3 hrw H2 HC
  go_wp2_with fail
  refine (HA.out _ HB3.out).mono ?_
  rintro e w4 ⟨rfl, hb4⟩
  have HB4 := Lib.hid (bel_to HB3.out hb4)
  clear hb4 HB3 HA q0 q1 q2
  go_wp2
  go_ret
  exact ⟨rfl, HB4.out⟩
theorem fits_yes (vt vc : Value) (ts : List Tg) (cs : List Cc) (w : World) (hg : Glob w) (hs : Sig w) (ht : RdG w vt ts) (hc : RdC w vc cs) (nt : ts.length ≤ maxLen) (nc : cs.length ≤ maxLen) (hn : few46 ts.length cs.length = true) (h : chk46 ts cs = 0) (h5 : ts.length ≤ 5)
    (a b c : Rat) (hb3 : ∀ q ∈ [a, b, c], Bq 30 q) (hfz : Sx.Fz (ts.zip cs) a b c 0) (hx0 : overQ (ts.zip cs) ≤ 0) (HF0 : ∀ (vt vc : Value) (w : World), Glob w → Sig w → RdG w vt ts → RdC w vc cs → Calls Tryz.prog 8 #[vt, vc] w (FitP w (.inl [a, b, c]))) :
    Calls Tryz.prog 3 #[vt, vc] w (Ret w (.bool true)) := by
  have hr := rfew46 vt vc ts cs w ht hc
  rw [hn] at hr
  have HR := Lib.hid hr
  have HA := Lib.hid (fun W (hW : Below w.heap.size w W) => awake46 W (hg.of hW) (hs.below hW))
  have HF : Hid (∀ W, Below w.heap.size w W → Calls Tryz.prog 8 #[vt, vc] W (Ret W (.tuple #[.bool true, .agg #[.string (bs (R a)), .string (bs (R b)), .string (bs (R c))], .slice none 0 0, .int .i64 0]))) := Lib.hid (fun W hW => HF0 vt vc W (hg.of hW) (hs.below hW) (ht.below hW) (hc.below hW))
  have HP := Lib.hid (fun W (hW : Below w.heap.size w W) => raccepts_fz vt vc ts cs a b c W (ht.below hW) (hc.below hW) h hb3 hfz)
  have hsg : Int.sign (overQ (ts.zip cs)).num ≤ 0 := sign_le.2 hx0
  have hck := fun W (hW : Below w.heap.size w W) => rcheck46 vt vc ts cs W (ht.below hW) (hc.below hW) nt nc
  rw [h] at hck
  have HC : Hid (∀ W, Below w.heap.size w W → Calls Tryz.prog 9 #[vt, vc] W (Ret W (.int .i64 0))) := Lib.hid hck
  have HOV := Lib.hid (fun W (hW : Below w.heap.size w W) => rover46 vt vc ts cs W (ht.below hW) (hc.below hW) h h5)
  have HSG := Lib.hid (fun W => signum_R (overQ (ts.zip cs)) W ((over_bq h h5).sh (by decide) (by decide)))
  obtain ⟨At, ct, rfl⟩ := ht.len
  obtain ⟨Ac, cc, rfl⟩ := hc.len
  clear hg hs ht hc hn hr nt nc h h5 hb3 hfz hx0 HF0 hck
  generalize Int.sign (overQ (ts.zip cs)).num = sg at *
  generalize R (overQ (ts.zip cs)) = ro at *
  go_enter Tryz.func3, Tryz.ntmps3
  go_wp2_with fail
  refine (HR.out).mono ?_
  rintro e w1 ⟨rfl, hb1⟩
  clear HR
  go_wp2_with fail
  refine (HF.out _ hb1).mono ?_
  rintro e w2 ⟨rfl, hb2⟩
  have hbA := bel_to (bel_to hb1 hb2) (bel_al w2 (.cells #[.string (bs (R a)), .string (bs (R b)), .string (bs (R c))] 27 (0, 0)))
  have hrow : Row (w2.alloc (.cells #[.string (bs (R a)), .string (bs (R b)), .string (bs (R c))] 27 (0, 0))) w2.heap.size 27 [.string (bs (R a)), .string (bs (R b)), .string (bs (R c))] := rnw
  have H2 := Lib.hid (And.intro hbA hrow)
  clear hb1 hb2 hbA hrow HF
  go_wp2_with fail
  refine (HC.out _ H2.out.1).mono ?_
  rintro e w3 ⟨rfl, hb3⟩
  have H3 := Lib.hid (And.intro (bel_to H2.out.1 hb3) (H2.out.2.below' hb3))
  clear hb3 H2 HC
  go_wp2_with fail
  refine (HOV.out _ H3.out.1).mono ?_
  rintro e w4 ⟨rfl, hb4⟩
  have H4 := Lib.hid (And.intro (bel_to H3.out.1 hb4) (H3.out.2.below' hb4))
  clear hb4 H3 HOV
  go_wp2_with fail
  refine (HSG.out _).mono ?_
  rintro e w5 ⟨rfl, hb5⟩
  have H5 := Lib.hid (And.intro (bel_to H4.out.1 hb5) (H4.out.2.below' hb5))
  clear hb5 H4 HSG
  have q0 := H5.out.2.cell (i := 0) rfl
  have q1 := H5.out.2.cell (i := 1) rfl
  have q2 := H5.out.2.cell (i := 2) rfl
  go_wp2_with fail
  refine (HP.out _ H5.out.1).mono ?_
  rintro e w6 ⟨rfl, hb6⟩
  have HB6 := Lib.hid (bel_to H5.out.1 hb6)
  clear hb6 q0 q1 q2 H5 HP
  go_wp2_with fail
  refine (HA.out _ HB6.out).mono ?_
  rintro e w7 ⟨rfl, hb7⟩
  have HB7 := Lib.hid (bel_to HB6.out hb7)
  clear hb7 HB6 HA
  go_wp2
  go_ret
  exact ⟨rfl, HB7.out⟩
theorem fits_no (vt vc : Value) (ts : List Tg) (cs : List Cc) (w : World) (hg : Glob w) (hs : Sig w) (ht : RdG w vt ts) (hc : RdC w vc cs) (nt : ts.length ≤ maxLen) (nc : cs.length ≤ maxLen) (hn : few46 ts.length cs.length = true) (h : chk46 ts cs = 0) (h5 : ts.length ≤ 5)
    (wt : List Rat) (hb3 : ∀ q ∈ wt, Bq 30 q) (hcon : Sx.Contra 3 (bnds (ts.zip cs)) wt) (hx0 : 0 < overQ (ts.zip cs)) (HF0 : ∀ (vt vc : Value) (w : World), Glob w → Sig w → RdG w vt ts → RdC w vc cs → Calls Tryz.prog 8 #[vt, vc] w (FitP w (.inr wt))) :
    Calls Tryz.prog 3 #[vt, vc] w (Ret w (.bool true)) := by
  have hr := rfew46 vt vc ts cs w ht hc
  rw [hn] at hr
  have HR := Lib.hid hr
  have HA := Lib.hid (fun W (hW : Below w.heap.size w W) => awake46 W (hg.of hW) (hs.below hW))
  have HF : Hid (∀ W, Below w.heap.size w W → Calls Tryz.prog 8 #[vt, vc] W (fun e w' => ∃ v, e = .returned (.tuple #[.bool false, .agg #[.string ⟨#[]⟩, .string ⟨#[]⟩, .string ⟨#[]⟩], v, .int .i64 0]) ∧ RdT w' v (rx wt) ∧ Shp v ∧ Below W.heap.size W w')) := Lib.hid (fun W hW => HF0 vt vc W (hg.of hW) (hs.below hW) (ht.below hW) (hc.below hW))
  have HP := Lib.hid (fun v W (hW : Below w.heap.size w W) (hv : RdT W v (rx wt)) => rrefuses_contra vt vc v ts cs wt W (ht.below hW) (hc.below hW) h h5 hb3 hcon hv)
  have hsg : ¬ Int.sign (overQ (ts.zip cs)).num ≤ 0 := fun e => absurd (sign_le.1 e) (Rat.not_le.2 hx0)
  have heq : ∀ W, (binOp .eql 27 (.agg #[.string ⟨#[]⟩, .string ⟨#[]⟩, .string ⟨#[]⟩]) (.agg #[.string ⟨#[]⟩, .string ⟨#[]⟩, .string ⟨#[]⟩])).run Tryz.prog W = .ok (.bool true) W := fun W => by kernel_rfl
  have hck := fun W (hW : Below w.heap.size w W) => rcheck46 vt vc ts cs W (ht.below hW) (hc.below hW) nt nc
  rw [h] at hck
  have HC : Hid (∀ W, Below w.heap.size w W → Calls Tryz.prog 9 #[vt, vc] W (Ret W (.int .i64 0))) := Lib.hid hck
  have HOV := Lib.hid (fun W (hW : Below w.heap.size w W) => rover46 vt vc ts cs W (ht.below hW) (hc.below hW) h h5)
  have HSG := Lib.hid (fun W => signum_R (overQ (ts.zip cs)) W ((over_bq h h5).sh (by decide) (by decide)))
  obtain ⟨At, ct, rfl⟩ := ht.len
  obtain ⟨Ac, cc, rfl⟩ := hc.len
  clear hg hs ht hc hn hr nt nc h h5 hb3 hcon hx0 HF0 hck
  generalize Int.sign (overQ (ts.zip cs)).num = sg at *
  generalize R (overQ (ts.zip cs)) = ro at *
  go_enter Tryz.func3, Tryz.ntmps3
  go_wp2_with fail
  refine (HR.out).mono ?_
  rintro e w1 ⟨rfl, hb1⟩
  clear HR
  go_wp2_with fail
  refine (HF.out _ hb1).mono ?_
  rintro e w2 ⟨vw, rfl, hrt, hshp, hb2⟩
  have hbA := bel_to (bel_to hb1 hb2) (bel_al w2 (.cells #[.string ⟨#[]⟩, .string ⟨#[]⟩, .string ⟨#[]⟩] 27 (0, 0)))
  have hrow : Row (w2.alloc (.cells #[.string ⟨#[]⟩, .string ⟨#[]⟩, .string ⟨#[]⟩] 27 (0, 0))) w2.heap.size 27 [.string ⟨#[]⟩, .string ⟨#[]⟩, .string ⟨#[]⟩] := rnw
  have H2 := Lib.hid (And.intro hbA (And.intro hrow (hrt.below (bel_al w2 (.cells #[.string ⟨#[]⟩, .string ⟨#[]⟩, .string ⟨#[]⟩] 27 (0, 0))))))
  obtain ⟨Aw, cw, rfl⟩ := hrt.len
  clear hb1 hb2 hbA hrow HF hrt hshp
  go_wp2_with fail
  refine (HC.out _ H2.out.1).mono ?_
  rintro e w3 ⟨rfl, hb3⟩
  have H3 := Lib.hid (And.intro (bel_to H2.out.1 hb3) (And.intro (H2.out.2.1.below' hb3) (H2.out.2.2.below hb3)))
  clear hb3 H2 HC
  go_wp2_with fail
  refine (HOV.out _ H3.out.1).mono ?_
  rintro e w4 ⟨rfl, hb4⟩
  have H4 := Lib.hid (And.intro (bel_to H3.out.1 hb4) (And.intro (H3.out.2.1.below' hb4) (H3.out.2.2.below hb4)))
  clear hb4 H3 HOV
  go_wp2_with fail
  refine (HSG.out _).mono ?_
  rintro e w5 ⟨rfl, hb5⟩
  have H5 := Lib.hid (And.intro (bel_to H4.out.1 hb5) (And.intro (H4.out.2.1.below' hb5) (H4.out.2.2.below hb5)))
  clear hb5 H4 HSG
  have hw5 := H5.out.2.2
  go_wp2_with fail
  refine (HP.out _ _ H5.out.1 hw5).mono ?_
  rintro e w6 ⟨rfl, hb6⟩
  have hr6 := H5.out.2.1.below' hb6
  have q0 := hr6.cell (i := 0) rfl
  have q1 := hr6.cell (i := 1) rfl
  have q2 := hr6.cell (i := 2) rfl
  have HB6 := Lib.hid (bel_to H5.out.1 hb6)
  clear hb6 hr6 hw5 H5 HP
  go_wp2_with fail
  refine (HA.out _ HB6.out).mono ?_
  rintro e w7 ⟨rfl, hb7⟩
  have HB7 := Lib.hid (bel_to HB6.out hb7)
  clear hb7 HB6 HA
  go_wp2
  go_ret
  exact ⟨rfl, HB7.out⟩
theorem fits_law (vt vc : Value) (ts : List Tg) (cs : List Cc) (w : World) (hg : Glob w) (hs : Sig w) (ht : RdG w vt ts) (hc : RdC w vc cs) (nt : ts.length ≤ maxLen) (nc : cs.length ≤ maxLen) : Calls Tryz.prog 3 #[vt, vc] w (Ret w (.bool true)) := by
  by_cases hn : few46 ts.length cs.length = true
  · by_cases h : chk46 ts cs = 0
    · have h5 : ts.length ≤ 5 := by
        have h16 := (chk46_iff.1 h).2.1
        unfold few46 at hn
        simp at hn
        omega
      obtain ⟨r, hr, hF⟩ := pfits_ok ts cs h h5
      rcases Sx.feas_exc (Sx.exc_over (zip_ne h)) hr with ⟨a, b, c, rfl, hf0, hx0, hb0⟩ | ⟨wt, rfl, hcon, hx0, hbw⟩
      · exact fits_yes vt vc ts cs w hg hs ht hc nt nc hn h h5 a b c hb0 hf0 hx0 hF
      · exact fits_no vt vc ts cs w hg hs ht hc nt nc hn h h5 wt hbw hcon hx0 hF
    · exact fits_bad vt vc ts cs w hg hs ht hc nt nc hn h
  · exact fits_not vt vc ts cs w hg hs ht hc (by simpa using hn)
end W
end Go.Proofs.YtnaikafamjebdaaGreatDoor
end
