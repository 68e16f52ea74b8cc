/-
  Chapter 46, the reference: 'Keeps'.
  Chapter 46, the reference: 'first', 'Accepts' and 'Refuses' for proofs that hold.
  Chapter 46, the reference: 'Short'; 'Accepts' and 'Refuses' for all arguments. (Printed by wip/judges.py.)
  Chapter 46: PatternExcess.
  Chapter 46: PatternJudges. (Printed by wip/judges2.py.)
  Chapter 46: PatternJudges: the law.
-/
import Derived.Test.YtnaikafamjebdaaGreatDoorKJY
section
namespace Go.Proofs.YtnaikafamjebdaaGreatDoor
open Go Go.RowKit Go.Deep
namespace M
def keepB (l : List BQ) (p : List Rat) (x : Rat) : Bool := l.all fun b => decide (dotP b.1 p 3 ≤ b.2 + x / 2)
def keepN (l : List BQ) (p : List Rat) (x : Rat) (i : Nat) : Bool := (l.take i).all fun b => decide (dotP b.1 p 3 ≤ b.2 + x / 2)
theorem keepN_zero (l : List BQ) (p : List Rat) (x : Rat) : keepN l p x 0 = true := by simp [keepN]
theorem keepN_all (l : List BQ) (p : List Rat) (x : Rat) : keepN l p x l.length = keepB l p x := by simp [keepN, keepB]
theorem keepN_succ (l : List BQ) (p : List Rat) (x : Rat) (i : Nat) (h : i < l.length) : keepN l p x (i + 1) = (keepN l p x i && decide (dotP l[i].1 p 3 ≤ l[i].2 + x / 2)) := by
  unfold keepN
  rw [List.take_add_one, List.getElem?_eq_getElem h, List.all_append]
  simp
theorem keepN_no {l : List BQ} {p : List Rat} {x : Rat} {i : Nat} (h : i < l.length) (hn : ¬ dotP l[i].1 p 3 ≤ l[i].2 + x / 2) : keepB l p x = false := by
  unfold keepB
  rw [List.all_eq_false]
  exact ⟨l[i], List.getElem_mem h, by simp [hn]⟩
end M
namespace W
open M
attribute [local go_sem] bs_size bs_toList bs_get bs_extract bs_append bs_lit0 bs_lit1 lit1_bs
set_option maxHeartbeats 2000000
set_option maxRecDepth 20000
theorem rkeeps46 (vt vc : Value) (ts : List Tg) (cs : List Cc) (px py pz x : Rat) (w : World) (ht : RdG w vt ts) (hc : RdC w vc cs) (h : chk46 ts cs = 0) (hp : ∀ q ∈ [px, py, pz], Bq 45 q) (hx : Bq 45 x) :
    Calls Tryz.prog 38 #[vt, vc, .agg #[.string (bs (R px)), .string (bs (R py)), .string (bs (R pz))], .string (bs (R x))] w (Ret w (.bool (keepB (bnds (ts.zip cs)) [px, py, pz] x))) := by
  have hrt := (chk46_iff.1 h).2.2.2
  have hrp := (Sx.bnds_rightP hrt).right
  have hb0 := bel_al w (.cells #[.string (bs (R px)), .string (bs (R py)), .string (bs (R pz))] 27 (0, 0))
  have hr0 : Row (w.alloc (.cells #[.string (bs (R px)), .string (bs (R py)), .string (bs (R pz))] 27 (0, 0))) w.heap.size 27 [.string (bs (R px)), .string (bs (R py)), .string (bs (R pz))] := rnw
  have HR0 := Lib.hid (And.intro hb0 hr0)
  have HAL := Lib.hid (rall46 vt vc ts cs _ (ht.below hb0) (hc.below hb0) h)
  have hby := fun W => rby x 2 W (hx.sh (by decide) (by decide)) ((show Bq 8 (2 : Rat) from by decide +kernel).sh (by decide) (by decide)) (by decide +kernel)
  rw [R_texts.2.2.1] at hby
  have HBY := Lib.hid hby
  have hx2 : Bq 53 (x / 2) := (Bq.div (j := 45) (k := 8) hx (show Bq 8 (2 : Rat) from by decide +kernel) (by decide +kernel))
  have HPL := Lib.hid (fun i (hi : i < (bnds (ts.zip cs)).length) W => plus_R ((bnds (ts.zip cs))[i]).2 (x / 2) W (((hrp _ (List.getElem_mem hi)).2.2).sh (by decide) (by decide)) (hx2.sh (by decide) (by decide)))
  have HDT : Hid (∀ i (hi : i < (bnds (ts.zip cs)).length) (va vb : Value) W, RdT W va (rx ((bnds (ts.zip cs))[i]).1) → RdT W vb (rx [px, py, pz]) → Calls Tryz.prog 71 #[va, vb] W (Ret W (.string (bs (R (dotP ((bnds (ts.zip cs))[i]).1 [px, py, pz] 3)))))) := Lib.hid (fun i hi va vb W h1 h2 => by
    have hl := (hrp _ (List.getElem_mem hi)).1
    have := rdot va vb ((bnds (ts.zip cs))[i]).1 [px, py, pz] 45 W h1 h2 (by simp [hl]) (by rw [hl]; decide) (fun y hy => ((hrp _ (List.getElem_mem hi)).2.1 y hy).mono (by decide)) hp (by decide) (by decide)
    rwa [hl] at this)
  have HOR : Hid (∀ i (hi : i < (bnds (ts.zip cs)).length) W, Calls Tryz.prog 67 #[.string (bs (R (dotP ((bnds (ts.zip cs))[i]).1 [px, py, pz] 3))), .string (bs (R (((bnds (ts.zip cs))[i]).2 + x / 2)))] W (Ret W (.int .i64 (cmpQ (dotP ((bnds (ts.zip cs))[i]).1 [px, py, pz] 3) (((bnds (ts.zip cs))[i]).2 + x / 2))))) := Lib.hid (fun i hi W => by
    have hl := (hrp _ (List.getElem_mem hi)).1
    exact order_R _ _ W ((dotP_bq (e := 8) (e2 := 45) (hrp _ (List.getElem_mem hi)).2.1 hp 3 (by omega) (by simp)).sh (by decide) (by decide)) ((Bq.add (hrp _ (List.getElem_mem hi)).2.2 hx2).sh (by decide) (by decide)))
  have HLEN := Lib.hid (show (bnds (ts.zip cs)).length ≤ 100 by rw [bnds_len, List.length_zip]; have := (chk46_iff.1 h).2.1; omega)
  obtain ⟨At, ct, rfl⟩ := ht.len
  obtain ⟨Ac, cc, rfl⟩ := hc.len
  clear ht hc h hrt hrp hb0 hr0 hby hx hx2 hp
  generalize bnds (ts.zip cs) = bl at *
  go_enter Tryz.func38, Tryz.ntmps38
  go_wp2_with fail
  refine HAL.out.mono ?_
  rintro e w1 ⟨v, es, rfl, hs, hm⟩
  have hrd : RdB w1 v (bx bl) := by rw [← hm]; exact OwnE.rd hs.own hs.good.good
  have HR1 := Lib.hid (And.intro (bel_to HR0.out.1 hs.bel) (HR0.out.2.below' hs.bel))
  obtain ⟨A, c, rfl⟩ := hrd.len
  have HRD := Lib.hid hrd
  clear hs hm hrd HAL HR0
  rw [bx_len] at HRD
  rw [bx_len]
  have hlen := HLEN.out
  go_wp2_with fail
  go_loopw [10] (fun iv wr => ∃ i : Nat, iv = .int .i64 (i : Int) ∧ i ≤ bl.length ∧ Hid (keepN bl [px, py, pz] x i = true) ∧ Hid (Below w1.heap.size w1 wr)) (fun iv _ => bl.length - (intOf iv).toNat)
  case atStart => exact ⟨0, rfl, by omega, Lib.hid (keepN_zero _ _ _), Lib.hid (Below.refl _ _)⟩
  case round =>
    obtain ⟨i, rfl, hi, hk, hb⟩ := hrel
    by_cases hlt : i < bl.length
    · have hltb : i < (bx bl).length := by rw [bx_len]; exact hlt
      obtain ⟨b1, o1, rfl, hw⟩ := HRD.out.row i hltb
      have hrow := fun W (hW : Below wr.heap.size wr W) => (hw.below' (bel_to hb.out hW)).row i hltb
      obtain ⟨vr, c0, hvr, hsr⟩ := (hw.below' hb.out).row i hltb
      have c1 := (hw.below' hb.out).most i hltb
      rw [bx_get bl i hlt] at hvr c1
      simp only at hvr c1
      have HVR := Lib.hid hvr
      have HAT := Lib.hid (fun W (hW : Below wr.heap.size wr W) => (show RdT W (.slice (some ⟨w.heap.size, 0, none⟩) 3 3) (rx [px, py, pz]) from rdt_any (l := rx [px, py, pz]) (HR1.out.2.below' (bel_to hb.out hW))))
      obtain ⟨Ar, cr, rfl⟩ := hvr.len
      have HPI := Lib.hid (HPL.out i hlt)
      have HDI := Lib.hid (HDT.out i hlt)
      have HOI := Lib.hid (HOR.out i hlt)
      have HKS := Lib.hid (keepN_succ bl [px, py, pz] x i hlt)
      have HKN := Lib.hid (fun hn => keepN_no (p := [px, py, pz]) (x := x) hlt hn)
      have hi0 : (0 : Int) ≤ (i : Int) := by omega
      have hi1 : (i : Int) < (bl.length : Int) := by omega
      have hcz : (0 < cmpQ (dotP bl[i].1 [px, py, pz] 3) (bl[i].2 + x / 2)) ↔ ¬ dotP bl[i].1 [px, py, pz] 3 ≤ bl[i].2 + x / 2 := by rw [cmpQ_gt, Rat.not_le]
      have HCZ := Lib.hid hcz
      clear hvr hw hrow hcz
      generalize hrr : bl[i].1 = rr at *
      generalize hmm : bl[i].2 = mm at *
      generalize dotP rr [px, py, pz] 3 = dd at *
      generalize mm + x / 2 = ms at *
      have m0 := cell_regrown c1
      have e1 : ∀ args w, (callFunc 34 args).run Tryz.prog w = .ok (.enter 34 args) w := enters_of Tryz.func34 (by kernel_rfl) rfl
      have e2 : ∀ args w, (callFunc 70 args).run Tryz.prog w = .ok (.enter 70 args) w := enters_of Tryz.func70 (by kernel_rfl) rfl
      have k1 := reg_of (w := wr) (fun W _ => HBY.out W)
      have k2 := reg_of (w := wr) (fun W _ => HPI.out W)
      clear c1
      go_wp2_with fail
      refine wp_region_quiet_below (by kernel_rfl) (by kernel_rfl) ?_
      repeat (go_big_quiet_step (fail))
      go_big_quiet_step (exact k1 _ _)
      repeat (go_big_quiet_step (fail))
      go_big_quiet_step (exact k2 _ _)
      repeat (go_big_quiet_step (fail))
      refine wpQuiet_nil ?_
      intro W6 hw'
      have hb6 : Below wr.heap.size wr W6 := by obtain ⟨p, e⟩ := hw'; rw [e]; exact below_regrown wr p.d p.os
      clear hw'
      have HB6 := Lib.hid hb6
      have c0' := (hb6.cell (block_lt_of_cell c0)).trans c0
      clear m0 e1 e2 k1 k2 hb6 c0
      have m0 := cell_regrown c0'
      have e1 : ∀ args w, (callFunc 71 args).run Tryz.prog w = .ok (.enter 71 args) w := enters_of Tryz.func71 (by kernel_rfl) rfl
      have e2 : ∀ args w, (callFunc 67 args).run Tryz.prog w = .ok (.enter 67 args) w := enters_of Tryz.func67 (by kernel_rfl) rfl
      have k1 := reg_of (w := W6) (fun W hW => HDI.out _ _ W (HVR.out.below (bel_to HB6.out hW)) (HAT.out W (bel_to HB6.out hW)))
      have k2 := reg_of (w := W6) (fun W _ => HOI.out W)
      have HB7 := Lib.hid (bel_to hb.out HB6.out)
      clear c0' hb HB6 HVR HAT
      generalize hW7 : W6 = W7 at *
      clear hW7
      go_wp2_with fail
      refine wp_region_quiet_below (by kernel_rfl) (by kernel_rfl) ?_
      repeat (go_big_quiet_step (fail))
      go_big_quiet_step (exact k1 _ _)
      repeat (go_big_quiet_step (fail))
      go_big_quiet_step (exact k2 _ _)
      repeat (go_big_quiet_step (fail))
      refine wpQuiet_nil ?_
      intro W6 hw'
      have hb6 : Below W7.heap.size W7 W6 := by obtain ⟨p, e⟩ := hw'; rw [e]; exact below_regrown W7 p.d p.os
      clear hw'
      have HB8 := Lib.hid (bel_to HB7.out hb6)
      clear m0 e1 e2 k1 k2 hb6 HB7
      by_cases hd : dd ≤ ms
      · have hcn : ¬ 0 < cmpQ dd ms := fun e => HCZ.out.1 e hd
        have HN := Lib.hid (show keepN bl [px, py, pz] x (i + 1) = true by rw [HKS.out, hk.out, decide_eq_true hd]; rfl)
        generalize cmpQ dd ms = cz at *
        clear hd hk HCZ HKN HKS
        go_wp2
        go_roundw
        case rel => exact ⟨i + 1, by go_num, by omega, HN, HB8⟩
        case measure => simp [intOf]; omega
      · have hcn : 0 < cmpQ dd ms := HCZ.out.2 hd
        have HN := Lib.hid (HKN.out hd)
        generalize cmpQ dd ms = cz at *
        clear hd hk HCZ HKN HKS
        go_wp2
        go_ret
        exact Ret.of (by rw [HN.out]; rfl) (bel_to HR1.out.1 HB8.out)
    · obtain rfl : i = bl.length := by omega
      have hk2 := hk.out
      rw [keepN_all] at hk2
      have HK := Lib.hid hk2
      clear hk hk2
      go_wp2
      go_ret
      exact Ret.of (by rw [HK.out]; rfl) (bel_to HR1.out.1 hb.out)
end W
end Go.Proofs.YtnaikafamjebdaaGreatDoor
end
section
namespace Go.Proofs.YtnaikafamjebdaaGreatDoor
open Go Go.RowKit Go.Deep
namespace M
end M
namespace W
open M
attribute [local go_sem] bs_size bs_toList bs_get bs_extract bs_append bs_lit0 bs_lit1 lit1_bs
set_option maxHeartbeats 2000000
set_option maxRecDepth 20000
theorem rfirst46 (va : Value) (l : List (List UInt8)) (w : World) (ha : RdT w va l) (hl : ∀ p ∈ l, p.length ≤ 90000) (hn : l.length ≤ 1000000) :
    Calls Tryz.prog 37 #[va] w (Ret w (.int .i64 ((chkRs l : Nat) : Int))) := by
  obtain ⟨A, cap, rfl⟩ := ha.len
  have HW := Lib.hid ha
  have HC := Lib.hid (fun i (hi : i < l.length) W => check2_any l[i] W (hl _ (List.getElem_mem hi)))
  generalize hch : ((chkRs l : Nat) : Int) = ch
  have HCH := Lib.hid hch
  clear ha hl hch
  go_enter Tryz.func37, Tryz.ntmps37
  go_wp2
  go_loopw [3] (fun iv wr => ∃ i : Nat, iv = .int .i64 (i : Int) ∧ i ≤ l.length ∧ Hid (chkRs l = chkRs (l.drop i)) ∧ Below w.heap.size w wr) (fun iv _ => l.length - (intOf iv).toNat)
  case atStart => exact ⟨0, rfl, by omega, (rfl : chkRs l = chkRs (l.drop 0)), Below.refl _ _⟩
  case round =>
    obtain ⟨i, rfl, hi, hk, hbw⟩ := hrel
    by_cases hlt : i < l.length
    · obtain ⟨b1, o1, rfl, hw⟩ := HW.out.row i hlt
      have cv := (hw.below' hbw).val i hlt
      have hk2 := hk.out
      rw [chkRs_drop l i hlt] at hk2
      have HP := Lib.hid (HC.out i hlt)
      clear hk hw
      generalize l[i] = x at *
      by_cases hc : chkR x = 0
      · rw [if_pos hc] at hk2
        rw [hc] at HP
        have HK := Lib.hid hk2
        clear hk2 hc
        go_wp2_with fail
        refine (HP.out _).mono ?_
        rintro e w1 ⟨rfl, hb1⟩
        have hb1' := hbw.trans (hb1.mono hbw.size)
        go_wp2
        go_roundw
        case rel => exact ⟨i + 1, by go_num, by omega, HK, hb1'⟩
        case measure => simp [intOf]; omega
      · rw [if_neg hc] at hk2
        have hz : (((chkR x : Nat) : Int) != 0) = true := by simp; exact hc
        have HK := Lib.hid hk2
        clear hk2 hc
        generalize hcc : ((chkR x : Nat) : Int) = c at *
        have HCC := Lib.hid hcc
        clear hcc
        go_wp2_with fail
        refine (HP.out _).mono ?_
        rintro e w1 ⟨rfl, hb1⟩
        have hb1' := hbw.trans (hb1.mono hbw.size)
        go_wp2
        go_ret
        exact Ret.of (by rw [← HCH.out, HK.out, HCC.out]; rfl) hb1'
    · obtain rfl : i = l.length := by omega
      have hk2 := hk.out
      rw [List.drop_length] at hk2
      have HK := Lib.hid hk2
      clear hk2 hk
      go_wp2
      go_ret
      exact Ret.of (by rw [← HCH.out, HK.out]; rfl) hbw
end W
end Go.Proofs.YtnaikafamjebdaaGreatDoor
end
section
namespace Go.Proofs.YtnaikafamjebdaaGreatDoor
open Go Go.RowKit Go.Deep
namespace M
def short46 (l : List (List UInt8)) : Bool := l.all shortB && decide (l.length < 100)
theorem short46_no {l : List (List UInt8)} {i : Nat} (h : i < l.length) (hs : shortB l[i] = false) : short46 l = false := by
  unfold short46
  rw [Bool.and_eq_false_iff]
  left
  rw [List.all_eq_false]
  exact ⟨_, List.getElem_mem h, by simp [hs]⟩
end M
namespace W
open M
attribute [local go_sem] bs_size bs_toList bs_get bs_extract bs_append bs_lit0 bs_lit1 lit1_bs
set_option maxHeartbeats 2000000
set_option maxRecDepth 20000
theorem rshort46 (va : Value) (l : List (List UInt8)) (w : World) (ha : RdT w va l) (hl : ∀ p ∈ l, p.length ≤ maxLen) (hn : l.length ≤ maxLen) :
    Calls Tryz.prog 22 #[va] w (Ret w (.bool (short46 l))) := by
  obtain ⟨A, cap, rfl⟩ := ha.len
  have HW := Lib.hid ha
  have HC := Lib.hid (fun i (hi : i < l.length) W => short_any l[i] W (by have := hl _ (List.getElem_mem hi); unfold maxLen at this; omega))
  have HNO := Lib.hid (fun i (h : i < l.length) => short46_no (l := l) (i := i) h)
  have HSH := Lib.hid (show short46 l = (l.all shortB && decide (l.length < 100)) from rfl)
  unfold maxLen at hn
  generalize short46 l = res at *
  clear ha hl
  go_enter Tryz.func22, Tryz.ntmps22
  go_wp2
  go_loopw [3] (fun iv wr => ∃ i : Nat, iv = .int .i64 (i : Int) ∧ i ≤ l.length ∧ i ≤ 100 ∧ Hid (l.all shortB = (l.drop i).all shortB) ∧ Below w.heap.size w wr) (fun iv _ => l.length - (intOf iv).toNat)
  case atStart => exact ⟨0, rfl, by omega, by omega, Lib.hid rfl, Below.refl _ _⟩
  case round =>
    obtain ⟨i, rfl, hi, hi100, hk, hbw⟩ := hrel
    by_cases hlt : i < l.length
    · have hlt' : (i : Int) < (l.length : Int) := by omega
      by_cases hlt2 : i < 100
      · have hlt2' : (i : Int) < 100 := by omega
        obtain ⟨b1, o1, rfl, hw⟩ := HW.out.row i hlt
        have cv := (hw.below' hbw).val i hlt
        have hk2 := hk.out
        rw [show l.drop i = l[i] :: l.drop (i + 1) from List.drop_eq_getElem_cons hlt, List.all_cons] at hk2
        have HP := Lib.hid (HC.out i hlt)
        have HN := Lib.hid (HNO.out i hlt)
        have HK := Lib.hid hk2
        clear hk hw hk2
        generalize l[i] = x at *
        go_wp2_with fail
        refine (HP.out _).mono ?_
        rintro e w1 ⟨rfl, hb1⟩
        have hb1' := hbw.trans (hb1.mono hbw.size)
        clear hb1 cv
        cases hc : shortB x
        · obtain rfl := HN.out hc
          clear HN HP
          go_wp2
          go_ret
          exact Ret.of rfl hb1'
        · have hk3 := HK.out
          rw [hc, Bool.true_and] at hk3
          have HK3 := Lib.hid hk3
          clear hk3 HN HP HK
          go_wp2
          go_roundw
          case rel => exact ⟨i + 1, by go_num, by omega, by omega, HK3, hb1'⟩
          case measure => simp [intOf]; omega
      · have hlt2' : ¬ (i : Int) < 100 := by omega
        have hl100 : ¬ (l.length : Int) < 100 := by omega
        have hr := HSH.out
        rw [show decide (l.length < 100) = false by simp; omega, Bool.and_false] at hr
        subst hr
        clear hk HNO HC
        go_wp2
        go_ret
        exact Ret.of rfl hbw
    · obtain rfl : i = l.length := by omega
      have hr := HSH.out
      have hk2 := hk.out
      rw [List.drop_length, List.all_nil] at hk2
      rw [hk2, Bool.true_and, show decide (l.length < 100) = decide ((l.length : Int) < 100) by rw [decide_eq_decide]; omega] at hr
      subst hr
      clear hk hk2 HNO HC
      go_wp2
      go_ret
      exact Ret.of rfl hbw
theorem raccepts_bad (vt vc : Value) (ts : List Tg) (cs : List Cc) (p0 p1 p2 : List UInt8) (w : World) (ht : RdG w vt ts) (hc : RdC w vc cs) (nt : ts.length ≤ maxLen) (nc : cs.length ≤ maxLen) (h : chk46 ts cs ≠ 0) :
    Calls Tryz.prog 12 #[vt, vc, .agg #[.string (bs p0), .string (bs p1), .string (bs p2)]] w (Ret w (.tuple #[.bool false, .int .i64 ((chk46 ts cs : Nat) : Int)])) := by
  have hb0 := bel_al w (.cells #[.string (bs p0), .string (bs p1), .string (bs p2)] 27 (0, 0))
  have hr0 : Row (w.alloc (.cells #[.string (bs p0), .string (bs p1), .string (bs p2)] 27 (0, 0))) w.heap.size 27 [.string (bs p0), .string (bs p1), .string (bs p2)] := rnw
  have HR0 := Lib.hid (And.intro hb0 hr0)
  have HC := Lib.hid (rcheck46 vt vc ts cs _ (ht.below hb0) (hc.below hb0) nt nc)
  have hz := nz_bne h
  obtain ⟨At, ct, rfl⟩ := ht.len
  obtain ⟨Ac, cc, rfl⟩ := hc.len
  generalize ((chk46 ts cs : Nat) : Int) = k at *
  clear h ht hc nt nc hb0 hr0
  go_enter Tryz.func12, Tryz.ntmps12
  go_wp2_with fail
  refine HC.out.mono ?_
  rintro e w1 ⟨rfl, hb1⟩
  have HB1 := Lib.hid (bel_to HR0.out.1 hb1)
  clear hb1 HR0 HC
  go_wp2
  go_ret2
  exact ⟨rfl, HB1.out⟩
theorem raccepts_err (vt vc : Value) (ts : List Tg) (cs : List Cc) (p0 p1 p2 : List UInt8) (w : World) (ht : RdG w vt ts) (hc : RdC w vc cs) (h : chk46 ts cs = 0) (hl : ∀ p ∈ [p0, p1, p2], p.length ≤ 90000) (hp : chkRs [p0, p1, p2] ≠ 0) :
    Calls Tryz.prog 12 #[vt, vc, .agg #[.string (bs p0), .string (bs p1), .string (bs p2)]] w (Ret w (.tuple #[.bool false, .int .i64 ((chkRs [p0, p1, p2] : Nat) : Int)])) := by
  have hb0 := bel_al w (.cells #[.string (bs p0), .string (bs p1), .string (bs p2)] 27 (0, 0))
  have hr0 : Row (w.alloc (.cells #[.string (bs p0), .string (bs p1), .string (bs p2)] 27 (0, 0))) w.heap.size 27 [.string (bs p0), .string (bs p1), .string (bs p2)] := rnw
  have HR0 := Lib.hid (And.intro hb0 hr0)
  obtain ⟨_, h16, hlen, _⟩ := chk46_iff.1 h
  have hck := fun W (hW : Below w.heap.size w W) => rcheck46 vt vc ts cs W (ht.below hW) (hc.below hW) (by unfold maxLen; omega) (by unfold maxLen; omega)
  rw [h] at hck
  have HC : Hid (∀ W, Below w.heap.size w W → Calls Tryz.prog 9 #[vt, vc] W (Ret W (.int .i64 0))) := Lib.hid hck
  have HFI := Lib.hid (fun v W (hv : RdT W v [p0, p1, p2]) => rfirst46 v [p0, p1, p2] W hv hl (by simp))
  have hz := nz_bne hp
  obtain ⟨At, ct, rfl⟩ := ht.len
  obtain ⟨Ac, cc, rfl⟩ := hc.len
  generalize ((chkRs [p0, p1, p2] : Nat) : Int) = k at *
  clear ht hc h hb0 hr0 hck h16 hlen hl hp
  go_enter Tryz.func12, Tryz.ntmps12
  go_wp2_with fail
  refine (HC.out _ HR0.out.1).mono ?_
  rintro e w1 ⟨rfl, hb1⟩
  have H1 := Lib.hid (And.intro (bel_to HR0.out.1 hb1) (HR0.out.2.below' hb1))
  clear hb1 HR0 HC
  go_wp2_with fail
  refine (HFI.out _ _ (rdt_any (l := [p0, p1, p2]) H1.out.2)).mono ?_
  rintro e w2 ⟨rfl, hb2⟩
  have HB2 := Lib.hid (bel_to H1.out.1 hb2)
  clear hb2 H1 HFI
  go_wp2
  go_ret2
  exact ⟨rfl, HB2.out⟩
theorem raccepts_val (vt vc : Value) (ts : List Tg) (cs : List Cc) (x y z : Rat) (w : World) (ht : RdG w vt ts) (hc : RdC w vc cs) (h : chk46 ts cs = 0) (hq : ∀ q ∈ [x, y, z], Bq 30 q) :
    Calls Tryz.prog 12 #[vt, vc, .agg #[.string (bs (R x)), .string (bs (R y)), .string (bs (R z))]] w (Ret w (.tuple #[.bool (keepB (bnds (ts.zip cs)) [x, y, z] 0), .int .i64 0])) := by
  have hb0 := bel_al w (.cells #[.string (bs (R x)), .string (bs (R y)), .string (bs (R z))] 27 (0, 0))
  have hr0 : Row (w.alloc (.cells #[.string (bs (R x)), .string (bs (R y)), .string (bs (R z))] 27 (0, 0))) w.heap.size 27 [.string (bs (R x)), .string (bs (R y)), .string (bs (R z))] := rnw
  have HR0 := Lib.hid (And.intro hb0 hr0)
  obtain ⟨_, h16, hlen, _⟩ := chk46_iff.1 h
  have hck := fun W (hW : Below w.heap.size w W) => rcheck46 vt vc ts cs W (ht.below hW) (hc.below hW) (by unfold maxLen; omega) (by unfold maxLen; omega)
  rw [h] at hck
  have HC : Hid (∀ W, Below w.heap.size w W → Calls Tryz.prog 9 #[vt, vc] W (Ret W (.int .i64 0))) := Lib.hid hck
  have HFI : Hid (∀ v W, RdT W v (rx [x, y, z]) → Calls Tryz.prog 37 #[v] W (Ret W (.int .i64 0))) := Lib.hid (fun v W hv => by
    have h1 := rfirst46 v (rx [x, y, z]) W hv (rx_small30 hq) (by simp [rx])
    rw [chk_rx30 hq] at h1
    exact h1)
  have hkp := fun W (hW : Below w.heap.size w W) => rkeeps46 vt vc ts cs x y z 0 W (ht.below hW) (hc.below hW) h (fun q hq2 => (hq q hq2).mono (by decide)) (Bq_nil.mono (by decide))
  rw [R_nil] at hkp
  have HKP := Lib.hid hkp
  obtain ⟨At, ct, rfl⟩ := ht.len
  obtain ⟨Ac, cc, rfl⟩ := hc.len
  generalize keepB (bnds (ts.zip cs)) [x, y, z] 0 = kb at *
  clear ht hc h hq hb0 hr0 hck hkp h16 hlen
  go_enter Tryz.func12, Tryz.ntmps12
  go_wp2_with fail
  refine (HC.out _ HR0.out.1).mono ?_
  rintro e w1 ⟨rfl, hb1⟩
  have H1 := Lib.hid (And.intro (bel_to HR0.out.1 hb1) (HR0.out.2.below' hb1))
  clear hb1 HR0 HC
  go_wp2_with fail
  refine (HFI.out _ _ (rdt_any (l := rx [x, y, z]) H1.out.2)).mono ?_
  rintro e w2 ⟨rfl, hb2⟩
  have H2 := Lib.hid (And.intro (bel_to H1.out.1 hb2) (H1.out.2.below' hb2))
  clear hb2 H1 HFI
  have q0 := H2.out.2.cell (i := 0) rfl
  have q1 := H2.out.2.cell (i := 1) rfl
  have q2 := H2.out.2.cell (i := 2) rfl
  go_wp2_with fail
  refine (HKP.out _ H2.out.1).mono ?_
  rintro e w3 ⟨rfl, hb3⟩
  have HB3 := Lib.hid (bel_to H2.out.1 hb3)
  clear hb3 q0 q1 q2 H2 HKP
  go_wp2
  go_ret2
  exact ⟨rfl, HB3.out⟩
theorem rrefuses_bad (vt vc vp : Value) (ts : List Tg) (cs : List Cc) (q : List (List UInt8)) (w : World) (ht : RdG w vt ts) (hc : RdC w vc cs) (hp : RdT w vp q) (nt : ts.length ≤ maxLen) (nc : cs.length ≤ maxLen) (h : chk46 ts cs ≠ 0) :
    Calls Tryz.prog 13 #[vt, vc, vp] w (Ret w (.tuple #[.bool false, .int .i64 ((chk46 ts cs : Nat) : Int)])) := by
  have HC := Lib.hid (rcheck46 vt vc ts cs _ ht hc nt nc)
  have hz := nz_bne h
  obtain ⟨At, ct, rfl⟩ := ht.len
  obtain ⟨Ac, cc, rfl⟩ := hc.len
  obtain ⟨Aq, cq, rfl⟩ := hp.len
  generalize ((chk46 ts cs : Nat) : Int) = k at *
  clear h ht hc nt nc hp
  go_enter Tryz.func13, Tryz.ntmps13
  go_wp2_with fail
  refine HC.out.mono ?_
  rintro e w1 ⟨rfl, hb1⟩
  go_wp2
  go_ret2
  exact ⟨rfl, hb1⟩
theorem rrefuses_err (vt vc vp : Value) (ts : List Tg) (cs : List Cc) (q : List (List UInt8)) (w : World) (ht : RdG w vt ts) (hc : RdC w vc cs) (hp : RdT w vp q) (h : chk46 ts cs = 0) (hl : ∀ p ∈ q, p.length ≤ 90000) (hn : q.length ≤ 1000000) (hk : chkPt (((bnds (ts.zip cs)).length : Nat) : Int) q ≠ 0) :
    Calls Tryz.prog 13 #[vt, vc, vp] w (Ret w (.tuple #[.bool false, .int .i64 ((chkPt (((bnds (ts.zip cs)).length : Nat) : Int) q : Nat) : Int)])) := by
  obtain ⟨_, h16, hlen, _⟩ := chk46_iff.1 h
  have hck := fun W (hW : Below w.heap.size w W) => rcheck46 vt vc ts cs W (ht.below hW) (hc.below hW) (by unfold maxLen; omega) (by unfold maxLen; omega)
  rw [h] at hck
  have HC : Hid (∀ W, Below w.heap.size w W → Calls Tryz.prog 9 #[vt, vc] W (Ret W (.int .i64 0))) := Lib.hid hck
  have hbl : (bnds (ts.zip cs)).length = 4 * ts.length := by rw [bnds_len, List.length_zip]; omega
  have HFI := Lib.hid (fun W (hW : Below w.heap.size w W) => rfirst46 vp q W (hp.below hW) hl hn)
  rw [hbl] at hk
  rw [hbl]
  obtain ⟨At, ct, rfl⟩ := ht.len
  obtain ⟨Ac, cc, rfl⟩ := hc.len
  obtain ⟨Aq, cq, rfl⟩ := hp.len
  have hmul : wrap64 (4 * (ts.length : Int)) = 4 * (ts.length : Int) := by unfold wrap64; omega
  clear ht hc h hck hlen hl hn hp hbl
  by_cases hq : (q.length : Int) = 4 * (ts.length : Int)
  · have hne : ((q.length : Int) != 4 * (ts.length : Int)) = false := by rw [bne_eq_false_iff_eq]; exact hq
    have he : chkPt ((4 * ts.length : Nat) : Int) q = chkRs q := by unfold chkPt; rw [if_neg (by simp; omega)]
    rw [he] at hk
    rw [he]
    have hz := nz_bne hk
    generalize ((chkRs q : Nat) : Int) = k at *
    clear hk he hq
    go_enter Tryz.func13, Tryz.ntmps13
    go_wp2_with fail
    refine (HC.out _ (Below.refl _ _)).mono ?_
    rintro e w1 ⟨rfl, hb1⟩
    have HB1 := Lib.hid hb1
    clear hb1 HC
    go_wp2_with fail
    refine (HFI.out _ HB1.out).mono ?_
    rintro e w2 ⟨rfl, hb2⟩
    have HB2 := Lib.hid (bel_to HB1.out hb2)
    clear hb2 HB1 HFI
    go_wp2
    go_ret2
    exact ⟨rfl, HB2.out⟩
  · have hne : ((q.length : Int) != 4 * (ts.length : Int)) = true := by rw [bne_iff_ne]; exact hq
    have he : chkPt ((4 * ts.length : Nat) : Int) q = 8 := by unfold chkPt; rw [if_pos (by simp; omega)]
    rw [he]
    clear hk he hq HFI
    go_enter Tryz.func13, Tryz.ntmps13
    go_wp2_with fail
    refine (HC.out _ (Below.refl _ _)).mono ?_
    rintro e w1 ⟨rfl, hb1⟩
    go_wp2
    go_ret2
    exact ⟨rfl, hb1⟩
end W
end Go.Proofs.YtnaikafamjebdaaGreatDoor
end
section
namespace Go.Proofs.YtnaikafamjebdaaGreatDoor
open Go Go.RowKit Go.Deep
namespace M
def few46 (n m : Nat) : Bool := (decide (n ≤ 5) && decide (m ≤ 6)) || (decide (16 < n) && decide (n < 100) && decide (m < 100))
end M
namespace W
open M
attribute [local go_sem] bs_size bs_toList bs_get bs_extract bs_append bs_lit0 bs_lit1 lit1_bs
set_option maxHeartbeats 2000000
set_option maxRecDepth 20000
theorem rfew46 (vt vc : Value) (ts : List Tg) (cs : List Cc) (w : World) (ht : RdG w vt ts) (hc : RdC w vc cs) : Calls Tryz.prog 6 #[vt, vc] w (Ret w (.bool (few46 ts.length cs.length))) := by
  obtain ⟨At, ct, rfl⟩ := ht.len
  obtain ⟨Ac, cc, rfl⟩ := hc.len
  clear ht hc
  generalize ts.length = n at *
  generalize cs.length = m at *
  by_cases h1 : n ≤ 5
  · have i1 : (n : Int) ≤ 5 := by omega
    by_cases h2 : m ≤ 6
    · have i2 : (m : Int) ≤ 6 := by omega
      have HF := Lib.hid (show few46 n m = true by unfold few46; simp [h1, h2])
      clear h1 h2
      go_enter Tryz.func6, Tryz.ntmps6
      go_wp2
      go_ret
      exact Ret.of (by rw [HF.out]; rfl) (Below.refl _ _)
    · have i2 : ¬ (m : Int) ≤ 6 := by omega
      have i3 : ¬ (16 : Int) < (n : Int) := by omega
      have HF := Lib.hid (show few46 n m = false by unfold few46; simp [h1, h2]; omega)
      clear h1 h2
      go_enter Tryz.func6, Tryz.ntmps6
      go_wp2
      go_ret
      exact Ret.of (by rw [HF.out]; rfl) (Below.refl _ _)
  · have i1 : ¬ (n : Int) ≤ 5 := by omega
    by_cases h3 : 16 < n
    · have i3 : (16 : Int) < (n : Int) := by omega
      by_cases h4 : n < 100
      · have i4 : (n : Int) < 100 := by omega
        by_cases h5 : m < 100
        · have i5 : (m : Int) < 100 := by omega
          have HF := Lib.hid (show few46 n m = true by unfold few46; simp [h1, h3, h4, h5])
          clear h1 h3 h4 h5
          go_enter Tryz.func6, Tryz.ntmps6
          go_wp2
          go_ret
          exact Ret.of (by rw [HF.out]; rfl) (Below.refl _ _)
        · have i5 : ¬ (m : Int) < 100 := by omega
          have HF := Lib.hid (show few46 n m = false by unfold few46; simp [h1, h3, h4, h5])
          clear h1 h3 h4 h5
          go_enter Tryz.func6, Tryz.ntmps6
          go_wp2
          go_ret
          exact Ret.of (by rw [HF.out]; rfl) (Below.refl _ _)
      · have i4 : ¬ (n : Int) < 100 := by omega
        have HF := Lib.hid (show few46 n m = false by unfold few46; simp [h1, h3, h4])
        clear h1 h3 h4
        go_enter Tryz.func6, Tryz.ntmps6
        go_wp2
        go_ret
        exact Ret.of (by rw [HF.out]; rfl) (Below.refl _ _)
    · have i3 : ¬ (16 : Int) < (n : Int) := by omega
      have HF := Lib.hid (show few46 n m = false by unfold few46; simp [h1, h3])
      clear h1 h3
      go_enter Tryz.func6, Tryz.ntmps6
      go_wp2
      go_ret
      exact Ret.of (by rw [HF.out]; rfl) (Below.refl _ _)
end W
end Go.Proofs.YtnaikafamjebdaaGreatDoor
end
section
namespace Go.Proofs.YtnaikafamjebdaaGreatDoor
open Go Go.RowKit Go.Deep
theorem rdt_pre {W : World} {g cap : Nat} {t : TypeId} {l : List (List UInt8)} {xs : List Value} (hr : Row W g t (Strs l ++ xs)) : RdT W (.slice (some ⟨g, 0, none⟩) l.length cap) l :=
  ⟨_, _, rfl, Or.inr ⟨g, 0, rfl, hr.lt, fun i hi => by
    rw [Nat.zero_add]
    exact hr.cell (by rw [List.getElem?_append_left (by simpa [Strs] using hi)]; simp [Strs, hi])⟩⟩
namespace M
theorem texts30 : ∀ {l : List (List UInt8)}, (∀ p ∈ l, shortB p = true) → chkRs l = 0 → ∃ zl : List Rat, l = rx zl ∧ ∀ x ∈ zl, Bq 30 x
  | [], _, _ => ⟨[], rfl, fun x h => by cases h⟩
  | p :: t, hs, h => by
    rw [chkRs] at h
    by_cases hp : chkR p = 0
    · rw [if_pos hp] at h
      obtain ⟨q, rfl, hq⟩ := short_R (hs p List.mem_cons_self) hp
      obtain ⟨zl, rfl, hz⟩ := texts30 (fun x hx => hs x (List.mem_cons_of_mem _ hx)) h
      refine ⟨q :: zl, rfl, fun x hx => ?_⟩
      rcases List.mem_cons.1 hx with rfl | hx
      · exact hq
      · exact hz x hx
    · rw [if_neg hp] at h
      exact absurd h hp
end M
namespace W
open M
attribute [local go_sem] bs_size bs_toList bs_get bs_extract bs_append bs_lit0 bs_lit1 lit1_bs
set_option maxHeartbeats 2000000
set_option maxRecDepth 20000
theorem rrefuses_val (vt vc vp : Value) (ts : List Tg) (cs : List Cc) (q : List Rat) (w : World) (ht : RdG w vt ts) (hc : RdC w vc cs) (h : chk46 ts cs = 0) (h5 : ts.length ≤ 5) (hq : ∀ x ∈ q, Bq 30 x) (hl : q.length = (bnds (ts.zip cs)).length) (hp : RdT w vp (rx q)) :
    Calls Tryz.prog 13 #[vt, vc, vp] w (Ret w (.tuple #[.bool (rfV (bnds (ts.zip cs)) q 3 == 0), .int .i64 0])) := by
  obtain ⟨_, h16, hlen, _⟩ := chk46_iff.1 h
  obtain ⟨h1, h2, h3⟩ := bnds_few h h5
  have hql : q.length = 4 * ts.length := by rw [hl, bnds_len, List.length_zip]; omega
  have hck := fun W (hW : Below w.heap.size w W) => rcheck46 vt vc ts cs W (ht.below hW) (hc.below hW) (by unfold maxLen; omega) (by unfold maxLen; omega)
  rw [h] at hck
  have HC : Hid (∀ W, Below w.heap.size w W → Calls Tryz.prog 9 #[vt, vc] W (Ret W (.int .i64 0))) := Lib.hid hck
  have HFI : Hid (∀ W, Below w.heap.size w W → Calls Tryz.prog 37 #[vp] W (Ret W (.int .i64 0))) := Lib.hid (fun W hW => by
    have h1 := rfirst46 vp (rx q) W (hp.below hW) (rx_small30 hq) (by rw [rx_len]; omega)
    rw [chk_rx30 hq] at h1
    exact h1)
  have HAL := Lib.hid (fun W (hW : Below w.heap.size w W) => rall46 vt vc ts cs W (ht.below hW) (hc.below hW) h)
  have HRF : Hid (∀ v W, Below w.heap.size w W → RdB W v (bx (bnds (ts.zip cs))) → Calls Tryz.prog 39 #[.int .i64 3, v, vp] W (Ret W (.int .i64 (rfV (bnds (ts.zip cs)) q 3)))) := Lib.hid (fun v W hW hv =>
    rrefute_ok 3 v vp _ q W hv (wire_right h1.right (by decide) (by omega)) (chk5_ok (n := 3) (by decide) (by decide) (by omega) h1.right) (hp.below hW) (by decide) (by decide) h1.right hl hq (by omega))
  obtain ⟨At, ct, rfl⟩ := ht.len
  obtain ⟨Ac, cc, rfl⟩ := hc.len
  obtain ⟨Aq, cq, rfl⟩ := hp.len
  rw [rx_len] at HFI HRF ⊢
  have hmul : wrap64 (4 * (ts.length : Int)) = 4 * (ts.length : Int) := by unfold wrap64; omega
  have hne : ((q.length : Int) != 4 * (ts.length : Int)) = false := by rw [bne_eq_false_iff_eq]; omega
  generalize rfV (bnds (ts.zip cs)) q 3 = rv at *
  clear ht hc h h5 hq hl hp hck h16 hlen h1 h2 h3 hql
  go_enter Tryz.func13, Tryz.ntmps13
  go_wp2_with fail
  refine (HC.out _ (Below.refl _ _)).mono ?_
  rintro e w1 ⟨rfl, hb1⟩
  have HB1 := Lib.hid hb1
  clear hb1 HC
  go_wp2_with fail
  refine (HFI.out _ HB1.out).mono ?_
  rintro e w2 ⟨rfl, hb2⟩
  have HB2 := Lib.hid (bel_to HB1.out hb2)
  clear hb2 HB1 HFI
  go_wp2_with fail
  refine (HAL.out _ HB2.out).mono ?_
  rintro e w3 ⟨v, es, rfl, hs, hm⟩
  have hrd : RdB w3 v (bx (bnds (ts.zip cs))) := by rw [← hm]; exact OwnE.rd hs.own hs.good.good
  have HB3 := Lib.hid (bel_to HB2.out hs.bel)
  obtain ⟨A, c, rfl⟩ := hrd.len
  have HRD := Lib.hid hrd
  clear hs hm hrd HAL HB2
  go_wp2_with fail
  refine (HRF.out _ _ HB3.out HRD.out).mono ?_
  rintro e w4 ⟨rfl, hb4⟩
  have HB4 := Lib.hid (bel_to HB3.out hb4)
  clear hb4 HB3 HRD HRF
  go_wp2
  go_ret2
  exact ⟨rfl, HB4.out⟩
theorem judges_not (vt vc vp : Value) (ts : List Tg) (cs : List Cc) (p0 p1 p2 : List UInt8) (q : List (List UInt8)) (w : World) (hg : Glob w) (hs : Sig w) (ht : RdG w vt ts) (hc : RdC w vc cs) (hp : RdT w vp q) (h0 : p0.length ≤ maxLen) (h1 : p1.length ≤ maxLen) (h2 : p2.length ≤ maxLen) (hql : ∀ x ∈ q, x.length ≤ maxLen) (hqn : q.length ≤ maxLen) (hn : few46 ts.length cs.length = false) : Calls Tryz.prog 5 #[vt, vc, .agg #[.string (bs p0), .string (bs p1), .string (bs p2), vp]] w (Ret w (.bool true)) := by
  have hb0 := bel_al w (.cells #[.string (bs p0), .string (bs p1), .string (bs p2), vp] 56 (0, 0))
  have hr0 : Row (w.alloc (.cells #[.string (bs p0), .string (bs p1), .string (bs p2), vp] 56 (0, 0))) w.heap.size 56 (Strs [p0, p1, p2] ++ [vp]) := rnw
  have H0 := Lib.hid (And.intro hb0 hr0)
  have hr := fun W (hW : Below w.heap.size w W) => rfew46 vt vc ts cs W (ht.below hW) (hc.below hW)
  have HA := Lib.hid (fun W (hW : Below w.heap.size w W) => awake46 W (hg.of hW) (hs.below hW))
  have HS1 := Lib.hid (fun v W (hv : RdT W v [p0, p1, p2]) => rshort46 v [p0, p1, p2] W hv (by intro x hx; simp at hx; rcases hx with rfl | rfl | rfl <;> assumption) (by unfold maxLen; simp))
  have HS2 := Lib.hid (fun W (hW : Below w.heap.size w W) => rshort46 vp q W (hp.below hW) hql hqn)
  rw [hn] at hr
  have HR := Lib.hid hr
  obtain ⟨At, ct, rfl⟩ := ht.len
  obtain ⟨Ac, cc, rfl⟩ := hc.len
  obtain ⟨Aq, cq, rfl⟩ := hp.len
  clear hg hs ht hc hp h0 h1 h2 hql hqn hb0 hr0 hr
  clear hn HS1 HS2
  go_enter Tryz.func5, Tryz.ntmps5
  go_wp2_with fail
  refine (HR.out _ H0.out.1).mono ?_
  rintro e w1 ⟨rfl, hb1⟩
  have H1 := Lib.hid (And.intro (bel_to H0.out.1 hb1) (H0.out.2.below' hb1))
  clear hb1 H0
  go_wp2_with fail
  refine (HA.out _ H1.out.1).mono ?_
  rintro e w9 ⟨rfl, hb9⟩
  have HB9 := Lib.hid (bel_to H1.out.1 hb9)
  clear hb9 H1 HA
  go_wp2
  go_ret
  exact ⟨rfl, HB9.out⟩
theorem judges_no1 (vt vc vp : Value) (ts : List Tg) (cs : List Cc) (p0 p1 p2 : List UInt8) (q : List (List UInt8)) (w : World) (hg : Glob w) (hs : Sig w) (ht : RdG w vt ts) (hc : RdC w vc cs) (hp : RdT w vp q) (h0 : p0.length ≤ maxLen) (h1 : p1.length ≤ maxLen) (h2 : p2.length ≤ maxLen) (hql : ∀ x ∈ q, x.length ≤ maxLen) (hqn : q.length ≤ maxLen) (hn : few46 ts.length cs.length = true) (hn1 : short46 [p0, p1, p2] = false) : Calls Tryz.prog 5 #[vt, vc, .agg #[.string (bs p0), .string (bs p1), .string (bs p2), vp]] w (Ret w (.bool true)) := by
  have hb0 := bel_al w (.cells #[.string (bs p0), .string (bs p1), .string (bs p2), vp] 56 (0, 0))
  have hr0 : Row (w.alloc (.cells #[.string (bs p0), .string (bs p1), .string (bs p2), vp] 56 (0, 0))) w.heap.size 56 (Strs [p0, p1, p2] ++ [vp]) := rnw
  have H0 := Lib.hid (And.intro hb0 hr0)
  have hr := fun W (hW : Below w.heap.size w W) => rfew46 vt vc ts cs W (ht.below hW) (hc.below hW)
  have HA := Lib.hid (fun W (hW : Below w.heap.size w W) => awake46 W (hg.of hW) (hs.below hW))
  have HS1 := Lib.hid (fun v W (hv : RdT W v [p0, p1, p2]) => rshort46 v [p0, p1, p2] W hv (by intro x hx; simp at hx; rcases hx with rfl | rfl | rfl <;> assumption) (by unfold maxLen; simp))
  have HS2 := Lib.hid (fun W (hW : Below w.heap.size w W) => rshort46 vp q W (hp.below hW) hql hqn)
  rw [hn] at hr
  have HR := Lib.hid hr
  rw [hn1] at HS1
  obtain ⟨At, ct, rfl⟩ := ht.len
  obtain ⟨Ac, cc, rfl⟩ := hc.len
  obtain ⟨Aq, cq, rfl⟩ := hp.len
  clear hg hs ht hc hp h0 h1 h2 hql hqn hb0 hr0 hr
  clear hn hn1 HS2
  go_enter Tryz.func5, Tryz.ntmps5
  go_wp2_with fail
  refine (HR.out _ H0.out.1).mono ?_
  rintro e w1 ⟨rfl, hb1⟩
  have H1 := Lib.hid (And.intro (bel_to H0.out.1 hb1) (H0.out.2.below' hb1))
  clear hb1 H0
  go_wp2_with fail
  refine (HS1.out _ _ (rdt_pre (cap := 3) (l := [p0, p1, p2]) H1.out.2)).mono ?_
  rintro e w2 ⟨rfl, hb2⟩
  have H2 := Lib.hid (And.intro (bel_to H1.out.1 hb2) (H1.out.2.below' hb2))
  clear hb2 H1
  go_wp2_with fail
  refine (HA.out _ H2.out.1).mono ?_
  rintro e w9 ⟨rfl, hb9⟩
  have HB9 := Lib.hid (bel_to H2.out.1 hb9)
  clear hb9 H2 HA
  go_wp2
  go_ret
  exact ⟨rfl, HB9.out⟩
theorem judges_no2 (vt vc vp : Value) (ts : List Tg) (cs : List Cc) (p0 p1 p2 : List UInt8) (q : List (List UInt8)) (w : World) (hg : Glob w) (hs : Sig w) (ht : RdG w vt ts) (hc : RdC w vc cs) (hp : RdT w vp q) (h0 : p0.length ≤ maxLen) (h1 : p1.length ≤ maxLen) (h2 : p2.length ≤ maxLen) (hql : ∀ x ∈ q, x.length ≤ maxLen) (hqn : q.length ≤ maxLen) (hn : few46 ts.length cs.length = true) (hn1 : short46 [p0, p1, p2] = true) (hn2 : short46 q = false) : Calls Tryz.prog 5 #[vt, vc, .agg #[.string (bs p0), .string (bs p1), .string (bs p2), vp]] w (Ret w (.bool true)) := by
  have hb0 := bel_al w (.cells #[.string (bs p0), .string (bs p1), .string (bs p2), vp] 56 (0, 0))
  have hr0 : Row (w.alloc (.cells #[.string (bs p0), .string (bs p1), .string (bs p2), vp] 56 (0, 0))) w.heap.size 56 (Strs [p0, p1, p2] ++ [vp]) := rnw
  have H0 := Lib.hid (And.intro hb0 hr0)
  have hr := fun W (hW : Below w.heap.size w W) => rfew46 vt vc ts cs W (ht.below hW) (hc.below hW)
  have HA := Lib.hid (fun W (hW : Below w.heap.size w W) => awake46 W (hg.of hW) (hs.below hW))
  have HS1 := Lib.hid (fun v W (hv : RdT W v [p0, p1, p2]) => rshort46 v [p0, p1, p2] W hv (by intro x hx; simp at hx; rcases hx with rfl | rfl | rfl <;> assumption) (by unfold maxLen; simp))
  have HS2 := Lib.hid (fun W (hW : Below w.heap.size w W) => rshort46 vp q W (hp.below hW) hql hqn)
  rw [hn] at hr
  have HR := Lib.hid hr
  rw [hn1] at HS1
  rw [hn2] at HS2
  obtain ⟨At, ct, rfl⟩ := ht.len
  obtain ⟨Ac, cc, rfl⟩ := hc.len
  obtain ⟨Aq, cq, rfl⟩ := hp.len
  clear hg hs ht hc hp h0 h1 h2 hql hqn hb0 hr0 hr
  clear hn hn1 hn2
  go_enter Tryz.func5, Tryz.ntmps5
  go_wp2_with fail
  refine (HR.out _ H0.out.1).mono ?_
  rintro e w1 ⟨rfl, hb1⟩
  have H1 := Lib.hid (And.intro (bel_to H0.out.1 hb1) (H0.out.2.below' hb1))
  clear hb1 H0
  go_wp2_with fail
  refine (HS1.out _ _ (rdt_pre (cap := 3) (l := [p0, p1, p2]) H1.out.2)).mono ?_
  rintro e w2 ⟨rfl, hb2⟩
  have H2 := Lib.hid (And.intro (bel_to H1.out.1 hb2) (H1.out.2.below' hb2))
  clear hb2 H1
  have c3 := H2.out.2.cell (i := 3) rfl
  go_wp2_with fail
  refine (HS2.out _ H2.out.1).mono ?_
  rintro e w3 ⟨rfl, hb3⟩
  have H3 := Lib.hid (And.intro (bel_to H2.out.1 hb3) (H2.out.2.below' hb3))
  clear hb3 H2 c3
  go_wp2_with fail
  refine (HA.out _ H3.out.1).mono ?_
  rintro e w9 ⟨rfl, hb9⟩
  have HB9 := Lib.hid (bel_to H3.out.1 hb9)
  clear hb9 H3 HA
  go_wp2
  go_ret
  exact ⟨rfl, HB9.out⟩
theorem judges_core (vt vc vp : Value) (ts : List Tg) (cs : List Cc) (p0 p1 p2 : List UInt8) (q : List (List UInt8)) (w : World) (hg : Glob w) (hs : Sig w) (ht : RdG w vt ts) (hc : RdC w vc cs) (hp : RdT w vp q) (h0 : p0.length ≤ maxLen) (h1 : p1.length ≤ maxLen) (h2 : p2.length ≤ maxLen) (hql : ∀ x ∈ q, x.length ≤ maxLen) (hqn : q.length ≤ maxLen) (hn : few46 ts.length cs.length = true) (hn1 : short46 [p0, p1, p2] = true) (hn2 : short46 q = true) (k1 k2 : Int) (b1 b2 : Bool)
    (hPA : ∀ W, Below w.heap.size w W → Calls Tryz.prog 23 #[vt, vc, .agg #[.string (bs p0), .string (bs p1), .string (bs p2)]] W (Ret W (.tuple #[.bool b1, .int .i64 k1])))
    (hRA : ∀ W, Below w.heap.size w W → Calls Tryz.prog 12 #[vt, vc, .agg #[.string (bs p0), .string (bs p1), .string (bs p2)]] W (Ret W (.tuple #[.bool b1, .int .i64 k1])))
    (hPR : ∀ W, Below w.heap.size w W → Calls Tryz.prog 24 #[vt, vc, vp] W (Ret W (.tuple #[.bool b2, .int .i64 k2])))
    (hRR : ∀ W, Below w.heap.size w W → Calls Tryz.prog 13 #[vt, vc, vp] W (Ret W (.tuple #[.bool b2, .int .i64 k2]))) : Calls Tryz.prog 5 #[vt, vc, .agg #[.string (bs p0), .string (bs p1), .string (bs p2), vp]] w (Ret w (.bool true)) := by
  have hb0 := bel_al w (.cells #[.string (bs p0), .string (bs p1), .string (bs p2), vp] 56 (0, 0))
  have hr0 : Row (w.alloc (.cells #[.string (bs p0), .string (bs p1), .string (bs p2), vp] 56 (0, 0))) w.heap.size 56 (Strs [p0, p1, p2] ++ [vp]) := rnw
  have H0 := Lib.hid (And.intro hb0 hr0)
  have hr := fun W (hW : Below w.heap.size w W) => rfew46 vt vc ts cs W (ht.below hW) (hc.below hW)
  have HA := Lib.hid (fun W (hW : Below w.heap.size w W) => awake46 W (hg.of hW) (hs.below hW))
  have HS1 := Lib.hid (fun v W (hv : RdT W v [p0, p1, p2]) => rshort46 v [p0, p1, p2] W hv (by intro x hx; simp at hx; rcases hx with rfl | rfl | rfl <;> assumption) (by unfold maxLen; simp))
  have HS2 := Lib.hid (fun W (hW : Below w.heap.size w W) => rshort46 vp q W (hp.below hW) hql hqn)
  rw [hn] at hr
  have HR := Lib.hid hr
  rw [hn1] at HS1
  rw [hn2] at HS2
  obtain ⟨At, ct, rfl⟩ := ht.len
  obtain ⟨Ac, cc, rfl⟩ := hc.len
  obtain ⟨Aq, cq, rfl⟩ := hp.len
  have HPA := Lib.hid hPA
  have HRA := Lib.hid hRA
  have HPR := Lib.hid hPR
  have HRR := Lib.hid hRR
  clear hg hs ht hc hp h0 h1 h2 hql hqn hb0 hr0 hr
  clear hn hn1 hn2 hPA hRA hPR hRR
  go_enter Tryz.func5, Tryz.ntmps5
  go_wp2_with fail
  refine (HR.out _ H0.out.1).mono ?_
  rintro e w1 ⟨rfl, hb1⟩
  have H1 := Lib.hid (And.intro (bel_to H0.out.1 hb1) (H0.out.2.below' hb1))
  clear hb1 H0
  go_wp2_with fail
  refine (HS1.out _ _ (rdt_pre (cap := 3) (l := [p0, p1, p2]) H1.out.2)).mono ?_
  rintro e w2 ⟨rfl, hb2⟩
  have H2 := Lib.hid (And.intro (bel_to H1.out.1 hb2) (H1.out.2.below' hb2))
  clear hb2 H1
  have c3 := H2.out.2.cell (i := 3) rfl
  go_wp2_with fail
  refine (HS2.out _ H2.out.1).mono ?_
  rintro e w3 ⟨rfl, hb3⟩
  have H3 := Lib.hid (And.intro (bel_to H2.out.1 hb3) (H2.out.2.below' hb3))
  clear c3 hb3 H2
  have c0 := H3.out.2.cell (i := 0) rfl
  have c1 := H3.out.2.cell (i := 1) rfl
  have c2 := H3.out.2.cell (i := 2) rfl
  go_wp2_with fail
  refine (HPA.out _ H3.out.1).mono ?_
  rintro e w4 ⟨rfl, hb4⟩
  have H4 := Lib.hid (And.intro (bel_to H3.out.1 hb4) (H3.out.2.below' hb4))
  clear c0 c1 c2 hb4 H3
  have c0 := H4.out.2.cell (i := 0) rfl
  have c1 := H4.out.2.cell (i := 1) rfl
  have c2 := H4.out.2.cell (i := 2) rfl
  go_wp2_with fail
  refine (HRA.out _ H4.out.1).mono ?_
  rintro e w5 ⟨rfl, hb5⟩
  have H5 := Lib.hid (And.intro (bel_to H4.out.1 hb5) (H4.out.2.below' hb5))
  clear c0 c1 c2 hb5 H4
  have c3 := H5.out.2.cell (i := 3) rfl
  go_wp2_with fail
  refine (HPR.out _ H5.out.1).mono ?_
  rintro e w6 ⟨rfl, hb6⟩
  have H6 := Lib.hid (And.intro (bel_to H5.out.1 hb6) (H5.out.2.below' hb6))
  clear c3 hb6 H5
  have c3 := H6.out.2.cell (i := 3) rfl
  go_wp2_with fail
  refine (HRR.out _ H6.out.1).mono ?_
  rintro e w7 ⟨rfl, hb7⟩
  have H7 := Lib.hid (And.intro (bel_to H6.out.1 hb7) (H6.out.2.below' hb7))
  clear c3 hb7 H6
  go_wp2_with fail
  refine (HA.out _ H7.out.1).mono ?_
  rintro e w9 ⟨rfl, hb9⟩
  have HB9 := Lib.hid (bel_to H7.out.1 hb9)
  clear hb9 H7 HA
  go_wp2
  go_ret
  exact Ret.of (by simp) HB9.out
end W
end Go.Proofs.YtnaikafamjebdaaGreatDoor
end
section
namespace Go.Proofs.YtnaikafamjebdaaGreatDoor
open Go Go.RowKit Go.Deep
namespace M
theorem chkR_le (l : List UInt8) : chkR l ≤ 11 := by
  unfold chkR; (repeat' split) <;> omega
theorem chkRs_le : ∀ l : List (List UInt8), chkRs l ≤ 11
  | [] => by simp [chkRs]
  | p :: t => by
    rw [chkRs]
    split
    · exact chkRs_le t
    · exact chkR_le p
theorem keeps_eq {l : List BQ} {p : List Rat} (hr : RightB 3 l) : (l.all fun b => keepsB b p) = keepB l p 0 := by
  unfold keepB
  rw [Bool.eq_iff_iff, List.all_eq_true, List.all_eq_true]
  constructor
  · intro h b hb
    have := h b hb
    unfold keepsB valQ at this
    rw [(hr b hb).1, decide_eq_true_eq] at this
    rw [decide_eq_true_eq]
    grind
  · intro h b hb
    have := h b hb
    rw [decide_eq_true_eq] at this
    unfold keepsB valQ
    rw [(hr b hb).1, decide_eq_true_eq]
    grind
theorem short46_all {l : List (List UInt8)} (h : short46 l = true) : (∀ p ∈ l, shortB p = true) ∧ l.length < 100 := by
  unfold short46 at h
  rw [Bool.and_eq_true, List.all_eq_true, decide_eq_true_eq] at h
  exact h
end M
namespace W
open M
theorem chkPt_le (n : Int) (l : List (List UInt8)) : chkPt n l ≤ 11 := by
  unfold chkPt
  split
  · omega
  · exact chkRs_le l
theorem acc46 (vt vc : Value) (ts : List Tg) (cs : List Cc) (p0 p1 p2 : List UInt8) (w : World) (hg : Glob w) (hs : Sig w) (ht : RdG w vt ts) (hc : RdC w vc cs) (nt : ts.length ≤ maxLen) (nc : cs.length ≤ maxLen) (hn : few46 ts.length cs.length = true) (h1 : short46 [p0, p1, p2] = true) :
    ∃ b k, (∀ W, Below w.heap.size w W → Calls Tryz.prog 23 #[vt, vc, .agg #[.string (bs p0), .string (bs p1), .string (bs p2)]] W (Ret W (.tuple #[.bool b, .int .i64 k]))) ∧
      (∀ W, Below w.heap.size w W → Calls Tryz.prog 12 #[vt, vc, .agg #[.string (bs p0), .string (bs p1), .string (bs p2)]] W (Ret W (.tuple #[.bool b, .int .i64 k]))) := by
  by_cases h : chk46 ts cs = 0
  · have h5 : ts.length ≤ 5 := by
      have h16 := (chk46_iff.1 h).2.1
      unfold few46 at hn
      simp at hn
      omega
    obtain ⟨g1, g2, g3⟩ := bnds_few h h5
    have hsl : ∀ p ∈ [p0, p1, p2], p.length ≤ 90000 := fun p hp => by have := short_num ((short46_all h1).1 p hp); omega
    by_cases hk : chkRs [p0, p1, p2] = 0
    · obtain ⟨zl, he, hz⟩ := texts30 (short46_all h1).1 hk
      obtain ⟨x, y, z, rfl⟩ : ∃ x y z, zl = [x, y, z] := by
        match zl, he with
        | [x, y, z], _ => exact ⟨x, y, z, rfl⟩
        | [], he => cases he
        | [_], he => simp [rx] at he
        | [_, _], he => simp [rx] at he
        | _ :: _ :: _ :: _ :: _, he => simp [rx] at he
      have e3 : p0 = R x ∧ p1 = R y ∧ p2 = R z := by simpa [rx] using he
      obtain ⟨rfl, rfl, rfl⟩ := e3
      refine ⟨keepB (bnds (ts.zip cs)) [x, y, z] 0, 0, fun W hW => ?_, fun W hW => raccepts_val vt vc ts cs x y z W (ht.below hW) (hc.below hW) h hz⟩
      have hv := fun v vp W hW hv hp => pverify_ok 3 v vp _ [x, y, z] W hW hv (wire_right g1.right (by decide) (by omega)) (chk5_ok (n := 3) (by decide) (by decide) (by omega) g1.right) hp (by decide) g1.right rfl hz (chk_rx30 hz) (by omega)
      rw [keeps_eq g1.right] at hv
      cases hb : keepB (bnds (ts.zip cs)) [x, y, z] 0
      · rw [hb] at hv
        exact paccepts_gen vt vc _ _ _ _ _ W (hg.of hW) (hs.below hW) (ht.below hW) (hc.below hW) nt nc h 15 0 false pshown_proof hv
      · rw [hb] at hv
        exact paccepts_gen vt vc _ _ _ _ _ W (hg.of hW) (hs.below hW) (ht.below hW) (hc.below hW) nt nc h 0 0 true pshown_ok hv
    · have hkp : chkPt 3 [p0, p1, p2] = chkRs [p0, p1, p2] := by unfold chkPt; rw [if_neg (by simp)]
      have hle := chkRs_le [p0, p1, p2]
      refine ⟨false, ((chkRs [p0, p1, p2] : Nat) : Int), fun W hW => ?_, fun W hW => raccepts_err vt vc ts cs p0 p1 p2 W (ht.below hW) (hc.below hW) h hsl hk⟩
      refine paccepts_gen vt vc _ _ _ _ _ W (hg.of hW) (hs.below hW) (ht.below hW) (hc.below hW) nt nc h ((chkRs [p0, p1, p2] : Nat) : Int) ((chkRs [p0, p1, p2] : Nat) : Int) false (pshown_err _ (by omega) (by omega)) fun v vp W hW hv hp => ?_
      have := pverify_bad2 3 v vp _ [p0, p1, p2] W hW hv (wire_right g1.right (by decide) (by omega)) (chk5_ok (n := 3) (by decide) (by decide) (by omega) g1.right) hp hsl (by simp) (by rw [hkp]; exact hk)
      rw [hkp] at this
      exact this
  · exact ⟨false, _, fun W hW => paccepts_bad vt vc _ ts cs p0 p1 p2 W (hs.below hW) (ht.below hW) (hc.below hW) nt nc h rfl, fun W hW => raccepts_bad vt vc ts cs p0 p1 p2 W (ht.below hW) (hc.below hW) nt nc h⟩
theorem ref46 (vt vc vp : Value) (ts : List Tg) (cs : List Cc) (q : List (List UInt8)) (w : World) (hg : Glob w) (hs : Sig w) (ht : RdG w vt ts) (hc : RdC w vc cs) (hp : RdT w vp q) (nt : ts.length ≤ maxLen) (nc : cs.length ≤ maxLen) (hn : few46 ts.length cs.length = true) (h1 : short46 q = true) :
    ∃ b k, (∀ W, Below w.heap.size w W → Calls Tryz.prog 24 #[vt, vc, vp] W (Ret W (.tuple #[.bool b, .int .i64 k]))) ∧
      (∀ W, Below w.heap.size w W → Calls Tryz.prog 13 #[vt, vc, vp] W (Ret W (.tuple #[.bool b, .int .i64 k]))) := by
  by_cases h : chk46 ts cs = 0
  · have h5 : ts.length ≤ 5 := by
      have h16 := (chk46_iff.1 h).2.1
      unfold few46 at hn
      simp at hn
      omega
    obtain ⟨g1, g2, g3⟩ := bnds_few h h5
    have hsl : ∀ p ∈ q, p.length ≤ 90000 := fun p hp => by have := short_num ((short46_all h1).1 p hp); omega
    have hqn := (short46_all h1).2
    by_cases hk : chkPt (((bnds (ts.zip cs)).length : Nat) : Int) q = 0
    · have hk2 : (q.length : Int) = ((bnds (ts.zip cs)).length : Nat) ∧ chkRs q = 0 := by
        unfold chkPt at hk
        split at hk
        · cases hk
        · rename_i h; exact ⟨by simpa using h, hk⟩
      obtain ⟨zl, rfl, hz⟩ := texts30 (short46_all h1).1 hk2.2
      have hl : zl.length = (bnds (ts.zip cs)).length := by have := hk2.1; rw [rx_len] at this; omega
      refine ⟨rfV (bnds (ts.zip cs)) zl 3 == 0, 0, fun W hW => ?_, fun W hW => rrefuses_val vt vc vp ts cs zl W (ht.below hW) (hc.below hW) h h5 hz hl (hp.below hW)⟩
      have hv := fun v W hW hv hp => prefute_ok 3 v vp _ zl W hW hv (wire_right g1.right (by decide) (by omega)) (chk5_ok (n := 3) (by decide) (by decide) (by omega) g1.right) hp (by decide) (by decide) g1.right hl hz (by omega)
      have hc2 : rfV (bnds (ts.zip cs)) zl 3 = 0 ∨ rfV (bnds (ts.zip cs)) zl 3 = 15 := by unfold rfV; split <;> simp
      rcases hc2 with hb | hb
      · rw [hb] at hv ⊢
        exact prefuses_gen vt vc vp _ _ _ W (hg.of hW) (hs.below hW) (ht.below hW) (hc.below hW) (hp.below hW) nt nc h 0 0 true pshown_ok hv
      · rw [hb] at hv ⊢
        exact prefuses_gen vt vc vp _ _ _ W (hg.of hW) (hs.below hW) (ht.below hW) (hc.below hW) (hp.below hW) nt nc h 15 0 false pshown_proof hv
    · have hle := chkPt_le (((bnds (ts.zip cs)).length : Nat) : Int) q
      refine ⟨false, ((chkPt (((bnds (ts.zip cs)).length : Nat) : Int) q : Nat) : Int), fun W hW => ?_, fun W hW => rrefuses_err vt vc vp ts cs q W (ht.below hW) (hc.below hW) (hp.below hW) h hsl (by omega) hk⟩
      refine prefuses_gen vt vc vp _ _ q W (hg.of hW) (hs.below hW) (ht.below hW) (hc.below hW) (hp.below hW) nt nc h _ _ false (pshown_err _ (by omega) (by omega)) fun v W hW hv hp => ?_
      have := prefute_bad2 3 v vp (bx (bnds (ts.zip cs))) q W hW hv (wire_right g1.right (by decide) (by omega)) (chk5_ok (n := 3) (by decide) (by decide) (by omega) g1.right) hp hsl (by omega) (by rw [bx_len]; exact hk)
      rw [bx_len] at this
      exact this
  · exact ⟨false, _, fun W hW => prefuses_bad vt vc vp ts cs W (hs.below hW) (ht.below hW) (hc.below hW) nt nc h, fun W hW => rrefuses_bad vt vc vp ts cs q W (ht.below hW) (hc.below hW) (hp.below hW) nt nc h⟩
theorem judges_law (vt vc vp : Value) (ts : List Tg) (cs : List Cc) (p0 p1 p2 : List UInt8) (q : List (List UInt8)) (w : World) (hg : Glob w) (hs : Sig w) (ht : RdG w vt ts) (hc : RdC w vc cs) (hp : RdT w vp q) (nt : ts.length ≤ maxLen) (nc : cs.length ≤ maxLen)
    (h0 : p0.length ≤ maxLen) (h1 : p1.length ≤ maxLen) (h2 : p2.length ≤ maxLen) (hql : ∀ x ∈ q, x.length ≤ maxLen) (hqn : q.length ≤ maxLen) :
    Calls Tryz.prog 5 #[vt, vc, .agg #[.string (bs p0), .string (bs p1), .string (bs p2), vp]] w (Ret w (.bool true)) := by
  by_cases hn : few46 ts.length cs.length = true
  · by_cases hs1 : short46 [p0, p1, p2] = true
    · by_cases hs2 : short46 q = true
      · obtain ⟨b1, k1, a1, a2⟩ := acc46 vt vc ts cs p0 p1 p2 w hg hs ht hc nt nc hn hs1
        obtain ⟨b2, k2, r1, r2⟩ := ref46 vt vc vp ts cs q w hg hs ht hc hp nt nc hn hs2
        exact judges_core vt vc vp ts cs p0 p1 p2 q w hg hs ht hc hp h0 h1 h2 hql hqn hn hs1 hs2 k1 k2 b1 b2 a1 a2 r1 r2
      · exact judges_no2 vt vc vp ts cs p0 p1 p2 q w hg hs ht hc hp h0 h1 h2 hql hqn hn hs1 (by simpa using hs2)
    · exact judges_no1 vt vc vp ts cs p0 p1 p2 q w hg hs ht hc hp h0 h1 h2 hql hqn hn (by simpa using hs1)
  · exact judges_not vt vc vp ts cs p0 p1 p2 q w hg hs ht hc hp h0 h1 h2 hql hqn (by simpa using hn)
end W
end Go.Proofs.YtnaikafamjebdaaGreatDoor
end
