/-
  Chapter 46, the reference: 'Over'.
  Chapter 46, the reference: 'Keeps'.
  Chapter 46: PatternExcess.
-/
import Derived.Test.YtfcffheboncmbaaGreatDoorKAH
import Derived.Test.YtfcffheboncmbaaGreatDoorKAA
import Derived.Test.YtfcffheboncmbaaGreatDoorKAF
section
namespace Go.Proofs.YtfcffheboncmbaaGreatDoor
open Go Go.RowKit Go.Deep
namespace M
theorem lines_few {pl : Pl} (h : ∀ p ∈ pl, RtH p) : Few7 (linesZ pl) := by
  intro x hx
  unfold linesZ at hx
  rw [List.mem_flatMap] at hx
  obtain ⟨p, hp, hx⟩ := hx
  rw [List.mem_flatMap] at hx
  obtain ⟨q, hq, hx⟩ := hx
  have h1 := h p hp
  have h2 := h q hq
  have w1 := h1.wide
  have w2 := h2.wide
  have a1 := h1.1.x
  have a2 := h1.1.y
  have a3 := h1.2.1.x
  have a4 := h1.2.1.y
  have b1 := h2.1.x
  have b2 := h2.1.y
  have b3 := h2.2.1.x
  have b4 := h2.2.1.y
  simp only [List.mem_cons, List.not_mem_nil, or_false] at hx
  rcases hx with rfl | rfl
  · unfold ln1; constructor <;> (simp only; omega)
  · unfold ln2; constructor <;> (simp only; omega)
theorem lines_len {pl : Pl} (h : pl.length ≤ 5) : (linesZ pl).length ≤ 100 := by
  have h1 := linJ_len pl pl.length 0 (⟨0, 0, 0, 0, 0, 0, false⟩, ⟨0, 0, 0⟩) h
  rw [linJ_zero, linI_all] at h1
  omega
theorem over_bq {ts : List Tg} {cs : List Cc} (h : chk46 ts cs = 0) (h5 : ts.length ≤ 5) : Bq 37 (overQ (ts.zip cs)) := by
  obtain ⟨_, _, _, x, hx, _, hq, _⟩ := W.pexcess_ok ts cs h h5
  rw [show overQ (ts.zip cs) = x from exc_same2 (Sx.exc_over (zip_ne h)) hx]
  exact hq x (by simp)
theorem low_bq {ts : List Tg} {cs : List Cc} (h : chk46 ts cs = 0) (h5 : ts.length ≤ 5) : Bq 45 (lowestQ (linesZ (ts.zip cs))) := by
  have h1 := over_bq h h5
  have e : lowestQ (linesZ (ts.zip cs)) = 2 * overQ (ts.zip cs) := by unfold overQ; grind
  rw [e]
  exact (Bq.mul (j := 8) (k := 37) (show Bq 8 (2 : Rat) from by decide +kernel) h1).mono (by decide)
end M
namespace W
open M
attribute [local go_sem] bs_size bs_toList bs_get bs_extract bs_append bs_lit0 bs_lit1 lit1_bs
set_option maxHeartbeats 2000000
set_option maxRecDepth 20000
theorem rover46 (vt vc : Value) (ts : List Tg) (cs : List Cc) (w : World) (ht : RdG w vt ts) (hc : RdC w vc cs) (h : chk46 ts cs = 0) (h5 : ts.length ≤ 5) :
    Calls Tryz.prog 19 #[vt, vc] w (Ret w (.string (bs (R (overQ (ts.zip cs)))))) := by
  have hrt := (chk46_iff.1 h).2.2.2
  have hzl : (ts.zip cs).length ≤ 5 := by rw [List.length_zip]; omega
  have hlq := low_bq h h5
  have HLI := Lib.hid (rlines46 vt vc ts cs w ht hc h h5)
  have HLO := Lib.hid (fun v W (hv : RdL W v (linesZ (ts.zip cs))) => rlowest46 v _ W hv (lines_few hrt) (lines_len hzl))
  have hby := fun W => rby (lowestQ (linesZ (ts.zip cs))) 2 W (hlq.sh (by decide) (by decide)) ((show Bq 8 (2 : Rat) from by decide +kernel).sh (by decide) (by decide)) (by decide +kernel)
  rw [R_texts.2.2.1, show lowestQ (linesZ (ts.zip cs)) / 2 = overQ (ts.zip cs) from rfl] at hby
  have HBY := Lib.hid hby
  obtain ⟨At, ct, rfl⟩ := ht.len
  obtain ⟨Ac, cc, rfl⟩ := hc.len
  clear ht hc h h5 hrt hzl hlq hby
  generalize linesZ (ts.zip cs) = ll at *
  generalize overQ (ts.zip cs) = ov at *
  go_enter Tryz.func19, Tryz.ntmps19
  go_wp2_with fail
  refine HLI.out.mono ?_
  rintro e w1 ⟨v, rfl, hs⟩
  have H1 := Lib.hid hs
  have hr := hs.own.rd
  obtain ⟨A, c, rfl⟩ := hr.len
  have HR := Lib.hid hr
  clear hs hr HLI
  go_wp2_with fail
  refine (HLO.out _ _ HR.out).mono ?_
  rintro e w2 ⟨rfl, hb2⟩
  have HB2 := Lib.hid (bel_to H1.out.bel hb2)
  clear hb2 H1 HR HLO
  go_wp2_with fail
  refine (HBY.out _).mono ?_
  rintro e w3 ⟨rfl, hb3⟩
  have HB3 := Lib.hid (bel_to HB2.out hb3)
  clear hb3 HB2 HBY
  go_wp2
  go_ret
  exact ⟨rfl, HB3.out⟩
end W
end Go.Proofs.YtfcffheboncmbaaGreatDoor
end
section
namespace Go.Proofs.YtfcffheboncmbaaGreatDoor
open Go Go.RowKit Go.Deep
namespace M
/-- Whether a placement keeps all bounds when the tolerances are greater by a number. -/
def keepB (l : List BQ) (p : List Rat) (x : Rat) : Bool := l.all fun b => decide (dotP b.1 p 3 ≤ b.2 + x / 2)
def keepN (l : List BQ) (p : List Rat) (x : Rat) (i : Nat) : Bool := (l.take i).all fun b => decide (dotP b.1 p 3 ≤ b.2 + x / 2)
theorem keepN_zero (l : List BQ) (p : List Rat) (x : Rat) : keepN l p x 0 = true := by simp [keepN]
theorem keepN_all (l : List BQ) (p : List Rat) (x : Rat) : keepN l p x l.length = keepB l p x := by simp [keepN, keepB]
theorem keepN_succ (l : List BQ) (p : List Rat) (x : Rat) (i : Nat) (h : i < l.length) : keepN l p x (i + 1) = (keepN l p x i && decide (dotP l[i].1 p 3 ≤ l[i].2 + x / 2)) := by
  unfold keepN
  rw [List.take_add_one, List.getElem?_eq_getElem h, List.all_append]
  simp
theorem keepN_no {l : List BQ} {p : List Rat} {x : Rat} {i : Nat} (h : i < l.length) (hn : ¬ dotP l[i].1 p 3 ≤ l[i].2 + x / 2) : keepB l p x = false := by
  unfold keepB
  rw [List.all_eq_false]
  exact ⟨l[i], List.getElem_mem h, by simp [hn]⟩
end M
namespace W
open M
attribute [local go_sem] bs_size bs_toList bs_get bs_extract bs_append bs_lit0 bs_lit1 lit1_bs
set_option maxHeartbeats 2000000
set_option maxRecDepth 20000
theorem rkeeps46 (vt vc : Value) (ts : List Tg) (cs : List Cc) (px py pz x : Rat) (w : World) (ht : RdG w vt ts) (hc : RdC w vc cs) (h : chk46 ts cs = 0) (hp : ∀ q ∈ [px, py, pz], Bq 45 q) (hx : Bq 45 x) :
    Calls Tryz.prog 24 #[vt, vc, .agg #[.string (bs (R px)), .string (bs (R py)), .string (bs (R pz))], .string (bs (R x))] w (Ret w (.bool (keepB (bnds (ts.zip cs)) [px, py, pz] x))) := by
  have hrt := (chk46_iff.1 h).2.2.2
  have hrp := (Sx.bnds_rightP hrt).right
  have hb0 := bel_al w (.cells #[.string (bs (R px)), .string (bs (R py)), .string (bs (R pz))] 41 (0, 0))
  have hr0 : Row (w.alloc (.cells #[.string (bs (R px)), .string (bs (R py)), .string (bs (R pz))] 41 (0, 0))) w.heap.size 41 [.string (bs (R px)), .string (bs (R py)), .string (bs (R pz))] := rnw
  have HR0 := Lib.hid (And.intro hb0 hr0)
  have HAL := Lib.hid (rall46 vt vc ts cs _ (ht.below hb0) (hc.below hb0) h)
  have hby := fun W => rby x 2 W (hx.sh (by decide) (by decide)) ((show Bq 8 (2 : Rat) from by decide +kernel).sh (by decide) (by decide)) (by decide +kernel)
  rw [R_texts.2.2.1] at hby
  have HBY := Lib.hid hby
  have hx2 : Bq 53 (x / 2) := (Bq.div (j := 45) (k := 8) hx (show Bq 8 (2 : Rat) from by decide +kernel) (by decide +kernel))
  have HPL := Lib.hid (fun i (hi : i < (bnds (ts.zip cs)).length) W => plus_R ((bnds (ts.zip cs))[i]).2 (x / 2) W (((hrp _ (List.getElem_mem hi)).2.2).sh (by decide) (by decide)) (hx2.sh (by decide) (by decide)))
  have HDT : Hid (∀ i (hi : i < (bnds (ts.zip cs)).length) (va vb : Value) W, RdT W va (rx ((bnds (ts.zip cs))[i]).1) → RdT W vb (rx [px, py, pz]) → Calls Tryz.prog 72 #[va, vb] W (Ret W (.string (bs (R (dotP ((bnds (ts.zip cs))[i]).1 [px, py, pz] 3)))))) := Lib.hid (fun i hi va vb W h1 h2 => by
    have hl := (hrp _ (List.getElem_mem hi)).1
    have := rdot va vb ((bnds (ts.zip cs))[i]).1 [px, py, pz] 45 W h1 h2 (by simp [hl]) (by rw [hl]; decide) (fun y hy => ((hrp _ (List.getElem_mem hi)).2.1 y hy).mono (by decide)) hp (by decide) (by decide)
    rwa [hl] at this)
  have HOR : Hid (∀ i (hi : i < (bnds (ts.zip cs)).length) W, Calls Tryz.prog 71 #[.string (bs (R (dotP ((bnds (ts.zip cs))[i]).1 [px, py, pz] 3))), .string (bs (R (((bnds (ts.zip cs))[i]).2 + x / 2)))] W (Ret W (.int .i64 (cmpQ (dotP ((bnds (ts.zip cs))[i]).1 [px, py, pz] 3) (((bnds (ts.zip cs))[i]).2 + x / 2))))) := Lib.hid (fun i hi W => by
    have hl := (hrp _ (List.getElem_mem hi)).1
    exact order_R _ _ W ((dotP_bq (e := 8) (e2 := 45) (hrp _ (List.getElem_mem hi)).2.1 hp 3 (by omega) (by simp)).sh (by decide) (by decide)) ((Bq.add (hrp _ (List.getElem_mem hi)).2.2 hx2).sh (by decide) (by decide)))
  have HLEN := Lib.hid (show (bnds (ts.zip cs)).length ≤ 100 by rw [bnds_len, List.length_zip]; have := (chk46_iff.1 h).2.1; omega)
  obtain ⟨At, ct, rfl⟩ := ht.len
  obtain ⟨Ac, cc, rfl⟩ := hc.len
  clear ht hc h hrt hrp hb0 hr0 hby hx hx2 hp
  generalize bnds (ts.zip cs) = bl at *
  go_enter Tryz.func24, Tryz.ntmps24
  go_wp2_with fail
  refine HAL.out.mono ?_
  rintro e w1 ⟨v, es, rfl, hs, hm⟩
  have hrd : RdB w1 v (bx bl) := by rw [← hm]; exact OwnE.rd hs.own hs.good.good
  have HR1 := Lib.hid (And.intro (bel_to HR0.out.1 hs.bel) (HR0.out.2.below' hs.bel))
  obtain ⟨A, c, rfl⟩ := hrd.len
  have HRD := Lib.hid hrd
  clear hs hm hrd HAL HR0
  rw [bx_len] at HRD
  rw [bx_len]
  have hlen := HLEN.out
  go_wp2_with fail
  go_loopw [10] (fun iv wr => ∃ i : Nat, iv = .int .i64 (i : Int) ∧ i ≤ bl.length ∧ Hid (keepN bl [px, py, pz] x i = true) ∧ Hid (Below w1.heap.size w1 wr)) (fun iv _ => bl.length - (intOf iv).toNat)
  case atStart => exact ⟨0, rfl, by omega, Lib.hid (keepN_zero _ _ _), Lib.hid (Below.refl _ _)⟩
  case round =>
    obtain ⟨i, rfl, hi, hk, hb⟩ := hrel
    by_cases hlt : i < bl.length
    · have hltb : i < (bx bl).length := by rw [bx_len]; exact hlt
      obtain ⟨b1, o1, rfl, hw⟩ := HRD.out.row i hltb
      have hrow := fun W (hW : Below wr.heap.size wr W) => (hw.below' (bel_to hb.out hW)).row i hltb
      obtain ⟨vr, c0, hvr, hsr⟩ := (hw.below' hb.out).row i hltb
      have c1 := (hw.below' hb.out).most i hltb
      rw [bx_get bl i hlt] at hvr c1
      simp only at hvr c1
      have HVR := Lib.hid hvr
      have HAT := Lib.hid (fun W (hW : Below wr.heap.size wr W) => (show RdT W (.slice (some ⟨w.heap.size, 0, none⟩) 3 3) (rx [px, py, pz]) from rdt_any (l := rx [px, py, pz]) (HR1.out.2.below' (bel_to hb.out hW))))
      obtain ⟨Ar, cr, rfl⟩ := hvr.len
      have HPI := Lib.hid (HPL.out i hlt)
      have HDI := Lib.hid (HDT.out i hlt)
      have HOI := Lib.hid (HOR.out i hlt)
      have HKS := Lib.hid (keepN_succ bl [px, py, pz] x i hlt)
      have HKN := Lib.hid (fun hn => keepN_no (p := [px, py, pz]) (x := x) hlt hn)
      have hi0 : (0 : Int) ≤ (i : Int) := by omega
      have hi1 : (i : Int) < (bl.length : Int) := by omega
      have hcz : (0 < cmpQ (dotP bl[i].1 [px, py, pz] 3) (bl[i].2 + x / 2)) ↔ ¬ dotP bl[i].1 [px, py, pz] 3 ≤ bl[i].2 + x / 2 := by rw [cmpQ_gt, Rat.not_le]
      have HCZ := Lib.hid hcz
      clear hvr hw hrow hcz
      generalize hrr : bl[i].1 = rr at *
      generalize hmm : bl[i].2 = mm at *
      generalize dotP rr [px, py, pz] 3 = dd at *
      generalize mm + x / 2 = ms at *
      have m0 := cell_regrown c1
      have e1 : ∀ args w, (callFunc 58 args).run Tryz.prog w = .ok (.enter 58 args) w := enters_of Tryz.func58 (by kernel_rfl) rfl
      have e2 : ∀ args w, (callFunc 70 args).run Tryz.prog w = .ok (.enter 70 args) w := enters_of Tryz.func70 (by kernel_rfl) rfl
      have k1 := reg_of (w := wr) (fun W _ => HBY.out W)
      have k2 := reg_of (w := wr) (fun W _ => HPI.out W)
      clear c1
      go_wp2_with fail
      refine wp_region_quiet_below (by kernel_rfl) (by kernel_rfl) ?_
      repeat (go_big_quiet_step (fail))
      go_big_quiet_step (exact k1 _ _)
      repeat (go_big_quiet_step (fail))
      go_big_quiet_step (exact k2 _ _)
      repeat (go_big_quiet_step (fail))
      refine wpQuiet_nil ?_
      intro W6 hw'
      have hb6 : Below wr.heap.size wr W6 := by obtain ⟨p, e⟩ := hw'; rw [e]; exact below_regrown wr p.d p.os
      clear hw'
      have HB6 := Lib.hid hb6
      have c0' := (hb6.cell (block_lt_of_cell c0)).trans c0
      clear m0 e1 e2 k1 k2 hb6 c0
      have m0 := cell_regrown c0'
      have e1 : ∀ args w, (callFunc 72 args).run Tryz.prog w = .ok (.enter 72 args) w := enters_of Tryz.func72 (by kernel_rfl) rfl
      have e2 : ∀ args w, (callFunc 71 args).run Tryz.prog w = .ok (.enter 71 args) w := enters_of Tryz.func71 (by kernel_rfl) rfl
      have k1 := reg_of (w := W6) (fun W hW => HDI.out _ _ W (HVR.out.below (bel_to HB6.out hW)) (HAT.out W (bel_to HB6.out hW)))
      have k2 := reg_of (w := W6) (fun W _ => HOI.out W)
      have HB7 := Lib.hid (bel_to hb.out HB6.out)
      clear c0' hb HB6 HVR HAT
      generalize hW7 : W6 = W7 at *
      clear hW7
      go_wp2_with fail
      refine wp_region_quiet_below (by kernel_rfl) (by kernel_rfl) ?_
      repeat (go_big_quiet_step (fail))
      go_big_quiet_step (exact k1 _ _)
      repeat (go_big_quiet_step (fail))
      go_big_quiet_step (exact k2 _ _)
      repeat (go_big_quiet_step (fail))
      refine wpQuiet_nil ?_
      intro W6 hw'
      have hb6 : Below W7.heap.size W7 W6 := by obtain ⟨p, e⟩ := hw'; rw [e]; exact below_regrown W7 p.d p.os
      clear hw'
      have HB8 := Lib.hid (bel_to HB7.out hb6)
      clear m0 e1 e2 k1 k2 hb6 HB7
      by_cases hd : dd ≤ ms
      · have hcn : ¬ 0 < cmpQ dd ms := fun e => HCZ.out.1 e hd
        have HN := Lib.hid (show keepN bl [px, py, pz] x (i + 1) = true by rw [HKS.out, hk.out, decide_eq_true hd]; rfl)
        generalize cmpQ dd ms = cz at *
        clear hd hk HCZ HKN HKS
        go_wp2
        go_roundw
        case rel => exact ⟨i + 1, by go_num, by omega, HN, HB8⟩
        case measure => simp [intOf]; omega
      · have hcn : 0 < cmpQ dd ms := HCZ.out.2 hd
        have HN := Lib.hid (HKN.out hd)
        generalize cmpQ dd ms = cz at *
        clear hd hk HCZ HKN HKS
        go_wp2
        go_ret
        exact Ret.of (by rw [HN.out]; rfl) (bel_to HR1.out.1 HB8.out)
    · obtain rfl : i = bl.length := by omega
      have hk2 := hk.out
      rw [keepN_all] at hk2
      have HK := Lib.hid hk2
      clear hk hk2
      go_wp2
      go_ret
      exact Ret.of (by rw [HK.out]; rfl) (bel_to HR1.out.1 hb.out)
end W
end Go.Proofs.YtfcffheboncmbaaGreatDoor
end
section
namespace Go.Proofs.YtfcffheboncmbaaGreatDoor
open Go Go.RowKit Go.Deep
namespace M
def few46 (n m : Nat) : Bool := (decide (n ≤ 5) && decide (m ≤ 6)) || (decide (16 < n) && decide (n < 100) && decide (m < 100))
theorem keep_excess {pl : Pl} {dx dy tw x : Rat} (h : Sx.Fz pl dx dy tw x) : keepB (bnds pl) [dx, dy, tw] x = true := by
  unfold keepB
  rw [List.all_eq_true]
  intro b hb
  have hk := Sx.keepsE_iff.2 h
  have hm : (b.1 ++ [-1 / 2], b.2) ∈ bndsE pl := List.mem_map.2 ⟨b, hb, rfl⟩
  have h1 := hk.2 _ hm
  have hl : b.1.length = 3 := by
    unfold bnds at hb
    rw [List.mem_flatMap] at hb
    obtain ⟨p, _, hb⟩ := hb
    unfold bnd4 at hb
    simp only [List.mem_cons, List.not_mem_nil, or_false] at hb
    rcases hb with rfl | rfl | rfl | rfl <;> rfl
  obtain ⟨a, c, d, e⟩ := Sx.len3 hl
  rw [e] at h1 ⊢
  simp only [List.cons_append, List.nil_append] at h1
  rw [Sx.d4] at h1
  rw [decide_eq_true_eq, Sx.d3]
  grind
end M
namespace W
open M
attribute [local go_sem] bs_size bs_toList bs_get bs_extract bs_append bs_lit0 bs_lit1 lit1_bs
set_option maxHeartbeats 2000000
set_option maxRecDepth 20000
theorem rfew46 (vt vc : Value) (ts : List Tg) (cs : List Cc) (w : World) (ht : RdG w vt ts) (hc : RdC w vc cs) : Calls Tryz.prog 15 #[vt, vc] w (Ret w (.bool (few46 ts.length cs.length))) := by
  obtain ⟨At, ct, rfl⟩ := ht.len
  obtain ⟨Ac, cc, rfl⟩ := hc.len
  clear ht hc
  generalize ts.length = n at *
  generalize cs.length = m at *
  by_cases h1 : n ≤ 5
  · have i1 : (n : Int) ≤ 5 := by omega
    by_cases h2 : m ≤ 6
    · have i2 : (m : Int) ≤ 6 := by omega
      have HF := Lib.hid (show few46 n m = true by unfold few46; simp [h1, h2])
      clear h1 h2
      go_enter Tryz.func15, Tryz.ntmps15
      go_wp2
      go_ret
      exact Ret.of (by rw [HF.out]; rfl) (Below.refl _ _)
    · have i2 : ¬ (m : Int) ≤ 6 := by omega
      have i3 : ¬ (16 : Int) < (n : Int) := by omega
      have HF := Lib.hid (show few46 n m = false by unfold few46; simp [h1, h2]; omega)
      clear h1 h2
      go_enter Tryz.func15, Tryz.ntmps15
      go_wp2
      go_ret
      exact Ret.of (by rw [HF.out]; rfl) (Below.refl _ _)
  · have i1 : ¬ (n : Int) ≤ 5 := by omega
    by_cases h3 : 16 < n
    · have i3 : (16 : Int) < (n : Int) := by omega
      by_cases h4 : n < 100
      · have i4 : (n : Int) < 100 := by omega
        by_cases h5 : m < 100
        · have i5 : (m : Int) < 100 := by omega
          have HF := Lib.hid (show few46 n m = true by unfold few46; simp [h1, h3, h4, h5])
          clear h1 h3 h4 h5
          go_enter Tryz.func15, Tryz.ntmps15
          go_wp2
          go_ret
          exact Ret.of (by rw [HF.out]; rfl) (Below.refl _ _)
        · have i5 : ¬ (m : Int) < 100 := by omega
          have HF := Lib.hid (show few46 n m = false by unfold few46; simp [h1, h3, h4, h5])
          clear h1 h3 h4 h5
          go_enter Tryz.func15, Tryz.ntmps15
          go_wp2
          go_ret
          exact Ret.of (by rw [HF.out]; rfl) (Below.refl _ _)
      · have i4 : ¬ (n : Int) < 100 := by omega
        have HF := Lib.hid (show few46 n m = false by unfold few46; simp [h1, h3, h4])
        clear h1 h3 h4
        go_enter Tryz.func15, Tryz.ntmps15
        go_wp2
        go_ret
        exact Ret.of (by rw [HF.out]; rfl) (Below.refl _ _)
    · have i3 : ¬ (16 : Int) < (n : Int) := by omega
      have HF := Lib.hid (show few46 n m = false by unfold few46; simp [h1, h3])
      clear h1 h3
      go_enter Tryz.func15, Tryz.ntmps15
      go_wp2
      go_ret
      exact Ret.of (by rw [HF.out]; rfl) (Below.refl _ _)
theorem excess_not (vt vc : Value) (ts : List Tg) (cs : List Cc) (w : World) (hg : Glob w) (hs : Sig w) (ht : RdG w vt ts) (hc : RdC w vc cs) (hn : few46 ts.length cs.length = false) :
    Calls Tryz.prog 5 #[vt, vc] w (Ret w (.bool true)) := by
  have hr := rfew46 vt vc ts cs w ht hc
  rw [hn] at hr
  have HR := Lib.hid hr
  have HA := Lib.hid (fun W (hW : Below w.heap.size w W) => awake46 W (hg.of hW) (hs.below hW))
  obtain ⟨At, ct, rfl⟩ := ht.len
  obtain ⟨Ac, cc, rfl⟩ := hc.len
  clear hg hs ht hc hn hr
  go_enter Tryz.func5, Tryz.ntmps5
  go_wp2_with fail
  refine (HR.out).mono ?_
  rintro e w1 ⟨rfl, hb1⟩
  go_wp2_with fail
  refine (HA.out _ hb1).mono ?_
  rintro e w2 ⟨rfl, hb2⟩
  go_wp2
  go_ret
  exact Ret.of rfl (Below.then hb1 hb2)
theorem excess_bad (vt vc : Value) (ts : List Tg) (cs : List Cc) (w : World) (hg : Glob w) (hs : Sig w) (ht : RdG w vt ts) (hc : RdC w vc cs) (nt : ts.length ≤ maxLen) (nc : cs.length ≤ maxLen) (hn : few46 ts.length cs.length = true) (h : chk46 ts cs ≠ 0) :
    Calls Tryz.prog 5 #[vt, vc] w (Ret w (.bool true)) := by
  have hr := rfew46 vt vc ts cs w ht hc
  rw [hn] at hr
  have HR := Lib.hid hr
  have HA := Lib.hid (fun W (hW : Below w.heap.size w W) => awake46 W (hg.of hW) (hs.below hW))
  have HE : Hid (∀ W, Below w.heap.size w W → Calls Tryz.prog 22 #[vt, vc] W (Ret W (.tuple #[.string ⟨#[]⟩, .agg #[.string ⟨#[]⟩, .string ⟨#[]⟩, .string ⟨#[]⟩], .int .i64 ((chk46 ts cs : Nat) : Int)]))) := Lib.hid (fun W (hW : Below w.heap.size w W) => pexcess_bad vt vc ts cs W (hs.below hW) (ht.below hW) (hc.below hW) nt nc h)
  have HC := Lib.hid (fun W (hW : Below w.heap.size w W) => rcheck46 vt vc ts cs W (ht.below hW) (hc.below hW) nt nc)
  have hz := nz_bne h
  have heq : ∀ W, (binOp .eql 41 (.agg #[.string ⟨#[]⟩, .string ⟨#[]⟩, .string ⟨#[]⟩]) (.agg #[.string ⟨#[]⟩, .string ⟨#[]⟩, .string ⟨#[]⟩])).run Tryz.prog W = .ok (.bool true) W := fun W => by kernel_rfl
  obtain ⟨At, ct, rfl⟩ := ht.len
  obtain ⟨Ac, cc, rfl⟩ := hc.len
  generalize ((chk46 ts cs : Nat) : Int) = ck at *
  clear hg hs ht hc hn hr nt nc h
  go_enter Tryz.func5, Tryz.ntmps5
  go_wp2_with fail
  refine (HR.out).mono ?_
  rintro e w1 ⟨rfl, hb1⟩
  go_wp2_with fail
  refine (HE.out _ hb1).mono ?_
  rintro e w2 ⟨rfl, hb2⟩
  have hb2a := bel_to hb1 (bel_to hb2 (bel_al w2 (.cells #[.string ⟨#[]⟩, .string ⟨#[]⟩, .string ⟨#[]⟩] 41 (0, 0))))
  have hrow : Row (w2.alloc (.cells #[.string ⟨#[]⟩, .string ⟨#[]⟩, .string ⟨#[]⟩] 41 (0, 0))) w2.heap.size 41 [.string ⟨#[]⟩, .string ⟨#[]⟩, .string ⟨#[]⟩] := rnw
  have H2 := Lib.hid (And.intro hb2a hrow)
  clear hb1 hb2 hb2a hrow HR HE
  go_wp2_with fail
  refine (HC.out _ H2.out.1).mono ?_
  rintro e w3 ⟨rfl, hb3⟩
  have hrw := H2.out.2.below' hb3
  have q0 := hrw.cell (i := 0) rfl
  have q1 := hrw.cell (i := 1) rfl
  have q2 := hrw.cell (i := 2) rfl
  have HB3 := Lib.hid (bel_to H2.out.1 hb3)
  clear hb3 hrw H2 HC
  go_wp2_with fail
  refine (HA.out _ HB3.out).mono ?_
  rintro e w4 ⟨rfl, hb4⟩
  have HB4 := Lib.hid (bel_to HB3.out hb4)
  clear hb4 HB3 HA q0 q1 q2
  go_wp2
  go_ret
  exact ⟨rfl, HB4.out⟩
theorem excess_ok (vt vc : Value) (ts : List Tg) (cs : List Cc) (w : World) (hg : Glob w) (hs : Sig w) (ht : RdG w vt ts) (hc : RdC w vc cs) (nt : ts.length ≤ maxLen) (nc : cs.length ≤ maxLen) (hn : few46 ts.length cs.length = true) (h : chk46 ts cs = 0) :
    Calls Tryz.prog 5 #[vt, vc] w (Ret w (.bool true)) := by
  have h5 : ts.length ≤ 5 := by
    have h16 := (chk46_iff.1 h).2.1
    unfold few46 at hn
    simp at hn
    omega
  have hr := rfew46 vt vc ts cs w ht hc
  rw [hn] at hr
  have HR := Lib.hid hr
  obtain ⟨dx, dy, tw, x, hexc, hfz, hbq, hE⟩ := pexcess_ok ts cs h h5
  have hov : overQ (ts.zip cs) = x := exc_same2 (Sx.exc_over (zip_ne h)) hexc
  have HA := Lib.hid (fun W (hW : Below w.heap.size w W) => awake46 W (hg.of hW) (hs.below hW))
  have HE : Hid (∀ W, Below w.heap.size w W → Calls Tryz.prog 22 #[vt, vc] W (Ret W (.tuple #[.string (bs (R x)), .agg #[.string (bs (R dx)), .string (bs (R dy)), .string (bs (R tw))], .int .i64 0]))) := Lib.hid (fun W (hW : Below w.heap.size w W) => hE vt vc W (hg.of hW) (hs.below hW) (ht.below hW) (hc.below hW))
  have hck := fun W (hW : Below w.heap.size w W) => rcheck46 vt vc ts cs W (ht.below hW) (hc.below hW) nt nc
  rw [h] at hck
  have HC : Hid (∀ W, Below w.heap.size w W → Calls Tryz.prog 17 #[vt, vc] W (Ret W (.int .i64 0))) := Lib.hid hck
  have HCK : Hid (∀ q ∈ [dx, dy, tw], ∀ W, Calls Tryz.prog 23 #[.string (bs (R q))] W (Ret W (.int .i64 0))) := Lib.hid (fun q hq W => by
    have hb : Bq 37 q := hbq q (by simp only [List.mem_cons, List.not_mem_nil, or_false] at hq ⊢; rcases hq with rfl | rfl | rfl <;> simp)
    have h := check2_any (R q) W (by have := hb.R_len (by decide); omega)
    rw [hb.chk (by decide)] at h
    exact h)
  have hvo := fun W (hW : Below w.heap.size w W) => rover46 vt vc ts cs W (ht.below hW) (hc.below hW) h h5
  rw [hov] at hvo
  have HOV := Lib.hid hvo
  have hkp := fun W (hW : Below w.heap.size w W) => rkeeps46 vt vc ts cs dx dy tw x W (ht.below hW) (hc.below hW) h (fun q hq => (hbq q (by simp only [List.mem_cons, List.not_mem_nil, or_false] at hq ⊢; rcases hq with rfl | rfl | rfl <;> simp)).mono (by decide)) ((hbq x (by simp)).mono (by decide))
  rw [keep_excess hfz] at hkp
  have HKP := Lib.hid hkp
  obtain ⟨At, ct, rfl⟩ := ht.len
  obtain ⟨Ac, cc, rfl⟩ := hc.len
  clear hg hs ht hc hn hr nt nc h h5 hexc hfz hbq hE hov hck hvo hkp
  have x0 : ∀ W, (Instr.index 41 (.agg #[.string (bs (R dx)), .string (bs (R dy)), .string (bs (R tw))]) (.int .i64 0)).run Tryz.prog W = .ok (.string (bs (R dx))) W := fun W => by kernel_rfl
  have x1 : ∀ W, (Instr.index 41 (.agg #[.string (bs (R dx)), .string (bs (R dy)), .string (bs (R tw))]) (.int .i64 1)).run Tryz.prog W = .ok (.string (bs (R dy))) W := fun W => by kernel_rfl
  have x2 : ∀ W, (Instr.index 41 (.agg #[.string (bs (R dx)), .string (bs (R dy)), .string (bs (R tw))]) (.int .i64 2)).run Tryz.prog W = .ok (.string (bs (R tw))) W := fun W => by kernel_rfl
  go_enter Tryz.func5, Tryz.ntmps5
  go_wp2_with fail
  refine (HR.out).mono ?_
  rintro e w1 ⟨rfl, hb1⟩
  go_wp2_with fail
  refine (HE.out _ hb1).mono ?_
  rintro e w2 ⟨rfl, hb2⟩
  have hb2a := bel_to hb1 (bel_to hb2 (bel_al w2 (.cells #[.string (bs (R dx)), .string (bs (R dy)), .string (bs (R tw))] 41 (0, 0))))
  have hrow : Row (w2.alloc (.cells #[.string (bs (R dx)), .string (bs (R dy)), .string (bs (R tw))] 41 (0, 0))) w2.heap.size 41 [.string (bs (R dx)), .string (bs (R dy)), .string (bs (R tw))] := rnw
  have H2 := Lib.hid (And.intro hb2a hrow)
  clear hb1 hb2 hb2a hrow HR HE
  go_wp2_with fail
  refine (HC.out _ H2.out.1).mono ?_
  rintro e w3 ⟨rfl, hb3⟩
  have hrw := H2.out.2.below' hb3
  have q0 := hrw.cell (i := 0) rfl
  have q1 := hrw.cell (i := 1) rfl
  have q2 := hrw.cell (i := 2) rfl
  have H3 := Lib.hid (And.intro (bel_to H2.out.1 hb3) hrw)
  clear hb3 hrw H2 HC
  generalize w2.heap.size = ab at *
  go_wp2_with fail
  clear q0 q1 q2
  go_loopw [49] (fun iv wr => ∃ k : Int, iv = .int .i64 k ∧ 0 ≤ k ∧ k ≤ 3 ∧ Hid (Below w.heap.size w wr ∧ Row wr ab 41 [.string (bs (R dx)), .string (bs (R dy)), .string (bs (R tw))])) (fun iv _ => (3 - intOf iv).toNat)
  case atStart => exact ⟨0, rfl, by decide, by decide, H3⟩
  case round =>
    clear H3
    obtain ⟨k, rfl, hk0, hk3, hin⟩ := hrel
    rcases (by omega : k = 0 ∨ k = 1 ∨ k = 2 ∨ k = 3) with rfl | rfl | rfl | rfl
    · have HK := Lib.hid (HCK.out dx (by simp))
      go_wp2_with fail
      refine (HK.out _).mono ?_
      rintro e w4 ⟨rfl, hb4⟩
      have HI := Lib.hid (And.intro (bel_to hin.out.1 hb4) (hin.out.2.below' hb4))
      clear hb4 hin HK
      go_wp2
      go_roundw
      case rel => exact ⟨1, by go_num, by decide, by decide, HI⟩
      case measure => simp [intOf]
    · have HK := Lib.hid (HCK.out dy (by simp))
      go_wp2_with fail
      refine (HK.out _).mono ?_
      rintro e w4 ⟨rfl, hb4⟩
      have HI := Lib.hid (And.intro (bel_to hin.out.1 hb4) (hin.out.2.below' hb4))
      clear hb4 hin HK
      go_wp2
      go_roundw
      case rel => exact ⟨2, by go_num, by decide, by decide, HI⟩
      case measure => simp [intOf]
    · have HK := Lib.hid (HCK.out tw (by simp))
      go_wp2_with fail
      refine (HK.out _).mono ?_
      rintro e w4 ⟨rfl, hb4⟩
      have HI := Lib.hid (And.intro (bel_to hin.out.1 hb4) (hin.out.2.below' hb4))
      clear hb4 hin HK
      go_wp2
      go_roundw
      case rel => exact ⟨3, by go_num, by decide, by decide, HI⟩
      case measure => simp [intOf]
    · go_wp2_with fail
      refine (HOV.out _ hin.out.1).mono ?_
      rintro e w4 ⟨rfl, hb4⟩
      have HI := Lib.hid (And.intro (bel_to hin.out.1 hb4) (hin.out.2.below' hb4))
      clear hb4 hin HOV
      have q0 := HI.out.2.cell (i := 0) rfl
      have q1 := HI.out.2.cell (i := 1) rfl
      have q2 := HI.out.2.cell (i := 2) rfl
      go_wp2_with fail
      refine (HKP.out _ HI.out.1).mono ?_
      rintro e w5 ⟨rfl, hb5⟩
      have HB5 := Lib.hid (bel_to HI.out.1 hb5)
      clear hb5 HI q0 q1 q2 HKP
      go_wp2_with fail
      refine (HA.out _ HB5.out).mono ?_
      rintro e w6 ⟨rfl, hb6⟩
      have HB6 := Lib.hid (bel_to HB5.out hb6)
      clear hb6 HB5 HA
      go_wp2
      go_ret
      exact ⟨rfl, HB6.out⟩
theorem excess_law (vt vc : Value) (ts : List Tg) (cs : List Cc) (w : World) (hg : Glob w) (hs : Sig w) (ht : RdG w vt ts) (hc : RdC w vc cs) (nt : ts.length ≤ maxLen) (nc : cs.length ≤ maxLen) :
    Calls Tryz.prog 5 #[vt, vc] w (Ret w (.bool true)) := by
  by_cases hn : few46 ts.length cs.length = true
  · by_cases h : chk46 ts cs = 0
    · exact excess_ok vt vc ts cs w hg hs ht hc nt nc hn h
    · exact excess_bad vt vc ts cs w hg hs ht hc nt nc hn h
  · exact excess_not vt vc ts cs w hg hs ht hc (by simpa using hn)
end W
end Go.Proofs.YtfcffheboncmbaaGreatDoor
end
