/-
  Chapter 46, the reference: 'Lines'.
  Chapter 46, the reference: 'Lowest'. (Printed by wip/low.py.)
  Chapter 46: plain lists of the laws: greater tolerances, the order, places moved and exchanged.
  Chapter 46, the reference: 'Over'.
-/
import Derived.Test.YtnaikafamjebdaaGreatDoorKFX
import Derived.Test.YtnaikafamjebdaaGreatDoorKFS
import Derived.Test.YtnaikafamjebdaaGreatDoorKFV
import Derived.Test.YtnaikafamjebdaaGreatDoorKFW
import Derived.Deep.RegionHeld3
section
namespace Go.Proofs.YtnaikafamjebdaaGreatDoor
open Go Go.RowKit Go.Deep
namespace M
open Sx
def linI (pl : Pl) (i : Nat) : List (Int × Int) := (pl.take i).flatMap fun p => pl.flatMap fun q => [ln1 p q, ln2 p q]
def linJ (pl : Pl) (i j : Nat) (p : Tg × Cc) : List (Int × Int) := linI pl i ++ (pl.take j).flatMap fun q => [ln1 p q, ln2 p q]
theorem linI_zero (pl : Pl) : linI pl 0 = [] := by simp [linI]
theorem linI_all (pl : Pl) : linI pl pl.length = linesZ pl := by simp [linI, linesZ]
theorem linJ_zero (pl : Pl) (i : Nat) (p : Tg × Cc) : linJ pl i 0 p = linI pl i := by simp [linJ]
theorem linJ_succ (pl : Pl) (i j : Nat) (p : Tg × Cc) (h : j < pl.length) : linJ pl i (j + 1) p = linJ pl i j p ++ [ln1 p pl[j]] ++ [ln2 p pl[j]] := by
  unfold linJ
  rw [List.take_add_one, List.getElem?_eq_getElem h, List.flatMap_append]
  simp
theorem linJ_all (pl : Pl) (i : Nat) (h : i < pl.length) : linJ pl i pl.length pl[i] = linI pl (i + 1) := by
  unfold linJ linI
  rw [List.take_add_one, List.getElem?_eq_getElem h, List.flatMap_append]
  simp
theorem linJ_len (pl : Pl) (i j : Nat) (p : Tg × Cc) (h : pl.length ≤ 5) : (linJ pl i j p).length ≤ 60 := by
  have h1 : ∀ (l : Pl) (p : Tg × Cc), (l.flatMap fun q => [ln1 p q, ln2 p q]).length = 2 * l.length := fun l p => by
    induction l with
    | nil => rfl
    | cons a t ih => rw [List.flatMap_cons, List.length_append, ih]; simp; omega
  have h2 : ∀ l : Pl, (l.flatMap fun p => pl.flatMap fun q => [ln1 p q, ln2 p q]).length = l.length * (2 * pl.length) := fun l => by
    induction l with
    | nil => simp
    | cons a t ih => rw [List.flatMap_cons, List.length_append, ih, h1, List.length_cons, Nat.add_mul, Nat.one_mul, Nat.add_comm]
  unfold linJ linI
  rw [List.length_append, h2, h1, List.length_take, List.length_take]
  have h3 : min i pl.length * (2 * pl.length) ≤ 5 * 10 := Nat.mul_le_mul (by omega) (by omega)
  omega
end M
theorem lit_L (w : World) (x : Int × Int) : ∀ j u, (csL [x])[j]? = some u → (w.alloc (.cells #[.int .i64 x.1, .int .i64 x.2] 132 (0, 0))).cell? ((⟨w.heap.size, 0, none⟩ : Addr).add j) = some u := fun j u hu => by
  have hadd : (⟨w.heap.size, 0, none⟩ : Addr).add j = ⟨w.heap.size, j, none⟩ := by unfold Addr.add; split <;> simp_all
  rw [hadd]
  exact (Row.new w 132 [.int .i64 x.1, .int .i64 x.2]).cell hu
structure LnS (w0 w : World) (v : Value) (l : List (Int × Int)) : Prop where
  own : OwnL w w0.heap.size v l
  bel : Below w0.heap.size w0 w
theorem LnS.to {w0 w w' : World} {v : Value} {l : List (Int × Int)} (h : LnS w0 w v l) (hb : Below w.heap.size w w') : LnS w0 w' v l := ⟨h.own.below hb, bel_to h.bel hb⟩
theorem LnS.app {w0 w w' : World} {v v' : Value} {l l' : List (Int × Int)} (h : LnS w0 w v l) (ho : OwnL w' w0.heap.size v' l') (hg : w.grownBy w' v.ownBlock) : LnS w0 w' v' l' := ⟨ho, app_belOwnL h.own h.bel (Nat.le_refl _) hg⟩
namespace W
open M
attribute [local go_sem] bs_size bs_toList bs_get bs_extract bs_append bs_lit0 bs_lit1 lit1_bs
set_option maxHeartbeats 2000000
set_option maxRecDepth 20000
theorem rlines46 (vt vc : Value) (ts : List Tg) (cs : List Cc) (w : World) (ht : RdG w vt ts) (hc : RdC w vc cs) (h : chk46 ts cs = 0) (h5 : ts.length ≤ 5) :
    Calls Tryz.prog 36 #[vt, vc] w (fun e w' => ∃ v, e = .returned v ∧ LnS w w' v (linesZ (ts.zip cs))) := by
  obtain ⟨h1, h16, hlen, hrt⟩ := chk46_iff.1 h
  have hzl : (ts.zip cs).length = ts.length := by rw [List.length_zip]; omega
  have hg : ∀ i (hi : i < ts.length) (hi2 : i < cs.length) (h3 : i < (ts.zip cs).length), (ts.zip cs)[i]'h3 = (ts[i], cs[i]) := fun i hi hi2 h3 => by simp
  have HRT : Hid (∀ i (hi : i < ts.length) (hi2 : i < cs.length), RtH (ts[i], cs[i])) := Lib.hid (fun i hi hi2 => hrt _ (by rw [← hg i hi hi2 (by omega)]; exact List.getElem_mem _))
  have HSU : Hid (∀ i j p (hj : j < ts.length) (hj2 : j < cs.length), linJ (ts.zip cs) i (j + 1) p = linJ (ts.zip cs) i j p ++ [ln1 p (ts[j], cs[j])] ++ [ln2 p (ts[j], cs[j])]) := Lib.hid (fun i j p hj hj2 => by
    rw [linJ_succ _ _ _ _ (by omega), hg j hj hj2])
  have HAL : Hid (∀ i (hi : i < ts.length) (hi2 : i < cs.length), linJ (ts.zip cs) i ts.length (ts[i], cs[i]) = linI (ts.zip cs) (i + 1)) := Lib.hid (fun i hi hi2 => by
    have h2 := linJ_all (ts.zip cs) i (by omega)
    rw [hg i hi hi2, hzl] at h2
    exact h2)
  have HEND := Lib.hid (show linI (ts.zip cs) ts.length = linesZ (ts.zip cs) by rw [← hzl]; exact linI_all _)
  have HLN := Lib.hid (fun i j p => linJ_len (ts.zip cs) i j p (by omega))
  have HL0 : Hid (LnS w w (.slice none 0 0) (linI (ts.zip cs) 0)) := Lib.hid ⟨by rw [linI_zero]; exact OwnL.nil _ _, Below.refl _ _⟩
  have HLC := Lib.hid (show ∀ i, i < ts.length → i < cs.length from fun i hi => by omega)
  have HT := Lib.hid ht
  have HC := Lib.hid hc
  obtain ⟨At, ct, rfl⟩ := ht.len
  obtain ⟨Ac, cc, rfl⟩ := hc.len
  clear ht hc h h16 hlen hrt hzl hg
  generalize ts.zip cs = pl at *
  go_enter Tryz.func36, Tryz.ntmps36
  go_wp2
  go_loopw [5, 6] (fun vo iv wr => ∃ i : Nat, iv = .int .i64 (i : Int) ∧ i ≤ ts.length ∧ Hid (LnS w wr vo (linI pl i))) (fun _ iv _ => ts.length - (intOf iv).toNat)
  case atStart => exact ⟨0, rfl, by omega, HL0⟩
  case round =>
    clear HL0
    obtain ⟨i, rfl, hi, hin⟩ := hrel
    obtain ⟨Av, nv, cv, rfl⟩ := hin.out.own.shape
    by_cases hlt : i < ts.length
    · have hlc := HLC.out i hlt
      have HI0 : Hid (LnS w wr (.slice Av nv cv) (linJ pl i 0 (ts[i], cs[i]))) := Lib.hid (by rw [linJ_zero]; exact hin.out)
      have HPI := Lib.hid (HRT.out i hlt hlc)
      have HALI := Lib.hid (HAL.out i hlt hlc)
      have HSUI := Lib.hid (fun j hj hj2 => HSU.out i j (ts[i], cs[i]) hj hj2)
      have hi0 : (0 : Int) ≤ (i : Int) := by omega
      have hit : (i : Int) < (ts.length : Int) := by omega
      have hic : (i : Int) < (cs.length : Int) := by omega
      clear hin HSU HAL
      generalize hti : ts[i] = ti at *
      generalize hci : cs[i] = ci at *
      go_wp2
      go_loopw [5, 7] (fun vo jv wq => ∃ j : Nat, jv = .int .i64 (j : Int) ∧ j ≤ ts.length ∧ Hid (LnS w wq vo (linJ pl i j (ti, ci)))) (fun _ jv _ => ts.length - (intOf jv).toNat)
      case atStart => exact ⟨0, rfl, by omega, HI0⟩
      case round =>
        clear HI0
        obtain ⟨j, rfl, hj, hin⟩ := hrel
        obtain ⟨Av2, nv2, cv2, rfl⟩ := hin.out.own.shape
        by_cases hlj : j < ts.length
        · have hjc := HLC.out j hlj
          have HPJ := Lib.hid (HRT.out j hlj hjc)
          have hsu := HSUI.out j hlj hjc
          have hj0 : (0 : Int) ≤ (j : Int) := by omega
          have hjt : (j : Int) < (ts.length : Int) := by omega
          have hjc2 : (j : Int) < (cs.length : Int) := by omega
          have HTB := HT.out
          have HCB := HC.out
          obtain ⟨bt, ot, e1, hst⟩ := HTB.row i hlt
          obtain ⟨bc, oc, e2, hsc⟩ := HCB.row i hlc
          obtain ⟨bt2, ot2, e3, hst2⟩ := HTB.row j hlj
          obtain ⟨bc2, oc2, e4, hsc2⟩ := HCB.row j hjc
          rw [e1] at e3
          rw [e2] at e4
          injection e3 with e3
          injection e4 with e4
          injection e3 with e3 e5
          injection e4 with e4 e6
          subst e3 e4 e5 e6 e1 e2
          have hvi := fun W (hW : Below w.heap.size w W) => (hst.below' hW).val i hlt
          have hvj := fun W (hW : Below w.heap.size w W) => (hst.below' hW).val j hlj
          have hdi := fun W (hW : Below w.heap.size w W) => (hsc.below' hW).val i hlc
          have hdj := fun W (hW : Below w.heap.size w W) => (hsc.below' hW).val j hjc
          rw [hti] at hvi
          rw [hci] at hdi
          generalize htj : ts[j] = tj at *
          generalize hcj : cs[j] = cj at *
          have HVI := Lib.hid hvi
          have HVJ := Lib.hid hvj
          have HDI := Lib.hid hdi
          have HDJ := Lib.hid hdj
          have w1 := HPI.out.wide
          have w2 := HPJ.out.wide
          have r1 := HPI.out.1.x
          have r2 := HPI.out.1.y
          have r3 := HPI.out.2.1.x
          have r4 := HPI.out.2.1.y
          have r5 := HPJ.out.1.x
          have r6 := HPJ.out.1.y
          have r7 := HPJ.out.2.1.x
          have r8 := HPJ.out.2.1.y
          have HW1 := Lib.hid (fun W => rwide46 ti ci W HPI.out.1 (by unfold wth; simp [HPI.out.2.2.1, HPI.out.2.2.2]))
          have HW2 := Lib.hid (fun W => rwide46 tj cj W HPJ.out.1 (by unfold wth; simp [HPJ.out.2.2.1, HPJ.out.2.2.2]))
          simp only at w1 w2 r1 r2 r3 r4 r5 r6 r7 r8
          rw [show ln1 (ti, ci) (tj, cj) = (2 * (ti.x - ci.x) - 2 * (tj.x - cj.x) - (wide ti ci + wide tj cj), 2 * (ci.y - cj.y)) from rfl, show ln2 (ti, ci) (tj, cj) = (2 * (ti.y - ci.y) - 2 * (tj.y - cj.y) - (wide ti ci + wide tj cj), 2 * (cj.x - ci.x)) from rfl] at hsu
          have HSUJ := Lib.hid hsu
          have HLE := Lib.hid (HLN.out i j (ti, ci))
          clear hvi hvj hdi hdj hsu hst hsc hst2 hsc2 HTB HCB htj hcj
          generalize wide ti ci = wi at *
          generalize wide tj cj = wj at *
          have z1 : IntKind.i64.wrap (wi + wj) = wi + wj := IntWalk.i64_in _ (by omega)
          have z2 : IntKind.i64.wrap (ti.x - ci.x) = ti.x - ci.x := IntWalk.i64_in _ (by omega)
          have z3 : IntKind.i64.wrap (2 * (ti.x - ci.x)) = 2 * (ti.x - ci.x) := IntWalk.i64_in _ (by omega)
          have z4 : IntKind.i64.wrap (tj.x - cj.x) = tj.x - cj.x := IntWalk.i64_in _ (by omega)
          have z5 : IntKind.i64.wrap (2 * (tj.x - cj.x)) = 2 * (tj.x - cj.x) := IntWalk.i64_in _ (by omega)
          have z6 : IntKind.i64.wrap (2 * (ti.x - ci.x) - 2 * (tj.x - cj.x)) = 2 * (ti.x - ci.x) - 2 * (tj.x - cj.x) := IntWalk.i64_in _ (by omega)
          have z7 : IntKind.i64.wrap (2 * (ti.x - ci.x) - 2 * (tj.x - cj.x) - (wi + wj)) = 2 * (ti.x - ci.x) - 2 * (tj.x - cj.x) - (wi + wj) := IntWalk.i64_in _ (by omega)
          have z8 : IntKind.i64.wrap (ti.y - ci.y) = ti.y - ci.y := IntWalk.i64_in _ (by omega)
          have z9 : IntKind.i64.wrap (2 * (ti.y - ci.y)) = 2 * (ti.y - ci.y) := IntWalk.i64_in _ (by omega)
          have za : IntKind.i64.wrap (tj.y - cj.y) = tj.y - cj.y := IntWalk.i64_in _ (by omega)
          have zb : IntKind.i64.wrap (2 * (tj.y - cj.y)) = 2 * (tj.y - cj.y) := IntWalk.i64_in _ (by omega)
          have zc : IntKind.i64.wrap (2 * (ti.y - ci.y) - 2 * (tj.y - cj.y)) = 2 * (ti.y - ci.y) - 2 * (tj.y - cj.y) := IntWalk.i64_in _ (by omega)
          have zd : IntKind.i64.wrap (2 * (ti.y - ci.y) - 2 * (tj.y - cj.y) - (wi + wj)) = 2 * (ti.y - ci.y) - 2 * (tj.y - cj.y) - (wi + wj) := IntWalk.i64_in _ (by omega)
          have ze : IntKind.i64.wrap (ci.y - cj.y) = ci.y - cj.y := IntWalk.i64_in _ (by omega)
          have zf : IntKind.i64.wrap (2 * (ci.y - cj.y)) = 2 * (ci.y - cj.y) := IntWalk.i64_in _ (by omega)
          have zg : IntKind.i64.wrap (cj.x - ci.x) = cj.x - ci.x := IntWalk.i64_in _ (by omega)
          have zh : IntKind.i64.wrap (2 * (cj.x - ci.x)) = 2 * (cj.x - ci.x) := IntWalk.i64_in _ (by omega)
          clear w1 w2 r1 r2 r3 r4 r5 r6 r7 r8 HPI HPJ
          obtain ⟨a0, a1, a2, a3, a4, a5, a6⟩ := HVI.out _ hin.out.bel
          obtain ⟨b0, b1, b2, b3, b4, b5, b6⟩ := HVJ.out _ hin.out.bel
          obtain ⟨c0, c1, c2⟩ := HDI.out _ hin.out.bel
          obtain ⟨d0, d1, d2⟩ := HDJ.out _ hin.out.bel
          have ma0 := cell_regrown a0
          have ma1 := cell_regrown a1
          have ma2 := cell_regrown a2
          have ma3 := cell_regrown a3
          have ma4 := cell_regrown a4
          have ma5 := cell_regrown a5
          have ma6 := cell_regrown a6
          have mb0 := cell_regrown b0
          have mb1 := cell_regrown b1
          have mb2 := cell_regrown b2
          have mb3 := cell_regrown b3
          have mb4 := cell_regrown b4
          have mb5 := cell_regrown b5
          have mb6 := cell_regrown b6
          have mc0 := cell_regrown c0
          have mc1 := cell_regrown c1
          have mc2 := cell_regrown c2
          have md0 := cell_regrown d0
          have md1 := cell_regrown d1
          have md2 := cell_regrown d2
          have e1 : ∀ args w, (callFunc 68 args).run Tryz.prog w = .ok (.enter 68 args) w := enters_of Tryz.func68 (by kernel_rfl) rfl
          have k1 := reg_of (w := wr) (fun W _ => HW1.out W)
          have k2 := reg_of (w := wr) (fun W _ => HW2.out W)
          clear a0 a1 a2 a3 a4 a5 a6 b0 b1 b2 b3 b4 b5 b6 c0 c1 c2 d0 d1 d2
          go_wp2_with fail
          refine wp_region_quiet_below (by kernel_rfl) (by kernel_rfl) ?_
          repeat (go_big_quiet_step (fail))
          go_big_quiet_step (exact k1 _ _)
          repeat (go_big_quiet_step (fail))
          go_big_quiet_step (exact k2 _ _)
          repeat (go_big_quiet_step (fail))
          refine wpQuiet_nil ?_
          intro W6 hw'
          have hb6 : Below wr.heap.size wr W6 := by obtain ⟨p, e⟩ := hw'; rw [e]; exact below_regrown wr p.d p.os
          clear hw'
          have HI6 := Lib.hid (hin.out.to hb6)
          clear ma0 ma1 ma2 ma3 ma4 ma5 ma6 mb0 mb1 mb2 mb3 mb4 mb5 mb6 mc0 mc1 mc2 md0 md1 md2 e1 k1 k2 hb6 hin HW1 HW2
          have a0 := (HVI.out _ HI6.out.bel).1
          have b0 := (HVJ.out _ HI6.out.bel).1
          have c0 := (HDI.out _ HI6.out.bel).1
          have d0 := (HDJ.out _ HI6.out.bel).1
          go_wp2_with fail
          go_quiet (fail)
          clear a0 b0 c0 d0
          generalize 2 * (ti.x - ci.x) - 2 * (tj.x - cj.x) - (wi + wj) = L1 at *
          have HLE2 := Lib.hid (show ((linJ pl i j (ti, ci)).length + [(L1, 2 * (ci.y - cj.y))].length) * 16 ≤ 140737488355328 by have := HLE.out; simp only [List.length_cons, List.length_nil]; omega)
          go_wp2_with fail
          refine genw (fun W => LnS w W (.slice Av2 nv2 cv2) (linJ pl i j (ti, ci))) (HI6.out.to (below_drewN (Below.refl _ _) _)) ?_
          intro W hW
          have H7 := Lib.hid hW
          clear hW HI6
          have HBD := Lib.hid (RowKit.Below.drew (Below.refl W.heap.size W))
          have HBL1 := Lib.hid (RowKit.Below.drew (bel_al W (Obj.cells #[.int .i64 L1, .int .i64 (2 * (ci.y - cj.y))] 132 (0, 0))))
          have HBL2 := Lib.hid (bel_to (RowKit.Below.drew (Below.refl W.heap.size W)) (bel_al W.drew (Obj.cells #[.int .i64 L1, .int .i64 (2 * (ci.y - cj.y))] 132 (0, 0))))
          have HX1 := Lib.hid (H7.out.to HBL1.out)
          have HX2 := Lib.hid (H7.out.to HBL2.out)
          have HYC := Lib.hid (fun E (hE : Below w.heap.size w E) => And.intro (HDI.out E hE).2.1 (HDJ.out E hE).2.1)
          go_region_held3 (fun E => E.cell? ⟨bc, oc + i * 3 + 1, none⟩ = some (.int .i64 ci.y) ∧ E.cell? ⟨bc, oc + j * 3 + 1, none⟩ = some (.int .i64 cj.y))
            (first | exact HYC.out _ HI9.out.bel | exact HYC.out _ HX1.out.bel | exact HYC.out _ HX2.out.bel | exact HYC.out _ (bel_to H7.out.bel HBD.out) | exact HYC.out _ H7.out.bel | exact HYC.out _ (bel_to H7.out.bel (bel_al W (Obj.cells #[.int .i64 L1, .int .i64 (2 * (ci.y - cj.y))] 132 (0, 0)))))
            (first | (refine step_app_OwnL rfl (.tmp 73) (.tmp 90) rfl rfl rfl rfl HX1.out.own (m := [(L1, 2 * (ci.y - cj.y))]) (fun j u e => lit_L W (L1, 2 * (ci.y - cj.y)) j u e) HX1.out.bel.size HLE2.out ?_; intro v9 w9 ho9 hg9; obtain ⟨A9, n9, c9, rfl⟩ := ho9.shape; have HI9 := Lib.hid (HX1.out.app ho9 hg9); clear ho9 hg9) | (refine step_app_OwnL rfl (.tmp 73) (.tmp 90) rfl rfl rfl rfl HX2.out.own (m := [(L1, 2 * (ci.y - cj.y))]) (fun j u e => lit_L W.drew (L1, 2 * (ci.y - cj.y)) j u e) HX2.out.bel.size HLE2.out ?_; intro v9 w9 ho9 hg9; obtain ⟨A9, n9, c9, rfl⟩ := ho9.shape; have HI9 := Lib.hid (HX2.out.app ho9 hg9); clear ho9 hg9))
          all_goals
            refine genw (fun W => LnS w W (.slice A9 n9 c9) (linJ pl i j (ti, ci) ++ [(L1, 2 * (ci.y - cj.y))])) HI9.out ?_
            intro W6 hW6
            have HI6 := Lib.hid hW6
            clear hW6 HI9 HX1 HX2 HBD HBL1 HBL2 HYC H7
            have a0 := (HVI.out _ HI6.out.bel).2.1
            have b0 := (HVJ.out _ HI6.out.bel).2.1
            have c0 := (HDI.out _ HI6.out.bel).2.1
            have d0 := (HDJ.out _ HI6.out.bel).2.1
            go_wp2_with fail
            go_quiet (fail)
            clear a0 b0 c0 d0 HLE2
            generalize 2 * (ti.y - ci.y) - 2 * (tj.y - cj.y) - (wi + wj) = L2 at *
            have HLE2 := Lib.hid (show ((linJ pl i j (ti, ci) ++ [(L1, 2 * (ci.y - cj.y))]).length + [(L2, 2 * (cj.x - ci.x))].length) * 16 ≤ 140737488355328 by have := HLE.out; simp only [List.length_append, List.length_cons, List.length_nil]; omega)
            go_wp2_with fail
            refine genw (fun W => LnS w W (.slice A9 n9 c9) (linJ pl i j (ti, ci) ++ [(L1, 2 * (ci.y - cj.y))])) (HI6.out.to (below_drewN (Below.refl _ _) _)) ?_
            intro W hW
            have H7 := Lib.hid hW
            clear hW HI6
            have HBD := Lib.hid (RowKit.Below.drew (Below.refl W.heap.size W))
            have HBL1 := Lib.hid (RowKit.Below.drew (bel_al W (Obj.cells #[.int .i64 L2, .int .i64 (2 * (cj.x - ci.x))] 132 (0, 0))))
            have HBL2 := Lib.hid (bel_to (RowKit.Below.drew (Below.refl W.heap.size W)) (bel_al W.drew (Obj.cells #[.int .i64 L2, .int .i64 (2 * (cj.x - ci.x))] 132 (0, 0))))
            have HX1 := Lib.hid (H7.out.to HBL1.out)
            have HX2 := Lib.hid (H7.out.to HBL2.out)
            have HYC := Lib.hid (fun E (hE : Below w.heap.size w E) => And.intro (HDI.out E hE).1 (HDJ.out E hE).1)
            go_region_held3 (fun E => E.cell? ⟨bc, oc + i * 3, none⟩ = some (.int .i64 ci.x) ∧ E.cell? ⟨bc, oc + j * 3, none⟩ = some (.int .i64 cj.x))
              (first | exact HYC.out _ HI9.out.bel | exact HYC.out _ HX1.out.bel | exact HYC.out _ HX2.out.bel | exact HYC.out _ (bel_to H7.out.bel HBD.out) | exact HYC.out _ H7.out.bel | exact HYC.out _ (bel_to H7.out.bel (bel_al W (Obj.cells #[.int .i64 L2, .int .i64 (2 * (cj.x - ci.x))] 132 (0, 0)))))
              (first | (refine step_app_OwnL rfl (.tmp 123) (.tmp 140) rfl rfl rfl rfl HX1.out.own (m := [(L2, 2 * (cj.x - ci.x))]) (fun j u e => lit_L W (L2, 2 * (cj.x - ci.x)) j u e) HX1.out.bel.size HLE2.out ?_; intro v9 w9 ho9 hg9; obtain ⟨B9, m9, d9, rfl⟩ := ho9.shape; have HI9 := Lib.hid (HX1.out.app ho9 hg9); clear ho9 hg9) | (refine step_app_OwnL rfl (.tmp 123) (.tmp 140) rfl rfl rfl rfl HX2.out.own (m := [(L2, 2 * (cj.x - ci.x))]) (fun j u e => lit_L W.drew (L2, 2 * (cj.x - ci.x)) j u e) HX2.out.bel.size HLE2.out ?_; intro v9 w9 ho9 hg9; obtain ⟨B9, m9, d9, rfl⟩ := ho9.shape; have HI9 := Lib.hid (HX2.out.app ho9 hg9); clear ho9 hg9))
            all_goals
              have HI0 := Lib.hid (show LnS w w9 (.slice B9 m9 d9) (linJ pl i (j + 1) (ti, ci)) by rw [HSUJ.out]; exact HI9.out)
              clear HI9 HX1 HX2 HBD HBL1 HBL2 HYC H7
              go_wp2
              go_roundw
              case rel => exact ⟨j + 1, by go_num, by omega, HI0⟩
              case measure => simp [intOf]; omega
        · obtain rfl : j = ts.length := by omega
          have hin2 := hin.out
          rw [HALI.out] at hin2
          have HI0 := Lib.hid hin2
          clear hin hin2
          go_wp2
          go_roundw
          case rel => exact ⟨i + 1, by go_num, by omega, HI0⟩
          case measure => simp [intOf]; omega
    · obtain rfl : i = ts.length := by omega
      have hin2 := hin.out
      rw [HEND.out] at hin2
      have HI0 := Lib.hid hin2
      clear hin hin2
      go_wp2
      go_ret
      exact ⟨_, rfl, HI0.out⟩
end W
end Go.Proofs.YtnaikafamjebdaaGreatDoor
end
section
namespace Go.Proofs.YtnaikafamjebdaaGreatDoor
open Go Go.RowKit Go.Deep
namespace M
def Few7 (l : List (Int × Int)) : Prop := ∀ x ∈ l, x.1.natAbs < 10 ^ 7 ∧ x.2.natAbs < 10 ^ 7
def BqO (s : Option Rat) : Prop := ∀ y, s = some y → Bq 18 y
theorem mul_in {x y : Int} (hx : x.natAbs < 10 ^ 7) (hy : y.natAbs < 10 ^ 7) : -100000000000000 ≤ x * y ∧ x * y ≤ 100000000000000 := by
  have h : (x * y).natAbs < 10 ^ 7 * 10 ^ 7 := by rw [Int.natAbs_mul]; exact Nat.mul_lt_mul'' hx hy
  omega
theorem wr_big {z : Int} (h0 : -400000000000000 ≤ z) (h1 : z ≤ 400000000000000) : wrap64 z = z := by unfold wrap64; omega
end M
structure LB (w W : World) (A B : Nat) (a1 a2 b1 b2 : Int) : Prop where
  ra : Row W A 132 [.int .i64 a1, .int .i64 a2]
  rb : Row W B 132 [.int .i64 b1, .int .i64 b2]
  bel : Below w.heap.size w W
theorem LB.to {w W W' : World} {A B : Nat} {a1 a2 b1 b2 : Int} (h : LB w W A B a1 a2 b1 b2) (hb : Below W.heap.size W W') : LB w W' A B a1 a2 b1 b2 := ⟨h.ra.below' hb, h.rb.below' hb, bel_to h.bel hb⟩
theorem LB.new0 {w W : World} (h : Below w.heap.size w W) (a1 a2 b1 b2 : Int) : LB w (((W.alloc (.cells #[.int .i64 a1, .int .i64 a2] 132 (0, 0))).alloc (.cells #[.int .i64 b1, .int .i64 b2] 132 (0, 0))).drew) W.heap.size (W.heap.size + 1) a1 a2 b1 b2 :=
  ⟨Row.alloc (rnew0 rfl) _, rnew0 (by simp), RowKit.Below.drew (bel_to h (bel_al2 W _ _))⟩
theorem LB.new1 {w W : World} (h : Below w.heap.size w W) (a1 a2 b1 b2 : Int) : LB w (((W.alloc (.cells #[.int .i64 b1, .int .i64 b2] 132 (0, 0))).alloc (.cells #[.int .i64 a1, .int .i64 a2] 132 (0, 0))).drew) (W.heap.size + 1) W.heap.size a1 a2 b1 b2 :=
  ⟨rnew0 (by simp), Row.alloc (rnew0 rfl) _, RowKit.Below.drew (bel_to h (bel_al2 W _ _))⟩
namespace W
open M
attribute [local go_sem] bs_size bs_toList bs_get bs_extract bs_append bs_lit0 bs_lit1 lit1_bs
set_option maxHeartbeats 4000000
set_option maxRecDepth 20000
theorem rlowest46 (vl : Value) (l : List (Int × Int)) (w : World) (hl : RdL w vl l) (hf : Few7 l) (hn : l.length ≤ 100) :
    Calls Tryz.prog 35 #[vl] w (Ret w (.string (bs (R (lowestQ l))))) := by
  have HL := Lib.hid hl
  have HF := Lib.hid hf
  obtain ⟨Al, cl, rfl⟩ := hl.len
  have HB0 := Lib.hid (Below.refl w.heap.size w)
  have HR0 : Hid (R 0 = [48]) := Lib.hid R_nil
  have HEND := Lib.hid (show lowestQ l = (lowAll l l.length).getD 0 from rfl)
  clear hl hf
  go_enter Tryz.func35, Tryz.ntmps35
  go_wp2
  go_loopw [3, 4, 5] (fun bv fv iv wr => ∃ (i : Nat) (s : Option Rat), iv = .int .i64 (i : Int) ∧ i ≤ l.length ∧ bv = .string (bs (R (s.getD 0))) ∧ fv = .bool s.isSome ∧ Hid (s = lowAll l i) ∧ Hid (BqO s) ∧ Hid (Below w.heap.size w wr)) (fun _ _ iv _ => l.length - (intOf iv).toNat)
  case atStart => exact ⟨0, none, rfl, by omega, by rw [show (none : Option Rat).getD 0 = 0 from rfl, HR0.out]; rfl, rfl, Lib.hid rfl, Lib.hid (fun y h => by cases h), HB0⟩
  case round =>
    clear HB0
    obtain ⟨i, s, rfl, hi, rfl, rfl, hs, hq, hb⟩ := hrel
    by_cases hlt : i < l.length
    · have HS0 : Hid (s = lowRow l i (lowAll l i) 0) := Lib.hid hs.out
      have HROW := Lib.hid (show lowRow l i (lowAll l i) l.length = lowAll l (i + 1) from rfl)
      have hi0 : (0 : Int) ≤ (i : Int) := by omega
      have hi1 : (i : Int) < (l.length : Int) := by omega
      generalize lowAll l i = s0 at *
      clear hs
      go_wp2
      go_loopw [3, 4, 6] (fun bv fv jv wq => ∃ (j : Nat) (s : Option Rat), jv = .int .i64 (j : Int) ∧ j ≤ l.length ∧ bv = .string (bs (R (s.getD 0))) ∧ fv = .bool s.isSome ∧ Hid (s = lowRow l i s0 j) ∧ Hid (BqO s) ∧ Hid (Below w.heap.size w wq)) (fun _ _ jv _ => l.length - (intOf jv).toNat)
      case atStart => exact ⟨0, s, rfl, by omega, rfl, rfl, HS0, hq, hb⟩
      case round =>
        clear HS0 hq hb
        obtain ⟨j, s, rfl, hj, rfl, rfl, hs, hq, hb⟩ := hrel
        by_cases hlj : j < l.length
        · have hj0 : (0 : Int) ≤ (j : Int) := by omega
          have hj1 : (j : Int) < (l.length : Int) := by omega
          obtain ⟨b, o, rfl, hv⟩ := HL.out.row i hlt
          have hv' := hv.below' hb.out
          obtain ⟨x1, x2⟩ := hv'.val i hlt
          obtain ⟨y1, y2⟩ := hv'.val j hlj
          have x1a : ∀ o1 : Obj, (wr.alloc o1).cell? ⟨b, o + i * 2, none⟩ = some (.int .i64 l[i].1) := fun o1 => ((hv'.below' (bel_al wr o1)).val i hlt).1
          have x2a : ∀ o1 : Obj, (wr.alloc o1).cell? ⟨b, o + i * 2 + 1, none⟩ = some (.int .i64 l[i].2) := fun o1 => ((hv'.below' (bel_al wr o1)).val i hlt).2
          have y1a : ∀ o1 : Obj, (wr.alloc o1).cell? ⟨b, o + j * 2, none⟩ = some (.int .i64 l[j].1) := fun o1 => ((hv'.below' (bel_al wr o1)).val j hlj).1
          have y2a : ∀ o1 : Obj, (wr.alloc o1).cell? ⟨b, o + j * 2 + 1, none⟩ = some (.int .i64 l[j].2) := fun o1 => ((hv'.below' (bel_al wr o1)).val j hlj).2
          have x1b : ∀ o1 o2 : Obj, ((wr.alloc o1).alloc o2).cell? ⟨b, o + i * 2, none⟩ = some (.int .i64 l[i].1) := fun o1 o2 => ((hv'.below' (bel_al2 wr o1 o2)).val i hlt).1
          have x2b : ∀ o1 o2 : Obj, ((wr.alloc o1).alloc o2).cell? ⟨b, o + i * 2 + 1, none⟩ = some (.int .i64 l[i].2) := fun o1 o2 => ((hv'.below' (bel_al2 wr o1 o2)).val i hlt).2
          have y1b : ∀ o1 o2 : Obj, ((wr.alloc o1).alloc o2).cell? ⟨b, o + j * 2, none⟩ = some (.int .i64 l[j].1) := fun o1 o2 => ((hv'.below' (bel_al2 wr o1 o2)).val j hlj).1
          have y2b : ∀ o1 o2 : Obj, ((wr.alloc o1).alloc o2).cell? ⟨b, o + j * 2 + 1, none⟩ = some (.int .i64 l[j].2) := fun o1 o2 => ((hv'.below' (bel_al2 wr o1 o2)).val j hlj).2
          have HFI := Lib.hid (HF.out _ (List.getElem_mem hlt))
          have HFJ := Lib.hid (HF.out _ (List.getElem_mem hlj))
          have HST := Lib.hid (show lowRow l i s0 (j + 1) = bestQ s (crossQ i j l[i] l[j]) by rw [hs.out]; show bestQ _ (crossQ i j (l.getD i (0, 0)) (l.getD j (0, 0))) = _; rw [Sx.getD_get l (0, 0) hlt, Sx.getD_get l (0, 0) hlj])
          clear hv hv' hs
          obtain ⟨⟨a1, a2⟩, hae⟩ : ∃ x, x = l[i] := ⟨_, rfl⟩
          obtain ⟨⟨b1, b2⟩, hbe⟩ : ∃ x, x = l[j] := ⟨_, rfl⟩
          rw [← hae] at HFI HST x1 x2 x1a x2a x1b x2b
          rw [← hbe] at HFJ HST y1 y2 y1a y2a y1b y2b
          simp only at x1 x2 x1a x2a x1b x2b y1 y2 y1a y2a y1b y2b
          clear hae hbe
          go_wp2
          go_region
          · refine genw (fun W => LB w W wr.heap.size (wr.heap.size + 1) a1 a2 b1 b2) (LB.new0 hb.out a1 a2 b1 b2) ?_
            intro W hW
            generalize wr.heap.size + 1 = B at *
            generalize wr.heap.size = A at *
            have HW := Lib.hid hW
            have ca1 : W.cell? ⟨A, 0, none⟩ = some (.int .i64 a1) := hW.ra.cell (i := 0) rfl
            have ca2 : W.cell? ⟨A, 1, none⟩ = some (.int .i64 a2) := hW.ra.cell (i := 1) rfl
            have cb1 : W.cell? ⟨B, 0, none⟩ = some (.int .i64 b1) := hW.rb.cell (i := 0) rfl
            have cb2 : W.cell? ⟨B, 1, none⟩ = some (.int .i64 b2) := hW.rb.cell (i := 1) rfl
            clear hW x1 x2 x1a x2a x1b x2b y1 y2 y1a y2a y1b y2b hb
            by_cases h1 : a2 < 0
            · by_cases h2 : 0 < b2
              · have HX := Lib.hid (show lowRow l i s0 (j + 1) = bestQ s (some (Rat.divInt (a1 * b2 - b1 * a2) (b2 - a2))) by rw [HST.out, show crossQ i j (a1, a2) (b1, b2) = some (Rat.divInt (a1 * b2 - b1 * a2) (b2 - a2)) from by unfold crossQ; rw [if_pos (by simp [h1, h2]), Rat.divInt_eq_div]])
                have m1 := mul_in HFI.out.1 HFJ.out.2
                have m2 := mul_in HFJ.out.1 HFI.out.2
                have m3 := HFI.out.2
                have m4 := HFJ.out.2
                have m5 := HFI.out.1
                (try simp only at m1 m2 m3 m4 m5)
                have hd0 : b2 - a2 ≠ 0 := by omega
                have HQX := Lib.hid (show Bq 18 (Rat.divInt (a1 * b2 - b1 * a2) (b2 - a2)) from Bq_div hd0 (by omega) (by omega))
                have HOV := Lib.hid (fun W => rover (a1 * b2 - b1 * a2) (b2 - a2) W (by omega) (by omega) hd0)
                have HWH := Lib.hid (fun W => whole_R a1 W (by omega) (by omega))
                have s1 : wrap64 (a1 * b2) = a1 * b2 := wr_big (by omega) (by omega)
                have s2 : wrap64 (b1 * a2) = b1 * a2 := wr_big (by omega) (by omega)
                have s3 : wrap64 (a1 * b2 - b1 * a2) = a1 * b2 - b1 * a2 := wr_big (by omega) (by omega)
                have s4 : wrap64 (b2 - a2) = b2 - a2 := wr_big (by omega) (by omega)
                have hnz : (a2 != 0) = true := by rw [bne_iff_ne]; omega
                clear m1 m2 m3 m4 m5 hd0 HST HFI HFJ
                go_wp2_with fail
                refine (HWH.out _).mono ?_
                rintro e w1 ⟨rfl, hb1⟩
                have HW1 := Lib.hid (HW.out.to hb1)
                clear ca1 ca2 cb1 cb2 hb1 HW HWH
                have ca1 : w1.cell? ⟨A, 0, none⟩ = some (.int .i64 a1) := HW1.out.ra.cell (i := 0) rfl
                have ca2 : w1.cell? ⟨A, 1, none⟩ = some (.int .i64 a2) := HW1.out.ra.cell (i := 1) rfl
                have cb1 : w1.cell? ⟨B, 0, none⟩ = some (.int .i64 b1) := HW1.out.rb.cell (i := 0) rfl
                have cb2 : w1.cell? ⟨B, 1, none⟩ = some (.int .i64 b2) := HW1.out.rb.cell (i := 1) rfl
                go_wp2_with fail
                refine (HOV.out _).mono ?_
                rintro e w2 ⟨rfl, hb2⟩
                have HBW := Lib.hid (bel_to HW1.out.bel hb2)
                clear ca1 ca2 cb1 cb2 hb2 HW1 HOV s1 s2 s3 s4 hnz h1 h2
                generalize Rat.divInt (a1 * b2 - b1 * a2) (b2 - a2) = x at *
                cases s with
                | none =>
                  have HN := Lib.hid (show lowRow l i s0 (j + 1) = some x from HX.out)
                  clear HX
                  go_wp2
                  go_roundw
                  case rel => exact ⟨j + 1, some x, by go_num, by omega, rfl, rfl, Lib.hid HN.out.symm, Lib.hid (fun y h => by injection h with h; rw [← h]; exact HQX.out), HBW⟩
                  case measure => simp [intOf]; omega
                | some y =>
                  have HQY := Lib.hid (hq.out y rfl)
                  have HO : Hid (∀ W, Calls Tryz.prog 67 #[.string (bs (R x)), .string (bs (R y))] W (Ret W (.int .i64 (cmpQ x y)))) := Lib.hid (fun W => order_R x y W (HQX.out.sh (by decide) (by decide)) (HQY.out.sh (by decide) (by decide)))
                  by_cases hc : y < x
                  · have hcz : 0 < cmpQ x y := cmpQ_gt.2 hc
                    have HN := Lib.hid (show lowRow l i s0 (j + 1) = some x by rw [HX.out]; exact if_pos hc)
                    clear HX hc
                    generalize cmpQ x y = cz at *
                    go_wp2_with fail
                    refine (HO.out _).mono ?_
                    rintro e wz ⟨rfl, hbz⟩
                    have HBZ := Lib.hid (bel_to HBW.out hbz)
                    clear hbz HBW HO
                    go_wp2
                    go_roundw
                    case rel => exact ⟨j + 1, some x, by go_num, by omega, rfl, rfl, Lib.hid HN.out.symm, Lib.hid (fun y h => by injection h with h; rw [← h]; exact HQX.out), HBZ⟩
                    case measure => simp [intOf]; omega
                  · have hcz : ¬ 0 < cmpQ x y := fun e => hc (cmpQ_gt.1 e)
                    have HN := Lib.hid (show lowRow l i s0 (j + 1) = some y by rw [HX.out]; exact if_neg hc)
                    clear HX hc
                    generalize cmpQ x y = cz at *
                    go_wp2_with fail
                    refine (HO.out _).mono ?_
                    rintro e wz ⟨rfl, hbz⟩
                    have HBZ := Lib.hid (bel_to HBW.out hbz)
                    clear hbz HBW HO
                    go_wp2
                    go_roundw
                    case rel => exact ⟨j + 1, some y, by go_num, by omega, rfl, rfl, Lib.hid HN.out.symm, hq, HBZ⟩
                    case measure => simp [intOf]; omega
              · have hz : (a2 == 0) = false := by rw [beq_eq_false_iff_ne]; omega
                have HN := Lib.hid (show lowRow l i s0 (j + 1) = s by rw [HST.out, show crossQ i j (a1, a2) (b1, b2) = none from by unfold crossQ; rw [if_neg (by simp [h2]), if_neg (by simp; omega)]]; cases s <;> rfl)
                have HBW := Lib.hid HW.out.bel
                clear HST HW HFI HFJ
                go_wp2
                go_roundw
                case rel => exact ⟨j + 1, s, by go_num, by omega, rfl, rfl, Lib.hid HN.out.symm, hq, HBW⟩
                case measure => simp [intOf]; omega
            · by_cases h3 : a2 = 0
              · subst h3
                by_cases h4 : i = j
                · have HX := Lib.hid (show lowRow l i s0 (j + 1) = bestQ s (some ((a1 : Int) : Rat)) by rw [HST.out, show crossQ i j (a1, 0) (b1, b2) = some ((a1 : Int) : Rat) from by unfold crossQ; rw [if_neg (by simp), if_pos (by simp [h4])]])
                  have m5 := HFI.out.1
                  (try simp only at m5)
                  have HQX := Lib.hid (show Bq 18 ((a1 : Int) : Rat) from (int_bq (z := a1) (by omega)).mono (by decide))
                  have HWH := Lib.hid (fun W => whole_R a1 W (by omega) (by omega))
                  have hij : (((i : Nat) : Int) == ((j : Nat) : Int)) = true := by rw [beq_iff_eq]; omega
                  clear m5 HST HFI HFJ h4
                  go_wp2_with fail
                  refine (HWH.out _).mono ?_
                  rintro e w1 ⟨rfl, hb1⟩
                  have HW1 := Lib.hid (HW.out.to hb1)
                  clear ca1 ca2 cb1 cb2 hb1 HW HWH
                  have ca2 : w1.cell? ⟨A, 1, none⟩ = some (.int .i64 0) := HW1.out.ra.cell (i := 1) rfl
                  have HBW := Lib.hid HW1.out.bel
                  clear HW1 hij
                  generalize ((a1 : Int) : Rat) = x at *
                  cases s with
                  | none =>
                    have HN := Lib.hid (show lowRow l i s0 (j + 1) = some x from HX.out)
                    clear HX
                    go_wp2
                    go_roundw
                    case rel => exact ⟨j + 1, some x, by go_num, by omega, rfl, rfl, Lib.hid HN.out.symm, Lib.hid (fun y h => by injection h with h; rw [← h]; exact HQX.out), HBW⟩
                    case measure => simp [intOf]; omega
                  | some y =>
                    have HQY := Lib.hid (hq.out y rfl)
                    have HO : Hid (∀ W, Calls Tryz.prog 67 #[.string (bs (R x)), .string (bs (R y))] W (Ret W (.int .i64 (cmpQ x y)))) := Lib.hid (fun W => order_R x y W (HQX.out.sh (by decide) (by decide)) (HQY.out.sh (by decide) (by decide)))
                    by_cases hc : y < x
                    · have hcz : 0 < cmpQ x y := cmpQ_gt.2 hc
                      have HN := Lib.hid (show lowRow l i s0 (j + 1) = some x by rw [HX.out]; exact if_pos hc)
                      clear HX hc
                      generalize cmpQ x y = cz at *
                      go_wp2_with fail
                      refine (HO.out _).mono ?_
                      rintro e wz ⟨rfl, hbz⟩
                      have HBZ := Lib.hid (bel_to HBW.out hbz)
                      clear hbz HBW HO
                      go_wp2
                      go_roundw
                      case rel => exact ⟨j + 1, some x, by go_num, by omega, rfl, rfl, Lib.hid HN.out.symm, Lib.hid (fun y h => by injection h with h; rw [← h]; exact HQX.out), HBZ⟩
                      case measure => simp [intOf]; omega
                    · have hcz : ¬ 0 < cmpQ x y := fun e => hc (cmpQ_gt.1 e)
                      have HN := Lib.hid (show lowRow l i s0 (j + 1) = some y by rw [HX.out]; exact if_neg hc)
                      clear HX hc
                      generalize cmpQ x y = cz at *
                      go_wp2_with fail
                      refine (HO.out _).mono ?_
                      rintro e wz ⟨rfl, hbz⟩
                      have HBZ := Lib.hid (bel_to HBW.out hbz)
                      clear hbz HBW HO
                      go_wp2
                      go_roundw
                      case rel => exact ⟨j + 1, some y, by go_num, by omega, rfl, rfl, Lib.hid HN.out.symm, hq, HBZ⟩
                      case measure => simp [intOf]; omega
                · have hij : (((i : Nat) : Int) == ((j : Nat) : Int)) = false := by rw [beq_eq_false_iff_ne]; omega
                  have HN := Lib.hid (show lowRow l i s0 (j + 1) = s by rw [HST.out, show crossQ i j (a1, 0) (b1, b2) = none from by unfold crossQ; rw [if_neg (by simp), if_neg (by simp [h4])]]; cases s <;> rfl)
                  have HBW := Lib.hid HW.out.bel
                  clear HST HW HFI HFJ
                  go_wp2
                  go_roundw
                  case rel => exact ⟨j + 1, s, by go_num, by omega, rfl, rfl, Lib.hid HN.out.symm, hq, HBW⟩
                  case measure => simp [intOf]; omega
              · have hz : (a2 == 0) = false := by rw [beq_eq_false_iff_ne]; exact h3
                have HN := Lib.hid (show lowRow l i s0 (j + 1) = s by rw [HST.out, show crossQ i j (a1, a2) (b1, b2) = none from by unfold crossQ; rw [if_neg (by simp [h1]), if_neg (by simp [h3])]]; cases s <;> rfl)
                have HBW := Lib.hid HW.out.bel
                clear HST HW HFI HFJ
                go_wp2
                go_roundw
                case rel => exact ⟨j + 1, s, by go_num, by omega, rfl, rfl, Lib.hid HN.out.symm, hq, HBW⟩
                case measure => simp [intOf]; omega
          · refine genw (fun W => LB w W (wr.heap.size + 1) wr.heap.size a1 a2 b1 b2) (LB.new1 hb.out a1 a2 b1 b2) ?_
            intro W hW
            generalize wr.heap.size + 1 = A at *
            generalize wr.heap.size = B at *
            have HW := Lib.hid hW
            have ca1 : W.cell? ⟨A, 0, none⟩ = some (.int .i64 a1) := hW.ra.cell (i := 0) rfl
            have ca2 : W.cell? ⟨A, 1, none⟩ = some (.int .i64 a2) := hW.ra.cell (i := 1) rfl
            have cb1 : W.cell? ⟨B, 0, none⟩ = some (.int .i64 b1) := hW.rb.cell (i := 0) rfl
            have cb2 : W.cell? ⟨B, 1, none⟩ = some (.int .i64 b2) := hW.rb.cell (i := 1) rfl
            clear hW x1 x2 x1a x2a x1b x2b y1 y2 y1a y2a y1b y2b hb
            by_cases h1 : a2 < 0
            · by_cases h2 : 0 < b2
              · have HX := Lib.hid (show lowRow l i s0 (j + 1) = bestQ s (some (Rat.divInt (a1 * b2 - b1 * a2) (b2 - a2))) by rw [HST.out, show crossQ i j (a1, a2) (b1, b2) = some (Rat.divInt (a1 * b2 - b1 * a2) (b2 - a2)) from by unfold crossQ; rw [if_pos (by simp [h1, h2]), Rat.divInt_eq_div]])
                have m1 := mul_in HFI.out.1 HFJ.out.2
                have m2 := mul_in HFJ.out.1 HFI.out.2
                have m3 := HFI.out.2
                have m4 := HFJ.out.2
                have m5 := HFI.out.1
                (try simp only at m1 m2 m3 m4 m5)
                have hd0 : b2 - a2 ≠ 0 := by omega
                have HQX := Lib.hid (show Bq 18 (Rat.divInt (a1 * b2 - b1 * a2) (b2 - a2)) from Bq_div hd0 (by omega) (by omega))
                have HOV := Lib.hid (fun W => rover (a1 * b2 - b1 * a2) (b2 - a2) W (by omega) (by omega) hd0)
                have HWH := Lib.hid (fun W => whole_R a1 W (by omega) (by omega))
                have s1 : wrap64 (a1 * b2) = a1 * b2 := wr_big (by omega) (by omega)
                have s2 : wrap64 (b1 * a2) = b1 * a2 := wr_big (by omega) (by omega)
                have s3 : wrap64 (a1 * b2 - b1 * a2) = a1 * b2 - b1 * a2 := wr_big (by omega) (by omega)
                have s4 : wrap64 (b2 - a2) = b2 - a2 := wr_big (by omega) (by omega)
                have hnz : (a2 != 0) = true := by rw [bne_iff_ne]; omega
                clear m1 m2 m3 m4 m5 hd0 HST HFI HFJ
                go_wp2_with fail
                refine (HWH.out _).mono ?_
                rintro e w1 ⟨rfl, hb1⟩
                have HW1 := Lib.hid (HW.out.to hb1)
                clear ca1 ca2 cb1 cb2 hb1 HW HWH
                have ca1 : w1.cell? ⟨A, 0, none⟩ = some (.int .i64 a1) := HW1.out.ra.cell (i := 0) rfl
                have ca2 : w1.cell? ⟨A, 1, none⟩ = some (.int .i64 a2) := HW1.out.ra.cell (i := 1) rfl
                have cb1 : w1.cell? ⟨B, 0, none⟩ = some (.int .i64 b1) := HW1.out.rb.cell (i := 0) rfl
                have cb2 : w1.cell? ⟨B, 1, none⟩ = some (.int .i64 b2) := HW1.out.rb.cell (i := 1) rfl
                go_wp2_with fail
                refine (HOV.out _).mono ?_
                rintro e w2 ⟨rfl, hb2⟩
                have HBW := Lib.hid (bel_to HW1.out.bel hb2)
                clear ca1 ca2 cb1 cb2 hb2 HW1 HOV s1 s2 s3 s4 hnz h1 h2
                generalize Rat.divInt (a1 * b2 - b1 * a2) (b2 - a2) = x at *
                cases s with
                | none =>
                  have HN := Lib.hid (show lowRow l i s0 (j + 1) = some x from HX.out)
                  clear HX
                  go_wp2
                  go_roundw
                  case rel => exact ⟨j + 1, some x, by go_num, by omega, rfl, rfl, Lib.hid HN.out.symm, Lib.hid (fun y h => by injection h with h; rw [← h]; exact HQX.out), HBW⟩
                  case measure => simp [intOf]; omega
                | some y =>
                  have HQY := Lib.hid (hq.out y rfl)
                  have HO : Hid (∀ W, Calls Tryz.prog 67 #[.string (bs (R x)), .string (bs (R y))] W (Ret W (.int .i64 (cmpQ x y)))) := Lib.hid (fun W => order_R x y W (HQX.out.sh (by decide) (by decide)) (HQY.out.sh (by decide) (by decide)))
                  by_cases hc : y < x
                  · have hcz : 0 < cmpQ x y := cmpQ_gt.2 hc
                    have HN := Lib.hid (show lowRow l i s0 (j + 1) = some x by rw [HX.out]; exact if_pos hc)
                    clear HX hc
                    generalize cmpQ x y = cz at *
                    go_wp2_with fail
                    refine (HO.out _).mono ?_
                    rintro e wz ⟨rfl, hbz⟩
                    have HBZ := Lib.hid (bel_to HBW.out hbz)
                    clear hbz HBW HO
                    go_wp2
                    go_roundw
                    case rel => exact ⟨j + 1, some x, by go_num, by omega, rfl, rfl, Lib.hid HN.out.symm, Lib.hid (fun y h => by injection h with h; rw [← h]; exact HQX.out), HBZ⟩
                    case measure => simp [intOf]; omega
                  · have hcz : ¬ 0 < cmpQ x y := fun e => hc (cmpQ_gt.1 e)
                    have HN := Lib.hid (show lowRow l i s0 (j + 1) = some y by rw [HX.out]; exact if_neg hc)
                    clear HX hc
                    generalize cmpQ x y = cz at *
                    go_wp2_with fail
                    refine (HO.out _).mono ?_
                    rintro e wz ⟨rfl, hbz⟩
                    have HBZ := Lib.hid (bel_to HBW.out hbz)
                    clear hbz HBW HO
                    go_wp2
                    go_roundw
                    case rel => exact ⟨j + 1, some y, by go_num, by omega, rfl, rfl, Lib.hid HN.out.symm, hq, HBZ⟩
                    case measure => simp [intOf]; omega
              · have hz : (a2 == 0) = false := by rw [beq_eq_false_iff_ne]; omega
                have HN := Lib.hid (show lowRow l i s0 (j + 1) = s by rw [HST.out, show crossQ i j (a1, a2) (b1, b2) = none from by unfold crossQ; rw [if_neg (by simp [h2]), if_neg (by simp; omega)]]; cases s <;> rfl)
                have HBW := Lib.hid HW.out.bel
                clear HST HW HFI HFJ
                go_wp2
                go_roundw
                case rel => exact ⟨j + 1, s, by go_num, by omega, rfl, rfl, Lib.hid HN.out.symm, hq, HBW⟩
                case measure => simp [intOf]; omega
            · by_cases h3 : a2 = 0
              · subst h3
                by_cases h4 : i = j
                · have HX := Lib.hid (show lowRow l i s0 (j + 1) = bestQ s (some ((a1 : Int) : Rat)) by rw [HST.out, show crossQ i j (a1, 0) (b1, b2) = some ((a1 : Int) : Rat) from by unfold crossQ; rw [if_neg (by simp), if_pos (by simp [h4])]])
                  have m5 := HFI.out.1
                  (try simp only at m5)
                  have HQX := Lib.hid (show Bq 18 ((a1 : Int) : Rat) from (int_bq (z := a1) (by omega)).mono (by decide))
                  have HWH := Lib.hid (fun W => whole_R a1 W (by omega) (by omega))
                  have hij : (((i : Nat) : Int) == ((j : Nat) : Int)) = true := by rw [beq_iff_eq]; omega
                  clear m5 HST HFI HFJ h4
                  go_wp2_with fail
                  refine (HWH.out _).mono ?_
                  rintro e w1 ⟨rfl, hb1⟩
                  have HW1 := Lib.hid (HW.out.to hb1)
                  clear ca1 ca2 cb1 cb2 hb1 HW HWH
                  have ca2 : w1.cell? ⟨A, 1, none⟩ = some (.int .i64 0) := HW1.out.ra.cell (i := 1) rfl
                  have HBW := Lib.hid HW1.out.bel
                  clear HW1 hij
                  generalize ((a1 : Int) : Rat) = x at *
                  cases s with
                  | none =>
                    have HN := Lib.hid (show lowRow l i s0 (j + 1) = some x from HX.out)
                    clear HX
                    go_wp2
                    go_roundw
                    case rel => exact ⟨j + 1, some x, by go_num, by omega, rfl, rfl, Lib.hid HN.out.symm, Lib.hid (fun y h => by injection h with h; rw [← h]; exact HQX.out), HBW⟩
                    case measure => simp [intOf]; omega
                  | some y =>
                    have HQY := Lib.hid (hq.out y rfl)
                    have HO : Hid (∀ W, Calls Tryz.prog 67 #[.string (bs (R x)), .string (bs (R y))] W (Ret W (.int .i64 (cmpQ x y)))) := Lib.hid (fun W => order_R x y W (HQX.out.sh (by decide) (by decide)) (HQY.out.sh (by decide) (by decide)))
                    by_cases hc : y < x
                    · have hcz : 0 < cmpQ x y := cmpQ_gt.2 hc
                      have HN := Lib.hid (show lowRow l i s0 (j + 1) = some x by rw [HX.out]; exact if_pos hc)
                      clear HX hc
                      generalize cmpQ x y = cz at *
                      go_wp2_with fail
                      refine (HO.out _).mono ?_
                      rintro e wz ⟨rfl, hbz⟩
                      have HBZ := Lib.hid (bel_to HBW.out hbz)
                      clear hbz HBW HO
                      go_wp2
                      go_roundw
                      case rel => exact ⟨j + 1, some x, by go_num, by omega, rfl, rfl, Lib.hid HN.out.symm, Lib.hid (fun y h => by injection h with h; rw [← h]; exact HQX.out), HBZ⟩
                      case measure => simp [intOf]; omega
                    · have hcz : ¬ 0 < cmpQ x y := fun e => hc (cmpQ_gt.1 e)
                      have HN := Lib.hid (show lowRow l i s0 (j + 1) = some y by rw [HX.out]; exact if_neg hc)
                      clear HX hc
                      generalize cmpQ x y = cz at *
                      go_wp2_with fail
                      refine (HO.out _).mono ?_
                      rintro e wz ⟨rfl, hbz⟩
                      have HBZ := Lib.hid (bel_to HBW.out hbz)
                      clear hbz HBW HO
                      go_wp2
                      go_roundw
                      case rel => exact ⟨j + 1, some y, by go_num, by omega, rfl, rfl, Lib.hid HN.out.symm, hq, HBZ⟩
                      case measure => simp [intOf]; omega
                · have hij : (((i : Nat) : Int) == ((j : Nat) : Int)) = false := by rw [beq_eq_false_iff_ne]; omega
                  have HN := Lib.hid (show lowRow l i s0 (j + 1) = s by rw [HST.out, show crossQ i j (a1, 0) (b1, b2) = none from by unfold crossQ; rw [if_neg (by simp), if_neg (by simp [h4])]]; cases s <;> rfl)
                  have HBW := Lib.hid HW.out.bel
                  clear HST HW HFI HFJ
                  go_wp2
                  go_roundw
                  case rel => exact ⟨j + 1, s, by go_num, by omega, rfl, rfl, Lib.hid HN.out.symm, hq, HBW⟩
                  case measure => simp [intOf]; omega
              · have hz : (a2 == 0) = false := by rw [beq_eq_false_iff_ne]; exact h3
                have HN := Lib.hid (show lowRow l i s0 (j + 1) = s by rw [HST.out, show crossQ i j (a1, a2) (b1, b2) = none from by unfold crossQ; rw [if_neg (by simp [h1]), if_neg (by simp [h3])]]; cases s <;> rfl)
                have HBW := Lib.hid HW.out.bel
                clear HST HW HFI HFJ
                go_wp2
                go_roundw
                case rel => exact ⟨j + 1, s, by go_num, by omega, rfl, rfl, Lib.hid HN.out.symm, hq, HBW⟩
                case measure => simp [intOf]; omega
        · obtain rfl : j = l.length := by omega
          have hs2 := hs.out
          rw [HROW.out] at hs2
          have HS2 := Lib.hid hs2
          clear hs hs2
          go_wp2
          go_roundw
          case rel => exact ⟨i + 1, s, by go_num, by omega, rfl, rfl, HS2, hq, hb⟩
          case measure => simp [intOf]; omega
    · obtain rfl : i = l.length := by omega
      have HE := Lib.hid (show R (s.getD 0) = R (lowestQ l) by rw [HEND.out, hs.out])
      clear hs
      go_wp2
      go_ret
      exact Ret.of (by rw [HE.out]; rfl) hb.out
end W
end Go.Proofs.YtnaikafamjebdaaGreatDoor
end
section
namespace Go.Proofs.YtnaikafamjebdaaGreatDoor
namespace M
theorem zip_ne {ts : List Tg} {cs : List Cc} (h : chk46 ts cs = 0) : ts.zip cs ≠ [] := by
  obtain ⟨h1, h2, h3, h4⟩ := chk46_iff.1 h
  match ts, cs, h1, h3 with
  | t :: ts, c :: cs, _, _ => simp
theorem exc_same2 {pl : Pl} {x y : Rat} (h : Sx.Exc pl x) (h2 : Sx.Exc pl y) : x = y := Rat.le_antisymm (Sx.exc_fewer h2 h fun _ h => h) (Sx.exc_fewer h h2 fun _ h => h)
end M
end Go.Proofs.YtnaikafamjebdaaGreatDoor
end
section
namespace Go.Proofs.YtnaikafamjebdaaGreatDoor
open Go Go.RowKit Go.Deep
namespace M
theorem lines_few {pl : Pl} (h : ∀ p ∈ pl, RtH p) : Few7 (linesZ pl) := by
  intro x hx
  unfold linesZ at hx
  rw [List.mem_flatMap] at hx
  obtain ⟨p, hp, hx⟩ := hx
  rw [List.mem_flatMap] at hx
  obtain ⟨q, hq, hx⟩ := hx
  have h1 := h p hp
  have h2 := h q hq
  have w1 := h1.wide
  have w2 := h2.wide
  have a1 := h1.1.x
  have a2 := h1.1.y
  have a3 := h1.2.1.x
  have a4 := h1.2.1.y
  have b1 := h2.1.x
  have b2 := h2.1.y
  have b3 := h2.2.1.x
  have b4 := h2.2.1.y
  simp only [List.mem_cons, List.not_mem_nil, or_false] at hx
  rcases hx with rfl | rfl
  · unfold ln1; constructor <;> (simp only; omega)
  · unfold ln2; constructor <;> (simp only; omega)
theorem lines_len {pl : Pl} (h : pl.length ≤ 5) : (linesZ pl).length ≤ 100 := by
  have h1 := linJ_len pl pl.length 0 (⟨0, 0, 0, 0, 0, 0, false⟩, ⟨0, 0, 0⟩) h
  rw [linJ_zero, linI_all] at h1
  omega
theorem over_bq {ts : List Tg} {cs : List Cc} (h : chk46 ts cs = 0) (h5 : ts.length ≤ 5) : Bq 37 (overQ (ts.zip cs)) := by
  obtain ⟨_, _, _, x, hx, _, hq, _⟩ := W.pexcess_ok ts cs h h5
  rw [show overQ (ts.zip cs) = x from exc_same2 (Sx.exc_over (zip_ne h)) hx]
  exact hq x (by simp)
theorem low_bq {ts : List Tg} {cs : List Cc} (h : chk46 ts cs = 0) (h5 : ts.length ≤ 5) : Bq 45 (lowestQ (linesZ (ts.zip cs))) := by
  have h1 := over_bq h h5
  have e : lowestQ (linesZ (ts.zip cs)) = 2 * overQ (ts.zip cs) := by unfold overQ; grind
  rw [e]
  exact (Bq.mul (j := 8) (k := 37) (show Bq 8 (2 : Rat) from by decide +kernel) h1).mono (by decide)
end M
namespace W
open M
attribute [local go_sem] bs_size bs_toList bs_get bs_extract bs_append bs_lit0 bs_lit1 lit1_bs
set_option maxHeartbeats 2000000
set_option maxRecDepth 20000
theorem rover46 (vt vc : Value) (ts : List Tg) (cs : List Cc) (w : World) (ht : RdG w vt ts) (hc : RdC w vc cs) (h : chk46 ts cs = 0) (h5 : ts.length ≤ 5) :
    Calls Tryz.prog 11 #[vt, vc] w (Ret w (.string (bs (R (overQ (ts.zip cs)))))) := by
  have hrt := (chk46_iff.1 h).2.2.2
  have hzl : (ts.zip cs).length ≤ 5 := by rw [List.length_zip]; omega
  have hlq := low_bq h h5
  have HLI := Lib.hid (rlines46 vt vc ts cs w ht hc h h5)
  have HLO := Lib.hid (fun v W (hv : RdL W v (linesZ (ts.zip cs))) => rlowest46 v _ W hv (lines_few hrt) (lines_len hzl))
  have hby := fun W => rby (lowestQ (linesZ (ts.zip cs))) 2 W (hlq.sh (by decide) (by decide)) ((show Bq 8 (2 : Rat) from by decide +kernel).sh (by decide) (by decide)) (by decide +kernel)
  rw [R_texts.2.2.1, show lowestQ (linesZ (ts.zip cs)) / 2 = overQ (ts.zip cs) from rfl] at hby
  have HBY := Lib.hid hby
  obtain ⟨At, ct, rfl⟩ := ht.len
  obtain ⟨Ac, cc, rfl⟩ := hc.len
  clear ht hc h h5 hrt hzl hlq hby
  generalize linesZ (ts.zip cs) = ll at *
  generalize overQ (ts.zip cs) = ov at *
  go_enter Tryz.func11, Tryz.ntmps11
  go_wp2_with fail
  refine HLI.out.mono ?_
  rintro e w1 ⟨v, rfl, hs⟩
  have H1 := Lib.hid hs
  have hr := hs.own.rd
  obtain ⟨A, c, rfl⟩ := hr.len
  have HR := Lib.hid hr
  clear hs hr HLI
  go_wp2_with fail
  refine (HLO.out _ _ HR.out).mono ?_
  rintro e w2 ⟨rfl, hb2⟩
  have HB2 := Lib.hid (bel_to H1.out.bel hb2)
  clear hb2 H1 HR HLO
  go_wp2_with fail
  refine (HBY.out _).mono ?_
  rintro e w3 ⟨rfl, hb3⟩
  have HB3 := Lib.hid (bel_to HB2.out hb3)
  clear hb3 HB2 HBY
  go_wp2
  go_ret
  exact ⟨rfl, HB3.out⟩
end W
end Go.Proofs.YtnaikafamjebdaaGreatDoor
end
