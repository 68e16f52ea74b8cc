/-
  Chapter 46, the reference: 'Lines'.
-/
import Derived.Test.YtfcffheboncmbaaGreatDoorKAE
import Derived.Test.YtfcffheboncmbaaGreatDoorKU
import Derived.Test.YtfcffheboncmbaaGreatDoorKY
import Derived.Test.YtfcffheboncmbaaGreatDoorKZ
import Derived.Deep.RegionHeld3
section
namespace Go.Proofs.YtfcffheboncmbaaGreatDoor
open Go Go.RowKit Go.Deep
namespace M
open Sx
def linI (pl : Pl) (i : Nat) : List (Int × Int) := (pl.take i).flatMap fun p => pl.flatMap fun q => [ln1 p q, ln2 p q]
def linJ (pl : Pl) (i j : Nat) (p : Tg × Cc) : List (Int × Int) := linI pl i ++ (pl.take j).flatMap fun q => [ln1 p q, ln2 p q]
theorem linI_zero (pl : Pl) : linI pl 0 = [] := by simp [linI]
theorem linI_all (pl : Pl) : linI pl pl.length = linesZ pl := by simp [linI, linesZ]
theorem linJ_zero (pl : Pl) (i : Nat) (p : Tg × Cc) : linJ pl i 0 p = linI pl i := by simp [linJ]
theorem linJ_succ (pl : Pl) (i j : Nat) (p : Tg × Cc) (h : j < pl.length) : linJ pl i (j + 1) p = linJ pl i j p ++ [ln1 p pl[j]] ++ [ln2 p pl[j]] := by
  unfold linJ
  rw [List.take_add_one, List.getElem?_eq_getElem h, List.flatMap_append]
  simp
theorem linJ_all (pl : Pl) (i : Nat) (h : i < pl.length) : linJ pl i pl.length pl[i] = linI pl (i + 1) := by
  unfold linJ linI
  rw [List.take_add_one, List.getElem?_eq_getElem h, List.flatMap_append]
  simp
theorem linJ_len (pl : Pl) (i j : Nat) (p : Tg × Cc) (h : pl.length ≤ 5) : (linJ pl i j p).length ≤ 60 := by
  have h1 : ∀ (l : Pl) (p : Tg × Cc), (l.flatMap fun q => [ln1 p q, ln2 p q]).length = 2 * l.length := fun l p => by
    induction l with
    | nil => rfl
    | cons a t ih => rw [List.flatMap_cons, List.length_append, ih]; simp; omega
  have h2 : ∀ l : Pl, (l.flatMap fun p => pl.flatMap fun q => [ln1 p q, ln2 p q]).length = l.length * (2 * pl.length) := fun l => by
    induction l with
    | nil => simp
    | cons a t ih => rw [List.flatMap_cons, List.length_append, ih, h1, List.length_cons, Nat.add_mul, Nat.one_mul, Nat.add_comm]
  unfold linJ linI
  rw [List.length_append, h2, h1, List.length_take, List.length_take]
  have h3 : min i pl.length * (2 * pl.length) ≤ 5 * 10 := Nat.mul_le_mul (by omega) (by omega)
  omega
end M
theorem lit_L (w : World) (x : Int × Int) : ∀ j u, (csL [x])[j]? = some u → (w.alloc (.cells #[.int .i64 x.1, .int .i64 x.2] 167 (0, 0))).cell? ((⟨w.heap.size, 0, none⟩ : Addr).add j) = some u := fun j u hu => by
  have hadd : (⟨w.heap.size, 0, none⟩ : Addr).add j = ⟨w.heap.size, j, none⟩ := by unfold Addr.add; split <;> simp_all
  rw [hadd]
  exact (Row.new w 167 [.int .i64 x.1, .int .i64 x.2]).cell hu
/-- The own list of lines behind a world. -/
structure LnS (w0 w : World) (v : Value) (l : List (Int × Int)) : Prop where
  own : OwnL w w0.heap.size v l
  bel : Below w0.heap.size w0 w
theorem LnS.to {w0 w w' : World} {v : Value} {l : List (Int × Int)} (h : LnS w0 w v l) (hb : Below w.heap.size w w') : LnS w0 w' v l := ⟨h.own.below hb, bel_to h.bel hb⟩
theorem LnS.app {w0 w w' : World} {v v' : Value} {l l' : List (Int × Int)} (h : LnS w0 w v l) (ho : OwnL w' w0.heap.size v' l') (hg : w.grownBy w' v.ownBlock) : LnS w0 w' v' l' := ⟨ho, app_belOwnL h.own h.bel (Nat.le_refl _) hg⟩
namespace W
open M
attribute [local go_sem] bs_size bs_toList bs_get bs_extract bs_append bs_lit0 bs_lit1 lit1_bs
set_option maxHeartbeats 2000000
set_option maxRecDepth 20000
theorem rlines46 (vt vc : Value) (ts : List Tg) (cs : List Cc) (w : World) (ht : RdG w vt ts) (hc : RdC w vc cs) (h : chk46 ts cs = 0) (h5 : ts.length ≤ 5) :
    Calls Tryz.prog 60 #[vt, vc] w (fun e w' => ∃ v, e = .returned v ∧ LnS w w' v (linesZ (ts.zip cs))) := by
  obtain ⟨h1, h16, hlen, hrt⟩ := chk46_iff.1 h
  have hzl : (ts.zip cs).length = ts.length := by rw [List.length_zip]; omega
  have hg : ∀ i (hi : i < ts.length) (hi2 : i < cs.length) (h3 : i < (ts.zip cs).length), (ts.zip cs)[i]'h3 = (ts[i], cs[i]) := fun i hi hi2 h3 => by simp
  have HRT : Hid (∀ i (hi : i < ts.length) (hi2 : i < cs.length), RtH (ts[i], cs[i])) := Lib.hid (fun i hi hi2 => hrt _ (by rw [← hg i hi hi2 (by omega)]; exact List.getElem_mem _))
  have HSU : Hid (∀ i j p (hj : j < ts.length) (hj2 : j < cs.length), linJ (ts.zip cs) i (j + 1) p = linJ (ts.zip cs) i j p ++ [ln1 p (ts[j], cs[j])] ++ [ln2 p (ts[j], cs[j])]) := Lib.hid (fun i j p hj hj2 => by
    rw [linJ_succ _ _ _ _ (by omega), hg j hj hj2])
  have HAL : Hid (∀ i (hi : i < ts.length) (hi2 : i < cs.length), linJ (ts.zip cs) i ts.length (ts[i], cs[i]) = linI (ts.zip cs) (i + 1)) := Lib.hid (fun i hi hi2 => by
    have h2 := linJ_all (ts.zip cs) i (by omega)
    rw [hg i hi hi2, hzl] at h2
    exact h2)
  have HEND := Lib.hid (show linI (ts.zip cs) ts.length = linesZ (ts.zip cs) by rw [← hzl]; exact linI_all _)
  have HLN := Lib.hid (fun i j p => linJ_len (ts.zip cs) i j p (by omega))
  have HL0 : Hid (LnS w w (.slice none 0 0) (linI (ts.zip cs) 0)) := Lib.hid ⟨by rw [linI_zero]; exact OwnL.nil _ _, Below.refl _ _⟩
  have HLC := Lib.hid (show ∀ i, i < ts.length → i < cs.length from fun i hi => by omega)
  have HT := Lib.hid ht
  have HC := Lib.hid hc
  obtain ⟨At, ct, rfl⟩ := ht.len
  obtain ⟨Ac, cc, rfl⟩ := hc.len
  clear ht hc h h16 hlen hrt hzl hg
  generalize ts.zip cs = pl at *
  go_enter Tryz.func60, Tryz.ntmps60
  go_wp2
  go_loopw [5, 6] (fun vo iv wr => ∃ i : Nat, iv = .int .i64 (i : Int) ∧ i ≤ ts.length ∧ Hid (LnS w wr vo (linI pl i))) (fun _ iv _ => ts.length - (intOf iv).toNat)
  case atStart => exact ⟨0, rfl, by omega, HL0⟩
  case round =>
    clear HL0
    obtain ⟨i, rfl, hi, hin⟩ := hrel
    obtain ⟨Av, nv, cv, rfl⟩ := hin.out.own.shape
    by_cases hlt : i < ts.length
    · have hlc := HLC.out i hlt
      have HI0 : Hid (LnS w wr (.slice Av nv cv) (linJ pl i 0 (ts[i], cs[i]))) := Lib.hid (by rw [linJ_zero]; exact hin.out)
      have HPI := Lib.hid (HRT.out i hlt hlc)
      have HALI := Lib.hid (HAL.out i hlt hlc)
      have HSUI := Lib.hid (fun j hj hj2 => HSU.out i j (ts[i], cs[i]) hj hj2)
      have hi0 : (0 : Int) ≤ (i : Int) := by omega
      have hit : (i : Int) < (ts.length : Int) := by omega
      have hic : (i : Int) < (cs.length : Int) := by omega
      clear hin HSU HAL
      generalize hti : ts[i] = ti at *
      generalize hci : cs[i] = ci at *
      go_wp2
      go_loopw [5, 7] (fun vo jv wq => ∃ j : Nat, jv = .int .i64 (j : Int) ∧ j ≤ ts.length ∧ Hid (LnS w wq vo (linJ pl i j (ti, ci)))) (fun _ jv _ => ts.length - (intOf jv).toNat)
      case atStart => exact ⟨0, rfl, by omega, HI0⟩
      case round =>
        clear HI0
        obtain ⟨j, rfl, hj, hin⟩ := hrel
        obtain ⟨Av2, nv2, cv2, rfl⟩ := hin.out.own.shape
        by_cases hlj : j < ts.length
        · have hjc := HLC.out j hlj
          have HPJ := Lib.hid (HRT.out j hlj hjc)
          have hsu := HSUI.out j hlj hjc
          have hj0 : (0 : Int) ≤ (j : Int) := by omega
          have hjt : (j : Int) < (ts.length : Int) := by omega
          have hjc2 : (j : Int) < (cs.length : Int) := by omega
          have HTB := HT.out
          have HCB := HC.out
          obtain ⟨bt, ot, e1, hst⟩ := HTB.row i hlt
          obtain ⟨bc, oc, e2, hsc⟩ := HCB.row i hlc
          obtain ⟨bt2, ot2, e3, hst2⟩ := HTB.row j hlj
          obtain ⟨bc2, oc2, e4, hsc2⟩ := HCB.row j hjc
          rw [e1] at e3
          rw [e2] at e4
          injection e3 with e3
          injection e4 with e4
          injection e3 with e3 e5
          injection e4 with e4 e6
          subst e3 e4 e5 e6 e1 e2
          have hvi := fun W (hW : Below w.heap.size w W) => (hst.below' hW).val i hlt
          have hvj := fun W (hW : Below w.heap.size w W) => (hst.below' hW).val j hlj
          have hdi := fun W (hW : Below w.heap.size w W) => (hsc.below' hW).val i hlc
          have hdj := fun W (hW : Below w.heap.size w W) => (hsc.below' hW).val j hjc
          rw [hti] at hvi
          rw [hci] at hdi
          generalize htj : ts[j] = tj at *
          generalize hcj : cs[j] = cj at *
          have HVI := Lib.hid hvi
          have HVJ := Lib.hid hvj
          have HDI := Lib.hid hdi
          have HDJ := Lib.hid hdj
          have w1 := HPI.out.wide
          have w2 := HPJ.out.wide
          have r1 := HPI.out.1.x
          have r2 := HPI.out.1.y
          have r3 := HPI.out.2.1.x
          have r4 := HPI.out.2.1.y
          have r5 := HPJ.out.1.x
          have r6 := HPJ.out.1.y
          have r7 := HPJ.out.2.1.x
          have r8 := HPJ.out.2.1.y
          have HW1 := Lib.hid (fun W => rwide46 ti ci W HPI.out.1 (by unfold wth; simp [HPI.out.2.2.1, HPI.out.2.2.2]))
          have HW2 := Lib.hid (fun W => rwide46 tj cj W HPJ.out.1 (by unfold wth; simp [HPJ.out.2.2.1, HPJ.out.2.2.2]))
          simp only at w1 w2 r1 r2 r3 r4 r5 r6 r7 r8
          rw [show ln1 (ti, ci) (tj, cj) = (2 * (ti.x - ci.x) - 2 * (tj.x - cj.x) - (wide ti ci + wide tj cj), 2 * (ci.y - cj.y)) from rfl, show ln2 (ti, ci) (tj, cj) = (2 * (ti.y - ci.y) - 2 * (tj.y - cj.y) - (wide ti ci + wide tj cj), 2 * (cj.x - ci.x)) from rfl] at hsu
          have HSUJ := Lib.hid hsu
          have HLE := Lib.hid (HLN.out i j (ti, ci))
          clear hvi hvj hdi hdj hsu hst hsc hst2 hsc2 HTB HCB htj hcj
          generalize wide ti ci = wi at *
          generalize wide tj cj = wj at *
          have z1 : IntKind.i64.wrap (wi + wj) = wi + wj := IntWalk.i64_in _ (by omega)
          have z2 : IntKind.i64.wrap (ti.x - ci.x) = ti.x - ci.x := IntWalk.i64_in _ (by omega)
          have z3 : IntKind.i64.wrap (2 * (ti.x - ci.x)) = 2 * (ti.x - ci.x) := IntWalk.i64_in _ (by omega)
          have z4 : IntKind.i64.wrap (tj.x - cj.x) = tj.x - cj.x := IntWalk.i64_in _ (by omega)
          have z5 : IntKind.i64.wrap (2 * (tj.x - cj.x)) = 2 * (tj.x - cj.x) := IntWalk.i64_in _ (by omega)
          have z6 : IntKind.i64.wrap (2 * (ti.x - ci.x) - 2 * (tj.x - cj.x)) = 2 * (ti.x - ci.x) - 2 * (tj.x - cj.x) := IntWalk.i64_in _ (by omega)
          have z7 : IntKind.i64.wrap (2 * (ti.x - ci.x) - 2 * (tj.x - cj.x) - (wi + wj)) = 2 * (ti.x - ci.x) - 2 * (tj.x - cj.x) - (wi + wj) := IntWalk.i64_in _ (by omega)
          have z8 : IntKind.i64.wrap (ti.y - ci.y) = ti.y - ci.y := IntWalk.i64_in _ (by omega)
          have z9 : IntKind.i64.wrap (2 * (ti.y - ci.y)) = 2 * (ti.y - ci.y) := IntWalk.i64_in _ (by omega)
          have za : IntKind.i64.wrap (tj.y - cj.y) = tj.y - cj.y := IntWalk.i64_in _ (by omega)
          have zb : IntKind.i64.wrap (2 * (tj.y - cj.y)) = 2 * (tj.y - cj.y) := IntWalk.i64_in _ (by omega)
          have zc : IntKind.i64.wrap (2 * (ti.y - ci.y) - 2 * (tj.y - cj.y)) = 2 * (ti.y - ci.y) - 2 * (tj.y - cj.y) := IntWalk.i64_in _ (by omega)
          have zd : IntKind.i64.wrap (2 * (ti.y - ci.y) - 2 * (tj.y - cj.y) - (wi + wj)) = 2 * (ti.y - ci.y) - 2 * (tj.y - cj.y) - (wi + wj) := IntWalk.i64_in _ (by omega)
          have ze : IntKind.i64.wrap (ci.y - cj.y) = ci.y - cj.y := IntWalk.i64_in _ (by omega)
          have zf : IntKind.i64.wrap (2 * (ci.y - cj.y)) = 2 * (ci.y - cj.y) := IntWalk.i64_in _ (by omega)
          have zg : IntKind.i64.wrap (cj.x - ci.x) = cj.x - ci.x := IntWalk.i64_in _ (by omega)
          have zh : IntKind.i64.wrap (2 * (cj.x - ci.x)) = 2 * (cj.x - ci.x) := IntWalk.i64_in _ (by omega)
          clear w1 w2 r1 r2 r3 r4 r5 r6 r7 r8 HPI HPJ
          obtain ⟨a0, a1, a2, a3, a4, a5, a6⟩ := HVI.out _ hin.out.bel
          obtain ⟨b0, b1, b2, b3, b4, b5, b6⟩ := HVJ.out _ hin.out.bel
          obtain ⟨c0, c1, c2⟩ := HDI.out _ hin.out.bel
          obtain ⟨d0, d1, d2⟩ := HDJ.out _ hin.out.bel
          have ma0 := cell_regrown a0
          have ma1 := cell_regrown a1
          have ma2 := cell_regrown a2
          have ma3 := cell_regrown a3
          have ma4 := cell_regrown a4
          have ma5 := cell_regrown a5
          have ma6 := cell_regrown a6
          have mb0 := cell_regrown b0
          have mb1 := cell_regrown b1
          have mb2 := cell_regrown b2
          have mb3 := cell_regrown b3
          have mb4 := cell_regrown b4
          have mb5 := cell_regrown b5
          have mb6 := cell_regrown b6
          have mc0 := cell_regrown c0
          have mc1 := cell_regrown c1
          have mc2 := cell_regrown c2
          have md0 := cell_regrown d0
          have md1 := cell_regrown d1
          have md2 := cell_regrown d2
          have e1 : ∀ args w, (callFunc 50 args).run Tryz.prog w = .ok (.enter 50 args) w := enters_of Tryz.func50 (by kernel_rfl) rfl
          have k1 := reg_of (w := wr) (fun W _ => HW1.out W)
          have k2 := reg_of (w := wr) (fun W _ => HW2.out W)
          clear a0 a1 a2 a3 a4 a5 a6 b0 b1 b2 b3 b4 b5 b6 c0 c1 c2 d0 d1 d2
          go_wp2_with fail
          refine wp_region_quiet_below (by kernel_rfl) (by kernel_rfl) ?_
          repeat (go_big_quiet_step (fail))
          go_big_quiet_step (exact k1 _ _)
          repeat (go_big_quiet_step (fail))
          go_big_quiet_step (exact k2 _ _)
          repeat (go_big_quiet_step (fail))
          refine wpQuiet_nil ?_
          intro W6 hw'
          have hb6 : Below wr.heap.size wr W6 := by obtain ⟨p, e⟩ := hw'; rw [e]; exact below_regrown wr p.d p.os
          clear hw'
          have HI6 := Lib.hid (hin.out.to hb6)
          clear ma0 ma1 ma2 ma3 ma4 ma5 ma6 mb0 mb1 mb2 mb3 mb4 mb5 mb6 mc0 mc1 mc2 md0 md1 md2 e1 k1 k2 hb6 hin HW1 HW2
          have a0 := (HVI.out _ HI6.out.bel).1
          have b0 := (HVJ.out _ HI6.out.bel).1
          have c0 := (HDI.out _ HI6.out.bel).1
          have d0 := (HDJ.out _ HI6.out.bel).1
          go_wp2_with fail
          go_quiet (fail)
          clear a0 b0 c0 d0
          generalize 2 * (ti.x - ci.x) - 2 * (tj.x - cj.x) - (wi + wj) = L1 at *
          have HLE2 := Lib.hid (show ((linJ pl i j (ti, ci)).length + [(L1, 2 * (ci.y - cj.y))].length) * 16 ≤ 140737488355328 by have := HLE.out; simp only [List.length_cons, List.length_nil]; omega)
          go_wp2_with fail
          refine genw (fun W => LnS w W (.slice Av2 nv2 cv2) (linJ pl i j (ti, ci))) (HI6.out.to (below_drewN (Below.refl _ _) _)) ?_
          intro W hW
          have H7 := Lib.hid hW
          clear hW HI6
          have HBD := Lib.hid (RowKit.Below.drew (Below.refl W.heap.size W))
          have HBL1 := Lib.hid (RowKit.Below.drew (bel_al W (Obj.cells #[.int .i64 L1, .int .i64 (2 * (ci.y - cj.y))] 167 (0, 0))))
          have HBL2 := Lib.hid (bel_to (RowKit.Below.drew (Below.refl W.heap.size W)) (bel_al W.drew (Obj.cells #[.int .i64 L1, .int .i64 (2 * (ci.y - cj.y))] 167 (0, 0))))
          have HX1 := Lib.hid (H7.out.to HBL1.out)
          have HX2 := Lib.hid (H7.out.to HBL2.out)
          have HYC := Lib.hid (fun E (hE : Below w.heap.size w E) => And.intro (HDI.out E hE).2.1 (HDJ.out E hE).2.1)
          go_region_held3 (fun E => E.cell? ⟨bc, oc + i * 3 + 1, none⟩ = some (.int .i64 ci.y) ∧ E.cell? ⟨bc, oc + j * 3 + 1, none⟩ = some (.int .i64 cj.y))
            (first | exact HYC.out _ HI9.out.bel | exact HYC.out _ HX1.out.bel | exact HYC.out _ HX2.out.bel | exact HYC.out _ (bel_to H7.out.bel HBD.out) | exact HYC.out _ H7.out.bel | exact HYC.out _ (bel_to H7.out.bel (bel_al W (Obj.cells #[.int .i64 L1, .int .i64 (2 * (ci.y - cj.y))] 167 (0, 0)))))
            (first | (refine step_app_OwnL rfl (.tmp 73) (.tmp 90) rfl rfl rfl rfl HX1.out.own (m := [(L1, 2 * (ci.y - cj.y))]) (fun j u e => lit_L W (L1, 2 * (ci.y - cj.y)) j u e) HX1.out.bel.size HLE2.out ?_; intro v9 w9 ho9 hg9; obtain ⟨A9, n9, c9, rfl⟩ := ho9.shape; have HI9 := Lib.hid (HX1.out.app ho9 hg9); clear ho9 hg9) | (refine step_app_OwnL rfl (.tmp 73) (.tmp 90) rfl rfl rfl rfl HX2.out.own (m := [(L1, 2 * (ci.y - cj.y))]) (fun j u e => lit_L W.drew (L1, 2 * (ci.y - cj.y)) j u e) HX2.out.bel.size HLE2.out ?_; intro v9 w9 ho9 hg9; obtain ⟨A9, n9, c9, rfl⟩ := ho9.shape; have HI9 := Lib.hid (HX2.out.app ho9 hg9); clear ho9 hg9))
          all_goals
            refine genw (fun W => LnS w W (.slice A9 n9 c9) (linJ pl i j (ti, ci) ++ [(L1, 2 * (ci.y - cj.y))])) HI9.out ?_
            intro W6 hW6
            have HI6 := Lib.hid hW6
            clear hW6 HI9 HX1 HX2 HBD HBL1 HBL2 HYC H7
            have a0 := (HVI.out _ HI6.out.bel).2.1
            have b0 := (HVJ.out _ HI6.out.bel).2.1
            have c0 := (HDI.out _ HI6.out.bel).2.1
            have d0 := (HDJ.out _ HI6.out.bel).2.1
            go_wp2_with fail
            go_quiet (fail)
            clear a0 b0 c0 d0 HLE2
            generalize 2 * (ti.y - ci.y) - 2 * (tj.y - cj.y) - (wi + wj) = L2 at *
            have HLE2 := Lib.hid (show ((linJ pl i j (ti, ci) ++ [(L1, 2 * (ci.y - cj.y))]).length + [(L2, 2 * (cj.x - ci.x))].length) * 16 ≤ 140737488355328 by have := HLE.out; simp only [List.length_append, List.length_cons, List.length_nil]; omega)
            go_wp2_with fail
            refine genw (fun W => LnS w W (.slice A9 n9 c9) (linJ pl i j (ti, ci) ++ [(L1, 2 * (ci.y - cj.y))])) (HI6.out.to (below_drewN (Below.refl _ _) _)) ?_
            intro W hW
            have H7 := Lib.hid hW
            clear hW HI6
            have HBD := Lib.hid (RowKit.Below.drew (Below.refl W.heap.size W))
            have HBL1 := Lib.hid (RowKit.Below.drew (bel_al W (Obj.cells #[.int .i64 L2, .int .i64 (2 * (cj.x - ci.x))] 167 (0, 0))))
            have HBL2 := Lib.hid (bel_to (RowKit.Below.drew (Below.refl W.heap.size W)) (bel_al W.drew (Obj.cells #[.int .i64 L2, .int .i64 (2 * (cj.x - ci.x))] 167 (0, 0))))
            have HX1 := Lib.hid (H7.out.to HBL1.out)
            have HX2 := Lib.hid (H7.out.to HBL2.out)
            have HYC := Lib.hid (fun E (hE : Below w.heap.size w E) => And.intro (HDI.out E hE).1 (HDJ.out E hE).1)
            go_region_held3 (fun E => E.cell? ⟨bc, oc + i * 3, none⟩ = some (.int .i64 ci.x) ∧ E.cell? ⟨bc, oc + j * 3, none⟩ = some (.int .i64 cj.x))
              (first | exact HYC.out _ HI9.out.bel | exact HYC.out _ HX1.out.bel | exact HYC.out _ HX2.out.bel | exact HYC.out _ (bel_to H7.out.bel HBD.out) | exact HYC.out _ H7.out.bel | exact HYC.out _ (bel_to H7.out.bel (bel_al W (Obj.cells #[.int .i64 L2, .int .i64 (2 * (cj.x - ci.x))] 167 (0, 0)))))
              (first | (refine step_app_OwnL rfl (.tmp 123) (.tmp 140) rfl rfl rfl rfl HX1.out.own (m := [(L2, 2 * (cj.x - ci.x))]) (fun j u e => lit_L W (L2, 2 * (cj.x - ci.x)) j u e) HX1.out.bel.size HLE2.out ?_; intro v9 w9 ho9 hg9; obtain ⟨B9, m9, d9, rfl⟩ := ho9.shape; have HI9 := Lib.hid (HX1.out.app ho9 hg9); clear ho9 hg9) | (refine step_app_OwnL rfl (.tmp 123) (.tmp 140) rfl rfl rfl rfl HX2.out.own (m := [(L2, 2 * (cj.x - ci.x))]) (fun j u e => lit_L W.drew (L2, 2 * (cj.x - ci.x)) j u e) HX2.out.bel.size HLE2.out ?_; intro v9 w9 ho9 hg9; obtain ⟨B9, m9, d9, rfl⟩ := ho9.shape; have HI9 := Lib.hid (HX2.out.app ho9 hg9); clear ho9 hg9))
            all_goals
              have HI0 := Lib.hid (show LnS w w9 (.slice B9 m9 d9) (linJ pl i (j + 1) (ti, ci)) by rw [HSUJ.out]; exact HI9.out)
              clear HI9 HX1 HX2 HBD HBL1 HBL2 HYC H7
              go_wp2
              go_roundw
              case rel => exact ⟨j + 1, by go_num, by omega, HI0⟩
              case measure => simp [intOf]; omega
        · obtain rfl : j = ts.length := by omega
          have hin2 := hin.out
          rw [HALI.out] at hin2
          have HI0 := Lib.hid hin2
          clear hin hin2
          go_wp2
          go_roundw
          case rel => exact ⟨i + 1, by go_num, by omega, HI0⟩
          case measure => simp [intOf]; omega
    · obtain rfl : i = ts.length := by omega
      have hin2 := hin.out
      rw [HEND.out] at hin2
      have HI0 := Lib.hid hin2
      clear hin hin2
      go_wp2
      go_ret
      exact ⟨_, rfl, HI0.out⟩
end W
end Go.Proofs.YtfcffheboncmbaaGreatDoor
end
