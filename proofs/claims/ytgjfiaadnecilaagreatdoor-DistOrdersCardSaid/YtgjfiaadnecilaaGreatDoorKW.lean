/-
  Chapter 26: the law 'DistOrders' for right lists and numbers, walked.
  Chapter 26: the law 'DistOrders' for every list and every number.
-/
import Derived.Test.YtgjfiaadnecilaaGreatDoorKV
namespace Go.Proofs.YtgjfiaadnecilaaGreatDoor
open Go Go.RowKit Go.Deep Go.Shelf
namespace W
open M
attribute [local go_sem] bs_size bs_toList bs_get bs_extract bs_append bs_lit0 bs_lit1 lit1_bs
attribute [local go_sem] Oper.semAt_some
set_option maxHeartbeats 4000000
set_option maxRecDepth 100000
theorem orders_good (zl : List ZT) (b o cap : Nat) (q : Rat) (w : World) (hg : Glob w) (hw : WSl w b o (tx zl)) (h : GoodL zl) (h12 : zl.length ≤ 12) (h15 : ∀ x ∈ zl, x.2.natAbs < 10 ^ 15) (hq : Bq 30 q) (hu : Un q)
    (hr : Calls Tryz.prog 38 #[.slice (some ⟨b, o, none⟩) zl.length cap] w (Ret w (.bool true)))
    (hsh : ∀ wx, Calls Tryz.prog 12 #[.string (bs (R q))] wx (Ret wx (.bool true)))
    (hun : ∀ wx, Calls Tryz.prog 46 #[.string (bs (R q))] wx (Ret wx (.int .i64 0))) :
    Calls Tryz.prog 10 #[.slice (some ⟨b, o, none⟩) zl.length cap, .string (bs (R q))] w (Ret w (.bool true)) := by
  have hpos := List.length_pos_iff.2 h.2.1
  have hgk := kmu_good h (k := 2) (by decide) (by decide) h15
  have hblt := hw.lt
  have hsr := spl_right h h15
  have hgs := gath_spl h
  have hslen : (spl zl 0).length = 3 * zl.length := spl_len zl zl.length 0 (by omega)
  have hllen : ∀ i, i ≤ zl.length → (lack zl i).length = i := fun i hi => lack_len hi
  have HR := Lib.hid hr
  have HSH := Lib.hid hsh
  have HUN := Lib.hid hun
  have HW := Lib.hid hw
  have HAW := Lib.hid (fun wx hgx => awake_ok wx hgx)
  have HMI := Lib.hid (fun i (hi : i < zl.length) wx => minus_I zl[i].2 1 wx (Nat.le_trans (I_le (h15 _ (List.getElem_mem hi)) (by decide)) (by decide)) (by rw [I_one]; decide))
  have HCO := Lib.hid (fun g gc wx (hgx : Glob wx) (hwx : WSl wx g 0 (tx (spl zl 0 ++ lack zl zl.length))) => collect_ok (spl zl 0 ++ lack zl zl.length) (some ⟨g, 0, none⟩) gc wx hgx (fun _ => ⟨g, 0, rfl, hwx⟩) (by rw [List.length_append, hslen, hllen _ (Nat.le_refl _)]; omega) hsr)
  rw [hgs, List.length_append, hslen, hllen _ (Nat.le_refl _)] at HCO
  have HRK := Lib.hid (fun g gc wx hgx hwx => reduce_ok (kmu 2 zl) g 0 gc wx hgx hwx hgk)
  rw [kmu_red h (by decide), kmu_len] at HRK
  have HRD := Lib.hid (fun wx (hb : Below w.heap.size w wx) => reduce_ok zl b o cap wx (hg.of hb) (hw.below' hb) h)
  have HQU := Lib.hid (fun wx (hb : Below w.heap.size w wx) => quantile_ok zl b o cap q wx (hg.of hb) (hw.below' hb) h hq hu)
  have hredl := redZ_len (gall zl) zl
  have HSA := Lib.hid (fun va vb wx ha hb => same_ret va vb (tx (redZ (gall zl) zl)) wx ha hb (by omega))
  obtain ⟨qi, hqi, hqv, hqc, hqb⟩ := quan_spec h hu
  rw [hqv] at HQU
  have hfst := h.first hpos
  have HP1 := Lib.hid (fun wx (hb : Below w.heap.size w wx) => probability_ok zl b o cap zl[0].1 zl[qi].1 wx (hg.of hb) (hw.below' hb) h (hfst _ (List.getElem_mem hqi)))
  rw [prob_cum h hfst qi hqi] at HP1
  have HC1 := Lib.hid (fun wx hgx => ratCompare (cumQ zl qi) q 43 30 wx hgx (h.cum_bq qi hqi) hq (by decide))
  have hge : 0 ≤ cmpQ (cumQ zl qi) q := cmpQ_ge.2 hqc
  have HC0 := Lib.hid (fun wx (hb : Below w.heap.size w wx) => show wx.cell? ⟨b, o, none⟩ = some (.int .i64 zl[0].1) from by
    have f0 := (hw.below' hb).val 0 (by rw [tx_len]; exact hpos)
    rwa [tx_get zl _ hpos, Nat.zero_mul] at f0)
  have HP2 := Lib.hid (fun i (hi : i + 1 < zl.length) wx (hb : Below w.heap.size w wx) => probability_ok zl b o cap zl[0].1 (zl[i + 1].1 - 1) wx (hg.of hb) (hw.below' hb) h (by have := first_lt h i hi; omega))
  have HP3 := Lib.hid (fun i (hi : i + 1 < zl.length) wx (hb : Below w.heap.size w wx) => prob_pred h hfst i hi ▸ HP2.out i hi wx hb)
  have HC2 := Lib.hid (fun i (hi : i + 1 < zl.length) wx hgx => ratCompare (cumQ zl i) q 43 30 wx hgx (h.cum_bq i (by omega)) hq (by decide))
  have HLT := Lib.hid (fun i (hi : i < qi) => cmpQ_lt.2 (hqb i hi))
  have HFL := Lib.hid (fun i (hi : i + 1 < zl.length) => first_lt h i hi)
  clear HP2
  have HI0 := Lib.hid I_zero
  have HI1 := Lib.hid I_one
  have HKN := Lib.hid (kmu_ne (k := 2) h.2.1)
  have HKL := Lib.hid (kmu_txlen 2 zl)
  have hkne : kmu 2 zl ≠ [] := fun e => by have := kmu_len 2 zl; rw [e] at this; simp at this; omega
  have HKE := Lib.hid hkne
  have hv0 := (h.1.mem _ (List.getElem_mem hpos)).2.2
  have hvq := (h.1.mem _ (List.getElem_mem hqi)).2.2
  have HSTEP := Lib.hid (fun i (hi : i < zl.length) => show tx (spl zl 0 ++ lack zl (i + 1)) = tx (spl zl 0 ++ lack zl i) ++ [(zl[i].1, I (zl[i].2 - 1))] from by
    rw [lack_step hi, ← List.append_assoc, tx_append (spl zl 0 ++ lack zl i)]; rfl)
  have HLL := Lib.hid (fun i (hi : i ≤ zl.length) => show (tx (spl zl 0 ++ lack zl i)).length ≤ 48 from by rw [tx_len, List.length_append, hslen, hllen i hi]; omega)
  have HFULL := Lib.hid (show (tx (spl zl 0 ++ lack zl zl.length)).length = 3 * zl.length + zl.length from by rw [tx_len, List.length_append, hslen, hllen _ (Nat.le_refl _)])
  refine (callsIn_wide (n := 3)).1 ?_
  refine callsIn_of_wp_marks Tryz.func10 rfl trivial ?_ rfl
  simp only [Tryz.ntmps10, List.size_toArray, List.length_cons, List.length_nil, Nat.reduceAdd, Nat.reduceSub, Array.replicate_succ, Array.replicate_zero, List.push_toArray, List.append_toArray, List.nil_append, List.cons_append]
  refine wpIn_wide.2 ?_
  refine Code.wp_mono bodyPostN_M ?_
  clear hr hsh hun hw h15 hgk hsr hgs hslen hllen hredl hqv hqc hkne
  go_wp2_with fail
  refine (HR.out).mono ?_
  rintro e w1 ⟨rfl, hb1⟩
  go_wp2_with fail
  refine (HSH.out _).mono ?_
  rintro e w2 ⟨rfl, hb2⟩
  have hb2 := Below.then hb1 hb2
  go_wp2_with fail
  refine (HUN.out _).mono ?_
  rintro e w3 ⟨rfl, hb3⟩
  have hb3 := Below.then hb2 hb3
  clear hb1 hb2
  go_wp2_with fail
  refine (backward_ok _ _ _ _).mono ?_
  rintro e w' ⟨rfl, rfl⟩
  have hB0 : Below w.heap.size w ((w3.alloc (.cells #[.slice none 0 0] 22 (0, 0))).alloc (.cells #[.slice (some ⟨b, o, none⟩) zl.length cap] 22 (0, 0))) := (hb3.alloc hb3.size _).alloc (by have := hb3.size; simp; omega) _
  have bH : Boxed ((w3.alloc (.cells #[.slice none 0 0] 22 (0, 0))).alloc (.cells #[.slice (some ⟨b, o, none⟩) zl.length cap] 22 (0, 0))) w3.heap.size 22 (.slice none 0 0) := (Boxed.new w3 22 (.slice none 0 0)).alloc _
  have bN := Boxed.new (w3.alloc (.cells #[.slice none 0 0] 22 (0, 0))) 22 (.slice (some ⟨b, o, none⟩) zl.length cap)
  rw [World.size_alloc] at bN
  have hsz : ((w3.alloc (.cells #[.slice none 0 0] 22 (0, 0))).alloc (.cells #[.slice (some ⟨b, o, none⟩) zl.length cap] 22 (0, 0))).heap.size = w3.heap.size + 2 := by simp
  have hs3 := hb3.size
  go_wp2
  obtain ⟨H, hH⟩ : ∃ H, w3.heap.size = H := ⟨_, rfl⟩
  obtain ⟨W0, hW0⟩ : ∃ W0, ((w3.alloc (.cells #[.slice none 0 0] 22 (0, 0))).alloc (.cells #[.slice (some ⟨b, o, none⟩) zl.length cap] 22 (0, 0))) = W0 := ⟨_, rfl⟩
  rw [hW0] at hB0 bH bN hsz ⊢
  rw [hH] at hs3 bH bN hsz ⊢
  clear hW0 hb3
  have hwW := HW.out.below' hB0
  refine (wpIn_wide (n := 3)).1 ?_
  refine rf_boxed (F := Fence.wide) (n := 3) (encs := encB) rfl (by decide) (gf := 102) (lb := #[.pointer (some ⟨H + 1, 0, none⟩)]) rfl trivial (enters_of Tryz.func102 (by kernel_rfl) rfl)
    (back_stops Fence.wide 2 trivial rfl (by decide) (H + 1) w.heap.size b o cap zl (by omega) W0 hblt bN hwW) KB.trans (KB.put (by omega) (by omega)) (Below.refl _ _) (fun _ => rfl)
    (fun pre W => (∃ v, Boxed W H 22 v ∧ W.ownsRow w.heap.size 61 2 v (thrL pre).length (wcs (thrL pre)) ∧ True) ∧ (Boxed W (H + 1) 22 (.slice (some ⟨b, o, none⟩) zl.length cap) ∧ Below w.heap.size w W))
    (OwnFrom.and (Own.from (holdsRow_own w.heap.size H 22 61 2 (fun pre => (thrL pre).length) (fun pre => wcs (thrL pre)) (fun _ _ => True)) _) (OwnFrom.and (Own.from (boxed_own _ _ _) _) (ownFrom_below (Nat.le_refl _) (by omega))))
    ⟨⟨_, bH, OwnW.nil _ _, trivial⟩, bN, hB0⟩ 7
    (fun x B W => RowAt W B #[.int .i64 x.2.1, .string (bs (I x.2.2))] 61 ∧ H + 1 < B)
    (fun x B => OwnFrom.and (Own.from (rowAt_own B _ _) _) (ownFrom_pure _ _)) ?assign ?body ?done
  case assign =>
    rintro l pre x W K ⟨⟨v, hv, hrow, _⟩, hbx, hB⟩ hK
    simp [encB] at hK
    dsimp only [encB]
    gi_wp2
    exact hK _ _ ((KeepsOthers.alloc _ _).from _) ⟨(Below.refl _ W).alloc hB.size _, Below.heap_alloc _ _ _ hbx.lt⟩ v (hv.alloc _) (World.ownsRow.alloc hrow _) (hbx.alloc _) (hB.alloc hB.size _) (RowAt.new W _ _) hbx.lt
  case body =>
    rintro l pre x B W hl ⟨r, hr⟩ ⟨⟨v, hv, hrow, _⟩, hbx, hB⟩ ⟨hra, hHB⟩ hlt
    have hc := hv.cell
    have hx0 : W.cell? ⟨B, 0, none⟩ = some (.int .i64 x.2.1) := hra.cell 0
    have hx1 : W.cell? ⟨B, 1, none⟩ = some (.string (bs (I x.2.2))) := hra.cell 1
    have hle := thrL_len pre
    have HPP : Hid (HP W H w.heap.size v (thrL pre)) := Lib.hid ⟨hv, hrow, hs3⟩
    have hoff : some (H + 1) ≠ v.ownBlock := hbx.not_row (by decide) hrow
    have HOFF := Lib.hid (And.intro hoff (And.intro hbx hB))
    have hz0 : (Value.string ⟨#[48]⟩) = .string (bs (I 0)) := by rw [HI0.out]; rfl
    have hz1 : (Value.string ⟨#[49]⟩) = .string (bs (I 1)) := by rw [HI1.out]; rfl
    have HZ := Lib.hid (And.intro hz0 hz1)
    clear hz0 hz1 hoff hra hbx hB hrow hv
    dsimp only [encB]
    gi_wp2_with (gi_at_builtin; refine wpListIn_app_rdg rfl _ _ rfl rfl rfl (OwnW.alloc HPP.out.2.1 _) (SrcW.new _ [(x.2.1, I 0), (x.2.1, I x.2.2), (x.2.1, I 1)] _ _ _ (by simp [wcs, ← HZ.out.1, ← HZ.out.2]) rfl rfl) (by have := HOFF.out.2.2.size; simp; omega) (by simp only [List.length_cons, List.length_nil]; omega) ?_; intro v' w1 hown' hgrow; obtain ⟨hv1, hst⟩ := HPP.out.app hown' hgrow; have HS := Lib.hid (And.intro hst (HP.app_other (v' := v') (H := H) hgrow HOFF.out.2.1.lt (by omega) HOFF.out.1)); have hc1 := hv1.cell; have hf1 := hv1.frozen; obtain ⟨g', cap', hvv, _⟩ := OwnW.form hown' (by simp); subst hvv; clear hst hown' hgrow hv1; obtain ⟨N, hN⟩ : ∃ N, (thrL pre ++ [(x.2.1, I 0), (x.2.1, I x.2.2), (x.2.1, I 1)]).length = N := ⟨_, rfl⟩; rw [hN] at HS ⊢; clear hN)
    exact ⟨HS.out.1.2.1.from _, ⟨HS.out.1.2.2, HS.out.2⟩, ⟨⟨_, HS.out.1.1.1, by rw [thrL_snoc]; exact HS.out.1.1.2.1, trivial⟩, HS.out.2.trans HOFF.out.2.1, HOFF.out.2.2.trans HS.out.1.2.2⟩⟩
  case done =>
    rintro D ys W hD hS ⟨⟨v, hv, hrow, _⟩, hbx, hB⟩ hK
    have e := thrL_all hS
    rw [e] at hrow
    have hos : OS w W H D v (tx (spl zl 0 ++ lack zl 0)) := by
      rw [show lack zl 0 = [] from rfl, List.append_nil]
      exact ⟨⟨hv, hrow, hs3⟩, hB, hK⟩
    have HOS := Lib.hid hos
    have hDw : w.heap.size ≤ D := by omega
    clear hos e hrow hbx hS hv hK hB0 bH bN hwW hsz
    go_wp2
    go_loopw [54] (fun iv wr => ∃ (i : Nat) (vo : Value), iv = .int .i64 (i : Int) ∧ i ≤ zl.length ∧ Hid (OS w wr H D vo (tx (spl zl 0 ++ lack zl i)))) (fun iv _ => zl.length - (intOf iv).toNat)
    case atStart => exact ⟨0, v, rfl, by omega, HOS⟩
    case round =>
      clear HOS hB
      obtain ⟨i, vo, rfl, hi, hos⟩ := hrel
      by_cases hlt : i < zl.length
      · have hwr := HW.out.below' hos.out.2.1
        have hlt' : i < (tx zl).length := by rw [tx_len]; exact hlt
        have cv := hwr.val i hlt'
        have cw := hwr.wt i hlt'
        rw [tx_get zl i hlt] at cv cw
        simp only at cv cw
        have HMA := Lib.hid (HMI.out i hlt)
        have HTK := Lib.hid (HSTEP.out i hlt)
        have hlen := HLL.out i hi
        have HO1 := Lib.hid (And.intro hos.out hlen)
        have hcb := hos.out.1.1.cell
        clear hwr hos hlen hlt'
        clear HMI HSTEP HCO HRK HRD HQU HSA HP1 HC1 HP3 HC2 HLT HFL HC0 HAW HKN HKL HKE HLL HFULL HI0 hge hqb hfst
        generalize I (zl[i].2 - 1) = yw at *
        generalize I zl[i].2 = xw at *
        generalize zl[i].1 = xv at *
        have hz1 : (Value.string ⟨#[49]⟩) = .string (bs (I 1)) := by rw [HI1.out]; rfl
        rw [← hz1] at HMA
        clear hz1 HI1
        have hrow := Row.new wr 61 [.int .i64 xv, .string (bs xw)]
        have HRW := Lib.hid (And.intro (hrow.cell (i := 0) rfl) (hrow.cell (i := 1) rfl))
        clear hrow
        go_wp2
        obtain ⟨W1, hW1⟩ : ∃ x, x = wr.alloc (.cells #[.int .i64 xv, .string (bs xw)] 61 (0, 0)) := ⟨_, rfl⟩
        have hs1 : wr.heap.size < W1.heap.size := by rw [hW1]; simp
        have hO1 : OS w W1 H D vo (tx (spl zl 0 ++ lack zl i)) := by rw [hW1]; exact HO1.out.1.below ((Below.refl _ _).alloc (Nat.le_refl _) _)
        have hc1 : W1.cell? ⟨wr.heap.size, 0, none⟩ = some (.int .i64 xv) := by rw [hW1]; exact HRW.out.1
        have hc2 : W1.cell? ⟨wr.heap.size, 1, none⟩ = some (.string (bs xw)) := by rw [hW1]; exact HRW.out.2
        have hcH : W1.cell? ⟨H, 0, none⟩ = some vo := hO1.1.1.cell
        have hlH : H < W1.heap.size := hO1.1.1.lt
        rw [← hW1]
        have HO2 := Lib.hid (And.intro hO1 HO1.out.2)
        have hoff : some wr.heap.size ≠ vo.ownBlock := OwnW.off HO1.out.1.1.2.1 (Nat.le_refl _)
        have hAH : H ≠ wr.heap.size := by have := HO1.out.1.1.1.lt; omega
        clear hW1 HRW hO1 hcb HO1
        generalize wr.heap.size = A at *
        have HOFF := Lib.hid (And.intro hoff hAH)
        clear hoff hAH
        go_region_law (first
          | (refine step_app_rdg rfl (.tmp 58) (.tmp 65) rfl rfl rfl (OwnW.alloc hos3.1.2.1 _) (SrcW.new _ [(xv, yw)] _ _ _ rfl rfl rfl) (by have h1 := hos3.2.1.size; simp; omega) (by have := HO2.out.2; simp only [List.length_cons, List.length_nil]; omega) ?_; intro v2 w4 ho2 hgr; obtain ⟨hvb, hos4⟩ := OS.app hos3 ho2 hgr; have hcb := hvb.cell; have hfb := hvb.frozen; obtain ⟨g', cap', hvv, _⟩ := OwnW.form ho2 (by simp); subst hvv; obtain ⟨N, hN⟩ : ∃ N, (tx (spl zl 0 ++ lack zl i) ++ [(xv, yw)]).length = N := ⟨_, rfl⟩; rw [hN] at hos4 ⊢; have HOS4 := Lib.hid hos4; clear hN hos4 ho2 hgr hvb)
          | (go_simp; go_at_call 48; refine (HMA.out _).mono ?_; rintro e w3 ⟨rfl, hb3⟩; have hbz := Below.trans (RowKit.Below.drew (Below.refl W1.heap.size W1)) (hb3.mono (by simp)); have hos3 := HO2.out.1.below hbz; have hcH3 := (hbz.cell (p := ⟨H, 0, none⟩) hlH).trans hcH; have hc3 := (hbz.cell (p := ⟨A, 0, none⟩) hs1).trans hc1; have hcH4 := (World.cell?_alloc_lt (w := w3) (a := ⟨H, 0, none⟩) (o := .cells #[.int .i64 xv, .string (bs yw)] 61 (0, 0)) (Nat.lt_of_lt_of_le hlH hbz.size)).trans hcH3))
        all_goals
          go_wp2
          go_roundw
          case rel => exact ⟨i + 1, _, by go_num, by omega, by rw [HTK.out]; exact HOS4⟩
          case measure => simp [intOf]; omega
      · obtain rfl : i = zl.length := by omega
        have hrow := hos.out.1.2.1
        obtain ⟨g, gc, rfl, hgB, hgc, hgm, hws⟩ := OwnW.form hrow (by intro e; have := HFULL.out; rw [e, List.length_nil] at this; omega)
        rw [HFULL.out] at hgc hos
        have hcH := hos.out.1.1.cell
        have hgx := fun wx (hb : Below wr.heap.size wr wx) => hos.out.2.1.trans (hb.mono hos.out.2.1.size)
        have HB := Lib.hid hgx
        have HK := Lib.hid hos.out.2.2
        have HCX := Lib.hid (HCO.out g gc wr (hg.of hos.out.2.1) hws)
        have c0 := HC0.out wr hos.out.2.1
        clear hgx hws hos hrow HMI HSTEP HLL HFULL HCO HR HSH HUN HI0 HI1 HW hi hlt hb2 hb3 hq hu h hblt
        go_wp2_with fail
        refine HCX.out.mono ?_
        intro e w5 hcp
        unfold ColP at hcp
        rw [if_neg HKE.out] at hcp
        obtain ⟨vm, rfl, hom, hb5⟩ := hcp.open
        obtain ⟨gm, gmc, rfl, _, _, _, hwm⟩ := OwnW.form hom HKN.out
        have HWM := Lib.hid hwm
        rw [HKL.out] at hom ⊢
        clear hcp hom hwm hgB hgc hgm hcH HCX HKE HKN HKL
        go_wp2_with fail
        refine (HRK.out gm gmc _ (hg.of (HB.out _ hb5)) HWM.out).mono ?_
        intro e w6 hlp
        obtain ⟨vn, rfl, hon, hb6⟩ := hlp.open
        have HRN := Lib.hid hon.rd
        have hb6 := Below.then hb5 hb6
        clear hlp hon HRK HWM hb5
        go_wp2_with fail
        refine (HRD.out _ (HB.out _ hb6)).mono ?_
        intro e w7 hlp
        obtain ⟨vo2, rfl, hoo, hb7⟩ := hlp.open
        have HRN7 := Lib.hid (HRN.out.below hb7)
        have HRO7 := Lib.hid hoo.rd
        have hb7 := Below.then hb6 hb7
        clear hlp hoo HRN HRD hb6
        go_wp2_with fail
        refine (HQU.out _ (HB.out _ hb7)).mono ?_
        rintro e w8 ⟨rfl, hb8⟩
        have HRN8 := Lib.hid (HRN7.out.below hb8)
        have HRO8 := Lib.hid (HRO7.out.below hb8)
        have hb8 := Below.then hb7 hb8
        clear HRN7 HRO7 HQU hb7
        go_wp2_with fail
        refine (HSA.out _ _ _ HRN8.out HRO8.out).mono ?_
        rintro e w9 ⟨rfl, hb9⟩
        have hb9 := Below.then hb8 hb9
        clear HRN8 HRO8 HSA hb8
        have c9 := HC0.out _ (HB.out _ hb9)
        have hfin : ∀ wx, Below wr.heap.size wr wx → wx.heap[D]? = some (.deferred (some [])) := fun wx hb => (hb.block D (Array.getElem?_eq_some_iff.1 HK.out).1).trans HK.out
        have hret : ∀ wx, Below wr.heap.size wr wx → Below w.heap.size w (wx.putObj D (.deferred none)) := fun wx hb => (HB.out wx hb).trans (belowK_b (w := w) (Nat.le_refl _) wx D _ _ hDw (hfin wx hb) rfl rfl)
        have HFIN := Lib.hid (And.intro hfin hret)
        have hd1 : decide (cmpQ (cumQ zl qi) q < 0) = false := decide_eq_false (by omega)
        clear hfin hret HK hqb hfst
        cases qi with
        | zero =>
          clear HP3 HC2 HLT HFL
          generalize cmpQ (cumQ zl 0) q = e1 at *
          generalize R (cumQ zl 0) = rc at *
          generalize R q = rq at *
          generalize zl[0].1 = x0 at *
          have hx0 : (x0 == x0) = true := beq_self_eq_true x0
          go_wp2_with fail
          refine (HP1.out _ (HB.out _ hb9)).mono ?_
          rintro e w10 ⟨rfl, hb10⟩
          have hb10 := Below.then hb9 hb10
          have c10 := HC0.out _ (HB.out _ hb10)
          clear hb9 HP1
          go_wp2_with fail
          refine (HC1.out _ (hg.of (HB.out _ hb10))).mono ?_
          rintro e w11 ⟨rfl, hb11⟩
          have hb11 := Below.then hb10 hb11
          have c11 := HC0.out _ (HB.out _ hb11)
          clear hb10 c10 c9 HC1
          go_wp2_with fail
          refine (HAW.out _ (hg.of (HB.out _ hb11))).mono ?_
          rintro e w12 ⟨rfl, hb12⟩
          have hb12 := Below.then hb11 hb12
          go_wp2
          refine ⟨by simp, .inl ⟨_, _, rfl, run_takeDeferred (HFIN.out.1 _ hb12), ?_⟩⟩
          exact ⟨_, results_tmp rfl _ _ _, rfl, HFIN.out.2 _ hb12⟩
        | succ i =>
          have hlt2 := HLT.out i (Nat.lt_succ_self i)
          have hne := HFL.out i hqi
          have HPI := Lib.hid (HP3.out i hqi)
          have HCI := Lib.hid (HC2.out i hqi)
          have hd2 : decide (cmpQ (cumQ zl i) q < 0) = true := decide_eq_true hlt2
          clear HP3 HC2 HLT HFL hlt2
          generalize cmpQ (cumQ zl (i + 1)) q = e1 at *
          generalize R (cumQ zl (i + 1)) = rc at *
          generalize cmpQ (cumQ zl i) q = e2 at *
          generalize R (cumQ zl i) = rc2 at *
          generalize R q = rq at *
          generalize zl[0].1 = x0 at *
          generalize zl[i + 1].1 = xq at *
          have hx0 : (xq == x0) = false := beq_eq_false_iff_ne.2 (by omega)
          have hxw : wrap64 (xq - 1) = xq - 1 := IntWalk.wrap64_in _ (by omega)
          clear hne
          go_wp2_with fail
          refine (HP1.out _ (HB.out _ hb9)).mono ?_
          rintro e w10 ⟨rfl, hb10⟩
          have hb10 := Below.then hb9 hb10
          have c10 := HC0.out _ (HB.out _ hb10)
          clear hb9 HP1
          go_wp2_with fail
          refine (HC1.out _ (hg.of (HB.out _ hb10))).mono ?_
          rintro e w11 ⟨rfl, hb11⟩
          have hb11 := Below.then hb10 hb11
          have c11 := HC0.out _ (HB.out _ hb11)
          clear hb10 c10 c9 HC1
          go_wp2_with fail
          refine (HPI.out _ (HB.out _ hb11)).mono ?_
          rintro e w12 ⟨rfl, hb12⟩
          have hb12 := Below.then hb11 hb12
          clear hb11 c11 HPI
          go_wp2_with fail
          refine (HCI.out _ (hg.of (HB.out _ hb12))).mono ?_
          rintro e w13 ⟨rfl, hb13⟩
          have hb13 := Below.then hb12 hb13
          clear hb12 HCI
          go_wp2_with fail
          refine (HAW.out _ (hg.of (HB.out _ hb13))).mono ?_
          rintro e w14 ⟨rfl, hb14⟩
          have hb14 := Below.then hb13 hb14
          go_wp2
          refine ⟨by simp, .inl ⟨_, _, rfl, run_takeDeferred (HFIN.out.1 _ hb14), ?_⟩⟩
          exact ⟨_, results_tmp rfl _ _ _, rfl, HFIN.out.2 _ hb14⟩
end W
end Go.Proofs.YtgjfiaadnecilaaGreatDoor
namespace Go.Proofs.YtgjfiaadnecilaaGreatDoor
open Go Go.RowKit Go.Deep
namespace W
open M
attribute [local go_sem] bs_size bs_toList bs_get bs_extract bs_append bs_lit0 bs_lit1 lit1_bs
set_option maxHeartbeats 1000000
set_option maxRecDepth 20000
theorem orders_law (v : Value) (l : List WT) (p : List UInt8) (w : World) (hg : Glob w) (hv : RdW w v l) (hn : l.length ≤ maxLen) (hs : ∀ x ∈ l, x.2.length ≤ maxLen) (hp : p.length ≤ 1000000000000000) :
    Calls Tryz.prog 10 #[v, .string (bs p)] w (Ret w (.bool true)) := by
  have HAW := Lib.hid (fun wx hgx => awake_ok wx hgx)
  have HSH := Lib.hid (fun wx => short_any p wx hp)
  obtain ⟨r, hr, hgood⟩ := right_any v l w hv hn hs
  cases r with
  | false =>
    have HR := Lib.hid hr
    clear hgood hr hv hs HSH
    go_enter Tryz.func10, Tryz.ntmps10
    go_wp2_with fail
    refine (HR.out _ (Below.refl _ _)).mono ?_
    rintro e w1 ⟨rfl, hb1⟩
    go_wp2_with fail
    refine (HAW.out _ (hg.of hb1)).mono ?_
    rintro e w2 ⟨rfl, hb2⟩
    go_wp2
    go_ret
    exact Ret.of rfl (Below.then hb1 hb2)
  | true =>
    obtain ⟨zl, b, o, cap, rfl, hw, hgd, h12, h15⟩ := hgood rfl
    by_cases hsh : shortB p = true
    · by_cases hc : chkR p = 0
      · obtain ⟨q, rfl, hq⟩ := short_R hsh hc
        by_cases hu : Un q
        · have hun := fun wx => unit_R q wx hq
          rw [unE_yes hu] at hun
          rw [hsh] at HSH
          exact orders_good zl b o cap q w hg hw hgd h12 h15 hq hu (hr w (Below.refl _ _)) HSH.out hun
        · have HUN := Lib.hid (fun wx => unit_R q wx hq)
          rw [unE_no hu] at HUN
          rw [hsh] at HSH
          have HR := Lib.hid hr
          clear hr hv hs hw hgd h12 h15 hsh hc hq hu
          go_enter Tryz.func10, Tryz.ntmps10
          go_wp2_with fail
          refine (HR.out _ (Below.refl _ _)).mono ?_
          rintro e w1 ⟨rfl, hb1⟩
          go_wp2_with fail
          refine (HSH.out _).mono ?_
          rintro e w2 ⟨rfl, hb2⟩
          go_wp2_with fail
          refine (HUN.out _).mono ?_
          rintro e w3 ⟨rfl, hb3⟩
          have hb3 := Below.then (Below.then hb1 hb2) hb3
          go_wp2_with fail
          refine (HAW.out _ (hg.of hb3)).mono ?_
          rintro e w4 ⟨rfl, hb4⟩
          go_wp2
          go_ret
          exact Ret.of rfl (Below.then hb3 hb4)
      · have HUN := Lib.hid (fun wx => unit_bad p wx (by have := short_num hsh; omega) hc)
        have hz : (((chkR p : Nat) : Int) != 0) = true := by simp; exact hc
        rw [hsh] at HSH
        have HR := Lib.hid hr
        clear hr hv hs hw hgd h12 h15 hsh hc
        generalize ((chkR p : Nat) : Int) = c at *
        go_enter Tryz.func10, Tryz.ntmps10
        go_wp2_with fail
        refine (HR.out _ (Below.refl _ _)).mono ?_
        rintro e w1 ⟨rfl, hb1⟩
        go_wp2_with fail
        refine (HSH.out _).mono ?_
        rintro e w2 ⟨rfl, hb2⟩
        go_wp2_with fail
        refine (HUN.out _).mono ?_
        rintro e w3 ⟨rfl, hb3⟩
        have hb3 := Below.then (Below.then hb1 hb2) hb3
        go_wp2_with fail
        refine (HAW.out _ (hg.of hb3)).mono ?_
        rintro e w4 ⟨rfl, hb4⟩
        go_wp2
        go_ret
        exact Ret.of rfl (Below.then hb3 hb4)
    · rw [Bool.eq_false_iff.2 hsh] at HSH
      have HR := Lib.hid hr
      clear hr hv hs hw hgd h12 h15 hsh
      go_enter Tryz.func10, Tryz.ntmps10
      go_wp2_with fail
      refine (HR.out _ (Below.refl _ _)).mono ?_
      rintro e w1 ⟨rfl, hb1⟩
      go_wp2_with fail
      refine (HSH.out _).mono ?_
      rintro e w2 ⟨rfl, hb2⟩
      have hb2 := Below.then hb1 hb2
      go_wp2_with fail
      refine (HAW.out _ (hg.of hb2)).mono ?_
      rintro e w4 ⟨rfl, hb4⟩
      go_wp2
      go_ret
      exact Ret.of rfl (Below.then hb2 hb4)
end W
end Go.Proofs.YtgjfiaadnecilaaGreatDoor
