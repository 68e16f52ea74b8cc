/-
  Chapter 3's reference: the ends of spans, walked.
-/
import Derived.Test.YtpjaoapnangccaaGreatDoorKW
import Derived.Deep.RegionHeld3
namespace Go.Proofs.YtpjaoapnangccaaGreatDoor
open Go Go.RowKit Go.Deep Go.Sort
/-- The call returns a list of texts of its own. -/
def EndP (es : List Rat) (w : World) (e : Ending) (w' : World) : Prop := ∃ v, e = .returned v ∧ ApS w w' v (es.map M.R)
namespace W
open M
attribute [local go_sem] bs_size bs_toList bs_get bs_extract bs_append bs_lit0 bs_lit1 lit1_bs
set_option maxHeartbeats 2000000
set_option maxRecDepth 20000
theorem rends (va : Value) (l : List SQ) (w : World) (ha : RdP w va (sx l)) (nl : l.length ≤ 200) (hl : ∀ s ∈ l, SpB 100 s) : Calls Tryz.prog 104 #[va] w (EndP (endsZ l) w) := by
  have HW := Lib.hid ha
  obtain ⟨A, cap, rfl⟩ := ha.len
  rw [sx_len l] at HW ⊢
  have HX := Lib.hid (fun i (hi : i < l.length) => hl _ (List.getElem_mem hi))
  have HS := Lib.hid (fun i (hi : i < l.length) => endI_succ l i hi)
  have HM := Lib.hid (fun i => endI_mem (P := Bq 100) (fun s hs => ⟨(hl s hs).2.1, (hl s hs).2.2⟩) i)
  have HL := Lib.hid (fun i (hi : i ≤ l.length) => endI_len l i hi)
  have HE := Lib.hid (endI_end l)
  clear ha hl
  go_enter Tryz.func104, Tryz.ntmps104
  go_wp2
  go_loopw [3, 4] (fun ov iv wr => ∃ (i : Nat) (vo : Value), iv = .int .i64 (i : Int) ∧ ov = vo ∧ i ≤ l.length ∧ Hid (ApS w wr vo ((endI l i).map R))) (fun _ iv _ => l.length - (intOf iv).toNat)
  case atStart => exact ⟨0, _, rfl, rfl, by omega, Lib.hid ⟨World.ownsRow_nil _ _ _ _, Below.refl _ _⟩⟩
  case round =>
    obtain ⟨i, vo, rfl, hvo, hi, hown⟩ := hrel
    have hvo := hvo.symm
    subst hvo
    by_cases hlt : i < l.length
    · have hlt' : i < (sx l).length := by rw [sx_len]; exact hlt
      have HW2 := HW.out
      rw [← sx_len l] at HW2
      obtain ⟨b1, o1, rfl, hw⟩ := HW2.row i hlt'
      have HCL := Lib.hid (fun W (hW : Below w.heap.size w W) => (by
        have h2 := hw.below' hW
        have q0 := h2.val i hlt'
        have q1 := h2.wt i hlt'
        rw [sx_get l i hlt] at q0 q1
        exact ⟨q0, q1⟩ : W.cell? ⟨b1, o1 + i * 2, none⟩ = some (.string (bs (R l[i].1))) ∧ W.cell? ⟨b1, o1 + i * 2 + 1, none⟩ = some (.string (bs (R l[i].2)))))
      have hxx := HX.out i hlt
      have HSI := Lib.hid (HS.out i hlt)
      have hmm := HM.out i
      have hll := HL.out i hi
      have hi0 : (0 : Int) ≤ (i : Int) := by omega
      have his : (i : Int) < (l.length : Int) := by omega
      clear hw hlt' HW2
      generalize endI l i = out at *
      generalize l[i] = a at *
      have HB1 := Lib.hid (fun j => endJ_mem (P := Bq 100) hmm hxx.2.1 hxx.2.2 j)
      have HB2 := Lib.hid (fun j => endJ_len out a j)
      have HB3 := Lib.hid hxx
      clear hmm hxx
      go_wp2_with fail
      go_region_held3 (fun W => W.cell? ⟨b1, o1 + i * 2, none⟩ = some (.string (bs (R a.1))) ∧ W.cell? ⟨b1, o1 + i * 2 + 1, none⟩ = some (.string (bs (R a.2))))
        (first | exact HCL.out _ hown.out.2 | exact HCL.out _ (hown.out.2.trans ((RowKit.Below.drew (Below.refl wr.heap.size wr)).mono hown.out.2.size)) | exact HCL.out _ (hown.out.2.trans ((RowKit.Below.drew ((Below.refl wr.heap.size wr).alloc (Nat.le_refl _) (Obj.cells #[.string (bs (R a.1)), .string (bs (R a.2))] 22 (0, 0)))).mono hown.out.2.size)))
        (first | fail)
      refine genw (fun W => (ApS w W vo ((endJ out a 0).map R)) ∧ Row W wr.heap.size 22 [.string (bs (R a.1)), .string (bs (R a.2))]) ⟨hown.out.to (RowKit.Below.drew ((Below.refl wr.heap.size wr).alloc (Nat.le_refl _) (Obj.cells #[.string (bs (R a.1)), .string (bs (R a.2))] 22 (0, 0)))), (show Row (wr.alloc (Obj.cells #[.string (bs (R a.1)), .string (bs (R a.2))] 22 (0, 0))).drew wr.heap.size 22 [.string (bs (R a.1)), .string (bs (R a.2))] from rnw)⟩ ?_
      intro W1 h1
      have HJ0 := Lib.hid h1
      clear h1 hown HCL
      generalize wr.heap.size = gP at *
      go_wp2_with fail
      go_loopw [3, 26] (fun ov jv wr2 => ∃ (j : Nat) (vo : Value), jv = .int .i64 (j : Int) ∧ ov = vo ∧ j ≤ 2 ∧ Hid (ApS w wr2 vo ((endJ out a j).map R) ∧ Row wr2 gP 22 [.string (bs (R a.1)), .string (bs (R a.2))])) (fun _ jv _ => 2 - (intOf jv).toNat)
      case atStart => exact ⟨0, _, rfl, rfl, by omega, HJ0⟩
      case round =>
        clear HJ0
        obtain ⟨j, vo, rfl, hvo, hj, hin⟩ := hrel
        have hvo := hvo.symm
        subst hvo
        by_cases hj2 : j < 2
        · have HO := hin
          have cx : wr.cell? ⟨gP, j, none⟩ = some (.string (bs (R (xJ a j)))) := by
            match j, hj2 with
            | 0, _ => exact hin.out.2.cell (i := 0) rfl
            | 1, _ => exact hin.out.2.cell (i := 1) rfl
          have HES := Lib.hid (endJ_succ out a j hj2)
          have hbx : Bq 100 (xJ a j) := by unfold xJ; split; exact HB3.out.2.1; exact HB3.out.2.2
          have hbe := HB1.out j
          have hel : (endJ out a j).length ≤ 1000 := by have := HB2.out j; omega
          have hj0 : (0 : Int) ≤ (j : Int) := by omega
          have hjs2 : (j : Int) < 2 := by omega
          clear hin
          generalize endJ out a j = es at *
          generalize xJ a j = x at *
          have HORD := Lib.hid (fun k (hk : k < es.length) W => order_B (hbe _ (List.getElem_mem hk)) hbx W)
          have HKL := cntQ_le es x
          have HK1 := Lib.hid (cntQ_lt es x)
          have HK2 := Lib.hid (cntQ_stop es x)
          have HK3 := Lib.hid (insQ_put es x)
          have HK4 := Lib.hid (insQ_has es x)
          clear hbx hbe
          generalize cntQ es x = K at *
          obtain ⟨W1, hW1⟩ : ∃ z, z = wr := ⟨wr, rfl⟩
          subst hW1
          rcases HO.out.1.1.forms2 with ⟨rfl, hre⟩ | ⟨g, cr, rfl, hgc, hgm, hps⟩
          · have he0 : es = [] := by simpa using hre
            have HR0 := Lib.hid he0
            obtain rfl : K = 0 := by rw [he0] at HKL; simpa using HKL
            have HINS : Hid ((insQ es x).map R = (es.take 0).map R ++ [R x] ++ (es.drop 0).map R) := Lib.hid (by rw [HR0.out]; rfl)
            have HS1' := Lib.hid (fun E => (by rw [HR0.out]; exact SrcR.nil E : SrcR E (.slice none 0 0) ((es.take 0).map R)))
            have HS3' := Lib.hid (fun E => (by rw [HR0.out]; exact SrcR.nil E : SrcR E (.slice none 0 0) ((es.drop 0).map R)))
            have HBW := Lib.hid (Below.refl W1.heap.size W1)
            clear hre he0 HORD HK1 HK2 HK3 HK4 HBW
            obtain ⟨W, hW⟩ : ∃ z, z = W1 := ⟨W1, rfl⟩
            subst hW
            have HSZ := Lib.hid (show W.heap.size + 1 ≤ ((W.alloc (Obj.cells #[.string (bs (R x))] 22 (0, 0))).alloc (Obj.cells #[] 22 (0, 0))).drew.heap.size ∧ True from ⟨by show W.heap.size + 1 ≤ ((W.alloc (Obj.cells #[.string (bs (R x))] 22 (0, 0))).alloc (Obj.cells #[] 22 (0, 0))).heap.size; rw [World.size_alloc, World.size_alloc]; omega, trivial⟩)
            have HNE := Lib.hid (show some W.heap.size ≠ (Value.slice (some ⟨W.heap.size + 1, 0, none⟩) 0 0).ownBlock ∧ some (W.heap.size + 1) ≠ (Value.slice (some ⟨W.heap.size, 0, none⟩) 0 0).ownBlock from ⟨by simp [Value.ownBlock], by simp [Value.ownBlock]⟩)
            have HLN : Hid ((0 : Nat) + ((es.take 0).map R).length ≤ 1000000000 ∧ ((es.take 0).map R).length + 1 ≤ 1000000000 ∧ ((es.take 0).map R ++ [R x]).length + ((es.drop 0).map R).length ≤ 1000000000) := Lib.hid (by
              have h1 : ((es.take 0).map R).length ≤ 5000 := by rw [List.length_map, List.length_take]; omega
              have h2 : ((es.drop 0).map R).length ≤ 5000 := by rw [List.length_map, List.length_drop]; omega
              rw [List.length_append]
              simp only [List.length_cons, List.length_nil]
              omega)
            have HS1 := Lib.hid (fun E (_ : Below W.heap.size W E) => HS1'.out E)
            have HS3 := Lib.hid (fun E (_ : Below W.heap.size W E) => HS3'.out E)
            have HBW := Lib.hid (Below.refl W.heap.size W)
            go_wp2_with fail
            refine wp_loop_rounds 1 ?_
            rw [rounds_succ]
            go_wp2_with fail
            go_region_held3 (fun _ => True)
              (exact True.intro)
              (first
              | (refine step_app_r (v := .slice (some ⟨W.heap.size, 0, none⟩) 0 0) rfl (.tmp 57) (.tmp 60) rfl rfl rfl ((OwnS.fresh W W.heap.size W.heap.size rfl (Nat.le_refl _)).drew) (HS1.out _ (RowKit.Below.drew ((Below.refl W.heap.size W).alloc (Nat.le_refl _) (Obj.cells #[] 22 (0, 0))))) (RowKit.Below.drew ((Below.refl W.heap.size W).alloc (Nat.le_refl _) (Obj.cells #[] 22 (0, 0)))).size HLN.out.1 ?_; intro v1 w1 ho1 hg1; have HA1 := Lib.hid (show ApS W w1 v1 ((es.take 0).map R) from ⟨ho1, app_belS ((OwnS.fresh W W.heap.size W.heap.size rfl (Nat.le_refl _)).drew) (RowKit.Below.drew ((Below.refl W.heap.size W).alloc (Nat.le_refl _) (Obj.cells #[] 22 (0, 0)))) (Nat.le_refl _) hg1⟩))
              | (refine step_app_r (v := .slice (some ⟨W.heap.size + 1, 0, none⟩) 0 0) rfl (.tmp 57) (.tmp 60) rfl rfl rfl ((OwnS.fresh (W.alloc (Obj.cells #[.string (bs (R x))] 22 (0, 0))) (W.heap.size + 1) (W.heap.size + 1) (World.size_alloc _ _).symm (Nat.le_refl _)).drew) (HS1.out _ (RowKit.Below.drew (((Below.refl W.heap.size W).alloc (Nat.le_refl _) (Obj.cells #[.string (bs (R x))] 22 (0, 0))).alloc ((Below.refl W.heap.size W).alloc (Nat.le_refl _) (Obj.cells #[.string (bs (R x))] 22 (0, 0))).size (Obj.cells #[] 22 (0, 0))))) HSZ.out.1 HLN.out.1 ?_; intro v1 w1 ho1 hg1; have HA1 := Lib.hid (show ApS W w1 v1 ((es.take 0).map R) from ⟨ownsRow_base ho1 (Nat.le_succ _), app_belS ((OwnS.fresh (W.alloc (Obj.cells #[.string (bs (R x))] 22 (0, 0))) (W.heap.size + 1) (W.heap.size + 1) (World.size_alloc _ _).symm (Nat.le_refl _)).drew) (RowKit.Below.drew (((Below.refl W.heap.size W).alloc (Nat.le_refl _) (Obj.cells #[.string (bs (R x))] 22 (0, 0))).alloc ((Below.refl W.heap.size W).alloc (Nat.le_refl _) (Obj.cells #[.string (bs (R x))] 22 (0, 0))).size (Obj.cells #[] 22 (0, 0)))) (Nat.le_succ _) hg1⟩); have HXR := Lib.hid (SrcR.row (row_grown (show Row ((W.alloc (Obj.cells #[.string (bs (R x))] 22 (0, 0))).alloc (Obj.cells #[] 22 (0, 0))).drew W.heap.size 22 [.string (bs (R x))] from Row.alloc rnw _) hg1 HNE.out.1)))
              | (refine step_app_r (v := .slice (some ⟨W.heap.size, 0, none⟩) 0 0) rfl (.tmp 57) (.tmp 60) rfl rfl rfl ((OwnS.alloc (OwnS.fresh W W.heap.size W.heap.size rfl (Nat.le_refl _)) (Obj.cells #[.string (bs (R x))] 22 (0, 0))).drew) (HS1.out _ (RowKit.Below.drew (((Below.refl W.heap.size W).alloc (Nat.le_refl _) (Obj.cells #[] 22 (0, 0))).alloc ((Below.refl W.heap.size W).alloc (Nat.le_refl _) (Obj.cells #[] 22 (0, 0))).size (Obj.cells #[.string (bs (R x))] 22 (0, 0))))) (RowKit.Below.drew (((Below.refl W.heap.size W).alloc (Nat.le_refl _) (Obj.cells #[] 22 (0, 0))).alloc ((Below.refl W.heap.size W).alloc (Nat.le_refl _) (Obj.cells #[] 22 (0, 0))).size (Obj.cells #[.string (bs (R x))] 22 (0, 0)))).size HLN.out.1 ?_; intro v1 w1 ho1 hg1; have HA1 := Lib.hid (show ApS W w1 v1 ((es.take 0).map R) from ⟨ho1, app_belS ((OwnS.alloc (OwnS.fresh W W.heap.size W.heap.size rfl (Nat.le_refl _)) (Obj.cells #[.string (bs (R x))] 22 (0, 0))).drew) (RowKit.Below.drew (((Below.refl W.heap.size W).alloc (Nat.le_refl _) (Obj.cells #[] 22 (0, 0))).alloc ((Below.refl W.heap.size W).alloc (Nat.le_refl _) (Obj.cells #[] 22 (0, 0))).size (Obj.cells #[.string (bs (R x))] 22 (0, 0)))) (Nat.le_refl _) hg1⟩); have HXR := Lib.hid (SrcR.row (row_grown (show Row ((W.alloc (Obj.cells #[] 22 (0, 0))).alloc (Obj.cells #[.string (bs (R x))] 22 (0, 0))).drew (W.heap.size + 1) 22 [.string (bs (R x))] from rnew0 (World.size_alloc _ _).symm) hg1 HNE.out.2)))
              | (refine step_app_r rfl (.tmp 61) (.tmp 63) rfl rfl rfl HA1.out.1 HXR.out HA1.out.2.size HLN.out.2.1 ?_; intro v2 w2 ho2 hg2; have HA2 := Lib.hid (show ApS W w2 v2 ((es.take 0).map R ++ [R x]) from ⟨ho2, app_belS HA1.out.1 HA1.out.2 (Nat.le_refl _) hg2⟩))
              | (refine step_app_r rfl (.tmp 61) (.tmp 63) rfl rfl rfl (OwnS.alloc HA1.out.1 _) (SrcR.new w1 (R x)) (HA1.out.2.alloc HA1.out.2.size _).size HLN.out.2.1 ?_; intro v2 w2 ho2 hg2; have HA2 := Lib.hid (show ApS W w2 v2 ((es.take 0).map R ++ [R x]) from ⟨ho2, app_belS (OwnS.alloc HA1.out.1 _) (HA1.out.2.alloc HA1.out.2.size _) (Nat.le_refl _) hg2⟩))
              | (refine step_app_r rfl (.tmp 64) (.tmp 67) rfl rfl rfl HA2.out.1 (HS3.out _ HA2.out.2) HA2.out.2.size HLN.out.2.2 ?_; intro v3 w3 ho3 hg3; have HA3 := Lib.hid (show ApS W w3 v3 ((es.take 0).map R ++ [R x] ++ (es.drop 0).map R) from ⟨ho3, app_belS HA2.out.1 HA2.out.2 (Nat.le_refl _) hg3⟩)))
            all_goals
              have HFIN : Hid (ApS w w3 v3 ((endJ out a (j + 1)).map R) ∧ Row w3 gP 22 [.string (bs (R a.1)), .string (bs (R a.2))]) := by
                rw [HES.out, HINS.out]
                exact Lib.hid ⟨⟨ownsRow_base HA3.out.1 (Nat.le_trans HO.out.1.2.size HBW.out.size), HO.out.1.2.trans ((HBW.out.trans (HA3.out.2.mono HBW.out.size)).mono HO.out.1.2.size)⟩, (HO.out.2.below' HBW.out).below' HA3.out.2⟩
              clear HA1 HA2 HA3 HS1 HS3 HLN HSZ HNE HES HINS
              go_wp2
              go_roundw
              case rel => exact ⟨j + 1, _, by go_num, rfl, hj2, HFIN⟩
              case measure => simp [intOf]; omega
          · rw [List.length_map] at hgc ⊢
            have HPS := Lib.hid hps
            have hgc' : (es.length : Int) ≤ (cr : Int) := by omega
            clear hps
            go_wp2_with fail
            go_loopw [7] (fun av wr3 => ∃ k : Nat, av = .int .i64 (k : Int) ∧ k ≤ K ∧ Hid (Below W1.heap.size W1 wr3)) (fun av _ => es.length - (intOf av).toNat)
            case atStart => exact ⟨0, rfl, by omega, Lib.hid (Below.refl _ _)⟩
            case round =>
              obtain ⟨k, rfl, hk, HBW⟩ := hrel
              have hk0 : (0 : Int) ≤ (k : Int) := by omega
              by_cases hkn : k < es.length
              · have hps3 := HPS.out.below' HBW.out
                have hkn' : k < (es.map R).length := by rw [List.length_map]; exact hkn
                have d0 : wr.cell? ⟨g, k, none⟩ = some (.string (bs (R (es[k]'hkn)))) := by
                  have q := hps3.val k hkn'
                  rw [List.getElem_map, Nat.zero_add] at q
                  exact q
                have hks : (k : Int) < (es.length : Int) := by omega
                have HOK := Lib.hid (fun W => HORD.out k hkn W)
                clear hps3 hkn'
                by_cases hlt2 : es[k] < x
                · have hdc : decide (cmpQ es[k] x < 0) = true := decide_eq_true (cmpQ_lt.2 hlt2)
                  have hjk : k + 1 ≤ K := by
                    rcases Nat.lt_or_ge k K with h | h
                    · exact h
                    · obtain rfl : k = K := by omega
                      exact absurd hlt2 (HK2.out hkn)
                  generalize cmpQ es[k] x = cc at *
                  generalize R es[k] = rj at *
                  go_wp2_with fail
                  refine (HOK.out _).mono ?_
                  rintro e w7 ⟨rfl, hb7⟩
                  have HB7 := Lib.hid (HBW.out.trans (hb7.mono HBW.out.size))
                  clear hb7 d0 HOK
                  go_wp2
                  go_roundw
                  case rel => exact ⟨k + 1, by go_num, hjk, HB7⟩
                  case measure => simp [intOf]; omega
                · have hdc : decide (cmpQ es[k] x < 0) = false := decide_eq_false (fun h => hlt2 (cmpQ_lt.1 h))
                  obtain rfl : k = K := by
                    rcases Nat.lt_or_ge k K with h | h
                    · exact absurd (HK1.out k hkn h) hlt2
                    · omega
                  have hkd : decide ((k : Int) = (es.length : Int)) = false := decide_eq_false (by omega)
                  have hkb : ((k : Int) == (es.length : Int)) = false := by simpa using hkd
                  have hki : ¬ k = es.length := by omega
                  generalize cmpQ es[k] x = cc at *
                  by_cases he : es[k] = x
                  · have HINS := Lib.hid (HK4.out hkn he)
                    have hre : R es[k] = R x := by rw [he]
                    generalize R es[k] = rj at *
                    subst hre
                    go_wp2_with fail
                    refine (HOK.out _).mono ?_
                    rintro e w7 ⟨rfl, hb7⟩
                    have d7 := (hb7.cell (p := ⟨g, k, none⟩) (by exact (HPS.out.below' HBW.out).lt)).trans d0
                    have HB7 := Lib.hid (HBW.out.trans (hb7.mono HBW.out.size))
                    have HFIN : Hid (ApS w w7 (.slice (some ⟨g, 0, none⟩) es.length cr) ((endJ out a (j + 1)).map R) ∧ Row w7 gP 22 [.string (bs (R a.1)), .string (bs (R a.2))]) := by
                      rw [HES.out, HINS.out]
                      have q := HO.out.1.to HB7.out
                      rw [List.length_map] at q
                      exact Lib.hid ⟨q, HO.out.2.below' HB7.out⟩
                    clear hb7 d0 HOK HINS
                    go_wp2
                    go_roundw
                    case rel => exact ⟨j + 1, _, by go_num, rfl, hj2, HFIN⟩
                    case measure => simp [intOf]; omega
                  · have hne : R es[k] ≠ R x := fun h => he (R_inj h)
                    have HINS : Hid ((insQ es x).map R = (es.take k).map R ++ [R x] ++ (es.drop k).map R) := Lib.hid (by rw [HK3.out fun _ => he]; simp)
                    have hnl : (R es[k] == R x) = false := by simpa using hne
                    generalize R es[k] = rj at *
                    go_wp2_with fail
                    refine (HOK.out _).mono ?_
                    rintro e w7 ⟨rfl, hb7⟩
                    have d7 := (hb7.cell (p := ⟨g, k, none⟩) (by exact (HPS.out.below' HBW.out).lt)).trans d0
                    have HBW := Lib.hid (HBW.out.trans (hb7.mono HBW.out.size))
                    clear hb7 d0 HOK
                    obtain ⟨W, hW⟩ : ∃ z, z = w7 := ⟨w7, rfl⟩
                    subst hW
                    have HSZ := Lib.hid (show W.heap.size + 1 ≤ ((W.alloc (Obj.cells #[.string (bs (R x))] 22 (0, 0))).alloc (Obj.cells #[] 22 (0, 0))).drew.heap.size ∧ True from ⟨by show W.heap.size + 1 ≤ ((W.alloc (Obj.cells #[.string (bs (R x))] 22 (0, 0))).alloc (Obj.cells #[] 22 (0, 0))).heap.size; rw [World.size_alloc, World.size_alloc]; omega, trivial⟩)
                    have HNE := Lib.hid (show some W.heap.size ≠ (Value.slice (some ⟨W.heap.size + 1, 0, none⟩) 0 0).ownBlock ∧ some (W.heap.size + 1) ≠ (Value.slice (some ⟨W.heap.size, 0, none⟩) 0 0).ownBlock from ⟨by simp [Value.ownBlock], by simp [Value.ownBlock]⟩)
                    have HLN : Hid ((0 : Nat) + ((es.take k).map R).length ≤ 1000000000 ∧ ((es.take k).map R).length + 1 ≤ 1000000000 ∧ ((es.take k).map R ++ [R x]).length + ((es.drop k).map R).length ≤ 1000000000) := Lib.hid (by
                      have h1 : ((es.take k).map R).length ≤ 5000 := by rw [List.length_map, List.length_take]; omega
                      have h2 : ((es.drop k).map R).length ≤ 5000 := by rw [List.length_map, List.length_drop]; omega
                      rw [List.length_append]
                      simp only [List.length_cons, List.length_nil]
                      omega)
                    have hp6 := HPS.out.below' HBW.out
                    have HS1 := Lib.hid (fun E (hE : Below W.heap.size W E) => SrcR.of (cap := cr) (n := k) ((hp6.below' hE).take k) (by rw [List.length_take, List.length_map]; omega))
                    have HS3 := Lib.hid (fun E (hE : Below W.heap.size W E) => SrcR.cut (n := es.length) (gc := cr) (k := k) (by rw [List.length_drop, List.length_map]) ((hp6.below' hE).drop k) hgc)
                    rw [show (es.map R).take k = (es.take k).map R by rw [List.map_take]] at HS1
                    rw [show (es.map R).drop k = (es.drop k).map R by rw [List.map_drop]] at HS3
                    have hjc : (k : Int) ≤ (cr : Int) := by omega
                    have hjr : (k : Int) ≤ (es.length : Int) := by omega
                    clear hp6
                    go_wp2_with fail
                    go_region_held3 (fun _ => True)
                      (exact True.intro)
                      (first
                      | (refine step_app_r (v := .slice (some ⟨W.heap.size, 0, none⟩) 0 0) rfl (.tmp 57) (.tmp 60) rfl rfl rfl ((OwnS.fresh W W.heap.size W.heap.size rfl (Nat.le_refl _)).drew) (HS1.out _ (RowKit.Below.drew ((Below.refl W.heap.size W).alloc (Nat.le_refl _) (Obj.cells #[] 22 (0, 0))))) (RowKit.Below.drew ((Below.refl W.heap.size W).alloc (Nat.le_refl _) (Obj.cells #[] 22 (0, 0)))).size HLN.out.1 ?_; intro v1 w1 ho1 hg1; have HA1 := Lib.hid (show ApS W w1 v1 ((es.take k).map R) from ⟨ho1, app_belS ((OwnS.fresh W W.heap.size W.heap.size rfl (Nat.le_refl _)).drew) (RowKit.Below.drew ((Below.refl W.heap.size W).alloc (Nat.le_refl _) (Obj.cells #[] 22 (0, 0)))) (Nat.le_refl _) hg1⟩))
                      | (refine step_app_r (v := .slice (some ⟨W.heap.size + 1, 0, none⟩) 0 0) rfl (.tmp 57) (.tmp 60) rfl rfl rfl ((OwnS.fresh (W.alloc (Obj.cells #[.string (bs (R x))] 22 (0, 0))) (W.heap.size + 1) (W.heap.size + 1) (World.size_alloc _ _).symm (Nat.le_refl _)).drew) (HS1.out _ (RowKit.Below.drew (((Below.refl W.heap.size W).alloc (Nat.le_refl _) (Obj.cells #[.string (bs (R x))] 22 (0, 0))).alloc ((Below.refl W.heap.size W).alloc (Nat.le_refl _) (Obj.cells #[.string (bs (R x))] 22 (0, 0))).size (Obj.cells #[] 22 (0, 0))))) HSZ.out.1 HLN.out.1 ?_; intro v1 w1 ho1 hg1; have HA1 := Lib.hid (show ApS W w1 v1 ((es.take k).map R) from ⟨ownsRow_base ho1 (Nat.le_succ _), app_belS ((OwnS.fresh (W.alloc (Obj.cells #[.string (bs (R x))] 22 (0, 0))) (W.heap.size + 1) (W.heap.size + 1) (World.size_alloc _ _).symm (Nat.le_refl _)).drew) (RowKit.Below.drew (((Below.refl W.heap.size W).alloc (Nat.le_refl _) (Obj.cells #[.string (bs (R x))] 22 (0, 0))).alloc ((Below.refl W.heap.size W).alloc (Nat.le_refl _) (Obj.cells #[.string (bs (R x))] 22 (0, 0))).size (Obj.cells #[] 22 (0, 0)))) (Nat.le_succ _) hg1⟩); have HXR := Lib.hid (SrcR.row (row_grown (show Row ((W.alloc (Obj.cells #[.string (bs (R x))] 22 (0, 0))).alloc (Obj.cells #[] 22 (0, 0))).drew W.heap.size 22 [.string (bs (R x))] from Row.alloc rnw _) hg1 HNE.out.1)))
                      | (refine step_app_r (v := .slice (some ⟨W.heap.size, 0, none⟩) 0 0) rfl (.tmp 57) (.tmp 60) rfl rfl rfl ((OwnS.alloc (OwnS.fresh W W.heap.size W.heap.size rfl (Nat.le_refl _)) (Obj.cells #[.string (bs (R x))] 22 (0, 0))).drew) (HS1.out _ (RowKit.Below.drew (((Below.refl W.heap.size W).alloc (Nat.le_refl _) (Obj.cells #[] 22 (0, 0))).alloc ((Below.refl W.heap.size W).alloc (Nat.le_refl _) (Obj.cells #[] 22 (0, 0))).size (Obj.cells #[.string (bs (R x))] 22 (0, 0))))) (RowKit.Below.drew (((Below.refl W.heap.size W).alloc (Nat.le_refl _) (Obj.cells #[] 22 (0, 0))).alloc ((Below.refl W.heap.size W).alloc (Nat.le_refl _) (Obj.cells #[] 22 (0, 0))).size (Obj.cells #[.string (bs (R x))] 22 (0, 0)))).size HLN.out.1 ?_; intro v1 w1 ho1 hg1; have HA1 := Lib.hid (show ApS W w1 v1 ((es.take k).map R) from ⟨ho1, app_belS ((OwnS.alloc (OwnS.fresh W W.heap.size W.heap.size rfl (Nat.le_refl _)) (Obj.cells #[.string (bs (R x))] 22 (0, 0))).drew) (RowKit.Below.drew (((Below.refl W.heap.size W).alloc (Nat.le_refl _) (Obj.cells #[] 22 (0, 0))).alloc ((Below.refl W.heap.size W).alloc (Nat.le_refl _) (Obj.cells #[] 22 (0, 0))).size (Obj.cells #[.string (bs (R x))] 22 (0, 0)))) (Nat.le_refl _) hg1⟩); have HXR := Lib.hid (SrcR.row (row_grown (show Row ((W.alloc (Obj.cells #[] 22 (0, 0))).alloc (Obj.cells #[.string (bs (R x))] 22 (0, 0))).drew (W.heap.size + 1) 22 [.string (bs (R x))] from rnew0 (World.size_alloc _ _).symm) hg1 HNE.out.2)))
                      | (refine step_app_r rfl (.tmp 61) (.tmp 63) rfl rfl rfl HA1.out.1 HXR.out HA1.out.2.size HLN.out.2.1 ?_; intro v2 w2 ho2 hg2; have HA2 := Lib.hid (show ApS W w2 v2 ((es.take k).map R ++ [R x]) from ⟨ho2, app_belS HA1.out.1 HA1.out.2 (Nat.le_refl _) hg2⟩))
                      | (refine step_app_r rfl (.tmp 61) (.tmp 63) rfl rfl rfl (OwnS.alloc HA1.out.1 _) (SrcR.new w1 (R x)) (HA1.out.2.alloc HA1.out.2.size _).size HLN.out.2.1 ?_; intro v2 w2 ho2 hg2; have HA2 := Lib.hid (show ApS W w2 v2 ((es.take k).map R ++ [R x]) from ⟨ho2, app_belS (OwnS.alloc HA1.out.1 _) (HA1.out.2.alloc HA1.out.2.size _) (Nat.le_refl _) hg2⟩))
                      | (refine step_app_r rfl (.tmp 64) (.tmp 67) rfl rfl rfl HA2.out.1 (HS3.out _ HA2.out.2) HA2.out.2.size HLN.out.2.2 ?_; intro v3 w3 ho3 hg3; have HA3 := Lib.hid (show ApS W w3 v3 ((es.take k).map R ++ [R x] ++ (es.drop k).map R) from ⟨ho3, app_belS HA2.out.1 HA2.out.2 (Nat.le_refl _) hg3⟩)))
                    all_goals
                      have HFIN : Hid (ApS w w3 v3 ((endJ out a (j + 1)).map R) ∧ Row w3 gP 22 [.string (bs (R a.1)), .string (bs (R a.2))]) := by
                        rw [HES.out, HINS.out]
                        exact Lib.hid ⟨⟨ownsRow_base HA3.out.1 (Nat.le_trans HO.out.1.2.size HBW.out.size), HO.out.1.2.trans ((HBW.out.trans (HA3.out.2.mono HBW.out.size)).mono HO.out.1.2.size)⟩, (HO.out.2.below' HBW.out).below' HA3.out.2⟩
                      clear HA1 HA2 HA3 HS1 HS3 HLN HSZ HNE HES HINS
                      go_wp2
                      go_roundw
                      case rel => exact ⟨j + 1, _, by go_num, rfl, hj2, HFIN⟩
                      case measure => simp [intOf]; omega
              · obtain rfl : k = K := by omega
                have hkl : k = es.length := by omega
                have hkd : decide ((k : Int) < (es.length : Int)) = false := decide_eq_false (by omega)
                have hke : decide ((k : Int) = (es.length : Int)) = true := decide_eq_true (by omega)
                have hkb : ((k : Int) == (es.length : Int)) = true := by simpa using hke
                have HINS : Hid ((insQ es x).map R = (es.take k).map R ++ [R x] ++ (es.drop k).map R) := Lib.hid (by rw [HK3.out fun h => absurd h hkn]; simp)
                obtain ⟨W, hW⟩ : ∃ z, z = wr := ⟨wr, rfl⟩
                subst hW
                have HSZ := Lib.hid (show W.heap.size + 1 ≤ ((W.alloc (Obj.cells #[.string (bs (R x))] 22 (0, 0))).alloc (Obj.cells #[] 22 (0, 0))).drew.heap.size ∧ True from ⟨by show W.heap.size + 1 ≤ ((W.alloc (Obj.cells #[.string (bs (R x))] 22 (0, 0))).alloc (Obj.cells #[] 22 (0, 0))).heap.size; rw [World.size_alloc, World.size_alloc]; omega, trivial⟩)
                have HNE := Lib.hid (show some W.heap.size ≠ (Value.slice (some ⟨W.heap.size + 1, 0, none⟩) 0 0).ownBlock ∧ some (W.heap.size + 1) ≠ (Value.slice (some ⟨W.heap.size, 0, none⟩) 0 0).ownBlock from ⟨by simp [Value.ownBlock], by simp [Value.ownBlock]⟩)
                have HLN : Hid ((0 : Nat) + ((es.take k).map R).length ≤ 1000000000 ∧ ((es.take k).map R).length + 1 ≤ 1000000000 ∧ ((es.take k).map R ++ [R x]).length + ((es.drop k).map R).length ≤ 1000000000) := Lib.hid (by
                  have h1 : ((es.take k).map R).length ≤ 5000 := by rw [List.length_map, List.length_take]; omega
                  have h2 : ((es.drop k).map R).length ≤ 5000 := by rw [List.length_map, List.length_drop]; omega
                  rw [List.length_append]
                  simp only [List.length_cons, List.length_nil]
                  omega)
                have hp6 := HPS.out.below' HBW.out
                have HS1 := Lib.hid (fun E (hE : Below W.heap.size W E) => SrcR.of (cap := cr) (n := k) ((hp6.below' hE).take k) (by rw [List.length_take, List.length_map]; omega))
                have HS3 := Lib.hid (fun E (hE : Below W.heap.size W E) => SrcR.cut (n := es.length) (gc := cr) (k := k) (by rw [List.length_drop, List.length_map]) ((hp6.below' hE).drop k) hgc)
                rw [show (es.map R).take k = (es.take k).map R by rw [List.map_take]] at HS1
                rw [show (es.map R).drop k = (es.drop k).map R by rw [List.map_drop]] at HS3
                have hjc : (k : Int) ≤ (cr : Int) := by omega
                have hjr : (k : Int) ≤ (es.length : Int) := by omega
                clear hp6
                clear hkl
                go_wp2_with fail
                go_region_held3 (fun _ => True)
                  (exact True.intro)
                  (first
                  | (refine step_app_r (v := .slice (some ⟨W.heap.size, 0, none⟩) 0 0) rfl (.tmp 57) (.tmp 60) rfl rfl rfl ((OwnS.fresh W W.heap.size W.heap.size rfl (Nat.le_refl _)).drew) (HS1.out _ (RowKit.Below.drew ((Below.refl W.heap.size W).alloc (Nat.le_refl _) (Obj.cells #[] 22 (0, 0))))) (RowKit.Below.drew ((Below.refl W.heap.size W).alloc (Nat.le_refl _) (Obj.cells #[] 22 (0, 0)))).size HLN.out.1 ?_; intro v1 w1 ho1 hg1; have HA1 := Lib.hid (show ApS W w1 v1 ((es.take k).map R) from ⟨ho1, app_belS ((OwnS.fresh W W.heap.size W.heap.size rfl (Nat.le_refl _)).drew) (RowKit.Below.drew ((Below.refl W.heap.size W).alloc (Nat.le_refl _) (Obj.cells #[] 22 (0, 0)))) (Nat.le_refl _) hg1⟩))
                  | (refine step_app_r (v := .slice (some ⟨W.heap.size + 1, 0, none⟩) 0 0) rfl (.tmp 57) (.tmp 60) rfl rfl rfl ((OwnS.fresh (W.alloc (Obj.cells #[.string (bs (R x))] 22 (0, 0))) (W.heap.size + 1) (W.heap.size + 1) (World.size_alloc _ _).symm (Nat.le_refl _)).drew) (HS1.out _ (RowKit.Below.drew (((Below.refl W.heap.size W).alloc (Nat.le_refl _) (Obj.cells #[.string (bs (R x))] 22 (0, 0))).alloc ((Below.refl W.heap.size W).alloc (Nat.le_refl _) (Obj.cells #[.string (bs (R x))] 22 (0, 0))).size (Obj.cells #[] 22 (0, 0))))) HSZ.out.1 HLN.out.1 ?_; intro v1 w1 ho1 hg1; have HA1 := Lib.hid (show ApS W w1 v1 ((es.take k).map R) from ⟨ownsRow_base ho1 (Nat.le_succ _), app_belS ((OwnS.fresh (W.alloc (Obj.cells #[.string (bs (R x))] 22 (0, 0))) (W.heap.size + 1) (W.heap.size + 1) (World.size_alloc _ _).symm (Nat.le_refl _)).drew) (RowKit.Below.drew (((Below.refl W.heap.size W).alloc (Nat.le_refl _) (Obj.cells #[.string (bs (R x))] 22 (0, 0))).alloc ((Below.refl W.heap.size W).alloc (Nat.le_refl _) (Obj.cells #[.string (bs (R x))] 22 (0, 0))).size (Obj.cells #[] 22 (0, 0)))) (Nat.le_succ _) hg1⟩); have HXR := Lib.hid (SrcR.row (row_grown (show Row ((W.alloc (Obj.cells #[.string (bs (R x))] 22 (0, 0))).alloc (Obj.cells #[] 22 (0, 0))).drew W.heap.size 22 [.string (bs (R x))] from Row.alloc rnw _) hg1 HNE.out.1)))
                  | (refine step_app_r (v := .slice (some ⟨W.heap.size, 0, none⟩) 0 0) rfl (.tmp 57) (.tmp 60) rfl rfl rfl ((OwnS.alloc (OwnS.fresh W W.heap.size W.heap.size rfl (Nat.le_refl _)) (Obj.cells #[.string (bs (R x))] 22 (0, 0))).drew) (HS1.out _ (RowKit.Below.drew (((Below.refl W.heap.size W).alloc (Nat.le_refl _) (Obj.cells #[] 22 (0, 0))).alloc ((Below.refl W.heap.size W).alloc (Nat.le_refl _) (Obj.cells #[] 22 (0, 0))).size (Obj.cells #[.string (bs (R x))] 22 (0, 0))))) (RowKit.Below.drew (((Below.refl W.heap.size W).alloc (Nat.le_refl _) (Obj.cells #[] 22 (0, 0))).alloc ((Below.refl W.heap.size W).alloc (Nat.le_refl _) (Obj.cells #[] 22 (0, 0))).size (Obj.cells #[.string (bs (R x))] 22 (0, 0)))).size HLN.out.1 ?_; intro v1 w1 ho1 hg1; have HA1 := Lib.hid (show ApS W w1 v1 ((es.take k).map R) from ⟨ho1, app_belS ((OwnS.alloc (OwnS.fresh W W.heap.size W.heap.size rfl (Nat.le_refl _)) (Obj.cells #[.string (bs (R x))] 22 (0, 0))).drew) (RowKit.Below.drew (((Below.refl W.heap.size W).alloc (Nat.le_refl _) (Obj.cells #[] 22 (0, 0))).alloc ((Below.refl W.heap.size W).alloc (Nat.le_refl _) (Obj.cells #[] 22 (0, 0))).size (Obj.cells #[.string (bs (R x))] 22 (0, 0)))) (Nat.le_refl _) hg1⟩); have HXR := Lib.hid (SrcR.row (row_grown (show Row ((W.alloc (Obj.cells #[] 22 (0, 0))).alloc (Obj.cells #[.string (bs (R x))] 22 (0, 0))).drew (W.heap.size + 1) 22 [.string (bs (R x))] from rnew0 (World.size_alloc _ _).symm) hg1 HNE.out.2)))
                  | (refine step_app_r rfl (.tmp 61) (.tmp 63) rfl rfl rfl HA1.out.1 HXR.out HA1.out.2.size HLN.out.2.1 ?_; intro v2 w2 ho2 hg2; have HA2 := Lib.hid (show ApS W w2 v2 ((es.take k).map R ++ [R x]) from ⟨ho2, app_belS HA1.out.1 HA1.out.2 (Nat.le_refl _) hg2⟩))
                  | (refine step_app_r rfl (.tmp 61) (.tmp 63) rfl rfl rfl (OwnS.alloc HA1.out.1 _) (SrcR.new w1 (R x)) (HA1.out.2.alloc HA1.out.2.size _).size HLN.out.2.1 ?_; intro v2 w2 ho2 hg2; have HA2 := Lib.hid (show ApS W w2 v2 ((es.take k).map R ++ [R x]) from ⟨ho2, app_belS (OwnS.alloc HA1.out.1 _) (HA1.out.2.alloc HA1.out.2.size _) (Nat.le_refl _) hg2⟩))
                  | (refine step_app_r rfl (.tmp 64) (.tmp 67) rfl rfl rfl HA2.out.1 (HS3.out _ HA2.out.2) HA2.out.2.size HLN.out.2.2 ?_; intro v3 w3 ho3 hg3; have HA3 := Lib.hid (show ApS W w3 v3 ((es.take k).map R ++ [R x] ++ (es.drop k).map R) from ⟨ho3, app_belS HA2.out.1 HA2.out.2 (Nat.le_refl _) hg3⟩)))
                all_goals
                  have HFIN : Hid (ApS w w3 v3 ((endJ out a (j + 1)).map R) ∧ Row w3 gP 22 [.string (bs (R a.1)), .string (bs (R a.2))]) := by
                    rw [HES.out, HINS.out]
                    exact Lib.hid ⟨⟨ownsRow_base HA3.out.1 (Nat.le_trans HO.out.1.2.size HBW.out.size), HO.out.1.2.trans ((HBW.out.trans (HA3.out.2.mono HBW.out.size)).mono HO.out.1.2.size)⟩, (HO.out.2.below' HBW.out).below' HA3.out.2⟩
                  clear HA1 HA2 HA3 HS1 HS3 HLN HSZ HNE HES HINS
                  go_wp2
                  go_roundw
                  case rel => exact ⟨j + 1, _, by go_num, rfl, hj2, HFIN⟩
                  case measure => simp [intOf]; omega
        · obtain rfl : j = 2 := by omega
          have HFI : Hid (ApS w wr vo ((endI l (i + 1)).map R)) := by rw [HSI.out]; exact Lib.hid hin.out.1
          clear hin HSI
          go_wp2
          go_roundw
          case rel => exact ⟨i + 1, _, by go_num, rfl, hlt, HFI⟩
          case measure => simp [intOf]; omega
    · obtain rfl : i = l.length := by omega
      have HFI : Hid (ApS w wr vo ((endsZ l).map R)) := by rw [← HE.out]; exact hown
      clear hown HX HS HM HL HE
      go_wp2
      go_ret
      exact ⟨_, rfl, HFI.out⟩
end W
end Go.Proofs.YtpjaoapnangccaaGreatDoor
