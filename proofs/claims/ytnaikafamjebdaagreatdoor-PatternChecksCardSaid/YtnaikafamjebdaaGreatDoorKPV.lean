/-
  Chapter 46: 'Excess' of the program.
  Chapter 46, plain: shifts without a turn.
  Chapter 46: 'least' of the program.
  Chapter 46: four lists that grow in one array.
  Chapter 46: 'Shift' of the program.
-/
import Derived.Test.YtnaikafamjebdaaGreatDoorKPU
import Derived.Deep.RegionHeld3
import Derived.Maps.AppendAt
section
namespace Go.Proofs.YtnaikafamjebdaaGreatDoor
open Go Go.RowKit Go.Deep
namespace M
def lit12 : List UInt8 := [45, 49, 47, 50]
theorem R_half : R (-1 / 2) = lit12 := by kernel_rfl
theorem bx_bndsE (pl : Pl) : bx (bndsE pl) = (bx (bnds pl)).map fun b => (b.1 ++ [lit12], b.2) := by
  unfold bndsE bx
  rw [List.map_map, List.map_map]
  refine List.map_congr_left fun b _ => ?_
  simp [rx, R_half]
theorem goal_rx : rx [0, 0, 0, -1] = [[48], [48], [48], [45, 49]] := by kernel_rfl
end M
theorem genw {w : World} (P : World → Prop) {G : World → Prop} (h : P w) (k : ∀ W, P W → G W) : G w := k w h
theorem ex_in {w0 W w6 : World} {v9 v6 : Value} {es : List (Value × M.BT)} {l : List (List UInt8)} {q : List UInt8} (h : ExS w0 W v9 es) (h2 : ApS W w6 v6 l) :
    ExS w0 (w6.alloc (.cells #[v6, .string (bs q)] 51 (0, 0))) v9 es ∧ GoodT (w6.alloc (.cells #[v6, .string (bs q)] 51 (0, 0))) [(v6, (l, q))] :=
  ⟨h.to (bel_to h2.2 (bel_al _ _)), (ApS.good h2).below (bel_al _ _)⟩
theorem OwnS.form2 {w : World} {B : Nat} {v : Value} {l : List (List UInt8)} (h : OwnS w B v l) (hn : l ≠ []) :
    ∃ g cap, v = .slice (some ⟨g, 0, none⟩) l.length cap ∧ B ≤ g ∧ g < w.heap.size ∧ l.length ≤ cap ∧ ∀ i (hi : i < l.length), w.cell? ⟨g, i, none⟩ = some (.string (bs l[i])) := by
  obtain ⟨h1, h2⟩ := h
  rcases h2 with ⟨_, hn2⟩ | ⟨g, cap, cur, hv, hB, hh, hc, _, _, ht⟩
  · exact absurd (List.length_eq_zero_iff.1 hn2) hn
  · refine ⟨g, cap, hv, hB, lt_of_block hh, hc, fun i hi => ?_⟩
    have : (Strs l)[i]? = some (.string (bs l[i])) := by simp [Strs, hi]
    rw [← ht, List.getElem?_take] at this
    split at this
    · simp [World.cell?, hh]; simpa using this
    · cases this
namespace W
open M
attribute [local go_sem] bs_size bs_toList bs_get bs_extract bs_append bs_lit0 bs_lit1 lit1_bs
set_option maxHeartbeats 2000000
set_option maxRecDepth 20000
theorem pexcess_ok (ts : List Tg) (cs : List Cc) (h : chk46 ts cs = 0) (h5 : ts.length ≤ 5) : ∃ dx dy tw x : Rat, Sx.Exc (ts.zip cs) x ∧ Sx.Fz (ts.zip cs) dx dy tw x ∧ (∀ q ∈ [dx, dy, tw, x], Bq 37 q) ∧
    ∀ (vt vc : Value) (w : World), Glob w → Sig w → RdG w vt ts → RdC w vc cs → Calls Tryz.prog 26 #[vt, vc] w (Ret w (.tuple #[.string (bs (R x)), arV (rx [dx, dy, tw]), .int .i64 0])) := by
  obtain ⟨_, hl20, hl1⟩ := bnds_few h h5
  have hrt := (chk46_iff.1 h).2.2.2
  have hpl := Sx.bndsE_rightP hrt
  have hlE : (bndsE (ts.zip cs)).length = (bnds (ts.zip cs)).length := by rw [bndsE_len, bnds_len]
  have hne : ts.zip cs ≠ [] := fun e => by rw [e] at hl1; simp [bnds] at hl1
  obtain ⟨f, r, hf, hr⟩ := Sx.most_plate (goal := [0, 0, 0, -1]) hpl (fun x hx => by
    simp only [List.mem_cons, List.not_mem_nil, or_false] at hx
    rcases hx with rfl | rfl | rfl | rfl
    · exact Or.inl rfl
    · exact Or.inl rfl
    · exact Or.inl rfl
    · exact Or.inr (Or.inr rfl)) (by omega)
  obtain ⟨dx, dy, tw, x, wt, rfl, hx, hfz, hq⟩ := Sx.found_exc hne hr
  refine ⟨dx, dy, tw, x, hx, hfz, hq, fun vt vc w hg hs ht hc => ?_⟩
  have hlen := (chk46_iff.1 h).2.2.1
  have nt : ts.length ≤ maxLen := by unfold maxLen; omega
  have nc : cs.length ≤ maxLen := by unfold maxLen; omega
  have HMO := Lib.hid (fun vl vg W (hW : Below w.heap.size w W) (hv : RdB W vl (bx (bndsE (ts.zip cs)))) (hvg : RdT W vg [[48], [48], [48], [45, 49]]) => pmost 37 f 4 (by decide) (by decide) (by decide) _ [0, 0, 0, -1] _ hf vl vg W (hg.of hW) hv (by rw [goal_rx]; exact hvg) (by decide) (by decide) hpl.right (by omega) (by omega) rfl (by decide +kernel))
  have hng := fun W (hW : Below w.heap.size w W) => ratNeg (-x) 37 W (hg.of hW) (Bq.neg (hq x (by simp))) (by decide)
  rw [show - -x = x by grind] at hng
  have HNG := Lib.hid hng
  clear hng
  have HA := Lib.hid (fun va W (hW : Below w.heap.size w W) hv => pall va vt vc ts cs W (hg.of hW) hv (ht.below hW) (hc.below hW) h)
  have hb0 := bel_al w (.cells #[.string ⟨#[]⟩, .string ⟨#[]⟩, .string ⟨#[]⟩] 27 (0, 0))
  have hr0 : Row (w.alloc (.cells #[.string ⟨#[]⟩, .string ⟨#[]⟩, .string ⟨#[]⟩] 27 (0, 0))) w.heap.size 27 [.string ⟨#[]⟩, .string ⟨#[]⟩, .string ⟨#[]⟩] := rnw
  have HR0 := Lib.hid (And.intro hr0 hb0)
  have HBX := Lib.hid (bx_bndsE (ts.zip cs))
  have HBL : Hid (∀ b ∈ bx (bnds (ts.zip cs)), b.1.length ≤ 10) := Lib.hid (fun b hb => by
    obtain ⟨c, hc, rfl⟩ := List.mem_map.1 hb
    have := (Sx.bnds_rightP hrt c hc).1
    simp only [rx_len]; omega)
  have HB2 : (bx (bnds (ts.zip cs))).length ≤ 20 := by rw [bx_len]; exact hl20
  obtain ⟨At, ct, rfl⟩ := ht.len
  obtain ⟨Ac, cc, rfl⟩ := hc.len
  have HP := Lib.hid (pplate_ok _ _ ts cs _ (hs.below hb0) (ht.below hb0) (hc.below hb0) nt nc h)
  clear h hs ht hc nt nc hg hr0 hb0 hpl hl20 hl1 hf hr hlen hrt hne hx hfz hq hlE
  go_enter Tryz.func26, Tryz.ntmps26
  go_wp2_with fail
  refine HP.out.mono ?_
  rintro e w1 ⟨va, rfl, hv, hb1⟩
  have hb2 := bel_to hb1 (bel_al w1 (.cells #[va, .slice At ts.length ct, .slice Ac cs.length cc] 72 (0, 0)))
  have HA1 := Lib.hid (HA.out va _ (bel_to HR0.out.2 hb2) (hv.below (bel_al _ _)))
  have HR1 := Lib.hid (And.intro (HR0.out.1.below' hb2) (bel_to HR0.out.2 hb2))
  obtain ⟨Av, cv, rfl⟩ := hv.len
  clear hv hb1 hb2 HP HA HR0
  go_wp2_with fail
  refine HA1.out.mono ?_
  rintro e w2 ⟨v, es, rfl, ho, hgd, he, hb2⟩
  have HR2 := Lib.hid (And.intro (HR1.out.1.below' hb2) (bel_to HR1.out.2 hb2))
  have hrb : RdB w2 v (bx (bnds (ts.zip cs))) := by rw [← he]; exact OwnE.rd ho hgd.good
  generalize bx (bnds (ts.zip cs)) = B at *
  obtain ⟨Ao, co, rfl⟩ := hrb.len
  have HRB := Lib.hid hrb
  clear ho hgd he hb2 HA1 HR1 hrb
  go_wp2_with fail
  go_loopw [9, 28] (fun vo iv wr => ∃ (k : Nat) (es : List (Value × BT)), iv = .int .i64 (k : Int) ∧ k ≤ B.length ∧ Hid (ExS w2 wr vo es) ∧ Hid (es.map (·.2) = (B.take k).map fun b => (b.1 ++ [lit12], b.2))) (fun _ iv _ => B.length - (intOf iv).toNat)
  case atStart => exact ⟨0, [], rfl, by omega, Lib.hid ⟨World.ownsRow_nil _ _ _ _, (fun x hx => by cases hx), Below.refl _ _⟩, Lib.hid rfl⟩
  case round =>
    obtain ⟨k, es, rfl, hk, hin, hes⟩ := hrel
    by_cases hlt : k < B.length
    · have hel := congrArg List.length hes.out
      rw [List.length_map, List.length_map, List.length_take] at hel
      have HEL : Hid (es.length ≤ 20) := Lib.hid (by omega)
      have HTK : Hid ((B.take (k + 1)).map (fun b => (b.1 ++ [lit12], b.2)) = (B.take k).map (fun b => (b.1 ++ [lit12], b.2)) ++ [(B[k].1 ++ [lit12], B[k].2)]) := Lib.hid (by
        rw [List.take_add_one, List.getElem?_eq_getElem hlt, List.map_append]; rfl)
      have hb10 := HBL.out _ (List.getElem_mem hlt)
      obtain ⟨b1, o1, rfl, hw⟩ := HRB.out.row k hlt
      have hw := hw.below' hin.out.bel
      obtain ⟨vr, c0, hvr, hsr⟩ := hw.row k hlt
      have c1 := hw.most k hlt
      generalize B[k] = bb at *
      obtain ⟨row, q⟩ := bb
      simp only at *
      have hrow : Row (wr.alloc (.cells #[vr, .string (bs q)] 51 (0, 0))) wr.heap.size 51 [vr, .string (bs q)] := rnw
      have HW0 := Lib.hid (And.intro hrow (And.intro (hin.out.to (bel_al wr (.cells #[vr, .string (bs q)] 51 (0, 0)))) (And.intro (hvr.below (bel_al wr (.cells #[vr, .string (bs q)] 51 (0, 0)))) hsr)))
      have HB10 := Lib.hid hb10
      obtain ⟨Ar, nr, cr, hvr2⟩ : ∃ A n c, vr = .slice A n c := by
        obtain ⟨A, c, e⟩ := hvr.len
        exact ⟨_, _, _, e⟩
      subst hvr2
      obtain ⟨Av2, nv2, cv2, rfl⟩ := OwnE.shape hin.out.own
      have HNE : Hid (some wr.heap.size ≠ (Value.slice Av2 nv2 cv2).ownBlock) := Lib.hid (fun e => by
        have := (World.ownsRow.lt hin.out.own _ e.symm).2
        omega)
      have hi0 : (0 : Int) ≤ (k : Int) := by omega
      have hi1 : (k : Int) < (B.length : Int) := by omega
      clear hw hvr hsr hrow hel hb10 hin
      go_wp2_with fail
      refine genw (fun W => Row W wr.heap.size 51 [.slice Ar nr cr, .string (bs q)] ∧ ExS w2 W (.slice Av2 nv2 cv2) es ∧ RdT W (.slice Ar nr cr) row ∧ Shp (.slice Ar nr cr)) HW0.out ?_
      intro W hW
      have HW1 := Lib.hid hW
      clear hW HW0 c0 c1
      generalize wr.heap.size = xb at *
      have HCL := Lib.hid (fun E (hE : Below W.heap.size W E) => And.intro ((HW1.out.1.below' hE).cell (i := 0) rfl) ((HW1.out.1.below' hE).cell (i := 1) rfl))
      have HC := Lib.hid (fun E (hE : Below W.heap.size W E) => pcloneS (.slice Ar nr cr) row E (HW1.out.2.2.1.below hE) HW1.out.2.2.2 (by have := HB10.out; omega))
      have HBD := Lib.hid (RowKit.Below.drew (Below.refl W.heap.size W))
      have HBL1 := Lib.hid (RowKit.Below.drew ((Below.refl W.heap.size W).alloc (Nat.le_refl _) (Obj.cells #[.string ⟨#[45, 49, 47, 50]⟩] 26 (0, 0))))
      have HBL2 := Lib.hid ((RowKit.Below.drew (Below.refl W.heap.size W)).alloc (Nat.le_refl _) (Obj.cells #[.string ⟨#[45, 49, 47, 50]⟩] 26 (0, 0)))
      have HL1 := Lib.hid (show Row (W.alloc (Obj.cells #[.string (bs lit12)] 26 (0, 0))).drew W.heap.size 26 [.string (bs lit12)] from rnw)
      have HLN : Hid (row.length + [lit12].length ≤ 1000000000 ∧ (es.length + 1) * 40 ≤ 140737488355328) := Lib.hid (by
        have h1 := HB10.out
        have h2 := HEL.out
        simp only [List.length_cons, List.length_nil]
        omega)
      clear HB10 HEL
      go_region_held3 (fun E => E.cell? ⟨xb, 0, none⟩ = some (.slice Ar nr cr) ∧ E.cell? ⟨xb, 1, none⟩ = some (.string (bs q)))
        (first | exact And.intro (HC7.out.cell (i := 0) rfl) (HC7.out.cell (i := 1) rfl) | exact HCL.out _ (HA2.out.2.alloc HA2.out.2.size _) | exact HCL.out _ HA2.out.2 | exact HCL.out _ (HA1.out.2.alloc HA1.out.2.size _) | exact HCL.out _ HA1.out.2 | exact HCL.out _ (Below.refl _ _) | exact HCL.out _ HBD.out | exact HCL.out _ HBL1.out | exact HCL.out _ HBL2.out)
        (first
        | (go_at_call 50; first
          | (refine (HC.out _ HBD.out).mono ?_; rintro e w5 ⟨v5, rfl, ho5, hb5⟩; have HA1 := Lib.hid (ApS.of HBD.out ho5 hb5); obtain ⟨A5, n5, c5, rfl⟩ := OwnS.shape ho5; clear ho5 hb5)
          | (refine (HC.out _ HBL1.out).mono ?_; rintro e w5 ⟨v5, rfl, ho5, hb5⟩; have HA1 := Lib.hid (ApS.of HBL1.out ho5 hb5); have HXR := Lib.hid (SrcT.row (HL1.out.below' hb5)); obtain ⟨A5, n5, c5, rfl⟩ := OwnS.shape ho5; clear ho5 hb5)
          | (refine (HC.out _ HBL2.out).mono ?_; rintro e w5 ⟨v5, rfl, ho5, hb5⟩; have HA1 := Lib.hid (ApS.of HBL2.out ho5 hb5); have HXR := Lib.hid (SrcT.row (HL1.out.below' hb5)); obtain ⟨A5, n5, c5, rfl⟩ := OwnS.shape ho5; clear ho5 hb5))
        | (refine step_app_t rfl (.tmp 35) (.tmp 36) rfl rfl rfl HA1.out.1 HXR.out HA1.out.2.size HLN.out.1 ?_; intro v6 w6 ho6 hg6; obtain ⟨A6, n6, c6, rfl⟩ := OwnS.shape ho6; have HA2 := Lib.hid (show ApS W w6 (.slice A6 n6 c6) (row ++ [lit12]) from ⟨ho6, app_belS HA1.out.1 HA1.out.2 (Nat.le_refl _) hg6⟩); clear ho6 hg6)
        | (refine step_app_t rfl (.tmp 35) (.tmp 36) rfl rfl rfl (OwnS.alloc HA1.out.1 _) (SrcT.new w5 lit12) (HA1.out.2.alloc HA1.out.2.size _).size HLN.out.1 ?_; intro v6 w6 ho6 hg6; obtain ⟨A6, n6, c6, rfl⟩ := OwnS.shape ho6; have HA2 := Lib.hid (show ApS W w6 (.slice A6 n6 c6) (row ++ [lit12]) from ⟨ho6, app_belS (OwnS.alloc HA1.out.1 _) (HA1.out.2.alloc HA1.out.2.size _) (Nat.le_refl _) hg6⟩); clear ho6 hg6)
        | (refine step_app_e rfl (.tmp 32) (.tmp 41) rfl rfl rfl (ex_in (q := q) HW1.out.2.1 HA2.out).1.own (SrcE.new w6 (.slice A6 n6 c6) (row ++ [lit12], q)) (ex_in (q := q) HW1.out.2.1 HA2.out).2.good (ex_in (q := q) HW1.out.2.1 HA2.out).1.bel.size HLN.out.2 ?_; intro v7 w7 ho7 hg7; have HA3 := Lib.hid (ExS.app (ex_in (q := q) HW1.out.2.1 HA2.out).1 (ex_in (q := q) HW1.out.2.1 HA2.out).2 ho7 hg7); have HC7 := Lib.hid (row_grown (HW1.out.1.below' (bel_to HA2.out.2 (bel_al _ _))) hg7 HNE.out); clear ho7 hg7))
      all_goals
        go_wp2
        go_roundw
        case rel => exact ⟨k + 1, _, by go_num, by omega, HA3, Lib.hid (by rw [List.map_append, hes.out, HTK.out]; rfl)⟩
        case measure => simp [intOf]; omega
    · obtain rfl : k = B.length := by omega
      have hes2 := hes.out
      rw [List.take_length, ← HBX.out] at hes2
      obtain ⟨Av2, nv2, cv2, rfl⟩ := OwnE.shape hin.out.own
      have hv3 : RdB wr (.slice Av2 nv2 cv2) (bx (bndsE (ts.zip cs))) := by rw [← hes2]; exact OwnE.rd hin.out.own hin.out.good.good
      have hbw := bel_to HR2.out.2 hin.out.bel
      have hbg := bel_al wr (.cells (Strs [[48], [48], [48], [45, 49]]).toArray 26 (0, 0))
      have hvg := (OwnS.new wr [[48], [48], [48], [45, 49]] (Strs [[48], [48], [48], [45, 49]]).toArray 0 4 wr.heap.size rfl rfl rfl (Nat.zero_le _) (by decide)).rd
      have HM1 := Lib.hid (HMO.out (.slice Av2 nv2 cv2) _ _ (bel_to hbw hbg) (hv3.below hbg) hvg)
      have HR3 := Lib.hid (And.intro (HR2.out.1.below' (bel_to hin.out.bel hbg)) (bel_to hbw hbg))
      clear hes hes2 hv3 hbw hbg hvg hin HMO HR2 HRB HBL
      go_wp2_with fail
      refine HM1.out.mono ?_
      rintro e w3 ⟨v1, v2, rfl, ho1, ho2, hb3⟩
      obtain ⟨g, cap, rfl, hBg, hgl, hcap, hts⟩ := OwnS.form2 ho1 (by simp [rx])
      obtain ⟨Aw, nw, cw, rfl⟩ := OwnS.shape ho2
      have HR4 := Lib.hid (And.intro (HR3.out.1.below' hb3) (bel_to HR3.out.2 hb3))
      have HTS := Lib.hid (And.intro hgl hts)
      have HCP := Lib.hid hcap
      have HN1 := Lib.hid (HNG.out w3 HR4.out.2)
      rw [show (rx [dx, dy, tw, x]).length = 4 from rfl]
      clear ho1 ho2 hb3 HM1 HR3 hBg hgl hts hcap HNG
      go_wp2_with fail
      refine HN1.out.mono ?_
      rintro e w4 ⟨rfl, hb4⟩
      have hts4 : ∀ i (hi : i < (rx [dx, dy, tw, x]).length), w4.cell? ⟨g, i, none⟩ = some (.string (bs (rx [dx, dy, tw, x])[i])) := fun i hi => (hb4.cell (p := ⟨g, i, none⟩) HTS.out.1).trans (HTS.out.2 i hi)
      have hrw := HR4.out.1.below' hb4
      have hbw := bel_to HR4.out.2 hb4
      have s0 : w4.cell? ⟨g, 0, none⟩ = some (.string (bs (R dx))) := hts4 0 (by simp [rx])
      have s1 : w4.cell? ⟨g, 1, none⟩ = some (.string (bs (R dy))) := hts4 1 (by simp [rx])
      have s2 : w4.cell? ⟨g, 2, none⟩ = some (.string (bs (R tw))) := hts4 2 (by simp [rx])
      have hsp : ∀ W : World, (Instr.arrayAt 27 (.slice (some ⟨g, 0, none⟩) 3 cap)).run Tryz.prog W = .ok (.pointer (some ⟨g, 0, none⟩)) W := fun W => by
        unfold Instr.arrayAt
        simp [go_sem]
      have hc4 : (4 : Nat) ≤ cap := HCP.out
      have h3c : (3 : Int) ≤ (cap : Int) := by omega
      have f0 := hrw.free 0
      have f1 := (hrw.set 0 (.string (bs (R dx)))).free 1
      have f2 := ((hrw.set 0 (.string (bs (R dx)))).set 1 (.string (bs (R dy)))).free 2
      have c0 := hrw.cell (i := 0) rfl
      have c1 := (hrw.set 0 (.string (bs (R dx)))).cell (i := 1) rfl
      have c2 := ((hrw.set 0 (.string (bs (R dx)))).set 1 (.string (bs (R dy)))).cell (i := 2) rfl
      have HQ := Lib.hid (ar_store (.string (bs (R dx))) (.string (bs (R dy))) (.string (bs (R tw))) hrw (Nat.le_refl _) hbw)
      clear hb4 hrw hbw HR4 HN1 hts4 HTS HCP hc4
      go_wp2
      go_region
      all_goals
        go_wp2
        have q0 := HQ.out.1.cell (i := 0) rfl
        have q1 := HQ.out.1.cell (i := 1) rfl
        have q2 := HQ.out.1.cell (i := 2) rfl
        refine bodyPost_ret (v := .tuple #[.string (bs (R x)), .agg #[.string (bs (R dx)), .string (bs (R dy)), .string (bs (R tw))], .int .i64 0]) (by simp [results, Tryz.results26, go_sem, q0, q1, q2]) rfl ⟨rfl, RowKit.Below.drew HQ.out.2⟩
end W
end Go.Proofs.YtnaikafamjebdaaGreatDoor
end
section
namespace Go.Proofs.YtnaikafamjebdaaGreatDoor
open Go
namespace M
def lowX (p : Tg × Cc) : Int := 2 * (p.1.x - p.2.x) - wide p.1 p.2
def highX (p : Tg × Cc) : Int := 2 * (p.1.x - p.2.x) + wide p.1 p.2
def lowY (p : Tg × Cc) : Int := 2 * (p.1.y - p.2.y) - wide p.1 p.2
def highY (p : Tg × Cc) : Int := 2 * (p.1.y - p.2.y) + wide p.1 p.2
def mxTo (l : List Int) : Nat → Int
  | 0 => l.getD 0 0
  | i + 1 => max (mxTo l i) (l.getD i 0)
def mxZ (l : List Int) : Int := mxTo l l.length
theorem mxTo_ge (l : List Int) : ∀ i k, k < i → l.getD k 0 ≤ mxTo l i
  | 0, k, h => by omega
  | i + 1, k, h => by
    rw [mxTo]
    rcases Nat.lt_or_eq_of_le (Nat.le_of_lt_succ h) with h1 | rfl
    · have := mxTo_ge l i k h1; omega
    · omega
theorem mxTo_mem (l : List Int) (h : 0 < l.length) : ∀ i, i ≤ l.length → ∃ k, k < l.length ∧ mxTo l i = l.getD k 0
  | 0, _ => ⟨0, h, rfl⟩
  | i + 1, hi => by
    obtain ⟨k, hk, e⟩ := mxTo_mem l h i (by omega)
    rw [mxTo]
    by_cases h1 : mxTo l i ≤ l.getD i 0
    · exact ⟨i, by omega, by omega⟩
    · exact ⟨k, hk, by omega⟩
theorem mxZ_le {l : List Int} (h : 0 < l.length) (z : Int) : mxZ l ≤ z ↔ ∀ x ∈ l, x ≤ z := by
  constructor
  · intro h1 x hx
    obtain ⟨i, hi, rfl⟩ := List.mem_iff_getElem.1 hx
    have h2 := mxTo_ge l l.length i hi
    rw [show l.getD i 0 = l[i] by simp [hi]] at h2
    exact Int.le_trans h2 h1
  · intro h1
    obtain ⟨k, hk, e⟩ := mxTo_mem l h l.length (Nat.le_refl _)
    unfold mxZ
    rw [e, show l.getD k 0 = l[k] by simp [hk]]
    exact h1 _ (List.getElem_mem hk)
def shOk (pl : Pl) : Bool := (pl.all fun p => decide (mxZ (pl.map lowX) ≤ highX p)) && (pl.all fun p => decide (mxZ (pl.map lowY) ≤ highY p))
def shX (pl : Pl) : Rat := (mxZ (pl.map lowX) : Rat) / 2
def shY (pl : Pl) : Rat := (mxZ (pl.map lowY) : Rat) / 2
end M
namespace Sx
open M
end Sx
end Go.Proofs.YtnaikafamjebdaaGreatDoor
end
section
namespace Go.Proofs.YtnaikafamjebdaaGreatDoor
open Go Go.RowKit Go.Deep
namespace M
def hv (z : Int) : Rat := (z : Rat) / 2
def hts (l : List Int) : List (List UInt8) := l.map fun z => R (hv z)
theorem hts_len (l : List Int) : (hts l).length = l.length := List.length_map _
theorem hv_lt {a b : Int} : hv a < hv b ↔ a < b := by
  unfold hv
  rw [← Rat.intCast_lt_intCast]
  constructor <;> intro h <;> grind
def leastV (lo hi : List Int) : Value := if hi.all (fun z => decide (mxZ lo ≤ z)) = true then .tuple #[.string (bs (R (hv (mxZ lo)))), .bool true] else .tuple #[.string (bs []), .bool false]
theorem leastV_bad {lo hi : List Int} {k : Nat} (hk : k < hi.length) (h : hi[k] < mxZ lo) : leastV lo hi = .tuple #[.string (bs []), .bool false] := by
  unfold leastV
  rw [if_neg]
  intro e
  have := of_decide_eq_true (List.all_eq_true.1 e _ (List.getElem_mem hk))
  omega
theorem leastV_good {lo hi : List Int} (h : ∀ k (hk : k < hi.length), mxZ lo ≤ hi[k]) : leastV lo hi = .tuple #[.string (bs (R (hv (mxZ lo)))), .bool true] := by
  unfold leastV
  rw [if_pos]
  rw [List.all_eq_true]
  intro x hx
  obtain ⟨k, hk, rfl⟩ := List.mem_iff_getElem.1 hx
  exact decide_eq_true (h k hk)
end M
namespace W
open M
attribute [local go_sem] bs_size bs_toList bs_get bs_extract bs_append bs_lit0 bs_lit1 lit1_bs
set_option maxHeartbeats 2000000
set_option maxRecDepth 20000
theorem hv_bq {z : Int} (h : z.natAbs < 10 ^ 8) : Bq 8 (hv z) := by
  have h1 := half_bq h
  rw [Rat.divInt_eq_div] at h1
  exact h1
theorem pleast (vl vh : Value) (lo hi : List Int) (w : World) (hg : Glob w) (hl : RdT w vl (hts lo)) (hh : RdT w vh (hts hi)) (n1 : lo.length ≤ 1000000) (n2 : hi.length ≤ 1000000) (h0 : 0 < lo.length)
    (b1 : ∀ z ∈ lo, z.natAbs < 10 ^ 8) (b2 : ∀ z ∈ hi, z.natAbs < 10 ^ 8) : Calls Tryz.prog 43 #[vl, vh] w (Ret w (leastV lo hi)) := by
  have HC := Lib.hid (fun (a b : Int) W (hW : Below w.heap.size w W) (ha : a.natAbs < 10 ^ 8) (hb : b.natAbs < 10 ^ 8) => ratCompare (hv a) (hv b) 8 8 W (hg.of hW) (hv_bq ha) (hv_bq hb) (by decide))
  have HMX : Hid (∀ i, i ≤ lo.length → (mxTo lo i).natAbs < 10 ^ 8) := Lib.hid (fun i hi => by
    obtain ⟨k, hk, e⟩ := mxTo_mem lo h0 i hi
    rw [e, show lo.getD k 0 = lo[k] by simp [hk]]
    exact b1 _ (List.getElem_mem hk))
  have HLO : Hid (∀ i (h : i < lo.length), lo[i].natAbs < 10 ^ 8) := Lib.hid (fun i h => b1 _ (List.getElem_mem h))
  have HHI : Hid (∀ i (h : i < hi.length), hi[i].natAbs < 10 ^ 8) := Lib.hid (fun i h => b2 _ (List.getElem_mem h))
  have HWL := Lib.hid hl
  have HWH := Lib.hid hh
  obtain ⟨A, ca, rfl⟩ := hl.len
  obtain ⟨B, cb, rfl⟩ := hh.len
  have HBAD := Lib.hid (fun k (hk : k < hi.length) => leastV_bad (lo := lo) hk)
  have HGOOD := Lib.hid (leastV_good (lo := lo) (hi := hi))
  obtain ⟨ba, oa, rfl, hwa⟩ := hl.row 0 (by rw [hts_len]; exact h0)
  have c00 : w.cell? ⟨ba, oa + 0, none⟩ = some (.string (bs (R (hv (lo.getD 0 0))))) := by
    rw [hwa.val 0 (by rw [hts_len]; exact h0)]
    simp [hts, h0]
  rw [Nat.add_zero] at c00
  generalize leastV lo hi = res at *
  rw [hts_len] at HWL
  rw [hts_len] at HWH
  rw [hts_len, hts_len]
  clear hl hh hg b1 b2 hwa
  have hl0 : (0 : Int) < (lo.length : Int) := by omega
  have hz : (0 : Int) ≤ 0 := by omega
  go_enter Tryz.func43, Tryz.ntmps43
  go_wp2
  go_loopw [6, 20] (fun bv iv wr => ∃ (i : Nat), iv = .int .i64 (i : Int) ∧ bv = .string (bs (R (hv (mxTo lo i)))) ∧ i ≤ lo.length ∧ Hid (Below w.heap.size w wr)) (fun _ iv _ => lo.length - (intOf iv).toNat)
  case atStart => exact ⟨0, rfl, by simp [mxTo, h0], by omega, Lib.hid (Below.refl _ _)⟩
  case round =>
    clear c00
    obtain ⟨i, rfl, rfl, hi2, hin⟩ := hrel
    by_cases hlt : i < lo.length
    · have HW2 := HWL.out
      have hlt' : i < (hts lo).length := by rw [hts_len]; exact hlt
      rw [← hts_len lo] at HW2
      obtain ⟨b1, o1, hab, hw⟩ := HW2.row i hlt'
      injection hab with hab
      injection hab with h1 h2 h3
      subst h1 h2
      have c0 := (hw.below' hin.out).val i hlt'
      rw [show (hts lo)[i] = R (hv lo[i]) by simp [hts]] at c0
      have HCC := Lib.hid (HC.out lo[i] (mxTo lo i) wr hin.out (HLO.out i hlt) (HMX.out i hi2))
      have HST : Hid (mxTo lo (i + 1) = max (mxTo lo i) lo[i]) := Lib.hid (by rw [mxTo, show lo.getD i 0 = lo[i] by simp [hlt]])
      have hcm : decide (0 < cmpQ (hv lo[i]) (hv (mxTo lo i))) = decide (mxTo lo i < lo[i]) := by rw [decide_eq_decide, cmpQ_gt]; exact hv_lt
      clear hw HW2 hlt' h3
      generalize mxTo lo i = mx at *
      generalize lo[i] = x at *
      generalize cmpQ (hv x) (hv mx) = cm at *
      have hi0 : (0 : Int) ≤ (i : Int) := by omega
      have hi1 : (i : Int) < (lo.length : Int) := by omega
      go_wp2_with fail
      refine HCC.out.mono ?_
      rintro e w1 ⟨rfl, hb1⟩
      have HB1 := Lib.hid (bel_to hin.out hb1)
      clear hb1 hin HCC
      by_cases hgt : mx < x
      · rw [decide_eq_true hgt] at hcm
        have he := HST.out
        rw [show max mx x = x by omega] at he
        go_wp2
        go_roundw
        case rel => exact ⟨i + 1, by go_num, by rw [he], by omega, HB1⟩
        case measure => simp [intOf]; omega
      · rw [decide_eq_false hgt] at hcm
        have he := HST.out
        rw [show max mx x = mx by omega] at he
        go_wp2
        go_roundw
        case rel => exact ⟨i + 1, by go_num, by rw [he], by omega, HB1⟩
        case measure => simp [intOf]; omega
    · obtain rfl : i = lo.length := by omega
      have hmx := HMX.out lo.length (Nat.le_refl _)
      have HGD := Lib.hid HGOOD.out
      have HBD := Lib.hid HBAD.out
      clear HMX HGOOD HBAD HLO HWL
      unfold mxZ at HGD HBD
      generalize mxTo lo lo.length = mx at *
      have HMX := Lib.hid hmx
      clear hmx
      go_wp2
      go_loopw [36] (fun jv wr => ∃ (j : Nat), jv = .int .i64 (j : Int) ∧ j ≤ hi.length ∧ Hid (Below w.heap.size w wr) ∧ Hid (∀ k (hk : k < hi.length), k < j → mx ≤ hi[k])) (fun jv _ => hi.length - (intOf jv).toNat)
      case atStart => exact ⟨0, rfl, by omega, hin, Lib.hid (fun k hk h => by omega)⟩
      case round =>
        clear hin
        obtain ⟨j, rfl, hj, hin, hall⟩ := hrel
        by_cases hlt : j < hi.length
        · have HW2 := HWH.out
          have hlt' : j < (hts hi).length := by rw [hts_len]; exact hlt
          rw [← hts_len hi] at HW2
          obtain ⟨b1, o1, rfl, hw⟩ := HW2.row j hlt'
          have c0 := (hw.below' hin.out).val j hlt'
          rw [show (hts hi)[j] = R (hv hi[j]) by simp [hts]] at c0
          have HCC := Lib.hid (HC.out hi[j] mx _ hin.out (HHI.out j hlt) HMX.out)
          have hcm : decide (cmpQ (hv hi[j]) (hv mx) < 0) = decide (hi[j] < mx) := by rw [decide_eq_decide, cmpQ_lt]; exact hv_lt
          have HB := Lib.hid (HBD.out j hlt)
          have HNX : Hid (mx ≤ hi[j] → ∀ k (hk : k < hi.length), k < j + 1 → mx ≤ hi[k]) := Lib.hid (fun h k hk h2 => by
            rcases Nat.lt_or_eq_of_le (Nat.le_of_lt_succ h2) with h3 | rfl
            · exact hall.out k hk h3
            · exact h)
          clear hw HW2 hlt' hall
          generalize hi[j] = x at *
          generalize cmpQ (hv x) (hv mx) = cm at *
          have hi0 : (0 : Int) ≤ (j : Int) := by omega
          have hi1 : (j : Int) < (hi.length : Int) := by omega
          go_wp2_with fail
          refine HCC.out.mono ?_
          rintro e w1 ⟨rfl, hb1⟩
          have HB1 := Lib.hid (bel_to hin.out hb1)
          clear hb1 hin HCC
          by_cases hgt : x < mx
          · rw [decide_eq_true hgt] at hcm
            obtain rfl := HB.out hgt
            go_wp2
            go_ret2
            exact ⟨rfl, HB1.out⟩
          · rw [decide_eq_false hgt] at hcm
            go_wp2
            go_roundw
            case rel => exact ⟨j + 1, by go_num, by omega, HB1, Lib.hid (HNX.out (by omega))⟩
            case measure => simp [intOf]; omega
        · obtain rfl : j = hi.length := by omega
          obtain rfl := HGD.out (fun k hk => hall.out k hk hk)
          clear hall HGD HBD
          go_wp2
          go_ret2
          exact ⟨rfl, hin.out⟩
end W
end Go.Proofs.YtnaikafamjebdaaGreatDoor
end
section
namespace Go.Proofs.YtnaikafamjebdaaGreatDoor
open Go Go.RowKit Go.Deep
namespace M
def mst (p : Tg × Cc) (k : Nat) : Int := if k = 0 then highX p else if k = 1 then -lowX p else if k = 2 then highY p else -lowY p
def endZ (k : Nat) (p : Tg × Cc) : Int := if k = 0 then highX p else if k = 1 then lowX p else if k = 2 then highY p else lowY p
theorem bnd4_len (t : Tg) (c : Cc) : (bx (bnd4 t c)).length = 4 := rfl
theorem bnd4_most (p : Tg × Cc) (k : Nat) (h : k < 4) (h2 : k < (bx (bnd4 p.1 p.2)).length) : ((bx (bnd4 p.1 p.2))[k]).2 = R (hv (mst p k)) := by
  have e : ∀ a b : Int, a = b → R ((a : Rat) / 2) = R (hv b) := fun a b h => by rw [h]; rfl
  match k, h with
  | 0, _ => exact e _ _ (by simp only [mst, highX]; rfl)
  | 1, _ => exact e _ _ (by simp only [mst, lowX]; simp; omega)
  | 2, _ => exact e _ _ (by simp only [mst, highY]; rfl)
  | 3, _ => exact e _ _ (by simp only [mst, lowY]; simp; omega)
theorem mst_end (p : Tg × Cc) (k : Nat) (h : k < 4) : (if k % 2 = 1 then -mst p k else mst p k) = endZ k p := by
  match k, h with
  | 0, _ => rfl
  | 1, _ => simp [mst, endZ]
  | 2, _ => rfl
  | 3, _ => simp [mst, endZ]
theorem hv_neg (z : Int) : -hv z = hv (-z) := by
  unfold hv
  rw [Rat.intCast_neg]
  grind
theorem end_bd {p : Tg × Cc} (h : RtH p) (k : Nat) : (mst p k).natAbs < 10 ^ 8 ∧ (endZ k p).natAbs < 10 ^ 8 := by
  have h1 := h.1.x
  have h2 := h.1.y
  have h3 := h.2.1.x
  have h4 := h.2.1.y
  have h5 := h.wide
  unfold mst endZ highX lowX highY lowY
  constructor <;> (repeat' split) <;> omega
def eL (pl : Pl) (i : Nat) (p : Tg × Cc) (j k : Nat) : List (List UInt8) := hts ((pl.take i).map (endZ k)) ++ if k < j then [R (hv (endZ k p))] else []
theorem eL_zero (pl : Pl) (i : Nat) (p : Tg × Cc) (k : Nat) : eL pl i p 0 k = hts ((pl.take i).map (endZ k)) := by
  unfold eL; rw [if_neg (by omega), List.append_nil]
theorem eL_four (pl : Pl) (i : Nat) (h : i < pl.length) (k : Nat) (hk : k < 4) : eL pl i pl[i] 4 k = hts ((pl.take (i + 1)).map (endZ k)) := by
  unfold eL hts
  rw [if_pos hk, List.take_add_one, List.getElem?_eq_getElem h, List.map_append, List.map_append]
  rfl
theorem eL_succ (pl : Pl) (i : Nat) (p : Tg × Cc) (j k : Nat) : (if k = j then eL pl i p j j ++ [R (hv (endZ j p))] else eL pl i p j k) = eL pl i p (j + 1) k := by
  unfold eL
  by_cases h : k = j
  · subst h
    rw [if_pos rfl, if_neg (by omega), if_pos (by omega), List.append_nil]
  · rw [if_neg h]
    by_cases h2 : k < j
    · rw [if_pos h2, if_pos (by omega)]
    · rw [if_neg h2, if_neg (by omega)]
end M
theorem run_app_at {w : World} {B : Nat} {v xv : Value} {l : List (List UInt8)} {q : List UInt8} (ty : TypeId) (h : OwnS w B v l) {A : Nat} (hxv : xv = .slice (some ⟨A, 0, none⟩) 1 1) (hsrc : w.cell? ⟨A, 0, none⟩ = some (.string (bs q))) (hB : B ≤ w.heap.size) (hn : l.length + 1 ≤ 1000000000) :
    ∃ v' w', (Builtin.append_ #[28, 28] ty #[v, xv]).run Tryz.prog w = .ok v' w' ∧ OwnS w' B v' (l ++ [q]) ∧ w.grownBy w' v.ownBlock ∧ (v'.ownBlock = v.ownBlock ∨ v'.ownBlock = some w.heap.size) := by
  obtain ⟨i, h1, h2, h3, h4⟩ := info_parts infoRt
  subst hxv
  have hadd : ∀ j, (⟨A, 0, none⟩ : Addr).add j = ⟨A, j, none⟩ := fun j => by unfold Addr.add; split <;> simp_all
  obtain ⟨v', w', k1, k2, k3, _, k5⟩ := run_append_own_at (P := Tryz.prog) w B _ ty _ i _ 1 16 Tryz.underlying28 h1 h2 h3 h4 rfl (by decide) v l.length (Strs l) h ⟨A, 0, none⟩ 1 1 (Strs [q]) rfl
    (fun j u hj => by
      rw [hadd]
      obtain rfl : j = 0 := by have := (List.getElem?_eq_some_iff.1 hj).1; simpa [Strs] using this
      rw [hsrc]
      simpa [Strs] using hj) (fun u hu => by simp [Strs] at hu; rw [hu]; rfl) (by unfold maxLen; omega) (by omega) hB
  refine ⟨v', w', k1, ?_, k3, k5⟩
  unfold OwnS
  rw [List.length_append, show Strs (l ++ [q]) = Strs l ++ Strs [q] by simp [Strs]]
  exact k2
theorem wpList_app_at {ops : Array Oper} {rest : List Oper} {o : Oper} {a : Act} {Q : Exit → Act → World → Prop} {w : World} {B : Nat} {v xv : Value} {l : List (List UInt8)} {q : List UInt8} {A : Nat} (hgd : o.guard = none) (s x : Operand)
    (ho : o.op = .call { callee := .builtin .append, args := #[s, x], argTypes := #[28, 28] }) (hs : a.eval s = v) (hx : a.eval x = xv)
    (h : OwnS w B v l) (hxv : xv = .slice (some ⟨A, 0, none⟩) 1 1) (hsrc : w.cell? ⟨A, 0, none⟩ = some (.string (bs q))) (hB : B ≤ w.heap.size) (hn : l.length + 1 ≤ 1000000000)
    (hK : ∀ v' w', OwnS w' B v' (l ++ [q]) → w.grownBy w' v.ownBlock → (v'.ownBlock = v.ownBlock ∨ v'.ownBlock = some w.heap.size) → wpList Tryz.prog ops Q rest (a.put o.dst v') w') : wpList Tryz.prog ops Q (o :: rest) a w :=
  wpList_plain hgd fun _ hK2 => by
    obtain ⟨v', w', hr, h2, h3, h4⟩ := run_app_at o.type h hxv hsrc hB hn
    unfold Oper.wp execOp
    simp only [ho, resolve, invoke, builtin, Sem.run_bind, Sem.run_pure, Result.andThen_ok, List.map_toArray, List.map_cons, List.map_nil, hs, hx, hr]
    exact hK2 _ _ (hK v' w' h2 h3 h4)
structure ES (w0 w : World) (v : Nat → Value) (l : Nat → List (List UInt8)) : Prop where
  row : Row w w0.heap.size 97 [v 0, v 1, v 2, v 3]
  own : ∀ k, k < 4 → OwnS w (w0.heap.size + 1) (v k) (l k)
  dis : ∀ i j, i < 4 → j < 4 → i ≠ j → (v i).ownBlock = none ∨ (v i).ownBlock ≠ (v j).ownBlock
  bel : Below w0.heap.size w0 w
theorem ES.to {w0 w w' : World} {v : Nat → Value} {l : Nat → List (List UInt8)} (h : ES w0 w v l) (hb : Below w.heap.size w w') : ES w0 w' v l :=
  ⟨h.row.below' hb, fun k hk => (h.own k hk).below hb, h.dis, bel_to h.bel hb⟩
theorem ES.cast {w0 w : World} {v : Nat → Value} {l l' : Nat → List (List UInt8)} (h : ES w0 w v l) (e : ∀ k, k < 4 → l k = l' k) : ES w0 w v l' :=
  ⟨h.row, fun k hk => by rw [← e k hk]; exact h.own k hk, h.dis, h.bel⟩
theorem ES.size {w0 w : World} {v : Nat → Value} {l : Nat → List (List UInt8)} (h : ES w0 w v l) : w0.heap.size + 1 ≤ w.heap.size := h.row.lt
theorem ES.new (w0 : World) : ES w0 (w0.alloc (.cells #[.slice none 0 0, .slice none 0 0, .slice none 0 0, .slice none 0 0] 97 (0, 0))) (fun _ => .slice none 0 0) (fun _ => []) :=
  ⟨rnw, fun _ _ => World.ownsRow_nil _ _ _ _, fun _ _ _ _ _ => Or.inl rfl, bel_al _ _⟩
theorem ES.cell {w0 w : World} {v : Nat → Value} {l : Nat → List (List UInt8)} (h : ES w0 w v l) {k : Nat} (hk : k < 4) : w.cell? ⟨w0.heap.size, k, none⟩ = some (v k) := by
  match k, hk with
  | 0, _ => exact h.row.cell (i := 0) rfl
  | 1, _ => exact h.row.cell (i := 1) rfl
  | 2, _ => exact h.row.cell (i := 2) rfl
  | 3, _ => exact h.row.cell (i := 3) rfl
theorem ES.grown_row {w0 w w' : World} {v : Nat → Value} {l : Nat → List (List UInt8)} (h : ES w0 w v l) {k : Nat} (hk : k < 4) (hg : w.grownBy w' (v k).ownBlock) : Row w' w0.heap.size 97 [v 0, v 1, v 2, v 3] :=
  row_grown h.row hg fun e => by
    have := (World.ownsRow.lt (h.own k hk) _ e.symm).1
    omega
theorem ES.put {w0 w w' : World} {v : Nat → Value} {l : Nat → List (List UInt8)} {k : Nat} {v' : Value} {l' : List (List UInt8)} (h : ES w0 w v l) (hk : k < 4) (ho : OwnS w' (w0.heap.size + 1) v' l') (hg : w.grownBy w' (v k).ownBlock)
    (hd : v'.ownBlock = (v k).ownBlock ∨ v'.ownBlock = some w.heap.size) : ES w0 (w'.setCell ⟨w0.heap.size, k, none⟩ v') (fun j => if j = k then v' else v j) (fun j => if j = k then l' else l j) := by
  have hr := h.grown_row hk hg
  have hlt : ∀ j, j < 4 → (v j).ownBlock ≠ some w.heap.size := fun j hj e => by
    have := (World.ownsRow.lt (h.own j hj) _ e).2
    omega
  refine ⟨?_, fun j hj => ?_, fun i j hi hj hij => ?_, ?_⟩
  · match k, hk with
    | 0, _ => exact hr.set 0 v'
    | 1, _ => exact hr.set 1 v'
    | 2, _ => exact hr.set 2 v'
    | 3, _ => exact hr.set 3 v'
  · by_cases e : j = k
    · subst e
      simp only [if_true]
      exact own_setS (by omega) ho
    · simp only [if_neg e]
      refine own_setS (by omega) ?_
      exact World.ownsRow.kept (h.own j hj) hg (h.dis j k hj hk e)
  · by_cases e : i = k
    · have e2 : j ≠ k := fun e2 => hij (e.trans e2.symm)
      simp only [if_pos e, if_neg e2]
      rcases hd with hd | hd
      · rw [hd]; exact h.dis k j hk hj (fun e3 => e2 e3.symm)
      · exact Or.inr (by rw [hd]; exact fun e3 => hlt j hj e3.symm)
    · simp only [if_neg e]
      by_cases e2 : j = k
      · simp only [if_pos e2]
        rcases hd with hd | hd
        · rw [hd]; exact h.dis i k hi hk e
        · exact Or.inr (by rw [hd]; exact hlt i hi)
      · simp only [if_neg e2]
        exact h.dis i j hi hj hij
  · have hb : Below w0.heap.size w0 w' := h.bel.grown hg h.bel.size fun b hb => by
      have := (World.ownsRow.lt (h.own k hk) b hb).1
      omega
    exact hb.setCell (p := ⟨w0.heap.size, k, none⟩) (Nat.le_refl _) v'
theorem row_grownT {w w' : World} {g B : Nat} {v : Value} {xs : List Value} {l : List (List UInt8)} (h : Row w g 51 xs) (ho : OwnS w B v l) (hg : w.grownBy w' v.ownBlock) : Row w' g 51 xs := by
  refine row_grown h hg ?_
  rcases ho.2 with ⟨hv, _⟩ | ⟨g2, cap, cur, hv, _, hh, _⟩
  · rw [hv]; intro e; cases e
  · rw [hv]
    intro e
    injection e with e
    simp only at e
    unfold Row at h
    rw [e, hh] at h
    injection h with h
    injection h with _ h _
    exact ratBound h
end Go.Proofs.YtnaikafamjebdaaGreatDoor
end
section
namespace Go.Proofs.YtnaikafamjebdaaGreatDoor
open Go Go.RowKit Go.Deep
namespace M
def shV (pl : Pl) : Value := if shOk pl = true then .tuple #[.bool true, .agg #[.string (bs (R (shX pl))), .string (bs (R (shY pl)))], .int .i64 0] else .tuple #[.bool false, .agg #[.string (bs []), .string (bs [])], .int .i64 0]
theorem endZ_fun : endZ 0 = highX ∧ endZ 1 = lowX ∧ endZ 2 = highY ∧ endZ 3 = lowY := ⟨rfl, rfl, rfl, rfl⟩
theorem all_map {α : Type _} (l : List α) (f : α → Int) (z : Int) : ((l.map f).all fun x => decide (z ≤ x)) = l.all fun p => decide (z ≤ f p) := by
  rw [List.all_map]; rfl
theorem shV_cases (pl : Pl) : ∃ sx a sy b, leastV (pl.map (endZ 1)) (pl.map (endZ 0)) = .tuple #[.string (bs sx), .bool a] ∧ leastV (pl.map (endZ 3)) (pl.map (endZ 2)) = .tuple #[.string (bs sy), .bool b] ∧
    shV pl = if (a && b) = true then .tuple #[.bool true, .agg #[.string (bs sx), .string (bs sy)], .int .i64 0] else .tuple #[.bool false, .agg #[.string (bs []), .string (bs [])], .int .i64 0] := by
  obtain ⟨e0, e1, e2, e3⟩ := endZ_fun
  rw [e0, e1, e2, e3]
  unfold leastV shV shOk shX shY
  rw [all_map, all_map]
  by_cases h1 : (pl.all fun p => decide (mxZ (pl.map lowX) ≤ highX p)) = true
  · rw [if_pos h1, h1]
    by_cases h2 : (pl.all fun p => decide (mxZ (pl.map lowY) ≤ highY p)) = true
    · rw [if_pos h2, h2]
      exact ⟨_, _, _, _, rfl, rfl, rfl⟩
    · rw [if_neg h2, Bool.eq_false_iff.2 h2]
      exact ⟨_, _, _, _, rfl, rfl, rfl⟩
  · rw [if_neg h1, Bool.eq_false_iff.2 h1]
    by_cases h2 : (pl.all fun p => decide (mxZ (pl.map lowY) ≤ highY p)) = true
    · rw [if_pos h2, h2]
      exact ⟨_, _, _, _, rfl, rfl, rfl⟩
    · rw [if_neg h2, Bool.eq_false_iff.2 h2]
      exact ⟨_, _, _, _, rfl, rfl, rfl⟩
end M
theorem row_ne {w : World} {a b : Nat} {t t' : TypeId} {xs ys : List Value} (h : Row w a t xs) (h2 : Row w b t' ys) (ht : t ≠ t') : a ≠ b := fun e => by
  unfold Row at h h2
  rw [e, h2] at h
  injection h with h
  injection h with _ h _
  exact ht h.symm
theorem eL_len (pl : M.Pl) (i : Nat) (p : M.Tg × M.Cc) (j k : Nat) : (M.eL pl i p j k).length ≤ pl.length + 1 := by
  unfold M.eL
  rw [List.length_append, M.hts_len, List.length_map, List.length_take]
  have : (if k < j then [M.R (M.hv (M.endZ k p))] else []).length ≤ 1 := by split <;> simp
  omega
theorem esput {w0 w w' : World} {v : Nat → Value} {pl : M.Pl} {i j g : Nat} {p : M.Tg × M.Cc} {v' : Value} {xs : List Value} (h : ES w0 w v (M.eL pl i p j)) (hk : j < 4) (hr : Row w g 51 xs) (ho : OwnS w' (w0.heap.size + 1) v' (M.eL pl i p j j ++ [M.R (M.hv (M.endZ j p))]))
    (hg : w.grownBy w' (v j).ownBlock) (hd : v'.ownBlock = (v j).ownBlock ∨ v'.ownBlock = some w.heap.size) :
    ES w0 (w'.setCell ⟨w0.heap.size, j, none⟩ v') (fun k => if k = j then v' else v k) (M.eL pl i p (j + 1)) ∧ Row (w'.setCell ⟨w0.heap.size, j, none⟩ v') g 51 xs :=
  ⟨(h.put hk ho hg hd).cast fun k _ => M.eL_succ pl i p j k, row_other (row_grownT hr (h.own j hk) hg) (row_ne hr h.row (by decide)) v'⟩
theorem esfree {w0 w w' : World} {v : Nat → Value} {l : Nat → List (List UInt8)} {j : Nat} (h : ES w0 w v l) (hk : j < 4) (hg : w.grownBy w' (v j).ownBlock) : w'.frozen? ⟨w0.heap.size, j, none⟩ = false := (h.grown_row hk hg).free j
theorem escell {w0 w w' : World} {v : Nat → Value} {l : Nat → List (List UInt8)} {j : Nat} (h : ES w0 w v l) (hk : j < 4) (hg : w.grownBy w' (v j).ownBlock) : w'.cell? ⟨w0.heap.size, j, none⟩ = some (v j) := by
  have hr := h.grown_row hk hg
  match j, hk with
  | 0, _ => exact hr.cell (i := 0) rfl
  | 1, _ => exact hr.cell (i := 1) rfl
  | 2, _ => exact hr.cell (i := 2) rfl
  | 3, _ => exact hr.cell (i := 3) rfl
theorem pl_store {w0 w : World} {A : Nat} {x0 y0 : Value} (x y : Value) (hr : Row w A 44 [x0, y0]) (hA : w0.heap.size ≤ A) (hb : Below w0.heap.size w0 w) :
    Row ((w.setCell ⟨A, 0, none⟩ x).setCell ⟨A, 1, none⟩ y) A 44 [x, y] ∧ Below w0.heap.size w0 ((w.setCell ⟨A, 0, none⟩ x).setCell ⟨A, 1, none⟩ y) :=
  ⟨(hr.set 0 x).set 1 y, (hb.setCell (p := ⟨A, 0, none⟩) hA x).setCell (p := ⟨A, 1, none⟩) hA y⟩
namespace W
open M
attribute [local go_sem] bs_size bs_toList bs_get bs_extract bs_append bs_lit0 bs_lit1 lit1_bs
set_option maxHeartbeats 2000000
set_option maxRecDepth 20000
theorem pshift_bad (vt vc : Value) (ts : List Tg) (cs : List Cc) (w : World) (hs : Sig w) (ht : RdG w vt ts) (hc : RdC w vc cs) (nt : ts.length ≤ maxLen) (nc : cs.length ≤ maxLen) (h : chk46 ts cs ≠ 0) :
    Calls Tryz.prog 16 #[vt, vc] w (Ret w (.tuple #[.bool false, .agg #[.string (bs []), .string (bs [])], .int .i64 ((chk46 ts cs : Nat) : Int)])) := by
  obtain ⟨At, ct, rfl⟩ := ht.len
  obtain ⟨Ac, cc, rfl⟩ := hc.len
  have hb0 := bel_al w (.cells #[.string ⟨#[]⟩, .string ⟨#[]⟩] 44 (0, 0))
  have hr0 : Row (w.alloc (.cells #[.string ⟨#[]⟩, .string ⟨#[]⟩] 44 (0, 0))) w.heap.size 44 [.string ⟨#[]⟩, .string ⟨#[]⟩] := rnw
  have HR0 := Lib.hid (And.intro hr0 hb0)
  have HP := Lib.hid (pplate_bad _ _ ts cs _ (hs.below hb0) (ht.below hb0) (hc.below hb0) nt nc h)
  have hz := nz_bne h
  generalize ((chk46 ts cs : Nat) : Int) = k at *
  clear h hs ht hc nt nc hr0 hb0
  go_enter Tryz.func16, Tryz.ntmps16
  go_wp2_with fail
  refine HP.out.mono ?_
  rintro e w1 ⟨rfl, hb1⟩
  have hb2 := bel_to hb1 (bel_al w1 (.cells #[.slice none 0 0, .slice none 0 0, .slice none 0 0] 72 (0, 0)))
  have hrw := HR0.out.1.below' hb2
  have f0 := hrw.free 0
  have f1 := (hrw.set 0 (.string ⟨#[]⟩)).free 1
  have c0 := hrw.cell (i := 0) rfl
  have c1 := (hrw.set 0 (.string ⟨#[]⟩)).cell (i := 1) rfl
  have HQ := Lib.hid (pl_store (.string ⟨#[]⟩) (.string ⟨#[]⟩) hrw (Nat.le_refl _) (bel_to HR0.out.2 hb2))
  clear hb1 hb2 hrw HR0 HP
  go_wp2
  have q0 := HQ.out.1.cell (i := 0) rfl
  have q1 := HQ.out.1.cell (i := 1) rfl
  refine bodyPost_ret (v := .tuple #[.bool false, .agg #[.string ⟨#[]⟩, .string ⟨#[]⟩], .int .i64 k]) (by simp [results, Tryz.results16, go_sem, q0, q1]) rfl ⟨rfl, HQ.out.2⟩
theorem pshift_ok (vt vc : Value) (ts : List Tg) (cs : List Cc) (w : World) (hg : Glob w) (hs : Sig w) (ht : RdG w vt ts) (hc : RdC w vc cs) (h : chk46 ts cs = 0) :
    Calls Tryz.prog 16 #[vt, vc] w (Ret w (shV (ts.zip cs))) := by
  obtain ⟨h1, h16, hlen, hrt⟩ := chk46_iff.1 h
  have hzl : (ts.zip cs).length = cs.length := by rw [List.length_zip]; omega
  have nt : ts.length ≤ maxLen := by unfold maxLen; omega
  have nc : cs.length ≤ maxLen := by unfold maxLen; omega
  have hb : ∀ (k : Nat) (hk : k < (ts.zip cs).length) (va : Value) (W : World) (_ : Below w.heap.size w W) (_ : RdI W va (zoneNs ts cs)), Calls Tryz.prog 41 #[.agg #[va, vt, vc], .int .i64 (k : Int)] W (fun e w' => ∃ v, e = .returned v ∧ IsBs (bx (bnd4 (ts.zip cs)[k].1 (ts.zip cs)[k].2)) w' v ∧ Below W.heap.size W w') := fun k hk va W hW ha => by
    have hk3 : k < cs.length := by omega
    have hk1 : k < (zoneNs ts cs).length := by rw [zoneNs_len hlen]; omega
    have hk2 : k < ts.length := by omega
    have e2 : (ts.zip cs)[k] = (ts[k], cs[k]) := by simp
    have hr := hrt (ts[k], cs[k]) (by rw [← e2]; exact List.getElem_mem hk)
    have hw := hr.wide
    have e : (zoneNs ts cs)[k] = wide ts[k] cs[k] := by simp [zoneNs]
    have h := pbounds va vt vc (zoneNs ts cs) ts cs k W (hg.of hW) ha (ht.below hW) (hc.below hW) hk1 hk2 hk3 (by rw [e]; simp only at hw; omega) hr.1 hr.2.1
    rw [e, bnd4_bx] at h
    rw [e2]
    exact h
  have HB := Lib.hid hb
  have HED := Lib.hid (fun i (hi : i < (ts.zip cs).length) => end_bd (hrt _ (List.getElem_mem hi)))
  have HNG := Lib.hid (fun (z : Int) W (hW : Below w.heap.size w W) (hz : z.natAbs < 10 ^ 8) => ratNeg (hv z) 8 W (hg.of hW) (hv_bq hz) (by decide))
  have HLE := Lib.hid (fun vl vh (a b : Nat) W (hW : Below w.heap.size w W) (hl : RdT W vl (hts ((ts.zip cs).map (endZ a)))) (hh : RdT W vh (hts ((ts.zip cs).map (endZ b)))) => pleast vl vh _ _ W (hg.of hW) hl hh (by rw [List.length_map]; omega) (by rw [List.length_map]; omega) (by rw [List.length_map]; omega)
    (fun z hz => by obtain ⟨p, hp, rfl⟩ := List.mem_map.1 hz; exact (end_bd (hrt p hp) a).2) (fun z hz => by obtain ⟨p, hp, rfl⟩ := List.mem_map.1 hz; exact (end_bd (hrt p hp) b).2))
  have hb0 := bel_al w (.cells #[.string ⟨#[]⟩, .string ⟨#[]⟩] 44 (0, 0))
  have hr0 : Row (w.alloc (.cells #[.string ⟨#[]⟩, .string ⟨#[]⟩] 44 (0, 0))) w.heap.size 44 [.string ⟨#[]⟩, .string ⟨#[]⟩] := rnw
  have HR0 := Lib.hid (And.intro hr0 hb0)
  obtain ⟨At, ct, rfl⟩ := ht.len
  obtain ⟨Ac, cc, rfl⟩ := hc.len
  have HP := Lib.hid (pplate_ok _ _ ts cs _ (hs.below hb0) (ht.below hb0) (hc.below hb0) nt nc h)
  obtain ⟨sx, ba, sy, bb, hlx, hly, hsv⟩ := shV_cases (ts.zip cs)
  have HLX := Lib.hid hlx
  have HLY := Lib.hid hly
  have HSV := Lib.hid hsv
  generalize shV (ts.zip cs) = res at *
  have HZL := Lib.hid hzl
  have H16 : Hid (cs.length ≤ 16) := Lib.hid (by omega)
  clear h hs ht hc nt nc hg hr0 hb0 hrt hb h1 hlx hly hsv h16 hlen hzl
  generalize ts.zip cs = pl at *
  go_enter Tryz.func16, Tryz.ntmps16
  go_wp2_with fail
  refine HP.out.mono ?_
  rintro e w1 ⟨va, rfl, hv, hb1⟩
  have hb2 := bel_to hb1 (bel_al w1 (.cells #[va, .slice At ts.length ct, .slice Ac cs.length cc] 72 (0, 0)))
  have hrp : Row (w1.alloc (.cells #[va, .slice At ts.length ct, .slice Ac cs.length cc] 72 (0, 0))) w1.heap.size 72 [va, .slice At ts.length ct, .slice Ac cs.length cc] := rnw
  have HR1 := Lib.hid (And.intro (HR0.out.1.below' hb2) (And.intro (bel_to HR0.out.2 hb2) (And.intro hrp (hv.below (bel_al w1 (.cells #[va, .slice At ts.length ct, .slice Ac cs.length cc] 72 (0, 0)))))))
  obtain ⟨Av, cv, rfl⟩ := hv.len
  generalize (zoneNs ts cs).length = nz at *
  clear hv hb1 hb2 HP HR0 hrp
  have p2 := ((HR1.out.2.2.1).below' (bel_al _ (.cells #[.slice none 0 0, .slice none 0 0, .slice none 0 0, .slice none 0 0] 97 (0, 0)))).cell (i := 2) rfl
  have hw0 : (w1.alloc (.cells #[.slice Av nz cv, .slice At ts.length ct, .slice Ac cs.length cc] 72 (0, 0))).heap.size = w1.heap.size + 1 := World.size_alloc _ _
  have HW0 := Lib.hid hw0
  clear hw0
  go_wp2_with fail
  generalize w1.alloc (.cells #[.slice Av nz cv, .slice At ts.length ct, .slice Ac cs.length cc] 72 (0, 0)) = W0 at *
  generalize w1.heap.size = bp at *
  rw [← HW0.out]
  clear HW0
  have HE0 := Lib.hid (ES.new W0)
  clear p2
  go_loopw [31] (fun iv wr => ∃ (i : Nat) (v : Nat → Value), iv = .int .i64 (i : Int) ∧ i ≤ cs.length ∧ Hid (ES W0 wr v (fun k => hts ((pl.take i).map (endZ k))))) (fun iv _ => cs.length - (intOf iv).toNat)
  case atStart => exact ⟨0, _, rfl, by omega, Lib.hid (HE0.out.cast fun k _ => rfl)⟩
  case round =>
    clear HE0
    obtain ⟨i, v, rfl, hi, hin⟩ := hrel
    by_cases hlt : i < cs.length
    · have hil : i < pl.length := by rw [HZL.out]; exact hlt
      have hrp := HR1.out.2.2.1.below' hin.out.bel
      have p0 := hrp.cell (i := 0) rfl
      have p1 := hrp.cell (i := 1) rfl
      have p2 := hrp.cell (i := 2) rfl
      have HBI := Lib.hid (HB.out i hil _ _ (bel_to HR1.out.2.1 hin.out.bel) (HR1.out.2.2.2.below hin.out.bel))
      have HEP := Lib.hid (HED.out i hil)
      have HL4 := Lib.hid (fun k (hk : k < 4) => eL_four pl i hil k hk)
      have HM4 := Lib.hid (fun k (hk : k < 4) => bnd4_most (pl[i]'hil) k hk)
      have HIN := Lib.hid (hin.out.cast (l' := eL pl i pl[i] 0) fun k _ => (eL_zero pl i pl[i] k).symm)
      clear hrp hin
      generalize pl[i] = p at *
      go_wp2_with fail
      refine HBI.out.mono ?_
      rintro e w5 ⟨vb, rfl, hbs, hb5⟩
      obtain ⟨es, he, hgt, g, rfl, hrow⟩ := hbs
      have hel : es.length = 4 := by
        have := congrArg List.length he
        rw [bnd4_len, List.length_map] at this
        exact this.symm
      have HIN5 : Hid (ES W0 w5 v (eL pl i p 0) ∧ Row w5 g 51 (bcs es)) := Lib.hid ⟨HIN.out.to hb5, hrow⟩
      have HBS := Lib.hid (fun j (hj : j < 4) => (by
        have hj2 : j < es.length := by rw [hel]; exact hj
        obtain ⟨B, h1⟩ := hgt _ (List.getElem_mem hj2)
        obtain ⟨A, n, c, h2⟩ := OwnS.shape h1
        refine ⟨A, n, c, ?_, ?_⟩
        · rw [(bcs_get es j hj2).1, h2]
        · rw [(bcs_get es j hj2).2]
          have h3 := HM4.out j hj (by rw [bnd4_len]; exact hj)
          have h4 : (bx (bnd4 p.1 p.2))[j]'(by rw [bnd4_len]; exact hj) = es[j].2 := by simp [he]
          rw [h4] at h3
          rw [h3] : ∃ A n c, (bcs es)[j * 2]? = some (.slice A n c) ∧ (bcs es)[j * 2 + 1]? = some (.string (bs (R (hv (mst p j)))))))
      rw [hel]
      clear hb5 hrow hgt he HIN HBI HM4 hel p0 p1 p2
      go_wp2_with fail
      go_loopw [38] (fun jv wr2 => ∃ (j : Nat) (v : Nat → Value), jv = .int .i64 (j : Int) ∧ j ≤ 4 ∧ Hid (ES W0 wr2 v (eL pl i p j) ∧ Row wr2 g 51 (bcs es))) (fun jv _ => 4 - (intOf jv).toNat)
      case atStart => exact ⟨0, v, rfl, by omega, HIN5⟩
      case round =>
        clear HIN5
        obtain ⟨j, v2, rfl, hj, hin⟩ := hrel
        by_cases hj4 : j < 4
        · obtain ⟨A, n, c, hc0, hc1⟩ := HBS.out j hj4
          have c0 := hin.out.2.cell hc0
          have c1 := hin.out.2.cell hc1
          have hj0 : (0 : Int) ≤ (j : Int) := by omega
          have hj1 : (j : Int) < 4 := by omega
          clear hc0 hc1
          have HIX : Hid (ES W0 (wr.alloc (.cells #[.slice A n c, .string (bs (R (hv (mst p j))))] 51 (0, 0))) v2 (eL pl i p j) ∧ Row (wr.alloc (.cells #[.slice A n c, .string (bs (R (hv (mst p j))))] 51 (0, 0))) g 51 (bcs es)) :=
            Lib.hid ⟨hin.out.1.to (bel_al _ _), hin.out.2.below' (bel_al _ _)⟩
          clear hin
          have HLN : Hid ((eL pl i p j j).length + 1 ≤ 1000000000) := Lib.hid (by
            have := eL_len pl i p j j
            have := H16.out
            have := HZL.out
            omega)
          by_cases hodd : j % 2 = 1
          · have hmod : Int.tmod (j : Int) 2 = 1 := by rw [Int.tmod_eq_emod_of_nonneg hj0]; omega
            have hme := mst_end p j hj4
            rw [if_pos hodd] at hme
            have hng := HNG.out (mst p j) _ (bel_to HR1.out.2.1 HIX.out.1.bel) (HEP.out j).1
            rw [hv_neg, hme] at hng
            have HN1 := Lib.hid hng
            clear hng hme hodd
            go_wp2_with fail
            refine HN1.out.mono ?_
            rintro e w6 ⟨rfl, hb6⟩
            have HI6 : Hid (ES W0 w6 v2 (eL pl i p j) ∧ Row w6 g 51 (bcs es)) := Lib.hid ⟨HIX.out.1.to hb6, HIX.out.2.below' hb6⟩
            clear hb6 HIX HN1 c0 c1 hmod
            have HI7 : Hid (ES W0 (w6.alloc (.cells #[.string (bs (R (hv (endZ j p))))] 26 (0, 0))) v2 (eL pl i p j) ∧ Row (w6.alloc (.cells #[.string (bs (R (hv (endZ j p))))] 26 (0, 0))) g 51 (bcs es)) := Lib.hid ⟨HI6.out.1.to (bel_al _ _), HI6.out.2.below' (bel_al _ _)⟩
            have c3 := HI6.out.1.cell hj4
            have HNC := Lib.hid ((rnw (w := w6) (t := 26) (xs := [.string (bs (R (hv (endZ j p))))])).cell (i := 0) rfl)
            clear HI6
            go_wp2_with (at_builtin; refine wpList_app_at rfl (.tmp 56) (.tmp 58) rfl rfl rfl (HI7.out.1.own j hj4) rfl HNC.out (Nat.le_trans HI7.out.1.size (Nat.le_refl _)) HLN.out ?_; intro v9 w9 ho9 hk9 hd9; obtain ⟨A9, n9, c9, rfl⟩ := OwnS.shape ho9; have HPU := Lib.hid (esput HI7.out.1 hj4 HI7.out.2 ho9 hk9 hd9); have f9 := esfree HI7.out.1 hj4 hk9; have c9 := escell HI7.out.1 hj4 hk9; clear ho9 hk9 hd9)
            go_wp2
            go_roundw
            case rel => exact ⟨j + 1, _, by go_num, by omega, HPU⟩
            case measure => simp [intOf]; omega
          · have hmod : Int.tmod (j : Int) 2 = 0 := by rw [Int.tmod_eq_emod_of_nonneg hj0]; omega
            have hme := mst_end p j hj4
            rw [if_neg hodd] at hme
            rw [hme] at c1 HIX
            clear hme hodd
            have HI7 := Lib.hid (And.intro (HIX.out.1.to (bel_al _ (.cells #[.string (bs (R (hv (endZ j p))))] 26 (0, 0)))) (HIX.out.2.below' (bel_al _ (.cells #[.string (bs (R (hv (endZ j p))))] 26 (0, 0)))))
            have c3 := HIX.out.1.cell hj4
            have hnc := (rnw (w := wr.alloc (.cells #[.slice A n c, .string (bs (R (hv (endZ j p))))] 51 (0, 0))) (t := 26) (xs := [.string (bs (R (hv (endZ j p))))])).cell (i := 0) rfl
            rw [World.size_alloc] at hnc
            have HNC := Lib.hid hnc
            clear hnc
            clear HIX
            go_wp2_with (at_builtin; refine wpList_app_at rfl (.tmp 56) (.tmp 58) rfl rfl rfl (HI7.out.1.own j hj4) rfl HNC.out (Nat.le_trans HI7.out.1.size (Nat.le_refl _)) HLN.out ?_; intro v9 w9 ho9 hk9 hd9; obtain ⟨A9, n9, c9, rfl⟩ := OwnS.shape ho9; have HPU := Lib.hid (esput HI7.out.1 hj4 HI7.out.2 ho9 hk9 hd9); have f9 := esfree HI7.out.1 hj4 hk9; have c9 := escell HI7.out.1 hj4 hk9; clear ho9 hk9 hd9)
            go_wp2
            go_roundw
            case rel => exact ⟨j + 1, _, by go_num, by omega, HPU⟩
            case measure => simp [intOf]; omega
        · obtain rfl : j = 4 := by omega
          have HX := Lib.hid (hin.out.1.cast fun k hk => HL4.out k hk)
          have h16 := H16.out
          clear hin
          go_wp2
          go_roundw
          case rel => exact ⟨i + 1, v2, by go_num, by omega, HX⟩
          case measure => simp [intOf]; omega
    · obtain rfl : i = cs.length := by omega
      have hx := hin.out
      rw [show pl.take cs.length = pl by rw [← HZL.out, List.take_length]] at hx
      have HX := Lib.hid hx
      have c1 := hx.cell (k := 1) (by decide)
      have c0 := hx.cell (k := 0) (by decide)
      have hl := HLE.out (v 1) (v 0) 1 0 _ (bel_to HR1.out.2.1 hx.bel) (hx.own 1 (by decide)).rd (hx.own 0 (by decide)).rd
      rw [HLX.out] at hl
      have HL1 := Lib.hid hl
      clear hin hx hl HLX
      go_wp2_with fail
      refine HL1.out.mono ?_
      rintro e w6 ⟨rfl, hb6⟩
      have hx := HX.out.to hb6
      have HX6 := Lib.hid hx
      have c3 := hx.cell (k := 3) (by decide)
      have c2 := hx.cell (k := 2) (by decide)
      have hl := HLE.out (v 3) (v 2) 3 2 _ (bel_to HR1.out.2.1 hx.bel) (hx.own 3 (by decide)).rd (hx.own 2 (by decide)).rd
      rw [HLY.out] at hl
      have HL2 := Lib.hid hl
      clear hx hl HLY HL1 hb6 HX c0 c1
      go_wp2_with fail
      refine HL2.out.mono ?_
      rintro e w7 ⟨rfl, hb7⟩
      have hb := bel_to HX6.out.bel hb7
      have hrw := HR1.out.1.below' hb
      have hbw := bel_to HR1.out.2.1 hb
      have HR7 := Lib.hid (And.intro hrw hbw)
      clear hb hb7 HL2 HX6 c2 c3
      have f0 := hrw.free 0
      have d0 := hrw.cell (i := 0) rfl
      cases ba <;> cases bb
      · obtain rfl := HSV.out.trans (if_neg (by decide))
        have f1 := (hrw.set 0 (.string ⟨#[]⟩)).free 1
        have d1 := (hrw.set 0 (.string ⟨#[]⟩)).cell (i := 1) rfl
        have HQ := Lib.hid (pl_store (.string ⟨#[]⟩) (.string ⟨#[]⟩) hrw (Nat.le_refl _) hbw)
        clear hrw hbw HR7
        go_wp2
        have q0 := HQ.out.1.cell (i := 0) rfl
        have q1 := HQ.out.1.cell (i := 1) rfl
        refine bodyPost_ret (v := .tuple #[.bool false, .agg #[.string ⟨#[]⟩, .string ⟨#[]⟩], .int .i64 0]) (by simp [results, Tryz.results16, go_sem, q0, q1]) rfl ⟨rfl, HQ.out.2⟩
      · obtain rfl := HSV.out.trans (if_neg (by decide))
        have f1 := (hrw.set 0 (.string ⟨#[]⟩)).free 1
        have d1 := (hrw.set 0 (.string ⟨#[]⟩)).cell (i := 1) rfl
        have HQ := Lib.hid (pl_store (.string ⟨#[]⟩) (.string ⟨#[]⟩) hrw (Nat.le_refl _) hbw)
        clear hrw hbw HR7
        go_wp2
        have q0 := HQ.out.1.cell (i := 0) rfl
        have q1 := HQ.out.1.cell (i := 1) rfl
        refine bodyPost_ret (v := .tuple #[.bool false, .agg #[.string ⟨#[]⟩, .string ⟨#[]⟩], .int .i64 0]) (by simp [results, Tryz.results16, go_sem, q0, q1]) rfl ⟨rfl, HQ.out.2⟩
      · obtain rfl := HSV.out.trans (if_neg (by decide))
        have f1 := (hrw.set 0 (.string ⟨#[]⟩)).free 1
        have d1 := (hrw.set 0 (.string ⟨#[]⟩)).cell (i := 1) rfl
        have HQ := Lib.hid (pl_store (.string ⟨#[]⟩) (.string ⟨#[]⟩) hrw (Nat.le_refl _) hbw)
        clear hrw hbw HR7
        go_wp2
        have q0 := HQ.out.1.cell (i := 0) rfl
        have q1 := HQ.out.1.cell (i := 1) rfl
        refine bodyPost_ret (v := .tuple #[.bool false, .agg #[.string ⟨#[]⟩, .string ⟨#[]⟩], .int .i64 0]) (by simp [results, Tryz.results16, go_sem, q0, q1]) rfl ⟨rfl, HQ.out.2⟩
      · obtain rfl := HSV.out.trans (if_pos rfl)
        have f1 := (hrw.set 0 (.string (bs sx))).free 1
        have d1 := (hrw.set 0 (.string (bs sx))).cell (i := 1) rfl
        have HQ := Lib.hid (pl_store (.string (bs sx)) (.string (bs sy)) hrw (Nat.le_refl _) hbw)
        clear hrw hbw HR7
        go_wp2
        have q0 := HQ.out.1.cell (i := 0) rfl
        have q1 := HQ.out.1.cell (i := 1) rfl
        refine bodyPost_ret (v := .tuple #[.bool true, .agg #[.string (bs sx), .string (bs sy)], .int .i64 0]) (by simp [results, Tryz.results16, go_sem, q0, q1]) rfl ⟨rfl, HQ.out.2⟩
end W
end Go.Proofs.YtnaikafamjebdaaGreatDoor
end
