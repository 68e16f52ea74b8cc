/-
  Chapter 35, the reference: 'Verify'. (Printed by wip/yl.py.)
  Chapter 35: two lists of ints that grow; the indices of contacts.
  Chapter 35: arguments that are lists of points, annuli, points.
-/
import Derived.Test.YtijpgddpejiohaaGreatDoorKR
import Derived.Test.YtijpgddpejiohaaGreatDoorKH
import Derived.Lib.SmallJoins
import Derived.Deep.Strs
section
namespace Go.Proofs.YtijpgddpejiohaaGreatDoor
open Go Go.RowKit Go.Deep Go.Sort
namespace W
open M
attribute [local go_sem] bs_size bs_toList bs_get bs_extract bs_append bs_lit0 bs_lit1 lit1_bs
set_option maxHeartbeats 4000000
set_option maxRecDepth 20000
structure VfA (w : World) (vl vw : Value) (l : List PZ) (ws : List (List UInt8)) : Prop where
  hl : RdV w vl l
  hw : RdT w vw ws
  nl : l.length ≤ maxLen
  nw : ws.length ≤ 1000000
  sw : ∀ p ∈ ws, p.length ≤ 90000
theorem rverify35_A (vl vw : Value) (l : List PZ) (ws : List (List UInt8)) (z : ZT) (w : World) (h : VfA w vl vw l ws) (hgv : givP l ≠ 0) :
    Calls Tryz.prog 34 #[vl, zoV z, vw] w (Ret w (.int .i64 ((givP l : Nat) : Int))) := by
  have hg := fun W (hW : Below w.heap.size w W) => rgiven35 vl l W (h.hl.below hW) h.nl
  have hz : (((givP l : Nat) : Int) != 0) = true := by simp; exact hgv
  obtain ⟨A, ca, rfl⟩ := h.hl.len
  obtain ⟨B, cb, rfl⟩ := h.hw.len
  obtain ⟨⟨ta, tb⟩, tc, td⟩ := z
  unfold zoV
  simp only
  clear h hgv
  generalize ((givP l : Nat) : Int) = x at *
  have HG := Lib.hid hg
  clear hg
  have HR := Lib.hid (And.intro (rnw (w := w) (t := 47) (xs := [.string (bs ta), .string (bs tb), .string (bs tc), .string (bs td)])) (bel_alloc (Below.refl w.heap.size w) (.cells #[.string (bs ta), .string (bs tb), .string (bs tc), .string (bs td)] 47 (0, 0))))
  go_enter Tryz.func34, Tryz.ntmps34
  go_wp2_with fail
  refine (HG.out _ HR.out.2).mono ?_
  rintro e w1 ⟨rfl, hb1⟩
  go_wp2
  go_ret
  exact Ret.of rfl (bel_to HR.out.2 hb1)
theorem rverify35_B (vl vw : Value) (l : List PZ) (ws : List (List UInt8)) (z : ZT) (w : World) (h : VfA w vl vw l ws) (hgv : givP l = 0) (l1 : z.1.1.length ≤ 90000) (l2 : z.1.2.length ≤ 90000) (l3 : z.2.1.length ≤ 90000) (l4 : z.2.2.length ≤ 90000) (hc : chkRs [z.1.1, z.1.2, z.2.1, z.2.2] ≠ 0) :
    Calls Tryz.prog 34 #[vl, zoV z, vw] w (Ret w (.int .i64 ((chkRs [z.1.1, z.1.2, z.2.1, z.2.2] : Nat) : Int))) := by
  have hg := fun W (hW : Below w.heap.size w W) => rgiven35 vl l W (h.hl.below hW) h.nl
  rw [hgv] at hg
  have hck := fun W => rcheck35_bad z W l1 l2 l3 l4 hc
  have hz : (((chkRs [z.1.1, z.1.2, z.2.1, z.2.2] : Nat) : Int) != 0) = true := by simp; exact hc
  obtain ⟨A, ca, rfl⟩ := h.hl.len
  obtain ⟨B, cb, rfl⟩ := h.hw.len
  clear h hgv hc l1 l2 l3 l4
  generalize ((chkRs [z.1.1, z.1.2, z.2.1, z.2.2] : Nat) : Int) = x at *
  obtain ⟨⟨ta, tb⟩, tc, td⟩ := z
  unfold zoV at *
  simp only at *
  have HG := Lib.hid hg
  have HC := Lib.hid hck
  clear hg hck
  have HR := Lib.hid (And.intro (rnw (w := w) (t := 47) (xs := [.string (bs ta), .string (bs tb), .string (bs tc), .string (bs td)])) (bel_alloc (Below.refl w.heap.size w) (.cells #[.string (bs ta), .string (bs tb), .string (bs tc), .string (bs td)] 47 (0, 0))))
  go_enter Tryz.func34, Tryz.ntmps34
  go_wp2_with fail
  refine (HG.out _ HR.out.2).mono ?_
  rintro e w1 ⟨rfl, hb1⟩
  have H1 := Lib.hid (And.intro (HR.out.1.below' hb1) (bel_to HR.out.2 hb1))
  clear hb1 HR HG
  have q0 := H1.out.1.cell (i := 0) rfl
  have q1 := H1.out.1.cell (i := 1) rfl
  have q2 := H1.out.1.cell (i := 2) rfl
  have q3 := H1.out.1.cell (i := 3) rfl
  go_wp2_with fail
  refine (HC.out _).mono ?_
  rintro e w2 ⟨rfl, hb2⟩
  go_wp2
  go_ret
  exact Ret.of rfl (bel_to H1.out.2 hb2)
theorem rverify35_C (vl vw : Value) (l : List PZ) (ws : List (List UInt8)) (c : Rat × Rat) (i o : Rat) (w : World) (h : VfA w vl vw l ws) (hgv : givP l = 0) (b1 : Bq 30 c.1) (b2 : Bq 30 c.2) (b3 : Bq 30 i) (b4 : Bq 30 o) (ho : i < 0 ∨ o < i) :
    Calls Tryz.prog 34 #[vl, zoV (zoQ c i o), vw] w (Ret w (.int .i64 9)) := by
  have hg := fun W (hW : Below w.heap.size w W) => rgiven35 vl l W (h.hl.below hW) h.nl
  rw [hgv] at hg
  have hck := fun W => rcheck35_ok c i o 30 W b1 b2 b3 b4 (by decide) (by decide)
  simp only [if_pos ho] at hck
  obtain ⟨A, ca, rfl⟩ := h.hl.len
  obtain ⟨B, cb, rfl⟩ := h.hw.len
  unfold zoV zoQ ceQ at *
  simp only at *
  clear h hgv b1 b2 b3 b4 ho
  generalize R c.1 = ta at *
  generalize R c.2 = tb at *
  generalize R i = tc at *
  generalize R o = td at *
  have HG := Lib.hid hg
  have HC := Lib.hid hck
  clear hg hck
  have HR := Lib.hid (And.intro (rnw (w := w) (t := 47) (xs := [.string (bs ta), .string (bs tb), .string (bs tc), .string (bs td)])) (bel_alloc (Below.refl w.heap.size w) (.cells #[.string (bs ta), .string (bs tb), .string (bs tc), .string (bs td)] 47 (0, 0))))
  go_enter Tryz.func34, Tryz.ntmps34
  go_wp2_with fail
  refine (HG.out _ HR.out.2).mono ?_
  rintro e w1 ⟨rfl, hb1⟩
  have H1 := Lib.hid (And.intro (HR.out.1.below' hb1) (bel_to HR.out.2 hb1))
  clear hb1 HR HG
  have q0 := H1.out.1.cell (i := 0) rfl
  have q1 := H1.out.1.cell (i := 1) rfl
  have q2 := H1.out.1.cell (i := 2) rfl
  have q3 := H1.out.1.cell (i := 3) rfl
  go_wp2_with fail
  refine (HC.out _).mono ?_
  rintro e w2 ⟨rfl, hb2⟩
  have H2 := Lib.hid (And.intro (H1.out.1.below' hb2) (bel_to H1.out.2 hb2))
  clear hb2 H1 HC q0 q1 q2 q3
  go_wp2
  go_ret
  exact Ret.of rfl H2.out.2
theorem rverify35_D (vl vw : Value) (l : List PZ) (ws : List (List UInt8)) (c : Rat × Rat) (i o : Rat) (w : World) (h : VfA w vl vw l ws) (hgv : givP l = 0) (b1 : Bq 30 c.1) (b2 : Bq 30 c.2) (b3 : Bq 30 i) (b4 : Bq 30 o) (ho : ¬ (i < 0 ∨ o < i)) (hlen : ws.length ≠ l.length) :
    Calls Tryz.prog 34 #[vl, zoV (zoQ c i o), vw] w (Ret w (.int .i64 8)) := by
  have hg := fun W (hW : Below w.heap.size w W) => rgiven35 vl l W (h.hl.below hW) h.nl
  rw [hgv] at hg
  have hck := fun W => rcheck35_ok c i o 30 W b1 b2 b3 b4 (by decide) (by decide)
  simp only [if_neg ho] at hck
  have hz : (((ws.length : Nat) : Int) != ((l.length : Nat) : Int)) = true := by simp; omega
  obtain ⟨A, ca, rfl⟩ := h.hl.len
  obtain ⟨B, cb, rfl⟩ := h.hw.len
  unfold zoV zoQ ceQ at *
  simp only at *
  clear h hgv b1 b2 b3 b4 ho hlen
  generalize R c.1 = ta at *
  generalize R c.2 = tb at *
  generalize R i = tc at *
  generalize R o = td at *
  have HG := Lib.hid hg
  have HC := Lib.hid hck
  clear hg hck
  have HR := Lib.hid (And.intro (rnw (w := w) (t := 47) (xs := [.string (bs ta), .string (bs tb), .string (bs tc), .string (bs td)])) (bel_alloc (Below.refl w.heap.size w) (.cells #[.string (bs ta), .string (bs tb), .string (bs tc), .string (bs td)] 47 (0, 0))))
  go_enter Tryz.func34, Tryz.ntmps34
  go_wp2_with fail
  refine (HG.out _ HR.out.2).mono ?_
  rintro e w1 ⟨rfl, hb1⟩
  have H1 := Lib.hid (And.intro (HR.out.1.below' hb1) (bel_to HR.out.2 hb1))
  clear hb1 HR HG
  have q0 := H1.out.1.cell (i := 0) rfl
  have q1 := H1.out.1.cell (i := 1) rfl
  have q2 := H1.out.1.cell (i := 2) rfl
  have q3 := H1.out.1.cell (i := 3) rfl
  go_wp2_with fail
  refine (HC.out _).mono ?_
  rintro e w2 ⟨rfl, hb2⟩
  have H2 := Lib.hid (And.intro (H1.out.1.below' hb2) (bel_to H1.out.2 hb2))
  clear hb2 H1 HC q0 q1 q2 q3
  go_wp2
  go_ret
  exact Ret.of rfl H2.out.2
theorem rverify35_E (vl vw : Value) (l : List PZ) (ws : List (List UInt8)) (c : Rat × Rat) (i o : Rat) (w : World) (h : VfA w vl vw l ws) (hgv : givP l = 0) (b1 : Bq 30 c.1) (b2 : Bq 30 c.2) (b3 : Bq 30 i) (b4 : Bq 30 o) (ho : ¬ (i < 0 ∨ o < i)) (hlen : ws.length = l.length) (hcw : chkRs ws ≠ 0) :
    Calls Tryz.prog 34 #[vl, zoV (zoQ c i o), vw] w (Ret w (.int .i64 ((chkRs ws : Nat) : Int))) := by
  have hg := fun W (hW : Below w.heap.size w W) => rgiven35 vl l W (h.hl.below hW) h.nl
  rw [hgv] at hg
  have hck := fun W => rcheck35_ok c i o 30 W b1 b2 b3 b4 (by decide) (by decide)
  simp only [if_neg ho] at hck
  obtain ⟨n, hn⟩ : ∃ n, n = l.length := ⟨_, rfl⟩
  have hwl : ws.length = n := by rw [hn]; exact hlen
  have HWW := Lib.hid (fun W (hW : Below w.heap.size w W) => h.hw.below hW)
  have HSW := Lib.hid h.sw
  obtain ⟨A, ca, rfl⟩ := h.hl.len
  obtain ⟨B, cb, rfl⟩ := h.hw.len
  unfold zoV zoQ ceQ at *
  simp only at *
  have hnb : n ≤ 1000000 := by rw [← hwl]; exact h.nw
  rw [hwl] at HWW ⊢
  have HLEN := Lib.hid hwl
  have HNL := Lib.hid hn
  rw [← hn] at hg ⊢
  have HCW := Lib.hid hcw
  generalize hrs : ((chkRs ws : Nat) : Int) = rs
  have HRS := Lib.hid hrs
  clear h hgv b1 b2 b3 b4 ho hlen hwl hn hcw hrs
  generalize R c.1 = ta at *
  generalize R c.2 = tb at *
  generalize R i = tc at *
  generalize R o = td at *
  have HG := Lib.hid hg
  have HC := Lib.hid hck
  clear hg hck
  have HR := Lib.hid (And.intro (rnw (w := w) (t := 47) (xs := [.string (bs ta), .string (bs tb), .string (bs tc), .string (bs td)])) (bel_alloc (Below.refl w.heap.size w) (.cells #[.string (bs ta), .string (bs tb), .string (bs tc), .string (bs td)] 47 (0, 0))))
  go_enter Tryz.func34, Tryz.ntmps34
  go_wp2_with fail
  refine (HG.out _ HR.out.2).mono ?_
  rintro e w1 ⟨rfl, hb1⟩
  have H1 := Lib.hid (And.intro (HR.out.1.below' hb1) (bel_to HR.out.2 hb1))
  clear hb1 HR HG
  have q0 := H1.out.1.cell (i := 0) rfl
  have q1 := H1.out.1.cell (i := 1) rfl
  have q2 := H1.out.1.cell (i := 2) rfl
  have q3 := H1.out.1.cell (i := 3) rfl
  go_wp2_with fail
  refine (HC.out _).mono ?_
  rintro e w2 ⟨rfl, hb2⟩
  have H2 := Lib.hid (And.intro (H1.out.1.below' hb2) (bel_to H1.out.2 hb2))
  clear hb2 H1 HC q0 q1 q2 q3
  go_wp2
  go_loopw [9] (fun iv wr => ∃ j : Nat, iv = .int .i64 (j : Int) ∧ j ≤ n ∧ Hid (chkRs ws = chkRs (ws.drop j)) ∧ Hid (Row wr w.heap.size 47 [.string (bs ta), .string (bs tb), .string (bs tc), .string (bs td)] ∧ Below w.heap.size w wr)) (fun iv _ => n - (intOf iv).toNat)
  case atStart => exact ⟨0, rfl, by omega, (rfl : chkRs ws = chkRs (ws.drop 0)), H2⟩
  case round =>
    clear H2
    obtain ⟨j, rfl, hj, hk, hin⟩ := hrel
    by_cases hlt : j < n
    · have hjw : j < ws.length := by rw [HLEN.out]; exact hlt
      have hrw := HWW.out _ hin.out.2
      rw [show n = ws.length from HLEN.out.symm] at hrw
      obtain ⟨b2, o2, rfl, hw⟩ := hrw.row j hjw
      have cv := hw.val j hjw
      have hk2 := hk.out
      rw [chkRs_drop ws j hjw] at hk2
      have HP := Lib.hid (fun W => check2_any ws[j] W (HSW.out _ (List.getElem_mem hjw)))
      have hj1 : (j : Int) < (n : Int) := by omega
      clear hk hw hrw
      generalize ws[j] = x at *
      by_cases hc : chkR x = 0
      · rw [if_pos hc] at hk2
        rw [hc] at HP
        have HK := Lib.hid hk2
        clear hk2 hc
        go_wp2_with fail
        refine (HP.out _).mono ?_
        rintro e w3 ⟨rfl, hb3⟩
        have H3 := Lib.hid (And.intro (hin.out.1.below' hb3) (bel_to hin.out.2 hb3))
        clear hb3 hin HP cv
        go_wp2
        go_roundw
        case rel => exact ⟨j + 1, by go_num, by omega, HK, H3⟩
        case measure => simp [intOf]; omega
      · rw [if_neg hc] at hk2
        have hz : (((chkR x : Nat) : Int) != 0) = true := by simp; exact hc
        have HK := Lib.hid hk2
        clear hk2 hc
        generalize hcc : ((chkR x : Nat) : Int) = c at *
        have HCC := Lib.hid hcc
        clear hcc
        go_wp2_with fail
        refine (HP.out _).mono ?_
        rintro e w3 ⟨rfl, hb3⟩
        have H3 := Lib.hid (bel_to hin.out.2 hb3)
        clear hb3 hin HP cv
        go_wp2
        go_ret
        exact Ret.of (by rw [← HRS.out, HK.out, HCC.out]; rfl) H3.out
    · obtain rfl : j = n := by omega
      have hk2 := hk.out
      rw [← HLEN.out, List.drop_length] at hk2
      exact absurd (hk2.trans rfl) HCW.out
theorem rverify35_F1 (vl vw : Value) (l : List PZ) (wq : List Rat) (c : Rat × Rat) (i o : Rat) (w : World) (h : VfA w vl vw l (rx wq)) (hgv : givP l = 0) (b1 : Bq 30 c.1) (b2 : Bq 30 c.2) (b3 : Bq 30 i) (b4 : Bq 30 o) (ho : ¬ (i < 0 ∨ o < i)) (hlen : wq.length = l.length) (hl8 : l.length ≤ 8) (hwb : ∀ x ∈ wq, Bq 30 x) (hne : innQ l c ≠ i) :
    Calls Tryz.prog 34 #[vl, zoV (zoQ c i o), vw] w (Ret w (.int .i64 14)) := by
  obtain ⟨g1, g2, g3⟩ := givP_iff.1 hgv
  have hg := fun W (hW : Below w.heap.size w W) => rgiven35 vl l W (h.hl.below hW) h.nl
  rw [hgv] at hg
  have hck := fun W => rcheck35_ok c i o 30 W b1 b2 b3 b4 (by decide) (by decide)
  simp only [if_neg ho] at hck
  have har := fun W (hW : Below w.heap.size w W) => raround35 vl l c 30 W (h.hl.below hW) g2 g3 b1 b2 (by decide) (by decide) (by omega)
  obtain ⟨ws, hws⟩ : ∃ ws, ws = rx wq := ⟨_, rfl⟩
  have hcw : chkRs ws = 0 := by rw [hws]; exact chk_rx30 hwb
  have hwl0 : ws.length = l.length := by rw [hws, rx_len]; exact hlen
  have hni : (R (innQ l c) = R i) = False := eq_false (fun e => hne (R_inj e))
  rw [← hws] at h
  obtain ⟨n, hn⟩ : ∃ n, n = l.length := ⟨_, rfl⟩
  have hwl : ws.length = n := by rw [hn]; exact hwl0
  have HWW := Lib.hid (fun W (hW : Below w.heap.size w W) => h.hw.below hW)
  have HSW := Lib.hid h.sw
  obtain ⟨A, ca, rfl⟩ := h.hl.len
  obtain ⟨B, cb, rfl⟩ := h.hw.len
  unfold zoV zoQ ceV ceQ at *
  simp only at *
  have hnb : n ≤ 1000000 := by rw [← hwl]; exact h.nw
  rw [hwl] at HWW ⊢
  have HLEN := Lib.hid hwl
  have HNL := Lib.hid hn
  rw [← hn] at hg har ⊢
  have HCW := Lib.hid hcw
  have HAR := Lib.hid har
  clear h hgv b3 b4 ho hlen hwl hwl0 hn hcw hws har g1 g2 g3 hwb hl8 b1 b2
  clear hne
  generalize R (innQ l c) = si at *
  generalize R (outQ l c) = so at *
  generalize R c.1 = ta at *
  generalize R c.2 = tb at *
  generalize R i = tc at *
  generalize R o = td at *
  have HG := Lib.hid hg
  have HC := Lib.hid hck
  clear hg hck
  have HR := Lib.hid (And.intro (rnw (w := w) (t := 47) (xs := [.string (bs ta), .string (bs tb), .string (bs tc), .string (bs td)])) (bel_alloc (Below.refl w.heap.size w) (.cells #[.string (bs ta), .string (bs tb), .string (bs tc), .string (bs td)] 47 (0, 0))))
  go_enter Tryz.func34, Tryz.ntmps34
  go_wp2_with fail
  refine (HG.out _ HR.out.2).mono ?_
  rintro e w1 ⟨rfl, hb1⟩
  have H1 := Lib.hid (And.intro (HR.out.1.below' hb1) (bel_to HR.out.2 hb1))
  clear hb1 HR HG
  have q0 := H1.out.1.cell (i := 0) rfl
  have q1 := H1.out.1.cell (i := 1) rfl
  have q2 := H1.out.1.cell (i := 2) rfl
  have q3 := H1.out.1.cell (i := 3) rfl
  go_wp2_with fail
  refine (HC.out _).mono ?_
  rintro e w2 ⟨rfl, hb2⟩
  have H2 := Lib.hid (And.intro (H1.out.1.below' hb2) (bel_to H1.out.2 hb2))
  clear hb2 H1 HC q0 q1 q2 q3
  go_wp2
  go_loopw [9] (fun iv wr => ∃ j : Nat, iv = .int .i64 (j : Int) ∧ j ≤ n ∧ Hid (chkRs ws = chkRs (ws.drop j)) ∧ Hid (Row wr w.heap.size 47 [.string (bs ta), .string (bs tb), .string (bs tc), .string (bs td)] ∧ Below w.heap.size w wr)) (fun iv _ => n - (intOf iv).toNat)
  case atStart => exact ⟨0, rfl, by omega, (rfl : chkRs ws = chkRs (ws.drop 0)), H2⟩
  case round =>
    clear H2
    obtain ⟨j, rfl, hj, hk, hin⟩ := hrel
    by_cases hlt : j < n
    · have hjw : j < ws.length := by rw [HLEN.out]; exact hlt
      have hrw := HWW.out _ hin.out.2
      rw [show n = ws.length from HLEN.out.symm] at hrw
      obtain ⟨b2, o2, rfl, hw⟩ := hrw.row j hjw
      have cv := hw.val j hjw
      have hk2 := hk.out
      rw [chkRs_drop ws j hjw] at hk2
      have HP := Lib.hid (fun W => check2_any ws[j] W (HSW.out _ (List.getElem_mem hjw)))
      have hj1 : (j : Int) < (n : Int) := by omega
      clear hk hw hrw
      generalize ws[j] = x at *
      by_cases hc : chkR x = 0
      · rw [if_pos hc] at hk2
        rw [hc] at HP
        have HK := Lib.hid hk2
        clear hk2 hc
        go_wp2_with fail
        refine (HP.out _).mono ?_
        rintro e w3 ⟨rfl, hb3⟩
        have H3 := Lib.hid (And.intro (hin.out.1.below' hb3) (bel_to hin.out.2 hb3))
        clear hb3 hin HP cv
        go_wp2
        go_roundw
        case rel => exact ⟨j + 1, by go_num, by omega, HK, H3⟩
        case measure => simp [intOf]; omega
      · rw [if_neg hc] at hk2
        have hx := HCW.out
        rw [hk2] at hx
        exact absurd hx hc
    · obtain rfl : j = n := by omega
      have hk2 := hk.out
      rw [← HLEN.out, List.drop_length] at hk2
      clear hk hk2
      have m0 := cell_regrown (hin.out.1.cell (i := 0) rfl)
      have m1 := cell_regrown (hin.out.1.cell (i := 1) rfl)
      have m2 := cell_regrown (hin.out.1.cell (i := 2) rfl)
      have m3 := cell_regrown (hin.out.1.cell (i := 3) rfl)
      have k1 := reg_of (w := wr) (fun E hE => HAR.out E (bel_to hin.out.2 hE))
      have e1 : ∀ args w, (callFunc 80 args).run Tryz.prog w = .ok (.enter 80 args) w := enters_of Tryz.func80 (by kernel_rfl) rfl
      go_wp2_with fail
      refine wp_region_quiet_below (by kernel_rfl) (by kernel_rfl) ?_
      repeat (go_big_quiet_step (fail))
      go_big_quiet_step (exact k1 _ _)
      repeat (go_big_quiet_step (fail))
      refine wpQuiet_nil ?_
      intro W6 hw'
      have hb6 : Below wr.heap.size wr W6 := by obtain ⟨p, e⟩ := hw'; rw [e]; exact below_regrown wr p.d p.os
      clear hw'
      have H6 := Lib.hid (And.intro (hin.out.1.below' hb6) (bel_to hin.out.2 hb6))
      clear hb6 k1 e1 m0 m1 m2 m3 hin HAR
      go_wp2
      go_ret
      exact Ret.of rfl H6.out.2

theorem rverify35_F2 (vl vw : Value) (l : List PZ) (wq : List Rat) (c : Rat × Rat) (i o : Rat) (w : World) (h : VfA w vl vw l (rx wq)) (hgv : givP l = 0) (b1 : Bq 30 c.1) (b2 : Bq 30 c.2) (b3 : Bq 30 i) (b4 : Bq 30 o) (ho : ¬ (i < 0 ∨ o < i)) (hlen : wq.length = l.length) (hl8 : l.length ≤ 8) (hwb : ∀ x ∈ wq, Bq 30 x) (he : innQ l c = i) (hne : outQ l c ≠ o) :
    Calls Tryz.prog 34 #[vl, zoV (zoQ c i o), vw] w (Ret w (.int .i64 14)) := by
  obtain ⟨g1, g2, g3⟩ := givP_iff.1 hgv
  have hg := fun W (hW : Below w.heap.size w W) => rgiven35 vl l W (h.hl.below hW) h.nl
  rw [hgv] at hg
  have hck := fun W => rcheck35_ok c i o 30 W b1 b2 b3 b4 (by decide) (by decide)
  simp only [if_neg ho] at hck
  have har := fun W (hW : Below w.heap.size w W) => raround35 vl l c 30 W (h.hl.below hW) g2 g3 b1 b2 (by decide) (by decide) (by omega)
  obtain ⟨ws, hws⟩ : ∃ ws, ws = rx wq := ⟨_, rfl⟩
  have hcw : chkRs ws = 0 := by rw [hws]; exact chk_rx30 hwb
  have hwl0 : ws.length = l.length := by rw [hws, rx_len]; exact hlen
  have hni : (R (outQ l c) = R o) = False := eq_false (fun e => hne (R_inj e))
  rw [he] at har
  rw [← hws] at h
  obtain ⟨n, hn⟩ : ∃ n, n = l.length := ⟨_, rfl⟩
  have hwl : ws.length = n := by rw [hn]; exact hwl0
  have HWW := Lib.hid (fun W (hW : Below w.heap.size w W) => h.hw.below hW)
  have HSW := Lib.hid h.sw
  obtain ⟨A, ca, rfl⟩ := h.hl.len
  obtain ⟨B, cb, rfl⟩ := h.hw.len
  unfold zoV zoQ ceV ceQ at *
  simp only at *
  have hnb : n ≤ 1000000 := by rw [← hwl]; exact h.nw
  rw [hwl] at HWW ⊢
  have HLEN := Lib.hid hwl
  have HNL := Lib.hid hn
  rw [← hn] at hg har ⊢
  have HCW := Lib.hid hcw
  have HAR := Lib.hid har
  clear h hgv b3 b4 ho hlen hwl hwl0 hn hcw hws har g1 g2 g3 hwb hl8 b1 b2
  clear hne he
  generalize R (outQ l c) = so at *
  generalize R c.1 = ta at *
  generalize R c.2 = tb at *
  generalize R i = tc at *
  generalize R o = td at *
  have HG := Lib.hid hg
  have HC := Lib.hid hck
  clear hg hck
  have HR := Lib.hid (And.intro (rnw (w := w) (t := 47) (xs := [.string (bs ta), .string (bs tb), .string (bs tc), .string (bs td)])) (bel_alloc (Below.refl w.heap.size w) (.cells #[.string (bs ta), .string (bs tb), .string (bs tc), .string (bs td)] 47 (0, 0))))
  go_enter Tryz.func34, Tryz.ntmps34
  go_wp2_with fail
  refine (HG.out _ HR.out.2).mono ?_
  rintro e w1 ⟨rfl, hb1⟩
  have H1 := Lib.hid (And.intro (HR.out.1.below' hb1) (bel_to HR.out.2 hb1))
  clear hb1 HR HG
  have q0 := H1.out.1.cell (i := 0) rfl
  have q1 := H1.out.1.cell (i := 1) rfl
  have q2 := H1.out.1.cell (i := 2) rfl
  have q3 := H1.out.1.cell (i := 3) rfl
  go_wp2_with fail
  refine (HC.out _).mono ?_
  rintro e w2 ⟨rfl, hb2⟩
  have H2 := Lib.hid (And.intro (H1.out.1.below' hb2) (bel_to H1.out.2 hb2))
  clear hb2 H1 HC q0 q1 q2 q3
  go_wp2
  go_loopw [9] (fun iv wr => ∃ j : Nat, iv = .int .i64 (j : Int) ∧ j ≤ n ∧ Hid (chkRs ws = chkRs (ws.drop j)) ∧ Hid (Row wr w.heap.size 47 [.string (bs ta), .string (bs tb), .string (bs tc), .string (bs td)] ∧ Below w.heap.size w wr)) (fun iv _ => n - (intOf iv).toNat)
  case atStart => exact ⟨0, rfl, by omega, (rfl : chkRs ws = chkRs (ws.drop 0)), H2⟩
  case round =>
    clear H2
    obtain ⟨j, rfl, hj, hk, hin⟩ := hrel
    by_cases hlt : j < n
    · have hjw : j < ws.length := by rw [HLEN.out]; exact hlt
      have hrw := HWW.out _ hin.out.2
      rw [show n = ws.length from HLEN.out.symm] at hrw
      obtain ⟨b2, o2, rfl, hw⟩ := hrw.row j hjw
      have cv := hw.val j hjw
      have hk2 := hk.out
      rw [chkRs_drop ws j hjw] at hk2
      have HP := Lib.hid (fun W => check2_any ws[j] W (HSW.out _ (List.getElem_mem hjw)))
      have hj1 : (j : Int) < (n : Int) := by omega
      clear hk hw hrw
      generalize ws[j] = x at *
      by_cases hc : chkR x = 0
      · rw [if_pos hc] at hk2
        rw [hc] at HP
        have HK := Lib.hid hk2
        clear hk2 hc
        go_wp2_with fail
        refine (HP.out _).mono ?_
        rintro e w3 ⟨rfl, hb3⟩
        have H3 := Lib.hid (And.intro (hin.out.1.below' hb3) (bel_to hin.out.2 hb3))
        clear hb3 hin HP cv
        go_wp2
        go_roundw
        case rel => exact ⟨j + 1, by go_num, by omega, HK, H3⟩
        case measure => simp [intOf]; omega
      · rw [if_neg hc] at hk2
        have hx := HCW.out
        rw [hk2] at hx
        exact absurd hx hc
    · obtain rfl : j = n := by omega
      have hk2 := hk.out
      rw [← HLEN.out, List.drop_length] at hk2
      clear hk hk2
      have m0 := cell_regrown (hin.out.1.cell (i := 0) rfl)
      have m1 := cell_regrown (hin.out.1.cell (i := 1) rfl)
      have m2 := cell_regrown (hin.out.1.cell (i := 2) rfl)
      have m3 := cell_regrown (hin.out.1.cell (i := 3) rfl)
      have k1 := reg_of (w := wr) (fun E hE => HAR.out E (bel_to hin.out.2 hE))
      have e1 : ∀ args w, (callFunc 80 args).run Tryz.prog w = .ok (.enter 80 args) w := enters_of Tryz.func80 (by kernel_rfl) rfl
      go_wp2_with fail
      refine wp_region_quiet_below (by kernel_rfl) (by kernel_rfl) ?_
      repeat (go_big_quiet_step (fail))
      go_big_quiet_step (exact k1 _ _)
      repeat (go_big_quiet_step (fail))
      refine wpQuiet_nil ?_
      intro W6 hw'
      have hb6 : Below wr.heap.size wr W6 := by obtain ⟨p, e⟩ := hw'; rw [e]; exact below_regrown wr p.d p.os
      clear hw'
      have H6 := Lib.hid (And.intro (hin.out.1.below' hb6) (bel_to hin.out.2 hb6))
      clear hb6 k1 e1 m0 m1 m2 m3 hin HAR
      go_wp2
      go_ret
      exact Ret.of rfl H6.out.2

theorem rverify35_F3 (vl vw : Value) (l : List PZ) (wq : List Rat) (c : Rat × Rat) (i o : Rat) (w : World) (h : VfA w vl vw l (rx wq)) (hgv : givP l = 0) (b1 : Bq 30 c.1) (b2 : Bq 30 c.2) (b3 : Bq 30 i) (b4 : Bq 30 o) (ho : ¬ (i < 0 ∨ o < i)) (hlen : wq.length = l.length) (hl8 : l.length ≤ 8) (hwb : ∀ x ∈ wq, Bq 30 x) (he : innQ l c = i) (he2 : outQ l c = o) :
    Calls Tryz.prog 34 #[vl, zoV (zoQ c i o), vw] w (Ret w (.int .i64 (if prvB l wq (o - i) = true then 0 else 15))) := by
  obtain ⟨g1, g2, g3⟩ := givP_iff.1 hgv
  have hg := fun W (hW : Below w.heap.size w W) => rgiven35 vl l W (h.hl.below hW) h.nl
  rw [hgv] at hg
  have hck := fun W => rcheck35_ok c i o 30 W b1 b2 b3 b4 (by decide) (by decide)
  simp only [if_neg ho] at hck
  have har := fun W (hW : Below w.heap.size w W) => raround35 vl l c 30 W (h.hl.below hW) g2 g3 b1 b2 (by decide) (by decide) (by omega)
  obtain ⟨ws, hws⟩ : ∃ ws, ws = rx wq := ⟨_, rfl⟩
  have hcw : chkRs ws = 0 := by rw [hws]; exact chk_rx30 hwb
  have hwl0 : ws.length = l.length := by rw [hws, rx_len]; exact hlen
  rw [he, he2] at har
  have hls := fun W => rless02 o i W (b4.sh (by decide) (by decide)) (b3.sh (by decide) (by decide))
  have hpr := fun W (hW : Below w.heap.size w W) => rproves35 vl vw l wq (o - i) W (h.hl.below hW) (h.hw.below hW) g3 hwb hlen hl8
  rw [← hws] at h
  obtain ⟨n, hn⟩ : ∃ n, n = l.length := ⟨_, rfl⟩
  have hwl : ws.length = n := by rw [hn]; exact hwl0
  have HWW := Lib.hid (fun W (hW : Below w.heap.size w W) => h.hw.below hW)
  have HSW := Lib.hid h.sw
  obtain ⟨A, ca, rfl⟩ := h.hl.len
  obtain ⟨B, cb, rfl⟩ := h.hw.len
  unfold zoV zoQ ceV ceQ at *
  simp only at *
  have hnb : n ≤ 1000000 := by rw [← hwl]; exact h.nw
  rw [hwl] at HWW ⊢
  have HLEN := Lib.hid hwl
  have HNL := Lib.hid hn
  rw [← hn] at hg har ⊢
  have HCW := Lib.hid hcw
  have HAR := Lib.hid har
  rw [← hn, hwl] at hpr
  have hn2 := hn
  clear h hgv b3 b4 ho hlen hwl hwl0 hn hcw hws har g1 g2 g3 hwb hl8 b1 b2
  clear he he2
  clear hn2
  generalize prvB l wq (o - i) = pb at *
  generalize R (o - i) = sd at *
  generalize R c.1 = ta at *
  generalize R c.2 = tb at *
  generalize R i = tc at *
  generalize R o = td at *
  have HLS := Lib.hid hls
  have HPR := Lib.hid hpr
  clear hls hpr
  generalize hrs : (if pb = true then (0 : Int) else 15) = rs
  have HRS := Lib.hid hrs
  clear hrs
  have HG := Lib.hid hg
  have HC := Lib.hid hck
  clear hg hck
  have HR := Lib.hid (And.intro (rnw (w := w) (t := 47) (xs := [.string (bs ta), .string (bs tb), .string (bs tc), .string (bs td)])) (bel_alloc (Below.refl w.heap.size w) (.cells #[.string (bs ta), .string (bs tb), .string (bs tc), .string (bs td)] 47 (0, 0))))
  go_enter Tryz.func34, Tryz.ntmps34
  go_wp2_with fail
  refine (HG.out _ HR.out.2).mono ?_
  rintro e w1 ⟨rfl, hb1⟩
  have H1 := Lib.hid (And.intro (HR.out.1.below' hb1) (bel_to HR.out.2 hb1))
  clear hb1 HR HG
  have q0 := H1.out.1.cell (i := 0) rfl
  have q1 := H1.out.1.cell (i := 1) rfl
  have q2 := H1.out.1.cell (i := 2) rfl
  have q3 := H1.out.1.cell (i := 3) rfl
  go_wp2_with fail
  refine (HC.out _).mono ?_
  rintro e w2 ⟨rfl, hb2⟩
  have H2 := Lib.hid (And.intro (H1.out.1.below' hb2) (bel_to H1.out.2 hb2))
  clear hb2 H1 HC q0 q1 q2 q3
  go_wp2
  go_loopw [9] (fun iv wr => ∃ j : Nat, iv = .int .i64 (j : Int) ∧ j ≤ n ∧ Hid (chkRs ws = chkRs (ws.drop j)) ∧ Hid (Row wr w.heap.size 47 [.string (bs ta), .string (bs tb), .string (bs tc), .string (bs td)] ∧ Below w.heap.size w wr)) (fun iv _ => n - (intOf iv).toNat)
  case atStart => exact ⟨0, rfl, by omega, (rfl : chkRs ws = chkRs (ws.drop 0)), H2⟩
  case round =>
    clear H2
    obtain ⟨j, rfl, hj, hk, hin⟩ := hrel
    by_cases hlt : j < n
    · have hjw : j < ws.length := by rw [HLEN.out]; exact hlt
      have hrw := HWW.out _ hin.out.2
      rw [show n = ws.length from HLEN.out.symm] at hrw
      obtain ⟨b2, o2, rfl, hw⟩ := hrw.row j hjw
      have cv := hw.val j hjw
      have hk2 := hk.out
      rw [chkRs_drop ws j hjw] at hk2
      have HP := Lib.hid (fun W => check2_any ws[j] W (HSW.out _ (List.getElem_mem hjw)))
      have hj1 : (j : Int) < (n : Int) := by omega
      clear hk hw hrw
      generalize ws[j] = x at *
      by_cases hc : chkR x = 0
      · rw [if_pos hc] at hk2
        rw [hc] at HP
        have HK := Lib.hid hk2
        clear hk2 hc
        go_wp2_with fail
        refine (HP.out _).mono ?_
        rintro e w3 ⟨rfl, hb3⟩
        have H3 := Lib.hid (And.intro (hin.out.1.below' hb3) (bel_to hin.out.2 hb3))
        clear hb3 hin HP cv
        go_wp2
        go_roundw
        case rel => exact ⟨j + 1, by go_num, by omega, HK, H3⟩
        case measure => simp [intOf]; omega
      · rw [if_neg hc] at hk2
        have hx := HCW.out
        rw [hk2] at hx
        exact absurd hx hc
    · obtain rfl : j = n := by omega
      have hk2 := hk.out
      rw [← HLEN.out, List.drop_length] at hk2
      clear hk hk2
      have m0 := cell_regrown (hin.out.1.cell (i := 0) rfl)
      have m1 := cell_regrown (hin.out.1.cell (i := 1) rfl)
      have m2 := cell_regrown (hin.out.1.cell (i := 2) rfl)
      have m3 := cell_regrown (hin.out.1.cell (i := 3) rfl)
      have k1 := reg_of (w := wr) (fun E hE => HAR.out E (bel_to hin.out.2 hE))
      have e1 : ∀ args w, (callFunc 80 args).run Tryz.prog w = .ok (.enter 80 args) w := enters_of Tryz.func80 (by kernel_rfl) rfl
      go_wp2_with fail
      refine wp_region_quiet_below (by kernel_rfl) (by kernel_rfl) ?_
      repeat (go_big_quiet_step (fail))
      go_big_quiet_step (exact k1 _ _)
      repeat (go_big_quiet_step (fail))
      refine wpQuiet_nil ?_
      intro W6 hw'
      have hb6 : Below wr.heap.size wr W6 := by obtain ⟨p, e⟩ := hw'; rw [e]; exact below_regrown wr p.d p.os
      clear hw'
      have H6 := Lib.hid (And.intro (hin.out.1.below' hb6) (bel_to hin.out.2 hb6))
      clear hb6 k1 e1 m0 m1 m2 m3 hin HAR
      have q0 := H6.out.1.cell (i := 0) rfl
      have q1 := H6.out.1.cell (i := 1) rfl
      have q2 := H6.out.1.cell (i := 2) rfl
      have q3 := H6.out.1.cell (i := 3) rfl
      go_wp2_with fail
      refine (HLS.out _).mono ?_
      rintro e w7 ⟨rfl, hb7⟩
      have H7 := Lib.hid (And.intro (H6.out.1.below' hb7) (bel_to H6.out.2 hb7))
      clear hb7 H6 HLS q0 q1 q2 q3
      go_wp2_with fail
      refine (HPR.out _ H7.out.2).mono ?_
      rintro e w8 ⟨rfl, hb8⟩
      have H8 := Lib.hid (bel_to H7.out.2 hb8)
      clear hb8 H7 HPR
      cases pb with
      | false =>
        obtain rfl : 15 = rs := by rw [← HRS.out]; rfl
        clear HRS
        go_wp2
        go_ret
        exact Ret.of rfl H8.out
      | true =>
        obtain rfl : 0 = rs := by rw [← HRS.out]; rfl
        clear HRS
        go_wp2
        go_ret
        exact Ret.of rfl H8.out

end W
end Go.Proofs.YtijpgddpejiohaaGreatDoor
end
section
namespace Go.Proofs.YtijpgddpejiohaaGreatDoor
open Go Go.RowKit Go.Deep Go.Sort
abbrev IntD (l : List Int) : List Value := l.map fun z => .int .i64 z
def RdN (w : World) (v : Value) (l : List Int) : Prop := ∃ A cap, v = .slice A l.length cap ∧ (l = [] ∨ ∃ b o, A = some ⟨b, o, none⟩ ∧ b < w.heap.size ∧ ∀ i (h : i < l.length), w.cell? ⟨b, o + i, none⟩ = some (.int .i64 l[i]))
theorem RdN.below {w w' : World} {v : Value} {l : List Int} (h : RdN w v l) (hb : Below w.heap.size w w') : RdN w' v l := by
  obtain ⟨A, cap, e, h2⟩ := h
  refine ⟨A, cap, e, ?_⟩
  rcases h2 with h2 | ⟨b, o, e2, h3, h4⟩
  · exact Or.inl h2
  · exact Or.inr ⟨b, o, e2, Nat.lt_of_lt_of_le h3 hb.size, fun i hi => (hb.cell (by exact h3)).trans (h4 i hi)⟩
theorem RdN.len {w : World} {v : Value} {l : List Int} (h : RdN w v l) : ∃ A cap, v = .slice A l.length cap := by
  obtain ⟨A, cap, e, _⟩ := h; exact ⟨A, cap, e⟩
theorem RdN.row {w : World} {A : Option Addr} {n cap : Nat} {l : List Int} (h : RdN w (.slice A n cap) l) (i : Nat) (hi : i < l.length) : ∃ b o, A = some ⟨b, o, none⟩ ∧ b < w.heap.size ∧ ∀ i (h : i < l.length), w.cell? ⟨b, o + i, none⟩ = some (.int .i64 l[i]) := by
  obtain ⟨A', cap', e, h2⟩ := h
  injection e with e
  subst e
  exact h2.resolve_left (fun e => by rw [e] at hi; cases hi)
def OwnN (w : World) (B : Nat) (v : Value) (l : List Int) : Prop := w.ownsRow B 3 1 v l.length (IntD l)
theorem OwnN.rd {w : World} {B : Nat} {v : Value} {l : List Int} (h : OwnN w B v l) : RdN w v l := by
  obtain ⟨h1, h2⟩ := h
  rcases h2 with ⟨hv, hn⟩ | ⟨g, cap, cur, hv, hB, hh, hn, hm, hs, ht⟩
  · exact ⟨none, 0, by rw [hv, hn], Or.inl (List.length_eq_zero_iff.1 hn)⟩
  · refine ⟨_, _, hv, Or.inr ⟨g, 0, rfl, lt_of_block hh, fun i hi => ?_⟩⟩
    have e : (IntD l)[i]? = some (.int .i64 l[i]) := by simp [IntD, hi]
    rw [← ht, List.getElem?_take] at e
    split at e
    · simp [World.cell?, hh]; simpa using e
    · cases e
theorem OwnN.below {w w' : World} {B : Nat} {v : Value} {l : List Int} (h : OwnN w B v l) (hb : Below w.heap.size w w') : OwnN w' B v l :=
  World.ownsRow.kept (row := none) h ⟨hb.os, hb.tape, hb.output, hb.size, fun k hk _ => hb.block k hk⟩ (Classical.em _)
theorem OwnN.form' {w : World} {B : Nat} {v : Value} {l : List Int} (h : OwnN w B v l) : ∃ A c, v = .slice A l.length c := h.rd.len
theorem infoInN : (Tryz.prog.info? 3).map (fun i => (i.zero, i.size, i.bytes)) = some (some (.int .i64 0), 1, 8) := by kernel_rfl
theorem run_appN_at {w : World} {B : Nat} {v xv : Value} {l : List Int} {z : Int} (ty : TypeId) (h : OwnN w B v l) {A : Nat} (hxv : xv = .slice (some ⟨A, 0, none⟩) 1 1) (hsrc : w.cell? ⟨A, 0, none⟩ = some (.int .i64 z)) (hB : B ≤ w.heap.size) (hn : l.length + 1 ≤ 1000000000) :
    ∃ v' w', (Builtin.append_ #[50, 50] ty #[v, xv]).run Tryz.prog w = .ok v' w' ∧ OwnN w' B v' (l ++ [z]) ∧ w.grownBy w' v.ownBlock ∧ (v'.ownBlock = v.ownBlock ∨ v'.ownBlock = some w.heap.size) := by
  obtain ⟨i, h1, h2, h3, h4⟩ := info_parts infoInN
  subst hxv
  have hadd : ∀ j, (⟨A, 0, none⟩ : Addr).add j = ⟨A, j, none⟩ := fun j => by unfold Addr.add; split <;> simp_all
  obtain ⟨v', w', k1, k2, k3, _, k5⟩ := run_append_own_at (P := Tryz.prog) w B _ ty _ i _ 1 8 Tryz.underlying50 h1 h2 h3 h4 rfl (by decide) v l.length (IntD l) h ⟨A, 0, none⟩ 1 1 (IntD [z]) rfl
    (fun j u hj => by
      rw [hadd]
      obtain rfl : j = 0 := by have := (List.getElem?_eq_some_iff.1 hj).1; simpa [IntD] using this
      rw [hsrc]
      simpa [IntD] using hj) (fun u hu => by simp [IntD] at hu; rw [hu]; rfl) (by unfold maxLen; omega) (by omega) hB
  refine ⟨v', w', k1, ?_, k3, k5⟩
  unfold OwnN
  rw [List.length_append, show IntD (l ++ [z]) = IntD l ++ IntD [z] by simp [IntD]]
  exact k2
theorem wpList_appN_at {ops : Array Oper} {rest : List Oper} {o : Oper} {a : Act} {Q : Exit → Act → World → Prop} {w : World} {B : Nat} {v xv : Value} {l : List Int} {z : Int} {A : Nat} (hgd : o.guard = none) (s x : Operand)
    (ho : o.op = .call { callee := .builtin .append, args := #[s, x], argTypes := #[50, 50] }) (hs : a.eval s = v) (hx : a.eval x = xv)
    (h : OwnN w B v l) (hxv : xv = .slice (some ⟨A, 0, none⟩) 1 1) (hsrc : w.cell? ⟨A, 0, none⟩ = some (.int .i64 z)) (hB : B ≤ w.heap.size) (hn : l.length + 1 ≤ 1000000000)
    (hK : ∀ v' w', OwnN w' B v' (l ++ [z]) → w.grownBy w' v.ownBlock → (v'.ownBlock = v.ownBlock ∨ v'.ownBlock = some w.heap.size) → wpList Tryz.prog ops Q rest (a.put o.dst v') w') : wpList Tryz.prog ops Q (o :: rest) a w :=
  wpList_plain hgd fun _ hK2 => by
    obtain ⟨v', w', hr, h2, h3, h4⟩ := run_appN_at o.type h hxv hsrc hB hn
    unfold Oper.wp execOp
    simp only [ho, resolve, invoke, builtin, Sem.run_bind, Sem.run_pure, Result.andThen_ok, List.map_toArray, List.map_cons, List.map_nil, hs, hx, hr]
    exact hK2 _ _ (hK v' w' h2 h3 h4)
structure TwN (w0 w : World) (N : Nat) (t : TypeId) (xs : List Value) (v1 v2 : Value) (l1 l2 : List Int) : Prop where
  o1 : OwnN w (w0.heap.size + 1) v1 l1
  o2 : OwnN w (w0.heap.size + 1) v2 l2
  d1 : v1.ownBlock = none ∨ v1.ownBlock ≠ v2.ownBlock
  d2 : v2.ownBlock = none ∨ v2.ownBlock ≠ v1.ownBlock
  bel : Below w0.heap.size w0 w
  bx : Row w N t xs
  nb : N ≤ w0.heap.size
  sz : w0.heap.size + 1 ≤ w.heap.size
theorem TwN.to {w0 w w' : World} {N : Nat} {t : TypeId} {xs : List Value} {v1 v2 : Value} {l1 l2 : List Int} (h : TwN w0 w N t xs v1 v2 l1 l2) (hb : Below w.heap.size w w') : TwN w0 w' N t xs v1 v2 l1 l2 :=
  ⟨h.o1.below hb, h.o2.below hb, h.d1, h.d2, bel_to h.bel hb, h.bx.below' hb, h.nb, Nat.le_trans h.sz hb.size⟩
theorem TwN.swap {w0 w : World} {N : Nat} {t : TypeId} {xs : List Value} {v1 v2 : Value} {l1 l2 : List Int} (h : TwN w0 w N t xs v1 v2 l1 l2) : TwN w0 w N t xs v2 v1 l2 l1 := ⟨h.o2, h.o1, h.d2, h.d1, h.bel, h.bx, h.nb, h.sz⟩
theorem TwN.app {w0 w w' : World} {N : Nat} {t : TypeId} {xs : List Value} {v1 v2 v' : Value} {l1 l2 l' : List Int} (h : TwN w0 w N t xs v1 v2 l1 l2) (ho : OwnN w' (w0.heap.size + 1) v' l') (hg : w.grownBy w' v1.ownBlock) (hd : v'.ownBlock = v1.ownBlock ∨ v'.ownBlock = some w.heap.size) : TwN w0 w' N t xs v' v2 l' l2 := by
  have hlt : v2.ownBlock ≠ some w.heap.size := fun e => by
    have := (World.ownsRow.lt h.o2 _ e).2
    omega
  refine ⟨ho, World.ownsRow.kept h.o2 hg h.d2, ?_, ?_, h.bel.grown hg h.bel.size fun b hb => Nat.le_of_succ_le (World.ownsRow.lt h.o1 b hb).1, row_grown h.bx hg fun e => ?_, h.nb, Nat.le_trans h.sz hg.size⟩
  · rcases hd with hd | hd
    · rw [hd]; exact h.d1
    · exact Or.inr (by rw [hd]; exact fun e => hlt e.symm)
  · rcases hd with hd | hd
    · rw [hd]; exact h.d2
    · exact Or.inr (by rw [hd]; exact hlt)
  · have := (World.ownsRow.lt h.o1 N e.symm).1
    have := h.nb
    omega
theorem TwN.app2 {w0 w w' : World} {N : Nat} {t : TypeId} {xs : List Value} {v1 v2 v' : Value} {l1 l2 l' : List Int} (h : TwN w0 w N t xs v1 v2 l1 l2) (ho : OwnN w' (w0.heap.size + 1) v' l') (hg : w.grownBy w' v2.ownBlock) (hd : v'.ownBlock = v2.ownBlock ∨ v'.ownBlock = some w.heap.size) : TwN w0 w' N t xs v1 v' l1 l' :=
  (h.swap.app ho hg hd).swap
namespace M
def conT (f : Nat → Rat) (q : Rat) : Nat → List Int
  | 0 => []
  | n + 1 => if f n = q then conT f q n ++ [(n : Int)] else conT f q n
theorem conT_len (f : Nat → Rat) (q : Rat) : ∀ n, (conT f q n).length ≤ n
  | 0 => Nat.le_refl _
  | n + 1 => by
    have := conT_len f q n
    rw [conT]
    split
    · rw [List.length_append]; simp only [List.length_cons, List.length_nil]; omega
    · omega
end M
namespace W
open M
attribute [local go_sem] bs_size bs_toList bs_get bs_extract bs_append bs_lit0 bs_lit1 lit1_bs
set_option maxHeartbeats 1000000
set_option maxRecDepth 20000
def shoZ (z : ZT) : Bool := shortB z.1.1 && shortB z.1.2 && shortB z.2.1 && shortB z.2.2
theorem rshort35 (z : ZT) (w : World) (l1 : z.1.1.length ≤ maxLen) (l2 : z.1.2.length ≤ maxLen) (l3 : z.2.1.length ≤ maxLen) (l4 : z.2.2.length ≤ maxLen) : Calls Tryz.prog 73 #[zoV z] w (Ret w (.bool (shoZ z))) := by
  obtain ⟨⟨ta, tb⟩, tc, td⟩ := z
  unfold shoZ zoV
  simp only at *
  unfold maxLen at l1 l2 l3 l4
  have H1 := Lib.hid (fun W => short_any ta W (by omega))
  have H2 := Lib.hid (fun W => short_any tb W (by omega))
  have H3 := Lib.hid (fun W => short_any tc W (by omega))
  have H4 := Lib.hid (fun W => short_any td W (by omega))
  have HR := Lib.hid (And.intro (rnw (w := w) (t := 47) (xs := [.string (bs ta), .string (bs tb), .string (bs tc), .string (bs td)])) (bel_alloc (Below.refl w.heap.size w) (.cells #[.string (bs ta), .string (bs tb), .string (bs tc), .string (bs td)] 47 (0, 0))))
  clear l1 l2 l3 l4
  generalize shortB ta = s1 at *
  generalize shortB tb = s2 at *
  generalize shortB tc = s3 at *
  generalize shortB td = s4 at *
  generalize hrs : (s1 && s2 && s3 && s4) = rs
  have HRS := Lib.hid hrs
  clear hrs
  go_enter Tryz.func73, Tryz.ntmps73
  go_wp2_with fail
  refine (H1.out _).mono ?_
  rintro e w1 ⟨rfl, hb1⟩
  have K1 := Lib.hid (And.intro (HR.out.1.below' hb1) (bel_to HR.out.2 hb1))
  clear hb1 HR
  cases s1 with
  | false =>
    obtain rfl : false = rs := by rw [← HRS.out]; rfl
    clear HRS
    go_wp2
    go_ret
    exact Ret.of rfl K1.out.2
  | true =>
    have q1 := K1.out.1.cell (i := 1) rfl
    go_wp2_with fail
    refine (H2.out _).mono ?_
    rintro e w2 ⟨rfl, hb2⟩
    have K2 := Lib.hid (And.intro (K1.out.1.below' hb2) (bel_to K1.out.2 hb2))
    clear hb2 K1 q1
    cases s2 with
    | false =>
      obtain rfl : false = rs := by rw [← HRS.out]; rfl
      clear HRS
      go_wp2
      go_ret
      exact Ret.of rfl K2.out.2
    | true =>
      have q2 := K2.out.1.cell (i := 2) rfl
      go_wp2_with fail
      refine (H3.out _).mono ?_
      rintro e w3 ⟨rfl, hb3⟩
      have K3 := Lib.hid (And.intro (K2.out.1.below' hb3) (bel_to K2.out.2 hb3))
      clear hb3 K2 q2
      cases s3 with
      | false =>
        obtain rfl : false = rs := by rw [← HRS.out]; rfl
        clear HRS
        go_wp2
        go_ret
        exact Ret.of rfl K3.out.2
      | true =>
        have q3 := K3.out.1.cell (i := 3) rfl
        obtain rfl : s4 = rs := by rw [← HRS.out]; rfl
        clear HRS
        go_wp2_with fail
        refine (H4.out _).mono ?_
        rintro e w4 ⟨rfl, hb4⟩
        go_wp2
        go_ret
        exact Ret.of rfl (bel_to K3.out.2 hb4)
end W
end Go.Proofs.YtijpgddpejiohaaGreatDoor
end
section
namespace Go.Proofs.YtijpgddpejiohaaGreatDoor
open Go Go.RowKit Go.ChangeShapes Go.WideShapes Go.ChangeAt Go.Deep
namespace Fin
set_option maxRecDepth 20000
section
variable {H : Type} {enc : TypeId × Value → H} {W : World}
theorem cell_intY {fuel : Nat} {c : Value} {y : DataW H × List MemPlace} (hf : DataW.trod enc Tryz.prog W 0 (fun _ => true) true fuel 3 [c] = some y) : ∃ z, c = .int .i64 z := by
  obtain ⟨z, hc, _⟩ := DataW.trod_int Tryz.underlying3 hf
  simp only [List.cons.injEq, and_true] at hc
  exact ⟨z, hc⟩
theorem cell_strY {fuel : Nat} {c : Value} {y : DataW H × List MemPlace} (hf : DataW.trod enc Tryz.prog W 0 (fun _ => true) true fuel 29 [c] = some y) : ∃ s, c = .string (bs s) ∧ s.length ≤ maxLen := by
  obtain ⟨b, hc, _, hsz⟩ := DataW.trod_string Tryz.underlying29 hf
  simp only [List.cons.injEq, and_true] at hc
  subst hc
  obtain ⟨s, rfl⟩ := bs_of b
  exact ⟨s, rfl, bs_size hsz⟩
theorem cellsIntY : Tryz.prog.cellsOf 3 = 1 := by kernel_rfl
theorem cellsPtY : Tryz.prog.cellsOf 69 = 2 := by kernel_rfl
theorem cellsPlY : Tryz.prog.cellsOf 41 = 2 := by kernel_rfl
theorem cellsZoY : Tryz.prog.cellsOf 43 = 4 := by kernel_rfl
theorem cell_ptY {fuel : Nat} {c0 c1 : Value} {y : DataW H × List MemPlace} (hf : DataW.trod enc Tryz.prog W 0 (fun _ => true) true fuel 69 [c0, c1] = some y) : ∃ a b, c0 = .int .i64 a ∧ c1 = .int .i64 b := by
  obtain ⟨y0, y1, n, _, _, h0, h1⟩ := trod_struct2 Tryz.underlying69 hf
  rw [cellsIntY] at h0 h1
  have e0 : DataW.trod enc Tryz.prog W 0 (fun _ => true) true n 3 [c0] = some y0 := h0
  have e1 : DataW.trod enc Tryz.prog W 0 (fun _ => true) true n 3 [c1] = some y1 := h1
  obtain ⟨a, rfl⟩ := cell_intY e0
  obtain ⟨b, rfl⟩ := cell_intY e1
  exact ⟨a, b, rfl, rfl⟩
theorem cell_plY {fuel : Nat} {c0 c1 : Value} {y : DataW H × List MemPlace} (hf : DataW.trod enc Tryz.prog W 0 (fun _ => true) true fuel 41 [c0, c1] = some y) :
    ∃ a b, c0 = .string (bs a) ∧ c1 = .string (bs b) ∧ a.length ≤ maxLen ∧ b.length ≤ maxLen := by
  obtain ⟨y0, y1, n, _, _, h0, h1⟩ := trod_struct2 Tryz.underlying41 hf
  rw [cellsRat] at h0 h1
  have e0 : DataW.trod enc Tryz.prog W 0 (fun _ => true) true n 29 [c0] = some y0 := h0
  have e1 : DataW.trod enc Tryz.prog W 0 (fun _ => true) true n 29 [c1] = some y1 := h1
  obtain ⟨a, rfl, ha⟩ := cell_strY e0
  obtain ⟨b, rfl, hb⟩ := cell_strY e1
  exact ⟨a, b, rfl, rfl, ha, hb⟩
theorem open_zoY {r : Reach} {b0 : Nat} {v : Value} {d : DataW H} {p : List MemPlace} (hv : Value.okWide Tryz.prog W r b0 43 v) (h : DataW.Trod enc Tryz.prog W 0 (fun _ => true) true 43 v d p) :
    ∃ z : M.ZT, v = zoV z ∧ z.1.1.length ≤ maxLen ∧ z.1.2.length ≤ maxLen ∧ z.2.1.length ≤ maxLen ∧ z.2.2.length ≤ maxLen := by
  obtain ⟨cs, rfl, hsz⟩ := okWide_struct Tryz.underlying43 hv
  obtain ⟨c0, c1, c2, c3, rfl⟩ := Go.Joins.array4 (hsz.trans cellsZoY)
  obtain ⟨fuel, hf⟩ := h
  obtain ⟨y0, y1, y2, n, _, _, h0, h1, h2⟩ := trod_struct3 Tryz.underlying43 hf
  rw [cellsPlY] at h0
  rw [cellsRat] at h1 h2
  have e0 : DataW.trod enc Tryz.prog W 0 (fun _ => true) true n 41 [c0, c1] = some y0 := h0
  have e1 : DataW.trod enc Tryz.prog W 0 (fun _ => true) true n 29 [c2] = some y1 := h1
  have e2 : DataW.trod enc Tryz.prog W 0 (fun _ => true) true n 29 [c3] = some y2 := h2
  obtain ⟨a, b, rfl, rfl, ha, hb⟩ := cell_plY e0
  obtain ⟨i, rfl, hi⟩ := cell_strY e1
  obtain ⟨o, rfl, ho⟩ := cell_strY e2
  exact ⟨((a, b), i, o), rfl, ha, hb, hi, ho⟩
theorem elt_ptY {n : Nat} {cs : List Value} {x : DataW H × List MemPlace} (h : DataW.trod enc Tryz.prog W 0 (fun _ => true) true n 69 cs = some x) : ∃ c : M.PZ, cs = [.int .i64 c.1, .int .i64 c.2] := by
  obtain ⟨xs, k, _, rfl, hlen, hxl, hf⟩ := DataW.trod_struct Tryz.underlying69 h
  rw [cellsPtY] at hlen
  match cs, hlen with
  | [c0, c1], _ =>
    obtain ⟨a, b, rfl, rfl⟩ := cell_ptY h
    exact ⟨(a, b), rfl⟩
theorem open_rowsY {α : Type} {t e : TypeId} {k : Nat} (C : α → List Value) (x0 : α) (hC : ∀ x, (C x).length = k) (hk : 0 < k) (ht : Tryz.prog.underlying t = some (.slice e)) (hce : Tryz.prog.cellsOf e = k)
    (hel : ∀ (n : Nat) (cs : List Value) (x : DataW H × List MemPlace), DataW.trod enc Tryz.prog W 0 (fun _ => true) true n e cs = some x → ∃ c : α, cs = C c)
    {v : Value} {d : DataW H} {p : List MemPlace} (hv : ∃ a len cap, v = .slice a len cap) (h : DataW.Trod enc Tryz.prog W 0 (fun _ => true) true t v d p) :
    (∃ l : List α, l.length ≤ maxLen ∧ (v = .slice none 0 0 ∧ l = [] ∨ ∃ b o cap, v = .slice (some ⟨b, o, none⟩) l.length cap ∧ l.length ≤ cap ∧ b < W.heap.size ∧ ∀ i (hi : i < l.length) j (u : Value), (C l[i])[j]? = some u → W.cell? ⟨b, o + i * k + j, none⟩ = some u ∨ l = [])) ∨
      ∃ l : List α, l = [] ∧ ∃ a cap, v = .slice a 0 cap := by
  obtain ⟨fuel, hf⟩ := h
  obtain ⟨a0, len0, cap0, rfl⟩ := hv
  have hf' : DataW.trod enc Tryz.prog W 0 (fun _ => true) true fuel t [.slice a0 len0 cap0] = some (d, p) := hf
  rcases open_slice ht hf' with ⟨hcs, _⟩ | ⟨a, len, cap, m, n, D, Pl, hcs, _, hl, hm, hmm, _, hi⟩
  · simp at hcs
    obtain ⟨rfl, rfl, rfl⟩ := hcs
    exact Or.inl ⟨[], Nat.zero_le _, Or.inl ⟨rfl, rfl⟩⟩
  · simp at hcs
    obtain ⟨rfl, rfl, rfl⟩ := hcs
    simp only [if_true] at hmm
    subst hmm
    clear hf hf'
    rw [hce] at hi
    by_cases h0 : len0 = 0
    · subst h0
      exact Or.inr ⟨[], rfl, _, _, rfl⟩
    refine Or.inl ?_
    have hel2 : ∀ i, ∃ c : α, i < len0 → ∀ j (u : Value), (C c)[j]? = some u → W.cell? ((a.add (i * k)).add j) = some u := by
      intro i
      by_cases hil : i < len0
      · obtain ⟨cs', hc, hte⟩ := hi i (by omega)
        obtain ⟨c, rfl⟩ := hel _ _ _ hte
        obtain ⟨_, _, hat⟩ := World.cells?_some hc
        refine ⟨c, fun _ j u hu => ?_⟩
        have hj : j < k := by rw [← hC c]; exact (List.getElem?_eq_some_iff.1 hu).1
        rw [hat j hj]
        exact hu
      · exact ⟨x0, fun h => absurd h hil⟩
    obtain ⟨f, hf⟩ := Classical.skolem.1 hel2
    have hlt : ∃ u, W.cell? ((a.add (0 * k)).add 0) = some u := by
      have : 0 < (C (f 0)).length := by rw [hC]; exact hk
      exact ⟨_, hf 0 (by omega) 0 _ (List.getElem?_eq_getElem this)⟩
    obtain ⟨u0, hu0⟩ := hlt
    obtain ⟨b, off, spot⟩ := a
    have hspot : spot = none := by simpa [Addr.add] using World.cell?_spot hu0
    subst hspot
    have hadd : ∀ j, (⟨b, off, none⟩ : Addr).add j = ⟨b, off + j, none⟩ := by
      intro j; unfold Addr.add; split <;> simp_all
    have hadd2 : ∀ i j, ((⟨b, off, none⟩ : Addr).add i).add j = ⟨b, off + i + j, none⟩ := by
      intro i j; rw [hadd]; unfold Addr.add; split <;> simp_all
    refine ⟨(List.range len0).map f, by simp; omega, Or.inr ⟨b, off, m, by simp, by simpa using hl, ?_, fun i hil j u hu => Or.inl ?_⟩⟩
    · rw [hadd2] at hu0
      exact cell_lt1 hu0
    · have hil' : i < len0 := by simpa using hil
      rw [List.getElem_map, List.getElem_range] at hu
      have := hf i hil' j u hu
      rwa [hadd2] at this

theorem open_plY {v : Value} {d : DataW H} {p : List MemPlace} (hv : ∃ a len cap, v = .slice a len cap) (h : DataW.Trod enc Tryz.prog W 0 (fun _ => true) true 39 v d p) :
    ∃ l : List M.PZ, RdV W v l ∧ l.length ≤ maxLen := by
  rcases open_rowsY (k := 2) (fun c : M.PZ => [.int .i64 c.1, .int .i64 c.2]) (0, 0) (fun _ => rfl) (by decide) Tryz.underlying39 cellsPtY (fun _ _ _ => elt_ptY) hv h with ⟨l, hl, ⟨rfl, rfl⟩ | ⟨b, o, cap, rfl, hlc, hlt, hc⟩⟩ | ⟨l, rfl, a, cap, rfl⟩
  · exact ⟨[], ⟨_, _, rfl, Or.inl rfl⟩, Nat.zero_le _⟩
  · refine ⟨l, ⟨_, _, rfl, ?_⟩, hl⟩
    by_cases h0 : l = []
    · exact Or.inl h0
    · refine Or.inr ⟨b, o, rfl, hlt, fun i hi => ?_⟩
      have hh := fun j u e => (hc i hi j u e).resolve_right h0
      exact ⟨hh 0 _ rfl, hh 1 _ rfl⟩
  · exact ⟨[], ⟨_, _, rfl, Or.inl rfl⟩, Nat.zero_le _⟩
end
end Fin
end Go.Proofs.YtijpgddpejiohaaGreatDoor
end
