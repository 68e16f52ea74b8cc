/-
  Chapter 35 of the program: 'Verify'. (Printed by wip/yw.py.)
  Chapter 35: the program's and the reference's answers at few points and short annuli, side by side.
  Chapter 35's laws: 'few', 'slices.Equal' on lists of ints, 'slices.ContainsFunc' on weights.
  Chapter 35, plain: the width of three points.
  Chapter 35: the widths of the examples.
-/
import Derived.Test.YtijpgddpejiohaaGreatDoorKV
import Derived.Test.YtijpgddpejiohaaGreatDoorKU
import Derived.Test.YtijpgddpejiohaaGreatDoorKS
import Derived.Test.YtijpgddpejiohaaGreatDoorKI
import Derived.Test.YtijpgddpejiohaaGreatDoorKL
section
namespace Go.Proofs.YtijpgddpejiohaaGreatDoor
open Go Go.RowKit Go.Deep Go.Sort
namespace W
open M
attribute [local go_sem] bs_size bs_toList bs_get bs_extract bs_append bs_lit0 bs_lit1 lit1_bs
set_option maxHeartbeats 4000000
set_option maxRecDepth 20000
theorem pverify_A (vl vw : Value) (l : List PZ) (ws : List (List UInt8)) (z : ZT) (w : World) (h : VfA w vl vw l ws) (hgv : givP l ≠ 0) :
    Calls Tryz.prog 33 #[vl, zoV z, vw] w (Ret w (.int .i64 ((givP l : Nat) : Int))) := by
  have hg := fun W (hW : Below w.heap.size w W) => pgiven vl l W (h.hl.below hW)
  have hz : (((givP l : Nat) : Int) != 0) = true := by simp; exact hgv
  obtain ⟨A, ca, rfl⟩ := h.hl.len
  obtain ⟨B, cb, rfl⟩ := h.hw.len
  obtain ⟨⟨ta, tb⟩, tc, td⟩ := z
  unfold zoV
  simp only
  clear h hgv
  generalize ((givP l : Nat) : Int) = x at *
  have HG := Lib.hid hg
  clear hg
  have HR := Lib.hid (And.intro (rnw (w := w) (t := 43) (xs := [.string (bs ta), .string (bs tb), .string (bs tc), .string (bs td)])) (bel_alloc (Below.refl w.heap.size w) (.cells #[.string (bs ta), .string (bs tb), .string (bs tc), .string (bs td)] 43 (0, 0))))
  go_enter Tryz.func33, Tryz.ntmps33
  go_wp2_with fail
  refine (HG.out _ HR.out.2).mono ?_
  rintro e w1 ⟨rfl, hb1⟩
  go_wp2
  go_ret
  exact Ret.of rfl (bel_to HR.out.2 hb1)
theorem pverify_B (vl vw : Value) (l : List PZ) (ws : List (List UInt8)) (z : ZT) (w : World) (hgl : Glob w) (h : VfA w vl vw l ws) (hgv : givP l = 0) (l1 : z.1.1.length ≤ 90000) (l2 : z.1.2.length ≤ 90000) (l3 : z.2.1.length ≤ 90000) (l4 : z.2.2.length ≤ 90000) (hc : chkRs [z.1.1, z.1.2, z.2.1, z.2.2] ≠ 0) :
    Calls Tryz.prog 33 #[vl, zoV z, vw] w (Ret w (.int .i64 ((chkRs [z.1.1, z.1.2, z.2.1, z.2.2] : Nat) : Int))) := by
  have hg := fun W (hW : Below w.heap.size w W) => pgiven vl l W (h.hl.below hW)
  rw [hgv] at hg
  have hck := fun W (hW : Below w.heap.size w W) => pannulus_bad z W (hgl.of hW) l1 l2 l3 l4 hc
  have hz : (((chkRs [z.1.1, z.1.2, z.2.1, z.2.2] : Nat) : Int) != 0) = true := by simp; exact hc
  obtain ⟨A, ca, rfl⟩ := h.hl.len
  obtain ⟨B, cb, rfl⟩ := h.hw.len
  clear h hgv hc l1 l2 l3 l4 hgl
  generalize ((chkRs [z.1.1, z.1.2, z.2.1, z.2.2] : Nat) : Int) = x at *
  obtain ⟨⟨ta, tb⟩, tc, td⟩ := z
  unfold zoV at *
  simp only at *
  have HG := Lib.hid hg
  have HC := Lib.hid hck
  clear hg hck
  have HR := Lib.hid (And.intro (rnw (w := w) (t := 43) (xs := [.string (bs ta), .string (bs tb), .string (bs tc), .string (bs td)])) (bel_alloc (Below.refl w.heap.size w) (.cells #[.string (bs ta), .string (bs tb), .string (bs tc), .string (bs td)] 43 (0, 0))))
  go_enter Tryz.func33, Tryz.ntmps33
  go_wp2_with fail
  refine (HG.out _ HR.out.2).mono ?_
  rintro e w1 ⟨rfl, hb1⟩
  have H1 := Lib.hid (And.intro (HR.out.1.below' hb1) (bel_to HR.out.2 hb1))
  clear hb1 HR HG
  have q0 := H1.out.1.cell (i := 0) rfl
  have q1 := H1.out.1.cell (i := 1) rfl
  have q2 := H1.out.1.cell (i := 2) rfl
  have q3 := H1.out.1.cell (i := 3) rfl
  go_wp2_with fail
  refine (HC.out _ H1.out.2).mono ?_
  rintro e w2 ⟨rfl, hb2⟩
  go_wp2
  go_ret
  exact Ret.of rfl (bel_to H1.out.2 hb2)
theorem pverify_C (vl vw : Value) (l : List PZ) (ws : List (List UInt8)) (c : Rat × Rat) (i o : Rat) (w : World) (hgl : Glob w) (h : VfA w vl vw l ws) (hgv : givP l = 0) (b1 : Bq 30 c.1) (b2 : Bq 30 c.2) (b3 : Bq 30 i) (b4 : Bq 30 o) (ho : i < 0 ∨ o < i) :
    Calls Tryz.prog 33 #[vl, zoV (zoQ c i o), vw] w (Ret w (.int .i64 9)) := by
  have hg := fun W (hW : Below w.heap.size w W) => pgiven vl l W (h.hl.below hW)
  rw [hgv] at hg
  have hck := fun W (hW : Below w.heap.size w W) => pannulus_ok c i o 30 W (hgl.of hW) b1 b2 b3 b4 (by decide) (by decide)
  simp only [if_pos ho] at hck
  obtain ⟨A, ca, rfl⟩ := h.hl.len
  obtain ⟨B, cb, rfl⟩ := h.hw.len
  unfold zoV zoQ ceQ at *
  simp only at *
  clear h hgv b1 b2 b3 b4 ho hgl
  generalize R c.1 = ta at *
  generalize R c.2 = tb at *
  generalize R i = tc at *
  generalize R o = td at *
  have HG := Lib.hid hg
  have HC := Lib.hid hck
  clear hg hck
  have HR := Lib.hid (And.intro (rnw (w := w) (t := 43) (xs := [.string (bs ta), .string (bs tb), .string (bs tc), .string (bs td)])) (bel_alloc (Below.refl w.heap.size w) (.cells #[.string (bs ta), .string (bs tb), .string (bs tc), .string (bs td)] 43 (0, 0))))
  go_enter Tryz.func33, Tryz.ntmps33
  go_wp2_with fail
  refine (HG.out _ HR.out.2).mono ?_
  rintro e w1 ⟨rfl, hb1⟩
  have H1 := Lib.hid (And.intro (HR.out.1.below' hb1) (bel_to HR.out.2 hb1))
  clear hb1 HR HG
  have q0 := H1.out.1.cell (i := 0) rfl
  have q1 := H1.out.1.cell (i := 1) rfl
  have q2 := H1.out.1.cell (i := 2) rfl
  have q3 := H1.out.1.cell (i := 3) rfl
  go_wp2_with fail
  refine (HC.out _ H1.out.2).mono ?_
  rintro e w2 ⟨rfl, hb2⟩
  have H2 := Lib.hid (And.intro (H1.out.1.below' hb2) (bel_to H1.out.2 hb2))
  clear hb2 H1 HC q0 q1 q2 q3
  go_wp2
  go_ret
  exact Ret.of rfl (H2.out.2)
theorem pverify_D (vl vw : Value) (l : List PZ) (ws : List (List UInt8)) (c : Rat × Rat) (i o : Rat) (w : World) (hgl : Glob w) (h : VfA w vl vw l ws) (hgv : givP l = 0) (b1 : Bq 30 c.1) (b2 : Bq 30 c.2) (b3 : Bq 30 i) (b4 : Bq 30 o) (ho : ¬ (i < 0 ∨ o < i)) (hlen : ws.length ≠ l.length) :
    Calls Tryz.prog 33 #[vl, zoV (zoQ c i o), vw] w (Ret w (.int .i64 8)) := by
  have hg := fun W (hW : Below w.heap.size w W) => pgiven vl l W (h.hl.below hW)
  rw [hgv] at hg
  have hck := fun W (hW : Below w.heap.size w W) => pannulus_ok c i o 30 W (hgl.of hW) b1 b2 b3 b4 (by decide) (by decide)
  simp only [if_neg ho] at hck
  have hz : (((ws.length : Nat) : Int) != ((l.length : Nat) : Int)) = true := by simp; omega
  obtain ⟨A, ca, rfl⟩ := h.hl.len
  obtain ⟨B, cb, rfl⟩ := h.hw.len
  unfold zoV zoQ ceQ at *
  simp only at *
  clear h hgv b1 b2 b3 b4 ho hlen hgl
  generalize R c.1 = ta at *
  generalize R c.2 = tb at *
  generalize R i = tc at *
  generalize R o = td at *
  have HG := Lib.hid hg
  have HC := Lib.hid hck
  clear hg hck
  have HR := Lib.hid (And.intro (rnw (w := w) (t := 43) (xs := [.string (bs ta), .string (bs tb), .string (bs tc), .string (bs td)])) (bel_alloc (Below.refl w.heap.size w) (.cells #[.string (bs ta), .string (bs tb), .string (bs tc), .string (bs td)] 43 (0, 0))))
  go_enter Tryz.func33, Tryz.ntmps33
  go_wp2_with fail
  refine (HG.out _ HR.out.2).mono ?_
  rintro e w1 ⟨rfl, hb1⟩
  have H1 := Lib.hid (And.intro (HR.out.1.below' hb1) (bel_to HR.out.2 hb1))
  clear hb1 HR HG
  have q0 := H1.out.1.cell (i := 0) rfl
  have q1 := H1.out.1.cell (i := 1) rfl
  have q2 := H1.out.1.cell (i := 2) rfl
  have q3 := H1.out.1.cell (i := 3) rfl
  go_wp2_with fail
  refine (HC.out _ H1.out.2).mono ?_
  rintro e w2 ⟨rfl, hb2⟩
  have H2 := Lib.hid (And.intro (H1.out.1.below' hb2) (bel_to H1.out.2 hb2))
  clear hb2 H1 HC q0 q1 q2 q3
  go_wp2
  go_ret
  exact Ret.of rfl (H2.out.2)
theorem pverify_E (vl vw : Value) (l : List PZ) (ws : List (List UInt8)) (c : Rat × Rat) (i o : Rat) (w : World) (hgl : Glob w) (h : VfA w vl vw l ws) (hgv : givP l = 0) (b1 : Bq 30 c.1) (b2 : Bq 30 c.2) (b3 : Bq 30 i) (b4 : Bq 30 o) (ho : ¬ (i < 0 ∨ o < i)) (hlen : ws.length = l.length) (hcw : chkRs ws ≠ 0) :
    Calls Tryz.prog 33 #[vl, zoV (zoQ c i o), vw] w (Ret w (.int .i64 ((chkRs ws : Nat) : Int))) := by
  have hg := fun W (hW : Below w.heap.size w W) => pgiven vl l W (h.hl.below hW)
  rw [hgv] at hg
  have hck := fun W (hW : Below w.heap.size w W) => pannulus_ok c i o 30 W (hgl.of hW) b1 b2 b3 b4 (by decide) (by decide)
  simp only [if_neg ho] at hck
  have hnm := fun W (hW : Below w.heap.size w W) => prnumbers vw ws W (hgl.of hW) (h.hw.below hW) h.sw h.nw
  have hz : (((ws.length : Nat) : Int) != ((l.length : Nat) : Int)) = false := by simp; omega
  have hz2 : (((chkRs ws : Nat) : Int) != 0) = true := by simp; exact hcw
  obtain ⟨A, ca, rfl⟩ := h.hl.len
  obtain ⟨B, cb, rfl⟩ := h.hw.len
  unfold zoV zoQ ceQ at *
  simp only at *
  clear h hgv b1 b2 b3 b4 ho hlen hgl hcw
  generalize ((chkRs ws : Nat) : Int) = x at *
  generalize ws.length = n at *
  generalize l.length = m at *
  have HM := Lib.hid hnm
  clear hnm
  generalize R c.1 = ta at *
  generalize R c.2 = tb at *
  generalize R i = tc at *
  generalize R o = td at *
  have HG := Lib.hid hg
  have HC := Lib.hid hck
  clear hg hck
  have HR := Lib.hid (And.intro (rnw (w := w) (t := 43) (xs := [.string (bs ta), .string (bs tb), .string (bs tc), .string (bs td)])) (bel_alloc (Below.refl w.heap.size w) (.cells #[.string (bs ta), .string (bs tb), .string (bs tc), .string (bs td)] 43 (0, 0))))
  go_enter Tryz.func33, Tryz.ntmps33
  go_wp2_with fail
  refine (HG.out _ HR.out.2).mono ?_
  rintro e w1 ⟨rfl, hb1⟩
  have H1 := Lib.hid (And.intro (HR.out.1.below' hb1) (bel_to HR.out.2 hb1))
  clear hb1 HR HG
  have q0 := H1.out.1.cell (i := 0) rfl
  have q1 := H1.out.1.cell (i := 1) rfl
  have q2 := H1.out.1.cell (i := 2) rfl
  have q3 := H1.out.1.cell (i := 3) rfl
  go_wp2_with fail
  refine (HC.out _ H1.out.2).mono ?_
  rintro e w2 ⟨rfl, hb2⟩
  have H2 := Lib.hid (And.intro (H1.out.1.below' hb2) (bel_to H1.out.2 hb2))
  clear hb2 H1 HC q0 q1 q2 q3
  go_wp2_with fail
  refine (HM.out _ H2.out.2).mono ?_
  rintro e w3 ⟨rfl, hb3⟩
  go_wp2
  go_ret
  exact Ret.of rfl (bel_to H2.out.2 hb3)
theorem pverify_F1 (vl vw : Value) (l : List PZ) (wq : List Rat) (c : Rat × Rat) (i o : Rat) (w : World) (hgl : Glob w) (h : VfA w vl vw l (rx wq)) (hgv : givP l = 0) (b1 : Bq 30 c.1) (b2 : Bq 30 c.2) (b3 : Bq 30 i) (b4 : Bq 30 o) (ho : ¬ (i < 0 ∨ o < i)) (hlen : wq.length = l.length) (hl8 : l.length ≤ 8) (hwb : ∀ x ∈ wq, Bq 30 x) (hne : innQ l c ≠ i) :
    Calls Tryz.prog 33 #[vl, zoV (zoQ c i o), vw] w (Ret w (.int .i64 14)) := by
  obtain ⟨g1, g2, g3⟩ := givP_iff.1 hgv
  have hg := fun W (hW : Below w.heap.size w W) => pgiven vl l W (h.hl.below hW)
  rw [hgv] at hg
  have hck := fun W (hW : Below w.heap.size w W) => pannulus_ok c i o 30 W (hgl.of hW) b1 b2 b3 b4 (by decide) (by decide)
  simp only [if_neg ho] at hck
  have hnm := fun W (hW : Below w.heap.size w W) => prnumbers vw (rx wq) W (hgl.of hW) (h.hw.below hW) h.sw h.nw
  rw [chk_rx30 hwb] at hnm
  have har := fun W (hW : Below w.heap.size w W) => pat35 vl l c 30 W (hgl.of hW) (h.hl.below hW) g2 g3 b1 b2 (by decide) (by omega)
  have hz : ((((rx wq).length : Nat) : Int) != ((l.length : Nat) : Int)) = false := by rw [rx_len]; simp; omega
  have hni : (R (innQ l c) = R i) = False := eq_false (fun e => hne (R_inj e))
  obtain ⟨A, ca, rfl⟩ := h.hl.len
  obtain ⟨B, cb, rfl⟩ := h.hw.len
  unfold zoV zoQ ceV ceQ at *
  simp only at *
  have HM := Lib.hid hnm
  have HAR := Lib.hid har
  clear h hgv b1 b2 b3 b4 ho hlen hl8 hwb g1 g2 g3 hnm har hgl
  generalize (rx wq).length = n at *
  generalize l.length = m at *
  clear hne
  generalize R (innQ l c) = si at *
  generalize R (outQ l c) = so at *
  generalize R c.1 = ta at *
  generalize R c.2 = tb at *
  generalize R i = tc at *
  generalize R o = td at *
  have HG := Lib.hid hg
  have HC := Lib.hid hck
  clear hg hck
  have HR := Lib.hid (And.intro (rnw (w := w) (t := 43) (xs := [.string (bs ta), .string (bs tb), .string (bs tc), .string (bs td)])) (bel_alloc (Below.refl w.heap.size w) (.cells #[.string (bs ta), .string (bs tb), .string (bs tc), .string (bs td)] 43 (0, 0))))
  go_enter Tryz.func33, Tryz.ntmps33
  go_wp2_with fail
  refine (HG.out _ HR.out.2).mono ?_
  rintro e w1 ⟨rfl, hb1⟩
  have H1 := Lib.hid (And.intro (HR.out.1.below' hb1) (bel_to HR.out.2 hb1))
  clear hb1 HR HG
  have q0 := H1.out.1.cell (i := 0) rfl
  have q1 := H1.out.1.cell (i := 1) rfl
  have q2 := H1.out.1.cell (i := 2) rfl
  have q3 := H1.out.1.cell (i := 3) rfl
  go_wp2_with fail
  refine (HC.out _ H1.out.2).mono ?_
  rintro e w2 ⟨rfl, hb2⟩
  have H2 := Lib.hid (And.intro (H1.out.1.below' hb2) (bel_to H1.out.2 hb2))
  clear hb2 H1 HC q0 q1 q2 q3
  go_wp2_with fail
  refine (HM.out _ H2.out.2).mono ?_
  rintro e w3 ⟨rfl, hb3⟩
  have H3 := Lib.hid (And.intro (H2.out.1.below' hb3) (bel_to H2.out.2 hb3))
  clear hb3 H2 HM
  have q0 := H3.out.1.cell (i := 0) rfl
  have q1 := H3.out.1.cell (i := 1) rfl
  have q2 := H3.out.1.cell (i := 2) rfl
  have q3 := H3.out.1.cell (i := 3) rfl
  go_wp2_with fail
  refine (HAR.out _ H3.out.2).mono ?_
  rintro e w4 ⟨rfl, hb4⟩
  have hal := bel_to hb4 (bel_alloc (Below.refl _ _) (.cells #[.string (bs ta), .string (bs tb), .string (bs si), .string (bs so)] 43 (0, 0)))
  have H6 := Lib.hid (And.intro (H3.out.1.below' hal) (bel_to H3.out.2 hal))
  clear q0 q1 q2 q3
  have q0 := H6.out.1.cell (i := 0) rfl
  have q1 := H6.out.1.cell (i := 1) rfl
  have q2 := H6.out.1.cell (i := 2) rfl
  have q3 := H6.out.1.cell (i := 3) rfl
  clear hal hb4 H3 HAR
  go_wp2
  go_ret
  exact Ret.of rfl (H6.out.2)
theorem pverify_F2 (vl vw : Value) (l : List PZ) (wq : List Rat) (c : Rat × Rat) (i o : Rat) (w : World) (hgl : Glob w) (h : VfA w vl vw l (rx wq)) (hgv : givP l = 0) (b1 : Bq 30 c.1) (b2 : Bq 30 c.2) (b3 : Bq 30 i) (b4 : Bq 30 o) (ho : ¬ (i < 0 ∨ o < i)) (hlen : wq.length = l.length) (hl8 : l.length ≤ 8) (hwb : ∀ x ∈ wq, Bq 30 x) (he : innQ l c = i) (hne : outQ l c ≠ o) :
    Calls Tryz.prog 33 #[vl, zoV (zoQ c i o), vw] w (Ret w (.int .i64 14)) := by
  obtain ⟨g1, g2, g3⟩ := givP_iff.1 hgv
  have hg := fun W (hW : Below w.heap.size w W) => pgiven vl l W (h.hl.below hW)
  rw [hgv] at hg
  have hck := fun W (hW : Below w.heap.size w W) => pannulus_ok c i o 30 W (hgl.of hW) b1 b2 b3 b4 (by decide) (by decide)
  simp only [if_neg ho] at hck
  have hnm := fun W (hW : Below w.heap.size w W) => prnumbers vw (rx wq) W (hgl.of hW) (h.hw.below hW) h.sw h.nw
  rw [chk_rx30 hwb] at hnm
  have har := fun W (hW : Below w.heap.size w W) => pat35 vl l c 30 W (hgl.of hW) (h.hl.below hW) g2 g3 b1 b2 (by decide) (by omega)
  have hz : ((((rx wq).length : Nat) : Int) != ((l.length : Nat) : Int)) = false := by rw [rx_len]; simp; omega
  have hni : (R (outQ l c) = R o) = False := eq_false (fun e => hne (R_inj e))
  rw [he] at har
  obtain ⟨A, ca, rfl⟩ := h.hl.len
  obtain ⟨B, cb, rfl⟩ := h.hw.len
  unfold zoV zoQ ceV ceQ at *
  simp only at *
  have HM := Lib.hid hnm
  have HAR := Lib.hid har
  clear h hgv b1 b2 b3 b4 ho hlen hl8 hwb g1 g2 g3 hnm har hgl
  generalize (rx wq).length = n at *
  generalize l.length = m at *
  clear hne he
  generalize R (outQ l c) = so at *
  generalize R c.1 = ta at *
  generalize R c.2 = tb at *
  generalize R i = tc at *
  generalize R o = td at *
  have HG := Lib.hid hg
  have HC := Lib.hid hck
  clear hg hck
  have HR := Lib.hid (And.intro (rnw (w := w) (t := 43) (xs := [.string (bs ta), .string (bs tb), .string (bs tc), .string (bs td)])) (bel_alloc (Below.refl w.heap.size w) (.cells #[.string (bs ta), .string (bs tb), .string (bs tc), .string (bs td)] 43 (0, 0))))
  go_enter Tryz.func33, Tryz.ntmps33
  go_wp2_with fail
  refine (HG.out _ HR.out.2).mono ?_
  rintro e w1 ⟨rfl, hb1⟩
  have H1 := Lib.hid (And.intro (HR.out.1.below' hb1) (bel_to HR.out.2 hb1))
  clear hb1 HR HG
  have q0 := H1.out.1.cell (i := 0) rfl
  have q1 := H1.out.1.cell (i := 1) rfl
  have q2 := H1.out.1.cell (i := 2) rfl
  have q3 := H1.out.1.cell (i := 3) rfl
  go_wp2_with fail
  refine (HC.out _ H1.out.2).mono ?_
  rintro e w2 ⟨rfl, hb2⟩
  have H2 := Lib.hid (And.intro (H1.out.1.below' hb2) (bel_to H1.out.2 hb2))
  clear hb2 H1 HC q0 q1 q2 q3
  go_wp2_with fail
  refine (HM.out _ H2.out.2).mono ?_
  rintro e w3 ⟨rfl, hb3⟩
  have H3 := Lib.hid (And.intro (H2.out.1.below' hb3) (bel_to H2.out.2 hb3))
  clear hb3 H2 HM
  have q0 := H3.out.1.cell (i := 0) rfl
  have q1 := H3.out.1.cell (i := 1) rfl
  have q2 := H3.out.1.cell (i := 2) rfl
  have q3 := H3.out.1.cell (i := 3) rfl
  go_wp2_with fail
  refine (HAR.out _ H3.out.2).mono ?_
  rintro e w4 ⟨rfl, hb4⟩
  have hal := bel_to hb4 (bel_alloc (Below.refl _ _) (.cells #[.string (bs ta), .string (bs tb), .string (bs tc), .string (bs so)] 43 (0, 0)))
  have H6 := Lib.hid (And.intro (H3.out.1.below' hal) (bel_to H3.out.2 hal))
  clear q0 q1 q2 q3
  have q0 := H6.out.1.cell (i := 0) rfl
  have q1 := H6.out.1.cell (i := 1) rfl
  have q2 := H6.out.1.cell (i := 2) rfl
  have q3 := H6.out.1.cell (i := 3) rfl
  clear hal hb4 H3 HAR
  go_wp2
  go_ret
  exact Ret.of rfl (H6.out.2)
theorem pverify_F3 (vl vw : Value) (l : List PZ) (wq : List Rat) (c : Rat × Rat) (i o : Rat) (w : World) (hgl : Glob w) (h : VfA w vl vw l (rx wq)) (hgv : givP l = 0) (b1 : Bq 30 c.1) (b2 : Bq 30 c.2) (b3 : Bq 30 i) (b4 : Bq 30 o) (ho : ¬ (i < 0 ∨ o < i)) (hlen : wq.length = l.length) (hl8 : l.length ≤ 8) (hwb : ∀ x ∈ wq, Bq 30 x) (he : innQ l c = i) (he2 : outQ l c = o) :
    Calls Tryz.prog 33 #[vl, zoV (zoQ c i o), vw] w (Ret w (.int .i64 (if prvB l wq (o - i) = true then 0 else 15))) := by
  obtain ⟨g1, g2, g3⟩ := givP_iff.1 hgv
  have hg := fun W (hW : Below w.heap.size w W) => pgiven vl l W (h.hl.below hW)
  rw [hgv] at hg
  have hck := fun W (hW : Below w.heap.size w W) => pannulus_ok c i o 30 W (hgl.of hW) b1 b2 b3 b4 (by decide) (by decide)
  simp only [if_neg ho] at hck
  have hnm := fun W (hW : Below w.heap.size w W) => prnumbers vw (rx wq) W (hgl.of hW) (h.hw.below hW) h.sw h.nw
  rw [chk_rx30 hwb] at hnm
  have har := fun W (hW : Below w.heap.size w W) => pat35 vl l c 30 W (hgl.of hW) (h.hl.below hW) g2 g3 b1 b2 (by decide) (by omega)
  have hz : ((((rx wq).length : Nat) : Int) != ((l.length : Nat) : Int)) = false := by rw [rx_len]; simp; omega
  rw [he, he2] at har
  have hsb := fun W (hW : Below w.heap.size w W) S (hS : NoErR W S) => prsub S o i 30 30 W (hgl.of hW) hS b4 b3 (by decide)
  have hpv := fun W (hW : Below w.heap.size w W) S (hS : NoErR W S) => pproves S vl vw l wq (o - i) W (hgl.of hW) hS (h.hl.below hW) (h.hw.below hW) g3 hwb hlen hl8
  generalize hrs : (if prvB l wq (o - i) = true then (0 : Int) else 15) = rs
  have HRS := Lib.hid hrs
  clear hrs
  obtain ⟨A, ca, rfl⟩ := h.hl.len
  obtain ⟨B, cb, rfl⟩ := h.hw.len
  unfold zoV zoQ ceV ceQ at *
  simp only at *
  have HM := Lib.hid hnm
  have HAR := Lib.hid har
  clear h hgv b1 b2 b3 b4 ho hlen hl8 hwb g1 g2 g3 hnm har hgl
  generalize (rx wq).length = n at *
  generalize l.length = m at *
  have HS := Lib.hid hsb
  have HP := Lib.hid hpv
  clear hsb hpv he he2
  generalize prvB l wq (o - i) = pb at *
  generalize R (o - i) = sd at *
  generalize R c.1 = ta at *
  generalize R c.2 = tb at *
  generalize R i = tc at *
  generalize R o = td at *
  have HG := Lib.hid hg
  have HC := Lib.hid hck
  clear hg hck
  have HR := Lib.hid (And.intro (rnw (w := w) (t := 43) (xs := [.string (bs ta), .string (bs tb), .string (bs tc), .string (bs td)])) (bel_alloc (Below.refl w.heap.size w) (.cells #[.string (bs ta), .string (bs tb), .string (bs tc), .string (bs td)] 43 (0, 0))))
  go_enter Tryz.func33, Tryz.ntmps33
  go_wp2_with fail
  refine (HG.out _ HR.out.2).mono ?_
  rintro e w1 ⟨rfl, hb1⟩
  have H1 := Lib.hid (And.intro (HR.out.1.below' hb1) (bel_to HR.out.2 hb1))
  clear hb1 HR HG
  have q0 := H1.out.1.cell (i := 0) rfl
  have q1 := H1.out.1.cell (i := 1) rfl
  have q2 := H1.out.1.cell (i := 2) rfl
  have q3 := H1.out.1.cell (i := 3) rfl
  go_wp2_with fail
  refine (HC.out _ H1.out.2).mono ?_
  rintro e w2 ⟨rfl, hb2⟩
  have H2 := Lib.hid (And.intro (H1.out.1.below' hb2) (bel_to H1.out.2 hb2))
  clear hb2 H1 HC q0 q1 q2 q3
  go_wp2_with fail
  refine (HM.out _ H2.out.2).mono ?_
  rintro e w3 ⟨rfl, hb3⟩
  have H3 := Lib.hid (And.intro (H2.out.1.below' hb3) (bel_to H2.out.2 hb3))
  clear hb3 H2 HM
  have q0 := H3.out.1.cell (i := 0) rfl
  have q1 := H3.out.1.cell (i := 1) rfl
  have q2 := H3.out.1.cell (i := 2) rfl
  have q3 := H3.out.1.cell (i := 3) rfl
  go_wp2_with fail
  refine (HAR.out _ H3.out.2).mono ?_
  rintro e w4 ⟨rfl, hb4⟩
  have hal := bel_to hb4 (bel_alloc (Below.refl _ _) (.cells #[.string (bs ta), .string (bs tb), .string (bs tc), .string (bs td)] 43 (0, 0)))
  have H6 := Lib.hid (And.intro (H3.out.1.below' hal) (bel_to H3.out.2 hal))
  clear q0 q1 q2 q3
  have q0 := H6.out.1.cell (i := 0) rfl
  have q1 := H6.out.1.cell (i := 1) rfl
  have q2 := H6.out.1.cell (i := 2) rfl
  have q3 := H6.out.1.cell (i := 3) rfl
  clear hal hb4 H3 HAR
  have hal := bel_alloc (Below.refl _ (w4.alloc (.cells #[.string (bs ta), .string (bs tb), .string (bs tc), .string (bs td)] 43 (0, 0)))) (.cells #[.int .i64 0] 125 (0, 0))
  have H7 := Lib.hid (And.intro (H6.out.1.below' hal) (bel_to H6.out.2 hal))
  have HE := Lib.hid (show NoErR ((w4.alloc (.cells #[.string (bs ta), .string (bs tb), .string (bs tc), .string (bs td)] 43 (0, 0))).alloc (.cells #[.int .i64 0] 125 (0, 0))) (w4.heap.size + 1) from rnew0 (World.size_alloc _ _).symm)
  have p2 := H7.out.1.cell (i := 2) rfl
  have p3 := H7.out.1.cell (i := 3) rfl
  go_wp2_with fail
  clear hal H6 q0 q1 q2 q3 p2 p3
  obtain ⟨W0, hW0⟩ : ∃ V, V = ((w4.alloc (.cells #[.string (bs ta), .string (bs tb), .string (bs tc), .string (bs td)] 43 (0, 0))).alloc (.cells #[.int .i64 0] 125 (0, 0))) := ⟨_, rfl⟩
  obtain ⟨b, hb⟩ : ∃ b, b = w4.heap.size + 1 := ⟨_, rfl⟩
  rw [← hW0] at HE H7 ⊢
  rw [← hb] at HE ⊢
  clear hW0 hb
  go_wp2_with fail
  refine (HS.out _ H7.out.2 _ HE.out).mono ?_
  rintro e w5 ⟨rfl, hb5⟩
  have H8 := Lib.hid (And.intro (bel_to H7.out.2 hb5) (HE.out.below' hb5))
  clear hb5 H7 HE HS
  go_wp2_with fail
  refine (HP.out _ H8.out.1 _ H8.out.2).mono ?_
  rintro e w6 ⟨rfl, hb6⟩
  have H9 := Lib.hid (And.intro (bel_to H8.out.1 hb6) (H8.out.2.below' hb6))
  clear hb6 H8 HP
  have e0 := H9.out.2.cell
  cases pb with
  | false =>
    obtain rfl : 15 = rs := by rw [← HRS.out]; rfl
    clear HRS
    go_wp2
    go_ret
    exact Ret.of rfl H9.out.1
  | true =>
    obtain rfl : 0 = rs := by rw [← HRS.out]; rfl
    clear HRS
    go_wp2
    go_ret
    exact Ret.of rfl H9.out.1
end W
end Go.Proofs.YtijpgddpejiohaaGreatDoor
end
section
namespace Go.Proofs.YtijpgddpejiohaaGreatDoor
open Go Go.RowKit Go.Deep Go.Sort
namespace W
open M
theorem short_zone {z : ZT} (hs : shoZ z = true) : z.1.1.length ≤ 90000 ∧ z.1.2.length ≤ 90000 ∧ z.2.1.length ≤ 90000 ∧ z.2.2.length ≤ 90000 := by
  unfold shoZ at hs
  rw [Bool.and_eq_true, Bool.and_eq_true, Bool.and_eq_true] at hs
  obtain ⟨⟨⟨a, b⟩, c⟩, d⟩ := hs
  have a := short_num a
  have b := short_num b
  have c := short_num c
  have d := short_num d
  exact ⟨by omega, by omega, by omega, by omega⟩
theorem texts30 : ∀ {l : List (List UInt8)}, (∀ p ∈ l, shortB p = true) → chkRs l = 0 → ∃ zl : List Rat, l = rx zl ∧ ∀ x ∈ zl, Bq 30 x
  | [], _, _ => ⟨[], rfl, fun x h => by cases h⟩
  | p :: t, hl, h => by
    rw [chkRs] at h
    by_cases hp : chkR p = 0
    · rw [if_pos hp] at h
      obtain ⟨q, e1, hq⟩ := short_R (hl p List.mem_cons_self) hp
      obtain ⟨zl, e2, hz⟩ := texts30 (fun r hr => hl r (List.mem_cons_of_mem _ hr)) h
      refine ⟨q :: zl, by rw [e1, e2]; rfl, fun x hx => ?_⟩
      rcases List.mem_cons.1 hx with rfl | hx
      · exact hq
      · exact hz x hx
    · rw [if_neg hp] at h; exact absurd h hp
theorem center_right {z : ZT} (hs : shoZ z = true) (h : chkRs [z.1.1, z.1.2] = 0) : ∃ c : Rat × Rat, z.1 = ceQ c ∧ Bq 30 c.1 ∧ Bq 30 c.2 := by
  unfold shoZ at hs
  rw [Bool.and_eq_true, Bool.and_eq_true, Bool.and_eq_true] at hs
  obtain ⟨⟨⟨a, b⟩, c⟩, d⟩ := hs
  obtain ⟨zl, e, hz⟩ := texts30 (l := [z.1.1, z.1.2]) (fun p hp => by
    rcases List.mem_cons.1 hp with rfl | hp
    · exact a
    · rw [List.mem_singleton.1 hp]; exact b) h
  have hlen : zl.length = 2 := by have h := congrArg List.length e; rw [rx_len] at h; exact h.symm
  match zl, hlen, e with
  | [x, y], _, e =>
    simp only [rx, List.map_cons, List.map_nil, List.cons.injEq, and_true] at e
    exact ⟨(x, y), Prod.ext e.1 e.2, hz x (by simp), hz y (by simp)⟩
theorem zone_right {z : ZT} (hs : shoZ z = true) (h : chkRs [z.1.1, z.1.2, z.2.1, z.2.2] = 0) : ∃ (c : Rat × Rat) (i o : Rat), z = zoQ c i o ∧ Bq 30 c.1 ∧ Bq 30 c.2 ∧ Bq 30 i ∧ Bq 30 o := by
  unfold shoZ at hs
  rw [Bool.and_eq_true, Bool.and_eq_true, Bool.and_eq_true] at hs
  obtain ⟨⟨⟨a, b⟩, c⟩, d⟩ := hs
  obtain ⟨zl, e, hz⟩ := texts30 (l := [z.1.1, z.1.2, z.2.1, z.2.2]) (fun p hp => by
    rcases List.mem_cons.1 hp with rfl | hp
    · exact a
    rcases List.mem_cons.1 hp with rfl | hp
    · exact b
    rcases List.mem_cons.1 hp with rfl | hp
    · exact c
    · rw [List.mem_singleton.1 hp]; exact d) h
  have hlen : zl.length = 4 := by have h := congrArg List.length e; rw [rx_len] at h; exact h.symm
  match zl, hlen, e with
  | [x, y, i, o], _, e =>
    simp only [rx, List.map_cons, List.map_nil, List.cons.injEq, and_true] at e
    exact ⟨(x, y), i, o, Prod.ext (Prod.ext e.1 e.2.1) (Prod.ext e.2.2.1 e.2.2.2), hz x (by simp), hz y (by simp), hz i (by simp), hz o (by simp)⟩
theorem few_len {l : List PZ} (hf : fewP l = true) : l.length ≤ maxLen := by
  unfold fewP at hf
  rw [Bool.or_eq_true, Bool.and_eq_true, decide_eq_true_eq, decide_eq_true_eq, decide_eq_true_eq] at hf
  unfold maxLen
  omega
theorem few_giv {l : List PZ} (hf : fewP l = true) (h : givP l = 0) : l.length ≤ 8 := by
  unfold fewP at hf
  rw [Bool.or_eq_true, Bool.and_eq_true, decide_eq_true_eq, decide_eq_true_eq, decide_eq_true_eq] at hf
  have := (givP_iff.1 h).1
  omega
theorem at_zero {l : List PZ} {c : CT} (h : atC l c = 0) : givP l = 0 ∧ chkRs [c.1, c.2] = 0 := by
  unfold atC at h
  by_cases hg : givP l = 0
  · rw [if_neg (by omega)] at h
    exact ⟨hg, h⟩
  · rw [if_pos hg] at h
    exact absurd h hg
theorem at_both {l : List PZ} {z : ZT} (hf : fewP l = true) (hs : shoZ z = true) : ∃ (zt : ZT) (n : Nat), ∀ (vl : Value) (w : World), Glob w → RdV w vl l →
    Calls Tryz.prog 21 #[vl, ceV z.1] w (Ret w (.tuple #[zoV zt, .int .i64 (n : Int)])) ∧ Calls Tryz.prog 22 #[vl, ceV z.1] w (Ret w (.tuple #[zoV zt, .int .i64 (n : Int)])) := by
  obtain ⟨l1, l2, _, _⟩ := short_zone hs
  by_cases h : atC l z.1 = 0
  · obtain ⟨hgv, hc⟩ := at_zero h
    obtain ⟨c, e, b1, b2⟩ := center_right hs hc
    rw [e]
    exact ⟨zoQ c (innQ l c) (outQ l c), 0, fun vl w hg hl => ⟨pAt_ok vl l c 30 w hg hl hgv b1 b2 (by decide), rAt_ok vl l c 30 w hl hgv b1 b2 (by decide) (by decide)⟩⟩
  · exact ⟨zo0, atC l z.1, fun vl w hg hl => ⟨pAt_bad vl l z.1 w hg hl l1 l2 h, rAt_bad vl l z.1 w hl (few_len hf) l1 l2 h⟩⟩
def ConE (w : World) (l1 l2 : List Int) (n : Nat) (e : Ending) (w' : World) : Prop := ∃ v1 v2, e = .returned (.tuple #[v1, v2, .int .i64 (n : Int)]) ∧ RdN w' v1 l1 ∧ RdN w' v2 l2 ∧ Below w.heap.size w w'
theorem conE_nil {f : Nat} {args : Array Value} {w : World} {n : Nat} (h : Calls Tryz.prog f args w (Ret w (.tuple #[.slice none 0 0, .slice none 0 0, .int .i64 (n : Int)]))) : Calls Tryz.prog f args w (ConE w [] [] n) := by
  refine h.mono ?_
  rintro e w' ⟨rfl, hb⟩
  exact ⟨_, _, rfl, ⟨_, _, rfl, Or.inl rfl⟩, ⟨_, _, rfl, Or.inl rfl⟩, hb⟩
theorem contacts_both {l : List PZ} {z : ZT} (hf : fewP l = true) (hs : shoZ z = true) : ∃ (l1 l2 : List Int) (n : Nat), l1.length ≤ 1000 ∧ l2.length ≤ 1000 ∧ ∀ (vl : Value) (w : World), Glob w → RdV w vl l →
    Calls Tryz.prog 23 #[vl, zoV z] w (ConE w l1 l2 n) ∧ Calls Tryz.prog 24 #[vl, zoV z] w (ConE w l1 l2 n) := by
  obtain ⟨z1, z2, z3, z4⟩ := short_zone hs
  by_cases hgv : givP l = 0
  · by_cases hc : chkRs [z.1.1, z.1.2, z.2.1, z.2.2] = 0
    · obtain ⟨c, i, o, rfl, b1, b2, b3, b4⟩ := zone_right hs hc
      by_cases ho : i < 0 ∨ o < i
      · exact ⟨[], [], 9, by decide, by decide, fun vl w hg hl => ⟨conE_nil (pcontacts_C vl l c i o w hg hl hgv b1 b2 b3 b4 ho), conE_nil (rcontacts35_C vl l c i o w hl hgv b1 b2 b3 b4 ho)⟩⟩
      · by_cases he : innQ l c = i
        · by_cases he2 : outQ l c = o
          · have h8 := few_giv hf hgv
            have h1 := conT_len (farF l c) i l.length
            have h2 := conT_len (farF l c) o l.length
            exact ⟨conT (farF l c) i l.length, conT (farF l c) o l.length, 0, by omega, by omega, fun vl w hg hl => ⟨pcontacts_F3 vl l c i o w hg hl hgv b1 b2 b3 b4 ho he he2, rcontacts35_F3 vl l c i o w hl hgv b1 b2 b3 b4 ho he he2⟩⟩
          · exact ⟨[], [], 14, by decide, by decide, fun vl w hg hl => ⟨conE_nil (pcontacts_F2 vl l c i o w hg hl hgv b1 b2 b3 b4 ho he he2), conE_nil (rcontacts35_F2 vl l c i o w hl hgv b1 b2 b3 b4 ho he he2)⟩⟩
        · exact ⟨[], [], 14, by decide, by decide, fun vl w hg hl => ⟨conE_nil (pcontacts_F1 vl l c i o w hg hl hgv b1 b2 b3 b4 ho he), conE_nil (rcontacts35_F1 vl l c i o w hl hgv b1 b2 b3 b4 ho he)⟩⟩
    · exact ⟨[], [], chkRs [z.1.1, z.1.2, z.2.1, z.2.2], by decide, by decide, fun vl w hg hl => ⟨conE_nil (pcontacts_B vl l z w hg hl hgv z1 z2 z3 z4 hc), conE_nil (rcontacts35_B vl l z w hl hgv z1 z2 z3 z4 hc)⟩⟩
  · exact ⟨[], [], givP l, by decide, by decide, fun vl w _ hl => ⟨conE_nil (pcontacts_A vl l z w hl hgv), conE_nil (rcontacts35_A vl l z w hl (few_len hf) hgv)⟩⟩
theorem narrow_both {z : ZT} (hs : shoZ z = true) (t : Int) : ∃ (b : Bool) (n : Nat), ∀ w : World, Glob w →
    Calls Tryz.prog 26 #[zoV z, .int .i64 t] w (Ret w (.tuple #[.bool b, .int .i64 (n : Int)])) ∧ Calls Tryz.prog 27 #[zoV z, .int .i64 t] w (Ret w (.tuple #[.bool b, .int .i64 (n : Int)])) := by
  obtain ⟨z1, z2, z3, z4⟩ := short_zone hs
  by_cases hc : chkRs [z.1.1, z.1.2, z.2.1, z.2.2] = 0
  · obtain ⟨c, i, o, rfl, b1, b2, b3, b4⟩ := zone_right hs hc
    exact ⟨_, _, fun w hg => ⟨pNarrow_ok c i o t w hg b1 b2 b3 b4, rnarrow35_ok c i o t 30 w b1 b2 b3 b4 (by decide) (by decide)⟩⟩
  · exact ⟨_, _, fun w hg => ⟨pNarrow_bad z t w hg z1 z2 z3 z4 hc, rnarrow35_bad z t w z1 z2 z3 z4 hc⟩⟩
theorem round_both {l : List PZ} {z : ZT} (hf : fewP l = true) (hs : shoZ z = true) (t : Int) : ∃ (b : Bool) (n : Nat), ∀ (vl : Value) (w : World), Glob w → RdV w vl l →
    Calls Tryz.prog 28 #[vl, ceV z.1, .int .i64 t] w (Ret w (.tuple #[.bool b, .int .i64 (n : Int)])) ∧ Calls Tryz.prog 29 #[vl, ceV z.1, .int .i64 t] w (Ret w (.tuple #[.bool b, .int .i64 (n : Int)])) := by
  obtain ⟨l1, l2, _, _⟩ := short_zone hs
  by_cases h : atC l z.1 = 0
  · obtain ⟨hgv, hc⟩ := at_zero h
    obtain ⟨c, e, b1, b2⟩ := center_right hs hc
    rw [e]
    exact ⟨_, _, fun vl w hg hl => ⟨pRound_ok vl l c t w hg hl hgv b1 b2, rround35 vl l c t 30 w hl hgv b1 b2 (by decide) (by decide)⟩⟩
  · exact ⟨_, _, fun vl w hg hl => ⟨pRound_bad vl l z.1 t w hg hl l1 l2 h, rround35_bad vl l z.1 t w hl (few_len hf) l1 l2 h⟩⟩
theorem verify_both {l : List PZ} {z : ZT} {ws : List (List UInt8)} (hf : fewP l = true) (hs : shoZ z = true) (hn : ws.length ≤ 20) (hw : ∀ p ∈ ws, shortB p = true) : ∃ n : Nat, ∀ (vl vw : Value) (w : World), Glob w → RdV w vl l → RdT w vw ws →
    Calls Tryz.prog 33 #[vl, zoV z, vw] w (Ret w (.int .i64 (n : Int))) ∧ Calls Tryz.prog 34 #[vl, zoV z, vw] w (Ret w (.int .i64 (n : Int))) := by
  obtain ⟨z1, z2, z3, z4⟩ := short_zone hs
  have hv : ∀ (vl vw : Value) (w : World), RdV w vl l → RdT w vw ws → VfA w vl vw l ws := fun vl vw w hl hw' => ⟨hl, hw', few_len hf, by omega, fun p hp => by have := short_num (hw p hp); omega⟩
  by_cases hgv : givP l = 0
  · by_cases hc : chkRs [z.1.1, z.1.2, z.2.1, z.2.2] = 0
    · obtain ⟨c, i, o, rfl, b1, b2, b3, b4⟩ := zone_right hs hc
      by_cases ho : i < 0 ∨ o < i
      · exact ⟨9, fun vl vw w hg hl h => ⟨pverify_C vl vw l ws c i o w hg (hv vl vw w hl h) hgv b1 b2 b3 b4 ho, rverify35_C vl vw l ws c i o w (hv vl vw w hl h) hgv b1 b2 b3 b4 ho⟩⟩
      · by_cases hlen : ws.length = l.length
        · by_cases hcw : chkRs ws = 0
          · obtain ⟨wq, rfl, hwb⟩ := texts30 hw hcw
            have hlen' : wq.length = l.length := by rw [← hlen, rx_len]
            have h8 := few_giv hf hgv
            by_cases he : innQ l c = i
            · by_cases he2 : outQ l c = o
              · exact ⟨if prvB l wq (o - i) = true then 0 else 15, fun vl vw w hg hl h => by
                  have hp := pverify_F3 vl vw l wq c i o w hg (hv vl vw w hl h) hgv b1 b2 b3 b4 ho hlen' h8 hwb he he2
                  have hr := rverify35_F3 vl vw l wq c i o w (hv vl vw w hl h) hgv b1 b2 b3 b4 ho hlen' h8 hwb he he2
                  have e : (if prvB l wq (o - i) = true then (0 : Int) else 15) = ((if prvB l wq (o - i) = true then 0 else 15 : Nat) : Int) := by split <;> rfl
                  rw [e] at hp hr
                  exact ⟨hp, hr⟩⟩
              · exact ⟨14, fun vl vw w hg hl h => ⟨pverify_F2 vl vw l wq c i o w hg (hv vl vw w hl h) hgv b1 b2 b3 b4 ho hlen' h8 hwb he he2, rverify35_F2 vl vw l wq c i o w (hv vl vw w hl h) hgv b1 b2 b3 b4 ho hlen' h8 hwb he he2⟩⟩
            · exact ⟨14, fun vl vw w hg hl h => ⟨pverify_F1 vl vw l wq c i o w hg (hv vl vw w hl h) hgv b1 b2 b3 b4 ho hlen' h8 hwb he, rverify35_F1 vl vw l wq c i o w (hv vl vw w hl h) hgv b1 b2 b3 b4 ho hlen' h8 hwb he⟩⟩
          · exact ⟨chkRs ws, fun vl vw w hg hl h => ⟨pverify_E vl vw l ws c i o w hg (hv vl vw w hl h) hgv b1 b2 b3 b4 ho hlen hcw, rverify35_E vl vw l ws c i o w (hv vl vw w hl h) hgv b1 b2 b3 b4 ho hlen hcw⟩⟩
        · exact ⟨8, fun vl vw w hg hl h => ⟨pverify_D vl vw l ws c i o w hg (hv vl vw w hl h) hgv b1 b2 b3 b4 ho hlen, rverify35_D vl vw l ws c i o w (hv vl vw w hl h) hgv b1 b2 b3 b4 ho hlen⟩⟩
    · exact ⟨chkRs [z.1.1, z.1.2, z.2.1, z.2.2], fun vl vw w hg hl h => ⟨pverify_B vl vw l ws z w hg (hv vl vw w hl h) hgv z1 z2 z3 z4 hc, rverify35_B vl vw l ws z w (hv vl vw w hl h) hgv z1 z2 z3 z4 hc⟩⟩
  · exact ⟨givP l, fun vl vw w _ hl h => ⟨pverify_A vl vw l ws z w (hv vl vw w hl h) hgv, rverify35_A vl vw l ws z w (hv vl vw w hl h) hgv⟩⟩
end W
end Go.Proofs.YtijpgddpejiohaaGreatDoor
end
section
namespace Go.Proofs.YtijpgddpejiohaaGreatDoor
open Go Go.RowKit Go.Deep Go.Sort
namespace W
open M
attribute [local go_sem] bs_size bs_toList bs_get bs_extract bs_append bs_lit0 bs_lit1 lit1_bs
set_option maxHeartbeats 2000000
set_option maxRecDepth 20000
theorem pfew35 (vl : Value) (l : List PZ) (z : ZT) (w : World) (hl : RdV w vl l) (l1 : z.1.1.length ≤ maxLen) (l2 : z.1.2.length ≤ maxLen) (l3 : z.2.1.length ≤ maxLen) (l4 : z.2.2.length ≤ maxLen) :
    Calls Tryz.prog 19 #[vl, zoV z] w (Ret w (.bool (fewP l && shoZ z))) := by
  have HF := Lib.hid (fun W (hW : Below w.heap.size w W) => rfew35 vl l W (hl.below hW))
  have HS := Lib.hid (fun W => rshort35 z W l1 l2 l3 l4)
  obtain ⟨A, cap, rfl⟩ := hl.len
  obtain ⟨⟨ta, tb⟩, tc, td⟩ := z
  generalize fewP l = b1 at *
  generalize shoZ ((ta, tb), tc, td) = b2 at *
  unfold zoV at *
  simp only at *
  have HR := Lib.hid (And.intro (rnw (w := w) (t := 43) (xs := [.string (bs ta), .string (bs tb), .string (bs tc), .string (bs td)])) (bel_alloc (Below.refl w.heap.size w) (.cells #[.string (bs ta), .string (bs tb), .string (bs tc), .string (bs td)] 43 (0, 0))))
  clear hl l1 l2 l3 l4
  go_enter Tryz.func19, Tryz.ntmps19
  go_wp2_with fail
  refine (HF.out _ HR.out.2).mono ?_
  rintro e w1 ⟨rfl, hb1⟩
  have H1 := Lib.hid (And.intro (HR.out.1.below' hb1) (bel_to HR.out.2 hb1))
  clear hb1 HR HF
  cases b1 with
  | false =>
    go_wp2
    go_ret
    exact Ret.of rfl H1.out.2
  | true =>
    have x0 := H1.out.1.cell (i := 0) rfl
    have x1 := H1.out.1.cell (i := 1) rfl
    have x2 := H1.out.1.cell (i := 2) rfl
    have x3 := H1.out.1.cell (i := 3) rfl
    go_wp2_with fail
    refine (HS.out _).mono ?_
    rintro e w2 ⟨rfl, hb2⟩
    have hb := bel_to H1.out.2 hb2
    clear hb2 H1 HS x0 x1 x2 x3
    go_wp2
    go_ret
    exact Ret.of rfl hb
theorem pequalN (va vb : Value) (l : List Int) (w : World) (ha : RdN w va l) (hb : RdN w vb l) (hn : l.length ≤ 1000) :
    Calls Tryz.prog 25 #[va, vb] w (Ret w (.bool true)) := by
  obtain ⟨A1, c1, rfl⟩ := ha.len
  obtain ⟨A2, c2, rfl⟩ := hb.len
  have H1 := Lib.hid ha
  have H2 := Lib.hid hb
  clear ha hb
  go_enter Tryz.func25, Tryz.ntmps25
  go_wp2
  go_loopw [13] (fun iv wr => ∃ i : Nat, iv = .int .i64 (i : Int) ∧ i ≤ l.length ∧ Below w.heap.size w wr) (fun iv _ => l.length - (intOf iv).toNat)
  case atStart => exact ⟨0, rfl, by omega, Below.refl _ _⟩
  case round =>
    obtain ⟨i, rfl, hi, hbw⟩ := hrel
    by_cases hlt : i < l.length
    · obtain ⟨b1, o1, rfl, _, t1⟩ := RdN.row (n := l.length) (H1.out.below hbw) i hlt
      obtain ⟨b2, o2, rfl, _, t2⟩ := RdN.row (n := l.length) (H2.out.below hbw) i hlt
      have d1 := t1 i hlt
      have d2 := t2 i hlt
      have hi0 : (0 : Int) ≤ (i : Int) := by omega
      have his : (i : Int) < (l.length : Int) := by omega
      clear t1 t2
      generalize l[i] = s at *
      go_wp2_with fail
      refine wp_region_quiet_lit (by kernel_rfl) (by kernel_rfl) ?_
      repeat (go_big_quiet_step (fail))
      refine wpQuiet_nil ?_
      intro _ hw'
      obtain ⟨n1, hw''⟩ := hw'
      subst hw''
      have HB := Lib.hid (Below.drewN hbw n1)
      go_wp2
      go_roundw
      case rel => exact ⟨i + 1, by go_num, hlt, HB.out⟩
      case measure => simp [intOf]; omega
    · obtain rfl : i = l.length := by omega
      go_wp2
      go_ret
      exact Ret.of rfl hbw
theorem pver1 (s : List UInt8) (w : World) (hs : s.length ≤ maxLen) : Calls Tryz.prog 31 #[.string (bs s)] w (Ret w (.bool (!shortB s))) := by
  unfold maxLen at hs
  have H1 := Lib.hid (fun W => short_any s W (by omega))
  clear hs
  generalize shortB s = b at *
  go_enter Tryz.func31, Tryz.ntmps31
  go_wp2_with fail
  refine (H1.out _).mono ?_
  rintro e w1 ⟨rfl, hb1⟩
  go_wp2
  go_ret
  exact Ret.of rfl hb1
theorem ent_pver1 : Enters Tryz.prog 31 := enters_of Tryz.func31 (by kernel_rfl) rfl
theorem pindexT (vw : Value) (ws : List (List UInt8)) (w : World) (hw : RdT w vw ws) (hn : ws.length ≤ 1000) (hs : ∀ p ∈ ws, p.length ≤ maxLen) :
    Calls Tryz.prog 89 #[vw, .func (.func 31) #[] #[]] w (fun e w' => ∃ k : Int, e = .returned (.int .i64 k) ∧ decide (0 ≤ k) = ws.any (fun p => !shortB p) ∧ Below w.heap.size w w') := by
  have HW := Lib.hid hw
  have HF := Lib.hid (fun W p (hp : p ∈ ws) => pver1 p W (hs p hp))
  have hf := ent_pver1
  unfold Enters at hf
  obtain ⟨A1, c1, rfl⟩ := hw.len
  clear hw hs
  go_enter Tryz.func89, Tryz.ntmps89
  go_wp2
  go_loopw [8] (fun iv wr => ∃ i : Nat, iv = .int .i64 (i : Int) ∧ i ≤ ws.length ∧ (ws.take i).any (fun p => !shortB p) = false ∧ Below w.heap.size w wr) (fun iv _ => ws.length - (intOf iv).toNat)
  case atStart => exact ⟨0, rfl, by omega, by simp, Below.refl _ _⟩
  case round =>
    obtain ⟨i, rfl, hi, hno, hbw⟩ := hrel
    have HN := Lib.hid hno
    clear hno
    by_cases hlt : i < ws.length
    · obtain ⟨b1, o1, rfl, t1⟩ := RdT.row (n := ws.length) (HW.out.below hbw) i hlt
      have d1 := t1.val i hlt
      have hi0 : (0 : Int) ≤ (i : Int) := by omega
      have his : (i : Int) < (ws.length : Int) := by omega
      have hm := List.getElem_mem hlt
      have HX := Lib.hid (HF.out wr _ hm)
      have hany : (ws.take (i + 1)).any (fun p => !shortB p) = !shortB ws[i] := by
        rw [List.take_succ_eq_append_getElem hlt, List.any_append, HN.out]; simp
      have HA := Lib.hid hany
      have HY := Lib.hid (fun (hp : (!shortB ws[i]) = true) => show ws.any (fun p => !shortB p) = true from List.any_eq_true.2 ⟨_, hm, hp⟩)
      clear t1 hm hany
      generalize hpx : (!shortB ws[i]) = px at *
      have HP := Lib.hid hpx
      clear hpx
      generalize ws[i] = s at *
      go_wp2_with fail
      refine (HX.out).mono ?_
      rintro e w1 ⟨rfl, hb1⟩
      have hb1' := bel_to hbw hb1
      cases px with
      | true =>
        have HT := Lib.hid (HY.out rfl)
        clear HY HA HP
        go_wp2
        go_ret
        exact ⟨_, rfl, by rw [HT.out]; simp, hb1'⟩
      | false =>
        go_wp2
        go_roundw
        case rel => exact ⟨i + 1, by go_num, by omega, HA.out, hb1'⟩
        case measure => simp [intOf]; omega
    · obtain rfl : i = ws.length := by omega
      rw [List.take_length] at HN
      go_wp2
      go_ret
      exact ⟨_, rfl, by rw [HN.out]; decide, hbw⟩
theorem pcontainsT (vw : Value) (ws : List (List UInt8)) (w : World) (hw : RdT w vw ws) (hn : ws.length ≤ 1000) (hs : ∀ p ∈ ws, p.length ≤ maxLen) :
    Calls Tryz.prog 30 #[vw, .func (.func 31) #[] #[]] w (Ret w (.bool (ws.any (fun p => !shortB p)))) := by
  have HI := Lib.hid (pindexT vw ws w hw hn hs)
  obtain ⟨A1, c1, rfl⟩ := hw.len
  clear hw hn hs
  generalize ws.any (fun p => !shortB p) = a at *
  go_enter Tryz.func30, Tryz.ntmps30
  go_wp2_with fail
  refine (HI.out).mono ?_
  rintro e w1 ⟨k, rfl, hk, hb1⟩
  have HK := Lib.hid hk
  clear hk
  go_wp2
  go_ret
  exact Ret.of (by rw [← HK.out]; rfl) hb1
end W
end Go.Proofs.YtijpgddpejiohaaGreatDoor
end
section
namespace Go.Proofs.YtijpgddpejiohaaGreatDoor
open Go
namespace M
theorem WidIs.congr {l l' : List PZ} {x : Rat} (h : WidIs l x) (hl : l ≠ []) (hs : ∀ p, p ∈ l ↔ p ∈ l') : WidIs l' x := by
  have hl' : l' ≠ [] := by
    obtain ⟨q, hq⟩ := List.exists_mem_of_ne_nil l hl
    exact List.ne_nil_of_mem ((hs q).1 hq)
  have e : ∀ c, widQ l' c = widQ l c := fun c => by
    have a := wid_map (c := c) (c' := c) (k := 1) hl fun p hp => ⟨p, (hs p).1 hp, by grind⟩
    have b := wid_map (c := c) (c' := c) (k := 1) hl' fun p hp => ⟨p, (hs p).2 hp, by grind⟩
    grind
  obtain ⟨c, h1⟩ := h.1
  exact ⟨⟨c, by rw [e]; exact h1⟩, fun c => by rw [e]; exact h.2 c⟩
def leftZ (a b c : PZ) : Int := (b.1 - a.1) * (c.2 - a.2) - (b.2 - a.2) * (c.1 - a.1)
def farZ (a b : PZ) : Int := (a.1 - b.1) * (a.1 - b.1) + (a.2 - b.2) * (a.2 - b.2)
theorem sq_nn (x : Rat) : 0 ≤ x * x := by
  rcases @Rat.le_total 0 x with h | h
  · exact Rat.mul_nonneg h h
  · have := Rat.mul_nonneg (show 0 ≤ -x by grind) (show 0 ≤ -x by grind)
    grind
theorem circum (ux uy vx vy : Rat) (h : ux * vy - uy * vx ≠ 0) : ∃ d1 d2 : Rat, ux * ux + uy * uy = 2 * (ux * d1 + uy * d2) ∧ vx * vx + vy * vy = 2 * (vx * d1 + vy * d2) := by
  obtain ⟨L, hL⟩ : ∃ L, L = ux * vy - uy * vx := ⟨_, rfl⟩
  rw [← hL] at h
  have key : ∀ X : Rat, 2 * L * (X / (2 * L)) = X := fun X => by
    have h2 : (2 * L : Rat) ≠ 0 := fun e => h (by grind)
    rw [Rat.mul_comm, Rat.div_mul_cancel h2]
  refine ⟨((ux * ux + uy * uy) * vy - (vx * vx + vy * vy) * uy) / (2 * L), ((vx * vx + vy * vy) * ux - (ux * ux + uy * uy) * vx) / (2 * L), ?_, ?_⟩
  · have k1 := key ((ux * ux + uy * uy) * vy - (vx * vx + vy * vy) * uy)
    have k2 := key ((vx * vx + vy * vy) * ux - (ux * ux + uy * uy) * vx)
    generalize ((ux * ux + uy * uy) * vy - (vx * vx + vy * vy) * uy) / (2 * L) = d1 at *
    generalize ((vx * vx + vy * vy) * ux - (ux * ux + uy * uy) * vx) / (2 * L) = d2 at *
    have : L * ((ux * ux + uy * uy) - 2 * (ux * d1 + uy * d2)) = 0 := by grind
    rcases Rat.mul_eq_zero.1 this with e | e
    · exact absurd e h
    · grind
  · have k1 := key ((ux * ux + uy * uy) * vy - (vx * vx + vy * vy) * uy)
    have k2 := key ((vx * vx + vy * vy) * ux - (ux * ux + uy * uy) * vx)
    generalize ((ux * ux + uy * uy) * vy - (vx * vx + vy * vy) * uy) / (2 * L) = d1 at *
    generalize ((vx * vx + vy * vy) * ux - (ux * ux + uy * uy) * vx) / (2 * L) = d2 at *
    have : L * ((vx * vx + vy * vy) - 2 * (vx * d1 + vy * d2)) = 0 := by grind
    rcases Rat.mul_eq_zero.1 this with e | e
    · exact absurd e h
    · grind
theorem wid_left {a b c : PZ} (h : leftZ a b c ≠ 0) : WidIs [a, b, c] 0 := by
  have h2 : ((b.1 - a.1 : Int) : Rat) * ((c.2 - a.2 : Int) : Rat) - ((b.2 - a.2 : Int) : Rat) * ((c.1 - a.1 : Int) : Rat) ≠ 0 := fun e => h (by
    rw [← Rat.intCast_mul, ← Rat.intCast_mul, ← Rat.intCast_sub] at e
    exact Rat.intCast_eq_zero_iff.1 e)
  obtain ⟨d1, d2, e1, e2⟩ := circum _ _ _ _ h2
  simp only [Rat.intCast_sub] at e1 e2
  refine wid_circle (by simp) (c := ((a.1 : Rat) + d1, (a.2 : Rat) + d2)) (r := d1 * d1 + d2 * d2) fun p hp => ?_
  simp only [List.mem_cons, List.not_mem_nil, or_false] at hp
  unfold farQ
  rcases hp with rfl | rfl | rfl
  · simp only; grind
  · simp only; grind
  · simp only; grind
theorem wid_two {l : List PZ} (hl : l ≠ []) {a b : PZ} (h : ∀ p ∈ l, p = a ∨ p = b) : WidIs l 0 := by
  refine wid_circle hl (c := (((a.1 : Rat) + b.1) / 2, ((a.2 : Rat) + b.2) / 2)) (r := farQ a (((a.1 : Rat) + b.1) / 2, ((a.2 : Rat) + b.2) / 2)) fun p hp => ?_
  rcases h p hp with rfl | rfl
  · rfl
  · unfold farQ; simp only; grind
def beforeZ (a b : PZ) : Bool := decide (a.1 < b.1) || (decide (a.1 = b.1) && decide (a.2 < b.2))
theorem between3 {a b c : PZ} (h : leftZ a b c = 0) (h1 : beforeZ a b = true) (h2 : beforeZ b c = true) : ∃ t : Rat, (b.1 : Rat) = a.1 + t * ((c.1 : Rat) - a.1) ∧ (b.2 : Rat) = a.2 + t * ((c.2 : Rat) - a.2) ∧ 0 ≤ t ∧ t ≤ 1 := by
  have hq : (((b.1 : Rat) - a.1) * ((c.2 : Rat) - a.2) - ((b.2 : Rat) - a.2) * ((c.1 : Rat) - a.1)) = 0 := by
    have := congrArg (fun z : Int => (z : Rat)) h
    unfold leftZ at this
    simp only [Rat.intCast_sub, Rat.intCast_mul] at this
    exact this
  unfold beforeZ at h1 h2
  simp only [Bool.or_eq_true, Bool.and_eq_true, decide_eq_true_eq] at h1 h2
  have frac : ∀ x y z : Int, x ≤ y → y ≤ z → x < z → ∃ t : Rat, (y : Rat) = x + t * ((z : Rat) - x) ∧ 0 ≤ t ∧ t ≤ 1 := fun x y z hxy hyz hxz => by
    have hz : (0 : Rat) < (z : Rat) - x := by have := Rat.intCast_lt_intCast.2 hxz; grind
    have hz0 : (z : Rat) - x ≠ 0 := fun e => by rw [e] at hz; exact absurd hz (by decide +kernel)
    have e : ((y : Rat) - x) / ((z : Rat) - x) * ((z : Rat) - x) = (y : Rat) - x := Rat.div_mul_cancel hz0
    have a1 := Rat.intCast_le_intCast.2 hxy
    have a2 := Rat.intCast_le_intCast.2 hyz
    refine ⟨((y : Rat) - x) / ((z : Rat) - x), by rw [e]; grind, ?_, ?_⟩
    · generalize ((y : Rat) - x) / ((z : Rat) - x) = t at *
      rcases @Rat.le_total 0 t with h | h
      · exact h
      · have := Rat.mul_le_mul_of_nonneg_right h (Rat.le_of_lt hz)
        have e3 : (y : Rat) - x = 0 := by grind
        rw [e3] at e
        rcases Rat.mul_eq_zero.1 e with e | e
        · rw [e]; exact Rat.le_refl
        · exact absurd e hz0
    · generalize ((y : Rat) - x) / ((z : Rat) - x) = t at *
      rcases @Rat.le_total t 1 with h | h
      · exact h
      · have := Rat.mul_le_mul_of_nonneg_right h (Rat.le_of_lt hz)
        have e3 : (t - 1) * ((z : Rat) - x) = 0 := by grind
        rcases Rat.mul_eq_zero.1 e3 with e | e
        · have : t = 1 := by grind
          rw [this]; exact Rat.le_refl
        · exact absurd e hz0
  by_cases hx : a.1 < c.1
  · obtain ⟨t, e, t0, t1⟩ := frac a.1 b.1 c.1 (by omega) (by omega) hx
    refine ⟨t, e, ?_, t0, t1⟩
    have hz0 : (c.1 : Rat) - a.1 ≠ 0 := fun e => by have := Rat.intCast_lt_intCast.2 hx; grind
    have : (((b.2 : Rat) - a.2) - t * ((c.2 : Rat) - a.2)) * ((c.1 : Rat) - a.1) = 0 := by rw [e] at hq; grind
    rcases Rat.mul_eq_zero.1 this with e | e
    · grind
    · exact absurd e hz0
  · have e1 : a.1 = b.1 := by omega
    have e2 : b.1 = c.1 := by omega
    obtain ⟨t, e, t0, t1⟩ := frac a.2 b.2 c.2 (by omega) (by omega) (by omega)
    refine ⟨t, ?_, e, t0, t1⟩
    rw [← e2, ← e1]; grind
theorem wid_line {a b c : PZ} (h : leftZ a b c = 0) (h1 : beforeZ a b = true) (h2 : beforeZ b c = true) : ∃ x : Rat, WidIs [a, b, c] x ∧ x * x = (farZ a b : Rat) * (farZ b c : Rat) := by
  obtain ⟨t, ex, ey, t0, t1⟩ := between3 h h1 h2
  obtain ⟨D, hD⟩ : ∃ D : Rat, D = ((c.1 : Rat) - a.1) * ((c.1 : Rat) - a.1) + ((c.2 : Rat) - a.2) * ((c.2 : Rat) - a.2) := ⟨_, rfl⟩
  have cvx : ∀ m : Rat × Rat, farQ b m = (1 - t) * farQ a m + t * farQ c m - t * (1 - t) * D := fun m => by
    unfold farQ
    rw [ex, ey, hD]
    grind
  refine ⟨t * (1 - t) * D, ⟨⟨(((a.1 : Rat) + c.1) / 2, ((a.2 : Rat) + c.2) / 2), ?_⟩, fun m => ?_⟩, ?_⟩
  · have hac : farQ a (((a.1 : Rat) + c.1) / 2, ((a.2 : Rat) + c.2) / 2) = farQ c (((a.1 : Rat) + c.1) / 2, ((a.2 : Rat) + c.2) / 2) := by unfold farQ; simp only; grind
    have hb := cvx (((a.1 : Rat) + c.1) / 2, ((a.2 : Rat) + c.2) / 2)
    generalize (((a.1 : Rat) + c.1) / 2, ((a.2 : Rat) + c.2) / 2) = m at *
    have hD0 : 0 ≤ t * (1 - t) * D := by
      have s1 : 0 ≤ D := by
        rw [hD]
        have := sq_nn ((c.1 : Rat) - a.1)
        have := sq_nn ((c.2 : Rat) - a.2)
        grind
      exact Rat.mul_nonneg (Rat.mul_nonneg t0 (by grind)) s1
    obtain ⟨p, q, hp, hq, e⟩ := wid_ex (l := [a, b, c]) (by simp) m
    have g1 := wid_diff (l := [a, b, c]) (c := m) (p := a) (q := b) (by simp) (by simp)
    simp only [List.mem_cons, List.not_mem_nil, or_false] at hp hq
    rcases hp with rfl | rfl | rfl <;> rcases hq with rfl | rfl | rfl <;> grind
  · have hb := cvx m
    have g1 := wid_diff (l := [a, b, c]) (c := m) (p := a) (q := b) (by simp) (by simp)
    have g2 := wid_diff (l := [a, b, c]) (c := m) (p := c) (q := b) (by simp) (by simp)
    generalize widQ [a, b, c] m = W at *
    have k1 := Rat.mul_le_mul_of_nonneg_left g1 (show 0 ≤ 1 - t by grind)
    have k2 := Rat.mul_le_mul_of_nonneg_left g2 t0
    grind
  · have e1 : (farZ a b : Rat) = t * t * D := by
      unfold farZ
      simp only [Rat.intCast_add, Rat.intCast_mul, Rat.intCast_sub]
      rw [ex, ey, hD]; grind
    have e2 : (farZ b c : Rat) = (1 - t) * (1 - t) * D := by
      unfold farZ
      simp only [Rat.intCast_add, Rat.intCast_mul, Rat.intCast_sub]
      rw [ex, ey, hD]; grind
    rw [e1, e2]; grind
end M
end Go.Proofs.YtijpgddpejiohaaGreatDoor
end
section
namespace Go.Proofs.YtijpgddpejiohaaGreatDoor
open Go
namespace M
def sqL : List PZ := [(0, 0), (10, 0), (10, 10), (0, 10)]
def fiveL : List PZ := [(0, 0), (10, 0), (10, 10), (0, 10), (5, 1)]
theorem wid_sq : WidIs sqL 0 := wid_circle (by decide) (c := (5, 5)) (r := 50) (by decide +kernel)
theorem cert34 {x y W : Rat} (h1 : -26 + 10 * x + 2 * y ≤ W) (h2 : 74 - 10 * x + 2 * y ≤ W) (h3 : 74 + 10 * x - 18 * y ≤ W) : 34 ≤ W := by grind
theorem far5a (x y : Rat) : farQ (0, 0) (x, y) - farQ (5, 1) (x, y) = -26 + 10 * x + 2 * y := by
  unfold farQ
  show ((0 : Rat) - x) * (0 - x) + (0 - y) * (0 - y) - ((5 - x) * (5 - x) + (1 - y) * (1 - y)) = _
  grind
theorem far5b (x y : Rat) : farQ (10, 0) (x, y) - farQ (5, 1) (x, y) = 74 - 10 * x + 2 * y := by
  unfold farQ
  show ((10 : Rat) - x) * (10 - x) + (0 - y) * (0 - y) - ((5 - x) * (5 - x) + (1 - y) * (1 - y)) = _
  grind
theorem far5c (x y : Rat) : farQ (0, 10) (x, y) - farQ (5, 1) (x, y) = 74 + 10 * x - 18 * y := by
  unfold farQ
  show ((0 : Rat) - x) * (0 - x) + (10 - y) * (10 - y) - ((5 - x) * (5 - x) + (1 - y) * (1 - y)) = _
  grind
theorem wid_five : WidIs fiveL 34 := by
  refine ⟨⟨(5, 5), by decide +kernel⟩, fun c => ?_⟩
  obtain ⟨x, y⟩ := c
  have h1 := wid_diff (l := fiveL) (c := (x, y)) (p := (0, 0)) (q := (5, 1)) (by decide) (by decide)
  have h2 := wid_diff (l := fiveL) (c := (x, y)) (p := (10, 0)) (q := (5, 1)) (by decide) (by decide)
  have h3 := wid_diff (l := fiveL) (c := (x, y)) (p := (0, 10)) (q := (5, 1)) (by decide) (by decide)
  rw [far5a] at h1
  rw [far5b] at h2
  rw [far5c] at h3
  exact cert34 h1 h2 h3
end M
end Go.Proofs.YtijpgddpejiohaaGreatDoor
end
