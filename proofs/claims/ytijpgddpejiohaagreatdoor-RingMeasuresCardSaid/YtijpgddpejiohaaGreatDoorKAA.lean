/-
  Chapter 35's laws: RingMeasures.
-/
import Derived.Test.YtijpgddpejiohaaGreatDoorKW
import Derived.Test.YtijpgddpejiohaaGreatDoorKZ
section
namespace Go.Proofs.YtijpgddpejiohaaGreatDoor
open Go Go.RowKit Go.Deep Go.Sort
namespace W
open M
attribute [local go_sem] bs_size bs_toList bs_get bs_extract bs_append bs_lit0 bs_lit1 lit1_bs
set_option maxHeartbeats 2000000
set_option maxRecDepth 20000
theorem measures_law (vl : Value) (l : List PZ) (z : ZT) (w : World) (hg : Glob w) (hl : RdV w vl l) (_hn : l.length ≤ maxLen) (l1 : z.1.1.length ≤ maxLen) (l2 : z.1.2.length ≤ maxLen) (l3 : z.2.1.length ≤ maxLen) (l4 : z.2.2.length ≤ maxLen) :
    Calls Tryz.prog 4 #[vl, zoV z] w (Ret w (.bool true)) := by
  have HAW := Lib.hid (fun W hW => awake35 W hW)
  have HFW := Lib.hid (fun W (hW : Below w.heap.size w W) => pfew35 vl l z W (hl.below hW) l1 l2 l3 l4)
  have HG := Lib.hid hg
  by_cases hf : (fewP l && shoZ z) = true
  · rw [hf] at HFW
    rw [Bool.and_eq_true] at hf
    obtain ⟨zt, n, hat⟩ := at_both hf.1 hf.2
    obtain ⟨li, lo, nc, ni, no, hco⟩ := contacts_both hf.1 hf.2
    have HAT := Lib.hid (fun W (hW : Below w.heap.size w W) => hat vl W (hg.of hW) (hl.below hW))
    have HCO := Lib.hid (fun W (hW : Below w.heap.size w W) => hco vl W (hg.of hW) (hl.below hW))
    have HNI := Lib.hid (And.intro ni no)
    obtain ⟨A, cap, rfl⟩ := hl.len
    obtain ⟨⟨ta, tb⟩, tc, td⟩ := z
    obtain ⟨⟨sa, sb⟩, sc, sd⟩ := zt
    unfold zoV ceV at *
    simp only at *
    have HR := Lib.hid (And.intro (rnw (w := w) (t := 43) (xs := [.string (bs ta), .string (bs tb), .string (bs tc), .string (bs td)])) (bel_alloc (Below.refl w.heap.size w) (.cells #[.string (bs ta), .string (bs tb), .string (bs tc), .string (bs td)] 43 (0, 0))))
    clear hl l1 l2 l3 l4 hf hat hco ni no hg
    go_enter Tryz.func4, Tryz.ntmps4
    go_wp2_with fail
    refine (HFW.out _ HR.out.2).mono ?_
    rintro e w1 ⟨rfl, hb1⟩
    have H1 := Lib.hid (And.intro (HR.out.1.below' hb1) (bel_to HR.out.2 hb1))
    clear hb1 HR HFW
    have x0 := H1.out.1.cell (i := 0) rfl
    have x1 := H1.out.1.cell (i := 1) rfl
    go_wp2_with fail
    refine ((HAT.out _ H1.out.2).1).mono ?_
    rintro e w2 ⟨rfl, hb2⟩
    have ha2 := bel_to hb2 (bel_al w2 (.cells #[.string (bs sa), .string (bs sb), .string (bs sc), .string (bs sd)] 43 (0, 0)))
    have H2 := Lib.hid (And.intro (H1.out.1.below' ha2) (And.intro (rnw (w := w2) (t := 43) (xs := [.string (bs sa), .string (bs sb), .string (bs sc), .string (bs sd)])) (bel_to H1.out.2 ha2)))
    clear x0 x1 hb2 ha2 H1
    have x0 := H2.out.1.cell (i := 0) rfl
    have x1 := H2.out.1.cell (i := 1) rfl
    go_wp2_with fail
    refine ((HAT.out _ H2.out.2.2).2).mono ?_
    rintro e w3 ⟨rfl, hb3⟩
    have ha3 := bel_to hb3 (bel_al w3 (.cells #[.string (bs sa), .string (bs sb), .string (bs sc), .string (bs sd)] 47 (0, 0)))
    have H3 := Lib.hid (And.intro (H2.out.1.below' ha3) (And.intro (H2.out.2.1.below' ha3) (And.intro (rnw (w := w3) (t := 47) (xs := [.string (bs sa), .string (bs sb), .string (bs sc), .string (bs sd)])) (bel_to H2.out.2.2 ha3))))
    clear x0 x1 hb3 ha3 H2 HAT
    generalize w2.heap.size = g1 at *
    have x0 := H3.out.1.cell (i := 0) rfl
    have x1 := H3.out.1.cell (i := 1) rfl
    have x2 := H3.out.1.cell (i := 2) rfl
    have x3 := H3.out.1.cell (i := 3) rfl
    go_wp2_with fail
    refine (HCO.out _ H3.out.2.2.2).1.mono ?_
    rintro e w4 ⟨v1, v2, rfl, r1, r2, hb4⟩
    have H4 := Lib.hid (And.intro (H3.out.1.below' hb4) (And.intro (H3.out.2.1.below' hb4) (And.intro (H3.out.2.2.1.below' hb4) (bel_to H3.out.2.2.2 hb4))))
    obtain ⟨A1, k1, rfl⟩ := r1.len
    obtain ⟨A2, k2, rfl⟩ := r2.len
    have R4 := Lib.hid (And.intro r1 r2)
    clear x0 x1 x2 x3 hb4 H3 r1 r2
    generalize w3.heap.size = g2 at *
    have x0 := H4.out.1.cell (i := 0) rfl
    have x1 := H4.out.1.cell (i := 1) rfl
    have x2 := H4.out.1.cell (i := 2) rfl
    have x3 := H4.out.1.cell (i := 3) rfl
    go_wp2_with fail
    refine (HCO.out _ H4.out.2.2.2).2.mono ?_
    rintro e w5 ⟨v3, v4, rfl, r3, r4, hb5⟩
    have H5 := Lib.hid (And.intro (H4.out.2.1.below' hb5) (And.intro (H4.out.2.2.1.below' hb5) (bel_to H4.out.2.2.2 hb5)))
    obtain ⟨A3, k3, rfl⟩ := r3.len
    obtain ⟨A4, k4, rfl⟩ := r4.len
    have R5 := Lib.hid (And.intro (R4.out.1.below hb5) (And.intro (R4.out.2.below hb5) (And.intro r3 r4)))
    clear x0 x1 x2 x3 hb5 H4 R4 r3 r4 HCO
    go_wp2_with fail
    refine (HAW.out _ (HG.out.of H5.out.2.2)).mono ?_
    rintro e w6 ⟨rfl, hb6⟩
    have H6 := Lib.hid (And.intro (H5.out.1.below' hb6) (And.intro (H5.out.2.1.below' hb6) (bel_to H5.out.2.2 hb6)))
    have R6 := Lib.hid (And.intro (R5.out.1.below hb6) (And.intro (R5.out.2.1.below hb6) (And.intro (R5.out.2.2.1.below hb6) (R5.out.2.2.2.below hb6))))
    clear hb6 H5 R5 HAW HG
    have x0 := H6.out.1.cell (i := 0) rfl
    have x1 := H6.out.1.cell (i := 1) rfl
    have x2 := H6.out.1.cell (i := 2) rfl
    have x3 := H6.out.1.cell (i := 3) rfl
    have y0 := H6.out.2.1.cell (i := 0) rfl
    have y1 := H6.out.2.1.cell (i := 1) rfl
    have y2 := H6.out.2.1.cell (i := 2) rfl
    have y3 := H6.out.2.1.cell (i := 3) rfl
    go_wp2_with fail
    refine (pequalN _ _ li _ R6.out.1 R6.out.2.2.1 HNI.out.1).mono ?_
    rintro e w7 ⟨rfl, hb7⟩
    have H7 := Lib.hid (bel_to H6.out.2.2 hb7)
    have R7 := Lib.hid (And.intro (R6.out.2.1.below hb7) (R6.out.2.2.2.below hb7))
    clear hb7 H6 R6 x0 x1 x2 x3 y0 y1 y2 y3
    go_wp2_with fail
    refine (pequalN _ _ lo _ R7.out.1 R7.out.2 HNI.out.2).mono ?_
    rintro e w8 ⟨rfl, hb8⟩
    have hb8' := bel_to H7.out hb8
    clear hb8 H7 R7
    go_wp2
    go_ret
    exact Ret.of rfl hb8'
  · rw [Bool.not_eq_true] at hf
    rw [hf] at HFW
    obtain ⟨A, cap, rfl⟩ := hl.len
    obtain ⟨⟨ta, tb⟩, tc, td⟩ := z
    unfold zoV at *
    simp only at *
    have HR := Lib.hid (And.intro (rnw (w := w) (t := 43) (xs := [.string (bs ta), .string (bs tb), .string (bs tc), .string (bs td)])) (bel_alloc (Below.refl w.heap.size w) (.cells #[.string (bs ta), .string (bs tb), .string (bs tc), .string (bs td)] 43 (0, 0))))
    clear hl l1 l2 l3 l4 hf hg
    go_enter Tryz.func4, Tryz.ntmps4
    go_wp2_with fail
    refine (HFW.out _ HR.out.2).mono ?_
    rintro e w1 ⟨rfl, hb1⟩
    have H1 := Lib.hid (bel_to HR.out.2 hb1)
    clear hb1 HR HFW
    go_wp2_with fail
    refine (HAW.out _ (HG.out.of H1.out)).mono ?_
    rintro e w2 ⟨rfl, hb2⟩
    go_wp2
    go_ret
    exact Ret.of rfl (bel_to H1.out hb2)
end W
end Go.Proofs.YtijpgddpejiohaaGreatDoor
end
