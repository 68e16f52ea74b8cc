/-
  Chapter 35's laws: RingNarrows.
-/
import Derived.Test.YtijpgddpejiohaaGreatDoorKW
import Derived.Test.YtijpgddpejiohaaGreatDoorKZ
section
namespace Go.Proofs.YtijpgddpejiohaaGreatDoor
open Go Go.RowKit Go.Deep Go.Sort
namespace W
open M
attribute [local go_sem] bs_size bs_toList bs_get bs_extract bs_append bs_lit0 bs_lit1 lit1_bs
set_option maxHeartbeats 2000000
set_option maxRecDepth 20000
theorem narrows_law (vl : Value) (l : List PZ) (z : ZT) (t : Int) (w : World) (hg : Glob w) (hl : RdV w vl l) (_hn : l.length ≤ maxLen) (l1 : z.1.1.length ≤ maxLen) (l2 : z.1.2.length ≤ maxLen) (l3 : z.2.1.length ≤ maxLen) (l4 : z.2.2.length ≤ maxLen) :
    Calls Tryz.prog 5 #[vl, zoV z, .int .i64 t] w (Ret w (.bool true)) := by
  have HAW := Lib.hid (fun W hW => awake35 W hW)
  have HFW := Lib.hid (fun W (hW : Below w.heap.size w W) => pfew35 vl l z W (hl.below hW) l1 l2 l3 l4)
  have HG := Lib.hid hg
  by_cases hf : (fewP l && shoZ z) = true
  · rw [hf] at HFW
    rw [Bool.and_eq_true] at hf
    obtain ⟨b, n, hna⟩ := narrow_both hf.2 t
    obtain ⟨b', n', hro⟩ := round_both hf.1 hf.2 t
    have HNA := Lib.hid (fun W (hW : Below w.heap.size w W) => hna W (hg.of hW))
    have HRO := Lib.hid (fun W (hW : Below w.heap.size w W) => hro vl W (hg.of hW) (hl.below hW))
    obtain ⟨A, cap, rfl⟩ := hl.len
    obtain ⟨⟨ta, tb⟩, tc, td⟩ := z
    unfold zoV ceV at *
    simp only at *
    have HR := Lib.hid (And.intro (rnw (w := w) (t := 43) (xs := [.string (bs ta), .string (bs tb), .string (bs tc), .string (bs td)])) (bel_alloc (Below.refl w.heap.size w) (.cells #[.string (bs ta), .string (bs tb), .string (bs tc), .string (bs td)] 43 (0, 0))))
    clear hl l1 l2 l3 l4 hf hna hro hg
    go_enter Tryz.func5, Tryz.ntmps5
    go_wp2_with fail
    refine (HFW.out _ HR.out.2).mono ?_
    rintro e w1 ⟨rfl, hb1⟩
    have H1 := Lib.hid (And.intro (HR.out.1.below' hb1) (bel_to HR.out.2 hb1))
    clear hb1 HR HFW
    have x0 := H1.out.1.cell (i := 0) rfl
    have x1 := H1.out.1.cell (i := 1) rfl
    have x2 := H1.out.1.cell (i := 2) rfl
    have x3 := H1.out.1.cell (i := 3) rfl
    go_wp2_with fail
    refine ((HNA.out _ H1.out.2).1).mono ?_
    rintro e w2 ⟨rfl, hb2⟩
    have H2 := Lib.hid (And.intro (H1.out.1.below' hb2) (bel_to H1.out.2 hb2))
    clear hb2 H1 x0 x1 x2 x3
    have x0 := H2.out.1.cell (i := 0) rfl
    have x1 := H2.out.1.cell (i := 1) rfl
    have x2 := H2.out.1.cell (i := 2) rfl
    have x3 := H2.out.1.cell (i := 3) rfl
    go_wp2_with fail
    refine ((HNA.out _ H2.out.2).2).mono ?_
    rintro e w3 ⟨rfl, hb3⟩
    have H3 := Lib.hid (And.intro (H2.out.1.below' hb3) (bel_to H2.out.2 hb3))
    clear hb3 H2 x0 x1 x2 x3
    have x0 := H3.out.1.cell (i := 0) rfl
    have x1 := H3.out.1.cell (i := 1) rfl
    have x2 := H3.out.1.cell (i := 2) rfl
    have x3 := H3.out.1.cell (i := 3) rfl
    go_wp2_with fail
    refine ((HRO.out _ H3.out.2).1).mono ?_
    rintro e w4 ⟨rfl, hb4⟩
    have H4 := Lib.hid (And.intro (H3.out.1.below' hb4) (bel_to H3.out.2 hb4))
    clear hb4 H3 x0 x1 x2 x3
    have x0 := H4.out.1.cell (i := 0) rfl
    have x1 := H4.out.1.cell (i := 1) rfl
    have x2 := H4.out.1.cell (i := 2) rfl
    have x3 := H4.out.1.cell (i := 3) rfl
    go_wp2_with fail
    refine ((HRO.out _ H4.out.2).2).mono ?_
    rintro e w5 ⟨rfl, hb5⟩
    have H5 := Lib.hid (And.intro (H4.out.1.below' hb5) (bel_to H4.out.2 hb5))
    clear hb5 H4 x0 x1 x2 x3
    clear HNA HRO
    go_wp2_with fail
    refine (HAW.out _ (HG.out.of H5.out.2)).mono ?_
    rintro e w6 ⟨rfl, hb6⟩
    have hb6' := bel_to H5.out.2 hb6
    clear hb6 H5 HAW HG
    go_wp2
    go_ret
    exact Ret.of rfl hb6'
  · rw [Bool.not_eq_true] at hf
    rw [hf] at HFW
    obtain ⟨A, cap, rfl⟩ := hl.len
    obtain ⟨⟨ta, tb⟩, tc, td⟩ := z
    unfold zoV at *
    simp only at *
    have HR := Lib.hid (And.intro (rnw (w := w) (t := 43) (xs := [.string (bs ta), .string (bs tb), .string (bs tc), .string (bs td)])) (bel_alloc (Below.refl w.heap.size w) (.cells #[.string (bs ta), .string (bs tb), .string (bs tc), .string (bs td)] 43 (0, 0))))
    clear hl l1 l2 l3 l4 hf hg
    go_enter Tryz.func5, Tryz.ntmps5
    go_wp2_with fail
    refine (HFW.out _ HR.out.2).mono ?_
    rintro e w1 ⟨rfl, hb1⟩
    have H1 := Lib.hid (bel_to HR.out.2 hb1)
    clear hb1 HR HFW
    go_wp2_with fail
    refine (HAW.out _ (HG.out.of H1.out)).mono ?_
    rintro e w2 ⟨rfl, hb2⟩
    go_wp2
    go_ret
    exact Ret.of rfl (bel_to H1.out hb2)
end W
end Go.Proofs.YtijpgddpejiohaaGreatDoor
end
