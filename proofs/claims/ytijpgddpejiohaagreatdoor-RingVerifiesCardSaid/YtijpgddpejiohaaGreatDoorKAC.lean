/-
  Chapter 35's laws: RingVerifies.
-/
import Derived.Test.YtijpgddpejiohaaGreatDoorKW
import Derived.Test.YtijpgddpejiohaaGreatDoorKZ
section
namespace Go.Proofs.YtijpgddpejiohaaGreatDoor
open Go Go.RowKit Go.Deep Go.Sort
namespace W
open M
attribute [local go_sem] bs_size bs_toList bs_get bs_extract bs_append bs_lit0 bs_lit1 lit1_bs
set_option maxHeartbeats 2000000
set_option maxRecDepth 20000
theorem verifies_law (vl vw : Value) (l : List PZ) (z : ZT) (ws : List (List UInt8)) (w : World) (hg : Glob w) (hl : RdV w vl l) (hw : RdT w vw ws) (_hn : l.length ≤ maxLen) (l1 : z.1.1.length ≤ maxLen) (l2 : z.1.2.length ≤ maxLen) (l3 : z.2.1.length ≤ maxLen) (l4 : z.2.2.length ≤ maxLen) (_nw : ws.length ≤ maxLen) (sw : ∀ p ∈ ws, p.length ≤ maxLen) :
    Calls Tryz.prog 6 #[vl, zoV z, vw] w (Ret w (.bool true)) := by
  have HAW := Lib.hid (fun W hW => awake35 W hW)
  have HFW := Lib.hid (fun W (hW : Below w.heap.size w W) => pfew35 vl l z W (hl.below hW) l1 l2 l3 l4)
  have HG := Lib.hid hg
  by_cases hf : (fewP l && shoZ z) = true
  · rw [hf] at HFW
    by_cases h20 : ws.length ≤ 20
    · have HCT := Lib.hid (fun W (hW : Below w.heap.size w W) => pcontainsT vw ws W (hw.below hW) (by omega) sw)
      have hi20 : decide ((20 : Int) < (ws.length : Int)) = false := decide_eq_false (by omega)
      by_cases hsh : ws.any (fun p => !shortB p) = false
      · rw [hsh] at HCT
        rw [Bool.and_eq_true] at hf
        obtain ⟨n, hve⟩ := verify_both hf.1 hf.2 h20 (fun p hp => by
          have h := List.any_eq_false.1 hsh p hp
          simpa using h)
        have HVE := Lib.hid (fun W (hW : Below w.heap.size w W) => hve vl vw W (hg.of hW) (hl.below hW) (hw.below hW))
        obtain ⟨A, cap, rfl⟩ := hl.len
        obtain ⟨A2, cap2, rfl⟩ := hw.len
        obtain ⟨⟨ta, tb⟩, tc, td⟩ := z
        unfold zoV at *
        simp only at *
        have HR := Lib.hid (And.intro (rnw (w := w) (t := 43) (xs := [.string (bs ta), .string (bs tb), .string (bs tc), .string (bs td)])) (bel_alloc (Below.refl w.heap.size w) (.cells #[.string (bs ta), .string (bs tb), .string (bs tc), .string (bs td)] 43 (0, 0))))
        clear hl l1 l2 l3 l4 hf hve hg hw sw hsh h20
        generalize ws.length = nw at *
        go_enter Tryz.func6, Tryz.ntmps6
        go_wp2_with fail
        refine (HFW.out _ HR.out.2).mono ?_
        rintro e w1 ⟨rfl, hb1⟩
        have H1 := Lib.hid (And.intro (HR.out.1.below' hb1) (bel_to HR.out.2 hb1))
        clear hb1 HR HFW
        go_wp2_with fail
        refine (HCT.out _ H1.out.2).mono ?_
        rintro e w2 ⟨rfl, hb2⟩
        have H2 := Lib.hid (And.intro (H1.out.1.below' hb2) (bel_to H1.out.2 hb2))
        clear hb2 H1 HCT hi20
        have k1 := reg_of (w := w2) (fun W hW => HAW.out W (HG.out.of (bel_to H2.out.2 hW)))
        have k2 := reg_of (w := w2) (fun W hW => (HVE.out W (bel_to H2.out.2 hW)).1)
        have k3 := reg_of (w := w2) (fun W hW => (HVE.out W (bel_to H2.out.2 hW)).2)
        have e1 : ∀ args w, (callFunc 20 args).run Tryz.prog w = .ok (.enter 20 args) w := enters_of Tryz.func20 (by kernel_rfl) rfl
        have e2 : ∀ args w, (callFunc 33 args).run Tryz.prog w = .ok (.enter 33 args) w := enters_of Tryz.func33 (by kernel_rfl) rfl
        have e3 : ∀ args w, (callFunc 34 args).run Tryz.prog w = .ok (.enter 34 args) w := enters_of Tryz.func34 (by kernel_rfl) rfl
        have m0 := cell_regrown (H2.out.1.cell (i := 0) rfl)
        have m1 := cell_regrown (H2.out.1.cell (i := 1) rfl)
        have m2 := cell_regrown (H2.out.1.cell (i := 2) rfl)
        have m3 := cell_regrown (H2.out.1.cell (i := 3) rfl)
        go_wp2_with fail
        refine wp_region_quiet_below (by kernel_rfl) (by kernel_rfl) ?_
        repeat (go_big_quiet_step (fail))
        go_big_quiet_step (exact k1 _ _)
        repeat (go_big_quiet_step (fail))
        go_big_quiet_step (exact k2 _ _)
        repeat (go_big_quiet_step (fail))
        go_big_quiet_step (exact k3 _ _)
        repeat (go_big_quiet_step (fail))
        refine wpQuiet_nil ?_
        intro W6 hw'
        have hb6 : Below w2.heap.size w2 W6 := by obtain ⟨p, e⟩ := hw'; rw [e]; exact below_regrown w2 p.d p.os
        clear hw'
        have hb6' := bel_to H2.out.2 hb6
        clear hb6 H2 k1 k2 k3 e1 e2 e3 m0 m1 m2 m3 HAW HVE
        go_wp2
        go_ret
        exact Ret.of rfl hb6'
      · rw [Bool.not_eq_false] at hsh
        rw [hsh] at HCT
        obtain ⟨A, cap, rfl⟩ := hl.len
        obtain ⟨A2, cap2, rfl⟩ := hw.len
        obtain ⟨⟨ta, tb⟩, tc, td⟩ := z
        unfold zoV at *
        simp only at *
        have HR := Lib.hid (And.intro (rnw (w := w) (t := 43) (xs := [.string (bs ta), .string (bs tb), .string (bs tc), .string (bs td)])) (bel_alloc (Below.refl w.heap.size w) (.cells #[.string (bs ta), .string (bs tb), .string (bs tc), .string (bs td)] 43 (0, 0))))
        clear hl l1 l2 l3 l4 hf hg hw sw hsh h20
        generalize ws.length = nw at *
        go_enter Tryz.func6, Tryz.ntmps6
        go_wp2_with fail
        refine (HFW.out _ HR.out.2).mono ?_
        rintro e w1 ⟨rfl, hb1⟩
        have H1 := Lib.hid (bel_to HR.out.2 hb1)
        clear hb1 HR HFW
        go_wp2_with fail
        refine (HCT.out _ H1.out).mono ?_
        rintro e w2 ⟨rfl, hb2⟩
        have H2 := Lib.hid (bel_to H1.out hb2)
        clear hb2 H1 HCT hi20
        go_wp2_with fail
        refine (HAW.out _ (HG.out.of H2.out)).mono ?_
        rintro e w3 ⟨rfl, hb3⟩
        go_wp2
        go_ret
        exact Ret.of rfl (bel_to H2.out hb3)
    · have hi20 : decide ((20 : Int) < (ws.length : Int)) = true := decide_eq_true (by omega)
      obtain ⟨A, cap, rfl⟩ := hl.len
      obtain ⟨A2, cap2, rfl⟩ := hw.len
      obtain ⟨⟨ta, tb⟩, tc, td⟩ := z
      unfold zoV at *
      simp only at *
      have HR := Lib.hid (And.intro (rnw (w := w) (t := 43) (xs := [.string (bs ta), .string (bs tb), .string (bs tc), .string (bs td)])) (bel_alloc (Below.refl w.heap.size w) (.cells #[.string (bs ta), .string (bs tb), .string (bs tc), .string (bs td)] 43 (0, 0))))
      clear hl l1 l2 l3 l4 hf hg hw sw h20
      generalize ws.length = nw at *
      go_enter Tryz.func6, Tryz.ntmps6
      go_wp2_with fail
      refine (HFW.out _ HR.out.2).mono ?_
      rintro e w1 ⟨rfl, hb1⟩
      have H1 := Lib.hid (bel_to HR.out.2 hb1)
      clear hb1 HR HFW
      go_wp2_with fail
      refine (HAW.out _ (HG.out.of H1.out)).mono ?_
      rintro e w2 ⟨rfl, hb2⟩
      go_wp2
      go_ret
      exact Ret.of rfl (bel_to H1.out hb2)
  · rw [Bool.not_eq_true] at hf
    rw [hf] at HFW
    obtain ⟨A, cap, rfl⟩ := hl.len
    obtain ⟨A2, cap2, rfl⟩ := hw.len
    obtain ⟨⟨ta, tb⟩, tc, td⟩ := z
    unfold zoV at *
    simp only at *
    have HR := Lib.hid (And.intro (rnw (w := w) (t := 43) (xs := [.string (bs ta), .string (bs tb), .string (bs tc), .string (bs td)])) (bel_alloc (Below.refl w.heap.size w) (.cells #[.string (bs ta), .string (bs tb), .string (bs tc), .string (bs td)] 43 (0, 0))))
    clear hl l1 l2 l3 l4 hf hg hw sw
    go_enter Tryz.func6, Tryz.ntmps6
    go_wp2_with fail
    refine (HFW.out _ HR.out.2).mono ?_
    rintro e w1 ⟨rfl, hb1⟩
    have H1 := Lib.hid (bel_to HR.out.2 hb1)
    clear hb1 HR HFW
    go_wp2_with fail
    refine (HAW.out _ (HG.out.of H1.out)).mono ?_
    rintro e w2 ⟨rfl, hb2⟩
    go_wp2
    go_ret
    exact Ret.of rfl (bel_to H1.out hb2)
end W
end Go.Proofs.YtijpgddpejiohaaGreatDoor
end
