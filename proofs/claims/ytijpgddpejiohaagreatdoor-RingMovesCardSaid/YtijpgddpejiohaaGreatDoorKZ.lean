/-
  Chapter 35's laws: the examples ('awake'). (Printed by wip/zf.py.)
-/
import Derived.Test.YtijpgddpejiohaaGreatDoorKY
section
namespace Go.Proofs.YtijpgddpejiohaaGreatDoor
open Go Go.RowKit Go.Deep Go.Sort
namespace W
open M
attribute [local go_sem] bs_size bs_toList bs_get bs_extract bs_append bs_lit0 bs_lit1 lit1_bs
set_option maxHeartbeats 4000000
set_option maxRecDepth 20000
theorem rdn_row {W : World} {g cap : Nat} {l : List Int} (hr : Row W g 3 (IntD l)) : RdN W (.slice (some ⟨g, 0, none⟩) l.length cap) l :=
  ⟨_, _, rfl, Or.inr ⟨g, 0, rfl, hr.lt, fun i hi => by rw [Nat.zero_add]; exact hr.cell (by simp [IntD, hi])⟩⟩
abbrev WT5 : Obj := .cells #[.string (bs [50, 47, 53]), .string (bs [49, 47, 50]), .string (bs [48]), .string (bs [49, 47, 49, 48]), .string (bs [45, 49])] 29 (0, 0)
def SquP (w : World) (e : Ending) (w' : World) : Prop := ∃ A c, e = .returned (.slice A 4 c) ∧ RdV w' (.slice A 4 c) sqL ∧ Below w.heap.size w w'
theorem join3 {K : Act → World → Prop} {G : Prop} {a : Nat → Option Addr → Nat → Act} {P : Nat → World → Prop} (main : (∀ g A c E, P g E → K (a g A c) E) → G) (rest : ∀ g A c E, P g E → K (a g A c) E) : G := main rest
theorem psquP (w : World) : Calls Tryz.prog 74 #[] w (SquP w) := by
  refine (psquareL w).mono ?_
  rintro e w' ⟨rfl, rfl⟩
  exact ⟨_, _, rfl, (sq_own w).rd, bel_al _ _⟩
theorem awake35 (w : World) (hg : Glob w) : Calls Tryz.prog 20 #[] w (Ret w (.bool true)) := by
  have HG := Lib.hid hg
  have H0 := Lib.hid (And.intro (rnw (w := w) (t := 41) (xs := [.string (bs [53]), .string (bs [53])])) (bel_al w (.cells #[.string (bs [53]), .string (bs [53])] 41 (0, 0))))
  clear hg
  go_enter Tryz.func20, Tryz.ntmps20
  go_wp2_with fail
  refine (psquP _).mono ?_
  rintro e w1 ⟨A1, c1, rfl, hr1, hb1⟩
  have H1 := Lib.hid (And.intro (H0.out.1.below' hb1) (bel_to H0.out.2 hb1))
  have HR1 := Lib.hid hr1
  clear hb1 H0 hr1
  go_wp2_with fail
  refine (widA _ _ (HG.out.of H1.out.2) HR1.out).mono ?_
  rintro e w2 ⟨rfl, hb2⟩
  have hrm := H1.out.1.below' hb2
  have hbm := Lib.hid (bel_to H1.out.2 hb2)
  clear hb2 H1 HR1
  obtain ⟨M, hM⟩ : ∃ M, M = w.heap.size := ⟨_, rfl⟩
  rw [← hM] at hrm ⊢
  have H2 := Lib.hid (And.intro hrm hbm.out)
  clear hrm hbm hM
  have HCX := Lib.hid (fun E (hE : Below w2.heap.size w2 E) => And.intro ((H2.out.1.below' hE).cell (i := 0) rfl) ((H2.out.1.below' hE).cell (i := 1) rfl))
  go_wp2_with fail
  rename_i K hK
  apply join3 (K := K) (P := fun g E => Row E g 43 [.string (bs [53]), .string (bs [53]), .string (bs [53, 48]), .string (bs [53, 48])] ∧ Below w2.heap.size w2 E)
  case main =>
    intro HF
    have HFI := Lib.hid HF
    clear HF
    go_region_held3 (fun E => E.cell? ⟨M, 0, none⟩ = some (.string (bs [53])) ∧ E.cell? ⟨M, 1, none⟩ = some (.string (bs [53])))
      (first | exact HCX.out _ HA6.out | exact HCX.out _ (bel_alloc HA6.out _) | exact HCX.out _ (zone_below (.string (bs [53])) (.string (bs [53])) (.string (bs [53, 48])) (.string (bs [53, 48])) HA6.out (Nat.le_refl _)) | exact HCX.out _ (zone_below (.string (bs [53])) (.string (bs [53])) (.string (bs [53, 48])) (.string (bs [53, 48])) HA6.out HA5.out.1.size) | exact HCX.out _ HA5.out.1 | exact HCX.out _ (bel_alloc HA5.out.1 _) | exact HCX.out _ (RowKit.Below.drew (Below.refl w2.heap.size w2)) | exact HCX.out _ (RowKit.Below.drew (bel_alloc (Below.refl w2.heap.size w2) ZX5)) | exact HCX.out _ (bel_alloc (RowKit.Below.drew (Below.refl w2.heap.size w2)) ZX5) | exact HCX.out _ (Below.refl w2.heap.size w2) | exact HCX.out _ (bel_alloc (Below.refl w2.heap.size w2) ZX5))
      (first
      | (go_at_call 21; first
        | (have hz := HN5; clear hz; refine (at1 _ _ (HG.out.of (bel_to H2.out.2 HA5.out.1)) HA5.out.2).mono ?_; rintro e w6 ⟨rfl, hb6⟩; have HA6 := Lib.hid (bel_to HA5.out.1 hb6); have HN6 := Lib.hid (HN5.out.below' hb6); obtain ⟨⟨f0, n0⟩, ⟨f1, n1⟩, ⟨f2, n2⟩, ⟨f3, n3⟩, hrow⟩ := zone_store (.string (bs [53])) (.string (bs [53])) (.string (bs [53, 48])) (.string (bs [53, 48])) HN6.out)
        | (refine (at1 _ _ (HG.out.of (bel_to H2.out.2 HA5.out.1)) HA5.out.2).mono ?_; rintro e w6 ⟨rfl, hb6⟩; have HA6 := Lib.hid (bel_to HA5.out.1 hb6))
        | (refine (at1 _ _ (HG.out.of (bel_to H2.out.2 (bel_alloc HA5.out.1 ZX5))) (HA5.out.2.below (bel_al _ _))).mono ?_; rintro e w6 ⟨rfl, hb6⟩; have HA6 := Lib.hid (bel_to (bel_alloc HA5.out.1 ZX5) hb6); have HN6 := Lib.hid ((show Row (w5.alloc ZX5) w5.heap.size 43 [.string ⟨#[]⟩, .string ⟨#[]⟩, .string ⟨#[]⟩, .string ⟨#[]⟩] from rnw).below' hb6); obtain ⟨⟨f0, n0⟩, ⟨f1, n1⟩, ⟨f2, n2⟩, ⟨f3, n3⟩, hrow⟩ := zone_store (.string (bs [53])) (.string (bs [53])) (.string (bs [53, 48])) (.string (bs [53, 48])) HN6.out))
      | (go_at_call 74; refine (psquP _).mono ?_; rintro e w5 ⟨A5, c5, rfl, hr5, hb5⟩; first
        | (have HA5 := Lib.hid (And.intro (bel_to (RowKit.Below.drew (Below.refl w2.heap.size w2)) hb5) hr5))
        | (have HA5 := Lib.hid (And.intro (bel_to (RowKit.Below.drew (bel_alloc (Below.refl w2.heap.size w2) ZX5)) hb5) hr5); have HN5 := Lib.hid ((show Row (w2.alloc ZX5).drew w2.heap.size 43 [.string ⟨#[]⟩, .string ⟨#[]⟩, .string ⟨#[]⟩, .string ⟨#[]⟩] from rnw).below' hb5))
        | (have HA5 := Lib.hid (And.intro (bel_to (bel_alloc (RowKit.Below.drew (Below.refl w2.heap.size w2)) ZX5) hb5) hr5); have HN5 := Lib.hid ((show Row (w2.drew.alloc ZX5) w2.heap.size 43 [.string ⟨#[]⟩, .string ⟨#[]⟩, .string ⟨#[]⟩, .string ⟨#[]⟩] from rnw).below' hb5))))
    all_goals first
      | (have hz := HN5; clear hz; generalize hgg : w2.heap.size = gg; refine HFI.out gg A5 c5 _ ?_; rw [← hgg]; exact ⟨hrow, zone_below (.string (bs [53])) (.string (bs [53])) (.string (bs [53, 48])) (.string (bs [53, 48])) HA6.out (Nat.le_refl _)⟩)
      | (have hz := hrow; clear hz; generalize hgg : w5.heap.size = gg; refine HFI.out gg A5 c5 _ ?_; rw [← hgg]; exact ⟨hrow, zone_below (.string (bs [53])) (.string (bs [53])) (.string (bs [53, 48])) (.string (bs [53, 48])) HA6.out HA5.out.1.size⟩)
      | (generalize hgg : w6.heap.size = gg; refine HFI.out gg A5 c5 _ ?_; rw [← hgg]; exact ⟨rnw, bel_alloc HA6.out _⟩)
  case rest =>
  intro g1 A0 c0 E1 hE1
  have H3 := Lib.hid (And.intro (H2.out.1.below' hE1.2) (And.intro hE1.1 (bel_to H2.out.2 hE1.2)))
  clear H2 HCX hE1
  refine hK _ _ ?_
  go_wp2_with fail
  refine (pfiveL _).mono ?_
  rintro e w4 ⟨A4, c4, rfl, hr4, hb4⟩
  have H4 := Lib.hid (And.intro (H3.out.1.below' hb4) (And.intro (H3.out.2.1.below' hb4) (bel_to H3.out.2.2 hb4)))
  have HR4 := Lib.hid hr4
  clear hb4 H3 hr4
  go_wp2_with fail
  refine (widB _ _ (HG.out.of H4.out.2.2) HR4.out).mono ?_
  rintro e w5 ⟨rfl, hb5⟩
  have H5 := Lib.hid (And.intro (H4.out.1.below' hb5) (And.intro (H4.out.2.1.below' hb5) (bel_to H4.out.2.2 hb5)))
  clear hb5 H4 HR4
  go_wp2_with fail
  refine (pfiveL _).mono ?_
  rintro e w7 ⟨A7, c7, rfl, hr7, hb7⟩
  have H7 := Lib.hid (And.intro (H5.out.1.below' hb7) (And.intro (H5.out.2.1.below' hb7) (bel_to H5.out.2.2 hb7)))
  have HR7 := Lib.hid hr7
  clear hb7 H5 hr7
  go_wp2_with fail
  refine (at2 _ _ (HG.out.of H7.out.2.2) HR7.out).mono ?_
  rintro e w8 ⟨rfl, hb8⟩
  have ha8 := bel_to hb8 (bel_al w8 (.cells #[.string (bs [52]), .string (bs [53]), .string (bs [49, 55]), .string (bs [54, 49])] 43 (0, 0)))
  have H8 := Lib.hid (And.intro (H7.out.1.below' ha8) (And.intro (H7.out.2.1.below' ha8) (And.intro (rnw (w := w8) (t := 43) (xs := [.string (bs [52]), .string (bs [53]), .string (bs [49, 55]), .string (bs [54, 49])])) (bel_to H7.out.2.2 ha8))))
  clear hb8 ha8 H7 HR7
  obtain ⟨V8, hV8⟩ : ∃ V, V = w8.alloc (.cells #[.string (bs [52]), .string (bs [53]), .string (bs [49, 55]), .string (bs [54, 49])] 43 (0, 0)) := ⟨_, rfl⟩
  rw [← hV8] at H8
  go_wp2_with fail
  rw [← hV8]
  clear hV8
  generalize w8.heap.size = g2 at *
  have HCX := Lib.hid (fun E (hE : Below V8.heap.size V8 E) => And.intro ((H8.out.1.below' hE).cell (i := 0) rfl) ((H8.out.1.below' hE).cell (i := 1) rfl))
  rename_i K hK
  apply join3 (K := K) (P := fun g E => Row E g 43 [.string (bs [53]), .string (bs [53]), .string (bs [49, 54]), .string (bs [53, 48])] ∧ Below V8.heap.size V8 E)
  case main =>
    intro HF
    have HFI := Lib.hid HF
    clear HF
    go_region_held3 (fun E => E.cell? ⟨M, 0, none⟩ = some (.string (bs [53])) ∧ E.cell? ⟨M, 1, none⟩ = some (.string (bs [53])))
      (first | exact HCX.out _ HA6.out | exact HCX.out _ (bel_alloc HA6.out _) | exact HCX.out _ (zone_below (.string (bs [53])) (.string (bs [53])) (.string (bs [49, 54])) (.string (bs [53, 48])) HA6.out (Nat.le_refl _)) | exact HCX.out _ (zone_below (.string (bs [53])) (.string (bs [53])) (.string (bs [49, 54])) (.string (bs [53, 48])) HA6.out HA5.out.1.size) | exact HCX.out _ HA5.out.1 | exact HCX.out _ (bel_alloc HA5.out.1 _) | exact HCX.out _ (RowKit.Below.drew (Below.refl V8.heap.size V8)) | exact HCX.out _ (RowKit.Below.drew (bel_alloc (Below.refl V8.heap.size V8) ZX5)) | exact HCX.out _ (bel_alloc (RowKit.Below.drew (Below.refl V8.heap.size V8)) ZX5) | exact HCX.out _ (Below.refl V8.heap.size V8) | exact HCX.out _ (bel_alloc (Below.refl V8.heap.size V8) ZX5))
      (first
      | (go_at_call 21; first
        | (have hz := HN5; clear hz; refine (at3 _ _ (HG.out.of (bel_to H8.out.2.2.2 HA5.out.1)) HA5.out.2).mono ?_; rintro e w6 ⟨rfl, hb6⟩; have HA6 := Lib.hid (bel_to HA5.out.1 hb6); have HN6 := Lib.hid (HN5.out.below' hb6); obtain ⟨⟨f0, n0⟩, ⟨f1, n1⟩, ⟨f2, n2⟩, ⟨f3, n3⟩, hrow⟩ := zone_store (.string (bs [53])) (.string (bs [53])) (.string (bs [49, 54])) (.string (bs [53, 48])) HN6.out)
        | (refine (at3 _ _ (HG.out.of (bel_to H8.out.2.2.2 HA5.out.1)) HA5.out.2).mono ?_; rintro e w6 ⟨rfl, hb6⟩; have HA6 := Lib.hid (bel_to HA5.out.1 hb6))
        | (refine (at3 _ _ (HG.out.of (bel_to H8.out.2.2.2 (bel_alloc HA5.out.1 ZX5))) (HA5.out.2.below (bel_al _ _))).mono ?_; rintro e w6 ⟨rfl, hb6⟩; have HA6 := Lib.hid (bel_to (bel_alloc HA5.out.1 ZX5) hb6); have HN6 := Lib.hid ((show Row (w5.alloc ZX5) w5.heap.size 43 [.string ⟨#[]⟩, .string ⟨#[]⟩, .string ⟨#[]⟩, .string ⟨#[]⟩] from rnw).below' hb6); obtain ⟨⟨f0, n0⟩, ⟨f1, n1⟩, ⟨f2, n2⟩, ⟨f3, n3⟩, hrow⟩ := zone_store (.string (bs [53])) (.string (bs [53])) (.string (bs [49, 54])) (.string (bs [53, 48])) HN6.out))
      | (go_at_call 75; refine (pfiveL _).mono ?_; rintro e w5 ⟨A5, c5, rfl, hr5, hb5⟩; first
        | (have HA5 := Lib.hid (And.intro (bel_to (RowKit.Below.drew (Below.refl V8.heap.size V8)) hb5) hr5))
        | (have HA5 := Lib.hid (And.intro (bel_to (RowKit.Below.drew (bel_alloc (Below.refl V8.heap.size V8) ZX5)) hb5) hr5); have HN5 := Lib.hid ((show Row (V8.alloc ZX5).drew V8.heap.size 43 [.string ⟨#[]⟩, .string ⟨#[]⟩, .string ⟨#[]⟩, .string ⟨#[]⟩] from rnw).below' hb5))
        | (have HA5 := Lib.hid (And.intro (bel_to (bel_alloc (RowKit.Below.drew (Below.refl V8.heap.size V8)) ZX5) hb5) hr5); have HN5 := Lib.hid ((show Row (V8.drew.alloc ZX5) V8.heap.size 43 [.string ⟨#[]⟩, .string ⟨#[]⟩, .string ⟨#[]⟩, .string ⟨#[]⟩] from rnw).below' hb5))))
    all_goals first
      | (have hz := HN5; clear hz; generalize hgg : V8.heap.size = gg; refine HFI.out gg A5 c5 _ ?_; rw [← hgg]; exact ⟨hrow, zone_below (.string (bs [53])) (.string (bs [53])) (.string (bs [49, 54])) (.string (bs [53, 48])) HA6.out (Nat.le_refl _)⟩)
      | (have hz := hrow; clear hz; generalize hgg : w5.heap.size = gg; refine HFI.out gg A5 c5 _ ?_; rw [← hgg]; exact ⟨hrow, zone_below (.string (bs [53])) (.string (bs [53])) (.string (bs [49, 54])) (.string (bs [53, 48])) HA6.out HA5.out.1.size⟩)
      | (generalize hgg : w6.heap.size = gg; refine HFI.out gg A5 c5 _ ?_; rw [← hgg]; exact ⟨rnw, bel_alloc HA6.out _⟩)
  case rest =>
  intro g3 A9 c9 E3 hE3
  have H9 := Lib.hid (And.intro (H8.out.1.below' hE3.2) (And.intro (H8.out.2.1.below' hE3.2) (And.intro (H8.out.2.2.1.below' hE3.2) (And.intro hE3.1 (bel_to H8.out.2.2.2 hE3.2)))))
  clear H8 HCX hE3
  refine hK _ _ ?_
  clear hK K
  go_wp2_with fail
  have HC3 := Lib.hid (fun E (hE : Below E3.heap.size E3 E) => And.intro ((H9.out.2.2.2.1.below' hE).cell (i := 0) rfl) (And.intro ((H9.out.2.2.2.1.below' hE).cell (i := 1) rfl) (And.intro ((H9.out.2.2.2.1.below' hE).cell (i := 2) rfl) ((H9.out.2.2.2.1.below' hE).cell (i := 3) rfl))))
  go_region_held3 (fun E => E.cell? ⟨g3, 0, none⟩ = some (.string (bs [53])) ∧ E.cell? ⟨g3, 1, none⟩ = some (.string (bs [53])) ∧ E.cell? ⟨g3, 2, none⟩ = some (.string (bs [49, 54])) ∧ E.cell? ⟨g3, 3, none⟩ = some (.string (bs [53, 48])))
    (first | exact HC3.out _ HA6.out.1 | exact HC3.out _ HA5.out.1 | exact HC3.out _ (RowKit.Below.drew (Below.refl E3.heap.size E3)) | exact HC3.out _ (Below.refl E3.heap.size E3))
    (first
    | (go_at_call 23; refine (con1 _ _ (HG.out.of (bel_to H9.out.2.2.2.2 HA5.out.1)) HA5.out.2).mono ?_; rintro e w6 ⟨v1, v2, rfl, r1, r2, hb6⟩; have HA6 := Lib.hid (And.intro (bel_to HA5.out.1 hb6) (And.intro r1 r2)); obtain ⟨Ai, ki, rfl⟩ := r1.len; obtain ⟨Ao, ko, rfl⟩ := r2.len)
    | (go_at_call 75; refine (pfiveL _).mono ?_; rintro e w5 ⟨A5, c5, rfl, hr5, hb5⟩; first | (have HA5 := Lib.hid (And.intro (bel_to (RowKit.Below.drew (Below.refl E3.heap.size E3)) hb5) hr5)) | (have HA5 := Lib.hid (And.intro (bel_to (Below.refl E3.heap.size E3) hb5) hr5))))
  have H10 := Lib.hid (And.intro (H9.out.1.below' HA6.out.1) (And.intro (H9.out.2.1.below' HA6.out.1) (And.intro (H9.out.2.2.1.below' HA6.out.1) (And.intro (H9.out.2.2.2.1.below' HA6.out.1) (bel_to H9.out.2.2.2.2 HA6.out.1)))))
  have HN : Hid (RdN w6 (.slice Ai 1 ki) [4] ∧ RdN w6 (.slice Ao 4 ko) [0, 1, 2, 3]) := Lib.hid HA6.out.2
  clear H9 HC3 HA5 HA6 r1 r2 hr5 hb5 hb6
  have x0 := H10.out.1.cell (i := 0) rfl
  have x1 := H10.out.1.cell (i := 1) rfl
  go_wp2_with fail
  refine (nar1 _ (HG.out.of H10.out.2.2.2.2)).mono ?_
  rintro e w7 ⟨rfl, hb7⟩
  have H11 := Lib.hid (And.intro (H10.out.1.below' hb7) (And.intro (H10.out.2.1.below' hb7) (And.intro (H10.out.2.2.1.below' hb7) (And.intro (H10.out.2.2.2.1.below' hb7) (bel_to H10.out.2.2.2.2 hb7)))))
  have HN1 := Lib.hid (And.intro (HN.out.1.below hb7) (HN.out.2.below hb7))
  clear H10 HN hb7 x0 x1
  have x0 := H11.out.1.cell (i := 0) rfl
  have x1 := H11.out.1.cell (i := 1) rfl
  go_wp2_with fail
  refine (nar2 _ (HG.out.of H11.out.2.2.2.2)).mono ?_
  rintro e w10 ⟨rfl, hb10⟩
  have H12 := Lib.hid (And.intro (H11.out.1.below' hb10) (And.intro (H11.out.2.1.below' hb10) (And.intro (H11.out.2.2.1.below' hb10) (And.intro (H11.out.2.2.2.1.below' hb10) (bel_to H11.out.2.2.2.2 hb10)))))
  have HN2 := Lib.hid (And.intro (HN1.out.1.below hb10) (HN1.out.2.below hb10))
  clear H11 HN1 hb10 x0 x1
  go_wp2_with fail
  have HC8 := Lib.hid (fun E (hE : Below w10.heap.size w10 E) => And.intro ((H12.out.2.2.2.1.below' hE).cell (i := 0) rfl) (And.intro ((H12.out.2.2.2.1.below' hE).cell (i := 1) rfl) (And.intro ((H12.out.2.2.2.1.below' hE).cell (i := 2) rfl) (And.intro ((H12.out.2.2.2.1.below' hE).cell (i := 3) rfl) (And.intro ((H12.out.2.2.1.below' hE).cell (i := 0) rfl) (And.intro ((H12.out.2.2.1.below' hE).cell (i := 1) rfl) (And.intro ((H12.out.2.2.1.below' hE).cell (i := 2) rfl) ((H12.out.2.2.1.below' hE).cell (i := 3) rfl))))))))
  go_region_held3 (fun E => E.cell? ⟨g3, 0, none⟩ = some (.string (bs [53])) ∧ E.cell? ⟨g3, 1, none⟩ = some (.string (bs [53])) ∧ E.cell? ⟨g3, 2, none⟩ = some (.string (bs [49, 54])) ∧ E.cell? ⟨g3, 3, none⟩ = some (.string (bs [53, 48])) ∧ E.cell? ⟨g2, 0, none⟩ = some (.string (bs [52])) ∧ E.cell? ⟨g2, 1, none⟩ = some (.string (bs [53])) ∧ E.cell? ⟨g2, 2, none⟩ = some (.string (bs [49, 55])) ∧ E.cell? ⟨g2, 3, none⟩ = some (.string (bs [54, 49])))
    (first | exact HC8.out _ HD8.out | exact HC8.out _ HD7.out.1 | exact HC8.out _ (bel_alloc HD7.out.1 _) | exact HC8.out _ HD6.out | exact HC8.out _ (bel_alloc HD6.out _) | exact HC8.out _ HD5.out.1 | exact HC8.out _ (bel_alloc HD5.out.1 _) | exact HC8.out _ (RowKit.Below.drew (Below.refl w10.heap.size w10)) | exact HC8.out _ (RowKit.Below.drew (bel_alloc (Below.refl w10.heap.size w10) WT5)) | exact HC8.out _ (bel_alloc (RowKit.Below.drew (Below.refl w10.heap.size w10)) WT5) | exact HC8.out _ (Below.refl w10.heap.size w10) | exact HC8.out _ (bel_alloc (Below.refl w10.heap.size w10) WT5))
    (first
    | (go_at_call 33; first
      | (have hy := HD7; clear hy; have hz := HM7; clear hz; refine (ver2 _ _ _ (HG.out.of (bel_to H12.out.2.2.2.2 HD7.out.1)) HD7.out.2 (rdt_row (l := wtT) HM7.out)).mono ?_; rintro e w18 ⟨rfl, hbv⟩; have HD8 := Lib.hid (bel_to HD7.out.1 hbv))
      | (have hy := HD7; clear hy; refine (ver2 _ _ _ (HG.out.of (bel_to H12.out.2.2.2.2 (bel_alloc HD7.out.1 WT5))) (HD7.out.2.below (bel_al _ _)) (rdt_row (l := wtT) (rnw (xs := [.string (bs [50, 47, 53]), .string (bs [49, 47, 50]), .string (bs [48]), .string (bs [49, 47, 49, 48]), .string (bs [45, 49])])))).mono ?_; rintro e w18 ⟨rfl, hbv⟩; have HD8 := Lib.hid (bel_to (bel_alloc HD7.out.1 WT5) hbv))
      | (have hz := HM5; clear hz; refine (ver1 _ _ _ (HG.out.of (bel_to H12.out.2.2.2.2 HD5.out.1)) HD5.out.2 (rdt_row (l := wtT) HM5.out)).mono ?_; rintro e w16 ⟨rfl, hbv⟩; have HD6 := Lib.hid (bel_to HD5.out.1 hbv))
      | (refine (ver1 _ _ _ (HG.out.of (bel_to H12.out.2.2.2.2 (bel_alloc HD5.out.1 WT5))) (HD5.out.2.below (bel_al _ _)) (rdt_row (l := wtT) (rnw (xs := [.string (bs [50, 47, 53]), .string (bs [49, 47, 50]), .string (bs [48]), .string (bs [49, 47, 49, 48]), .string (bs [45, 49])])))).mono ?_; rintro e w16 ⟨rfl, hbv⟩; have HD6 := Lib.hid (bel_to (bel_alloc HD5.out.1 WT5) hbv)))
    | (go_at_call 75; refine (pfiveL _).mono ?_; rintro e w15 ⟨A5, c5, rfl, hr5, hb5⟩; first
      | (have hy := HD6; clear hy; have HD7 := Lib.hid (And.intro (bel_to HD6.out hb5) hr5))
      | (have hy := HD6; clear hy; have HD7 := Lib.hid (And.intro (bel_to (bel_alloc HD6.out WT5) hb5) hr5); have HM7 := Lib.hid ((show Row (w16.alloc WT5) w16.heap.size 29 [.string (bs [50, 47, 53]), .string (bs [49, 47, 50]), .string (bs [48]), .string (bs [49, 47, 49, 48]), .string (bs [45, 49])] from rnw).below' hb5))
      | (have HD5 := Lib.hid (And.intro (bel_to (RowKit.Below.drew (Below.refl w10.heap.size w10)) hb5) hr5))
      | (have HD5 := Lib.hid (And.intro (bel_to (RowKit.Below.drew (bel_alloc (Below.refl w10.heap.size w10) WT5)) hb5) hr5); have HM5 := Lib.hid ((show Row (w10.alloc WT5).drew w10.heap.size 29 [.string (bs [50, 47, 53]), .string (bs [49, 47, 50]), .string (bs [48]), .string (bs [49, 47, 49, 48]), .string (bs [45, 49])] from rnw).below' hb5))
      | (have HD5 := Lib.hid (And.intro (bel_to (bel_alloc (RowKit.Below.drew (Below.refl w10.heap.size w10)) WT5) hb5) hr5); have HM5 := Lib.hid ((show Row (w10.drew.alloc WT5) w10.heap.size 29 [.string (bs [50, 47, 53]), .string (bs [49, 47, 50]), .string (bs [48]), .string (bs [49, 47, 49, 48]), .string (bs [45, 49])] from rnw).below' hb5))
      | (have HD5 := Lib.hid (And.intro (bel_to (Below.refl w10.heap.size w10) hb5) hr5))
      | (have HD5 := Lib.hid (And.intro (bel_to (bel_alloc (Below.refl w10.heap.size w10) WT5) hb5) hr5); have HM5 := Lib.hid ((show Row (w10.alloc WT5) w10.heap.size 29 [.string (bs [50, 47, 53]), .string (bs [49, 47, 50]), .string (bs [48]), .string (bs [49, 47, 49, 48]), .string (bs [45, 49])] from rnw).below' hb5))))
  all_goals
    have H13 := Lib.hid (And.intro (H12.out.1.below' HD8.out) (And.intro (H12.out.2.1.below' HD8.out) (And.intro (H12.out.2.2.1.below' HD8.out) (And.intro (H12.out.2.2.2.1.below' HD8.out) (bel_to H12.out.2.2.2.2 HD8.out)))))
    have HN3 := Lib.hid (And.intro (HN2.out.1.below HD8.out) (HN2.out.2.below HD8.out))
    clear H12 HC8 HD8 HN2
    have x0 := H13.out.1.cell (i := 0) rfl
    have x1 := H13.out.1.cell (i := 1) rfl
    have a0 := H13.out.2.1.cell (i := 0) rfl
    have a1 := H13.out.2.1.cell (i := 1) rfl
    have a2 := H13.out.2.1.cell (i := 2) rfl
    have a3 := H13.out.2.1.cell (i := 3) rfl
    have d2 := H13.out.2.2.1.cell (i := 2) rfl
    have d3 := H13.out.2.2.1.cell (i := 3) rfl
    have z2 := H13.out.2.2.2.1.cell (i := 2) rfl
    have z3 := H13.out.2.2.2.1.cell (i := 3) rfl
    go_wp2_with fail
    refine (pequalN _ _ [4] _ (HN3.out.1.below (bel_al _ _)) (rdn_row (l := [4]) rnw) (by decide)).mono ?_
    rintro e w19 ⟨rfl, hb19⟩
    have H14 := Lib.hid (bel_to H13.out.2.2.2.2 (bel_to (bel_al _ _) hb19))
    have HN4 := Lib.hid (HN3.out.2.below (bel_to (bel_al _ _) hb19))
    clear hb19 H13 HN3 x0 x1 a0 a1 a2 a3 d2 d3 z2 z3
    go_wp2_with fail
    refine (pequalN _ _ [0, 1, 2, 3] _ (HN4.out.below (bel_al _ _)) (rdn_row (l := [0, 1, 2, 3]) rnw) (by decide)).mono ?_
    rintro e w20 ⟨rfl, hb20⟩
    have hbz := bel_to H14.out (bel_to (bel_al _ _) hb20)
    clear hb20 H14 HN4
    go_wp2
    go_ret
    exact Ret.of rfl hbz

end W
end Go.Proofs.YtijpgddpejiohaaGreatDoor
end
