/-
  Chapter 35, the reference: 'Contacts'. (Printed by wip/yn.py.)
  Chapter 35 of the program: sums, points, numbers, squared distances.
  Chapter 35 of the program: checks of numbers, squared distances.
-/
import Derived.Test.YtijpgddpejiohaaGreatDoorKS
section
namespace Go.Proofs.YtijpgddpejiohaaGreatDoor
open Go Go.RowKit Go.Deep Go.Sort
def ConP (w : World) (l1 l2 : List Int) (e : Ending) (w' : World) : Prop := ∃ v1 v2, e = .returned (.tuple #[v1, v2, .int .i64 0]) ∧ RdN w' v1 l1 ∧ RdN w' v2 l2 ∧ Below w.heap.size w w'
namespace W
open M
attribute [local go_sem] bs_size bs_toList bs_get bs_extract bs_append bs_lit0 bs_lit1 lit1_bs
set_option maxHeartbeats 4000000
set_option maxRecDepth 20000
theorem rcontacts35_A (vl : Value) (l : List PZ) (z : ZT) (w : World) (hl : RdV w vl l) (hn : l.length ≤ maxLen) (hgv : givP l ≠ 0) :
    Calls Tryz.prog 24 #[vl, zoV z] w (Ret w (.tuple #[.slice none 0 0, .slice none 0 0, .int .i64 ((givP l : Nat) : Int)])) := by
  have hg := fun W (hW : Below w.heap.size w W) => rgiven35 vl l W (hl.below hW) hn
  have hz : (((givP l : Nat) : Int) != 0) = true := by simp; exact hgv
  obtain ⟨A, ca, rfl⟩ := hl.len
  obtain ⟨⟨ta, tb⟩, tc, td⟩ := z
  unfold zoV
  simp only
  clear hl hgv
  generalize ((givP l : Nat) : Int) = x at *
  have HG := Lib.hid hg
  clear hg
  have HR := Lib.hid (And.intro (rnw (w := w) (t := 47) (xs := [.string (bs ta), .string (bs tb), .string (bs tc), .string (bs td)])) (bel_alloc (Below.refl w.heap.size w) (.cells #[.string (bs ta), .string (bs tb), .string (bs tc), .string (bs td)] 47 (0, 0))))
  go_enter Tryz.func24, Tryz.ntmps24
  go_wp2_with fail
  refine (HG.out _ HR.out.2).mono ?_
  rintro e w1 ⟨rfl, hb1⟩
  go_wp2
  refine bodyPost_ret (v := .tuple #[.slice none 0 0, .slice none 0 0, .int .i64 x]) (by simp [results, Tryz.results24, go_sem]) rfl ⟨rfl, bel_to HR.out.2 hb1⟩
theorem rcontacts35_B (vl : Value) (l : List PZ) (z : ZT) (w : World) (hl : RdV w vl l) (hgv : givP l = 0) (l1 : z.1.1.length ≤ 90000) (l2 : z.1.2.length ≤ 90000) (l3 : z.2.1.length ≤ 90000) (l4 : z.2.2.length ≤ 90000) (hc : chkRs [z.1.1, z.1.2, z.2.1, z.2.2] ≠ 0) :
    Calls Tryz.prog 24 #[vl, zoV z] w (Ret w (.tuple #[.slice none 0 0, .slice none 0 0, .int .i64 ((chkRs [z.1.1, z.1.2, z.2.1, z.2.2] : Nat) : Int)])) := by
  have hg := fun W (hW : Below w.heap.size w W) => rgiven35 vl l W (hl.below hW) (by have := (givP_iff.1 hgv).1; unfold maxLen; omega)
  rw [hgv] at hg
  have hck := fun W => rcheck35_bad z W l1 l2 l3 l4 hc
  have hz : (((chkRs [z.1.1, z.1.2, z.2.1, z.2.2] : Nat) : Int) != 0) = true := by simp; exact hc
  obtain ⟨A, ca, rfl⟩ := hl.len
  clear hl hgv hc l1 l2 l3 l4
  generalize ((chkRs [z.1.1, z.1.2, z.2.1, z.2.2] : Nat) : Int) = x at *
  obtain ⟨⟨ta, tb⟩, tc, td⟩ := z
  unfold zoV at *
  simp only at *
  have HG := Lib.hid hg
  have HC := Lib.hid hck
  clear hg hck
  have HR := Lib.hid (And.intro (rnw (w := w) (t := 47) (xs := [.string (bs ta), .string (bs tb), .string (bs tc), .string (bs td)])) (bel_alloc (Below.refl w.heap.size w) (.cells #[.string (bs ta), .string (bs tb), .string (bs tc), .string (bs td)] 47 (0, 0))))
  go_enter Tryz.func24, Tryz.ntmps24
  go_wp2_with fail
  refine (HG.out _ HR.out.2).mono ?_
  rintro e w1 ⟨rfl, hb1⟩
  have H1 := Lib.hid (And.intro (HR.out.1.below' hb1) (bel_to HR.out.2 hb1))
  clear hb1 HR HG
  have q0 := H1.out.1.cell (i := 0) rfl
  have q1 := H1.out.1.cell (i := 1) rfl
  have q2 := H1.out.1.cell (i := 2) rfl
  have q3 := H1.out.1.cell (i := 3) rfl
  go_wp2_with fail
  refine (HC.out _).mono ?_
  rintro e w2 ⟨rfl, hb2⟩
  go_wp2
  refine bodyPost_ret (v := .tuple #[.slice none 0 0, .slice none 0 0, .int .i64 x]) (by simp [results, Tryz.results24, go_sem]) rfl ⟨rfl, bel_to H1.out.2 hb2⟩
theorem rcontacts35_C (vl : Value) (l : List PZ) (c : Rat × Rat) (i o : Rat) (w : World) (hl : RdV w vl l) (hgv : givP l = 0) (b1 : Bq 30 c.1) (b2 : Bq 30 c.2) (b3 : Bq 30 i) (b4 : Bq 30 o) (ho : i < 0 ∨ o < i) :
    Calls Tryz.prog 24 #[vl, zoV (zoQ c i o)] w (Ret w (.tuple #[.slice none 0 0, .slice none 0 0, .int .i64 9])) := by
  have hg := fun W (hW : Below w.heap.size w W) => rgiven35 vl l W (hl.below hW) (by have := (givP_iff.1 hgv).1; unfold maxLen; omega)
  rw [hgv] at hg
  have hck := fun W => rcheck35_ok c i o 30 W b1 b2 b3 b4 (by decide) (by decide)
  simp only [if_pos ho] at hck
  obtain ⟨A, ca, rfl⟩ := hl.len
  unfold zoV zoQ ceQ at *
  simp only at *
  clear hl hgv b1 b2 b3 b4 ho
  generalize R c.1 = ta at *
  generalize R c.2 = tb at *
  generalize R i = tc at *
  generalize R o = td at *
  have HG := Lib.hid hg
  have HC := Lib.hid hck
  clear hg hck
  have HR := Lib.hid (And.intro (rnw (w := w) (t := 47) (xs := [.string (bs ta), .string (bs tb), .string (bs tc), .string (bs td)])) (bel_alloc (Below.refl w.heap.size w) (.cells #[.string (bs ta), .string (bs tb), .string (bs tc), .string (bs td)] 47 (0, 0))))
  go_enter Tryz.func24, Tryz.ntmps24
  go_wp2_with fail
  refine (HG.out _ HR.out.2).mono ?_
  rintro e w1 ⟨rfl, hb1⟩
  have H1 := Lib.hid (And.intro (HR.out.1.below' hb1) (bel_to HR.out.2 hb1))
  clear hb1 HR HG
  have q0 := H1.out.1.cell (i := 0) rfl
  have q1 := H1.out.1.cell (i := 1) rfl
  have q2 := H1.out.1.cell (i := 2) rfl
  have q3 := H1.out.1.cell (i := 3) rfl
  go_wp2_with fail
  refine (HC.out _).mono ?_
  rintro e w2 ⟨rfl, hb2⟩
  have H2 := Lib.hid (And.intro (H1.out.1.below' hb2) (bel_to H1.out.2 hb2))
  clear hb2 H1 HC q0 q1 q2 q3
  go_wp2
  refine bodyPost_ret (v := .tuple #[.slice none 0 0, .slice none 0 0, .int .i64 9]) (by simp [results, Tryz.results24, go_sem]) rfl ⟨rfl, H2.out.2⟩
theorem rcontacts35_F1 (vl : Value) (l : List PZ) (c : Rat × Rat) (i o : Rat) (w : World) (hl : RdV w vl l) (hgv : givP l = 0) (b1 : Bq 30 c.1) (b2 : Bq 30 c.2) (b3 : Bq 30 i) (b4 : Bq 30 o) (ho : ¬ (i < 0 ∨ o < i)) (hne : innQ l c ≠ i) :
    Calls Tryz.prog 24 #[vl, zoV (zoQ c i o)] w (Ret w (.tuple #[.slice none 0 0, .slice none 0 0, .int .i64 14])) := by
  obtain ⟨g1, g2, g3⟩ := givP_iff.1 hgv
  have hg := fun W (hW : Below w.heap.size w W) => rgiven35 vl l W (hl.below hW) (by have := (givP_iff.1 hgv).1; unfold maxLen; omega)
  rw [hgv] at hg
  have hck := fun W => rcheck35_ok c i o 30 W b1 b2 b3 b4 (by decide) (by decide)
  simp only [if_neg ho] at hck
  have har := fun W (hW : Below w.heap.size w W) => raround35 vl l c 30 W (hl.below hW) g2 g3 b1 b2 (by decide) (by decide) (by omega)
  have hni : (R (innQ l c) = R i) = False := eq_false (fun e => hne (R_inj e))
  obtain ⟨A, ca, rfl⟩ := hl.len
  unfold zoV zoQ ceV ceQ at *
  simp only at *
  have HAR := Lib.hid har
  clear hl hgv b1 b2 b3 b4 ho har g1 g2 g3
  clear hne
  generalize R (innQ l c) = si at *
  generalize R (outQ l c) = so at *
  generalize R c.1 = ta at *
  generalize R c.2 = tb at *
  generalize R i = tc at *
  generalize R o = td at *
  have HG := Lib.hid hg
  have HC := Lib.hid hck
  clear hg hck
  have HR := Lib.hid (And.intro (rnw (w := w) (t := 47) (xs := [.string (bs ta), .string (bs tb), .string (bs tc), .string (bs td)])) (bel_alloc (Below.refl w.heap.size w) (.cells #[.string (bs ta), .string (bs tb), .string (bs tc), .string (bs td)] 47 (0, 0))))
  go_enter Tryz.func24, Tryz.ntmps24
  go_wp2_with fail
  refine (HG.out _ HR.out.2).mono ?_
  rintro e w1 ⟨rfl, hb1⟩
  have H1 := Lib.hid (And.intro (HR.out.1.below' hb1) (bel_to HR.out.2 hb1))
  clear hb1 HR HG
  have q0 := H1.out.1.cell (i := 0) rfl
  have q1 := H1.out.1.cell (i := 1) rfl
  have q2 := H1.out.1.cell (i := 2) rfl
  have q3 := H1.out.1.cell (i := 3) rfl
  go_wp2_with fail
  refine (HC.out _).mono ?_
  rintro e w2 ⟨rfl, hb2⟩
  have H2 := Lib.hid (And.intro (H1.out.1.below' hb2) (bel_to H1.out.2 hb2))
  clear hb2 H1 HC q0 q1 q2 q3
  have m0 := cell_regrown (H2.out.1.cell (i := 0) rfl)
  have m1 := cell_regrown (H2.out.1.cell (i := 1) rfl)
  have m2 := cell_regrown (H2.out.1.cell (i := 2) rfl)
  have m3 := cell_regrown (H2.out.1.cell (i := 3) rfl)
  have k1 := reg_of (w := w2) (fun E hE => HAR.out E (bel_to H2.out.2 hE))
  have e1 : ∀ args w, (callFunc 80 args).run Tryz.prog w = .ok (.enter 80 args) w := enters_of Tryz.func80 (by kernel_rfl) rfl
  go_wp2_with fail
  refine wp_region_quiet_below (by kernel_rfl) (by kernel_rfl) ?_
  repeat (go_big_quiet_step (fail))
  go_big_quiet_step (exact k1 _ _)
  repeat (go_big_quiet_step (fail))
  refine wpQuiet_nil ?_
  intro W6 hw'
  have hb6 : Below w2.heap.size w2 W6 := by obtain ⟨p, e⟩ := hw'; rw [e]; exact below_regrown w2 p.d p.os
  clear hw'
  have H6 := Lib.hid (And.intro (H2.out.1.below' hb6) (bel_to H2.out.2 hb6))
  clear hb6 k1 e1 m0 m1 m2 m3 H2 HAR
  go_wp2
  refine bodyPost_ret (v := .tuple #[.slice none 0 0, .slice none 0 0, .int .i64 14]) (by simp [results, Tryz.results24, go_sem]) rfl ⟨rfl, H6.out.2⟩
theorem rcontacts35_F2 (vl : Value) (l : List PZ) (c : Rat × Rat) (i o : Rat) (w : World) (hl : RdV w vl l) (hgv : givP l = 0) (b1 : Bq 30 c.1) (b2 : Bq 30 c.2) (b3 : Bq 30 i) (b4 : Bq 30 o) (ho : ¬ (i < 0 ∨ o < i)) (he : innQ l c = i) (hne : outQ l c ≠ o) :
    Calls Tryz.prog 24 #[vl, zoV (zoQ c i o)] w (Ret w (.tuple #[.slice none 0 0, .slice none 0 0, .int .i64 14])) := by
  obtain ⟨g1, g2, g3⟩ := givP_iff.1 hgv
  have hg := fun W (hW : Below w.heap.size w W) => rgiven35 vl l W (hl.below hW) (by have := (givP_iff.1 hgv).1; unfold maxLen; omega)
  rw [hgv] at hg
  have hck := fun W => rcheck35_ok c i o 30 W b1 b2 b3 b4 (by decide) (by decide)
  simp only [if_neg ho] at hck
  have har := fun W (hW : Below w.heap.size w W) => raround35 vl l c 30 W (hl.below hW) g2 g3 b1 b2 (by decide) (by decide) (by omega)
  have hni : (R (outQ l c) = R o) = False := eq_false (fun e => hne (R_inj e))
  rw [he] at har
  obtain ⟨A, ca, rfl⟩ := hl.len
  unfold zoV zoQ ceV ceQ at *
  simp only at *
  have HAR := Lib.hid har
  clear hl hgv b1 b2 b3 b4 ho har g1 g2 g3
  clear hne he
  generalize R (outQ l c) = so at *
  generalize R c.1 = ta at *
  generalize R c.2 = tb at *
  generalize R i = tc at *
  generalize R o = td at *
  have HG := Lib.hid hg
  have HC := Lib.hid hck
  clear hg hck
  have HR := Lib.hid (And.intro (rnw (w := w) (t := 47) (xs := [.string (bs ta), .string (bs tb), .string (bs tc), .string (bs td)])) (bel_alloc (Below.refl w.heap.size w) (.cells #[.string (bs ta), .string (bs tb), .string (bs tc), .string (bs td)] 47 (0, 0))))
  go_enter Tryz.func24, Tryz.ntmps24
  go_wp2_with fail
  refine (HG.out _ HR.out.2).mono ?_
  rintro e w1 ⟨rfl, hb1⟩
  have H1 := Lib.hid (And.intro (HR.out.1.below' hb1) (bel_to HR.out.2 hb1))
  clear hb1 HR HG
  have q0 := H1.out.1.cell (i := 0) rfl
  have q1 := H1.out.1.cell (i := 1) rfl
  have q2 := H1.out.1.cell (i := 2) rfl
  have q3 := H1.out.1.cell (i := 3) rfl
  go_wp2_with fail
  refine (HC.out _).mono ?_
  rintro e w2 ⟨rfl, hb2⟩
  have H2 := Lib.hid (And.intro (H1.out.1.below' hb2) (bel_to H1.out.2 hb2))
  clear hb2 H1 HC q0 q1 q2 q3
  have m0 := cell_regrown (H2.out.1.cell (i := 0) rfl)
  have m1 := cell_regrown (H2.out.1.cell (i := 1) rfl)
  have m2 := cell_regrown (H2.out.1.cell (i := 2) rfl)
  have m3 := cell_regrown (H2.out.1.cell (i := 3) rfl)
  have k1 := reg_of (w := w2) (fun E hE => HAR.out E (bel_to H2.out.2 hE))
  have e1 : ∀ args w, (callFunc 80 args).run Tryz.prog w = .ok (.enter 80 args) w := enters_of Tryz.func80 (by kernel_rfl) rfl
  go_wp2_with fail
  refine wp_region_quiet_below (by kernel_rfl) (by kernel_rfl) ?_
  repeat (go_big_quiet_step (fail))
  go_big_quiet_step (exact k1 _ _)
  repeat (go_big_quiet_step (fail))
  refine wpQuiet_nil ?_
  intro W6 hw'
  have hb6 : Below w2.heap.size w2 W6 := by obtain ⟨p, e⟩ := hw'; rw [e]; exact below_regrown w2 p.d p.os
  clear hw'
  have H6 := Lib.hid (And.intro (H2.out.1.below' hb6) (bel_to H2.out.2 hb6))
  clear hb6 k1 e1 m0 m1 m2 m3 H2 HAR
  go_wp2
  refine bodyPost_ret (v := .tuple #[.slice none 0 0, .slice none 0 0, .int .i64 14]) (by simp [results, Tryz.results24, go_sem]) rfl ⟨rfl, H6.out.2⟩
theorem rcontacts35_F3 (vl : Value) (l : List PZ) (c : Rat × Rat) (i o : Rat) (w : World) (hl : RdV w vl l) (hgv : givP l = 0) (b1 : Bq 30 c.1) (b2 : Bq 30 c.2) (b3 : Bq 30 i) (b4 : Bq 30 o) (ho : ¬ (i < 0 ∨ o < i)) (he : innQ l c = i) (he2 : outQ l c = o) :
    Calls Tryz.prog 24 #[vl, zoV (zoQ c i o)] w (ConP w (conT (farF l c) i l.length) (conT (farF l c) o l.length)) := by
  obtain ⟨g1, g2, g3⟩ := givP_iff.1 hgv
  have hg := fun W (hW : Below w.heap.size w W) => rgiven35 vl l W (hl.below hW) (by have := (givP_iff.1 hgv).1; unfold maxLen; omega)
  rw [hgv] at hg
  have hck := fun W => rcheck35_ok c i o 30 W b1 b2 b3 b4 (by decide) (by decide)
  simp only [if_neg ho] at hck
  have har := fun W (hW : Below w.heap.size w W) => raround35 vl l c 30 W (hl.below hW) g2 g3 b1 b2 (by decide) (by decide) (by omega)
  rw [he, he2] at har
  have HF := Lib.hid (fun j (hj : j < l.length) W => (by
    rw [farF_get l c hj]
    exact rfar35 l[j] c 30 W (g3 _ (List.getElem_mem hj)) b1 b2 (by decide) (by decide) : Calls Tryz.prog 85 #[ptV l[j], ceV (ceQ c)] W (Ret W (.string (bs (R (farF l c j)))))))
  have HLL := Lib.hid (fun W (hW : Below w.heap.size w W) => hl.below hW)
  have HN := Lib.hid g1
  have hq : ∀ (a b : Rat), ((R a == R b) = true ∧ a = b) ∨ ((R a == R b) = false ∧ a ≠ b) := fun a b => by
    by_cases h : a = b
    · exact Or.inl ⟨by rw [h]; simp, h⟩
    · exact Or.inr ⟨by rw [beq_eq_false_iff_ne]; exact fun e => h (R_inj e), h⟩
  have HQ1 := Lib.hid (fun j => hq (farF l c j) i)
  have HQ2 := Lib.hid (fun j => hq (farF l c j) o)
  obtain ⟨A, ca, rfl⟩ := hl.len
  unfold zoV zoQ ceV ceQ at *
  simp only at *
  have hnl := HN.out
  have HAR := Lib.hid har
  clear hl hgv b1 b2 b3 b4 ho har g1 g2 g3
  clear he he2 hq
  unfold ptV at HF
  generalize farF l c = f at *
  generalize R c.1 = ta at *
  generalize R c.2 = tb at *
  generalize R i = tc at *
  generalize R o = td at *
  obtain ⟨tcq, htcq⟩ : ∃ x, x = i := ⟨_, rfl⟩
  obtain ⟨tdq, htdq⟩ : ∃ x, x = o := ⟨_, rfl⟩
  rw [← htcq] at HQ1 ⊢
  rw [← htdq] at HQ2 ⊢
  clear htcq htdq
  generalize hps : ConP w (conT f tcq l.length) (conT f tdq l.length) = post
  have HPS := Lib.hid hps
  clear hps
  have HG := Lib.hid hg
  have HC := Lib.hid hck
  clear hg hck
  have HR := Lib.hid (And.intro (rnw (w := w) (t := 47) (xs := [.string (bs ta), .string (bs tb), .string (bs tc), .string (bs td)])) (bel_alloc (Below.refl w.heap.size w) (.cells #[.string (bs ta), .string (bs tb), .string (bs tc), .string (bs td)] 47 (0, 0))))
  go_enter Tryz.func24, Tryz.ntmps24
  go_wp2_with fail
  refine (HG.out _ HR.out.2).mono ?_
  rintro e w1 ⟨rfl, hb1⟩
  have H1 := Lib.hid (And.intro (HR.out.1.below' hb1) (bel_to HR.out.2 hb1))
  clear hb1 HR HG
  have q0 := H1.out.1.cell (i := 0) rfl
  have q1 := H1.out.1.cell (i := 1) rfl
  have q2 := H1.out.1.cell (i := 2) rfl
  have q3 := H1.out.1.cell (i := 3) rfl
  go_wp2_with fail
  refine (HC.out _).mono ?_
  rintro e w2 ⟨rfl, hb2⟩
  have H2 := Lib.hid (And.intro (H1.out.1.below' hb2) (bel_to H1.out.2 hb2))
  clear hb2 H1 HC q0 q1 q2 q3
  have m0 := cell_regrown (H2.out.1.cell (i := 0) rfl)
  have m1 := cell_regrown (H2.out.1.cell (i := 1) rfl)
  have m2 := cell_regrown (H2.out.1.cell (i := 2) rfl)
  have m3 := cell_regrown (H2.out.1.cell (i := 3) rfl)
  have k1 := reg_of (w := w2) (fun E hE => HAR.out E (bel_to H2.out.2 hE))
  have e1 : ∀ args w, (callFunc 80 args).run Tryz.prog w = .ok (.enter 80 args) w := enters_of Tryz.func80 (by kernel_rfl) rfl
  go_wp2_with fail
  refine wp_region_quiet_below (by kernel_rfl) (by kernel_rfl) ?_
  repeat (go_big_quiet_step (fail))
  go_big_quiet_step (exact k1 _ _)
  repeat (go_big_quiet_step (fail))
  refine wpQuiet_nil ?_
  intro W6 hw'
  have hb6 : Below w2.heap.size w2 W6 := by obtain ⟨p, e⟩ := hw'; rw [e]; exact below_regrown w2 p.d p.os
  clear hw'
  have H6 := Lib.hid (And.intro (H2.out.1.below' hb6) (bel_to H2.out.2 hb6))
  clear hb6 k1 e1 m0 m1 m2 m3 H2 HAR
  go_wp2
  obtain ⟨W0, hW0⟩ : ∃ V, V = W6 := ⟨_, rfl⟩
  subst hW0
  go_loopw [9, 10, 11] (fun v1 v2 iv wr => ∃ j : Nat, iv = .int .i64 (j : Int) ∧ j ≤ l.length ∧ Hid (TwN w wr w.heap.size 47 [.string (bs ta), .string (bs tb), .string (bs tc), .string (bs td)] v1 v2 (conT f tcq j) (conT f tdq j))) (fun _ _ iv _ => l.length - (intOf iv).toNat)
  case atStart => exact ⟨0, rfl, by omega, Lib.hid ⟨World.ownsRow_nil _ _ _ _, World.ownsRow_nil _ _ _ _, Or.inl rfl, Or.inl rfl, H6.out.2, H6.out.1, Nat.le_refl _, H6.out.1.lt⟩⟩
  case round =>
    clear H6
    obtain ⟨j, rfl, hj, hin⟩ := hrel
    obtain ⟨A1, c1', e1'⟩ := hin.out.o1.form'
    obtain ⟨A2, c2', e2'⟩ := hin.out.o2.form'
    have HL1 := Lib.hid (show (conT f tcq j).length + 1 ≤ 1000000000 ∧ (conT f tdq j).length + 1 ≤ 1000000000 from ⟨by have := conT_len f tcq j; omega, by have := conT_len f tdq j; omega⟩)
    generalize hn1 : (conT f tcq j).length = n1 at e1'
    generalize hn2 : (conT f tdq j).length = n2 at e2'
    subst e1' e2'
    clear hn1 hn2
    by_cases hlt : j < l.length
    · obtain ⟨bl, ol, rfl, hw⟩ := (HLL.out _ hin.out.bel).row j hlt
      obtain ⟨y0, y1⟩ := hw.val j hlt
      have HFJ := Lib.hid (HF.out j hlt)
      have hj1 : (j : Int) < (l.length : Int) := by omega
      have hj0 : (0 : Int) ≤ (j : Int) := by omega
      have HQA := Lib.hid (HQ1.out j)
      have HQB := Lib.hid (HQ2.out j)
      have HCA := Lib.hid (show conT f tcq (j + 1) = if f j = tcq then conT f tcq j ++ [(j : Int)] else conT f tcq j from rfl)
      have HCB := Lib.hid (show conT f tdq (j + 1) = if f j = tdq then conT f tdq j ++ [(j : Int)] else conT f tdq j from rfl)
      have m0 := cell_regrown (hin.out.bx.cell (i := 0) rfl)
      have m1 := cell_regrown (hin.out.bx.cell (i := 1) rfl)
      have m2 := cell_regrown y0
      have m3 := cell_regrown y1
      have k1 := reg_of (w := wr) (fun E _ => HFJ.out E)
      have e1 : ∀ args w, (callFunc 85 args).run Tryz.prog w = .ok (.enter 85 args) w := enters_of Tryz.func85 (by kernel_rfl) rfl
      clear hw y0 y1
      go_wp2_with fail
      refine wp_region_quiet_below (by kernel_rfl) (by kernel_rfl) ?_
      repeat (go_big_quiet_step (fail))
      go_big_quiet_step (exact k1 _ _)
      repeat (go_big_quiet_step (fail))
      refine wpQuiet_nil ?_
      intro W6 hw'
      have hb6 : Below wr.heap.size wr W6 := by obtain ⟨p, e⟩ := hw'; rw [e]; exact below_regrown wr p.d p.os
      clear hw'
      have T6 := Lib.hid (hin.out.to hb6)
      clear hb6 k1 e1 m0 m1 m2 m3 hin HFJ
      generalize R (f j) = sd at *
      have q2 := T6.out.bx.cell (i := 2) rfl
      rcases HQA.out with ⟨ha, hb⟩ | ⟨ha, hb⟩
      · have hca := HCA.out
        rw [if_pos hb] at hca
        have HC1 := Lib.hid hca
        clear hca hb HQA HCA
        rcases HQB.out with ⟨ha2, hb2⟩ | ⟨ha2, hb2⟩
        · have hcb := HCB.out
          rw [if_pos hb2] at hcb
          have HC2 := Lib.hid hcb
          clear hcb hb2 HQB HCB
          go_wp2_with (first
            | (at_builtin; refine wpList_appN_at rfl (.tmp 54) (.tmp 56) rfl rfl rfl (T7.out.to (bel_alloc (Below.refl _ _) _)).o2 rfl (rnw.cell (i := 0) rfl) (T7.out.to (bel_alloc (Below.refl _ _) _)).sz HL1.out.2 ?_; intro v9 w9 ho9 hk9 hd9; obtain ⟨A9, c9, e9⟩ := ho9.form'; generalize hn9 : (conT f tdq j ++ [(j : Int)]).length = n9 at e9; subst e9; have T8 := Lib.hid ((T7.out.to (bel_alloc (Below.refl _ _) _)).app2 ho9 hk9 hd9); clear ho9 hk9 hd9 hn9)
            | (at_builtin; refine wpList_appN_at rfl (.tmp 46) (.tmp 48) rfl rfl rfl (T6.out.to (bel_alloc (Below.refl _ _) _)).o1 rfl (rnw.cell (i := 0) rfl) (T6.out.to (bel_alloc (Below.refl _ _) _)).sz HL1.out.1 ?_; intro v9 w9 ho9 hk9 hd9; obtain ⟨A9, c9, e9⟩ := ho9.form'; generalize hn9 : (conT f tcq j ++ [(j : Int)]).length = n9 at e9; subst e9; have T7 := Lib.hid ((T6.out.to (bel_alloc (Below.refl _ _) _)).app ho9 hk9 hd9); clear ho9 hk9 hd9 hn9; have q3 := T7.out.bx.cell (i := 3) rfl))
          clear q2 q3 T6 T7
          go_wp2
          go_roundw
          case rel => exact ⟨j + 1, by go_num, hlt, by rw [HC1.out, HC2.out]; exact T8⟩
          case measure => simp [intOf]; omega
        · have hcb := HCB.out
          rw [if_neg hb2] at hcb
          have HC2 := Lib.hid hcb
          clear hcb hb2 HQB HCB
          go_wp2_with ((at_builtin; refine wpList_appN_at rfl (.tmp 46) (.tmp 48) rfl rfl rfl (T6.out.to (bel_alloc (Below.refl _ _) _)).o1 rfl (rnw.cell (i := 0) rfl) (T6.out.to (bel_alloc (Below.refl _ _) _)).sz HL1.out.1 ?_; intro v9 w9 ho9 hk9 hd9; obtain ⟨A9, c9, e9⟩ := ho9.form'; generalize hn9 : (conT f tcq j ++ [(j : Int)]).length = n9 at e9; subst e9; have T7 := Lib.hid ((T6.out.to (bel_alloc (Below.refl _ _) _)).app ho9 hk9 hd9); clear ho9 hk9 hd9 hn9; have q3 := T7.out.bx.cell (i := 3) rfl))
          clear q2 q3 T6
          go_wp2
          go_roundw
          case rel => exact ⟨j + 1, by go_num, hlt, by rw [HC1.out, HC2.out]; exact T7⟩
          case measure => simp [intOf]; omega
      · have hca := HCA.out
        rw [if_neg hb] at hca
        have HC1 := Lib.hid hca
        clear hca hb HQA HCA
        have q3 := T6.out.bx.cell (i := 3) rfl
        rcases HQB.out with ⟨ha2, hb2⟩ | ⟨ha2, hb2⟩
        · have hcb := HCB.out
          rw [if_pos hb2] at hcb
          have HC2 := Lib.hid hcb
          clear hcb hb2 HQB HCB
          go_wp2_with ((at_builtin; refine wpList_appN_at rfl (.tmp 54) (.tmp 56) rfl rfl rfl (T6.out.to (bel_alloc (Below.refl _ _) _)).o2 rfl (rnw.cell (i := 0) rfl) (T6.out.to (bel_alloc (Below.refl _ _) _)).sz HL1.out.2 ?_; intro v9 w9 ho9 hk9 hd9; obtain ⟨A9, c9, e9⟩ := ho9.form'; generalize hn9 : (conT f tdq j ++ [(j : Int)]).length = n9 at e9; subst e9; have T8 := Lib.hid ((T6.out.to (bel_alloc (Below.refl _ _) _)).app2 ho9 hk9 hd9); clear ho9 hk9 hd9 hn9))
          clear q2 q3 T6
          go_wp2
          go_roundw
          case rel => exact ⟨j + 1, by go_num, hlt, by rw [HC1.out, HC2.out]; exact T8⟩
          case measure => simp [intOf]; omega
        · have hcb := HCB.out
          rw [if_neg hb2] at hcb
          have HC2 := Lib.hid hcb
          clear hcb hb2 HQB HCB
          go_wp2
          go_roundw
          case rel => exact ⟨j + 1, by go_num, hlt, by rw [HC1.out, HC2.out]; exact T6⟩
          case measure => simp [intOf]; omega
    · obtain rfl : j = l.length := by omega
      have HX := Lib.hid (show ∃ v1 v2, (Value.tuple #[.slice A1 n1 c1', .slice A2 n2 c2', .int .i64 0]) = .tuple #[v1, v2, .int .i64 0] ∧ RdN wr v1 (conT f tcq l.length) ∧ RdN wr v2 (conT f tdq l.length) ∧ Below w.heap.size w wr from ⟨_, _, rfl, hin.out.o1.rd, hin.out.o2.rd, hin.out.bel⟩)
      clear hin
      go_wp2
      rw [← HPS.out]
      refine bodyPost_ret (v := .tuple #[.slice A1 n1 c1', .slice A2 n2 c2', .int .i64 0]) (by simp [results, Tryz.results24, go_sem]) rfl ?_
      obtain ⟨v1, v2, h1, h2⟩ := HX.out
      exact ⟨v1, v2, congrArg Ending.returned h1, h2⟩
end W
end Go.Proofs.YtijpgddpejiohaaGreatDoor
end
section
namespace Go.Proofs.YtijpgddpejiohaaGreatDoor
open Go Go.RowKit Go.Deep Go.Sort
def NoErR (w : World) (b : Nat) : Prop := Row w b 125 [.int .i64 0]
theorem NoErR.below' {b : Nat} {w w' : World} (h : NoErR w b) (hb : Below w.heap.size w w') : NoErR w' b := Row.below' h hb
theorem NoErR.cell {w : World} {b : Nat} (h : NoErR w b) : w.cell? ⟨b, 0, none⟩ = some (.int .i64 0) := Row.cell h rfl
theorem NoErR.free {w : World} {b : Nat} (h : NoErR w b) : w.frozen? ⟨b, 0, none⟩ = false := Row.free h 0
theorem Below.sameR {B : Nat} {a w : World} (h : Below B a w) {b : Nat} (hn : NoErR w b) : Below B a (w.setCell ⟨b, 0, none⟩ (.int .i64 0)) := by
  have hr := Row.set hn 0 (.int .i64 0)
  refine h.trans ⟨rfl, rfl, rfl, ?_, fun k hk => ?_⟩
  · show _ ≤ (w.heap.modify _ _).size; simp
  · by_cases hkb : k = b
    · subst hkb
      exact hr.trans (Eq.symm hn)
    · exact Below.heap_setCell _ _ _ _ hkb
namespace W
open M
attribute [local go_sem] bs_size bs_toList bs_get bs_extract bs_append bs_lit0 bs_lit1 lit1_bs
set_option maxHeartbeats 2000000
set_option maxRecDepth 20000
theorem prof (b : Nat) (s : List UInt8) (w : World) (hs : NoErR w b) :
    Calls Tryz.prog 156 #[.pointer (some ⟨b, 0, none⟩), .string (bs s), .int .i64 0] w (Ret w (.string (bs s))) := by
  have hc := hs.cell
  have hf := hs.free
  have HS := Lib.hid hs
  clear hs
  go_enter Tryz.func156, Tryz.ntmps156
  go_wp2
  go_ret
  exact Ret.of rfl (Below.sameR (Below.refl _ _) HS.out)
theorem pradd (b : Nat) (x y : Rat) (j k : Nat) (w : World) (hg : Glob w) (hs : NoErR w b) (hx : Bq j x) (hy : Bq k y) (hjk : j + k + 1 ≤ 1024) :
    Calls Tryz.prog 142 #[.pointer (some ⟨b, 0, none⟩), .string (bs (R x)), .string (bs (R y))] w (Ret w (.string (bs (R (x + y))))) := by
  have HM := Lib.hid (ratAdd x y j k w hg hx hy hjk)
  have HO := Lib.hid (fun W (hW : Below w.heap.size w W) => prof b (R (x + y)) W (hs.below' hW))
  clear hs hx hy
  generalize R (x + y) = r at *
  generalize R x = sx at *
  generalize R y = sy at *
  go_enter Tryz.func142, Tryz.ntmps142
  go_wp2_with fail
  refine (HM.out).mono ?_
  rintro e w1 ⟨rfl, hb1⟩
  go_wp2_with fail
  refine (HO.out _ hb1).mono ?_
  rintro e w2 ⟨rfl, hb2⟩
  go_wp2
  go_ret
  exact Ret.of rfl (Below.then hb1 hb2)
theorem prsub (b : Nat) (x y : Rat) (j k : Nat) (w : World) (hg : Glob w) (hs : NoErR w b) (hx : Bq j x) (hy : Bq k y) (hjk : j + k + 1 ≤ 1024) :
    Calls Tryz.prog 92 #[.pointer (some ⟨b, 0, none⟩), .string (bs (R x)), .string (bs (R y))] w (Ret w (.string (bs (R (x - y))))) := by
  have HM := Lib.hid (ratSub x y j k w hg hx hy hjk)
  have HO := Lib.hid (fun W (hW : Below w.heap.size w W) => prof b (R (x - y)) W (hs.below' hW))
  clear hs hx hy
  generalize R (x - y) = r at *
  generalize R x = sx at *
  generalize R y = sy at *
  go_enter Tryz.func92, Tryz.ntmps92
  go_wp2_with fail
  refine (HM.out).mono ?_
  rintro e w1 ⟨rfl, hb1⟩
  go_wp2_with fail
  refine (HO.out _ hb1).mono ?_
  rintro e w2 ⟨rfl, hb2⟩
  go_wp2
  go_ret
  exact Ret.of rfl (Below.then hb1 hb2)
theorem prmul (b : Nat) (x y : Rat) (j k : Nat) (w : World) (hg : Glob w) (hs : NoErR w b) (hx : Bq j x) (hy : Bq k y) (hjk : j + k ≤ 1024) :
    Calls Tryz.prog 143 #[.pointer (some ⟨b, 0, none⟩), .string (bs (R x)), .string (bs (R y))] w (Ret w (.string (bs (R (x * y))))) := by
  have HM := Lib.hid (ratMul x y j k w hg hx hy hjk)
  have HO := Lib.hid (fun W (hW : Below w.heap.size w W) => prof b (R (x * y)) W (hs.below' hW))
  clear hs hx hy
  generalize R (x * y) = r at *
  generalize R x = sx at *
  generalize R y = sy at *
  go_enter Tryz.func143, Tryz.ntmps143
  go_wp2_with fail
  refine (HM.out).mono ?_
  rintro e w1 ⟨rfl, hb1⟩
  go_wp2_with fail
  refine (HO.out _ hb1).mono ?_
  rintro e w2 ⟨rfl, hb2⟩
  go_wp2
  go_ret
  exact Ret.of rfl (Below.then hb1 hb2)
theorem prless (b : Nat) (x y : Rat) (j k : Nat) (w : World) (hg : Glob w) (hs : NoErR w b) (hx : Bq j x) (hy : Bq k y) (hjk : j + k ≤ 1024) :
    Calls Tryz.prog 139 #[.pointer (some ⟨b, 0, none⟩), .string (bs (R x)), .string (bs (R y))] w (Ret w (.bool (decide (x < y)))) := by
  have HM := Lib.hid (ratCompare x y j k w hg hx hy hjk)
  have HO := Lib.hid (fun W (hW : Below w.heap.size w W) => prof b [48] W (hs.below' hW))
  rw [show decide (x < y) = decide (cmpQ x y < 0) from decide_eq_decide.2 cmpQ_lt'.symm]
  clear hs hx hy
  generalize cmpQ x y = c at *
  generalize R x = sx at *
  generalize R y = sy at *
  go_enter Tryz.func139, Tryz.ntmps139
  go_wp2_with fail
  refine (HM.out).mono ?_
  rintro e w1 ⟨rfl, hb1⟩
  go_wp2_with fail
  refine (HO.out _ hb1).mono ?_
  rintro e w2 ⟨rfl, hb2⟩
  go_wp2
  go_ret
  exact Ret.of rfl (Below.then hb1 hb2)
theorem pwithin (n : Int) (w : World) : Calls Tryz.prog 233 #[.int .i64 n] w (Ret w (.bool (inC n))) := by
  unfold inC
  generalize hrs : (decide (-100000 ≤ n) && decide (n ≤ 100000)) = rs
  have HRS := Lib.hid hrs
  clear hrs
  by_cases h1 : -100000 ≤ n
  · have d1 : decide (-100000 ≤ n) = true := decide_eq_true h1
    obtain rfl : decide (n ≤ 100000) = rs := by rw [← HRS.out, d1, Bool.true_and]
    clear h1 HRS
    go_enter Tryz.func233, Tryz.ntmps233
    go_wp2
    go_ret
    exact Ret.of rfl (Below.refl _ _)
  · have d1 : decide (-100000 ≤ n) = false := decide_eq_false h1
    obtain rfl : false = rs := by rw [← HRS.out, d1, Bool.false_and]
    clear h1 HRS
    go_enter Tryz.func233, Tryz.ntmps233
    go_wp2
    go_ret
    exact Ret.of rfl (Below.refl _ _)
theorem pflat (p : PZ) (w : World) : Calls Tryz.prog 202 #[ptV p] w (Ret w (.bool (inP p))) := by
  obtain ⟨x, y⟩ := p
  unfold ptV inP
  simp only
  have H1 := Lib.hid (fun W => pwithin x W)
  have H2 := Lib.hid (fun W => pwithin y W)
  have HR := Lib.hid (And.intro (rnw (w := w) (t := 69) (xs := [.int .i64 x, .int .i64 y])) (bel_alloc (Below.refl w.heap.size w) (.cells #[.int .i64 x, .int .i64 y] 69 (0, 0))))
  generalize inC x = s1 at *
  generalize inC y = s2 at *
  generalize hrs : (s1 && s2) = rs
  have HRS := Lib.hid hrs
  clear hrs
  go_enter Tryz.func202, Tryz.ntmps202
  go_wp2_with fail
  refine (H1.out _).mono ?_
  rintro e w1 ⟨rfl, hb1⟩
  have K1 := Lib.hid (And.intro (HR.out.1.below' hb1) (bel_to HR.out.2 hb1))
  clear hb1 HR
  cases s1 with
  | false =>
    obtain rfl : false = rs := by rw [← HRS.out]; rfl
    clear HRS
    go_wp2
    go_ret
    exact Ret.of rfl K1.out.2
  | true =>
    have q1 := K1.out.1.cell (i := 1) rfl
    obtain rfl : s2 = rs := by rw [← HRS.out]; rfl
    clear HRS
    go_wp2_with fail
    refine (H2.out _).mono ?_
    rintro e w2 ⟨rfl, hb2⟩
    go_wp2
    go_ret
    exact Ret.of rfl (bel_to K1.out.2 hb2)
theorem ent_flat : Enters Tryz.prog 202 := enters_of Tryz.func202 (by kernel_rfl) rfl
theorem pallP (vl : Value) (l : List PZ) (w : World) (hl : RdV w vl l) (hn : l.length ≤ 1000000) :
    Calls Tryz.prog 232 #[.func (.func 202) #[] #[], vl] w (Ret w (.int .i64 ((if l.all inP = true then 0 else 2 : Nat) : Int))) := by
  obtain ⟨A, cap, rfl⟩ := hl.len
  have HW := Lib.hid hl
  have hent := ent_flat
  unfold Enters at hent
  generalize hch : (((if l.all inP = true then 0 else 2 : Nat)) : Int) = ch
  have HCH := Lib.hid hch
  clear hl hch
  go_enter Tryz.func232, Tryz.ntmps232
  go_wp2
  go_loopw [9] (fun iv wr => ∃ i : Nat, iv = .int .i64 (i : Int) ∧ i ≤ l.length ∧ Hid (l.all inP = (l.drop i).all inP) ∧ Below w.heap.size w wr) (fun iv _ => l.length - (intOf iv).toNat)
  case atStart => exact ⟨0, rfl, by omega, (rfl : l.all inP = (l.drop 0).all inP), Below.refl _ _⟩
  case round =>
    obtain ⟨i, rfl, hi, hk, hbw⟩ := hrel
    by_cases hlt : i < l.length
    · obtain ⟨b1, o1, rfl, hw⟩ := HW.out.row i hlt
      obtain ⟨c0, c1⟩ := (hw.below' hbw).val i hlt
      have hk2 := hk.out
      rw [List.drop_eq_getElem_cons hlt, List.all_cons] at hk2
      have HR := Lib.hid (fun W => pflat l[i] W)
      unfold ptV at HR
      clear hk hw
      generalize l[i].1 = x at *
      generalize l[i].2 = y at *
      have hab : Below w.heap.size w (wr.alloc (.cells #[.int .i64 x, .int .i64 y] 69 (0, 0))) := hbw.alloc hbw.size _
      cases hc : inP l[i] with
      | true =>
        rw [hc] at hk2 HR
        rw [Bool.true_and] at hk2
        have HK := Lib.hid hk2
        clear hk2 hc
        go_wp2_with fail
        refine (HR.out _).mono ?_
        rintro e w1 ⟨rfl, hb1⟩
        have hb1' := hab.trans (hb1.mono hab.size)
        clear hab hb1
        go_wp2
        go_roundw
        case rel => exact ⟨i + 1, by go_num, by omega, HK, hb1'⟩
        case measure => simp [intOf]; omega
      | false =>
        rw [hc] at hk2 HR
        rw [Bool.false_and] at hk2
        have HK := Lib.hid hk2
        clear hk2 hc
        go_wp2_with fail
        refine (HR.out _).mono ?_
        rintro e w1 ⟨rfl, hb1⟩
        have hb1' := hab.trans (hb1.mono hab.size)
        clear hab hb1
        go_wp2
        go_ret
        exact Ret.of (by rw [← HCH.out, HK.out]; rfl) hb1'
    · obtain rfl : i = l.length := by omega
      have hk2 := hk.out
      rw [List.drop_length] at hk2
      have HK := Lib.hid hk2
      clear hk2 hk
      go_wp2
      go_ret
      exact Ret.of (by rw [← HCH.out, HK.out]; rfl) hbw
theorem pchecked (vl : Value) (l : List PZ) (w : World) (hl : RdV w vl l) :
    Calls Tryz.prog 201 #[vl, .func (.func 202) #[] #[]] w (Ret w (.int .i64 ((chkPs l : Nat) : Int))) := by
  by_cases h64 : 64 < l.length
  · have hd : decide ((64 : Int) < ((l.length : Nat) : Int)) = true := decide_eq_true (by omega)
    unfold chkPs
    rw [if_pos h64]
    obtain ⟨A, cap, rfl⟩ := hl.len
    clear hl h64
    go_enter Tryz.func201, Tryz.ntmps201
    go_wp2
    go_ret
    exact Ret.of rfl (Below.refl _ _)
  · have hd : decide ((64 : Int) < ((l.length : Nat) : Int)) = false := decide_eq_false (by omega)
    have HA := Lib.hid (pallP vl l w hl (by omega))
    unfold chkPs
    rw [if_neg h64]
    generalize (((if l.all inP = true then 0 else 2 : Nat)) : Int) = ch at *
    obtain ⟨A, cap, rfl⟩ := hl.len
    clear hl h64
    go_enter Tryz.func201, Tryz.ntmps201
    go_wp2_with fail
    refine (HA.out).mono ?_
    rintro e w1 ⟨rfl, hb1⟩
    go_wp2
    go_ret
    exact Ret.of rfl hb1
theorem pvcheck (vl : Value) (l : List PZ) (w : World) (hl : RdV w vl l) : Calls Tryz.prog 138 #[vl] w (Ret w (.int .i64 ((chkPs l : Nat) : Int))) := by
  have HA := Lib.hid (pchecked vl l w hl)
  obtain ⟨A, cap, rfl⟩ := hl.len
  generalize ((chkPs l : Nat) : Int) = ch at *
  clear hl
  go_enter Tryz.func138, Tryz.ntmps138
  go_wp2_with fail
  refine (HA.out).mono ?_
  rintro e w1 ⟨rfl, hb1⟩
  go_wp2
  go_ret
  exact Ret.of rfl hb1
theorem pgiven (vl : Value) (l : List PZ) (w : World) (hl : RdV w vl l) : Calls Tryz.prog 76 #[vl] w (Ret w (.int .i64 ((givP l : Nat) : Int))) := by
  have HC := Lib.hid (pvcheck vl l w hl)
  obtain ⟨A, cap, rfl⟩ := hl.len
  unfold givP
  clear hl
  by_cases h : chkPs l = 0
  · rw [h] at HC
    rw [if_neg (by simp [h])]
    by_cases h2 : l.length = 0
    · rw [if_pos h2]
      have hz : (((l.length : Nat) : Int) == 0) = true := by rw [h2]; rfl
      clear h h2
      go_enter Tryz.func76, Tryz.ntmps76
      go_wp2_with fail
      refine (HC.out).mono ?_
      rintro e w1 ⟨rfl, hb1⟩
      go_wp2
      go_ret
      exact Ret.of rfl hb1
    · rw [if_neg h2]
      have hz : (((l.length : Nat) : Int) == 0) = false := by rw [beq_eq_false_iff_ne]; omega
      clear h h2
      go_enter Tryz.func76, Tryz.ntmps76
      go_wp2_with fail
      refine (HC.out).mono ?_
      rintro e w1 ⟨rfl, hb1⟩
      go_wp2
      go_ret
      exact Ret.of rfl hb1
  · rw [if_pos h]
    have hz : (((chkPs l : Nat) : Int) != 0) = true := by simp; exact h
    clear h
    generalize ((chkPs l : Nat) : Int) = z at *
    go_enter Tryz.func76, Tryz.ntmps76
    go_wp2_with fail
    refine (HC.out).mono ?_
    rintro e w1 ⟨rfl, hb1⟩
    go_wp2
    go_ret
    exact Ret.of rfl hb1
end W
end Go.Proofs.YtijpgddpejiohaaGreatDoor
end
section
namespace Go.Proofs.YtijpgddpejiohaaGreatDoor
open Go Go.RowKit Go.Deep Go.Sort
namespace W
open M
attribute [local go_sem] bs_size bs_toList bs_get bs_extract bs_append bs_lit0 bs_lit1 lit1_bs
set_option maxHeartbeats 4000000
set_option maxRecDepth 20000
theorem prnumbers (va : Value) (l : List (List UInt8)) (w : World) (hg : Glob w) (ha : RdT w va l) (hl : ∀ p ∈ l, p.length ≤ 90000) (hn : l.length ≤ 1000000) :
    Calls Tryz.prog 77 #[va] w (Ret w (.int .i64 ((chkRs l : Nat) : Int))) := by
  obtain ⟨A, cap, rfl⟩ := ha.len
  have HW := Lib.hid ha
  have HC := Lib.hid (fun i (hi : i < l.length) W (hW : Below w.heap.size w W) => vcheckR l[i] W (hg.of hW) (hl _ (List.getElem_mem hi)))
  generalize hch : ((chkRs l : Nat) : Int) = ch
  have HCH := Lib.hid hch
  clear ha hl hch
  go_enter Tryz.func77, Tryz.ntmps77
  go_wp2
  go_loopw [8] (fun iv wr => ∃ i : Nat, iv = .int .i64 (i : Int) ∧ i ≤ l.length ∧ Hid (chkRs l = chkRs (l.drop i)) ∧ Below w.heap.size w wr) (fun iv _ => l.length - (intOf iv).toNat)
  case atStart => exact ⟨0, rfl, by omega, (rfl : chkRs l = chkRs (l.drop 0)), Below.refl _ _⟩
  case round =>
    obtain ⟨i, rfl, hi, hk, hbw⟩ := hrel
    by_cases hlt : i < l.length
    · obtain ⟨b1, o1, rfl, hw⟩ := HW.out.row i hlt
      have cv := (hw.below' hbw).val i hlt
      have hk2 := hk.out
      rw [chkRs_drop l i hlt] at hk2
      have HP := Lib.hid (HC.out i hlt)
      clear hk hw
      generalize l[i] = x at *
      by_cases hc : chkR x = 0
      · rw [if_pos hc] at hk2
        have hp := HP.out
        rw [hc] at hp
        have HP2 := Lib.hid hp
        have HK := Lib.hid hk2
        clear hk2 hc hp HP
        go_wp2_with fail
        refine (HP2.out _ hbw).mono ?_
        rintro e w1 ⟨rfl, hb1⟩
        have hb1' := hbw.trans (hb1.mono hbw.size)
        go_wp2
        go_roundw
        case rel => exact ⟨i + 1, by go_num, by omega, HK, hb1'⟩
        case measure => simp [intOf]; omega
      · rw [if_neg hc] at hk2
        have hz : (((chkR x : Nat) : Int) != 0) = true := by simp; exact hc
        have HK := Lib.hid hk2
        clear hk2 hc
        generalize hcc : ((chkR x : Nat) : Int) = c at *
        have HCC := Lib.hid hcc
        clear hcc
        go_wp2_with fail
        refine (HP.out _ hbw).mono ?_
        rintro e w1 ⟨rfl, hb1⟩
        have hb1' := hbw.trans (hb1.mono hbw.size)
        go_wp2
        go_ret
        exact Ret.of (by rw [← HCH.out, HK.out, HCC.out]; rfl) hb1'
    · obtain rfl : i = l.length := by omega
      have hk2 := hk.out
      rw [List.drop_length] at hk2
      have HK := Lib.hid hk2
      clear hk2 hk
      go_wp2
      go_ret
      exact Ret.of (by rw [← HCH.out, HK.out]; rfl) hbw
theorem psquareR (b : Nat) (p : PZ) (c : Rat × Rat) (k : Nat) (w : World) (hg : Glob w) (hs : NoErR w b) (hp : inP p = true) (h1 : Bq k c.1) (h2 : Bq k c.2) (hk : k ≤ 100) :
    Calls Tryz.prog 82 #[.pointer (some ⟨b, 0, none⟩), ptV p, ceV (ceQ c)] w (Ret w (.string (bs (R (farQ p c))))) := by
  obtain ⟨x, y⟩ := p
  obtain ⟨cx, cy⟩ := c
  unfold inP at hp
  rw [Bool.and_eq_true] at hp
  simp only at *
  have ax := in_bd hp.1
  have ay := in_bd hp.2
  have b1 := (in_bq hp.1).sub h1
  have b2 := (in_bq hp.2).sub h2
  have hW1 := fun W (hW : Below w.heap.size w W) => ratWhole x W (hg.of hW) (by omega) (by omega)
  have hW2 := fun W (hW : Below w.heap.size w W) => ratWhole y W (hg.of hW) (by omega) (by omega)
  have hL1 := fun W (hW : Below w.heap.size w W) => prsub b (x : Rat) cx 6 k W (hg.of hW) (hs.below' hW) (in_bq hp.1) h1 (by omega)
  have hL2 := fun W (hW : Below w.heap.size w W) => prsub b (y : Rat) cy 6 k W (hg.of hW) (hs.below' hW) (in_bq hp.2) h2 (by omega)
  have hS1 := fun W (hW : Below w.heap.size w W) => prmul b ((x : Rat) - cx) ((x : Rat) - cx) _ _ W (hg.of hW) (hs.below' hW) b1 b1 (by omega)
  have hS2 := fun W (hW : Below w.heap.size w W) => prmul b ((y : Rat) - cy) ((y : Rat) - cy) _ _ W (hg.of hW) (hs.below' hW) b2 b2 (by omega)
  have hP := fun W (hW : Below w.heap.size w W) => pradd b (((x : Rat) - cx) * ((x : Rat) - cx)) (((y : Rat) - cy) * ((y : Rat) - cy)) _ _ W (hg.of hW) (hs.below' hW) (b1.mul b1) (b2.mul b2) (by omega)
  show Calls Tryz.prog 82 #[.pointer (some ⟨b, 0, none⟩), .agg #[.int .i64 x, .int .i64 y], .agg #[.string (bs (R cx)), .string (bs (R cy))]] w (Ret w (.string (bs (R (((x : Rat) - cx) * ((x : Rat) - cx) + ((y : Rat) - cy) * ((y : Rat) - cy))))))
  clear hp h1 h2 ax ay b1 b2 hk hs
  generalize R (((x : Rat) - cx) * ((x : Rat) - cx) + ((y : Rat) - cy) * ((y : Rat) - cy)) = s7 at *
  generalize R (((x : Rat) - cx) * ((x : Rat) - cx)) = s5 at *
  generalize R (((y : Rat) - cy) * ((y : Rat) - cy)) = s6 at *
  generalize R ((x : Rat) - cx) = s3 at *
  generalize R ((y : Rat) - cy) = s4 at *
  generalize R cx = tx at *
  generalize R cy = ty at *
  generalize R (x : Rat) = s1 at *
  generalize R (y : Rat) = s2 at *
  have hr1 : Row ((w.alloc (.cells #[.int .i64 x, .int .i64 y] 69 (0, 0))).alloc (.cells #[.string (bs tx), .string (bs ty)] 41 (0, 0))) w.heap.size 69 [.int .i64 x, .int .i64 y] := rnw.alloc _
  have hr2 : Row ((w.alloc (.cells #[.int .i64 x, .int .i64 y] 69 (0, 0))).alloc (.cells #[.string (bs tx), .string (bs ty)] 41 (0, 0))) (w.heap.size + 1) 41 [.string (bs tx), .string (bs ty)] := rnew0 (World.size_alloc _ _).symm
  have HR := Lib.hid (And.intro hr1 (And.intro hr2 (bel_alloc (bel_alloc (Below.refl w.heap.size w) (.cells #[.int .i64 x, .int .i64 y] 69 (0, 0))) (.cells #[.string (bs tx), .string (bs ty)] 41 (0, 0)))))
  have HS1 := Lib.hid hS1
  have HS2 := Lib.hid hS2
  have HP := Lib.hid hP
  clear hr1 hr2 hS1 hS2 hP
  go_enter Tryz.func82, Tryz.ntmps82
  go_wp2_with fail
  generalize (w.alloc (.cells #[.int .i64 x, .int .i64 y] 69 (0, 0))).alloc (.cells #[.string (bs tx), .string (bs ty)] 41 (0, 0)) = W at *
  have m0 := cell_regrown (HR.out.1.cell (i := 0) rfl)
  have m1 := cell_regrown (HR.out.1.cell (i := 1) rfl)
  have m2 := cell_regrown (HR.out.2.1.cell (i := 0) rfl)
  have m3 := cell_regrown (HR.out.2.1.cell (i := 1) rfl)
  have k1 := reg_of (w := W) (fun E hE => hW1 E (bel_to HR.out.2.2 hE))
  have k2 := reg_of (w := W) (fun E hE => hL1 E (bel_to HR.out.2.2 hE))
  have k3 := reg_of (w := W) (fun E hE => hW2 E (bel_to HR.out.2.2 hE))
  have k4 := reg_of (w := W) (fun E hE => hL2 E (bel_to HR.out.2.2 hE))
  have e1 : ∀ args w, (callFunc 46 args).run Tryz.prog w = .ok (.enter 46 args) w := enters_of Tryz.func46 (by kernel_rfl) rfl
  have e2 : ∀ args w, (callFunc 92 args).run Tryz.prog w = .ok (.enter 92 args) w := enters_of Tryz.func92 (by kernel_rfl) rfl
  clear hW1 hW2 hL1 hL2
  refine wp_region_quiet_below (by kernel_rfl) (by kernel_rfl) ?_
  repeat (go_big_quiet_step (fail))
  go_big_quiet_step (exact k1 _ _)
  repeat (go_big_quiet_step (fail))
  go_big_quiet_step (exact k2 _ _)
  repeat (go_big_quiet_step (fail))
  go_big_quiet_step (exact k3 _ _)
  repeat (go_big_quiet_step (fail))
  go_big_quiet_step (exact k4 _ _)
  repeat (go_big_quiet_step (fail))
  refine wpQuiet_nil ?_
  intro W6 hw'
  have hb6 : Below W.heap.size W W6 := by obtain ⟨p, e⟩ := hw'; rw [e]; exact below_regrown W p.d p.os
  clear hw'
  have HB6 := Lib.hid (bel_to HR.out.2.2 hb6)
  clear hb6 k1 k2 k3 k4 e1 e2 m0 m1 m2 m3 HR
  go_wp2_with fail
  refine (HS1.out _ HB6.out).mono ?_
  rintro e w7 ⟨rfl, hb7⟩
  have HB7 := Lib.hid (bel_to HB6.out hb7)
  clear hb7
  go_wp2_with fail
  refine (HS2.out _ HB7.out).mono ?_
  rintro e w8 ⟨rfl, hb8⟩
  have HB8 := Lib.hid (bel_to HB7.out hb8)
  clear hb8
  go_wp2_with fail
  refine (HP.out _ HB8.out).mono ?_
  rintro e w9 ⟨rfl, hb9⟩
  go_wp2
  go_ret
  exact Ret.of rfl (bel_to HB8.out hb9)
theorem pannulus_bad (z : ZT) (w : World) (hg : Glob w) (l1 : z.1.1.length ≤ 90000) (l2 : z.1.2.length ≤ 90000) (l3 : z.2.1.length ≤ 90000) (l4 : z.2.2.length ≤ 90000) (h : chkRs [z.1.1, z.1.2, z.2.1, z.2.2] ≠ 0) :
    Calls Tryz.prog 81 #[zoV z] w (Ret w (.int .i64 ((chkRs [z.1.1, z.1.2, z.2.1, z.2.2] : Nat) : Int))) := by
  obtain ⟨⟨ta, tb⟩, tc, td⟩ := z
  unfold zoV
  simp only at *
  have hb0 := bel_alloc (bel_alloc (Below.refl w.heap.size w) (.cells #[.string (bs ta), .string (bs tb), .string (bs tc), .string (bs td)] 43 (0, 0))) (.cells #[.string (bs ta), .string (bs tb), .string (bs tc), .string (bs td)] 29 (0, 0))
  have hrow : Row ((w.alloc (.cells #[.string (bs ta), .string (bs tb), .string (bs tc), .string (bs td)] 43 (0, 0))).alloc (.cells #[.string (bs ta), .string (bs tb), .string (bs tc), .string (bs td)] 29 (0, 0))) (w.heap.size + 1) 29 (Strs [ta, tb, tc, td]) := rnew0 (World.size_alloc _ _).symm
  have HN := Lib.hid (prnumbers (.slice (some ⟨w.heap.size + 1, 0, none⟩) 4 4) [ta, tb, tc, td] _ (hg.of hb0) (rdt_row (cap := 4) hrow) (fun p hp => by
    simp only [List.mem_cons, List.not_mem_nil, or_false] at hp
    rcases hp with rfl | rfl | rfl | rfl <;> assumption) (by simp))
  have hz : (((chkRs [ta, tb, tc, td] : Nat) : Int) != 0) = true := by simp; exact h
  have HB := Lib.hid hb0
  clear h l1 l2 l3 l4 hb0 hrow
  generalize ((chkRs [ta, tb, tc, td] : Nat) : Int) = x at *
  go_enter Tryz.func81, Tryz.ntmps81
  go_wp2_with fail
  refine (HN.out).mono ?_
  rintro e w1 ⟨rfl, hb1⟩
  go_wp2
  go_ret
  exact Ret.of rfl (bel_to HB.out hb1)
theorem pannulus_ok (c : Rat × Rat) (i o : Rat) (k : Nat) (w : World) (hg : Glob w) (b1 : Bq k c.1) (b2 : Bq k c.2) (b3 : Bq k i) (b4 : Bq k o) (hk1 : 1 ≤ k) (hk : k ≤ 300) :
    Calls Tryz.prog 81 #[zoV (zoQ c i o)] w (Ret w (.int .i64 ((if i < 0 ∨ o < i then 9 else 0 : Nat) : Int))) := by
  have small : ∀ q, Bq k q → (R q).length ≤ 90000 := fun q h => by have := h.R_len (by omega); omega
  have s1 := small _ b1
  have s2 := small _ b2
  have s3 := small _ b3
  have s4 := small _ b4
  have hch : chkRs [R c.1, R c.2, R i, R o] = 0 := by rw [chk4, chkRs_two b1 b2 (by omega) (by omega), if_pos rfl, b3.chk (by omega), if_pos rfl, b4.chk (by omega)]
  have hl1 := fun b W hgW (hs : NoErR W b) => prless b i 0 k 1 W hgW hs b3 Bq_nil (by omega)
  rw [R_nil] at hl1
  have hl2 := fun b W hgW (hs : NoErR W b) => prless b o i k k W hgW hs b4 b3 (by omega)
  have hres : (((if i < 0 ∨ o < i then 9 else 0 : Nat)) : Int) = if decide (i < 0) = true then 9 else if decide (o < i) = true then 9 else 0 := by
    by_cases h1 : i < 0
    · simp [h1]
    · by_cases h2 : o < i <;> simp [h1, h2]
  rw [hres]
  show Calls Tryz.prog 81 #[.agg #[.string (bs (R c.1)), .string (bs (R c.2)), .string (bs (R i)), .string (bs (R o))]] w _
  clear b1 b2 b3 b4 hk hk1 small hres
  generalize decide (i < 0) = d1 at *
  generalize decide (o < i) = d2 at *
  generalize R c.1 = ta at *
  generalize R c.2 = tb at *
  generalize R i = tc at *
  generalize R o = td at *
  have hb0 := bel_alloc (bel_alloc (Below.refl w.heap.size w) (.cells #[.string (bs ta), .string (bs tb), .string (bs tc), .string (bs td)] 43 (0, 0))) (.cells #[.string (bs ta), .string (bs tb), .string (bs tc), .string (bs td)] 29 (0, 0))
  have hrow : Row ((w.alloc (.cells #[.string (bs ta), .string (bs tb), .string (bs tc), .string (bs td)] 43 (0, 0))).alloc (.cells #[.string (bs ta), .string (bs tb), .string (bs tc), .string (bs td)] 29 (0, 0))) (w.heap.size + 1) 29 (Strs [ta, tb, tc, td]) := rnew0 (World.size_alloc _ _).symm
  have hz0 : Row ((w.alloc (.cells #[.string (bs ta), .string (bs tb), .string (bs tc), .string (bs td)] 43 (0, 0))).alloc (.cells #[.string (bs ta), .string (bs tb), .string (bs tc), .string (bs td)] 29 (0, 0))) w.heap.size 43 [.string (bs ta), .string (bs tb), .string (bs tc), .string (bs td)] := rnw.alloc _
  have hn := prnumbers (.slice (some ⟨w.heap.size + 1, 0, none⟩) 4 4) [ta, tb, tc, td] _ (hg.of hb0) (rdt_row (cap := 4) hrow) (fun p hp => by
    simp only [List.mem_cons, List.not_mem_nil, or_false] at hp
    rcases hp with rfl | rfl | rfl | rfl <;> assumption) (by simp)
  rw [hch] at hn
  have HN := Lib.hid hn
  have HB := Lib.hid (And.intro hz0 hb0)
  have HL1 := Lib.hid hl1
  have HL2 := Lib.hid hl2
  have HG := Lib.hid hg
  clear s1 s2 s3 s4 hb0 hrow hz0 hn hch hl1 hl2 hg
  generalize hrs : (if d1 = true then (9 : Int) else if d2 = true then 9 else 0) = rs
  have HRS := Lib.hid hrs
  clear hrs
  go_enter Tryz.func81, Tryz.ntmps81
  go_wp2_with fail
  refine (HN.out).mono ?_
  rintro e w1 ⟨rfl, hb1⟩
  have H1 := Lib.hid (And.intro (HB.out.1.below' hb1) (bel_to HB.out.2 hb1))
  clear hb1 HB HN
  have hal := bel_alloc (Below.refl w1.heap.size w1) (.cells #[.int .i64 0] 125 (0, 0))
  have HE := Lib.hid (show NoErR (w1.alloc (.cells #[.int .i64 0] 125 (0, 0))) w1.heap.size from rnw)
  have H2 := Lib.hid (And.intro (H1.out.1.below' hal) (bel_to H1.out.2 hal))
  have q2 := H1.out.1.cell (i := 2) rfl
  have q2' := H2.out.1.cell (i := 2) rfl
  clear hal H1
  go_wp2_with fail
  refine (HL1.out _ _ (HG.out.of H2.out.2) HE.out).mono ?_
  rintro e w3 ⟨rfl, hb3⟩
  have H3 := Lib.hid (And.intro (H2.out.1.below' hb3) (And.intro (HE.out.below' hb3) (bel_to H2.out.2 hb3)))
  clear hb3 H2 HE HL1 q2 q2'
  cases d1 with
  | true =>
    obtain rfl : 9 = rs := by rw [← HRS.out]; rfl
    clear HRS
    go_wp2
    go_ret
    exact Ret.of rfl H3.out.2.2
  | false =>
    have q2 := H3.out.1.cell (i := 2) rfl
    have q3 := H3.out.1.cell (i := 3) rfl
    go_wp2_with fail
    refine (HL2.out _ _ (HG.out.of H3.out.2.2) H3.out.2.1).mono ?_
    rintro e w4 ⟨rfl, hb4⟩
    have H4 := Lib.hid (And.intro (H3.out.2.1.below' hb4) (bel_to H3.out.2.2 hb4))
    clear hb4 H3 HL2 q2 q3
    have ce := H4.out.1.cell
    cases d2 with
    | true =>
      obtain rfl : 9 = rs := by rw [← HRS.out]; rfl
      clear HRS
      go_wp2
      go_ret
      exact Ret.of rfl H4.out.2
    | false =>
      obtain rfl : 0 = rs := by rw [← HRS.out]; rfl
      clear HRS
      go_wp2
      go_ret
      exact Ret.of rfl H4.out.2
end W
end Go.Proofs.YtijpgddpejiohaaGreatDoor
end
