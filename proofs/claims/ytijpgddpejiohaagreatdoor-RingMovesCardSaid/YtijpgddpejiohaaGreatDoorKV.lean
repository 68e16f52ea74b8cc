/-
  Chapter 35 of the program: 'Contacts'. (Printed by wip/yt.py.)
  Chapter 35 of the program: weights that prove.
  Chapter 35 of the program: 'proves'.
-/
import Derived.Test.YtijpgddpejiohaaGreatDoorKU
section
namespace Go.Proofs.YtijpgddpejiohaaGreatDoor
open Go Go.RowKit Go.Deep Go.Sort
theorem NoErR.grownN {w w' : World} {B b : Nat} {v : Value} {l : List Int} (h : NoErR w b) (ho : OwnN w B v l) (hg : w.grownBy w' v.ownBlock) : NoErR w' b :=
  row_grown h hg (pre_not_row (Pre.of h) ho (by decide))
namespace W
open M
attribute [local go_sem] bs_size bs_toList bs_get bs_extract bs_append bs_lit0 bs_lit1 lit1_bs
set_option maxHeartbeats 4000000
set_option maxRecDepth 20000
theorem pcontacts_A (vl : Value) (l : List PZ) (z : ZT) (w : World) (hl : RdV w vl l) (hgv : givP l ≠ 0) :
    Calls Tryz.prog 23 #[vl, zoV z] w (Ret w (.tuple #[.slice none 0 0, .slice none 0 0, .int .i64 ((givP l : Nat) : Int)])) := by
  have hg := fun W (hW : Below w.heap.size w W) => pgiven vl l W (hl.below hW)
  have hz : (((givP l : Nat) : Int) != 0) = true := by simp; exact hgv
  obtain ⟨A, ca, rfl⟩ := hl.len
  obtain ⟨⟨ta, tb⟩, tc, td⟩ := z
  unfold zoV
  simp only
  clear hl hgv
  generalize ((givP l : Nat) : Int) = x at *
  have HG := Lib.hid hg
  clear hg
  have HR := Lib.hid (And.intro (rnw (w := w) (t := 43) (xs := [.string (bs ta), .string (bs tb), .string (bs tc), .string (bs td)])) (bel_alloc (Below.refl w.heap.size w) (.cells #[.string (bs ta), .string (bs tb), .string (bs tc), .string (bs td)] 43 (0, 0))))
  go_enter Tryz.func23, Tryz.ntmps23
  go_wp2_with fail
  refine (HG.out _ HR.out.2).mono ?_
  rintro e w1 ⟨rfl, hb1⟩
  go_wp2
  refine bodyPost_ret (v := .tuple #[.slice none 0 0, .slice none 0 0, .int .i64 x]) (by simp [results, Tryz.results23, go_sem]) rfl ⟨rfl, bel_to HR.out.2 hb1⟩
theorem pcontacts_B (vl : Value) (l : List PZ) (z : ZT) (w : World) (hgl : Glob w) (hl : RdV w vl l) (hgv : givP l = 0) (l1 : z.1.1.length ≤ 90000) (l2 : z.1.2.length ≤ 90000) (l3 : z.2.1.length ≤ 90000) (l4 : z.2.2.length ≤ 90000) (hc : chkRs [z.1.1, z.1.2, z.2.1, z.2.2] ≠ 0) :
    Calls Tryz.prog 23 #[vl, zoV z] w (Ret w (.tuple #[.slice none 0 0, .slice none 0 0, .int .i64 ((chkRs [z.1.1, z.1.2, z.2.1, z.2.2] : Nat) : Int)])) := by
  have hg := fun W (hW : Below w.heap.size w W) => pgiven vl l W (hl.below hW)
  rw [hgv] at hg
  have hck := fun W (hW : Below w.heap.size w W) => pannulus_bad z W (hgl.of hW) l1 l2 l3 l4 hc
  have hz : (((chkRs [z.1.1, z.1.2, z.2.1, z.2.2] : Nat) : Int) != 0) = true := by simp; exact hc
  obtain ⟨A, ca, rfl⟩ := hl.len
  clear hl hgv hc l1 l2 l3 l4 hgl
  generalize ((chkRs [z.1.1, z.1.2, z.2.1, z.2.2] : Nat) : Int) = x at *
  obtain ⟨⟨ta, tb⟩, tc, td⟩ := z
  unfold zoV at *
  simp only at *
  have HG := Lib.hid hg
  have HC := Lib.hid hck
  clear hg hck
  have HR := Lib.hid (And.intro (rnw (w := w) (t := 43) (xs := [.string (bs ta), .string (bs tb), .string (bs tc), .string (bs td)])) (bel_alloc (Below.refl w.heap.size w) (.cells #[.string (bs ta), .string (bs tb), .string (bs tc), .string (bs td)] 43 (0, 0))))
  go_enter Tryz.func23, Tryz.ntmps23
  go_wp2_with fail
  refine (HG.out _ HR.out.2).mono ?_
  rintro e w1 ⟨rfl, hb1⟩
  have H1 := Lib.hid (And.intro (HR.out.1.below' hb1) (bel_to HR.out.2 hb1))
  clear hb1 HR HG
  have q0 := H1.out.1.cell (i := 0) rfl
  have q1 := H1.out.1.cell (i := 1) rfl
  have q2 := H1.out.1.cell (i := 2) rfl
  have q3 := H1.out.1.cell (i := 3) rfl
  go_wp2_with fail
  refine (HC.out _ H1.out.2).mono ?_
  rintro e w2 ⟨rfl, hb2⟩
  go_wp2
  refine bodyPost_ret (v := .tuple #[.slice none 0 0, .slice none 0 0, .int .i64 x]) (by simp [results, Tryz.results23, go_sem]) rfl ⟨rfl, bel_to H1.out.2 hb2⟩
theorem pcontacts_C (vl : Value) (l : List PZ) (c : Rat × Rat) (i o : Rat) (w : World) (hgl : Glob w) (hl : RdV w vl l) (hgv : givP l = 0) (b1 : Bq 30 c.1) (b2 : Bq 30 c.2) (b3 : Bq 30 i) (b4 : Bq 30 o) (ho : i < 0 ∨ o < i) :
    Calls Tryz.prog 23 #[vl, zoV (zoQ c i o)] w (Ret w (.tuple #[.slice none 0 0, .slice none 0 0, .int .i64 9])) := by
  have hg := fun W (hW : Below w.heap.size w W) => pgiven vl l W (hl.below hW)
  rw [hgv] at hg
  have hck := fun W (hW : Below w.heap.size w W) => pannulus_ok c i o 30 W (hgl.of hW) b1 b2 b3 b4 (by decide) (by decide)
  simp only [if_pos ho] at hck
  obtain ⟨A, ca, rfl⟩ := hl.len
  unfold zoV zoQ ceQ at *
  simp only at *
  clear hl hgv b1 b2 b3 b4 ho hgl
  generalize R c.1 = ta at *
  generalize R c.2 = tb at *
  generalize R i = tc at *
  generalize R o = td at *
  have HG := Lib.hid hg
  have HC := Lib.hid hck
  clear hg hck
  have HR := Lib.hid (And.intro (rnw (w := w) (t := 43) (xs := [.string (bs ta), .string (bs tb), .string (bs tc), .string (bs td)])) (bel_alloc (Below.refl w.heap.size w) (.cells #[.string (bs ta), .string (bs tb), .string (bs tc), .string (bs td)] 43 (0, 0))))
  go_enter Tryz.func23, Tryz.ntmps23
  go_wp2_with fail
  refine (HG.out _ HR.out.2).mono ?_
  rintro e w1 ⟨rfl, hb1⟩
  have H1 := Lib.hid (And.intro (HR.out.1.below' hb1) (bel_to HR.out.2 hb1))
  clear hb1 HR HG
  have q0 := H1.out.1.cell (i := 0) rfl
  have q1 := H1.out.1.cell (i := 1) rfl
  have q2 := H1.out.1.cell (i := 2) rfl
  have q3 := H1.out.1.cell (i := 3) rfl
  go_wp2_with fail
  refine (HC.out _ H1.out.2).mono ?_
  rintro e w2 ⟨rfl, hb2⟩
  have H2 := Lib.hid (And.intro (H1.out.1.below' hb2) (bel_to H1.out.2 hb2))
  clear hb2 H1 HC q0 q1 q2 q3
  go_wp2
  refine bodyPost_ret (v := .tuple #[.slice none 0 0, .slice none 0 0, .int .i64 9]) (by simp [results, Tryz.results23, go_sem]) rfl ⟨rfl, H2.out.2⟩
theorem pcontacts_F1 (vl : Value) (l : List PZ) (c : Rat × Rat) (i o : Rat) (w : World) (hgl : Glob w) (hl : RdV w vl l) (hgv : givP l = 0) (b1 : Bq 30 c.1) (b2 : Bq 30 c.2) (b3 : Bq 30 i) (b4 : Bq 30 o) (ho : ¬ (i < 0 ∨ o < i)) (hne : innQ l c ≠ i) :
    Calls Tryz.prog 23 #[vl, zoV (zoQ c i o)] w (Ret w (.tuple #[.slice none 0 0, .slice none 0 0, .int .i64 14])) := by
  obtain ⟨g1, g2, g3⟩ := givP_iff.1 hgv
  have hg := fun W (hW : Below w.heap.size w W) => pgiven vl l W (hl.below hW)
  rw [hgv] at hg
  have hck := fun W (hW : Below w.heap.size w W) => pannulus_ok c i o 30 W (hgl.of hW) b1 b2 b3 b4 (by decide) (by decide)
  simp only [if_neg ho] at hck
  have har := fun W (hW : Below w.heap.size w W) => pat35 vl l c 30 W (hgl.of hW) (hl.below hW) g2 g3 b1 b2 (by decide) (by omega)
  have hni : (R (innQ l c) = R i) = False := eq_false (fun e => hne (R_inj e))
  obtain ⟨A, ca, rfl⟩ := hl.len
  unfold zoV zoQ ceV ceQ at *
  simp only at *
  have HAR := Lib.hid har
  clear hl hgv b1 b2 b3 b4 ho har g1 g2 g3 hgl
  clear hne
  generalize R (innQ l c) = si at *
  generalize R (outQ l c) = so at *
  generalize R c.1 = ta at *
  generalize R c.2 = tb at *
  generalize R i = tc at *
  generalize R o = td at *
  have HG := Lib.hid hg
  have HC := Lib.hid hck
  clear hg hck
  have HR := Lib.hid (And.intro (rnw (w := w) (t := 43) (xs := [.string (bs ta), .string (bs tb), .string (bs tc), .string (bs td)])) (bel_alloc (Below.refl w.heap.size w) (.cells #[.string (bs ta), .string (bs tb), .string (bs tc), .string (bs td)] 43 (0, 0))))
  go_enter Tryz.func23, Tryz.ntmps23
  go_wp2_with fail
  refine (HG.out _ HR.out.2).mono ?_
  rintro e w1 ⟨rfl, hb1⟩
  have H1 := Lib.hid (And.intro (HR.out.1.below' hb1) (bel_to HR.out.2 hb1))
  clear hb1 HR HG
  have q0 := H1.out.1.cell (i := 0) rfl
  have q1 := H1.out.1.cell (i := 1) rfl
  have q2 := H1.out.1.cell (i := 2) rfl
  have q3 := H1.out.1.cell (i := 3) rfl
  go_wp2_with fail
  refine (HC.out _ H1.out.2).mono ?_
  rintro e w2 ⟨rfl, hb2⟩
  have H2 := Lib.hid (And.intro (H1.out.1.below' hb2) (bel_to H1.out.2 hb2))
  clear hb2 H1 HC q0 q1 q2 q3
  have q0 := H2.out.1.cell (i := 0) rfl
  have q1 := H2.out.1.cell (i := 1) rfl
  have q2 := H2.out.1.cell (i := 2) rfl
  have q3 := H2.out.1.cell (i := 3) rfl
  go_wp2_with fail
  refine (HAR.out _ H2.out.2).mono ?_
  rintro e w3 ⟨rfl, hb3⟩
  have hal := bel_to hb3 (bel_alloc (Below.refl _ _) (.cells #[.string (bs ta), .string (bs tb), .string (bs si), .string (bs so)] 43 (0, 0)))
  have H6 := Lib.hid (And.intro (H2.out.1.below' hal) (bel_to H2.out.2 hal))
  clear q0 q1 q2 q3
  have q0 := H6.out.1.cell (i := 0) rfl
  have q1 := H6.out.1.cell (i := 1) rfl
  have q2 := H6.out.1.cell (i := 2) rfl
  have q3 := H6.out.1.cell (i := 3) rfl
  clear hal hb3 H2 HAR
  go_wp2
  refine bodyPost_ret (v := .tuple #[.slice none 0 0, .slice none 0 0, .int .i64 14]) (by simp [results, Tryz.results23, go_sem]) rfl ⟨rfl, H6.out.2⟩
theorem pcontacts_F2 (vl : Value) (l : List PZ) (c : Rat × Rat) (i o : Rat) (w : World) (hgl : Glob w) (hl : RdV w vl l) (hgv : givP l = 0) (b1 : Bq 30 c.1) (b2 : Bq 30 c.2) (b3 : Bq 30 i) (b4 : Bq 30 o) (ho : ¬ (i < 0 ∨ o < i)) (he : innQ l c = i) (hne : outQ l c ≠ o) :
    Calls Tryz.prog 23 #[vl, zoV (zoQ c i o)] w (Ret w (.tuple #[.slice none 0 0, .slice none 0 0, .int .i64 14])) := by
  obtain ⟨g1, g2, g3⟩ := givP_iff.1 hgv
  have hg := fun W (hW : Below w.heap.size w W) => pgiven vl l W (hl.below hW)
  rw [hgv] at hg
  have hck := fun W (hW : Below w.heap.size w W) => pannulus_ok c i o 30 W (hgl.of hW) b1 b2 b3 b4 (by decide) (by decide)
  simp only [if_neg ho] at hck
  have har := fun W (hW : Below w.heap.size w W) => pat35 vl l c 30 W (hgl.of hW) (hl.below hW) g2 g3 b1 b2 (by decide) (by omega)
  have hni : (R (outQ l c) = R o) = False := eq_false (fun e => hne (R_inj e))
  rw [he] at har
  obtain ⟨A, ca, rfl⟩ := hl.len
  unfold zoV zoQ ceV ceQ at *
  simp only at *
  have HAR := Lib.hid har
  clear hl hgv b1 b2 b3 b4 ho har g1 g2 g3 hgl
  clear hne he
  generalize R (outQ l c) = so at *
  generalize R c.1 = ta at *
  generalize R c.2 = tb at *
  generalize R i = tc at *
  generalize R o = td at *
  have HG := Lib.hid hg
  have HC := Lib.hid hck
  clear hg hck
  have HR := Lib.hid (And.intro (rnw (w := w) (t := 43) (xs := [.string (bs ta), .string (bs tb), .string (bs tc), .string (bs td)])) (bel_alloc (Below.refl w.heap.size w) (.cells #[.string (bs ta), .string (bs tb), .string (bs tc), .string (bs td)] 43 (0, 0))))
  go_enter Tryz.func23, Tryz.ntmps23
  go_wp2_with fail
  refine (HG.out _ HR.out.2).mono ?_
  rintro e w1 ⟨rfl, hb1⟩
  have H1 := Lib.hid (And.intro (HR.out.1.below' hb1) (bel_to HR.out.2 hb1))
  clear hb1 HR HG
  have q0 := H1.out.1.cell (i := 0) rfl
  have q1 := H1.out.1.cell (i := 1) rfl
  have q2 := H1.out.1.cell (i := 2) rfl
  have q3 := H1.out.1.cell (i := 3) rfl
  go_wp2_with fail
  refine (HC.out _ H1.out.2).mono ?_
  rintro e w2 ⟨rfl, hb2⟩
  have H2 := Lib.hid (And.intro (H1.out.1.below' hb2) (bel_to H1.out.2 hb2))
  clear hb2 H1 HC q0 q1 q2 q3
  have q0 := H2.out.1.cell (i := 0) rfl
  have q1 := H2.out.1.cell (i := 1) rfl
  have q2 := H2.out.1.cell (i := 2) rfl
  have q3 := H2.out.1.cell (i := 3) rfl
  go_wp2_with fail
  refine (HAR.out _ H2.out.2).mono ?_
  rintro e w3 ⟨rfl, hb3⟩
  have hal := bel_to hb3 (bel_alloc (Below.refl _ _) (.cells #[.string (bs ta), .string (bs tb), .string (bs tc), .string (bs so)] 43 (0, 0)))
  have H6 := Lib.hid (And.intro (H2.out.1.below' hal) (bel_to H2.out.2 hal))
  clear q0 q1 q2 q3
  have q0 := H6.out.1.cell (i := 0) rfl
  have q1 := H6.out.1.cell (i := 1) rfl
  have q2 := H6.out.1.cell (i := 2) rfl
  have q3 := H6.out.1.cell (i := 3) rfl
  clear hal hb3 H2 HAR
  go_wp2
  refine bodyPost_ret (v := .tuple #[.slice none 0 0, .slice none 0 0, .int .i64 14]) (by simp [results, Tryz.results23, go_sem]) rfl ⟨rfl, H6.out.2⟩
theorem pcontacts_F3 (vl : Value) (l : List PZ) (c : Rat × Rat) (i o : Rat) (w : World) (hgl : Glob w) (hl : RdV w vl l) (hgv : givP l = 0) (b1 : Bq 30 c.1) (b2 : Bq 30 c.2) (b3 : Bq 30 i) (b4 : Bq 30 o) (ho : ¬ (i < 0 ∨ o < i)) (he : innQ l c = i) (he2 : outQ l c = o) :
    Calls Tryz.prog 23 #[vl, zoV (zoQ c i o)] w (ConP w (conT (farF l c) i l.length) (conT (farF l c) o l.length)) := by
  obtain ⟨g1, g2, g3⟩ := givP_iff.1 hgv
  have hg := fun W (hW : Below w.heap.size w W) => pgiven vl l W (hl.below hW)
  rw [hgv] at hg
  have hck := fun W (hW : Below w.heap.size w W) => pannulus_ok c i o 30 W (hgl.of hW) b1 b2 b3 b4 (by decide) (by decide)
  simp only [if_neg ho] at hck
  have har := fun W (hW : Below w.heap.size w W) => pat35 vl l c 30 W (hgl.of hW) (hl.below hW) g2 g3 b1 b2 (by decide) (by omega)
  rw [he, he2] at har
  have hf : ∀ b j (_ : j < l.length) W (_ : Below w.heap.size w W) (_ : NoErR W b), Calls Tryz.prog 82 #[.pointer (some ⟨b, 0, none⟩), ptV l[j], ceV (ceQ c)] W (Ret W (.string (bs (R (farF l c j))))) := fun b j hj W hW hs => by
    rw [farF_get l c hj]
    exact psquareR b l[j] c 30 W (hgl.of hW) hs (g3 _ (List.getElem_mem hj)) b1 b2 (by decide)
  have HF := Lib.hid hf
  have HLL := Lib.hid (fun W (hW : Below w.heap.size w W) => hl.below hW)
  have HN := Lib.hid g1
  have hq : ∀ (a b : Rat), ((R a == R b) = true ∧ a = b) ∨ ((R a == R b) = false ∧ a ≠ b) := fun a b => by
    by_cases h : a = b
    · exact Or.inl ⟨by rw [h]; simp, h⟩
    · exact Or.inr ⟨by rw [beq_eq_false_iff_ne]; exact fun e => h (R_inj e), h⟩
  have HQ1 := Lib.hid (fun j => hq (farF l c j) i)
  have HQ2 := Lib.hid (fun j => hq (farF l c j) o)
  clear hf
  obtain ⟨A, ca, rfl⟩ := hl.len
  unfold zoV zoQ ceV ceQ at *
  simp only at *
  have hnl := HN.out
  have HAR := Lib.hid har
  clear hl hgv b1 b2 b3 b4 ho har g1 g2 g3 hgl
  clear he he2 hq
  unfold ptV at HF
  generalize farF l c = f at *
  generalize R c.1 = ta at *
  generalize R c.2 = tb at *
  generalize R i = tc at *
  generalize R o = td at *
  obtain ⟨tcq, htcq⟩ : ∃ x, x = i := ⟨_, rfl⟩
  obtain ⟨tdq, htdq⟩ : ∃ x, x = o := ⟨_, rfl⟩
  rw [← htcq] at HQ1 ⊢
  rw [← htdq] at HQ2 ⊢
  clear htcq htdq
  generalize hps : ConP w (conT f tcq l.length) (conT f tdq l.length) = post
  have HPS := Lib.hid hps
  clear hps
  have HG := Lib.hid hg
  have HC := Lib.hid hck
  clear hg hck
  have HR := Lib.hid (And.intro (rnw (w := w) (t := 43) (xs := [.string (bs ta), .string (bs tb), .string (bs tc), .string (bs td)])) (bel_alloc (Below.refl w.heap.size w) (.cells #[.string (bs ta), .string (bs tb), .string (bs tc), .string (bs td)] 43 (0, 0))))
  go_enter Tryz.func23, Tryz.ntmps23
  go_wp2_with fail
  refine (HG.out _ HR.out.2).mono ?_
  rintro e w1 ⟨rfl, hb1⟩
  have H1 := Lib.hid (And.intro (HR.out.1.below' hb1) (bel_to HR.out.2 hb1))
  clear hb1 HR HG
  have q0 := H1.out.1.cell (i := 0) rfl
  have q1 := H1.out.1.cell (i := 1) rfl
  have q2 := H1.out.1.cell (i := 2) rfl
  have q3 := H1.out.1.cell (i := 3) rfl
  go_wp2_with fail
  refine (HC.out _ H1.out.2).mono ?_
  rintro e w2 ⟨rfl, hb2⟩
  have H2 := Lib.hid (And.intro (H1.out.1.below' hb2) (bel_to H1.out.2 hb2))
  clear hb2 H1 HC q0 q1 q2 q3
  have q0 := H2.out.1.cell (i := 0) rfl
  have q1 := H2.out.1.cell (i := 1) rfl
  have q2 := H2.out.1.cell (i := 2) rfl
  have q3 := H2.out.1.cell (i := 3) rfl
  go_wp2_with fail
  refine (HAR.out _ H2.out.2).mono ?_
  rintro e w3 ⟨rfl, hb3⟩
  have hal := bel_to hb3 (bel_alloc (Below.refl _ _) (.cells #[.string (bs ta), .string (bs tb), .string (bs tc), .string (bs td)] 43 (0, 0)))
  have H6 := Lib.hid (And.intro (H2.out.1.below' hal) (bel_to H2.out.2 hal))
  clear q0 q1 q2 q3
  have q0 := H6.out.1.cell (i := 0) rfl
  have q1 := H6.out.1.cell (i := 1) rfl
  have q2 := H6.out.1.cell (i := 2) rfl
  have q3 := H6.out.1.cell (i := 3) rfl
  clear hal hb3 H2 HAR
  go_wp2_with fail
  clear q0 q1 q2 q3
  have hal := bel_alloc (Below.refl _ (w3.alloc (.cells #[.string (bs ta), .string (bs tb), .string (bs tc), .string (bs td)] 43 (0, 0)))) (.cells #[.int .i64 0] 125 (0, 0))
  have H7 := Lib.hid (And.intro (H6.out.1.below' hal) (bel_to H6.out.2 hal))
  have HE := Lib.hid (show NoErR ((w3.alloc (.cells #[.string (bs ta), .string (bs tb), .string (bs tc), .string (bs td)] 43 (0, 0))).alloc (.cells #[.int .i64 0] 125 (0, 0))) (w3.heap.size + 1) from rnew0 (World.size_alloc _ _).symm)
  clear hal H6
  obtain ⟨W0, hW0⟩ : ∃ V, V = (w3.alloc (.cells #[.string (bs ta), .string (bs tb), .string (bs tc), .string (bs td)] 43 (0, 0))).alloc (.cells #[.int .i64 0] 125 (0, 0)) := ⟨_, rfl⟩
  obtain ⟨b, hb⟩ : ∃ b, b = w3.heap.size + 1 := ⟨_, rfl⟩
  rw [← hW0] at HE H7 ⊢
  rw [← hb] at HE ⊢
  clear hW0 hb
  go_loopw [4, 5, 41] (fun v1 v2 iv wr => ∃ j : Nat, iv = .int .i64 (j : Int) ∧ j ≤ l.length ∧ Hid (TwN w wr w.heap.size 43 [.string (bs ta), .string (bs tb), .string (bs tc), .string (bs td)] v1 v2 (conT f tcq j) (conT f tdq j) ∧ NoErR wr b)) (fun _ _ iv _ => l.length - (intOf iv).toNat)
  case atStart => exact ⟨0, rfl, by omega, Lib.hid ⟨⟨World.ownsRow_nil _ _ _ _, World.ownsRow_nil _ _ _ _, Or.inl rfl, Or.inl rfl, H7.out.2, H7.out.1, Nat.le_refl _, H7.out.1.lt⟩, HE.out⟩⟩
  case round =>
    clear H7 HE
    obtain ⟨j, rfl, hj, hin⟩ := hrel
    obtain ⟨A1, c1', e1'⟩ := hin.out.1.o1.form'
    obtain ⟨A2, c2', e2'⟩ := hin.out.1.o2.form'
    have HL1 := Lib.hid (show (conT f tcq j).length + 1 ≤ 1000000000 ∧ (conT f tdq j).length + 1 ≤ 1000000000 from ⟨by have := conT_len f tcq j; omega, by have := conT_len f tdq j; omega⟩)
    generalize hn1 : (conT f tcq j).length = n1 at e1'
    generalize hn2 : (conT f tdq j).length = n2 at e2'
    subst e1' e2'
    clear hn1 hn2
    by_cases hlt : j < l.length
    · obtain ⟨bl, ol, rfl, hw⟩ := (HLL.out _ hin.out.1.bel).row j hlt
      obtain ⟨y0, y1⟩ := hw.val j hlt
      have HFJ := Lib.hid (HF.out b j hlt)
      have hj1 : (j : Int) < (l.length : Int) := by omega
      have hj0 : (0 : Int) ≤ (j : Int) := by omega
      have HQA := Lib.hid (HQ1.out j)
      have HQB := Lib.hid (HQ2.out j)
      have HCA := Lib.hid (show conT f tcq (j + 1) = if f j = tcq then conT f tcq j ++ [(j : Int)] else conT f tcq j from rfl)
      have HCB := Lib.hid (show conT f tdq (j + 1) = if f j = tdq then conT f tdq j ++ [(j : Int)] else conT f tdq j from rfl)
      clear hw
      generalize l[j].1 = x at *
      generalize l[j].2 = y at *
      have hab := bel_alloc (Below.refl wr.heap.size wr) (.cells #[.int .i64 x, .int .i64 y] 69 (0, 0))
      have T5 := Lib.hid (And.intro (hin.out.1.to hab) (hin.out.2.below' hab))
      have p0 := hin.out.1.bx.cell (i := 0) rfl
      have p1 := hin.out.1.bx.cell (i := 1) rfl
      have p0' := T5.out.1.bx.cell (i := 0) rfl
      have p1' := T5.out.1.bx.cell (i := 1) rfl
      clear hab
      go_wp2_with fail
      refine (HFJ.out _ T5.out.1.bel T5.out.2).mono ?_
      rintro e w6 ⟨rfl, hb6⟩
      have T6 := Lib.hid (And.intro (T5.out.1.to hb6) (T5.out.2.below' hb6))
      clear hb6 p0 p1 p0' p1' y0 y1 hin HFJ T5
      generalize R (f j) = sd at *
      have q2 := T6.out.1.bx.cell (i := 2) rfl
      rcases HQA.out with ⟨ha, hb⟩ | ⟨ha, hb⟩
      · have hca := HCA.out
        rw [if_pos hb] at hca
        have HC1 := Lib.hid hca
        clear hca hb HQA HCA
        rcases HQB.out with ⟨ha2, hb2⟩ | ⟨ha2, hb2⟩
        · have hcb := HCB.out
          rw [if_pos hb2] at hcb
          have HC2 := Lib.hid hcb
          clear hcb hb2 HQB HCB
          go_wp2_with (first
            | (at_builtin; refine wpList_appN_at rfl (.tmp 63) (.tmp 65) rfl rfl rfl (T7.out.1.to (bel_alloc (Below.refl _ _) _)).o2 rfl (rnw.cell (i := 0) rfl) (T7.out.1.to (bel_alloc (Below.refl _ _) _)).sz HL1.out.2 ?_; intro v9 w9 ho9 hk9 hd9; obtain ⟨A9, c9, e9⟩ := ho9.form'; generalize hn9 : (conT f tdq j ++ [(j : Int)]).length = n9 at e9; subst e9; have T8 := Lib.hid (And.intro ((T7.out.1.to (bel_alloc (Below.refl _ _) _)).app2 ho9 hk9 hd9) ((T7.out.2.below' (bel_alloc (Below.refl _ _) _)).grownN (T7.out.1.to (bel_alloc (Below.refl _ _) _)).o2 hk9)); clear ho9 hk9 hd9 hn9)
            | (at_builtin; refine wpList_appN_at rfl (.tmp 55) (.tmp 57) rfl rfl rfl (T6.out.1.to (bel_alloc (Below.refl _ _) _)).o1 rfl (rnw.cell (i := 0) rfl) (T6.out.1.to (bel_alloc (Below.refl _ _) _)).sz HL1.out.1 ?_; intro v9 w9 ho9 hk9 hd9; obtain ⟨A9, c9, e9⟩ := ho9.form'; generalize hn9 : (conT f tcq j ++ [(j : Int)]).length = n9 at e9; subst e9; have T7 := Lib.hid (And.intro ((T6.out.1.to (bel_alloc (Below.refl _ _) _)).app ho9 hk9 hd9) ((T6.out.2.below' (bel_alloc (Below.refl _ _) _)).grownN (T6.out.1.to (bel_alloc (Below.refl _ _) _)).o1 hk9)); clear ho9 hk9 hd9 hn9; have q3 := T7.out.1.bx.cell (i := 3) rfl))
          clear q2 q3 T6 T7
          go_wp2
          go_roundw
          case rel => exact ⟨j + 1, by go_num, hlt, by rw [HC1.out, HC2.out]; exact T8⟩
          case measure => simp [intOf]; omega
        · have hcb := HCB.out
          rw [if_neg hb2] at hcb
          have HC2 := Lib.hid hcb
          clear hcb hb2 HQB HCB
          go_wp2_with ((at_builtin; refine wpList_appN_at rfl (.tmp 55) (.tmp 57) rfl rfl rfl (T6.out.1.to (bel_alloc (Below.refl _ _) _)).o1 rfl (rnw.cell (i := 0) rfl) (T6.out.1.to (bel_alloc (Below.refl _ _) _)).sz HL1.out.1 ?_; intro v9 w9 ho9 hk9 hd9; obtain ⟨A9, c9, e9⟩ := ho9.form'; generalize hn9 : (conT f tcq j ++ [(j : Int)]).length = n9 at e9; subst e9; have T7 := Lib.hid (And.intro ((T6.out.1.to (bel_alloc (Below.refl _ _) _)).app ho9 hk9 hd9) ((T6.out.2.below' (bel_alloc (Below.refl _ _) _)).grownN (T6.out.1.to (bel_alloc (Below.refl _ _) _)).o1 hk9)); clear ho9 hk9 hd9 hn9; have q3 := T7.out.1.bx.cell (i := 3) rfl))
          clear q2 q3 T6
          go_wp2
          go_roundw
          case rel => exact ⟨j + 1, by go_num, hlt, by rw [HC1.out, HC2.out]; exact T7⟩
          case measure => simp [intOf]; omega
      · have hca := HCA.out
        rw [if_neg hb] at hca
        have HC1 := Lib.hid hca
        clear hca hb HQA HCA
        have q3 := T6.out.1.bx.cell (i := 3) rfl
        rcases HQB.out with ⟨ha2, hb2⟩ | ⟨ha2, hb2⟩
        · have hcb := HCB.out
          rw [if_pos hb2] at hcb
          have HC2 := Lib.hid hcb
          clear hcb hb2 HQB HCB
          go_wp2_with ((at_builtin; refine wpList_appN_at rfl (.tmp 63) (.tmp 65) rfl rfl rfl (T6.out.1.to (bel_alloc (Below.refl _ _) _)).o2 rfl (rnw.cell (i := 0) rfl) (T6.out.1.to (bel_alloc (Below.refl _ _) _)).sz HL1.out.2 ?_; intro v9 w9 ho9 hk9 hd9; obtain ⟨A9, c9, e9⟩ := ho9.form'; generalize hn9 : (conT f tdq j ++ [(j : Int)]).length = n9 at e9; subst e9; have T8 := Lib.hid (And.intro ((T6.out.1.to (bel_alloc (Below.refl _ _) _)).app2 ho9 hk9 hd9) ((T6.out.2.below' (bel_alloc (Below.refl _ _) _)).grownN (T6.out.1.to (bel_alloc (Below.refl _ _) _)).o2 hk9)); clear ho9 hk9 hd9 hn9))
          clear q2 q3 T6
          go_wp2
          go_roundw
          case rel => exact ⟨j + 1, by go_num, hlt, by rw [HC1.out, HC2.out]; exact T8⟩
          case measure => simp [intOf]; omega
        · have hcb := HCB.out
          rw [if_neg hb2] at hcb
          have HC2 := Lib.hid hcb
          clear hcb hb2 HQB HCB
          go_wp2
          go_roundw
          case rel => exact ⟨j + 1, by go_num, hlt, by rw [HC1.out, HC2.out]; exact T6⟩
          case measure => simp [intOf]; omega
    · obtain rfl : j = l.length := by omega
      have HX := Lib.hid (show ∃ v1 v2, (Value.tuple #[.slice A1 n1 c1', .slice A2 n2 c2', .int .i64 0]) = .tuple #[v1, v2, .int .i64 0] ∧ RdN wr v1 (conT f tcq l.length) ∧ RdN wr v2 (conT f tdq l.length) ∧ Below w.heap.size w wr from ⟨_, _, rfl, hin.out.1.o1.rd, hin.out.1.o2.rd, hin.out.1.bel⟩)
      have e0 := hin.out.2.cell
      clear hin
      go_wp2
      rw [← HPS.out]
      refine bodyPost_ret (v := .tuple #[.slice A1 n1 c1', .slice A2 n2 c2', .int .i64 0]) (by simp [results, Tryz.results23, go_sem]) rfl ?_
      obtain ⟨v1, v2, h1, h2⟩ := HX.out
      exact ⟨v1, v2, congrArg Ending.returned h1, h2⟩
end W
end Go.Proofs.YtijpgddpejiohaaGreatDoor
end
section
namespace Go.Proofs.YtijpgddpejiohaaGreatDoor
open Go Go.RowKit Go.Deep Go.Sort
structure PvS (w : World) (bS bL bW S : Nat) (vl vw : Value) : Prop where
  cs : w.cell? ⟨bS, 0, none⟩ = some (.pointer (some ⟨S, 0, none⟩))
  cl : w.cell? ⟨bL, 0, none⟩ = some vl
  cw : w.cell? ⟨bW, 0, none⟩ = some vw
  er : NoErR w S
  gl : Glob w
theorem PvS.to {w w' : World} {bS bL bW S : Nat} {vl vw : Value} (h : PvS w bS bL bW S vl vw) (hb : Below w.heap.size w w') : PvS w' bS bL bW S vl vw :=
  ⟨(hb.cell (block_lt_of_cell h.cs)).trans h.cs, (hb.cell (block_lt_of_cell h.cl)).trans h.cl, (hb.cell (block_lt_of_cell h.cw)).trans h.cw, h.er.below' hb, h.gl.of hb⟩
namespace W
open M
attribute [local go_sem] bs_size bs_toList bs_get bs_extract bs_append bs_lit0 bs_lit1 lit1_bs
set_option maxHeartbeats 4000000
set_option maxRecDepth 20000
theorem ptotal (S f n : Nat) (caps : Array Value) (A t : Nat → Rat) (w : World) (hf : Enters Tryz.prog f) (hg : Glob w) (hs : NoErR w S) (hn : n ≤ 1000) (h0 : A 0 = 0) (hA : ∀ i, i < n → A (i + 1) = A i + t i) (hb : ∀ i, i < n → Bq 400 (A i)) (ht : ∀ i, i < n → Bq 60 (t i))
    (hF : ∀ i, i < n → ∀ W, Below w.heap.size w W → Calls Tryz.prog f (#[.int .i64 (i : Int)] ++ caps) W (Ret W (.string (bs (R (t i)))))) :
    Calls Tryz.prog 149 #[.pointer (some ⟨S, 0, none⟩), .int .i64 (n : Int), .func (.func f) #[] caps] w (Ret w (.string (bs (R (A n))))) := by
  have ha : ∀ i, i < n → ∀ W, Below w.heap.size w W → Calls Tryz.prog 142 #[.pointer (some ⟨S, 0, none⟩), .string (bs (R (A i))), .string (bs (R (t i)))] W (Ret W (.string (bs (R (A (i + 1)))))) := fun i hi W hW => by
    rw [hA i hi]
    exact pradd S (A i) (t i) 400 60 W (hg.of hW) (hs.below' hW) (hb i hi) (ht i hi) (by decide)
  have HA := Lib.hid ha
  have HF := Lib.hid hF
  have H0 := Lib.hid (show R (A 0) = [48] by rw [h0, R_nil])
  unfold Enters at hf
  clear ha hF h0 hA hb ht hg hs
  go_enter Tryz.func149, Tryz.ntmps149
  go_wp2
  go_loopw [7, 10] (fun sv iv wr => ∃ i : Nat, iv = .int .i64 (i : Int) ∧ i ≤ n ∧ sv = .string (bs (R (A i))) ∧ Hid (Below w.heap.size w wr)) (fun _ iv _ => n - (intOf iv).toNat)
  case atStart => exact ⟨0, rfl, by omega, by rw [H0.out]; rfl, Lib.hid (Below.refl _ _)⟩
  case round =>
    obtain ⟨i, rfl, hi, rfl, hbw⟩ := hrel
    by_cases hlt : i < n
    · have hi1 : (i : Int) < (n : Int) := by omega
      have HFI := Lib.hid (HF.out i hlt)
      have HAI := Lib.hid (HA.out i hlt)
      go_wp2_with fail
      refine (HFI.out _ hbw.out).mono ?_
      rintro e w1 ⟨rfl, hb1⟩
      have HB1 := Lib.hid (bel_to hbw.out hb1)
      clear hb1 HFI
      go_wp2_with fail
      refine (HAI.out _ HB1.out).mono ?_
      rintro e w2 ⟨rfl, hb2⟩
      have HB2 := Lib.hid (bel_to HB1.out hb2)
      clear hb2 HAI HB1
      go_wp2
      go_roundw
      case rel => exact ⟨i + 1, by go_num, hlt, rfl, HB2⟩
      case measure => simp [intOf]; omega
    · obtain rfl : i = n := by omega
      go_wp2
      go_ret
      exact Ret.of rfl hbw.out
theorem pp11 (fo bS bL bW bO S i : Nat) (vl vw : Value) (l : List PZ) (ws : List Rat) (gz : Int) (w : World) (hfo : Enters Tryz.prog fo) (hv : PvS w bS bL bW S vl vw) (hO : w.cell? ⟨bO, 0, none⟩ = some (.func (.func fo) #[] #[])) (hl : RdV w vl l) (hw : RdT w vw (rx ws)) (hwb : ∀ x ∈ ws, Bq 30 x) (hi : i < l.length) (hlen : ws.length = l.length)
    (hof : ∀ W, Calls Tryz.prog fo #[ptV l[i]] W (Ret W (.int .i64 gz))) (hgz : gz.natAbs ≤ 20000000000) :
    Calls Tryz.prog 150 #[.int .i64 (i : Int), .pointer (some ⟨bS, 0, none⟩), .pointer (some ⟨bW, 0, none⟩), .pointer (some ⟨bO, 0, none⟩), .pointer (some ⟨bL, 0, none⟩)] w (Ret w (.string (bs (R (nth ws i * (gz : Rat)))))) := by
  have hgq : Bq 11 (gz : Rat) := ⟨by rw [Rat.num_intCast]; omega, by rw [Rat.den_intCast]; decide⟩
  have h2 := fun W (hW : Below w.heap.size w W) => ratWhole gz W (hv.gl.of hW) (by omega) (by omega)
  have h3 := fun W (hW : Below w.heap.size w W) => prmul S (nth ws i) (gz : Rat) 30 11 W (hv.gl.of hW) (hv.er.below' hW) (nth_bq30 hwb i) hgq (by decide)
  have hiw : i < ws.length := by omega
  obtain ⟨A, ca, rfl⟩ := hl.len
  obtain ⟨B, cb, rfl⟩ := hw.len
  obtain ⟨b1, o1, rfl, hwv⟩ := hl.row i hi
  obtain ⟨c0, c1⟩ := hwv.val i hi
  obtain ⟨b2, o2, rfl, hwt⟩ := hw.row i (by rw [rx_len]; exact hiw)
  have c2 := hwt.val i (by rw [rx_len]; exact hiw)
  rw [rx_get ws i hiw, ← nth_get ws i hiw] at c2
  have hi1 : (i : Int) < (l.length : Int) := by omega
  have hi2 : (i : Int) < (((rx ws).length : Nat) : Int) := by rw [rx_len]; omega
  have hi0 : (0 : Int) ≤ (i : Int) := by omega
  have m0 := cell_regrown hv.cs
  have m1 := cell_regrown hv.cl
  have m2 := cell_regrown hv.cw
  have m3 := cell_regrown hO
  have m4 := cell_regrown c0
  have m5 := cell_regrown c1
  have m6 := cell_regrown c2
  have k1 := reg_of (w := w) (fun E _ => hof E)
  have k2 := reg_of (w := w) (fun E hE => h2 E hE)
  have k3 := reg_of (w := w) (fun E hE => h3 E hE)
  have e1 : ∀ args w, (callFunc fo args).run Tryz.prog w = .ok (.enter fo args) w := hfo
  have e2 : ∀ args w, (callFunc 46 args).run Tryz.prog w = .ok (.enter 46 args) w := enters_of Tryz.func46 (by kernel_rfl) rfl
  have e3 : ∀ args w, (callFunc 143 args).run Tryz.prog w = .ok (.enter 143 args) w := enters_of Tryz.func143 (by kernel_rfl) rfl
  unfold ptV at k1
  clear hv hO hl hw hwb hof hgz hgq h2 h3 c0 c1 c2 hwv hwt hfo hlen
  generalize R (nth ws i * (gz : Rat)) = s3 at *
  generalize R (nth ws i) = s1 at *
  generalize R (gz : Rat) = s2 at *
  generalize l[i].1 = x at *
  generalize l[i].2 = y at *
  generalize (rx ws).length = nw at *
  go_enter Tryz.func150, Tryz.ntmps150
  go_wp2_with fail
  refine wp_region_quiet_below (by kernel_rfl) (by kernel_rfl) ?_
  repeat (go_big_quiet_step (fail))
  go_big_quiet_step (exact k1 _ _)
  repeat (go_big_quiet_step (fail))
  go_big_quiet_step (exact k2 _ _)
  repeat (go_big_quiet_step (fail))
  go_big_quiet_step (exact k3 _ _)
  repeat (go_big_quiet_step (fail))
  refine wpQuiet_nil ?_
  intro W6 hw'
  have hb6 : Below w.heap.size w W6 := by obtain ⟨p, e⟩ := hw'; rw [e]; exact below_regrown w p.d p.os
  clear hw'
  clear k1 k2 k3 e1 e2 e3 m0 m1 m2 m3 m4 m5 m6
  go_wp2
  go_ret
  exact Ret.of rfl hb6
theorem ent_pp11 : Enters Tryz.prog 150 := enters_of Tryz.func150 (by kernel_rfl) rfl
theorem pp1 (fo bS bL bW S : Nat) (vl vw : Value) (l : List PZ) (ws : List Rat) (gz : PZ → Int) (g : Nat → Rat) (w : World) (hfo : Enters Tryz.prog fo) (hv : PvS w bS bL bW S vl vw) (hl : RdV w vl l) (hw : RdT w vw (rx ws)) (hwb : ∀ x ∈ ws, Bq 30 x) (hlen : ws.length = l.length) (hl8 : l.length ≤ 8)
    (hg : ∀ i (h : i < l.length), g i = (gz l[i] : Rat)) (hof : ∀ p ∈ l, ∀ W, Calls Tryz.prog fo #[ptV p] W (Ret W (.int .i64 (gz p)))) (hgz : ∀ p ∈ l, (gz p).natAbs ≤ 20000000000) :
    Calls Tryz.prog 148 #[.func (.func fo) #[] #[], .pointer (some ⟨bS, 0, none⟩), .pointer (some ⟨bL, 0, none⟩), .pointer (some ⟨bW, 0, none⟩)] w (Ret w (.string (bs (R (wsm ws g l.length))))) := by
  have hmf : ∀ (fn : Fn) (first cap : Array Value) (w : World), (Instr.makeFunc fn first cap).run Tryz.prog w = .ok (.func fn first cap) w := fun _ _ _ _ => rfl
  have hgb : ∀ i, i < l.length → Bq 11 (g i) := fun i hi => by
    rw [hg i hi]
    have := hgz _ (List.getElem_mem hi)
    exact ⟨by rw [Rat.num_intCast]; omega, by rw [Rat.den_intCast]; decide⟩
  have hb0 := bel_al w (.cells #[.func (.func fo) #[] #[]] 181 (0, 0))
  have hc0 : (w.alloc (.cells #[.func (.func fo) #[] #[]] 181 (0, 0))).cell? ⟨w.heap.size, 0, none⟩ = some (.func (.func fo) #[] #[]) := (rnw (xs := [.func (.func fo) #[] #[]])).cell (i := 0) rfl
  have ht := ptotal S 150 l.length #[.pointer (some ⟨bS, 0, none⟩), .pointer (some ⟨bW, 0, none⟩), .pointer (some ⟨w.heap.size, 0, none⟩), .pointer (some ⟨bL, 0, none⟩)] (wsm ws g) (fun i => nth ws i * g i) (w.alloc (.cells #[.func (.func fo) #[] #[]] 181 (0, 0))) ent_pp11 ((hv.to hb0).gl) ((hv.to hb0).er) (by omega) rfl (fun i _ => rfl)
    (fun i hi => (wsm_bq hwb i fun j hj => hgb j (by omega)).mono (by omega)) (fun i hi => ((nth_bq30 hwb i).mul (hgb i hi)).mono (by omega))
    (fun i hi W hW => by
      have h := pp11 fo bS bL bW w.heap.size S i vl vw l ws (gz l[i]) W hfo ((hv.to hb0).to hW) ((hW.cell (block_lt_of_cell hc0)).trans hc0) ((hl.below hb0).below hW) ((hw.below hb0).below hW) hwb hi hlen (hof _ (List.getElem_mem hi)) (hgz _ (List.getElem_mem hi))
      rw [← hg i hi] at h
      exact h)
  have HT := Lib.hid ht
  have HB := Lib.hid hb0
  have m0 := (hv.to hb0).cs
  have m1 := (hv.to hb0).cl
  obtain ⟨A, ca, rfl⟩ := hl.len
  clear hfo hl hw hwb hof hgz hgb hb0 hc0 ht hg hv hlen
  generalize R (wsm ws g l.length) = s at *
  go_enter Tryz.func148, Tryz.ntmps148
  go_wp2_with fail
  refine (HT.out).mono ?_
  rintro e w1 ⟨rfl, hb1⟩
  go_wp2
  go_ret
  exact Ret.of rfl (bel_to HB.out hb1)
end W
end Go.Proofs.YtijpgddpejiohaaGreatDoor
end
section
namespace Go.Proofs.YtijpgddpejiohaaGreatDoor
open Go Go.RowKit Go.Deep Go.Sort
namespace W
open M
attribute [local go_sem] bs_size bs_toList bs_get bs_extract bs_append bs_lit0 bs_lit1 lit1_bs
set_option maxHeartbeats 4000000
set_option maxRecDepth 20000
theorem ent_p2 : Enters Tryz.prog 151 := enters_of Tryz.func151 (by kernel_rfl) rfl
theorem ent_p3 : Enters Tryz.prog 152 := enters_of Tryz.func152 (by kernel_rfl) rfl
theorem ent_p4 : Enters Tryz.prog 153 := enters_of Tryz.func153 (by kernel_rfl) rfl
theorem ent_p5 : Enters Tryz.prog 154 := enters_of Tryz.func154 (by kernel_rfl) rfl
theorem ent_p6 : Enters Tryz.prog 155 := enters_of Tryz.func155 (by kernel_rfl) rfl
theorem pp3 (p : PZ) (w : World) : Calls Tryz.prog 152 #[ptV p] w (Ret w (.int .i64 1)) := by
  obtain ⟨x, y⟩ := p
  unfold ptV
  simp only
  go_enter Tryz.func152, Tryz.ntmps152
  go_wp2
  go_ret
  exact Ret.of rfl (bel_alloc (Below.refl _ _) _)
theorem pp4 (p : PZ) (w : World) : Calls Tryz.prog 153 #[ptV p] w (Ret w (.int .i64 p.1)) := by
  obtain ⟨x, y⟩ := p
  unfold ptV
  simp only
  go_enter Tryz.func153, Tryz.ntmps153
  go_wp2
  go_ret
  exact Ret.of rfl (bel_alloc (Below.refl _ _) _)
theorem pp5 (p : PZ) (w : World) : Calls Tryz.prog 154 #[ptV p] w (Ret w (.int .i64 p.2)) := by
  obtain ⟨x, y⟩ := p
  unfold ptV
  simp only
  go_enter Tryz.func154, Tryz.ntmps154
  go_wp2
  go_ret
  exact Ret.of rfl (bel_alloc (Below.refl _ _) _)
theorem pp6 (p : PZ) (hp : inP p = true) (w : World) : Calls Tryz.prog 155 #[ptV p] w (Ret w (.int .i64 (Sx.nrmZ p))) := by
  have hb := nrm_bd hp
  obtain ⟨x, y⟩ := p
  unfold Sx.nrmZ ptV at *
  simp only at *
  have h1 : IntKind.i64.wrap (x * x) = x * x := IntWalk.i64_in _ (by omega)
  have h2 : IntKind.i64.wrap (y * y) = y * y := IntWalk.i64_in _ (by omega)
  have h3 : IntKind.i64.wrap (x * x + y * y) = x * x + y * y := IntWalk.i64_in _ (by omega)
  clear hb hp
  go_enter Tryz.func155, Tryz.ntmps155
  go_wp2
  go_ret
  exact Ret.of rfl (bel_alloc (Below.refl _ _) _)
theorem pp2 (bS bL bW S i : Nat) (vl vw : Value) (ws : List Rat) (w : World) (hv : PvS w bS bL bW S vl vw) (hw : RdT w vw (rx ws)) (hwb : ∀ x ∈ ws, Bq 30 x) (hi : i < ws.length)  :
    Calls Tryz.prog 151 #[.int .i64 (i : Int), .pointer (some ⟨bS, 0, none⟩), .pointer (some ⟨bW, 0, none⟩)] w (Ret w (.string (bs (R (if nth ws i < 0 then 0 else nth ws i))))) := by
  have h3 := fun W (hW : Below w.heap.size w W) => prless S (nth ws i) 0 30 1 W (hv.gl.of hW) (hv.er.below' hW) (nth_bq30 hwb i) Bq_nil (by decide)
  rw [R_nil] at h3
  obtain ⟨B, cb, rfl⟩ := hw.len
  obtain ⟨b2, o2, rfl, hwt⟩ := hw.row i (by rw [rx_len]; exact hi)
  have c2 := hwt.val i (by rw [rx_len]; exact hi)
  rw [rx_get ws i hi, ← nth_get ws i hi] at c2
  have hi2 : (i : Int) < (((rx ws).length : Nat) : Int) := by rw [rx_len]; omega
  have hi0 : (0 : Int) ≤ (i : Int) := by omega
  have m0 := cell_regrown hv.cs
  have m2 := cell_regrown hv.cw
  have m6 := cell_regrown c2
  have k1 := reg_of (w := w) (fun E hE => h3 E hE)
  have e3 : ∀ args w, (callFunc 139 args).run Tryz.prog w = .ok (.enter 139 args) w := enters_of Tryz.func139 (by kernel_rfl) rfl
  have HC := Lib.hid (fun E (hE : Below w.heap.size w E) => And.intro ((hE.cell (block_lt_of_cell hv.cw)).trans hv.cw) ((hE.cell (block_lt_of_cell c2)).trans c2))
  have HRS := Lib.hid (show R (if nth ws i < 0 then 0 else nth ws i) = if decide (nth ws i < 0) = true then [48] else R (nth ws i) by
    by_cases h : nth ws i < 0
    · rw [if_pos h, if_pos (decide_eq_true h), R_nil]
    · rw [if_neg h, if_neg (by rw [decide_eq_true_eq]; exact h)])
  clear hv hw hwb h3 c2 hwt
  generalize R (if nth ws i < 0 then 0 else nth ws i) = rs at *
  generalize decide (nth ws i < 0) = d at *
  generalize R (nth ws i) = s1 at *
  generalize (rx ws).length = nw at *
  go_enter Tryz.func151, Tryz.ntmps151
  go_wp2_with fail
  refine wp_region_quiet_below (by kernel_rfl) (by kernel_rfl) ?_
  repeat (go_big_quiet_step (fail))
  go_big_quiet_step (exact k1 _ _)
  repeat (go_big_quiet_step (fail))
  refine wpQuiet_nil ?_
  intro W6 hw'
  have hb6 : Below w.heap.size w W6 := by obtain ⟨p, e⟩ := hw'; rw [e]; exact below_regrown w p.d p.os
  clear hw'
  obtain ⟨q0, q1⟩ := HC.out _ hb6
  have HB := Lib.hid hb6
  clear k1 e3 m0 m2 m6 hb6 HC
  cases d with
  | true =>
    obtain rfl : [48] = rs := by rw [HRS.out]; rfl
    clear HRS
    go_wp2
    go_ret
    exact Ret.of rfl HB.out
  | false =>
    obtain rfl : s1 = rs := by rw [HRS.out]; rfl
    clear HRS
    go_wp2
    go_ret
    exact Ret.of rfl HB.out
theorem pproves (S : Nat) (vl vw : Value) (l : List PZ) (ws : List Rat) (d : Rat) (w : World) (hg : Glob w) (hs : NoErR w S) (hl : RdV w vl l) (hw : RdT w vw (rx ws)) (hp : ∀ p ∈ l, inP p = true) (hwb : ∀ x ∈ ws, Bq 30 x) (hlen : ws.length = l.length) (hl8 : l.length ≤ 8) :
    Calls Tryz.prog 91 #[.pointer (some ⟨S, 0, none⟩), vl, vw, .string (bs (R d))] w (Ret w (.bool (prvB l ws d))) := by
  have hmf : ∀ (fn : Fn) (first cap : Array Value) (w : World), (Instr.makeFunc fn first cap).run Tryz.prog w = .ok (.func fn first cap) w := fun _ _ _ _ => rfl
  obtain ⟨W0, hW0⟩ : ∃ W0, W0 = ((w.alloc (.cells #[.pointer (some ⟨S, 0, none⟩)] 123 (0, 0))).alloc (.cells #[vl] 39 (0, 0))).alloc (.cells #[vw] 23 (0, 0)) := ⟨_, rfl⟩
  have hb0 : Below w.heap.size w W0 := by rw [hW0]; exact bel_alloc (bel_alloc (bel_alloc (Below.refl _ _) _) _) _
  have z1 : (w.alloc (.cells #[.pointer (some ⟨S, 0, none⟩)] 123 (0, 0))).heap.size = w.heap.size + 1 := World.size_alloc _ _
  have z2 : ((w.alloc (.cells #[.pointer (some ⟨S, 0, none⟩)] 123 (0, 0))).alloc (.cells #[vl] 39 (0, 0))).heap.size = w.heap.size + 2 := by rw [World.size_alloc, z1]
  have hv : PvS W0 w.heap.size (w.heap.size + 1) (w.heap.size + 2) S vl vw := by
    refine ⟨?_, ?_, ?_, hs.below' hb0, hg.of hb0⟩
    · rw [hW0]; exact (((rnw (xs := [.pointer (some ⟨S, 0, none⟩)])).alloc _).alloc _).cell (i := 0) rfl
    · rw [hW0]; exact ((rnew0 (xs := [vl]) z1.symm).alloc _).cell (i := 0) rfl
    · rw [hW0]; exact (rnew0 (xs := [vw]) z2.symm).cell (i := 0) rfl
  have c1 := fun W (hW : Below W0.heap.size W0 W) => pp1 152 w.heap.size (w.heap.size + 1) (w.heap.size + 2) S vl vw l ws (fun _ => 1) (fun _ => 1) W ent_p3 (hv.to hW) ((hl.below hb0).below hW) ((hw.below hb0).below hW) hwb hlen hl8 (fun _ _ => rfl) (fun p _ W => pp3 p W) (fun _ _ => by decide)
  have c2 := fun W (hW : Below W0.heap.size W0 W) => pp1 153 w.heap.size (w.heap.size + 1) (w.heap.size + 2) S vl vw l ws (fun p => p.1) (pX l) W ent_p4 (hv.to hW) ((hl.below hb0).below hW) ((hw.below hb0).below hW) hwb hlen hl8 (fun i hi => by unfold pX; rw [show l.getD i (0, 0) = l[i] by simp [hi]]) (fun p _ W => pp4 p W) (fun p hp' => by
    have := hp p hp'
    unfold inP at this
    rw [Bool.and_eq_true] at this
    have := in_bd this.1
    omega)
  have c3 := fun W (hW : Below W0.heap.size W0 W) => pp1 154 w.heap.size (w.heap.size + 1) (w.heap.size + 2) S vl vw l ws (fun p => p.2) (pY l) W ent_p5 (hv.to hW) ((hl.below hb0).below hW) ((hw.below hb0).below hW) hwb hlen hl8 (fun i hi => by unfold pY; rw [show l.getD i (0, 0) = l[i] by simp [hi]]) (fun p _ W => pp5 p W) (fun p hp' => by
    have := hp p hp'
    unfold inP at this
    rw [Bool.and_eq_true] at this
    have := in_bd this.2
    omega)
  have c5 := fun W (hW : Below W0.heap.size W0 W) => pp1 155 w.heap.size (w.heap.size + 1) (w.heap.size + 2) S vl vw l ws (fun p => Sx.nrmZ p) (pN l) W ent_p6 (hv.to hW) ((hl.below hb0).below hW) ((hw.below hb0).below hW) hwb hlen hl8 (fun i hi => by unfold pN; rw [show l.getD i (0, 0) = l[i] by simp [hi]]) (fun p hp' W => pp6 p (hp p hp') W) (fun p hp' => by
    have := nrm_bd (hp p hp')
    omega)
  have ct := ptotal S 151 l.length #[.pointer (some ⟨w.heap.size, 0, none⟩), .pointer (some ⟨w.heap.size + 2, 0, none⟩)] (psw ws) (fun i => if nth ws i < 0 then 0 else nth ws i) W0 ent_p2 hv.gl hv.er (by omega) rfl (fun i _ => by rw [psw]; split <;> grind)
    (fun i hi => (psw_bq hwb i).mono (by omega)) (fun i hi => by split; exact Bq_nil.mono (by decide); exact (nth_bq30 hwb i).mono (by decide))
    (fun i hi W hW => pp2 w.heap.size (w.heap.size + 1) (w.heap.size + 2) S i vl vw ws W (hv.to hW) ((hw.below hb0).below hW) hwb (by omega))
  have c4 := fun W (hW : Below W0.heap.size W0 W) => prless S 1 (psw ws l.length) 11 300 W (hv.gl.of hW) (hv.er.below' hW) one_bq11 ((psw_bq hwb l.length).mono (by omega)) (by decide)
  rw [R_one5] at c4
  have hres : prvB l ws d = ((R (wsm ws (fun _ => 1) l.length) == [48]) && (R (wsm ws (pX l) l.length) == [48]) && (R (wsm ws (pY l) l.length) == [48]) && !decide (1 < psw ws l.length) && (R (wsm ws (pN l) l.length) == R d)) := by
    have q : ∀ a : Rat, decide (a = 0) = (R a == [48]) := fun a => by
      rw [Bool.eq_iff_iff, decide_eq_true_eq, beq_iff_eq]; exact R_is0.symm
    have q2 : ∀ a b : Rat, decide (a = b) = (R a == R b) := fun a b => by
      rw [Bool.eq_iff_iff, decide_eq_true_eq, beq_iff_eq]; exact ⟨fun h => by rw [h], fun h => R_inj h⟩
    have q3 : decide (psw ws l.length ≤ 1) = !decide (1 < psw ws l.length) := by
      by_cases h : 1 < psw ws l.length
      · rw [decide_eq_true h, decide_eq_false (Rat.not_le.2 h)]; rfl
      · rw [decide_eq_false h, decide_eq_true (Rat.not_lt.1 h)]; rfl
    unfold prvB
    rw [q, q, q, q2, q3]
  rw [hres]
  have C1 := Lib.hid c1
  have C2 := Lib.hid c2
  have C3 := Lib.hid c3
  have C4 := Lib.hid c4
  have C5 := Lib.hid c5
  have CT := Lib.hid ct
  have HV := Lib.hid (fun W (hW : Below W0.heap.size W0 W) => hv.to hW)
  have HB0 := Lib.hid hb0
  have g1 : ∀ args w, (callFunc 148 args).run Tryz.prog w = .ok (.enter 148 args) w := enters_of Tryz.func148 (by kernel_rfl) rfl
  obtain ⟨A, ca, rfl⟩ := hl.len
  obtain ⟨B, cb, rfl⟩ := hw.len
  clear hs hg hl hw hp hwb hlen hl8 hb0 hv c1 c2 c3 c4 c5 ct hres z1 z2
  generalize decide (1 < psw ws l.length) = q4 at *
  generalize R (psw ws l.length) = s4 at *
  generalize R (wsm ws (fun _ => 1) l.length) = s1 at *
  generalize R (wsm ws (pX l) l.length) = s2 at *
  generalize R (wsm ws (pY l) l.length) = s3 at *
  generalize R (wsm ws (pN l) l.length) = s5 at *
  generalize R d = sd at *
  generalize hq1 : (s1 == [48]) = q1 at *
  generalize hq2 : (s2 == [48]) = q2 at *
  generalize hq3 : (s3 == [48]) = q3 at *
  generalize hq5 : (s5 == sd) = q5 at *
  generalize hrs : (q1 && q2 && q3 && !q4 && q5) = rs
  have HRS := Lib.hid hrs
  clear hrs
  have u1 := (HV.out W0 (Below.refl _ _)).cs
  have u2 := (HV.out W0 (Below.refl _ _)).cl
  rw [hW0] at u1 u2
  go_enter Tryz.func91, Tryz.ntmps91
  go_wp2_with fail
  rw [← hW0]
  clear u1 u2 hW0
  refine CT.out.mono ?_
  rintro e w1 ⟨rfl, hb1⟩
  have B1 := Lib.hid hb1
  clear hb1 CT
  go_wp2_with fail
  refine (C1.out _ B1.out).mono ?_
  rintro e w2 ⟨rfl, hb2⟩
  have B2 := Lib.hid (bel_to B1.out hb2)
  clear hb2 B1 C1
  cases q1 with
  | false =>
    obtain rfl : false = rs := by rw [← HRS.out]; rfl
    clear HRS
    go_wp2
    go_ret
    exact Ret.of rfl (bel_to HB0.out B2.out)
  | true =>
    go_wp2_with fail
    refine (C2.out _ B2.out).mono ?_
    rintro e w3 ⟨rfl, hb3⟩
    have B3 := Lib.hid (bel_to B2.out hb3)
    clear hb3 B2 C2
    cases q2 with
    | false =>
      obtain rfl : false = rs := by rw [← HRS.out]; rfl
      clear HRS
      go_wp2
      go_ret
      exact Ret.of rfl (bel_to HB0.out B3.out)
    | true =>
      go_wp2_with fail
      refine (C3.out _ B3.out).mono ?_
      rintro e w4 ⟨rfl, hb4⟩
      have B4 := Lib.hid (bel_to B3.out hb4)
      clear hb4 B3 C3
      cases q3 with
      | false =>
        obtain rfl : false = rs := by rw [← HRS.out]; rfl
        clear HRS
        go_wp2
        go_ret
        exact Ret.of rfl (bel_to HB0.out B4.out)
      | true =>
        have u1 := (HV.out _ B4.out).cs
        go_wp2_with fail
        refine (C4.out _ B4.out).mono ?_
        rintro e w5 ⟨rfl, hb5⟩
        have B5 := Lib.hid (bel_to B4.out hb5)
        clear hb5 B4 C4 u1
        cases q4 with
        | true =>
          obtain rfl : false = rs := by rw [← HRS.out]; rfl
          clear HRS
          go_wp2
          go_ret
          exact Ret.of rfl (bel_to HB0.out B5.out)
        | false =>
          go_wp2_with fail
          refine (C5.out _ B5.out).mono ?_
          rintro e w6 ⟨rfl, hb6⟩
          have B6 := Lib.hid (bel_to B5.out hb6)
          clear hb6 B5 C5
          obtain rfl : q5 = rs := by rw [← HRS.out]; rfl
          clear HRS
          cases q5 with
          | false =>
            go_wp2
            go_ret
            exact Ret.of rfl (bel_to HB0.out B6.out)
          | true =>
            go_wp2
            go_ret
            exact Ret.of rfl (bel_to HB0.out B6.out)
end W
end Go.Proofs.YtijpgddpejiohaaGreatDoor
end
