/-
  Chapter 35, the reference: 'Slim', 'Narrow', 'Round', and what is few or short.
  Chapter 35, the reference: weights that prove.
-/
import Derived.Test.YtijpgddpejiohaaGreatDoorKQ
import Derived.Test.YtijpgddpejiohaaGreatDoorKH
section
namespace Go.Proofs.YtijpgddpejiohaaGreatDoor
open Go Go.RowKit Go.Deep Go.Sort
namespace M
theorem tt_bd {t : Int} (h0 : 0 ≤ t) (h1 : t ≤ 100000) : 0 ≤ t * t ∧ t * t ≤ 10000000000 := by
  have h3 : t * t ≤ 100000 * 100000 := Int.mul_le_mul h1 h1 h0 (by decide)
  exact ⟨Int.mul_nonneg h0 h0, by omega⟩
theorem tt_bq {t : Int} (h0 : 0 ≤ t) (h1 : t ≤ 100000) : Bq 11 ((t * t : Int) : Rat) := by
  have := tt_bd h0 h1
  exact ⟨by rw [Rat.num_intCast]; omega, by rw [Rat.den_intCast]; decide⟩
theorem four_bq : Bq 1 (4 : Rat) := by unfold Bq; decide +kernel
theorem R_four : R 4 = [52] := by decide +kernel
end M
namespace W
open M
attribute [local go_sem] bs_size bs_toList bs_get bs_extract bs_append bs_lit0 bs_lit1 lit1_bs
set_option maxHeartbeats 2000000
set_option maxRecDepth 20000
theorem rslim35 (c : CT) (i o : Rat) (t : Int) (k : Nat) (w : World) (h0 : 0 ≤ t) (h1 : t ≤ 100000) (b3 : Bq k i) (b4 : Bq k o) (hk1 : 1 ≤ k) (hk : k ≤ 400) :
    Calls Tryz.prog 88 #[zoV (c, R i, R o), .int .i64 t] w (Ret w (.bool (slimB i o t))) := by
  have tt := tt_bq h0 h1
  have td := tt_bd h0 h1
  have bd := (b4.sub b3).sub tt
  have hW := fun W => whole_R (t * t) W (by omega) (by omega)
  have hL1 := fun W => rless02 o i W (b4.sh hk1 (by omega)) (b3.sh hk1 (by omega))
  have hL2 := fun W => rless02 (o - i) ((t * t : Int) : Rat) W ((b4.sub b3).sh (by omega) (by omega)) (tt.sh (by decide) (by decide))
  have hT := fun W => turned_R (o - i - ((t * t : Int) : Rat)) W (bd.sh (by omega) (by omega))
  have hB := fun W => rbelow02 (-(o - i - ((t * t : Int) : Rat))) W ((Bq.neg bd).sh (by omega) (by omega))
  have hS := fun W => rsquare35 (o - i - ((t * t : Int) : Rat)) W (bd.sh (by omega) (by omega))
  have hM1 := fun W => timesR 4 ((t * t : Int) : Rat) W (four_bq.sh (by decide) (by decide)) (tt.sh (by decide) (by decide))
  rw [R_four] at hM1
  have hM2 := fun W => timesR (4 * ((t * t : Int) : Rat)) i W ((four_bq.mul tt).sh (by omega) (by omega)) (b3.sh hk1 (by omega))
  have hO : ∀ W, Calls Tryz.prog 141 #[.string (bs (R ((o - i - ((t * t : Int) : Rat)) * (o - i - ((t * t : Int) : Rat))))), .string (bs (R (4 * ((t * t : Int) : Rat) * i)))] W (Ret W (.int .i64 (cmpQ ((o - i - ((t * t : Int) : Rat)) * (o - i - ((t * t : Int) : Rat))) (4 * ((t * t : Int) : Rat) * i)))) := fun W => order_R _ _ W ((bd.mul bd).sh (by omega) (by omega)) (((four_bq.mul tt).mul b3).sh (by omega) (by omega))
  have hm1 : IntKind.i64.wrap (t * t) = t * t := IntWalk.i64_in _ (by omega)
  have hneg : decide (-(o - i - ((t * t : Int) : Rat)) < 0) = decide (0 < o - i - ((t * t : Int) : Rat)) := decide_eq_decide.2 ⟨fun h => by grind, fun h => by grind⟩
  rw [hneg] at hB
  have hres : slimB i o t = if decide (0 < o - i - ((t * t : Int) : Rat)) = true then decide (cmpQ ((o - i - ((t * t : Int) : Rat)) * (o - i - ((t * t : Int) : Rat))) (4 * ((t * t : Int) : Rat) * i) ≤ 0) else true := by
    unfold slimB
    by_cases h : 0 < o - i - ((t * t : Int) : Rat)
    · rw [if_pos h, if_pos (decide_eq_true h)]
      exact decide_eq_decide.2 cmpQ_le5.symm
    · rw [if_neg h, if_neg (by rw [decide_eq_true_eq]; exact h)]
  rw [hres]
  clear hres hneg bd tt td h0 h1 b3 b4 hk hk1
  obtain ⟨ta, tb⟩ := c
  show Calls Tryz.prog 88 #[.agg #[.string (bs ta), .string (bs tb), .string (bs (R i)), .string (bs (R o))], .int .i64 t] w _
  generalize cmpQ ((o - i - ((t * t : Int) : Rat)) * (o - i - ((t * t : Int) : Rat))) (4 * ((t * t : Int) : Rat) * i) = cm at *
  generalize decide (0 < o - i - ((t * t : Int) : Rat)) = bd at *
  generalize R ((o - i - ((t * t : Int) : Rat)) * (o - i - ((t * t : Int) : Rat))) = s1 at *
  generalize R (4 * ((t * t : Int) : Rat) * i) = s2 at *
  generalize R (4 * ((t * t : Int) : Rat)) = s3 at *
  generalize R (-(o - i - ((t * t : Int) : Rat))) = s4 at *
  generalize R (o - i - ((t * t : Int) : Rat)) = s5 at *
  generalize R ((t * t : Int) : Rat) = s6 at *
  generalize R (o - i) = s7 at *
  generalize R i = si at *
  generalize R o = so at *
  have HR := Lib.hid (And.intro (rnw (w := w) (t := 47) (xs := [.string (bs ta), .string (bs tb), .string (bs si), .string (bs so)])) (bel_alloc (Below.refl w.heap.size w) (.cells #[.string (bs ta), .string (bs tb), .string (bs si), .string (bs so)] 47 (0, 0))))
  have HW := Lib.hid hW
  have HL1 := Lib.hid hL1
  have HL2 := Lib.hid hL2
  have HT := Lib.hid hT
  have HB := Lib.hid hB
  have HS := Lib.hid hS
  have HM1 := Lib.hid hM1
  have HM2 := Lib.hid hM2
  have HO := Lib.hid hO
  clear hW hL1 hL2 hT hB hS hM1 hM2 hO
  generalize hrs : (if bd = true then decide (cm ≤ 0) else true) = rs
  have HRS := Lib.hid hrs
  clear hrs
  go_enter Tryz.func88, Tryz.ntmps88
  go_wp2_with fail
  refine (HW.out _).mono ?_
  rintro e w1 ⟨rfl, hb1⟩
  have H1 := Lib.hid (And.intro (HR.out.1.below' hb1) (bel_to HR.out.2 hb1))
  clear hb1 HR HW
  have q2 := H1.out.1.cell (i := 2) rfl
  have q3 := H1.out.1.cell (i := 3) rfl
  go_wp2_with fail
  refine (HL1.out _).mono ?_
  rintro e w2 ⟨rfl, hb2⟩
  have H2 := Lib.hid (And.intro (H1.out.1.below' hb2) (bel_to H1.out.2 hb2))
  clear hb2 H1 HL1 q2 q3
  go_wp2_with fail
  refine (HL2.out _).mono ?_
  rintro e w3 ⟨rfl, hb3⟩
  have H3 := Lib.hid (And.intro (H2.out.1.below' hb3) (bel_to H2.out.2 hb3))
  clear hb3 H2 HL2
  go_wp2_with fail
  refine (HT.out _).mono ?_
  rintro e w4 ⟨rfl, hb4⟩
  have H4 := Lib.hid (And.intro (H3.out.1.below' hb4) (bel_to H3.out.2 hb4))
  clear hb4 H3 HT
  go_wp2_with fail
  refine (HB.out _).mono ?_
  rintro e w5 ⟨rfl, hb5⟩
  have H5 := Lib.hid (And.intro (H4.out.1.below' hb5) (bel_to H4.out.2 hb5))
  clear hb5 H4 HB
  cases bd with
  | false =>
    obtain rfl : true = rs := by rw [← HRS.out]; rfl
    clear HRS
    go_wp2
    go_ret
    exact Ret.of rfl H5.out.2
  | true =>
    obtain rfl : decide (cm ≤ 0) = rs := by rw [← HRS.out]; rfl
    clear HRS
    have m2 := cell_regrown (H5.out.1.cell (i := 2) rfl)
    have k1 := reg_of (w := w5) (fun E _ => HS.out E)
    have k2 := reg_of (w := w5) (fun E _ => HM1.out E)
    have k3 := reg_of (w := w5) (fun E _ => HM2.out E)
    have k4 := reg_of (w := w5) (fun E _ => HO.out E)
    have e1 : ∀ args w, (callFunc 146 args).run Tryz.prog w = .ok (.enter 146 args) w := enters_of Tryz.func146 (by kernel_rfl) rfl
    have e2 : ∀ args w, (callFunc 14 args).run Tryz.prog w = .ok (.enter 14 args) w := enters_of Tryz.func14 (by kernel_rfl) rfl
    have e3 : ∀ args w, (callFunc 141 args).run Tryz.prog w = .ok (.enter 141 args) w := enters_of Tryz.func141 (by kernel_rfl) rfl
    go_wp2_with fail
    refine wp_region_quiet_below (by kernel_rfl) (by kernel_rfl) ?_
    repeat (go_big_quiet_step (fail))
    go_big_quiet_step (exact k1 _ _)
    repeat (go_big_quiet_step (fail))
    go_big_quiet_step (exact k2 _ _)
    repeat (go_big_quiet_step (fail))
    go_big_quiet_step (exact k3 _ _)
    repeat (go_big_quiet_step (fail))
    go_big_quiet_step (exact k4 _ _)
    repeat (go_big_quiet_step (fail))
    refine wpQuiet_nil ?_
    intro W6 hw'
    have hb6 : Below w5.heap.size w5 W6 := by obtain ⟨p, e⟩ := hw'; rw [e]; exact below_regrown w5 p.d p.os
    clear hw'
    have HB6 := Lib.hid (bel_to H5.out.2 hb6)
    clear hb6 k1 k2 k3 k4 e1 e2 e3 m2 H5
    go_wp2
    go_ret
    exact Ret.of rfl HB6.out
theorem rnarrow35_bad (z : ZT) (t : Int) (w : World) (l1 : z.1.1.length ≤ 90000) (l2 : z.1.2.length ≤ 90000) (l3 : z.2.1.length ≤ 90000) (l4 : z.2.2.length ≤ 90000) (h : chkRs [z.1.1, z.1.2, z.2.1, z.2.2] ≠ 0) :
    Calls Tryz.prog 27 #[zoV z, .int .i64 t] w (Ret w (.tuple #[.bool false, .int .i64 ((chkRs [z.1.1, z.1.2, z.2.1, z.2.2] : Nat) : Int)])) := by
  have HC := Lib.hid (fun W => rcheck35_bad z W l1 l2 l3 l4 h)
  have hz : (((chkRs [z.1.1, z.1.2, z.2.1, z.2.2] : Nat) : Int) != 0) = true := by simp; exact h
  clear h l1 l2 l3 l4
  generalize ((chkRs [z.1.1, z.1.2, z.2.1, z.2.2] : Nat) : Int) = x at *
  unfold zoV at *
  go_enter Tryz.func27, Tryz.ntmps27
  go_wp2_with fail
  refine (HC.out _).mono ?_
  rintro e w1 ⟨rfl, hb1⟩
  go_wp2
  go_ret2
  exact ⟨rfl, bel_to (bel_alloc (Below.refl _ _) _) hb1⟩
theorem rnarrow35_ok (c : Rat × Rat) (i o : Rat) (t : Int) (k : Nat) (w : World) (b1 : Bq k c.1) (b2 : Bq k c.2) (b3 : Bq k i) (b4 : Bq k o) (hk1 : 1 ≤ k) (hk : k ≤ 300) :
    Calls Tryz.prog 27 #[zoV (zoQ c i o), .int .i64 t] w (Ret w (.tuple #[.bool (if narC i o t = 0 then slimB i o t else false), .int .i64 ((narC i o t : Nat) : Int)])) := by
  have hc := fun W => rcheck35_ok c i o k W b1 b2 b3 b4 hk1 hk
  have ht := fun W => rtol35 t W
  have hs : ∀ W, 0 ≤ t → t ≤ 100000 → Calls Tryz.prog 88 #[zoV (zoQ c i o), .int .i64 t] W (Ret W (.bool (slimB i o t))) := fun W h0 h1 => rslim35 (ceQ c) i o t k W h0 h1 b3 b4 hk1 (by omega)
  have HR := Lib.hid (And.intro (rnw (w := w) (t := 47) (xs := [.string (bs (R c.1)), .string (bs (R c.2)), .string (bs (R i)), .string (bs (R o))])) (bel_alloc (Below.refl w.heap.size w) (.cells #[.string (bs (R c.1)), .string (bs (R c.2)), .string (bs (R i)), .string (bs (R o))] 47 (0, 0))))
  unfold narC at *
  unfold zoV zoQ ceQ at *
  simp only at *
  clear b1 b2 b3 b4 hk hk1
  generalize slimB i o t = sb at *
  generalize R c.1 = ta at *
  generalize R c.2 = tb at *
  generalize R i = si at *
  generalize R o = so at *
  by_cases hp : i < 0 ∨ o < i
  · simp only [if_pos hp] at hc ⊢
    have HC := Lib.hid hc
    clear hc ht hs hp
    go_enter Tryz.func27, Tryz.ntmps27
    go_wp2_with fail
    refine (HC.out _).mono ?_
    rintro e w1 ⟨rfl, hb1⟩
    go_wp2
    go_ret2
    exact ⟨rfl, bel_to HR.out.2 hb1⟩
  · simp only [if_neg hp] at hc ⊢
    have HC := Lib.hid hc
    by_cases h : t < 0 ∨ 100000 < t
    · rw [show tolC t = 2 from if_pos h] at ht ⊢
      have HT := Lib.hid ht
      clear hc ht hs hp h
      go_enter Tryz.func27, Tryz.ntmps27
      go_wp2_with fail
      refine (HC.out _).mono ?_
      rintro e w1 ⟨rfl, hb1⟩
      have HB := Lib.hid (bel_to HR.out.2 hb1)
      clear hb1
      go_wp2_with fail
      refine (HT.out _).mono ?_
      rintro e w2 ⟨rfl, hb2⟩
      go_wp2
      go_ret2
      exact ⟨rfl, bel_to HB.out hb2⟩
    · rw [show tolC t = 0 from if_neg h] at ht ⊢
      have HT := Lib.hid ht
      have HS := Lib.hid (fun W => hs W (by omega) (by omega))
      clear hc ht hs hp h
      go_enter Tryz.func27, Tryz.ntmps27
      go_wp2_with fail
      refine (HC.out _).mono ?_
      rintro e w1 ⟨rfl, hb1⟩
      have H1 := Lib.hid (And.intro (HR.out.1.below' hb1) (bel_to HR.out.2 hb1))
      clear hb1 HR HC
      go_wp2_with fail
      refine (HT.out _).mono ?_
      rintro e w2 ⟨rfl, hb2⟩
      have H2 := Lib.hid (And.intro (H1.out.1.below' hb2) (bel_to H1.out.2 hb2))
      clear hb2 H1 HT
      have q0 := H2.out.1.cell (i := 0) rfl
      have q1 := H2.out.1.cell (i := 1) rfl
      have q2 := H2.out.1.cell (i := 2) rfl
      have q3 := H2.out.1.cell (i := 3) rfl
      go_wp2_with fail
      refine (HS.out _).mono ?_
      rintro e w3 ⟨rfl, hb3⟩
      go_wp2
      go_ret2
      exact ⟨rfl, bel_to H2.out.2 hb3⟩
theorem rround35 (vl : Value) (l : List PZ) (c : Rat × Rat) (t : Int) (k : Nat) (w : World) (hl : RdV w vl l) (hgv : givP l = 0) (h1 : Bq k c.1) (h2 : Bq k c.2) (hk1 : 1 ≤ k) (hk : k ≤ 60) :
    Calls Tryz.prog 29 #[vl, ceV (ceQ c), .int .i64 t] w (Ret w (.tuple #[.bool (if tolC t = 0 then slimB (innQ l c) (outQ l c) t else false), .int .i64 ((tolC t : Nat) : Int)])) := by
  obtain ⟨g1, g2, g3⟩ := givP_iff.1 hgv
  have small : ∀ q, Bq k q → (R q).length ≤ 90000 := fun q h => by have := h.R_len (by omega); omega
  have hfb : ∀ i, i ≤ l.length - 1 → Bq (4 * k + 29) (farF l c i) := fun i hi => by
    have := List.length_pos_iff.2 g2
    rw [farF_get l c (by omega)]; exact far_bq (g3 _ (List.getElem_mem _)) h1 h2
  have b3 : Bq (4 * k + 29) (innQ l c) := lo_bq hfb
  have b4 : Bq (4 * k + 29) (outQ l c) := hi_bq hfb
  have hat := fun W (hW : Below w.heap.size w W) => rat35 vl l (ceQ c) W (hl.below hW) (by unfold maxLen; omega) (small _ h1) (small _ h2)
  rw [show atC l (ceQ c) = 0 by unfold atC; rw [if_neg (by simp [hgv])]; exact chkRs_two h1 h2 (by omega) (by omega)] at hat
  have har := fun W (hW : Below w.heap.size w W) => raround35 vl l c k W (hl.below hW) g2 g3 h1 h2 hk1 (by omega) (by omega)
  have ht := fun W => rtol35 t W
  have hs : ∀ W, 0 ≤ t → t ≤ 100000 → Calls Tryz.prog 88 #[zoV (zoQ c (innQ l c) (outQ l c)), .int .i64 t] W (Ret W (.bool (slimB (innQ l c) (outQ l c) t))) := fun W h0 h1 => rslim35 (ceQ c) _ _ t (4 * k + 29) W h0 h1 b3 b4 (by omega) (by omega)
  have HR := Lib.hid (And.intro (rnw (w := w) (t := 41) (xs := [.string (bs (R c.1)), .string (bs (R c.2))])) (bel_alloc (Below.refl w.heap.size w) (.cells #[.string (bs (R c.1)), .string (bs (R c.2))] 41 (0, 0))))
  obtain ⟨A, cap, rfl⟩ := hl.len
  unfold ceV zoV zoQ ceQ at *
  simp only at *
  clear hgv h1 h2 hl small g1 g2 g3 hfb b3 b4 hk hk1
  generalize slimB (innQ l c) (outQ l c) t = sb at *
  generalize R (innQ l c) = si at *
  generalize R (outQ l c) = so at *
  generalize R c.1 = ta at *
  generalize R c.2 = tb at *
  have HA := Lib.hid hat
  have HU := Lib.hid har
  by_cases h : t < 0 ∨ 100000 < t
  · rw [show tolC t = 2 from if_pos h] at ht ⊢
    have HT := Lib.hid ht
    clear hat har ht hs h
    go_enter Tryz.func29, Tryz.ntmps29
    go_wp2_with fail
    refine (HA.out _ HR.out.2).mono ?_
    rintro e w1 ⟨rfl, hb1⟩
    have HB := Lib.hid (bel_to HR.out.2 hb1)
    clear hb1
    go_wp2_with fail
    refine (HT.out _).mono ?_
    rintro e w2 ⟨rfl, hb2⟩
    go_wp2
    go_ret2
    exact ⟨rfl, bel_to HB.out hb2⟩
  · rw [show tolC t = 0 from if_neg h] at ht ⊢
    have HT := Lib.hid ht
    have HS := Lib.hid (fun W => hs W (by omega) (by omega))
    clear hat har ht hs h
    go_enter Tryz.func29, Tryz.ntmps29
    go_wp2_with fail
    refine (HA.out _ HR.out.2).mono ?_
    rintro e w1 ⟨rfl, hb1⟩
    have H1 := Lib.hid (And.intro (HR.out.1.below' hb1) (bel_to HR.out.2 hb1))
    clear hb1 HR HA
    go_wp2_with fail
    refine (HT.out _).mono ?_
    rintro e w2 ⟨rfl, hb2⟩
    have H2 := Lib.hid (And.intro (H1.out.1.below' hb2) (bel_to H1.out.2 hb2))
    clear hb2 H1 HT
    have q0 := H2.out.1.cell (i := 0) rfl
    have q1 := H2.out.1.cell (i := 1) rfl
    go_wp2_with fail
    refine (HU.out _ H2.out.2).mono ?_
    rintro e w3 ⟨rfl, hb3⟩
    have HB := Lib.hid (bel_to H2.out.2 hb3)
    clear hb3 H2 HU q0 q1
    go_wp2_with fail
    refine (HS.out _).mono ?_
    rintro e w4 ⟨rfl, hb4⟩
    go_wp2
    go_ret2
    exact ⟨rfl, bel_to HB.out hb4⟩
theorem rround35_bad (vl : Value) (l : List PZ) (c : CT) (t : Int) (w : World) (hl : RdV w vl l) (hn : l.length ≤ maxLen) (h1 : c.1.length ≤ 90000) (h2 : c.2.length ≤ 90000) (h : atC l c ≠ 0) :
    Calls Tryz.prog 29 #[vl, ceV c, .int .i64 t] w (Ret w (.tuple #[.bool false, .int .i64 ((atC l c : Nat) : Int)])) := by
  have hat := fun W (hW : Below w.heap.size w W) => rat35 vl l c W (hl.below hW) hn h1 h2
  have hz : (((atC l c : Nat) : Int) != 0) = true := by simp; exact h
  have HR := Lib.hid (bel_alloc (Below.refl w.heap.size w) (.cells #[.string (bs c.1), .string (bs c.2)] 41 (0, 0)))
  obtain ⟨A, cap, rfl⟩ := hl.len
  unfold ceV at *
  clear h h1 h2 hl
  generalize ((atC l c : Nat) : Int) = z at *
  have HT := Lib.hid hat
  clear hat
  go_enter Tryz.func29, Tryz.ntmps29
  go_wp2_with fail
  refine (HT.out _ HR.out).mono ?_
  rintro e w1 ⟨rfl, hb1⟩
  go_wp2
  go_ret2
  exact ⟨rfl, bel_to HR.out hb1⟩
theorem rfew07 (vl : Value) (l : List PZ) (w : World) (hl : RdV w vl l) : Calls Tryz.prog 137 #[vl] w (Ret w (.bool (decide (l.length ≤ 8) || (decide (64 < l.length) && decide (l.length < 128))))) := by
  obtain ⟨A, cap, rfl⟩ := hl.len
  clear hl
  by_cases h8 : l.length ≤ 8
  · have d1 : decide (((l.length : Nat) : Int) ≤ 8) = true := decide_eq_true (by omega)
    rw [decide_eq_true h8, Bool.true_or]
    clear h8
    go_enter Tryz.func137, Tryz.ntmps137
    go_wp2
    go_ret
    exact Ret.of rfl (Below.refl _ _)
  · have d1 : decide (((l.length : Nat) : Int) ≤ 8) = false := decide_eq_false (by omega)
    rw [decide_eq_false h8, Bool.false_or]
    by_cases h64 : 64 < l.length
    · have d2 : decide ((64 : Int) < ((l.length : Nat) : Int)) = true := decide_eq_true (by omega)
      rw [decide_eq_true h64, Bool.true_and]
      have hd : decide (l.length < 128) = decide (((l.length : Nat) : Int) < 128) := decide_eq_decide.2 (by omega)
      rw [hd]
      clear h8 h64 hd
      go_enter Tryz.func137, Tryz.ntmps137
      go_wp2
      go_ret
      exact Ret.of rfl (Below.refl _ _)
    · have d2 : decide ((64 : Int) < ((l.length : Nat) : Int)) = false := decide_eq_false (by omega)
      rw [decide_eq_false h64, Bool.false_and]
      clear h8 h64
      go_enter Tryz.func137, Tryz.ntmps137
      go_wp2
      go_ret
      exact Ret.of rfl (Below.refl _ _)
def fewP (l : List PZ) : Bool := decide (l.length ≤ 8) || (decide (64 < l.length) && decide (l.length < 128))
theorem rfew35 (vl : Value) (l : List PZ) (w : World) (hl : RdV w vl l) : Calls Tryz.prog 72 #[vl] w (Ret w (.bool (fewP l))) := by
  have HF := Lib.hid (rfew07 vl l w hl)
  obtain ⟨A, cap, rfl⟩ := hl.len
  unfold fewP
  generalize (decide (l.length ≤ 8) || (decide (64 < l.length) && decide (l.length < 128))) = b at *
  clear hl
  go_enter Tryz.func72, Tryz.ntmps72
  go_wp2_with fail
  refine (HF.out).mono ?_
  rintro e w1 ⟨rfl, hb1⟩
  go_wp2
  go_ret
  exact Ret.of rfl hb1
end W
end Go.Proofs.YtijpgddpejiohaaGreatDoor
end
section
namespace Go.Proofs.YtijpgddpejiohaaGreatDoor
open Go Go.RowKit Go.Deep Go.Sort
namespace M
def wsm (w : List Rat) (g : Nat → Rat) : Nat → Rat
  | 0 => 0
  | i + 1 => wsm w g i + nth w i * g i
def psw (w : List Rat) : Nat → Rat
  | 0 => 0
  | i + 1 => if nth w i < 0 then psw w i else psw w i + nth w i
def pX (l : List PZ) (i : Nat) : Rat := ((l.getD i (0, 0)).1 : Rat)
def pY (l : List PZ) (i : Nat) : Rat := ((l.getD i (0, 0)).2 : Rat)
def pN (l : List PZ) (i : Nat) : Rat := (Sx.nrmZ (l.getD i (0, 0)) : Rat)
def prvB (l : List PZ) (w : List Rat) (d : Rat) : Bool :=
  decide (wsm w (fun _ => 1) l.length = 0) && decide (wsm w (pX l) l.length = 0) && decide (wsm w (pY l) l.length = 0) && decide (psw w l.length ≤ 1) && decide (wsm w (pN l) l.length = d)
theorem nth_bq30 {w : List Rat} (h : ∀ x ∈ w, Bq 30 x) (k : Nat) : Bq 30 (nth w k) := by
  unfold nth
  rw [List.getD_eq_getElem?_getD]
  cases hk : w[k]? with
  | none => exact Bq_nil.mono (by decide)
  | some x => exact h x (List.mem_of_getElem? hk)
theorem wsm_bq {w : List Rat} {g : Nat → Rat} (h : ∀ x ∈ w, Bq 30 x) : ∀ i, (∀ j, j < i → Bq 11 (g j)) → Bq (42 * i + 1) (wsm w g i)
  | 0, _ => Bq_nil.mono (by omega)
  | i + 1, hg => ((wsm_bq h i fun j hj => hg j (by omega)).add ((nth_bq30 h i).mul (hg i (by omega)))).mono (by omega)
theorem psw_bq {w : List Rat} (h : ∀ x ∈ w, Bq 30 x) : ∀ i, Bq (31 * i + 1) (psw w i)
  | 0 => Bq_nil.mono (by omega)
  | i + 1 => by
    rw [psw]
    split
    · exact (psw_bq h i).mono (by omega)
    · exact ((psw_bq h i).add (nth_bq30 h i)).mono (by omega)
theorem nrm_bd {p : PZ} (h : inP p = true) : 0 ≤ Sx.nrmZ p ∧ Sx.nrmZ p ≤ 20000000000 ∧ 0 ≤ p.1 * p.1 ∧ p.1 * p.1 ≤ 10000000000 ∧ 0 ≤ p.2 * p.2 ∧ p.2 * p.2 ≤ 10000000000 := by
  unfold inP at h
  rw [Bool.and_eq_true] at h
  have h1 := in_bd h.1
  have h2 := in_bd h.2
  have sq : ∀ x : Int, -100000 ≤ x → x ≤ 100000 → 0 ≤ x * x ∧ x * x ≤ 10000000000 := fun x a b => by
    have e : x * x = ((x.natAbs * x.natAbs : Nat) : Int) := by rw [← Int.natAbs_mul_self]
    have hle : x.natAbs * x.natAbs ≤ 100000 * 100000 := Nat.mul_le_mul (by omega) (by omega)
    rw [e]; omega
  have a := sq p.1 h1.1 h1.2
  have b := sq p.2 h2.1 h2.2
  unfold Sx.nrmZ
  omega
theorem pX_bq {l : List PZ} (h : ∀ p ∈ l, inP p = true) {i : Nat} (hi : i < l.length) : Bq 11 (pX l i) := by
  have := h _ (List.getElem_mem hi)
  unfold inP at this
  rw [Bool.and_eq_true] at this
  unfold pX
  rw [show l.getD i (0, 0) = l[i] by simp [hi]]
  exact (in_bq this.1).mono (by decide)
theorem pY_bq {l : List PZ} (h : ∀ p ∈ l, inP p = true) {i : Nat} (hi : i < l.length) : Bq 11 (pY l i) := by
  have := h _ (List.getElem_mem hi)
  unfold inP at this
  rw [Bool.and_eq_true] at this
  unfold pY
  rw [show l.getD i (0, 0) = l[i] by simp [hi]]
  exact (in_bq this.2).mono (by decide)
theorem pN_bq {l : List PZ} (h : ∀ p ∈ l, inP p = true) {i : Nat} (hi : i < l.length) : Bq 11 (pN l i) := by
  have := nrm_bd (h _ (List.getElem_mem hi))
  unfold pN
  rw [show l.getD i (0, 0) = l[i] by simp [hi]]
  exact ⟨by rw [Rat.num_intCast]; omega, by rw [Rat.den_intCast]; decide⟩
theorem one_bq11 : Bq 11 (1 : Rat) := ⟨by decide +kernel, by decide +kernel⟩
end M
namespace W
open M
attribute [local go_sem] bs_size bs_toList bs_get bs_extract bs_append bs_lit0 bs_lit1 lit1_bs
set_option maxHeartbeats 4000000
set_option maxRecDepth 20000
theorem rnorm35 (p : PZ) (w : World) (hp : inP p = true) : Calls Tryz.prog 157 #[ptV p] w (Ret w (.int .i64 (Sx.nrmZ p))) := by
  have hb := nrm_bd hp
  obtain ⟨x, y⟩ := p
  unfold Sx.nrmZ ptV at *
  simp only at *
  have h1 : IntKind.i64.wrap (x * x) = x * x := IntWalk.i64_in _ (by omega)
  have h2 : IntKind.i64.wrap (y * y) = y * y := IntWalk.i64_in _ (by omega)
  have h3 : IntKind.i64.wrap (x * x + y * y) = x * x + y * y := IntWalk.i64_in _ (by omega)
  clear hb hp
  go_enter Tryz.func157, Tryz.ntmps157
  go_wp2
  go_ret
  exact Ret.of rfl (bel_alloc (Below.refl _ _) _)
theorem rproves35 (vl vw : Value) (l : List PZ) (ws : List Rat) (d : Rat) (w : World) (hl : RdV w vl l) (hw : RdT w vw (rx ws)) (hp : ∀ p ∈ l, inP p = true) (hwb : ∀ x ∈ ws, Bq 30 x) (hlen : ws.length = l.length) (hl8 : l.length ≤ 8) :
    Calls Tryz.prog 93 #[vl, vw, .string (bs (R d))] w (Ret w (.bool (prvB l ws d))) := by
  have hs := fun i (hi : i ≤ l.length) => wsm_bq (g := fun _ => 1) hwb i fun j _ => one_bq11
  have hx := fun i (hi : i ≤ l.length) => wsm_bq (g := pX l) hwb i fun j hj => pX_bq hp (by omega)
  have hy := fun i (hi : i ≤ l.length) => wsm_bq (g := pY l) hwb i fun j hj => pY_bq hp (by omega)
  have hn := fun i (hi : i ≤ l.length) => wsm_bq (g := pN l) hwb i fun j hj => pN_bq hp (by omega)
  have hps := psw_bq hwb
  have c1 : ∀ i (_ : i < l.length) W, Calls Tryz.prog 15 #[.string (bs (R (wsm ws (fun _ => 1) i))), .string (bs (R (nth ws i)))] W (Ret W (.string (bs (R (wsm ws (fun _ => 1) (i + 1)))))) := fun i hi W => by
    have h := plus_R (wsm ws (fun _ => 1) i) (nth ws i) W ((hs i (by omega)).sh (by omega) (by omega)) ((nth_bq30 hwb i).sh (by decide) (by decide))
    rwa [show wsm ws (fun _ => 1) i + nth ws i = wsm ws (fun _ => 1) (i + 1) by rw [wsm]; grind] at h
  have c2 : ∀ (g : Nat → Rat) i (_ : i < l.length) W, Bq 11 (g i) → Bq (42 * i + 1) (wsm ws g i) → Calls Tryz.prog 15 #[.string (bs (R (wsm ws g i))), .string (bs (R (nth ws i * g i)))] W (Ret W (.string (bs (R (wsm ws g (i + 1)))))) := fun g i hi W hg hb =>
    plus_R (wsm ws g i) (nth ws i * g i) W (hb.sh (by omega) (by omega)) (((nth_bq30 hwb i).mul hg).sh (by omega) (by omega))
  have c3 : ∀ (g : Nat → Rat) i W, Bq 11 (g i) → Calls Tryz.prog 14 #[.string (bs (R (nth ws i))), .string (bs (R (g i)))] W (Ret W (.string (bs (R (nth ws i * g i))))) := fun g i W hg =>
    timesR (nth ws i) (g i) W ((nth_bq30 hwb i).sh (by decide) (by decide)) (hg.sh (by decide) (by decide))
  have hB := fun i W => rbelow02 (nth ws i) W ((nth_bq30 hwb i).sh (by decide) (by decide))
  have c4 : ∀ i (_ : i < l.length) W, ¬ nth ws i < 0 → Calls Tryz.prog 15 #[.string (bs (R (psw ws i))), .string (bs (R (nth ws i)))] W (Ret W (.string (bs (R (psw ws (i + 1)))))) := fun i hi W hnn => by
    rw [psw, if_neg hnn]
    exact plus_R (psw ws i) (nth ws i) W ((hps i).sh (by omega) (by omega)) ((nth_bq30 hwb i).sh (by decide) (by decide))
  have e0 : ∀ i, nth ws i < 0 → psw ws (i + 1) = psw ws i := fun i h => by rw [psw, if_pos h]
  have hO : ∀ W, Calls Tryz.prog 141 #[.string (bs (R (psw ws l.length))), .string (bs [49])] W (Ret W (.int .i64 (cmpQ (psw ws l.length) 1))) := fun W => by
    have h := order_R (psw ws l.length) 1 W ((hps l.length).sh (by omega) (by omega)) (one_bq11.sh (by decide) (by decide))
    rwa [R_one5] at h
  have HR0 := Lib.hid (show R (wsm ws (fun _ => 1) 0) = [48] ∧ R (wsm ws (pX l) 0) = [48] ∧ R (wsm ws (pY l) 0) = [48] ∧ R (wsm ws (pN l) 0) = [48] ∧ R (psw ws 0) = [48] from ⟨R_nil, R_nil, R_nil, R_nil, R_nil⟩)
  have HPX := Lib.hid (fun i (hi : i < l.length) => (pX_bq hp hi))
  have HPY := Lib.hid (fun i (hi : i < l.length) => (pY_bq hp hi))
  have HPN := Lib.hid (fun i (hi : i < l.length) => (pN_bq hp hi))
  have HIN := Lib.hid (fun i (hi : i < l.length) => hp l[i] (List.getElem_mem hi))
  have HX := Lib.hid hx
  have HY := Lib.hid hy
  have HN := Lib.hid hn
  have C1 := Lib.hid c1
  have C2 := Lib.hid c2
  have C3 := Lib.hid c3
  have C4 := Lib.hid c4
  have E0 := Lib.hid e0
  have HB := Lib.hid hB
  have HO := Lib.hid hO
  have HL := Lib.hid (fun W (hW : Below w.heap.size w W) => hl.below hW)
  have HW := Lib.hid (fun W (hW : Below w.heap.size w W) => hw.below hW)
  have HLEN := Lib.hid hlen
  have hres : prvB l ws d = ((R (wsm ws (fun _ => 1) l.length) == [48]) && (R (wsm ws (pX l) l.length) == [48]) && (R (wsm ws (pY l) l.length) == [48]) && decide (cmpQ (psw ws l.length) 1 ≤ 0) && (R (wsm ws (pN l) l.length) == R d)) := by
    have q : ∀ a : Rat, decide (a = 0) = (R a == [48]) := fun a => by
      rw [Bool.eq_iff_iff, decide_eq_true_eq, beq_iff_eq]; exact R_is0.symm
    have q2 : ∀ a b : Rat, decide (a = b) = (R a == R b) := fun a b => by
      rw [Bool.eq_iff_iff, decide_eq_true_eq, beq_iff_eq]; exact ⟨fun h => by rw [h], fun h => R_inj h⟩
    unfold prvB
    rw [q, q, q, q2, decide_eq_decide.2 (cmpQ_le5 (a := psw ws l.length) (b := 1)).symm]
  rw [hres]
  obtain ⟨A, ca, rfl⟩ := hl.len
  obtain ⟨B, cb, rfl⟩ := hw.len
  rw [show (rx ws).length = l.length by rw [rx_len, hlen]] at HW ⊢
  clear hs hx hy hn hps c1 c2 c3 c4 e0 hB hO hres hl hw hp hwb hlen
  generalize R d = sd at *
  generalize hrs : ((R (wsm ws (fun _ => 1) l.length) == [48]) && (R (wsm ws (pX l) l.length) == [48]) && (R (wsm ws (pY l) l.length) == [48]) && decide (cmpQ (psw ws l.length) 1 ≤ 0) && (R (wsm ws (pN l) l.length) == sd)) = rs
  have HRS := Lib.hid hrs
  clear hrs
  go_enter Tryz.func93, Tryz.ntmps93
  go_wp2
  go_loopw [7, 8, 9, 10, 11, 12] (fun v1 v2 v3 v4 v5 iv wr => ∃ i : Nat, iv = .int .i64 (i : Int) ∧ i ≤ l.length ∧ v1 = .string (bs (R (wsm ws (fun _ => 1) i))) ∧ v2 = .string (bs (R (wsm ws (pX l) i))) ∧ v3 = .string (bs (R (wsm ws (pY l) i))) ∧ v4 = .string (bs (R (wsm ws (pN l) i))) ∧ v5 = .string (bs (R (psw ws i))) ∧ Hid (Below w.heap.size w wr)) (fun _ _ _ _ _ iv _ => l.length - (intOf iv).toNat)
  case atStart => exact ⟨0, rfl, by omega, by rw [HR0.out.1]; rfl, by rw [HR0.out.2.1]; rfl, by rw [HR0.out.2.2.1]; rfl, by rw [HR0.out.2.2.2.1]; rfl, by rw [HR0.out.2.2.2.2]; rfl, Lib.hid (Below.refl _ _)⟩
  case round =>
    obtain ⟨i, rfl, hi, rfl, rfl, rfl, rfl, rfl, hbw⟩ := hrel
    by_cases hlt : i < l.length
    · obtain ⟨b1, o1, rfl, hwv⟩ := (HL.out _ hbw.out).row i hlt
      obtain ⟨c0, c1⟩ := hwv.val i hlt
      have hiw : i < ws.length := by rw [HLEN.out]; exact hlt
      have hrt := HW.out _ hbw.out
      rw [show l.length = (rx ws).length by rw [rx_len, HLEN.out]] at hrt
      obtain ⟨b2, o2, rfl, hwt⟩ := hrt.row i (by rw [rx_len]; exact hiw)
      have c2 := hwt.val i (by rw [rx_len]; exact hiw)
      rw [rx_get ws i hiw, ← nth_get ws i hiw] at c2
      have hi1 : (i : Int) < (l.length : Int) := by omega
      have hi0 : (0 : Int) ≤ (i : Int) := by omega
      have ex : pX l i = ((l[i].1 : Int) : Rat) := by unfold pX; rw [show l.getD i (0, 0) = l[i] by simp [hlt]]
      have ey : pY l i = ((l[i].2 : Int) : Rat) := by unfold pY; rw [show l.getD i (0, 0) = l[i] by simp [hlt]]
      have en : pN l i = (Sx.nrmZ l[i] : Rat) := by unfold pN; rw [show l.getD i (0, 0) = l[i] by simp [hlt]]
      have hin := HIN.out i hlt
      have hbi := hin
      unfold inP at hbi
      rw [Bool.and_eq_true] at hbi
      have ibx := in_bd hbi.1
      have iby := in_bd hbi.2
      have ibn := nrm_bd hin
      have w1 := fun W => whole_R l[i].1 W (by omega) (by omega)
      have w2 := fun W => whole_R l[i].2 W (by omega) (by omega)
      have w3 := fun W => whole_R (Sx.nrmZ l[i]) W (by omega) (by omega)
      rw [← ex] at w1
      rw [← ey] at w2
      rw [← en] at w3
      have w4 := fun W => rnorm35 l[i] W hin
      unfold ptV at w4
      have K1 := Lib.hid (C1.out i hlt)
      have K2 := Lib.hid (fun W => C2.out (pX l) i hlt W (HPX.out i hlt) (HX.out i hi))
      have K3 := Lib.hid (fun W => C2.out (pY l) i hlt W (HPY.out i hlt) (HY.out i hi))
      have K4 := Lib.hid (fun W => C2.out (pN l) i hlt W (HPN.out i hlt) (HN.out i hi))
      have T2 := Lib.hid (fun W => C3.out (pX l) i W (HPX.out i hlt))
      have T3 := Lib.hid (fun W => C3.out (pY l) i W (HPY.out i hlt))
      have T4 := Lib.hid (fun W => C3.out (pN l) i W (HPN.out i hlt))
      have W1 := Lib.hid w1
      have W2 := Lib.hid w2
      have W3 := Lib.hid w3
      have W4 := Lib.hid w4
      have HBI := Lib.hid (HB.out i)
      have K5 := Lib.hid (fun W h => C4.out i hlt W h)
      have E5 := Lib.hid (E0.out i)
      have HCC := Lib.hid (fun E (hE : Below wr.heap.size wr E) => (And.intro ((hE.cell (block_lt_of_cell c0)).trans c0) (And.intro ((hE.cell (block_lt_of_cell c1)).trans c1) ((hE.cell (block_lt_of_cell c2)).trans c2)) : E.cell? ⟨b1, o1 + i * 2, none⟩ = some (.int .i64 l[i].1) ∧ E.cell? ⟨b1, o1 + i * 2 + 1, none⟩ = some (.int .i64 l[i].2) ∧ E.cell? ⟨b2, o2 + i, none⟩ = some (.string (bs (R (nth ws i))))))
      clear w1 w2 w3 w4 ex ey en hin hbi ibx iby ibn hwv hrt hwt c1
      go_wp2_with fail
      refine (K1.out _).mono ?_
      rintro e w1 ⟨rfl, hb1⟩
      have w1H := Lib.hid hb1
      clear hb1 c0 c2 K1
      obtain ⟨q0, q1, q2⟩ := HCC.out _ w1H.out
      have m0 := cell_regrown q0
      have m1 := cell_regrown q1
      have m2 := cell_regrown q2
      clear q0 q1 q2
      have k1 := reg_of (w := w1) (fun E _ => W1.out E)
      have k2 := reg_of (w := w1) (fun E _ => T2.out E)
      have k3 := reg_of (w := w1) (fun E _ => K2.out E)
      have e1 : ∀ args w, (callFunc 13 args).run Tryz.prog w = .ok (.enter 13 args) w := enters_of Tryz.func13 (by kernel_rfl) rfl
      have e2 : ∀ args w, (callFunc 14 args).run Tryz.prog w = .ok (.enter 14 args) w := enters_of Tryz.func14 (by kernel_rfl) rfl
      have e3 : ∀ args w, (callFunc 15 args).run Tryz.prog w = .ok (.enter 15 args) w := enters_of Tryz.func15 (by kernel_rfl) rfl
      go_wp2_with fail
      refine wp_region_quiet_below (by kernel_rfl) (by kernel_rfl) ?_
      repeat (go_big_quiet_step (fail))
      go_big_quiet_step (exact k1 _ _)
      repeat (go_big_quiet_step (fail))
      go_big_quiet_step (exact k2 _ _)
      repeat (go_big_quiet_step (fail))
      go_big_quiet_step (exact k3 _ _)
      repeat (go_big_quiet_step (fail))
      refine wpQuiet_nil ?_
      intro W6 hw'
      have hb6 : Below w1.heap.size w1 W6 := by obtain ⟨p, e⟩ := hw'; rw [e]; exact below_regrown w1 p.d p.os
      clear hw'
      obtain ⟨V2, hV2⟩ : ∃ V, V = W6 := ⟨_, rfl⟩
      subst hV2
      have V2H := Lib.hid (bel_to w1H.out hb6)
      clear hb6 w1H m0 m1 m2 k1 k2 k3 e1 e2 e3
      obtain ⟨q0, q1, q2⟩ := HCC.out _ V2H.out
      have m0 := cell_regrown q0
      have m1 := cell_regrown q1
      have m2 := cell_regrown q2
      clear q0 q1 q2
      have k1 := reg_of (w := V2) (fun E _ => W2.out E)
      have k2 := reg_of (w := V2) (fun E _ => T3.out E)
      have k3 := reg_of (w := V2) (fun E _ => K3.out E)
      have e1 : ∀ args w, (callFunc 13 args).run Tryz.prog w = .ok (.enter 13 args) w := enters_of Tryz.func13 (by kernel_rfl) rfl
      have e2 : ∀ args w, (callFunc 14 args).run Tryz.prog w = .ok (.enter 14 args) w := enters_of Tryz.func14 (by kernel_rfl) rfl
      have e3 : ∀ args w, (callFunc 15 args).run Tryz.prog w = .ok (.enter 15 args) w := enters_of Tryz.func15 (by kernel_rfl) rfl
      go_wp2_with fail
      refine wp_region_quiet_below (by kernel_rfl) (by kernel_rfl) ?_
      repeat (go_big_quiet_step (fail))
      go_big_quiet_step (exact k1 _ _)
      repeat (go_big_quiet_step (fail))
      go_big_quiet_step (exact k2 _ _)
      repeat (go_big_quiet_step (fail))
      go_big_quiet_step (exact k3 _ _)
      repeat (go_big_quiet_step (fail))
      refine wpQuiet_nil ?_
      intro W6 hw'
      have hb6 : Below V2.heap.size V2 W6 := by obtain ⟨p, e⟩ := hw'; rw [e]; exact below_regrown V2 p.d p.os
      clear hw'
      obtain ⟨V3, hV3⟩ : ∃ V, V = W6 := ⟨_, rfl⟩
      subst hV3
      have V3H := Lib.hid (bel_to V2H.out hb6)
      clear hb6 V2H m0 m1 m2 k1 k2 k3 e1 e2 e3
      obtain ⟨q0, q1, q2⟩ := HCC.out _ V3H.out
      have m0 := cell_regrown q0
      have m1 := cell_regrown q1
      have m2 := cell_regrown q2
      clear q0 q1 q2
      have k1 := reg_of (w := V3) (fun E _ => W4.out E)
      have k2 := reg_of (w := V3) (fun E _ => W3.out E)
      have k3 := reg_of (w := V3) (fun E _ => T4.out E)
      have k4 := reg_of (w := V3) (fun E _ => K4.out E)
      have e1 : ∀ args w, (callFunc 157 args).run Tryz.prog w = .ok (.enter 157 args) w := enters_of Tryz.func157 (by kernel_rfl) rfl
      have e2 : ∀ args w, (callFunc 13 args).run Tryz.prog w = .ok (.enter 13 args) w := enters_of Tryz.func13 (by kernel_rfl) rfl
      have e3 : ∀ args w, (callFunc 14 args).run Tryz.prog w = .ok (.enter 14 args) w := enters_of Tryz.func14 (by kernel_rfl) rfl
      have e4 : ∀ args w, (callFunc 15 args).run Tryz.prog w = .ok (.enter 15 args) w := enters_of Tryz.func15 (by kernel_rfl) rfl
      go_wp2_with fail
      refine wp_region_quiet_below (by kernel_rfl) (by kernel_rfl) ?_
      repeat (go_big_quiet_step (fail))
      go_big_quiet_step (exact k1 _ _)
      repeat (go_big_quiet_step (fail))
      go_big_quiet_step (exact k2 _ _)
      repeat (go_big_quiet_step (fail))
      go_big_quiet_step (exact k3 _ _)
      repeat (go_big_quiet_step (fail))
      go_big_quiet_step (exact k4 _ _)
      repeat (go_big_quiet_step (fail))
      refine wpQuiet_nil ?_
      intro W6 hw'
      have hb6 : Below V3.heap.size V3 W6 := by obtain ⟨p, e⟩ := hw'; rw [e]; exact below_regrown V3 p.d p.os
      clear hw'
      obtain ⟨V4, hV4⟩ : ∃ V, V = W6 := ⟨_, rfl⟩
      subst hV4
      have V4H := Lib.hid (bel_to V3H.out hb6)
      clear hb6 V3H m0 m1 m2 k1 k2 k3 k4 e1 e2 e3 e4
      obtain ⟨q0, q1, q2⟩ := HCC.out _ V4H.out
      clear q0 q1
      go_wp2_with fail
      refine (HBI.out _).mono ?_
      rintro e w5 ⟨rfl, hb5⟩
      have V5H := Lib.hid (bel_to V4H.out hb5)
      clear hb5 V4H q2 HBI
      by_cases hneg : nth ws i < 0
      · have hd : decide (nth ws i < 0) = true := decide_eq_true hneg
        have HE := Lib.hid (E5.out hneg)
        clear hneg K5 E5 HCC
        go_wp2
        go_roundw
        case rel => exact ⟨i + 1, by go_num, hlt, rfl, rfl, rfl, rfl, by rw [HE.out], Lib.hid (bel_to hbw.out V5H.out)⟩
        case measure => simp [intOf]; omega
      · have hd : decide (nth ws i < 0) = false := decide_eq_false hneg
        have K6 := Lib.hid (fun W => K5.out W hneg)
        clear hneg K5 E5
        obtain ⟨q0, q1, q2⟩ := HCC.out _ V5H.out
        clear q0 q1 HCC
        go_wp2_with fail
        refine (K6.out _).mono ?_
        rintro e w7 ⟨rfl, hb7⟩
        have V7H := Lib.hid (bel_to V5H.out hb7)
        clear hb7 V5H q2 K6
        go_wp2
        go_roundw
        case rel => exact ⟨i + 1, by go_num, hlt, rfl, rfl, rfl, rfl, rfl, Lib.hid (bel_to hbw.out V7H.out)⟩
        case measure => simp [intOf]; omega
    · obtain rfl : i = l.length := by omega
      have hO := HO.out wr
      generalize R (wsm ws (fun _ => 1) l.length) = s1 at *
      generalize R (wsm ws (pX l) l.length) = s2 at *
      generalize R (wsm ws (pY l) l.length) = s3 at *
      generalize R (wsm ws (pN l) l.length) = s5 at *
      generalize cmpQ (psw ws l.length) 1 = cm at *
      generalize R (psw ws l.length) = s4 at *
      generalize hq1 : (s1 == [48]) = q1 at *
      generalize hq2 : (s2 == [48]) = q2 at *
      generalize hq3 : (s3 == [48]) = q3 at *
      generalize hq5 : (s5 == sd) = q5 at *
      have HOO := Lib.hid hO
      clear hO HX HY HN HPX HPY HPN C1 C2 C3 C4 E0 HB HO HL HW
      cases q1 with
      | false =>
        obtain rfl : false = rs := by rw [← HRS.out]; rfl
        clear HRS
        go_wp2
        go_ret
        exact Ret.of rfl hbw.out
      | true =>
        cases q2 with
        | false =>
          obtain rfl : false = rs := by rw [← HRS.out]; rfl
          clear HRS
          go_wp2
          go_ret
          exact Ret.of rfl hbw.out
        | true =>
          cases q3 with
          | false =>
            obtain rfl : false = rs := by rw [← HRS.out]; rfl
            clear HRS
            go_wp2
            go_ret
            exact Ret.of rfl hbw.out
          | true =>
            go_wp2_with fail
            refine (HOO.out).mono ?_
            rintro e w9 ⟨rfl, hb9⟩
            have HB9 := Lib.hid (bel_to hbw.out hb9)
            clear hb9 HOO
            generalize hq4 : decide (cm ≤ 0) = q4 at *
            cases q4 with
            | false =>
              obtain rfl : false = rs := by rw [← HRS.out]; rfl
              clear HRS
              go_wp2
              go_ret
              exact Ret.of rfl HB9.out
            | true =>
              cases q5 with
              | false =>
                obtain rfl : false = rs := by rw [← HRS.out]; rfl
                clear HRS
                go_wp2
                go_ret
                exact Ret.of rfl HB9.out
              | true =>
                obtain rfl : true = rs := by rw [← HRS.out]; rfl
                clear HRS
                go_wp2
                go_ret
                exact Ret.of rfl HB9.out
end W
end Go.Proofs.YtijpgddpejiohaaGreatDoor
end
