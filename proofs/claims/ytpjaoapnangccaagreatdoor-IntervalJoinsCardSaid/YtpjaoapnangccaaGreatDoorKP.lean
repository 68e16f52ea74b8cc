/-
  Chapter 3's laws: IntervalChecks.
  Chapter 3's laws: IntervalCombines.
-/
import Derived.Test.YtpjaoapnangccaaGreatDoorKO
namespace Go.Proofs.YtpjaoapnangccaaGreatDoor
open Go Go.RowKit Go.Deep Go.Sort
namespace W
open M
attribute [local go_sem] bs_size bs_toList bs_get bs_extract bs_append bs_lit0 bs_lit1 lit1_bs
set_option maxHeartbeats 1000000
set_option maxRecDepth 20000
abbrev tI (x : List UInt8) (c : Int) : Value := .tuple #[.string (bs x), .int .i64 c]
theorem of_pair (lo hi : Int) (hl : -9223372036854775808 ≤ lo ∧ lo ≤ 9223372036854775807) (hh : -9223372036854775808 ≤ hi ∧ hi ≤ 9223372036854775807) : ∃ (x : PT) (c : Int),
    (∀ w, Glob w → Calls Tryz.prog 30 #[.int .i64 lo, .int .i64 hi] w (Ret w (spR x c))) ∧ (∀ w, Calls Tryz.prog 31 #[.int .i64 lo, .int .i64 hi] w (Ret w (spR x c))) := by
  by_cases h : hi < lo
  · exact ⟨_, _, fun w _ => pof_bad lo hi w h, fun w => rof_bad lo hi w h⟩
  · exact ⟨_, _, fun w hg => pof_ok lo hi w hg (by omega) hl hh, fun w => rof_ok lo hi w (by omega) hl hh⟩
theorem width_pair (p : PT) (h1 : Sht p.1) (h2 : Sht p.2) : ∃ (x : List UInt8) (c : Int),
    (∀ w, Glob w → Calls Tryz.prog 32 #[spV p] w (Ret w (tI x c))) ∧ (∀ w, Calls Tryz.prog 33 #[spV p] w (Ret w (tI x c))) := by
  by_cases h : chkP p = 0
  · obtain ⟨a, rfl, ha⟩ := chkP_right h1 h2 h
    exact ⟨_, _, fun w hg => pwidth_ok a w hg ha, fun w => rwidth_ok a w ha⟩
  · exact ⟨_, _, fun w hg => pwidth_bad p w hg h1 h2 h, fun w => rwidth_bad p w h1 h2 h⟩
theorem middle_pair (p : PT) (h1 : Sht p.1) (h2 : Sht p.2) : ∃ (x : List UInt8) (c : Int),
    (∀ w, Glob w → Calls Tryz.prog 36 #[spV p] w (Ret w (tI x c))) ∧ (∀ w, Calls Tryz.prog 37 #[spV p] w (Ret w (tI x c))) := by
  by_cases h : chkP p = 0
  · obtain ⟨a, rfl, ha⟩ := chkP_right h1 h2 h
    exact ⟨_, _, fun w hg => pmiddle_ok a w hg ha, fun w => rmiddle_ok a w ha⟩
  · exact ⟨_, _, fun w hg => pmiddle_bad p w hg h1 h2 h, fun w => rmiddle_bad p w h1 h2 h⟩
theorem chkL_pair {p q : PT} (hs : ShtL [p, q]) (h : chkL [p, q] = 0) : ∃ a b : SQ, p = (R a.1, R a.2) ∧ q = (R b.1, R b.2) ∧ SpB 30 a ∧ SpB 30 b := by
  rw [chkL_two] at h
  have h1 := hs p (by simp)
  have h2 := hs q (by simp)
  by_cases hp : chkP p = 0
  · rw [if_pos hp] at h
    obtain ⟨a, e1, ha⟩ := chkP_right h1.1 h1.2 hp
    obtain ⟨b, e2, hb⟩ := chkP_right h2.1 h2.2 h
    exact ⟨a, b, e1, e2, ha, hb⟩
  · rw [if_neg hp] at h; exact absurd h hp
theorem add_pair (p q : PT) (hs : ShtL [p, q]) : ∃ (x : PT) (c : Int),
    (∀ w, Glob w → Calls Tryz.prog 12 #[spV p, spV q] w (Ret w (spR x c))) ∧ (∀ w, Calls Tryz.prog 13 #[spV p, spV q] w (Ret w (spR x c))) := by
  by_cases h : chkL [p, q] = 0
  · obtain ⟨a, b, rfl, rfl, ha, hb⟩ := chkL_pair hs h
    exact ⟨_, _, fun w hg => padd_ok a b w hg ha hb, fun w => radd3_ok a b w ha hb⟩
  · exact ⟨_, _, fun w hg => padd_bad p q w hg hs h, fun w => radd3_bad p q w hs h⟩
theorem sub_pair (p q : PT) (hs : ShtL [p, q]) : ∃ (x : PT) (c : Int),
    (∀ w, Glob w → Calls Tryz.prog 14 #[spV p, spV q] w (Ret w (spR x c))) ∧ (∀ w, Calls Tryz.prog 15 #[spV p, spV q] w (Ret w (spR x c))) := by
  by_cases h : chkL [p, q] = 0
  · obtain ⟨a, b, rfl, rfl, ha, hb⟩ := chkL_pair hs h
    exact ⟨_, _, fun w hg => psub_ok a b w hg ha hb, fun w => rsub3_ok a b w ha hb⟩
  · exact ⟨_, _, fun w hg => psub_bad p q w hg hs h, fun w => rsub3_bad p q w hs h⟩
theorem scale_pair (p : PT) (s : List UInt8) (h1 : Sht p.1) (h2 : Sht p.2) (hs : Sht s) : ∃ (x : PT) (c : Int),
    (∀ w, Glob w → Calls Tryz.prog 16 #[spV p, .string (bs s)] w (Ret w (spR x c))) ∧ (∀ w, Calls Tryz.prog 17 #[spV p, .string (bs s)] w (Ret w (spR x c))) := by
  by_cases h : chkP p = 0
  · obtain ⟨a, rfl, ha⟩ := chkP_right h1 h2 h
    by_cases hk : chkR s = 0
    · obtain ⟨q, rfl, hq⟩ := hs.2 hk
      exact ⟨_, _, fun w hg => pscale_ok a q w hg ha hq, fun w => rscale_ok3 a q w ha hq⟩
    · have := hs.1
      exact ⟨_, _, fun w hg => pscale_bad2 a s w hg ha (by omega) hk, fun w => rscale_bad2 a s w ha (by omega) hk⟩
  · exact ⟨_, _, fun w hg => pscale_bad p s w hg h1 h2 h, fun w => rscale_bad p s w h1 h2 h⟩
theorem rshort (p : PT) (w : World) (h1 : p.1.length ≤ maxLen) (h2 : p.2.length ≤ maxLen) : Calls Tryz.prog 9 #[spV p] w (Ret w (.bool (shortB p.1 && shortB p.2))) := by
  unfold maxLen at h1 h2
  have HA := Lib.hid (fun W => short_any p.1 W h1)
  have HB := Lib.hid (fun W => short_any p.2 W h2)
  have hrow := Row.new w 24 [.string (bs p.1), .string (bs p.2)]
  have HR := Lib.hid hrow
  have hal := (Below.refl w.heap.size w).alloc (Nat.le_refl _) (.cells #[.string (bs p.1), .string (bs p.2)] 24)
  have HL := Lib.hid hal
  clear hrow hal
  obtain ⟨p1, p2⟩ := p
  simp only at *
  generalize shortB p1 = s1 at *
  generalize shortB p2 = s2 at *
  cases s1 with
  | true =>
    go_enter Tryz.func9, Tryz.ntmps9
    go_wp2_with fail
    refine (HA.out _).mono ?_
    rintro e w1 ⟨rfl, hb1⟩
    have c1 := (HR.out.below' hb1).cell (i := 1) rfl
    have hb1' := HL.out.trans (hb1.mono HL.out.size)
    go_wp2_with fail
    refine (HB.out _).mono ?_
    rintro e w2 ⟨rfl, hb2⟩
    go_wp2
    go_ret
    exact Ret.of rfl (Below.then hb1' hb2)
  | false =>
    go_enter Tryz.func9, Tryz.ntmps9
    go_wp2_with fail
    refine (HA.out _).mono ?_
    rintro e w1 ⟨rfl, hb1⟩
    have hb1' := HL.out.trans (hb1.mono HL.out.size)
    go_wp2
    go_ret
    exact Ret.of rfl hb1'
theorem neq_self (x : PT) (w : World) : (binOp .neq 24 (.agg #[.string (bs x.1), .string (bs x.2)]) (.agg #[.string (bs x.1), .string (bs x.2)])).run Tryz.prog w = .ok (.bool false) w := by
  have h := neq_pt x.1 x.1 x.2 x.2 w
  simpa using h
theorem checks_law (p : PT) (lo hi : Int) (w : World) (hg : Glob w) (h1 : p.1.length ≤ maxLen) (h2 : p.2.length ≤ maxLen) (hl : -9223372036854775808 ≤ lo ∧ lo ≤ 9223372036854775807) (hh : -9223372036854775808 ≤ hi ∧ hi ≤ 9223372036854775807) :
    Calls Tryz.prog 6 #[spV p, .int .i64 lo, .int .i64 hi] w (Ret w (.bool true)) := by
  have hrow := Row.new w 24 [.string (bs p.1), .string (bs p.2)]
  have hal := (Below.refl w.heap.size w).alloc (Nat.le_refl _) (.cells #[.string (bs p.1), .string (bs p.2)] 24)
  have HR := Lib.hid (And.intro hrow hal)
  have HG := Lib.hid hg
  have HAW := Lib.hid (fun W hW => awake W hW)
  have HSH := Lib.hid (fun W => rshort p W h1 h2)
  by_cases hs : (shortB p.1 && shortB p.2) = true
  · rw [hs] at HSH
    rw [Bool.and_eq_true] at hs
    obtain ⟨x, c, o1, o2⟩ := of_pair lo hi hl hh
    obtain ⟨y, d, o3, o4⟩ := width_pair p (Sht.of hs.1) (Sht.of hs.2)
    obtain ⟨z, f, o5, o6⟩ := middle_pair p (Sht.of hs.1) (Sht.of hs.2)
    have k1 := fun W hW => pcheck p W hW (Sht.of hs.1) (Sht.of hs.2)
    have k2 := fun W => rcheck p W (Sht.of hs.1) (Sht.of hs.2)
    have O1 := Lib.hid o1
    have O2 := Lib.hid o2
    have O3 := Lib.hid o3
    have O4 := Lib.hid o4
    have O5 := Lib.hid o5
    have O6 := Lib.hid o6
    have K1 := Lib.hid k1
    have K2 := Lib.hid k2
    generalize ((chkP p : Nat) : Int) = g at *
    clear hrow hal hg h1 h2 hs o1 o2 o3 o4 o5 o6 k1 k2 hl hh
    go_enter Tryz.func6, Tryz.ntmps6
    go_wp2_with fail
    refine (HSH.out _).mono ?_
    rintro e w1 ⟨rfl, hb1⟩
    have H1 := Lib.hid (And.intro (HR.out.1.below' hb1) (HR.out.2.trans (hb1.mono HR.out.2.size)))
    clear hb1 HR HSH
    go_wp2_with fail
    refine (O1.out _ (HG.out.of H1.out.2)).mono ?_
    rintro e w2 ⟨rfl, hb2⟩
    have k1 := H1.out.1.below' hb2
    have k3 := H1.out.2.trans (hb2.mono H1.out.2.size)
    have H2 := Lib.hid (And.intro (k1.alloc (.cells #[.string (bs x.1), .string (bs x.2)] 24)) (And.intro (Row.new w2 24 [.string (bs x.1), .string (bs x.2)]) (k3.alloc k3.size (.cells #[.string (bs x.1), .string (bs x.2)] 24))))
    clear hb2 k1 k3 H1 O1
    go_wp2_with fail
    refine (O2.out _).mono ?_
    rintro e w3 ⟨rfl, hb3⟩
    have k1 := H2.out.1.below' hb3
    have k2 := H2.out.2.1.below' hb3
    have k3 := H2.out.2.2.trans (hb3.mono H2.out.2.2.size)
    generalize w2.heap.size = b7 at *
    have H3 := Lib.hid (And.intro (k1.alloc (.cells #[.string (bs x.1), .string (bs x.2)] 24)) (And.intro (k2.alloc (.cells #[.string (bs x.1), .string (bs x.2)] 24)) (And.intro (Row.new w3 24 [.string (bs x.1), .string (bs x.2)]) (k3.alloc k3.size (.cells #[.string (bs x.1), .string (bs x.2)] 24)))))
    clear hb3 k1 k2 k3 H2 O2
    have a0 := H3.out.1.cell (i := 0) rfl
    have a1 := H3.out.1.cell (i := 1) rfl
    go_wp2_with fail
    refine (O3.out _ (HG.out.of H3.out.2.2.2)).mono ?_
    rintro e w4 ⟨rfl, hb4⟩
    have k1 := H3.out.1.below' hb4
    have k2 := H3.out.2.1.below' hb4
    have k4 := H3.out.2.2.1.below' hb4
    have k3 := H3.out.2.2.2.trans (hb4.mono H3.out.2.2.2.size)
    generalize w3.heap.size = b9 at *
    have H4 := Lib.hid (And.intro k1 (And.intro k2 (And.intro k4 k3)))
    clear hb4 k1 k2 k3 k4 H3 O3 a0 a1
    have a0 := H4.out.1.cell (i := 0) rfl
    have a1 := H4.out.1.cell (i := 1) rfl
    go_wp2_with fail
    refine (O4.out _).mono ?_
    rintro e w5 ⟨rfl, hb5⟩
    have k1 := H4.out.1.below' hb5
    have k2 := H4.out.2.1.below' hb5
    have k4 := H4.out.2.2.1.below' hb5
    have k3 := H4.out.2.2.2.trans (hb5.mono H4.out.2.2.2.size)
    clear hb5 H4 O4 a0 a1
    have c1 := reg_of (w := w5) (fun W hb => K1.out W (HG.out.of (k3.trans (hb.mono k3.size))))
    have c2 := reg_of (w := w5) (fun W _ => K2.out W)
    have m0 := cell_regrown (k1.cell (i := 0) rfl)
    have m1 := cell_regrown (k1.cell (i := 1) rfl)
    have m2 := cell_regrown (k2.cell (i := 0) rfl)
    have m3 := cell_regrown (k2.cell (i := 1) rfl)
    have m4 := cell_regrown (k4.cell (i := 0) rfl)
    have m5 := cell_regrown (k4.cell (i := 1) rfl)
    have e1 : ∀ args w, (callFunc 34 args).run Tryz.prog w = .ok (.enter 34 args) w := enters_of Tryz.func34 (by kernel_rfl) rfl
    have e2 : ∀ args w, (callFunc 35 args).run Tryz.prog w = .ok (.enter 35 args) w := enters_of Tryz.func35 (by kernel_rfl) rfl
    have n1 := fun w => neq_self x w
    have H5 := Lib.hid (And.intro k1 k3)
    clear k1 k2 k4 k3 K1 K2
    go_wp2
    refine wp_region_quiet_below (by kernel_rfl) (by kernel_rfl) ?_
    repeat (go_big_quiet_step (fail))
    go_big_quiet_step (exact c1 _ _)
    repeat (go_big_quiet_step (fail))
    go_big_quiet_step (exact c2 _ _)
    repeat (go_big_quiet_step (fail))
    refine wpQuiet_nil ?_
    intro W6 hw'
    have hb6 : Below w5.heap.size w5 W6 := by obtain ⟨p, e⟩ := hw'; rw [e]; exact below_regrown w5 p.d p.os
    have k1 := H5.out.1.below' hb6
    have k3 := H5.out.2.trans (hb6.mono H5.out.2.size)
    clear hw' c1 c2 m0 m1 m2 m3 m4 m5 e1 e2 n1 hb6 H5
    have H6 := Lib.hid (And.intro k1 k3)
    have a0 := k1.cell (i := 0) rfl
    have a1 := k1.cell (i := 1) rfl
    clear k1 k3
    go_wp2_with fail
    refine (O5.out _ (HG.out.of H6.out.2)).mono ?_
    rintro e w7 ⟨rfl, hb7⟩
    have k1 := H6.out.1.below' hb7
    have k3 := H6.out.2.trans (hb7.mono H6.out.2.size)
    have H7 := Lib.hid (And.intro k1 k3)
    have a2 := k1.cell (i := 0) rfl
    have a3 := k1.cell (i := 1) rfl
    clear k1 k3 H6 hb7 O5 a0 a1
    go_wp2_with fail
    refine (O6.out _).mono ?_
    rintro e w8 ⟨rfl, hb8⟩
    have hb8' := H7.out.2.trans (hb8.mono H7.out.2.size)
    clear hb8 H7 O6 a2 a3
    go_wp2_with fail
    refine (HAW.out _ (HG.out.of hb8')).mono ?_
    rintro e w9 ⟨rfl, hb9⟩
    have hb9' := hb8'.trans (hb9.mono hb8'.size)
    go_wp2
    go_ret
    exact Ret.of rfl hb9'
  · rw [Bool.not_eq_true] at hs
    rw [hs] at HSH
    clear hrow hal hg h1 h2 hs
    go_enter Tryz.func6, Tryz.ntmps6
    go_wp2_with fail
    refine (HSH.out _).mono ?_
    rintro e w1 ⟨rfl, hb1⟩
    have hb1' := HR.out.2.trans (hb1.mono HR.out.2.size)
    go_wp2_with fail
    refine (HAW.out _ (HG.out.of hb1')).mono ?_
    rintro e w2 ⟨rfl, hb2⟩
    go_wp2
    go_ret
    exact Ret.of rfl (Below.then hb1' hb2)
end W
end Go.Proofs.YtpjaoapnangccaaGreatDoor
namespace Go.Proofs.YtpjaoapnangccaaGreatDoor
open Go Go.RowKit Go.Deep Go.Sort
theorem store_two {W : World} {b : Nat} {x0 x1 : Value} (y0 y1 : Value) (hr : Row W b 24 [x0, x1]) :
    Row ((W.setCell ⟨b, 0, none⟩ y0).setCell ⟨b, 1, none⟩ y1) b 24 [y0, y1] ∧ (∀ (b2 : Nat) (t : TypeId) (xs : List Value), b2 ≠ b → Row W b2 t xs → Row ((W.setCell ⟨b, 0, none⟩ y0).setCell ⟨b, 1, none⟩ y1) b2 t xs) ∧
      ∀ (B : Nat) (a : World), B ≤ b → Below B a W → Below B a ((W.setCell ⟨b, 0, none⟩ y0).setCell ⟨b, 1, none⟩ y1) :=
  ⟨(hr.set 0 y0).set 1 y1, fun _ _ _ hne h => (h.other (a := ⟨b, 0, none⟩) hne _).other (a := ⟨b, 1, none⟩) hne _, fun _ _ hB h => (h.setCell (p := ⟨b, 0, none⟩) hB y0).setCell (p := ⟨b, 1, none⟩) hB y1⟩
namespace W
open M
attribute [local go_sem] bs_size bs_toList bs_get bs_extract bs_append bs_lit0 bs_lit1 lit1_bs
set_option maxHeartbeats 1000000
set_option maxRecDepth 20000
theorem eq_pt (a b s t : List UInt8) (w : World) : (binOp .eql 24 (.agg #[.string (bs a), .string (bs s)]) (.agg #[.string (bs b), .string (bs t)])).run Tryz.prog w = .ok (.bool (a == b && s == t)) w := by
  have hf : Tryz.prog.underlying 24 = some (.struct (Tryz.prog.fieldsOf 24)) := by unfold Program.fieldsOf; rw [Tryz.underlying24]
  rw [run_eql_struct, show (10000 : Nat) = 9999 + 1 from rfl, run_equalIn_agg w 9999 24 _ _ hf (by kernel_rfl)]
  unfold Program.fieldsOf
  rw [Tryz.underlying24]
  go_simp
  by_cases h1 : a = b <;> by_cases h2 : s = t <;> simp [h1, h2]
theorem eql_self (x : PT) (w : World) : (binOp .eql 24 (.agg #[.string (bs x.1), .string (bs x.2)]) (.agg #[.string (bs x.1), .string (bs x.2)])).run Tryz.prog w = .ok (.bool true) w := by
  have h := eq_pt x.1 x.1 x.2 x.2 w
  simpa using h
theorem combines_law (p q : PT) (k : List UInt8) (w : World) (hg : Glob w) (h1 : p.1.length ≤ maxLen) (h2 : p.2.length ≤ maxLen) (h3 : q.1.length ≤ maxLen) (h4 : q.2.length ≤ maxLen) (h5 : k.length ≤ maxLen) :
    Calls Tryz.prog 3 #[spV p, spV q, .string (bs k)] w (Ret w (.bool true)) := by
  have r3 : Row ((w.alloc (.cells #[.string (bs p.1), .string (bs p.2)] 24)).alloc (.cells #[.string (bs q.1), .string (bs q.2)] 24)) w.heap.size 24 [.string (bs p.1), .string (bs p.2)] := Row.alloc (rnew rfl rfl) _
  have r4 : Row ((w.alloc (.cells #[.string (bs p.1), .string (bs p.2)] 24)).alloc (.cells #[.string (bs q.1), .string (bs q.2)] 24)) (w.heap.size + 1) 24 [.string (bs q.1), .string (bs q.2)] := rnew (size1 _ _) rfl
  have hal : Below w.heap.size w ((w.alloc (.cells #[.string (bs p.1), .string (bs p.2)] 24)).alloc (.cells #[.string (bs q.1), .string (bs q.2)] 24)) := ((Below.refl _ _).alloc (Nat.le_refl _) _).alloc (by rw [size_alloc']; omega) _
  have H0 := Lib.hid (And.intro r3 (And.intro r4 hal))
  have HG := Lib.hid hg
  have HAW := Lib.hid (fun W hW => awake W hW)
  have HSA := Lib.hid (fun W => rshort p W h1 h2)
  have HSB := Lib.hid (fun W => rshort q W h3 h4)
  have HSK := Lib.hid (fun W => short_any k W (by unfold maxLen at h5; omega))
  clear r3 r4 hal hg h1 h2 h3 h4 h5
  by_cases hs : (shortB p.1 && shortB p.2) = true
  · have hs2 := hs
    rw [hs] at HSA
    rw [Bool.and_eq_true] at hs2
    by_cases ht : (shortB q.1 && shortB q.2) = true
    · have ht2 := ht
      rw [ht] at HSB
      rw [Bool.and_eq_true] at ht2
      by_cases hk : shortB k = true
      · rw [hk] at HSK
        have hL : ShtL [p, q] := by
          intro y hy
          simp only [List.mem_cons, List.not_mem_nil, or_false] at hy
          rcases hy with rfl | rfl
          · exact ⟨Sht.of hs2.1, Sht.of hs2.2⟩
          · exact ⟨Sht.of ht2.1, Sht.of ht2.2⟩
        obtain ⟨x, c, o1, o2⟩ := add_pair p q hL
        obtain ⟨y, d, o3, o4⟩ := sub_pair p q hL
        obtain ⟨z, e, o5, o6⟩ := scale_pair p k (Sht.of hs2.1) (Sht.of hs2.2) (Sht.of hk)
        have O1 := Lib.hid o1
        have O2 := Lib.hid o2
        have O3 := Lib.hid o3
        have O4 := Lib.hid o4
        have O5 := Lib.hid o5
        have O6 := Lib.hid o6
        clear hs ht hk hs2 ht2 hL o1 o2 o3 o4 o5 o6
        go_enter Tryz.func3, Tryz.ntmps3
        go_wp2_with fail
        refine (HSA.out _).mono ?_
        rintro e w1 ⟨rfl, hb1⟩
        have H1 := Lib.hid (And.intro (H0.out.1.below' hb1) (And.intro (H0.out.2.1.below' hb1) (H0.out.2.2.trans (hb1.mono H0.out.2.2.size))))
        clear hb1 H0
        have b0 := H1.out.2.1.cell (i := 0) rfl
        have b1 := H1.out.2.1.cell (i := 1) rfl
        go_wp2_with fail
        refine (HSB.out _).mono ?_
        rintro e w2 ⟨rfl, hb2⟩
        have H2 := Lib.hid (And.intro (H1.out.1.below' hb2) (And.intro (H1.out.2.1.below' hb2) (H1.out.2.2.trans (hb2.mono H1.out.2.2.size))))
        clear hb2 H1 b0 b1
        go_wp2_with fail
        refine (HSK.out _).mono ?_
        rintro e w3 ⟨rfl, hb3⟩
        have H3 := Lib.hid (And.intro (H2.out.1.below' hb3) (And.intro (H2.out.2.1.below' hb3) (H2.out.2.2.trans (hb3.mono H2.out.2.2.size))))
        clear hb3 H2
        -- Add
        have a0 := H3.out.1.cell (i := 0) rfl
        have a1 := H3.out.1.cell (i := 1) rfl
        have b0 := H3.out.2.1.cell (i := 0) rfl
        have b1 := H3.out.2.1.cell (i := 1) rfl
        go_wp2_with fail
        refine (O1.out _ (HG.out.of H3.out.2.2)).mono ?_
        rintro e w4 ⟨rfl, hb4⟩
        have k1 := H3.out.1.below' hb4
        have k2 := H3.out.2.1.below' hb4
        have k3 := H3.out.2.2.trans (hb4.mono H3.out.2.2.size)
        have H4 := Lib.hid (And.intro (k1.alloc (.cells #[.string (bs x.1), .string (bs x.2)] 24)) (And.intro (k2.alloc (.cells #[.string (bs x.1), .string (bs x.2)] 24)) (And.intro (Row.new w4 24 [.string (bs x.1), .string (bs x.2)]) (And.intro (k3.alloc k3.size (.cells #[.string (bs x.1), .string (bs x.2)] 24)) (And.intro k1.lt (And.intro k2.lt k3.size))))))
        clear hb4 k1 k2 k3 H3 O1 a0 a1 b0 b1
        have a0 := H4.out.1.cell (i := 0) rfl
        have a1 := H4.out.1.cell (i := 1) rfl
        have b0 := H4.out.2.1.cell (i := 0) rfl
        have b1 := H4.out.2.1.cell (i := 1) rfl
        go_wp2_with fail
        refine (O2.out _).mono ?_
        rintro e w5 ⟨rfl, hb5⟩
        have k1 := H4.out.1.below' hb5
        have k2 := H4.out.2.1.below' hb5
        have k4 := H4.out.2.2.1.below' hb5
        have k3 := H4.out.2.2.2.1.trans (hb5.mono H4.out.2.2.2.1.size)
        have HN := Lib.hid (And.intro H4.out.2.2.2.2.1 (And.intro H4.out.2.2.2.2.2.1 H4.out.2.2.2.2.2.2))
        generalize w4.heap.size = b7 at *
        have H5 := Lib.hid (And.intro (k1.alloc (.cells #[.string (bs x.1), .string (bs x.2)] 24)) (And.intro (k2.alloc (.cells #[.string (bs x.1), .string (bs x.2)] 24)) (And.intro (k4.alloc (.cells #[.string (bs x.1), .string (bs x.2)] 24)) (And.intro (Row.new w5 24 [.string (bs x.1), .string (bs x.2)]) (And.intro (k3.alloc k3.size (.cells #[.string (bs x.1), .string (bs x.2)] 24)) (And.intro k1.lt (And.intro k2.lt (And.intro k4.lt k3.size))))))))
        clear hb5 k1 k2 k3 k4 H4 O2 a0 a1 b0 b1
        have n1 := fun w => neq_self x w
        have a0 := H5.out.1.cell (i := 0) rfl
        have a1 := H5.out.1.cell (i := 1) rfl
        have b0 := H5.out.2.1.cell (i := 0) rfl
        have b1 := H5.out.2.1.cell (i := 1) rfl
        have d0 := H5.out.2.2.1.cell (i := 0) rfl
        have d1 := H5.out.2.2.1.cell (i := 1) rfl
        go_wp2_with fail
        refine (O3.out _ (HG.out.of H5.out.2.2.2.2.1)).mono ?_
        rintro e w6 ⟨rfl, hb6⟩
        have k1 := H5.out.1.below' hb6
        have k2 := H5.out.2.1.below' hb6
        have k4 := H5.out.2.2.1.below' hb6
        have k5 := H5.out.2.2.2.1.below' hb6
        have k3 := H5.out.2.2.2.2.1.trans (hb6.mono H5.out.2.2.2.2.1.size)
        have HM := Lib.hid H5.out.2.2.2.2.2
        generalize w5.heap.size = b9 at *
        clear hb6 H5 O3 a0 a1 b0 b1 d0 d1 n1
        obtain ⟨s1, s2, s3⟩ := store_two (.string (bs y.1)) (.string (bs y.2)) k4
        have f0 := k4.free 0
        have f1 := (k4.set 0 (.string (bs y.1))).free 1
        have c0 := k4.cell (i := 0) rfl
        have c1 := (k4.set 0 (.string (bs y.1))).cell (i := 1) rfl
        have H6 := Lib.hid (And.intro (s2 _ _ _ (Nat.ne_of_lt HN.out.1) k1) (And.intro (s2 _ _ _ (Nat.ne_of_lt HN.out.2.1) k2) (And.intro s1 (And.intro (s2 _ _ _ (fun e => Nat.ne_of_lt HM.out.2.2.1 e.symm) k5) (s3 _ _ HN.out.2.2 k3)))))
        clear k1 k2 k3 k4 k5 s1 s2 s3
        have a0 := H6.out.1.cell (i := 0) rfl
        have a1 := H6.out.1.cell (i := 1) rfl
        have b0 := H6.out.2.1.cell (i := 0) rfl
        have b1 := H6.out.2.1.cell (i := 1) rfl
        go_wp2_with fail
        refine (O4.out _).mono ?_
        rintro e w7 ⟨rfl, hb7⟩
        have k1 := H6.out.1.below' hb7
        have k2 := H6.out.2.1.below' hb7
        have k4 := H6.out.2.2.1.below' hb7
        have k5 := H6.out.2.2.2.1.below' hb7
        have k3 := H6.out.2.2.2.2.trans (hb7.mono H6.out.2.2.2.2.size)
        clear hb7 H6 O4 a0 a1 b0 b1 f0 f1 c0 c1
        obtain ⟨s1, s2, s3⟩ := store_two (.string (bs y.1)) (.string (bs y.2)) k5
        have f0 := k5.free 0
        have f1 := (k5.set 0 (.string (bs y.1))).free 1
        have c0 := k5.cell (i := 0) rfl
        have c1 := (k5.set 0 (.string (bs y.1))).cell (i := 1) rfl
        have H7 := Lib.hid (And.intro (s2 _ _ _ (Nat.ne_of_lt HM.out.1) k1) (And.intro (s2 _ _ _ (Nat.ne_of_lt HM.out.2.1) k2) (And.intro (s2 _ _ _ (Nat.ne_of_lt HM.out.2.2.1) k4) (And.intro s1 (s3 _ _ HM.out.2.2.2 k3)))))
        clear k1 k2 k3 k4 k5 s1 s2 s3
        have a0 := H7.out.1.cell (i := 0) rfl
        have a1 := H7.out.1.cell (i := 1) rfl
        have d0 := H7.out.2.2.1.cell (i := 0) rfl
        have d1 := H7.out.2.2.1.cell (i := 1) rfl
        have e0 := H7.out.2.2.2.1.cell (i := 0) rfl
        have e1 := H7.out.2.2.2.1.cell (i := 1) rfl
        have n1 := fun w => neq_self y w
        go_wp2_with fail
        refine (O5.out _ (HG.out.of H7.out.2.2.2.2)).mono ?_
        rintro e w8 ⟨rfl, hb8⟩
        have k1 := H7.out.1.below' hb8
        have k2 := H7.out.2.1.below' hb8
        have k4 := H7.out.2.2.1.below' hb8
        have k5 := H7.out.2.2.2.1.below' hb8
        have k3 := H7.out.2.2.2.2.trans (hb8.mono H7.out.2.2.2.2.size)
        clear hb8 H7 O5 a0 a1 d0 d1 e0 e1 n1 f0 f1 c0 c1
        obtain ⟨s1, s2, s3⟩ := store_two (.string (bs z.1)) (.string (bs z.2)) k4
        have f0 := k4.free 0
        have f1 := (k4.set 0 (.string (bs z.1))).free 1
        have c0 := k4.cell (i := 0) rfl
        have c1 := (k4.set 0 (.string (bs z.1))).cell (i := 1) rfl
        have H8 := Lib.hid (And.intro (s2 _ _ _ (Nat.ne_of_lt HN.out.1) k1) (And.intro (s2 _ _ _ (Nat.ne_of_lt HN.out.2.1) k2) (And.intro s1 (And.intro (s2 _ _ _ (fun e => Nat.ne_of_lt HM.out.2.2.1 e.symm) k5) (s3 _ _ HN.out.2.2 k3)))))
        clear k1 k2 k3 k4 k5 s1 s2 s3
        have a0 := H8.out.1.cell (i := 0) rfl
        have a1 := H8.out.1.cell (i := 1) rfl
        go_wp2_with fail
        refine (O6.out _).mono ?_
        rintro e w9 ⟨rfl, hb9⟩
        have k1 := H8.out.1.below' hb9
        have k2 := H8.out.2.1.below' hb9
        have k4 := H8.out.2.2.1.below' hb9
        have k5 := H8.out.2.2.2.1.below' hb9
        have k3 := H8.out.2.2.2.2.trans (hb9.mono H8.out.2.2.2.2.size)
        clear hb9 H8 O6 a0 a1 f0 f1 c0 c1
        obtain ⟨s1, s2, s3⟩ := store_two (.string (bs z.1)) (.string (bs z.2)) k5
        have f0 := k5.free 0
        have f1 := (k5.set 0 (.string (bs z.1))).free 1
        have c0 := k5.cell (i := 0) rfl
        have c1 := (k5.set 0 (.string (bs z.1))).cell (i := 1) rfl
        have H9 := Lib.hid (And.intro (s2 _ _ _ (Nat.ne_of_lt HM.out.1) k1) (And.intro (s2 _ _ _ (Nat.ne_of_lt HM.out.2.1) k2) (And.intro (s2 _ _ _ (Nat.ne_of_lt HM.out.2.2.1) k4) (And.intro s1 (s3 _ _ HM.out.2.2.2 k3)))))
        clear k1 k2 k3 k4 k5 s1 s2 s3
        have a0 := H9.out.1.cell (i := 0) rfl
        have a1 := H9.out.1.cell (i := 1) rfl
        have d0 := H9.out.2.2.1.cell (i := 0) rfl
        have d1 := H9.out.2.2.1.cell (i := 1) rfl
        have e0 := H9.out.2.2.2.1.cell (i := 0) rfl
        have e1 := H9.out.2.2.2.1.cell (i := 1) rfl
        have n1 := fun w => eql_self z w
        go_wp2_with fail
        refine (HAW.out _ (HG.out.of H9.out.2.2.2.2)).mono ?_
        rintro e w10 ⟨rfl, hb10⟩
        have hbz := H9.out.2.2.2.2.trans (hb10.mono H9.out.2.2.2.2.size)
        go_wp2
        go_ret
        exact Ret.of rfl hbz
      · rw [Bool.not_eq_true] at hk
        rw [hk] at HSK
        clear hs ht hk hs2 ht2
        go_enter Tryz.func3, Tryz.ntmps3
        go_wp2_with fail
        refine (HSA.out _).mono ?_
        rintro e w1 ⟨rfl, hb1⟩
        have H1 := Lib.hid (And.intro (H0.out.2.1.below' hb1) (H0.out.2.2.trans (hb1.mono H0.out.2.2.size)))
        clear hb1
        have b0 := H1.out.1.cell (i := 0) rfl
        have b1 := H1.out.1.cell (i := 1) rfl
        go_wp2_with fail
        refine (HSB.out _).mono ?_
        rintro e w2 ⟨rfl, hb2⟩
        have hb2' := H1.out.2.trans (hb2.mono H1.out.2.size)
        clear hb2 b0 b1
        go_wp2_with fail
        refine (HSK.out _).mono ?_
        rintro e w3 ⟨rfl, hb3⟩
        have hb3' := hb2'.trans (hb3.mono hb2'.size)
        clear hb3 hb2'
        go_wp2_with fail
        refine (HAW.out _ (HG.out.of hb3')).mono ?_
        rintro e w4 ⟨rfl, hb4⟩
        have hbz := hb3'.trans (hb4.mono hb3'.size)
        go_wp2
        go_ret
        exact Ret.of rfl hbz
    · rw [Bool.not_eq_true] at ht
      rw [ht] at HSB
      clear hs ht hs2
      go_enter Tryz.func3, Tryz.ntmps3
      go_wp2_with fail
      refine (HSA.out _).mono ?_
      rintro e w1 ⟨rfl, hb1⟩
      have H1 := Lib.hid (And.intro (H0.out.2.1.below' hb1) (H0.out.2.2.trans (hb1.mono H0.out.2.2.size)))
      clear hb1
      have b0 := H1.out.1.cell (i := 0) rfl
      have b1 := H1.out.1.cell (i := 1) rfl
      go_wp2_with fail
      refine (HSB.out _).mono ?_
      rintro e w2 ⟨rfl, hb2⟩
      have hb2' := H1.out.2.trans (hb2.mono H1.out.2.size)
      clear hb2 b0 b1
      go_wp2_with fail
      refine (HAW.out _ (HG.out.of hb2')).mono ?_
      rintro e w4 ⟨rfl, hb4⟩
      have hbz := hb2'.trans (hb4.mono hb2'.size)
      go_wp2
      go_ret
      exact Ret.of rfl hbz
  · rw [Bool.not_eq_true] at hs
    rw [hs] at HSA
    clear hs
    go_enter Tryz.func3, Tryz.ntmps3
    go_wp2_with fail
    refine (HSA.out _).mono ?_
    rintro e w1 ⟨rfl, hb1⟩
    have hb1' := H0.out.2.2.trans (hb1.mono H0.out.2.2.size)
    clear hb1
    go_wp2_with fail
    refine (HAW.out _ (HG.out.of hb1')).mono ?_
    rintro e w4 ⟨rfl, hb4⟩
    have hbz := hb1'.trans (hb4.mono hb1'.size)
    go_wp2
    go_ret
    exact Ret.of rfl hbz
end W
end Go.Proofs.YtpjaoapnangccaaGreatDoor
