/-
  Chapter 3 of the program: 'Add', 'Sub' and 'Scale'.
  Chapter 3 of the program: 'Scale'.
-/
import Derived.Test.YtpjaoapnangccaaGreatDoorKI
namespace Go.Proofs.YtpjaoapnangccaaGreatDoor
open Go Go.RowKit Go.Deep Go.Sort
namespace W
open M
attribute [local go_sem] bs_size bs_toList bs_get bs_extract bs_append bs_lit0 bs_lit1 lit1_bs
set_option maxHeartbeats 4000000
set_option maxRecDepth 20000
/-- What lies in memory where two spans have come in and a result is laid. -/
theorem boxes (w : World) (p q : PT) : ∃ W, (((w.alloc (.cells #[.string (bs p.1), .string (bs p.2)] 24 (0, 0))).alloc (.cells #[.string (bs q.1), .string (bs q.2)] 24 (0, 0))).alloc (.cells #[.string ⟨#[]⟩, .string ⟨#[]⟩] 24 (0, 0))) = W ∧
    Row W w.heap.size 24 [.string (bs p.1), .string (bs p.2)] ∧ Row W (w.heap.size + 1) 24 [.string (bs q.1), .string (bs q.2)] ∧ Row W (w.heap.size + 1 + 1) 24 [.string ⟨#[]⟩, .string ⟨#[]⟩] ∧
    W.heap.size = w.heap.size + 1 + 1 + 1 ∧ Below w.heap.size w W := by
  refine ⟨_, rfl, ?_, ?_, ?_, by simp, ?_⟩
  · exact ((Row.new w 24 [.string (bs p.1), .string (bs p.2)]).alloc _).alloc _
  · have := (Row.new (w.alloc (.cells #[.string (bs p.1), .string (bs p.2)] 24 (0, 0))) 24 [.string (bs q.1), .string (bs q.2)]).alloc (.cells #[.string ⟨#[]⟩, .string ⟨#[]⟩] 24 (0, 0))
    rwa [World.size_alloc] at this
  · have := Row.new ((w.alloc (.cells #[.string (bs p.1), .string (bs p.2)] 24 (0, 0))).alloc (.cells #[.string (bs q.1), .string (bs q.2)] 24 (0, 0))) 24 [.string ⟨#[]⟩, .string ⟨#[]⟩]
    rwa [World.size_alloc, World.size_alloc] at this
  · exact (((Below.refl _ w).alloc (Nat.le_refl _) _).alloc (by simp) _).alloc (by simp; omega) _
/-- The two spans in a row are checked. -/
theorem pchecks2 (p q : PT) (W : World) (hg : Glob W) (hs : ShtL [p, q]) :
    Calls Tryz.prog 45 #[.slice (some ⟨W.heap.size, 0, none⟩) 2 2] (W.alloc (.cells #[.string (bs p.1), .string (bs p.2), .string (bs q.1), .string (bs q.2)] 24 (0, 0))) (Ret (W.alloc (.cells #[.string (bs p.1), .string (bs p.2), .string (bs q.1), .string (bs q.2)] 24 (0, 0))) (.int .i64 ((chkL [p, q] : Nat) : Int))) :=
  pchecks [p, q] W.heap.size 0 2 _ (hg.of ((Below.refl _ _).alloc (Nat.le_refl _) _)) (PSl.new W [p, q] _ rfl) hs (by simp)
theorem padd_bad (p q : PT) (w : World) (hg : Glob w) (hs : ShtL [p, q]) (h : chkL [p, q] ≠ 0) :
    Calls Tryz.prog 12 #[spV p, spV q] w (Ret w (spR ([], []) ((chkL [p, q] : Nat) : Int))) := by
  obtain ⟨W, hW, r0, r1, r2, hsz, hbW⟩ := boxes w p q
  have HC := Lib.hid (pchecks2 p q W (hg.of hbW) hs)
  have hz : (((chkL [p, q] : Nat) : Int) != 0) = true := by simp; exact h
  have HR := Lib.hid (r2.alloc (.cells #[.string (bs p.1), .string (bs p.2), .string (bs q.1), .string (bs q.2)] 24 (0, 0)))
  have HB := Lib.hid (hbW.alloc hbW.size (.cells #[.string (bs p.1), .string (bs p.2), .string (bs q.1), .string (bs q.2)] 24 (0, 0)))
  have HW := Lib.hid hW
  clear r0 r1 r2 hbW hs h hW
  generalize ((chkL [p, q] : Nat) : Int) = c at *
  go_enter Tryz.func12, Tryz.ntmps12
  go_wp2_with fail
  rw [HW.out]
  rw [hsz] at HC
  refine HC.out.mono ?_
  rintro e w1 ⟨rfl, hb1⟩
  have hr := HR.out.below' hb1
  have f0 := hr.free 0
  have f1 := (hr.set 0 (.string ⟨#[]⟩)).free 1
  have c0 := hr.cell (i := 0) rfl
  have c1 := (hr.set 0 (.string ⟨#[]⟩)).cell (i := 1) rfl
  have hbz := HB.out.trans (hb1.mono HB.out.size)
  obtain ⟨q0, q1, q2⟩ := span_store (w0 := w) (.string ⟨#[]⟩) (.string ⟨#[]⟩) hr (by omega) hbz
  have HQ := Lib.hid q2
  clear hbz hr q2 hb1
  go_wp2
  refine bodyPost_ret (v := spR ([], []) c) (by simp [results, Tryz.results12, go_sem, q0, q1]; rfl) rfl ⟨rfl, HQ.out⟩
theorem padd_ok (a b : SQ) (w : World) (hg : Glob w) (ha : SpB 30 a) (hb : SpB 30 b) :
    Calls Tryz.prog 12 #[spV (R a.1, R a.2), spV (R b.1, R b.2)] w (Ret w (spR (R (a.1 + b.1), R (a.2 + b.2)) 0)) := by
  obtain ⟨W, hW, r0, r1, r2, hsz, hbW⟩ := boxes w (R a.1, R a.2) (R b.1, R b.2)
  have hs : ShtL [(R a.1, R a.2), (R b.1, R b.2)] := by
    intro x hx
    simp only [List.mem_cons, List.not_mem_nil, or_false] at hx
    rcases hx with rfl | rfl
    · exact ⟨Sht.R ha.2.1, Sht.R ha.2.2⟩
    · exact ⟨Sht.R hb.2.1, Sht.R hb.2.2⟩
  have hc := pchecks2 (R a.1, R a.2) (R b.1, R b.2) W (hg.of hbW) hs
  rw [show chkL [(R a.1, R a.2), (R b.1, R b.2)] = 0 from chkL_sx (zl := [a, b]) (fun x hx => by
    simp only [List.mem_cons, List.not_mem_nil, or_false] at hx
    rcases hx with rfl | rfl
    · exact ha
    · exact hb)] at hc
  have HC := Lib.hid hc
  have H1 := Lib.hid (fun wx hgx => ratAdd a.1 b.1 30 30 wx hgx ha.2.1 hb.2.1 (by decide))
  have H2 := Lib.hid (fun wx hgx => ratAdd a.2 b.2 30 30 wx hgx ha.2.2 hb.2.2 (by decide))
  simp only at r0 r1 hW hc HC
  have HR := Lib.hid (And.intro (r0.alloc (.cells #[.string (bs (R a.1)), .string (bs (R a.2)), .string (bs (R b.1)), .string (bs (R b.2))] 24 (0, 0))) (And.intro (r1.alloc (.cells #[.string (bs (R a.1)), .string (bs (R a.2)), .string (bs (R b.1)), .string (bs (R b.2))] 24 (0, 0))) (r2.alloc (.cells #[.string (bs (R a.1)), .string (bs (R a.2)), .string (bs (R b.1)), .string (bs (R b.2))] 24 (0, 0)))))
  have HB := Lib.hid (hbW.alloc hbW.size (.cells #[.string (bs (R a.1)), .string (bs (R a.2)), .string (bs (R b.1)), .string (bs (R b.2))] 24 (0, 0)))
  have HW := Lib.hid hW
  clear r0 r1 r2 hbW hs hW ha hb hc
  generalize R (a.1 + b.1) = s1 at *
  generalize R (a.2 + b.2) = s2 at *
  generalize R a.1 = x1 at *
  generalize R a.2 = x2 at *
  generalize R b.1 = y1 at *
  generalize R b.2 = y2 at *
  go_enter Tryz.func12, Tryz.ntmps12
  go_wp2_with fail
  rw [HW.out]
  rw [hsz] at HC
  refine HC.out.mono ?_
  rintro e w1 ⟨rfl, hb1⟩
  have hbz := HB.out.trans (hb1.mono HB.out.size)
  have hA := Row.new w1 74 [.int .i64 0]
  have k0 := (HR.out.1.below' hb1).alloc (.cells #[.int .i64 0] 74 (0, 0))
  have k1 := (HR.out.2.1.below' hb1).alloc (.cells #[.int .i64 0] 74 (0, 0))
  have k2 := (HR.out.2.2.below' hb1).alloc (.cells #[.int .i64 0] 74 (0, 0))
  have hbz2 := hbz.alloc hbz.size (.cells #[.int .i64 0] 74 (0, 0))
  have hS1 : w.heap.size ≤ w1.heap.size := hbz.size
  go_wp2
  obtain ⟨W5, hW5⟩ : ∃ W5, w1.alloc (.cells #[.int .i64 0] 74 (0, 0)) = W5 := ⟨_, rfl⟩
  rw [show ([Value.int .i64 0].toArray) = #[.int .i64 0] from rfl, hW5] at hA
  rw [hW5] at k0 k1 k2 hbz2 ⊢
  clear hW5 hb1 hbz HC HW HB HR
  generalize w1.heap.size = S at *
  have hno : NoErI W5 S := hA
  have c1 := reg_of (w := W5) (fun W hb => H1.out W (hg.of (hbz2.trans (hb.mono hbz2.size))))
  have c2 := reg_of (w := W5) (fun W hb => H2.out W (hg.of (hbz2.trans (hb.mono hbz2.size))))
  have c3 := reg_of (w := W5) (fun W hb => sof_ok S s1 W (hno.below' hb))
  have c4 := reg_of (w := W5) (fun W hb => sof_ok S s2 W (hno.below' hb))
  have m0 := cell_regrown (k0.cell (i := 0) rfl)
  have m1 := cell_regrown (k0.cell (i := 1) rfl)
  have m2 := cell_regrown (k1.cell (i := 0) rfl)
  have m3 := cell_regrown (k1.cell (i := 1) rfl)
  have e1 : ∀ args w, (callFunc 29 args).run Tryz.prog w = .ok (.enter 29 args) w := enters_of Tryz.func29 (by kernel_rfl) rfl
  have e2 : ∀ args w, (callFunc 46 args).run Tryz.prog w = .ok (.enter 46 args) w := enters_of Tryz.func46 (by kernel_rfl) rfl
  have HK2 := Lib.hid (And.intro k2 (And.intro hno hbz2))
  clear k0 k1 k2 hno hA hbz2 H1 H2
  refine wp_region_quiet_below (by kernel_rfl) (by kernel_rfl) ?_
  repeat (quiet_step (fail))
  quiet_step (exact c1 _ _)
  repeat (quiet_step (fail))
  quiet_step (exact c3 _ _)
  repeat (quiet_step (fail))
  quiet_step (exact c2 _ _)
  repeat (quiet_step (fail))
  quiet_step (exact c4 _ _)
  repeat (quiet_step (fail))
  refine wpQuiet_nil ?_
  intro W6 hw'
  have hb6 : Below W5.heap.size W5 W6 := by obtain ⟨p, e⟩ := hw'; rw [e]; exact below_regrown W5 p.d p.os
  clear hw' c1 c2 c3 c4 m0 m1 m2 m3 e1 e2
  have hno6 := HK2.out.2.1.below' hb6
  have hr6 := HK2.out.1.below' hb6
  have hbz6 := HK2.out.2.2.trans (hb6.mono HK2.out.2.2.size)
  go_wp2_with fail
  refine (sspan_ok S (s1, s2) _ hno6).mono ?_
  rintro e w7 ⟨rfl, hb7⟩
  have hr := hr6.below' hb7
  have hbz := hbz6.trans (hb7.mono hbz6.size)
  have f0 := hr.free 0
  have f1 := (hr.set 0 (.string (bs s1))).free 1
  have c0 := hr.cell (i := 0) rfl
  have c1 := (hr.set 0 (.string (bs s1))).cell (i := 1) rfl
  obtain ⟨q0, q1, q2⟩ := span_store (w0 := w) (.string (bs s1)) (.string (bs s2)) hr (by omega) hbz
  have HQ := Lib.hid q2
  clear hbz hr q2 hb7 hbz6 hr6 hno6 hb6 HK2
  go_wp2
  refine bodyPost_ret (v := spR (s1, s2) 0) (by simp [results, Tryz.results12, go_sem, q0, q1]) rfl ⟨rfl, HQ.out⟩
theorem psub_bad (p q : PT) (w : World) (hg : Glob w) (hs : ShtL [p, q]) (h : chkL [p, q] ≠ 0) :
    Calls Tryz.prog 14 #[spV p, spV q] w (Ret w (spR ([], []) ((chkL [p, q] : Nat) : Int))) := by
  obtain ⟨W, hW, r0, r1, r2, hsz, hbW⟩ := boxes w p q
  have HC := Lib.hid (pchecks2 p q W (hg.of hbW) hs)
  have hz : (((chkL [p, q] : Nat) : Int) != 0) = true := by simp; exact h
  have HR := Lib.hid (r2.alloc (.cells #[.string (bs p.1), .string (bs p.2), .string (bs q.1), .string (bs q.2)] 24 (0, 0)))
  have HB := Lib.hid (hbW.alloc hbW.size (.cells #[.string (bs p.1), .string (bs p.2), .string (bs q.1), .string (bs q.2)] 24 (0, 0)))
  have HW := Lib.hid hW
  clear r0 r1 r2 hbW hs h hW
  generalize ((chkL [p, q] : Nat) : Int) = c at *
  go_enter Tryz.func14, Tryz.ntmps14
  go_wp2_with fail
  rw [HW.out]
  rw [hsz] at HC
  refine HC.out.mono ?_
  rintro e w1 ⟨rfl, hb1⟩
  have hr := HR.out.below' hb1
  have f0 := hr.free 0
  have f1 := (hr.set 0 (.string ⟨#[]⟩)).free 1
  have c0 := hr.cell (i := 0) rfl
  have c1 := (hr.set 0 (.string ⟨#[]⟩)).cell (i := 1) rfl
  have hbz := HB.out.trans (hb1.mono HB.out.size)
  obtain ⟨q0, q1, q2⟩ := span_store (w0 := w) (.string ⟨#[]⟩) (.string ⟨#[]⟩) hr (by omega) hbz
  have HQ := Lib.hid q2
  clear hbz hr q2 hb1
  go_wp2
  refine bodyPost_ret (v := spR ([], []) c) (by simp [results, Tryz.results14, go_sem, q0, q1]; rfl) rfl ⟨rfl, HQ.out⟩
theorem psub_ok (a b : SQ) (w : World) (hg : Glob w) (ha : SpB 30 a) (hb : SpB 30 b) :
    Calls Tryz.prog 14 #[spV (R a.1, R a.2), spV (R b.1, R b.2)] w (Ret w (spR (R (a.1 - b.2), R (a.2 - b.1)) 0)) := by
  obtain ⟨W, hW, r0, r1, r2, hsz, hbW⟩ := boxes w (R a.1, R a.2) (R b.1, R b.2)
  have hs : ShtL [(R a.1, R a.2), (R b.1, R b.2)] := by
    intro x hx
    simp only [List.mem_cons, List.not_mem_nil, or_false] at hx
    rcases hx with rfl | rfl
    · exact ⟨Sht.R ha.2.1, Sht.R ha.2.2⟩
    · exact ⟨Sht.R hb.2.1, Sht.R hb.2.2⟩
  have hc := pchecks2 (R a.1, R a.2) (R b.1, R b.2) W (hg.of hbW) hs
  rw [show chkL [(R a.1, R a.2), (R b.1, R b.2)] = 0 from chkL_sx (zl := [a, b]) (fun x hx => by
    simp only [List.mem_cons, List.not_mem_nil, or_false] at hx
    rcases hx with rfl | rfl
    · exact ha
    · exact hb)] at hc
  have HC := Lib.hid hc
  have H1 := Lib.hid (fun wx hgx => ratSub a.1 b.2 30 30 wx hgx ha.2.1 hb.2.2 (by decide))
  have H2 := Lib.hid (fun wx hgx => ratSub a.2 b.1 30 30 wx hgx ha.2.2 hb.2.1 (by decide))
  simp only at r0 r1 hW hc HC
  have HR := Lib.hid (And.intro (r0.alloc (.cells #[.string (bs (R a.1)), .string (bs (R a.2)), .string (bs (R b.1)), .string (bs (R b.2))] 24 (0, 0))) (And.intro (r1.alloc (.cells #[.string (bs (R a.1)), .string (bs (R a.2)), .string (bs (R b.1)), .string (bs (R b.2))] 24 (0, 0))) (r2.alloc (.cells #[.string (bs (R a.1)), .string (bs (R a.2)), .string (bs (R b.1)), .string (bs (R b.2))] 24 (0, 0)))))
  have HB := Lib.hid (hbW.alloc hbW.size (.cells #[.string (bs (R a.1)), .string (bs (R a.2)), .string (bs (R b.1)), .string (bs (R b.2))] 24 (0, 0)))
  have HW := Lib.hid hW
  clear r0 r1 r2 hbW hs hW ha hb hc
  generalize R (a.1 - b.2) = s1 at *
  generalize R (a.2 - b.1) = s2 at *
  generalize R a.1 = x1 at *
  generalize R a.2 = x2 at *
  generalize R b.1 = y1 at *
  generalize R b.2 = y2 at *
  go_enter Tryz.func14, Tryz.ntmps14
  go_wp2_with fail
  rw [HW.out]
  rw [hsz] at HC
  refine HC.out.mono ?_
  rintro e w1 ⟨rfl, hb1⟩
  have hbz := HB.out.trans (hb1.mono HB.out.size)
  have hA := Row.new w1 74 [.int .i64 0]
  have k0 := (HR.out.1.below' hb1).alloc (.cells #[.int .i64 0] 74 (0, 0))
  have k1 := (HR.out.2.1.below' hb1).alloc (.cells #[.int .i64 0] 74 (0, 0))
  have k2 := (HR.out.2.2.below' hb1).alloc (.cells #[.int .i64 0] 74 (0, 0))
  have hbz2 := hbz.alloc hbz.size (.cells #[.int .i64 0] 74 (0, 0))
  have hS1 : w.heap.size ≤ w1.heap.size := hbz.size
  go_wp2
  obtain ⟨W5, hW5⟩ : ∃ W5, w1.alloc (.cells #[.int .i64 0] 74 (0, 0)) = W5 := ⟨_, rfl⟩
  rw [show ([Value.int .i64 0].toArray) = #[.int .i64 0] from rfl, hW5] at hA
  rw [hW5] at k0 k1 k2 hbz2 ⊢
  clear hW5 hb1 hbz HC HW HB HR
  generalize w1.heap.size = S at *
  have hno : NoErI W5 S := hA
  have c1 := reg_of (w := W5) (fun W hb => H1.out W (hg.of (hbz2.trans (hb.mono hbz2.size))))
  have c2 := reg_of (w := W5) (fun W hb => H2.out W (hg.of (hbz2.trans (hb.mono hbz2.size))))
  have c3 := reg_of (w := W5) (fun W hb => sof_ok S s1 W (hno.below' hb))
  have c4 := reg_of (w := W5) (fun W hb => sof_ok S s2 W (hno.below' hb))
  have m0 := cell_regrown (k0.cell (i := 0) rfl)
  have m1 := cell_regrown (k0.cell (i := 1) rfl)
  have m2 := cell_regrown (k1.cell (i := 0) rfl)
  have m3 := cell_regrown (k1.cell (i := 1) rfl)
  have e1 : ∀ args w, (callFunc 51 args).run Tryz.prog w = .ok (.enter 51 args) w := enters_of Tryz.func51 (by kernel_rfl) rfl
  have e2 : ∀ args w, (callFunc 46 args).run Tryz.prog w = .ok (.enter 46 args) w := enters_of Tryz.func46 (by kernel_rfl) rfl
  have HK2 := Lib.hid (And.intro k2 (And.intro hno hbz2))
  clear k0 k1 k2 hno hA hbz2 H1 H2
  refine wp_region_quiet_below (by kernel_rfl) (by kernel_rfl) ?_
  repeat (quiet_step (fail))
  quiet_step (exact c1 _ _)
  repeat (quiet_step (fail))
  quiet_step (exact c3 _ _)
  repeat (quiet_step (fail))
  quiet_step (exact c2 _ _)
  repeat (quiet_step (fail))
  quiet_step (exact c4 _ _)
  repeat (quiet_step (fail))
  refine wpQuiet_nil ?_
  intro W6 hw'
  have hb6 : Below W5.heap.size W5 W6 := by obtain ⟨p, e⟩ := hw'; rw [e]; exact below_regrown W5 p.d p.os
  clear hw' c1 c2 c3 c4 m0 m1 m2 m3 e1 e2
  have hno6 := HK2.out.2.1.below' hb6
  have hr6 := HK2.out.1.below' hb6
  have hbz6 := HK2.out.2.2.trans (hb6.mono HK2.out.2.2.size)
  go_wp2_with fail
  refine (sspan_ok S (s1, s2) _ hno6).mono ?_
  rintro e w7 ⟨rfl, hb7⟩
  have hr := hr6.below' hb7
  have hbz := hbz6.trans (hb7.mono hbz6.size)
  have f0 := hr.free 0
  have f1 := (hr.set 0 (.string (bs s1))).free 1
  have c0 := hr.cell (i := 0) rfl
  have c1 := (hr.set 0 (.string (bs s1))).cell (i := 1) rfl
  obtain ⟨q0, q1, q2⟩ := span_store (w0 := w) (.string (bs s1)) (.string (bs s2)) hr (by omega) hbz
  have HQ := Lib.hid q2
  clear hbz hr q2 hb7 hbz6 hr6 hno6 hb6 HK2
  go_wp2
  refine bodyPost_ret (v := spR (s1, s2) 0) (by simp [results, Tryz.results14, go_sem, q0, q1]) rfl ⟨rfl, HQ.out⟩
end W
end Go.Proofs.YtpjaoapnangccaaGreatDoor
namespace Go.Proofs.YtpjaoapnangccaaGreatDoor
open Go Go.RowKit Go.Deep Go.Sort
namespace M
theorem num_sign (q : Rat) : Int.sign q.num = cmpQ q 0 := by
  unfold cmpQ
  have h1 : (0 : Rat).num = 0 := rfl
  have h2 : (0 : Rat).den = 1 := rfl
  rw [h1, h2]; simp
/-- A span times a number. -/
def sclQ (a : SQ) (q : Rat) : SQ := if q < 0 then (a.2 * q, a.1 * q) else (a.1 * q, a.2 * q)
theorem sign_lt (q : Rat) : Int.sign q.num < 0 ↔ q < 0 := by rw [num_sign]; exact cmpQ_lt
end M
namespace W
open M
attribute [local go_sem] bs_size bs_toList bs_get bs_extract bs_append bs_lit0 bs_lit1 lit1_bs
set_option maxHeartbeats 4000000
set_option maxRecDepth 20000
theorem boxes2 (w : World) (p : PT) : ∃ W, ((w.alloc (.cells #[.string (bs p.1), .string (bs p.2)] 24 (0, 0))).alloc (.cells #[.string ⟨#[]⟩, .string ⟨#[]⟩] 24 (0, 0))) = W ∧
    Row W w.heap.size 24 [.string (bs p.1), .string (bs p.2)] ∧ Row W (w.heap.size + 1) 24 [.string ⟨#[]⟩, .string ⟨#[]⟩] ∧ W.heap.size = w.heap.size + 1 + 1 ∧ Below w.heap.size w W := by
  refine ⟨_, rfl, ?_, ?_, by simp, ?_⟩
  · exact (Row.new w 24 [.string (bs p.1), .string (bs p.2)]).alloc _
  · have := Row.new (w.alloc (.cells #[.string (bs p.1), .string (bs p.2)] 24 (0, 0))) 24 [.string ⟨#[]⟩, .string ⟨#[]⟩]
    rwa [World.size_alloc] at this
  · exact ((Below.refl _ w).alloc (Nat.le_refl _) _).alloc (by simp) _
theorem pscale_bad (p : PT) (s : List UInt8) (w : World) (hg : Glob w) (h1 : Sht p.1) (h2 : Sht p.2) (h : chkP p ≠ 0) :
    Calls Tryz.prog 16 #[spV p, .string (bs s)] w (Ret w (spR ([], []) ((chkP p : Nat) : Int))) := by
  obtain ⟨W, hW, r0, r2, hsz, hbW⟩ := boxes2 w p
  have HC := Lib.hid (pcheck p W (hg.of hbW) h1 h2)
  have hz : (((chkP p : Nat) : Int) != 0) = true := by simp; exact h
  have HR := Lib.hid r2
  have HB := Lib.hid hbW
  have HW := Lib.hid hW
  clear r0 r2 hbW h1 h2 h hW
  generalize ((chkP p : Nat) : Int) = c at *
  go_enter Tryz.func16, Tryz.ntmps16
  go_wp2_with fail
  rw [HW.out]
  refine HC.out.mono ?_
  rintro e w1 ⟨rfl, hb1⟩
  have hr := HR.out.below' hb1
  have f0 := hr.free 0
  have f1 := (hr.set 0 (.string ⟨#[]⟩)).free 1
  have c0 := hr.cell (i := 0) rfl
  have c1 := (hr.set 0 (.string ⟨#[]⟩)).cell (i := 1) rfl
  have hbz := HB.out.trans (hb1.mono HB.out.size)
  obtain ⟨q0, q1, q2⟩ := span_store (w0 := w) (.string ⟨#[]⟩) (.string ⟨#[]⟩) hr (by omega) hbz
  have HQ := Lib.hid q2
  clear hbz hr q2 hb1
  go_wp2
  refine bodyPost_ret (v := spR ([], []) c) (by simp [results, Tryz.results16, go_sem, q0, q1]; rfl) rfl ⟨rfl, HQ.out⟩
theorem pscale_bad2 (a : SQ) (s : List UInt8) (w : World) (hg : Glob w) (ha : SpB 30 a) (hs : s.length ≤ 90000) (h : chkR s ≠ 0) :
    Calls Tryz.prog 16 #[spV (R a.1, R a.2), .string (bs s)] w (Ret w (spR ([], []) ((chkR s : Nat) : Int))) := by
  obtain ⟨W, hW, r0, r2, hsz, hbW⟩ := boxes2 w (R a.1, R a.2)
  have hc := pcheck (R a.1, R a.2) W (hg.of hbW) (Sht.R ha.2.1) (Sht.R ha.2.2)
  rw [chkP_sp (by decide) ha] at hc
  have HC := Lib.hid hc
  have HS := Lib.hid (fun wx hgx => rsign_bad s wx hgx hs h)
  have hz : (((chkR s : Nat) : Int) != 0) = true := by simp; exact h
  have HR := Lib.hid r2
  have HB := Lib.hid hbW
  simp only at hW
  have HW := Lib.hid hW
  clear r0 r2 hbW h hW hc
  generalize ((chkR s : Nat) : Int) = c at *
  go_enter Tryz.func16, Tryz.ntmps16
  go_wp2_with fail
  rw [HW.out]
  refine HC.out.mono ?_
  rintro e w1 ⟨rfl, hb1⟩
  have hbz := HB.out.trans (hb1.mono HB.out.size)
  go_wp2_with fail
  refine (HS.out _ (hg.of hbz)).mono ?_
  rintro e w2 ⟨rfl, hb2⟩
  have hb3 := hb1.trans (hb2.mono hb1.size)
  have hr := HR.out.below' hb3
  have f0 := hr.free 0
  have f1 := (hr.set 0 (.string ⟨#[]⟩)).free 1
  have c0 := hr.cell (i := 0) rfl
  have c1 := (hr.set 0 (.string ⟨#[]⟩)).cell (i := 1) rfl
  have hbz := HB.out.trans (hb3.mono HB.out.size)
  obtain ⟨q0, q1, q2⟩ := span_store (w0 := w) (.string ⟨#[]⟩) (.string ⟨#[]⟩) hr (by omega) hbz
  have HQ := Lib.hid q2
  clear hbz hr q2 hb1 hb2 hb3
  go_wp2
  refine bodyPost_ret (v := spR ([], []) c) (by simp [results, Tryz.results16, go_sem, q0, q1]; rfl) rfl ⟨rfl, HQ.out⟩
theorem pscale_pos (a : SQ) (q : Rat) (w : World) (hg : Glob w) (ha : SpB 30 a) (hq : Bq 30 q) (hn : ¬ q < 0) :
    Calls Tryz.prog 16 #[spV (R a.1, R a.2), .string (bs (R q))] w (Ret w (spR (R (a.1 * q), R (a.2 * q)) 0)) := by
  obtain ⟨W, hW, r0, r2, hsz, hbW⟩ := boxes2 w (R a.1, R a.2)
  have hc := pcheck (R a.1, R a.2) W (hg.of hbW) (Sht.R ha.2.1) (Sht.R ha.2.2)
  rw [chkP_sp (by decide) ha] at hc
  have HC := Lib.hid hc
  have HS := Lib.hid (fun wx hgx => rsign_ok q 30 wx hgx hq (by decide))
  have hsg : decide (Int.sign q.num < 0) = false := decide_eq_false (fun h => hn ((sign_lt q).1 h))
  have H1 := Lib.hid (fun wx hgx => ratMul a.1 q 30 30 wx hgx ha.2.1 hq (by decide))
  have H2 := Lib.hid (fun wx hgx => ratMul a.2 q 30 30 wx hgx ha.2.2 hq (by decide))
  simp only at hW r0
  have HR := Lib.hid (And.intro r0 r2)
  have HB := Lib.hid hbW
  have HW := Lib.hid hW
  clear r0 r2 hbW hW ha hq hc hn
  generalize R (a.1 * q) = s1 at *
  generalize R (a.2 * q) = s2 at *
  generalize Int.sign q.num = sg at *
  generalize R q = z at *
  generalize R a.1 = x at *
  generalize R a.2 = y at *
  go_enter Tryz.func16, Tryz.ntmps16
  go_wp2_with fail
  rw [HW.out]
  refine HC.out.mono ?_
  rintro e w1 ⟨rfl, hb1⟩
  have hbz := HB.out.trans (hb1.mono HB.out.size)
  go_wp2_with fail
  refine (HS.out _ (hg.of hbz)).mono ?_
  rintro e w2 ⟨rfl, hb2⟩
  have hb3 := hb1.trans (hb2.mono hb1.size)
  have hbz3 := HB.out.trans (hb3.mono HB.out.size)
  have hr0 := HR.out.1.below' hb3
  have hr2 := HR.out.2.below' hb3
  clear hb1 hb2 hbz HC HS HR HW
  have d0 := hr0.cell (i := 0) rfl
  have d1 := hr0.cell (i := 1) rfl
  have hA := Row.new w2 74 [.int .i64 0]
  have k0 := hr0.alloc (.cells #[.int .i64 0] 74 (0, 0))
  have k2 := hr2.alloc (.cells #[.int .i64 0] 74 (0, 0))
  have hbz4 := hbz3.alloc hbz3.size (.cells #[.int .i64 0] 74 (0, 0))
  clear hr0 hr2 hb3 hbz3 HB
  go_wp2
  obtain ⟨W5, hW5⟩ : ∃ W5, World.alloc w2 (.cells #[.int .i64 0] 74 (0, 0)) = W5 := ⟨_, rfl⟩
  rw [show ([Value.int .i64 0].toArray) = #[.int .i64 0] from rfl, hW5] at hA
  rw [hW5] at k0 k2 hbz4 ⊢
  have m0 : ∀ d os, (grow (redrawn W5 d) os).cell? ⟨w.heap.size, 0, none⟩ = some (.string (bs x)) := cell_regrown (k0.cell (i := 0) rfl)
  have m1 : ∀ d os, (grow (redrawn W5 d) os).cell? ⟨w.heap.size, 1, none⟩ = some (.string (bs y)) := cell_regrown (k0.cell (i := 1) rfl)
  clear hW5 k0
  generalize w2.heap.size = S at *
  have hno : NoErI W5 S := hA
  have c1 := reg_of (w := W5) (fun W hb => H1.out W (hg.of (hbz4.trans (hb.mono hbz4.size))))
  have c2 := reg_of (w := W5) (fun W hb => H2.out W (hg.of (hbz4.trans (hb.mono hbz4.size))))
  have c3 := reg_of (w := W5) (fun W hb => sof_ok S s1 W (hno.below' hb))
  have c4 := reg_of (w := W5) (fun W hb => sof_ok S s2 W (hno.below' hb))
  have e1 : ∀ args w, (callFunc 54 args).run Tryz.prog w = .ok (.enter 54 args) w := enters_of Tryz.func54 (by kernel_rfl) rfl
  have e2 : ∀ args w, (callFunc 46 args).run Tryz.prog w = .ok (.enter 46 args) w := enters_of Tryz.func46 (by kernel_rfl) rfl
  have HK2 := Lib.hid (And.intro k2 (And.intro hno hbz4))
  clear k2 hno hA hbz4 H1 H2
  refine wp_region_quiet_below (by kernel_rfl) (by kernel_rfl) ?_
  repeat (quiet_step (fail))
  quiet_step (exact c1 _ _)
  repeat (quiet_step (fail))
  quiet_step (exact c3 _ _)
  repeat (quiet_step (fail))
  quiet_step (exact c2 _ _)
  repeat (quiet_step (fail))
  quiet_step (exact c4 _ _)
  repeat (quiet_step (fail))
  refine wpQuiet_nil ?_
  intro W6 hw'
  have hb6 : Below W5.heap.size W5 W6 := by obtain ⟨p, e⟩ := hw'; rw [e]; exact below_regrown W5 p.d p.os
  clear hw' c1 c2 c3 c4 m0 m1 e1 e2
  have hno6 := HK2.out.2.1.below' hb6
  have hr6 := HK2.out.1.below' hb6
  have hbz6 := HK2.out.2.2.trans (hb6.mono HK2.out.2.2.size)
  go_wp2_with fail
  refine (sspan_ok S (s1, s2) _ hno6).mono ?_
  rintro e w7 ⟨rfl, hb7⟩
  have hr := hr6.below' hb7
  have hbz := hbz6.trans (hb7.mono hbz6.size)
  have f0 := hr.free 0
  have f1 := (hr.set 0 (.string (bs s1))).free 1
  have c0 := hr.cell (i := 0) rfl
  have c1 := (hr.set 0 (.string (bs s1))).cell (i := 1) rfl
  obtain ⟨q0, q1, q2⟩ := span_store (w0 := w) (.string (bs s1)) (.string (bs s2)) hr (by omega) hbz
  have HQ := Lib.hid q2
  clear hbz hr q2 hb7 hbz6 hr6 hno6 hb6 HK2
  go_wp2
  refine bodyPost_ret (v := spR (s1, s2) 0) (by simp [results, Tryz.results16, go_sem, q0, q1]) rfl ⟨rfl, HQ.out⟩
theorem pscale_neg (a : SQ) (q : Rat) (w : World) (hg : Glob w) (ha : SpB 30 a) (hq : Bq 30 q) (hn : q < 0) :
    Calls Tryz.prog 16 #[spV (R a.1, R a.2), .string (bs (R q))] w (Ret w (spR (R (a.2 * q), R (a.1 * q)) 0)) := by
  obtain ⟨W, hW, r0, r2, hsz, hbW⟩ := boxes2 w (R a.1, R a.2)
  have hc := pcheck (R a.1, R a.2) W (hg.of hbW) (Sht.R ha.2.1) (Sht.R ha.2.2)
  rw [chkP_sp (by decide) ha] at hc
  have HC := Lib.hid hc
  have HS := Lib.hid (fun wx hgx => rsign_ok q 30 wx hgx hq (by decide))
  have hsg : decide (Int.sign q.num < 0) = true := decide_eq_true ((sign_lt q).2 hn)
  have H1 := Lib.hid (fun wx hgx => ratMul a.2 q 30 30 wx hgx ha.2.2 hq (by decide))
  have H2 := Lib.hid (fun wx hgx => ratMul a.1 q 30 30 wx hgx ha.2.1 hq (by decide))
  simp only at hW r0
  have HR := Lib.hid (And.intro r0 r2)
  have HB := Lib.hid hbW
  have HW := Lib.hid hW
  clear r0 r2 hbW hW ha hq hc hn
  generalize R (a.2 * q) = s1 at *
  generalize R (a.1 * q) = s2 at *
  generalize Int.sign q.num = sg at *
  generalize R q = z at *
  generalize R a.1 = x at *
  generalize R a.2 = y at *
  go_enter Tryz.func16, Tryz.ntmps16
  go_wp2_with fail
  rw [HW.out]
  refine HC.out.mono ?_
  rintro e w1 ⟨rfl, hb1⟩
  have hbz := HB.out.trans (hb1.mono HB.out.size)
  go_wp2_with fail
  refine (HS.out _ (hg.of hbz)).mono ?_
  rintro e w2 ⟨rfl, hb2⟩
  have hb3 := hb1.trans (hb2.mono hb1.size)
  have hbz3 := HB.out.trans (hb3.mono HB.out.size)
  have hr0 := HR.out.1.below' hb3
  have hr2 := HR.out.2.below' hb3
  clear hb1 hb2 hbz HC HS HR HW
  have f0 := hr0.free 0
  have f1 := (hr0.set 0 (.string (bs y))).free 1
  have d0 := hr0.cell (i := 0) rfl
  have d1 := hr0.cell (i := 1) rfl
  have d2 := (hr0.set 0 (.string (bs y))).cell (i := 1) rfl
  have hbz3 := (hbz3.setCell (p := ⟨w.heap.size, 0, none⟩) (Nat.le_refl _) (.string (bs y))).setCell (p := ⟨w.heap.size, 1, none⟩) (Nat.le_refl _) (.string (bs x))
  have hr2 := (hr2.other (a := ⟨w.heap.size, 0, none⟩) (by simp) (.string (bs y))).other (a := ⟨w.heap.size, 1, none⟩) (by simp) (.string (bs x))
  have hr0 := (hr0.set 0 (.string (bs y))).set 1 (.string (bs x))
  have hA := Row.new ((w2.setCell ⟨w.heap.size, 0, none⟩ (.string (bs y))).setCell ⟨w.heap.size, 1, none⟩ (.string (bs x))) 74 [.int .i64 0]
  have k0 := hr0.alloc (.cells #[.int .i64 0] 74 (0, 0))
  have k2 := hr2.alloc (.cells #[.int .i64 0] 74 (0, 0))
  have hbz4 := hbz3.alloc hbz3.size (.cells #[.int .i64 0] 74 (0, 0))
  clear hr0 hr2 hb3 hbz3 HB
  go_wp2
  obtain ⟨W5, hW5⟩ : ∃ W5, World.alloc ((w2.setCell ⟨w.heap.size, 0, none⟩ (.string (bs y))).setCell ⟨w.heap.size, 1, none⟩ (.string (bs x))) (.cells #[.int .i64 0] 74 (0, 0)) = W5 := ⟨_, rfl⟩
  rw [show ([Value.int .i64 0].toArray) = #[.int .i64 0] from rfl, hW5] at hA
  rw [hW5] at k0 k2 hbz4 ⊢
  rw [show ((w2.setCell ⟨w.heap.size, 0, none⟩ (.string (bs y))).setCell ⟨w.heap.size, 1, none⟩ (.string (bs x))).heap.size = w2.heap.size by simp] at hA
  have m0 : ∀ d os, (grow (redrawn W5 d) os).cell? ⟨w.heap.size, 0, none⟩ = some (.string (bs y)) := cell_regrown (k0.cell (i := 0) rfl)
  have m1 : ∀ d os, (grow (redrawn W5 d) os).cell? ⟨w.heap.size, 1, none⟩ = some (.string (bs x)) := cell_regrown (k0.cell (i := 1) rfl)
  clear hW5 k0
  generalize w2.heap.size = S at *
  have hno : NoErI W5 S := hA
  have c1 := reg_of (w := W5) (fun W hb => H1.out W (hg.of (hbz4.trans (hb.mono hbz4.size))))
  have c2 := reg_of (w := W5) (fun W hb => H2.out W (hg.of (hbz4.trans (hb.mono hbz4.size))))
  have c3 := reg_of (w := W5) (fun W hb => sof_ok S s1 W (hno.below' hb))
  have c4 := reg_of (w := W5) (fun W hb => sof_ok S s2 W (hno.below' hb))
  have e1 : ∀ args w, (callFunc 54 args).run Tryz.prog w = .ok (.enter 54 args) w := enters_of Tryz.func54 (by kernel_rfl) rfl
  have e2 : ∀ args w, (callFunc 46 args).run Tryz.prog w = .ok (.enter 46 args) w := enters_of Tryz.func46 (by kernel_rfl) rfl
  have HK2 := Lib.hid (And.intro k2 (And.intro hno hbz4))
  clear k2 hno hA hbz4 H1 H2
  refine wp_region_quiet_below (by kernel_rfl) (by kernel_rfl) ?_
  repeat (quiet_step (fail))
  quiet_step (exact c1 _ _)
  repeat (quiet_step (fail))
  quiet_step (exact c3 _ _)
  repeat (quiet_step (fail))
  quiet_step (exact c2 _ _)
  repeat (quiet_step (fail))
  quiet_step (exact c4 _ _)
  repeat (quiet_step (fail))
  refine wpQuiet_nil ?_
  intro W6 hw'
  have hb6 : Below W5.heap.size W5 W6 := by obtain ⟨p, e⟩ := hw'; rw [e]; exact below_regrown W5 p.d p.os
  clear hw' c1 c2 c3 c4 m0 m1 e1 e2
  have hno6 := HK2.out.2.1.below' hb6
  have hr6 := HK2.out.1.below' hb6
  have hbz6 := HK2.out.2.2.trans (hb6.mono HK2.out.2.2.size)
  go_wp2_with fail
  refine (sspan_ok S (s1, s2) _ hno6).mono ?_
  rintro e w7 ⟨rfl, hb7⟩
  have hr := hr6.below' hb7
  have hbz := hbz6.trans (hb7.mono hbz6.size)
  have f0 := hr.free 0
  have f1 := (hr.set 0 (.string (bs s1))).free 1
  have c0 := hr.cell (i := 0) rfl
  have c1 := (hr.set 0 (.string (bs s1))).cell (i := 1) rfl
  obtain ⟨q0, q1, q2⟩ := span_store (w0 := w) (.string (bs s1)) (.string (bs s2)) hr (by omega) hbz
  have HQ := Lib.hid q2
  clear hbz hr q2 hb7 hbz6 hr6 hno6 hb6 HK2
  go_wp2
  refine bodyPost_ret (v := spR (s1, s2) 0) (by simp [results, Tryz.results16, go_sem, q0, q1]) rfl ⟨rfl, HQ.out⟩
theorem pscale_ok (a : SQ) (q : Rat) (w : World) (hg : Glob w) (ha : SpB 30 a) (hq : Bq 30 q) :
    Calls Tryz.prog 16 #[spV (R a.1, R a.2), .string (bs (R q))] w (Ret w (spR (R (sclQ a q).1, R (sclQ a q).2) 0)) := by
  unfold sclQ
  by_cases h : q < 0
  · rw [if_pos h]; exact pscale_neg a q w hg ha hq h
  · rw [if_neg h]; exact pscale_pos a q w hg ha hq h
end W
end Go.Proofs.YtpjaoapnangccaaGreatDoor
