/-
  Chapter 3, the reference: 'both', 'ended', 'Of', 'Width', 'Middle', 'Add', 'Sub' and 'Scale'.
  Chapter 3, the reference: 'Scale'.
-/
import Derived.Test.YtpjaoapnangccaaGreatDoorKJ
import Derived.Test.YtpjaoapnangccaaGreatDoorKI
namespace Go.Proofs.YtpjaoapnangccaaGreatDoor
open Go Go.RowKit Go.Deep Go.Sort
namespace M
theorem I_min : I (-9223372036854775808) = [45, 57, 50, 50, 51, 51, 55, 50, 48, 51, 54, 56, 53, 52, 55, 55, 53, 56, 48, 56] := by
  have h : D 9223372036854775808 = [57, 50, 50, 51, 51, 55, 50, 48, 51, 54, 56, 53, 52, 55, 55, 53, 56, 48, 56] := by
    iterate 18 rw [D_big (by decide)]
    rw [D_small (by decide)]
    rfl
  have e := I_neg (n := 9223372036854775808) (by decide)
  rw [h] at e
  exact e
theorem chkL_two (p q : PT) : chkL [p, q] = if chkP p = 0 then chkP q else chkP p := by
  rw [chkL, chkL, chkL]
  split
  · split
    · rename_i h; exact h.symm
    · rfl
  · rfl
end M
namespace W
open M
attribute [local go_sem] bs_size bs_toList bs_get bs_extract bs_append bs_lit0 bs_lit1 lit1_bs
set_option maxHeartbeats 4000000
set_option maxRecDepth 20000
theorem whole_min (w : World) : Calls Tryz.prog 72 #[.int .i64 (-9223372036854775808)] w (Ret w (.string (bs (R ((-9223372036854775808 : Int) : Rat))))) := by
  rw [R_int, I_min]
  have h : ∀ n : Int, wrap64 (-n) = n → (n != 0) = true → Calls Tryz.prog 112 #[.int .i64 n] w (Ret w (.string (bs [45, 57, 50, 50, 51, 51, 55, 50, 48, 51, 54, 56, 53, 52, 55, 55, 53, 56, 48, 56]))) := by
    intro n hw hn
    have hq : (n == n) = true := beq_self_eq_true n
    go_enter Tryz.func112, Tryz.ntmps112
    go_wp2
    go_ret
    exact Ret.of rfl (Below.refl _ _)
  have HO := Lib.hid (h (-9223372036854775808) (by decide +kernel) (by decide))
  clear h
  generalize (-9223372036854775808 : Int) = n at *
  go_enter Tryz.func72, Tryz.ntmps72
  go_wp2_with fail
  refine (HO.out).mono ?_
  rintro e w1 ⟨rfl, hb1⟩
  go_wp2
  go_ret
  exact Ret.of rfl hb1
theorem whole_all (n : Int) (w : World) (h0 : -9223372036854775808 ≤ n) (h1 : n ≤ 9223372036854775807) : Calls Tryz.prog 72 #[.int .i64 n] w (Ret w (.string (bs (R (n : Rat))))) := by
  by_cases h : n = -9223372036854775808
  · rw [h]; exact whole_min w
  · exact whole_R n w (by omega) h1
theorem rboth (p q : PT) (w : World) (hs : ShtL [p, q]) :
    Calls Tryz.prog 48 #[spV p, spV q] w (Ret w (.int .i64 ((chkL [p, q] : Nat) : Int))) := by
  have hp := hs p (by simp)
  have hq := hs q (by simp)
  have H1 := Lib.hid (fun wx => rcheck p wx hp.1 hp.2)
  have H2 := Lib.hid (fun wx => rcheck q wx hq.1 hq.2)
  have hr := Row.new (w.alloc (.cells #[.string (bs p.1), .string (bs p.2)] 24 (0, 0))) 24 [.string (bs q.1), .string (bs q.2)]
  have hba := ((Below.refl w.heap.size w).alloc (Nat.le_refl _) (.cells #[.string (bs p.1), .string (bs p.2)] 24 (0, 0))).alloc (by simp) (.cells #[.string (bs q.1), .string (bs q.2)] 24 (0, 0))
  rw [World.size_alloc] at hr
  have HR := Lib.hid (And.intro hr hba)
  rw [chkL_two]
  clear hs hp hq hr hba
  by_cases hc : chkP p = 0
  · rw [if_pos hc]
    rw [hc] at H1
    clear hc
    generalize ((chkP q : Nat) : Int) = c at *
    go_enter Tryz.func48, Tryz.ntmps48
    go_wp2_with fail
    refine (H1.out _).mono ?_
    rintro e w1 ⟨rfl, hb1⟩
    have hr := HR.out.1.below' hb1
    have c0 := hr.cell (i := 0) rfl
    have c1 := hr.cell (i := 1) rfl
    clear hr
    go_wp2_with fail
    refine (H2.out _).mono ?_
    rintro e w2 ⟨rfl, hb2⟩
    have hb3 := hb1.trans (hb2.mono hb1.size)
    go_wp2
    go_ret
    exact Ret.of rfl (HR.out.2.trans (hb3.mono HR.out.2.size))
  · have hz : (((chkP p : Nat) : Int) != 0) = true := by simp; exact hc
    rw [if_neg hc]
    clear hc
    generalize ((chkP p : Nat) : Int) = c at *
    go_enter Tryz.func48, Tryz.ntmps48
    go_wp2_with fail
    refine (H1.out _).mono ?_
    rintro e w1 ⟨rfl, hb1⟩
    go_wp2
    go_ret
    exact Ret.of rfl (HR.out.2.trans (hb1.mono HR.out.2.size))
theorem rended (p : PT) (w : World) :
    Calls Tryz.prog 50 #[.string (bs p.1), .int .i64 0, .string (bs p.2), .int .i64 0] w (Ret w (spR p 0)) := by
  have hr := Row.new w 24 [.string (bs p.1), .string (bs p.2)]
  have q0 := hr.cell (i := 0) rfl
  have q1 := hr.cell (i := 1) rfl
  clear hr
  go_enter Tryz.func50, Tryz.ntmps50
  go_wp2
  refine bodyPost_ret (v := spR p 0) (by simp [results, Tryz.results50, go_sem, q0, q1]) rfl ⟨rfl, (Below.refl _ _).alloc (Nat.le_refl _) _⟩
theorem rof_bad (lo hi : Int) (w : World) (h : hi < lo) : Calls Tryz.prog 31 #[.int .i64 lo, .int .i64 hi] w (Ret w (spR ([], []) 9)) := by
  have hd : decide (hi < lo) = true := decide_eq_true h
  have hr := Row.new w 24 [.string ⟨#[]⟩, .string ⟨#[]⟩]
  have c0 := hr.cell (i := 0) rfl
  have c1 := hr.cell (i := 1) rfl
  clear hr
  go_enter Tryz.func31, Tryz.ntmps31
  go_wp2
  refine bodyPost_ret (v := spR ([], []) 9) (by simp [results, Tryz.results31, go_sem, c0, c1]; rfl) rfl ⟨rfl, (Below.refl _ _).alloc (Nat.le_refl _) _⟩
theorem rof_ok (lo hi : Int) (w : World) (h : lo ≤ hi) (hl : -9223372036854775808 ≤ lo ∧ lo ≤ 9223372036854775807) (hh : -9223372036854775808 ≤ hi ∧ hi ≤ 9223372036854775807) :
    Calls Tryz.prog 31 #[.int .i64 lo, .int .i64 hi] w (Ret w (spR (R (lo : Rat), R (hi : Rat)) 0)) := by
  have hd : decide (hi < lo) = false := decide_eq_false (by omega)
  have H1 := Lib.hid (fun wx => whole_all lo wx hl.1 hl.2)
  have H2 := Lib.hid (fun wx => whole_all hi wx hh.1 hh.2)
  have hba := (Below.refl w.heap.size w).alloc (Nat.le_refl _) (.cells #[.string ⟨#[]⟩, .string ⟨#[]⟩] 24 (0, 0))
  have HG := Lib.hid (And.intro hba (Row.new w 24 [.string ⟨#[]⟩, .string ⟨#[]⟩]))
  clear hba h hl hh
  generalize R (lo : Rat) = r1 at *
  generalize R (hi : Rat) = r2 at *
  go_enter Tryz.func31, Tryz.ntmps31
  go_wp2_with fail
  refine (H1.out _).mono ?_
  rintro e w1 ⟨rfl, hb1⟩
  go_wp2_with fail
  refine (H2.out _).mono ?_
  rintro e w2 ⟨rfl, hb2⟩
  have hb3 := hb1.trans (hb2.mono hb1.size)
  have hbz := HG.out.1.trans (hb3.mono HG.out.1.size)
  have hr := HG.out.2.below' hb3
  have f0 := hr.free 0
  have f1 := (hr.set 0 (.string (bs r1))).free 1
  have c0 := hr.cell (i := 0) rfl
  have c1 := (hr.set 0 (.string (bs r1))).cell (i := 1) rfl
  obtain ⟨q0, q1, q2⟩ := span_store (w0 := w) (.string (bs r1)) (.string (bs r2)) hr (Nat.le_refl _) hbz
  have HQ := Lib.hid q2
  clear hb1 hb2 hb3 hbz hr q2
  go_wp2
  refine bodyPost_ret (v := spR (r1, r2) 0) (by simp [results, Tryz.results31, go_sem, q0, q1]) rfl ⟨rfl, HQ.out⟩
theorem rwidth_bad (p : PT) (w : World) (h1 : Sht p.1) (h2 : Sht p.2) (h : chkP p ≠ 0) :
    Calls Tryz.prog 33 #[spV p] w (Ret w (.tuple #[.string (bs []), .int .i64 ((chkP p : Nat) : Int)])) := by
  have HC := Lib.hid (fun wx => rcheck p wx h1 h2)
  have hz : (((chkP p : Nat) : Int) != 0) = true := by simp; exact h
  clear h h1 h2
  generalize ((chkP p : Nat) : Int) = c at *
  go_enter Tryz.func33, Tryz.ntmps33
  go_wp2_with fail
  refine (HC.out _).mono ?_
  rintro e w1 ⟨rfl, hb1⟩
  go_wp2
  go_ret2
  exact Ret.of rfl (alloc_then hb1)
theorem rwidth_ok (a : SQ) (w : World) (h : SpB 30 a) :
    Calls Tryz.prog 33 #[spV (R a.1, R a.2)] w (Ret w (.tuple #[.string (bs (R (a.2 - a.1))), .int .i64 0])) := by
  have hc := fun wx => rcheck (R a.1, R a.2) wx (Sht.R h.2.1) (Sht.R h.2.2)
  rw [chkP_sp (by decide) h] at hc
  have HC := Lib.hid hc
  have HS := Lib.hid (fun wx => rsub a.2 a.1 30 30 wx h.2.2 h.2.1 (by decide) (by decide) (by decide))
  have HR := Lib.hid (Row.new w 24 [.string (bs (R a.1)), .string (bs (R a.2))])
  clear hc h
  generalize R (a.2 - a.1) = r at *
  generalize R a.1 = x at *
  generalize R a.2 = y at *
  go_enter Tryz.func33, Tryz.ntmps33
  go_wp2_with fail
  refine (HC.out _).mono ?_
  rintro e w1 ⟨rfl, hb1⟩
  have hr := HR.out.below' hb1
  have c0 := hr.cell (i := 0) rfl
  have c1 := hr.cell (i := 1) rfl
  have hb1' := alloc_then hb1
  clear hr
  go_wp2_with fail
  refine (HS.out _).mono ?_
  rintro e w2 ⟨rfl, hb2⟩
  have hb2' := Below.then hb1' hb2
  go_wp2
  go_ret2
  exact Ret.of rfl hb2'
theorem rmiddle_bad (p : PT) (w : World) (h1 : Sht p.1) (h2 : Sht p.2) (h : chkP p ≠ 0) :
    Calls Tryz.prog 37 #[spV p] w (Ret w (.tuple #[.string (bs []), .int .i64 ((chkP p : Nat) : Int)])) := by
  have HC := Lib.hid (fun wx => rcheck p wx h1 h2)
  have hz : (((chkP p : Nat) : Int) != 0) = true := by simp; exact h
  clear h h1 h2
  generalize ((chkP p : Nat) : Int) = c at *
  go_enter Tryz.func37, Tryz.ntmps37
  go_wp2_with fail
  refine (HC.out _).mono ?_
  rintro e w1 ⟨rfl, hb1⟩
  go_wp2
  go_ret2
  exact Ret.of rfl (alloc_then hb1)
theorem rmiddle_ok (a : SQ) (w : World) (h : SpB 30 a) :
    Calls Tryz.prog 37 #[spV (R a.1, R a.2)] w (Ret w (.tuple #[.string (bs (R (midQ a.1 a.2))), .int .i64 0])) := by
  have hc := fun wx => rcheck (R a.1, R a.2) wx (Sht.R h.2.1) (Sht.R h.2.2)
  rw [chkP_sp (by decide) h] at hc
  have HC := Lib.hid hc
  have HS := Lib.hid (fun wx => radd a.1 a.2 30 30 wx h.2.1 h.2.2 (by decide) (by decide) (by decide))
  have HM := Lib.hid (fun wx => rmul (a.1 + a.2) (Rat.divInt 1 2) 61 1 wx (h.2.1.add h.2.2) half_b (by decide) (by decide) (by decide))
  rw [half_R] at HM
  unfold midQ
  have HR := Lib.hid (Row.new w 24 [.string (bs (R a.1)), .string (bs (R a.2))])
  clear hc h
  generalize R ((a.1 + a.2) * Rat.divInt 1 2) = r at *
  generalize R (a.1 + a.2) = z at *
  generalize R a.1 = x at *
  generalize R a.2 = y at *
  go_enter Tryz.func37, Tryz.ntmps37
  go_wp2_with fail
  refine (HC.out _).mono ?_
  rintro e w1 ⟨rfl, hb1⟩
  have hr := HR.out.below' hb1
  have c0 := hr.cell (i := 0) rfl
  have c1 := hr.cell (i := 1) rfl
  have hb1' := alloc_then hb1
  clear hr
  go_wp2_with fail
  refine (HS.out _).mono ?_
  rintro e w2 ⟨rfl, hb2⟩
  have hb2' := Below.then hb1' hb2
  go_wp2_with fail
  refine (HM.out _).mono ?_
  rintro e w3 ⟨rfl, hb3⟩
  go_wp2
  go_ret2
  exact Ret.of rfl (Below.then hb2' hb3)
theorem radd3_bad (p q : PT) (w : World) (hs : ShtL [p, q]) (h : chkL [p, q] ≠ 0) :
    Calls Tryz.prog 13 #[spV p, spV q] w (Ret w (spR ([], []) ((chkL [p, q] : Nat) : Int))) := by
  obtain ⟨W, hW, r0, r1, r2, hsz, hbW⟩ := boxes w p q
  have HC := Lib.hid (rboth p q W hs)
  have hz : (((chkL [p, q] : Nat) : Int) != 0) = true := by simp; exact h
  have HR := Lib.hid r2
  have HB := Lib.hid hbW
  have HW := Lib.hid hW
  clear r0 r1 r2 hbW hs h hW
  generalize ((chkL [p, q] : Nat) : Int) = c at *
  go_enter Tryz.func13, Tryz.ntmps13
  go_wp2_with fail
  rw [HW.out]
  refine HC.out.mono ?_
  rintro e w1 ⟨rfl, hb1⟩
  have hr := HR.out.below' hb1
  have f0 := hr.free 0
  have f1 := (hr.set 0 (.string ⟨#[]⟩)).free 1
  have c0 := hr.cell (i := 0) rfl
  have c1 := (hr.set 0 (.string ⟨#[]⟩)).cell (i := 1) rfl
  have hbz := HB.out.trans (hb1.mono HB.out.size)
  obtain ⟨q0, q1, q2⟩ := span_store (w0 := w) (.string ⟨#[]⟩) (.string ⟨#[]⟩) hr (by omega) hbz
  have HQ := Lib.hid q2
  clear hbz hr q2 hb1
  go_wp2
  refine bodyPost_ret (v := spR ([], []) c) (by simp [results, Tryz.results13, go_sem, q0, q1]; rfl) rfl ⟨rfl, HQ.out⟩
theorem radd3_ok (a b : SQ) (w : World) (ha : SpB 30 a) (hb : SpB 30 b) :
    Calls Tryz.prog 13 #[spV (R a.1, R a.2), spV (R b.1, R b.2)] w (Ret w (spR (R (a.1 + b.1), R (a.2 + b.2)) 0)) := by
  obtain ⟨W, hW, r0, r1, r2, hsz, hbW⟩ := boxes w (R a.1, R a.2) (R b.1, R b.2)
  have hs : ShtL [(R a.1, R a.2), (R b.1, R b.2)] := by
    intro x hx
    simp only [List.mem_cons, List.not_mem_nil, or_false] at hx
    rcases hx with rfl | rfl
    · exact ⟨Sht.R ha.2.1, Sht.R ha.2.2⟩
    · exact ⟨Sht.R hb.2.1, Sht.R hb.2.2⟩
  have hc := rboth (R a.1, R a.2) (R b.1, R b.2) W hs
  rw [show chkL [(R a.1, R a.2), (R b.1, R b.2)] = 0 from chkL_sx (zl := [a, b]) (fun x hx => by
    simp only [List.mem_cons, List.not_mem_nil, or_false] at hx
    rcases hx with rfl | rfl
    · exact ha
    · exact hb)] at hc
  have HC := Lib.hid hc
  have H1 := Lib.hid (fun wx => radd a.1 b.1 30 30 wx ha.2.1 hb.2.1 (by decide) (by decide) (by decide))
  have H2 := Lib.hid (fun wx => radd a.2 b.2 30 30 wx ha.2.2 hb.2.2 (by decide) (by decide) (by decide))
  simp only at r0 r1 hW
  have HR := Lib.hid (And.intro r0 (And.intro r1 r2))
  have HB := Lib.hid hbW
  have HW := Lib.hid hW
  clear r0 r1 r2 hbW hs hW ha hb hc
  generalize R (a.1 + b.1) = s1 at *
  generalize R (a.2 + b.2) = s2 at *
  generalize R a.1 = x1 at *
  generalize R a.2 = x2 at *
  generalize R b.1 = y1 at *
  generalize R b.2 = y2 at *
  have HE := Lib.hid (fun wx => rended (s1, s2) wx)
  go_enter Tryz.func13, Tryz.ntmps13
  go_wp2_with fail
  rw [HW.out]
  refine HC.out.mono ?_
  rintro e w1 ⟨rfl, hb1⟩
  have k0 := HR.out.1.below' hb1
  have k1 := HR.out.2.1.below' hb1
  have d0 := k0.cell (i := 0) rfl
  have d1 := k0.cell (i := 1) rfl
  have d2 := k1.cell (i := 0) rfl
  have d3 := k1.cell (i := 1) rfl
  go_wp2_with fail
  refine (H1.out _).mono ?_
  rintro e w2 ⟨rfl, hb2⟩
  have hb2 := hb1.trans (hb2.mono hb1.size)
  have k0 := HR.out.1.below' hb2
  have k1 := HR.out.2.1.below' hb2
  have d0 := k0.cell (i := 0) rfl
  have d1 := k0.cell (i := 1) rfl
  have d2 := k1.cell (i := 0) rfl
  have d3 := k1.cell (i := 1) rfl
  go_wp2_with fail
  refine (H2.out _).mono ?_
  rintro e w3 ⟨rfl, hb3⟩
  have hb3 := hb2.trans (hb3.mono hb2.size)
  go_wp2_with fail
  refine (HE.out _).mono ?_
  rintro e w4 ⟨rfl, hb4⟩
  have hb4 := hb3.trans (hb4.mono hb3.size)
  have hr := HR.out.2.2.below' hb4
  have hbz := HB.out.trans (hb4.mono HB.out.size)
  have f0 := hr.free 0
  have f1 := (hr.set 0 (.string (bs s1))).free 1
  have c0 := hr.cell (i := 0) rfl
  have c1 := (hr.set 0 (.string (bs s1))).cell (i := 1) rfl
  obtain ⟨q0, q1, q2⟩ := span_store (w0 := w) (.string (bs s1)) (.string (bs s2)) hr (by omega) hbz
  have HQ := Lib.hid q2
  clear hbz hr q2 hb1 hb2 hb3 hb4 k0 k1
  go_wp2
  refine bodyPost_ret (v := spR (s1, s2) 0) (by simp [results, Tryz.results13, go_sem, q0, q1]) rfl ⟨rfl, HQ.out⟩
theorem rsub3_bad (p q : PT) (w : World) (hs : ShtL [p, q]) (h : chkL [p, q] ≠ 0) :
    Calls Tryz.prog 15 #[spV p, spV q] w (Ret w (spR ([], []) ((chkL [p, q] : Nat) : Int))) := by
  obtain ⟨W, hW, r0, r1, r2, hsz, hbW⟩ := boxes w p q
  have HC := Lib.hid (rboth p q W hs)
  have hz : (((chkL [p, q] : Nat) : Int) != 0) = true := by simp; exact h
  have HR := Lib.hid r2
  have HB := Lib.hid hbW
  have HW := Lib.hid hW
  clear r0 r1 r2 hbW hs h hW
  generalize ((chkL [p, q] : Nat) : Int) = c at *
  go_enter Tryz.func15, Tryz.ntmps15
  go_wp2_with fail
  rw [HW.out]
  refine HC.out.mono ?_
  rintro e w1 ⟨rfl, hb1⟩
  have hr := HR.out.below' hb1
  have f0 := hr.free 0
  have f1 := (hr.set 0 (.string ⟨#[]⟩)).free 1
  have c0 := hr.cell (i := 0) rfl
  have c1 := (hr.set 0 (.string ⟨#[]⟩)).cell (i := 1) rfl
  have hbz := HB.out.trans (hb1.mono HB.out.size)
  obtain ⟨q0, q1, q2⟩ := span_store (w0 := w) (.string ⟨#[]⟩) (.string ⟨#[]⟩) hr (by omega) hbz
  have HQ := Lib.hid q2
  clear hbz hr q2 hb1
  go_wp2
  refine bodyPost_ret (v := spR ([], []) c) (by simp [results, Tryz.results15, go_sem, q0, q1]; rfl) rfl ⟨rfl, HQ.out⟩
theorem rsub3_ok (a b : SQ) (w : World) (ha : SpB 30 a) (hb : SpB 30 b) :
    Calls Tryz.prog 15 #[spV (R a.1, R a.2), spV (R b.1, R b.2)] w (Ret w (spR (R (a.1 - b.2), R (a.2 - b.1)) 0)) := by
  obtain ⟨W, hW, r0, r1, r2, hsz, hbW⟩ := boxes w (R a.1, R a.2) (R b.1, R b.2)
  have hs : ShtL [(R a.1, R a.2), (R b.1, R b.2)] := by
    intro x hx
    simp only [List.mem_cons, List.not_mem_nil, or_false] at hx
    rcases hx with rfl | rfl
    · exact ⟨Sht.R ha.2.1, Sht.R ha.2.2⟩
    · exact ⟨Sht.R hb.2.1, Sht.R hb.2.2⟩
  have hc := rboth (R a.1, R a.2) (R b.1, R b.2) W hs
  rw [show chkL [(R a.1, R a.2), (R b.1, R b.2)] = 0 from chkL_sx (zl := [a, b]) (fun x hx => by
    simp only [List.mem_cons, List.not_mem_nil, or_false] at hx
    rcases hx with rfl | rfl
    · exact ha
    · exact hb)] at hc
  have HC := Lib.hid hc
  have H1 := Lib.hid (fun wx => rsub a.1 b.2 30 30 wx ha.2.1 hb.2.2 (by decide) (by decide) (by decide))
  have H2 := Lib.hid (fun wx => rsub a.2 b.1 30 30 wx ha.2.2 hb.2.1 (by decide) (by decide) (by decide))
  simp only at r0 r1 hW
  have HR := Lib.hid (And.intro r0 (And.intro r1 r2))
  have HB := Lib.hid hbW
  have HW := Lib.hid hW
  clear r0 r1 r2 hbW hs hW ha hb hc
  generalize R (a.1 - b.2) = s1 at *
  generalize R (a.2 - b.1) = s2 at *
  generalize R a.1 = x1 at *
  generalize R a.2 = x2 at *
  generalize R b.1 = y1 at *
  generalize R b.2 = y2 at *
  have HE := Lib.hid (fun wx => rended (s1, s2) wx)
  go_enter Tryz.func15, Tryz.ntmps15
  go_wp2_with fail
  rw [HW.out]
  refine HC.out.mono ?_
  rintro e w1 ⟨rfl, hb1⟩
  have k0 := HR.out.1.below' hb1
  have k1 := HR.out.2.1.below' hb1
  have d0 := k0.cell (i := 0) rfl
  have d1 := k0.cell (i := 1) rfl
  have d2 := k1.cell (i := 0) rfl
  have d3 := k1.cell (i := 1) rfl
  go_wp2_with fail
  refine (H1.out _).mono ?_
  rintro e w2 ⟨rfl, hb2⟩
  have hb2 := hb1.trans (hb2.mono hb1.size)
  have k0 := HR.out.1.below' hb2
  have k1 := HR.out.2.1.below' hb2
  have d0 := k0.cell (i := 0) rfl
  have d1 := k0.cell (i := 1) rfl
  have d2 := k1.cell (i := 0) rfl
  have d3 := k1.cell (i := 1) rfl
  go_wp2_with fail
  refine (H2.out _).mono ?_
  rintro e w3 ⟨rfl, hb3⟩
  have hb3 := hb2.trans (hb3.mono hb2.size)
  go_wp2_with fail
  refine (HE.out _).mono ?_
  rintro e w4 ⟨rfl, hb4⟩
  have hb4 := hb3.trans (hb4.mono hb3.size)
  have hr := HR.out.2.2.below' hb4
  have hbz := HB.out.trans (hb4.mono HB.out.size)
  have f0 := hr.free 0
  have f1 := (hr.set 0 (.string (bs s1))).free 1
  have c0 := hr.cell (i := 0) rfl
  have c1 := (hr.set 0 (.string (bs s1))).cell (i := 1) rfl
  obtain ⟨q0, q1, q2⟩ := span_store (w0 := w) (.string (bs s1)) (.string (bs s2)) hr (by omega) hbz
  have HQ := Lib.hid q2
  clear hbz hr q2 hb1 hb2 hb3 hb4 k0 k1
  go_wp2
  refine bodyPost_ret (v := spR (s1, s2) 0) (by simp [results, Tryz.results15, go_sem, q0, q1]) rfl ⟨rfl, HQ.out⟩
end W
end Go.Proofs.YtpjaoapnangccaaGreatDoor
namespace Go.Proofs.YtpjaoapnangccaaGreatDoor
open Go Go.RowKit Go.Deep Go.Sort
namespace M
theorem Bq_int {n : Int} {k : Nat} (h : n.natAbs < 10 ^ k) (hk : 1 ≤ k) : Bq k (n : Rat) := by
  unfold Bq
  rw [Rat.num_intCast, Rat.den_intCast]
  exact ⟨h, Nat.one_lt_pow (by omega) (by decide)⟩
theorem R_zero : R 0 = [48] := by
  have : ((0 : Int) : Rat) = 0 := rfl
  rw [← this, W.R_int, I_zero]
theorem R_one : R 1 = [49] := by
  have : ((1 : Int) : Rat) = 1 := rfl
  rw [← this, W.R_int, I_one]
theorem Bq_zero : Bq 1 (0 : Rat) := by
  have : ((0 : Int) : Rat) = 0 := rfl
  rw [← this]; exact Bq_int (by decide) (by decide)
theorem Bq_one : Bq 1 (1 : Rat) := by
  have : ((1 : Int) : Rat) = 1 := rfl
  rw [← this]; exact Bq_int (by decide) (by decide)
end M
namespace W
open M
attribute [local go_sem] bs_size bs_toList bs_get bs_extract bs_append bs_lit0 bs_lit1 lit1_bs
set_option maxHeartbeats 4000000
set_option maxRecDepth 20000
theorem rscale_bad (p : PT) (s : List UInt8) (w : World) (h1 : Sht p.1) (h2 : Sht p.2) (h : chkP p ≠ 0) :
    Calls Tryz.prog 17 #[spV p, .string (bs s)] w (Ret w (spR ([], []) ((chkP p : Nat) : Int))) := by
  obtain ⟨W, hW, r0, r2, hsz, hbW⟩ := boxes2 w p
  have HC := Lib.hid (rcheck p W h1 h2)
  have hz : (((chkP p : Nat) : Int) != 0) = true := by simp; exact h
  have HR := Lib.hid r2
  have HB := Lib.hid hbW
  have HW := Lib.hid hW
  clear r0 r2 hbW h1 h2 h hW
  generalize ((chkP p : Nat) : Int) = c at *
  go_enter Tryz.func17, Tryz.ntmps17
  go_wp2_with fail
  rw [HW.out]
  refine HC.out.mono ?_
  rintro e w1 ⟨rfl, hb1⟩
  have hr := HR.out.below' hb1
  have f0 := hr.free 0
  have f1 := (hr.set 0 (.string ⟨#[]⟩)).free 1
  have c0 := hr.cell (i := 0) rfl
  have c1 := (hr.set 0 (.string ⟨#[]⟩)).cell (i := 1) rfl
  have hbz := HB.out.trans (hb1.mono HB.out.size)
  obtain ⟨q0, q1, q2⟩ := span_store (w0 := w) (.string ⟨#[]⟩) (.string ⟨#[]⟩) hr (by omega) hbz
  have HQ := Lib.hid q2
  clear hbz hr q2 hb1
  go_wp2
  refine bodyPost_ret (v := spR ([], []) c) (by simp [results, Tryz.results17, go_sem, q0, q1]; rfl) rfl ⟨rfl, HQ.out⟩
theorem rscale_bad2 (a : SQ) (s : List UInt8) (w : World) (ha : SpB 30 a) (hs : s.length ≤ 90000) (h : chkR s ≠ 0) :
    Calls Tryz.prog 17 #[spV (R a.1, R a.2), .string (bs s)] w (Ret w (spR ([], []) ((chkR s : Nat) : Int))) := by
  obtain ⟨W, hW, r0, r2, hsz, hbW⟩ := boxes2 w (R a.1, R a.2)
  have hc := rcheck (R a.1, R a.2) W (Sht.R ha.2.1) (Sht.R ha.2.2)
  rw [chkP_sp (by decide) ha] at hc
  have HC := Lib.hid hc
  have HS := Lib.hid (fun wx => check2_any s wx hs)
  have hz : (((chkR s : Nat) : Int) != 0) = true := by simp; exact h
  have HR := Lib.hid r2
  have HB := Lib.hid hbW
  simp only at hW
  have HW := Lib.hid hW
  clear r0 r2 hbW h hW hc
  generalize ((chkR s : Nat) : Int) = c at *
  go_enter Tryz.func17, Tryz.ntmps17
  go_wp2_with fail
  rw [HW.out]
  refine HC.out.mono ?_
  rintro e w1 ⟨rfl, hb1⟩
  go_wp2_with fail
  refine (HS.out _).mono ?_
  rintro e w2 ⟨rfl, hb2⟩
  have hb3 := hb1.trans (hb2.mono hb1.size)
  have hr := HR.out.below' hb3
  have f0 := hr.free 0
  have f1 := (hr.set 0 (.string ⟨#[]⟩)).free 1
  have c0 := hr.cell (i := 0) rfl
  have c1 := (hr.set 0 (.string ⟨#[]⟩)).cell (i := 1) rfl
  have hbz := HB.out.trans (hb3.mono HB.out.size)
  obtain ⟨q0, q1, q2⟩ := span_store (w0 := w) (.string ⟨#[]⟩) (.string ⟨#[]⟩) hr (by omega) hbz
  have HQ := Lib.hid q2
  clear hbz hr q2 hb1 hb2 hb3
  go_wp2
  refine bodyPost_ret (v := spR ([], []) c) (by simp [results, Tryz.results17, go_sem, q0, q1]; rfl) rfl ⟨rfl, HQ.out⟩
theorem rscale_pos (a : SQ) (q : Rat) (w : World) (ha : SpB 30 a) (hq : Bq 30 q) (hn : ¬ q < 0) :
    Calls Tryz.prog 17 #[spV (R a.1, R a.2), .string (bs (R q))] w (Ret w (spR (R (a.1 * q), R (a.2 * q)) 0)) := by
  obtain ⟨W, hW, r0, r2, hsz, hbW⟩ := boxes2 w (R a.1, R a.2)
  have hc := rcheck (R a.1, R a.2) W (Sht.R ha.2.1) (Sht.R ha.2.2)
  rw [chkP_sp (by decide) ha] at hc
  have HC := Lib.hid hc
  have hk := fun wx => check2_any (R q) wx (by have := hq.R_len (by decide); omega)
  rw [hq.chk (by decide)] at hk
  have HK := Lib.hid hk
  have ho := fun wx => order_R q 0 wx (hq.sh (by decide) (by decide)) (Bq_zero.sh (by decide) (by decide))
  rw [order_cmp, R_zero, show (bs [48]) = (⟨#[48]⟩ : ByteArray) from rfl] at ho
  have HO := Lib.hid ho
  have hsg : decide (cmpQ q 0 < 0) = false := decide_eq_false (fun h => hn (cmpQ_lt.1 h))
  have H1 := Lib.hid (fun wx => rmul a.1 q 30 30 wx ha.2.1 hq (by decide) (by decide) (by decide))
  have H2 := Lib.hid (fun wx => rmul a.2 q 30 30 wx ha.2.2 hq (by decide) (by decide) (by decide))
  simp only at hW r0
  have HR := Lib.hid (And.intro r0 r2)
  have HB := Lib.hid hbW
  have HW := Lib.hid hW
  clear r0 r2 hbW hW ha hq hc hn hk ho
  generalize R (a.1 * q) = s1 at *
  generalize R (a.2 * q) = s2 at *
  generalize cmpQ q 0 = sg at *
  generalize R q = z at *
  generalize R a.1 = x at *
  generalize R a.2 = y at *
  have HE := Lib.hid (fun wx => rended (s1, s2) wx)
  go_enter Tryz.func17, Tryz.ntmps17
  go_wp2_with fail
  rw [HW.out]
  refine HC.out.mono ?_
  rintro e w1 ⟨rfl, hb1⟩
  go_wp2_with fail
  refine (HK.out _).mono ?_
  rintro e w2 ⟨rfl, hb2⟩
  have hb2 := hb1.trans (hb2.mono hb1.size)
  have k0 := HR.out.1.below' hb2
  have d0 := k0.cell (i := 0) rfl
  have d1 := k0.cell (i := 1) rfl
  go_wp2_with fail
  refine (H1.out _).mono ?_
  rintro e w3 ⟨rfl, hb3⟩
  have hb3 := hb2.trans (hb3.mono hb2.size)
  have k0 := HR.out.1.below' hb3
  have d0 := k0.cell (i := 0) rfl
  have d1 := k0.cell (i := 1) rfl
  go_wp2_with fail
  refine (H2.out _).mono ?_
  rintro e w4 ⟨rfl, hb4⟩
  have hb4 := hb3.trans (hb4.mono hb3.size)
  go_wp2_with fail
  refine (HO.out _).mono ?_
  rintro e w5 ⟨rfl, hb5⟩
  have hb5 := hb4.trans (hb5.mono hb4.size)
  go_wp2_with fail
  refine (HE.out _).mono ?_
  rintro e w6 ⟨rfl, hb6⟩
  have hb6 := hb5.trans (hb6.mono hb5.size)
  have hr := HR.out.2.below' hb6
  have hbz := HB.out.trans (hb6.mono HB.out.size)
  have f0 := hr.free 0
  have f1 := (hr.set 0 (.string (bs s1))).free 1
  have c0 := hr.cell (i := 0) rfl
  have c1 := (hr.set 0 (.string (bs s1))).cell (i := 1) rfl
  obtain ⟨q0, q1, q2⟩ := span_store (w0 := w) (.string (bs s1)) (.string (bs s2)) hr (by omega) hbz
  have HQ := Lib.hid q2
  clear hbz hr q2 hb1 hb2 hb3 hb4 hb5 hb6 k0
  go_wp2
  refine bodyPost_ret (v := spR (s1, s2) 0) (by simp [results, Tryz.results17, go_sem, q0, q1]) rfl ⟨rfl, HQ.out⟩
theorem rscale_neg (a : SQ) (q : Rat) (w : World) (ha : SpB 30 a) (hq : Bq 30 q) (hn : q < 0) :
    Calls Tryz.prog 17 #[spV (R a.1, R a.2), .string (bs (R q))] w (Ret w (spR (R (a.2 * q), R (a.1 * q)) 0)) := by
  obtain ⟨W, hW, r0, r2, hsz, hbW⟩ := boxes2 w (R a.1, R a.2)
  have hc := rcheck (R a.1, R a.2) W (Sht.R ha.2.1) (Sht.R ha.2.2)
  rw [chkP_sp (by decide) ha] at hc
  have HC := Lib.hid hc
  have hk := fun wx => check2_any (R q) wx (by have := hq.R_len (by decide); omega)
  rw [hq.chk (by decide)] at hk
  have HK := Lib.hid hk
  have ho := fun wx => order_R q 0 wx (hq.sh (by decide) (by decide)) (Bq_zero.sh (by decide) (by decide))
  rw [order_cmp, R_zero, show (bs [48]) = (⟨#[48]⟩ : ByteArray) from rfl] at ho
  have HO := Lib.hid ho
  have hsg : decide (cmpQ q 0 < 0) = true := decide_eq_true (cmpQ_lt.2 hn)
  have H1 := Lib.hid (fun wx => rmul a.1 q 30 30 wx ha.2.1 hq (by decide) (by decide) (by decide))
  have H2 := Lib.hid (fun wx => rmul a.2 q 30 30 wx ha.2.2 hq (by decide) (by decide) (by decide))
  simp only at hW r0
  have HR := Lib.hid (And.intro r0 r2)
  have HB := Lib.hid hbW
  have HW := Lib.hid hW
  clear r0 r2 hbW hW ha hq hc hn hk ho
  generalize R (a.1 * q) = s1 at *
  generalize R (a.2 * q) = s2 at *
  generalize cmpQ q 0 = sg at *
  generalize R q = z at *
  generalize R a.1 = x at *
  generalize R a.2 = y at *
  have HE := Lib.hid (fun wx => rended (s2, s1) wx)
  go_enter Tryz.func17, Tryz.ntmps17
  go_wp2_with fail
  rw [HW.out]
  refine HC.out.mono ?_
  rintro e w1 ⟨rfl, hb1⟩
  go_wp2_with fail
  refine (HK.out _).mono ?_
  rintro e w2 ⟨rfl, hb2⟩
  have hb2 := hb1.trans (hb2.mono hb1.size)
  have k0 := HR.out.1.below' hb2
  have d0 := k0.cell (i := 0) rfl
  have d1 := k0.cell (i := 1) rfl
  go_wp2_with fail
  refine (H1.out _).mono ?_
  rintro e w3 ⟨rfl, hb3⟩
  have hb3 := hb2.trans (hb3.mono hb2.size)
  have k0 := HR.out.1.below' hb3
  have d0 := k0.cell (i := 0) rfl
  have d1 := k0.cell (i := 1) rfl
  go_wp2_with fail
  refine (H2.out _).mono ?_
  rintro e w4 ⟨rfl, hb4⟩
  have hb4 := hb3.trans (hb4.mono hb3.size)
  go_wp2_with fail
  refine (HO.out _).mono ?_
  rintro e w5 ⟨rfl, hb5⟩
  have hb5 := hb4.trans (hb5.mono hb4.size)
  go_wp2_with fail
  refine (HE.out _).mono ?_
  rintro e w6 ⟨rfl, hb6⟩
  have hb6 := hb5.trans (hb6.mono hb5.size)
  have hr := HR.out.2.below' hb6
  have hbz := HB.out.trans (hb6.mono HB.out.size)
  have f0 := hr.free 0
  have f1 := (hr.set 0 (.string (bs s2))).free 1
  have c0 := hr.cell (i := 0) rfl
  have c1 := (hr.set 0 (.string (bs s2))).cell (i := 1) rfl
  obtain ⟨q0, q1, q2⟩ := span_store (w0 := w) (.string (bs s2)) (.string (bs s1)) hr (by omega) hbz
  have HQ := Lib.hid q2
  clear hbz hr q2 hb1 hb2 hb3 hb4 hb5 hb6 k0
  go_wp2
  refine bodyPost_ret (v := spR (s2, s1) 0) (by simp [results, Tryz.results17, go_sem, q0, q1]) rfl ⟨rfl, HQ.out⟩
theorem rscale_ok3 (a : SQ) (q : Rat) (w : World) (ha : SpB 30 a) (hq : Bq 30 q) :
    Calls Tryz.prog 17 #[spV (R a.1, R a.2), .string (bs (R q))] w (Ret w (spR (R (sclQ a q).1, R (sclQ a q).2) 0)) := by
  unfold sclQ
  by_cases h : q < 0
  · rw [if_pos h]; exact rscale_neg a q w ha hq h
  · rw [if_neg h]; exact rscale_pos a q w ha hq h
end W
end Go.Proofs.YtpjaoapnangccaaGreatDoor
