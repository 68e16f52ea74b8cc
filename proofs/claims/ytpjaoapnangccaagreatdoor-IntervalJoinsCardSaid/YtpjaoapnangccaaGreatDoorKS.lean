/-
  Chapter 3's reference: Less, More, Common, In.
  Chapter 3's reference: the errors of sets, the limit, Has.
  Chapter 3's reference: Tidy, step by step.
  A region that draws its order: reads and calls that lay blocks at most, then a tail in one forced order (a store, an append). The head goes by the walk of the lexical order over a class of worlds; the tail is walked from any world of the class.
  Chapter 3's reference: Tidy.
-/
import Derived.Test.YtpjaoapnangccaaGreatDoorKL
import Derived.Deep.RegionHeld3
import Derived.StillTail
import Derived.Lib.QuietBelow
import Derived.BigQuiet
namespace Go.Proofs.YtpjaoapnangccaaGreatDoor
open Go Go.RowKit Go.Deep Go.Sort
/-- The boxes of two spans, and the result's cell. -/
structure CB (w W : World) (b : Nat) (p q : M.PT) : Prop where
  bel : Below w.heap.size w W
  r2 : Row W b 24 [.string (bs p.1), .string (bs p.2)]
  r3 : Row W (b + 1) 24 [.string (bs q.1), .string (bs q.2)]
  r4 : Row W (b + 1 + 1) 24 [.string ⟨#[]⟩, .string ⟨#[]⟩]
  low : w.heap.size ≤ b
theorem CB.to {w W W2 : World} {b : Nat} {p q : M.PT} (h : CB w W b p q) (hb : Below W.heap.size W W2) : CB w W2 b p q :=
  ⟨h.bel.trans (hb.mono h.bel.size), h.r2.below' hb, h.r3.below' hb, h.r4.below' hb, h.low⟩
theorem CB.to2 {w W E W2 : World} {b : Nat} {p q : M.PT} (h : CB w W b p q) (h1 : Below W.heap.size W E) (h2 : Below E.heap.size E W2) : CB w W2 b p q :=
  h.to (h1.trans (h2.mono h1.size))
theorem CB.store {w W : World} {b g : Nat} {p q : M.PT} (h : CB w W b p q) (hg : b + 1 + 1 < g) (x y : Value) : CB w ((W.setCell ⟨g, 0, none⟩ x).setCell ⟨g, 1, none⟩ y) b p q := by
  have hl := h.low
  refine ⟨(h.bel.setCell (p := ⟨g, 0, none⟩) (by show _ ≤ g; omega) x).setCell (p := ⟨g, 1, none⟩) (by show _ ≤ g; omega) y, ?_, ?_, ?_, hl⟩
  · exact (h.r2.other (a := ⟨g, 0, none⟩) (by show b ≠ g; omega) x).other (a := ⟨g, 1, none⟩) (by show b ≠ g; omega) y
  · exact (h.r3.other (a := ⟨g, 0, none⟩) (by show b + 1 ≠ g; omega) x).other (a := ⟨g, 1, none⟩) (by show b + 1 ≠ g; omega) y
  · exact (h.r4.other (a := ⟨g, 0, none⟩) (by show b + 1 + 1 ≠ g; omega) x).other (a := ⟨g, 1, none⟩) (by show b + 1 + 1 ≠ g; omega) y
abbrev Z24 : Obj := .cells #[.string ⟨#[]⟩, .string ⟨#[]⟩] 24 (0, 0)
abbrev ZRow (W : World) (g : Nat) : Prop := Row W g 24 [.string ⟨#[]⟩, .string ⟨#[]⟩]
theorem cb_start (w : World) (p q : M.PT) : CB w (((w.alloc (Obj.cells #[.string (bs p.1), .string (bs p.2)] 24)).alloc (Obj.cells #[.string (bs q.1), .string (bs q.2)] 24)).alloc Z24) w.heap.size p q := by
  have h1 : (w.alloc (Obj.cells #[.string (bs p.1), .string (bs p.2)] 24)).heap.size = w.heap.size + 1 := World.size_alloc _ _
  have h2 : ((w.alloc (Obj.cells #[.string (bs p.1), .string (bs p.2)] 24)).alloc (Obj.cells #[.string (bs q.1), .string (bs q.2)] 24)).heap.size = w.heap.size + 1 + 1 := by rw [World.size_alloc, h1]
  refine ⟨(((Below.refl _ _).alloc (Nat.le_refl _) _).alloc (by omega) _).alloc (by omega) _, (Row.alloc rnw _).alloc _, ?_, ?_, Nat.le_refl _⟩
  · rw [← h1]; exact Row.alloc rnw _
  · rw [← h2]; exact rnw
theorem genw {F : Exit → Act → World → Prop} {e : Exit} {a : Act} {W : World} (S : World → Prop) (h : S W) (k : ∀ W', S W' → F e a W') : F e a W := k W h
theorem CB.cells {w W : World} {b : Nat} {p q : M.PT} (h : CB w W b p q) : W.cell? ⟨b, 0, none⟩ = some (.string (bs p.1)) ∧ W.cell? ⟨b + 1, 0, none⟩ = some (.string (bs q.1)) ∧ W.cell? ⟨b, 1, none⟩ = some (.string (bs p.2)) ∧ W.cell? ⟨b + 1, 1, none⟩ = some (.string (bs q.2)) :=
  ⟨h.r2.cell rfl, h.r3.cell rfl, h.r2.cell rfl, h.r3.cell rfl⟩
theorem CB.alloc {w W : World} {b : Nat} {p q : M.PT} (h : CB w W b p q) : CB w (W.alloc Z24) b p q := h.to ((Below.refl _ _).alloc (Nat.le_refl _) _)
theorem CB.drew {w W : World} {b : Nat} {p q : M.PT} (h : CB w W b p q) : CB w W.drew b p q := h.to (RowKit.Below.drew (Below.refl _ _))
namespace W
open M
attribute [local go_sem] bs_size bs_toList bs_get bs_extract bs_append bs_lit0 bs_lit1 lit1_bs
set_option maxHeartbeats 1000000
set_option maxRecDepth 20000
/-- A bound for the numbers of the reference. -/
theorem order_B {a b : Rat} (ha : Bq 100 a) (hb : Bq 100 b) (w : World) : Calls Tryz.prog 56 #[.string (bs (R a)), .string (bs (R b))] w (Ret w (.int .i64 (cmpQ a b))) := order_R a b w (ha.sh (by decide) (by decide)) (hb.sh (by decide) (by decide))
theorem rless {a b : Rat} (ha : Bq 100 a) (hb : Bq 100 b) (w : World) : Calls Tryz.prog 102 #[.string (bs (R a)), .string (bs (R b))] w (Ret w (.string (bs (R (lessQ a b))))) := by
  have HO := Lib.hid (order_B ha hb w)
  unfold lessQ
  have hd : decide (cmpQ a b ≤ 0) = decide (a ≤ b) := by simp only [cmpQ_le0]
  clear ha hb
  by_cases h : a ≤ b
  · rw [if_pos h]
    rw [decide_eq_true h] at hd
    clear h
    generalize cmpQ a b = c at *
    generalize R a = p at *
    generalize R b = q at *
    go_enter Tryz.func102, Tryz.ntmps102
    go_wp2_with fail
    refine (HO.out).mono ?_
    rintro e w1 ⟨rfl, hb1⟩
    go_wp2
    go_ret
    exact Ret.of rfl hb1
  · rw [if_neg h]
    rw [decide_eq_false h] at hd
    clear h
    generalize cmpQ a b = c at *
    generalize R a = p at *
    generalize R b = q at *
    go_enter Tryz.func102, Tryz.ntmps102
    go_wp2_with fail
    refine (HO.out).mono ?_
    rintro e w1 ⟨rfl, hb1⟩
    go_wp2
    go_ret
    exact Ret.of rfl hb1
theorem rmore {a b : Rat} (ha : Bq 100 a) (hb : Bq 100 b) (w : World) : Calls Tryz.prog 103 #[.string (bs (R a)), .string (bs (R b))] w (Ret w (.string (bs (R (moreQ a b))))) := by
  have HO := Lib.hid (order_B ha hb w)
  unfold moreQ
  have hd : decide (0 ≤ cmpQ a b) = decide (b ≤ a) := by simp only [cmpQ_ge]
  clear ha hb
  by_cases h : b ≤ a
  · rw [if_pos h]
    rw [decide_eq_true h] at hd
    clear h
    generalize cmpQ a b = c at *
    generalize R a = p at *
    generalize R b = q at *
    go_enter Tryz.func103, Tryz.ntmps103
    go_wp2_with fail
    refine (HO.out).mono ?_
    rintro e w1 ⟨rfl, hb1⟩
    go_wp2
    go_ret
    exact Ret.of rfl hb1
  · rw [if_neg h]
    rw [decide_eq_false h] at hd
    clear h
    generalize cmpQ a b = c at *
    generalize R a = p at *
    generalize R b = q at *
    go_enter Tryz.func103, Tryz.ntmps103
    go_wp2_with fail
    refine (HO.out).mono ?_
    rintro e w1 ⟨rfl, hb1⟩
    go_wp2
    go_ret
    exact Ret.of rfl hb1
theorem rin (a : SQ) (x : Rat) (h1 : Bq 100 a.1) (h2 : Bq 100 a.2) (hx : Bq 100 x) (w : World) :
    Calls Tryz.prog 116 #[spV (R a.1, R a.2), .string (bs (R x))] w (Ret w (.bool (decide (a.1 ≤ x) && decide (x ≤ a.2)))) := by
  have HO1 := Lib.hid (order_B h1 hx)
  have HO2 := Lib.hid (order_B hx h2)
  have hrow := Row.new w 24 [.string (bs (R a.1)), .string (bs (R a.2))]
  have hb0 : Below w.heap.size w (w.alloc (.cells #[.string (bs (R a.1)), .string (bs (R a.2))] 24)) := (Below.refl _ _).alloc (Nat.le_refl _) _
  have HRW := Lib.hid (And.intro hrow hb0)
  have e1 : decide (cmpQ a.1 x ≤ 0) = decide (a.1 ≤ x) := by simp only [cmpQ_le0]
  have e2 : decide (cmpQ x a.2 ≤ 0) = decide (x ≤ a.2) := by simp only [cmpQ_le0]
  clear hrow hb0 h1 h2 hx
  generalize cmpQ a.1 x = c1 at *
  generalize cmpQ x a.2 = c2 at *
  generalize R a.1 = p1 at *
  generalize R a.2 = p2 at *
  generalize R x = px at *
  rw [← e1, ← e2]
  clear e1 e2
  by_cases hc : c1 ≤ 0
  · have hd : decide (c1 ≤ 0) = true := decide_eq_true hc
    go_enter Tryz.func116, Tryz.ntmps116
    go_wp2_with fail
    refine (HO1.out _).mono ?_
    rintro e w1 ⟨rfl, hb1⟩
    have q1 := (HRW.out.1.below' hb1).cell (i := 1) rfl
    have hb1' := HRW.out.2.trans (hb1.mono HRW.out.2.size)
    clear hb1
    go_wp2_with fail
    refine (HO2.out _).mono ?_
    rintro e w2 ⟨rfl, hb2⟩
    go_wp2
    all_goals
      go_ret
      exact Ret.of (by simp [hc] <;> omega) (Below.then hb1' hb2)
  · have hd : decide (c1 ≤ 0) = false := decide_eq_false hc
    go_enter Tryz.func116, Tryz.ntmps116
    go_wp2_with fail
    refine (HO1.out _).mono ?_
    rintro e w1 ⟨rfl, hb1⟩
    have hb1' := HRW.out.2.trans (hb1.mono HRW.out.2.size)
    go_wp2
    go_ret
    exact Ret.of (by simp; omega) hb1'
theorem meet_cmp (a b : SQ) : decide (0 < cmpQ (moreQ a.1 b.1) (lessQ a.2 b.2)) = !meetQ a b := by
  unfold meetQ comQ
  simp only [cmpQ_gt]
  by_cases h : moreQ a.1 b.1 ≤ lessQ a.2 b.2
  · rw [decide_eq_true h, decide_eq_false (Rat.not_lt.2 h)]; rfl
  · rw [decide_eq_false h, decide_eq_true (Rat.not_le.1 h)]; rfl
theorem rcommon (a b : SQ) (ha : SpB 100 a) (hb : SpB 100 b) (w : World) :
    Calls Tryz.prog 63 #[spV (R a.1, R a.2), spV (R b.1, R b.2)] w (Ret w (.tuple #[spV (if meetQ a b = true then (R (comQ a b).1, R (comQ a b).2) else ([], [])), .bool (meetQ a b)])) := by
  have HM := Lib.hid (rmore ha.2.1 hb.2.1)
  have HL := Lib.hid (rless ha.2.2 hb.2.2)
  have b1 : Bq 100 (moreQ a.1 b.1) := by unfold moreQ; split; exact ha.2.1; exact hb.2.1
  have b2 : Bq 100 (lessQ a.2 b.2) := by unfold lessQ; split; exact ha.2.2; exact hb.2.2
  have HO := Lib.hid (order_B b1 b2)
  have e1 := meet_cmp a b
  unfold comQ
  simp only
  clear b1 b2 ha hb
  generalize cmpQ (moreQ a.1 b.1) (lessQ a.2 b.2) = c at *
  generalize meetQ a b = m at *
  generalize R (moreQ a.1 b.1) = s1 at *
  generalize R (lessQ a.2 b.2) = s2 at *
  generalize R a.1 = p1 at *
  generalize R a.2 = p2 at *
  generalize R b.1 = q1 at *
  generalize R b.2 = q2 at *
  generalize hres : (Value.tuple #[spV (if m = true then (s1, s2) else ([], [])), Value.bool m]) = res
  have HRES := Lib.hid hres
  clear hres
  have HB := Lib.hid (cb_start w (p1, p2) (q1, q2))
  simp only at HB
  go_enter Tryz.func63, Tryz.ntmps63
  go_wp2_with fail
  generalize (((w.alloc (Obj.cells #[.string (bs p1), .string (bs p2)] 24)).alloc (Obj.cells #[.string (bs q1), .string (bs q2)] 24)).alloc Z24) = W0 at *
  have x0 := HB.out.r2.cell (i := 0) rfl
  have x1 := HB.out.r2.cell (i := 1) rfl
  have y0 := HB.out.r3.cell (i := 0) rfl
  have y1 := HB.out.r3.cell (i := 1) rfl
  clear x0 x1 y0 y1
  go_region_held3 (fun W => W.cell? ⟨w.heap.size, 0, none⟩ = some (.string (bs p1)) ∧ W.cell? ⟨w.heap.size + 1, 0, none⟩ = some (.string (bs q1)) ∧ W.cell? ⟨w.heap.size, 1, none⟩ = some (.string (bs p2)) ∧ W.cell? ⟨w.heap.size + 1, 1, none⟩ = some (.string (bs q2)))
    (first | exact HB6.out.cells | exact HB6.out.alloc.cells | exact (HB6.out.to ((Below.refl _ _).alloc (Nat.le_refl _) _)).cells | exact (HB6.out.store HB5.out.r4.lt _ _).cells | exact (HB6.out.store HB.out.r4.lt _ _).cells | exact HB5.out.cells | exact HB5.out.alloc.cells | exact HB.out.drew.cells | exact HB.out.drew.alloc.cells | exact HB.out.alloc.drew.cells | exact HB.out.cells)
    (first
    | (go_at_call 103; refine (HM.out _).mono ?_; rintro e w5 ⟨rfl, hb5⟩; first
        | (have HB5 := Lib.hid (HB.out.to2 (RowKit.Below.drew (Below.refl W0.heap.size W0)) hb5))
        | (have HB5 := Lib.hid (HB.out.to2 ((RowKit.Below.drew (Below.refl W0.heap.size W0)).alloc (Nat.le_refl _) Z24) hb5); have HN5 := Lib.hid ((show ZRow (W0.drew.alloc Z24) W0.heap.size from rnw).below' hb5))
        | (have HB5 := Lib.hid (HB.out.to2 (RowKit.Below.drew ((Below.refl W0.heap.size W0).alloc (Nat.le_refl _) Z24)) hb5); have HN5 := Lib.hid ((show ZRow (W0.alloc Z24).drew W0.heap.size from rnw).below' hb5)))
    | (go_at_call 102; refine (HL.out _).mono ?_; rintro e w6 ⟨rfl, hb6⟩; first
        | (have HB6 := Lib.hid (HB5.out.to hb6); have HN6 := Lib.hid (HN5.out.below' hb6); have n0 := HN6.out.cell (i := 0) rfl; have n1 := (HN6.out.set 0 (.string (bs s1))).cell (i := 1) rfl; have f0 := HN6.out.free 0; have f1 := (HN6.out.set 0 (.string (bs s1))).free 1)
        | (have HB6 := Lib.hid (HB5.out.to hb6))
        | (have HB6 := Lib.hid (HB5.out.to2 ((Below.refl w5.heap.size w5).alloc (Nat.le_refl _) Z24) hb6); have HN6 := Lib.hid ((show ZRow (w5.alloc Z24) w5.heap.size from rnw).below' hb6); have n0 := HN6.out.cell (i := 0) rfl; have n1 := (HN6.out.set 0 (.string (bs s1))).cell (i := 1) rfl; have f0 := HN6.out.free 0; have f1 := (HN6.out.set 0 (.string (bs s1))).free 1)))
  all_goals first
    | (refine genw (fun W => CB w W w.heap.size (p1, p2) (q1, q2) ∧ Row W w6.heap.size 24 [.string (bs s1), .string (bs s2)]) ⟨HB6.out.to ((Below.refl _ _).alloc (Nat.le_refl _) _), rnw⟩ ?_; intro W hst; generalize w6.heap.size = g at *)
    | (refine genw (fun W => CB w W w.heap.size (p1, p2) (q1, q2) ∧ Row W w5.heap.size 24 [.string (bs s1), .string (bs s2)]) ⟨HB6.out.store HB5.out.r4.lt _ _, (HN6.out.set 0 _).set 1 _⟩ ?_; intro W hst; generalize w5.heap.size = g at *)
    | (refine genw (fun W => CB w W w.heap.size (p1, p2) (q1, q2) ∧ Row W W0.heap.size 24 [.string (bs s1), .string (bs s2)]) ⟨HB6.out.store HB.out.r4.lt _ _, (HN6.out.set 0 _).set 1 _⟩ ?_; intro W hst; generalize W0.heap.size = g at *)
  all_goals
    have HST := Lib.hid hst
    have n0 := hst.2.cell (i := 0) rfl
    have n1 := hst.2.cell (i := 1) rfl
    clear hst HB6 HB5 HB HM HL
    try clear HN6
    try clear HN5
    try clear f0 f1
    go_wp2_with fail
    refine (HO.out _).mono ?_
    rintro e w7 ⟨rfl, hb7⟩
    have hcb := HST.out.1.to hb7
    have hrw := HST.out.2.below' hb7
    have m0 := hrw.cell (i := 0) rfl
    have m1 := hrw.cell (i := 1) rfl
    have f0 := hcb.r4.free 0
    have c0 := hcb.r4.cell (i := 0) rfl
    have HR4 := Lib.hid hcb.r4
    have HBE := Lib.hid hcb.bel
    clear HST n0 n1 hb7 hrw
    cases m with
    | false =>
      obtain rfl : (Value.tuple #[spV ([], []), Value.bool false]) = res := by rw [← HRES.out, if_neg (by decide)]
      clear HRES m0 m1
      have f1 := (HR4.out.set 0 (.string ⟨#[]⟩)).free 1
      have c1 := (HR4.out.set 0 (.string ⟨#[]⟩)).cell (i := 1) rfl
      obtain ⟨z0, z1, z2⟩ := span_store (w0 := w) (.string ⟨#[]⟩) (.string ⟨#[]⟩) HR4.out (by omega) HBE.out
      have HQ := Lib.hid z2
      clear z2 hcb
      go_wp2
      refine bodyPost_ret (v := .tuple #[spV ([], []), .bool false]) (by simp [results, Tryz.results63, go_sem, z0, z1]; rfl) rfl ⟨rfl, HQ.out⟩
    | true =>
      obtain rfl : (Value.tuple #[spV (s1, s2), Value.bool true]) = res := by rw [← HRES.out, if_pos rfl]
      clear HRES
      have f1 := (HR4.out.set 0 (.string (bs s1))).free 1
      have c1 := (HR4.out.set 0 (.string (bs s1))).cell (i := 1) rfl
      obtain ⟨z0, z1, z2⟩ := span_store (w0 := w) (.string (bs s1)) (.string (bs s2)) HR4.out (by omega) HBE.out
      have HQ := Lib.hid z2
      clear z2 hcb
      go_wp2
      refine bodyPost_ret (v := .tuple #[spV (s1, s2), .bool true]) (by simp [results, Tryz.results63, go_sem, z0, z1]) rfl ⟨rfl, HQ.out⟩
end W
end Go.Proofs.YtpjaoapnangccaaGreatDoor
namespace Go.Proofs.YtpjaoapnangccaaGreatDoor
open Go Go.RowKit Go.Deep Go.Sort
namespace W
open M
attribute [local go_sem] bs_size bs_toList bs_get bs_extract bs_append bs_lit0 bs_lit1 lit1_bs
set_option maxHeartbeats 1000000
set_option maxRecDepth 20000
theorem rset (va : Value) (pl : List PT) (w : World) (ha : RdP w va pl) (fa : FewS pl) (na : pl.length ≤ maxLen) : Calls Tryz.prog 75 #[va] w (Ret w (.int .i64 ((setC pl : Nat) : Int))) := by
  unfold maxLen at na
  obtain ⟨A, cap, rfl⟩ := ha.len
  unfold setC
  by_cases hb : 256 < pl.length
  · rw [if_pos hb]
    have hd : decide (256 < (pl.length : Int)) = true := by simp; omega
    clear ha
    go_enter Tryz.func75, Tryz.ntmps75
    go_wp2
    go_ret
    exact Ret.of rfl (Below.refl _ _)
  · rw [if_neg hb]
    have hd : decide (256 < (pl.length : Int)) = false := by simp; omega
    have hs := (fa.resolve_left hb).2
    have HW := Lib.hid ha
    have HPC := Lib.hid (fun i (hi : i < pl.length) wx => rcheck pl[i] wx (hs _ (List.getElem_mem hi)).1 (hs _ (List.getElem_mem hi)).2)
    generalize hch : ((chkL pl : Nat) : Int) = ch
    have HCH := Lib.hid hch
    have hl256 : pl.length ≤ 256 := by omega
    clear ha hs hch fa
    go_enter Tryz.func75, Tryz.ntmps75
    go_wp2
    go_loopw [3] (fun iv wr => ∃ i : Nat, iv = .int .i64 (i : Int) ∧ i ≤ pl.length ∧ Hid (chkL pl = chkL (pl.drop i)) ∧ Below w.heap.size w wr) (fun iv _ => pl.length - (intOf iv).toNat)
    case atStart => exact ⟨0, rfl, by omega, (rfl : chkL pl = chkL (pl.drop 0)), Below.refl _ _⟩
    case round =>
      obtain ⟨i, rfl, hi, hk, hbw⟩ := hrel
      by_cases hlt : i < pl.length
      · obtain ⟨b1, o1, rfl, hw⟩ := HW.out.row i hlt
        have hwr := hw.below' hbw
        have cv := hwr.val i hlt
        have cw := hwr.wt i hlt
        have hk2 := hk.out
        rw [chkL_drop pl i hlt] at hk2
        have HP := Lib.hid (HPC.out i hlt)
        clear hk hwr hw
        generalize hx : pl[i] = x at *
        clear hx
        obtain ⟨s, t⟩ := x
        simp only at cv cw
        by_cases hc : chkP (s, t) = 0
        · rw [if_pos hc] at hk2
          rw [hc] at HP
          have HK := Lib.hid hk2
          clear hk2 hc
          go_wp2_with fail
          refine (HP.out _).mono ?_
          rintro e w1 ⟨rfl, hb1⟩
          have hb1' := hbw.trans (hb1.mono hbw.size)
          go_wp2
          go_roundw
          case rel => exact ⟨i + 1, by go_num, by omega, HK, hb1'⟩
          case measure => simp [intOf]; omega
        · rw [if_neg hc] at hk2
          have hz : (((chkP (s, t) : Nat) : Int) != 0) = true := by simp; exact hc
          have HK := Lib.hid hk2
          clear hk2 hc
          generalize hcc : ((chkP (s, t) : Nat) : Int) = c at *
          have HC := Lib.hid hcc
          clear hcc
          go_wp2_with fail
          refine (HP.out _).mono ?_
          rintro e w1 ⟨rfl, hb1⟩
          have hb1' := hbw.trans (hb1.mono hbw.size)
          go_wp2
          go_ret
          exact Ret.of (by rw [← HCH.out, HK.out, HC.out]; rfl) hb1'
      · obtain rfl : i = pl.length := by omega
        have hk2 := hk.out
        rw [List.drop_length] at hk2
        have HK := Lib.hid hk2
        clear hk2 hk
        go_wp2
        go_ret
        exact Ret.of (by rw [← HCH.out, HK.out]; rfl) hbw
theorem rsets (va vb : Value) (la lb : List PT) (w : World) (ha : RdP w va la) (hb : RdP w vb lb) (fa : FewS la) (fb : FewS lb) (na : la.length ≤ maxLen) (nb : lb.length ≤ maxLen) :
    Calls Tryz.prog 59 #[va, vb] w (Ret w (.int .i64 ((setsC la lb : Nat) : Int))) := by
  have HA := Lib.hid (rset va la w ha fa na)
  have HB := Lib.hid (fun W (hW : Below w.heap.size w W) => rset vb lb W (hb.below hW) fb nb)
  unfold setsC
  clear ha hb
  by_cases h : setC la = 0
  · rw [if_pos h]
    rw [h] at HA
    clear h
    generalize ((setC lb : Nat) : Int) = c at *
    go_enter Tryz.func59, Tryz.ntmps59
    go_wp2_with fail
    refine (HA.out).mono ?_
    rintro e w1 ⟨rfl, hb1⟩
    go_wp2_with fail
    refine (HB.out _ hb1).mono ?_
    rintro e w2 ⟨rfl, hb2⟩
    go_wp2
    go_ret
    exact Ret.of rfl (Below.then hb1 hb2)
  · rw [if_neg h]
    have hz : (((setC la : Nat) : Int) != 0) = true := by simp; exact h
    clear h
    generalize ((setC la : Nat) : Int) = c at *
    go_enter Tryz.func59, Tryz.ntmps59
    go_wp2_with fail
    refine (HA.out).mono ?_
    rintro e w1 ⟨rfl, hb1⟩
    go_wp2
    go_ret
    exact Ret.of rfl hb1
theorem rlimited (A : Option Addr) (n cap : Nat) (w : World) (hn : n ≤ 256) : Calls Tryz.prog 60 #[.slice A n cap] w (fun e w' => e = .returned (.tuple #[.slice A n cap, .int .i64 0]) ∧ w' = w) := by
  have hd : decide (256 < (n : Int)) = false := by simp; omega
  go_enter Tryz.func60, Tryz.ntmps60
  go_wp2
  go_ret2
  exact ⟨rfl, rfl⟩
theorem rhas (va : Value) (l : List SQ) (x : Rat) (w : World) (ha : RdP w va (sx l)) (nl : l.length ≤ 100000) (hl : ∀ s ∈ l, Bq 100 s.1 ∧ Bq 100 s.2) (hx : Bq 100 x) : Calls Tryz.prog 78 #[va, .string (bs (R x))] w (Ret w (.bool (hasB l x))) := by
  obtain ⟨A, cap, rfl⟩ := ha.len
  have HW := Lib.hid ha
  rw [sx_len l] at HW ⊢
  have HIN := Lib.hid (fun i (hi : i < l.length) wx => rin l[i] x (hl _ (List.getElem_mem hi)).1 (hl _ (List.getElem_mem hi)).2 hx wx)
  generalize hh : hasB l x = hv
  have HH := Lib.hid hh
  clear ha hl hx hh
  go_enter Tryz.func78, Tryz.ntmps78
  go_wp2
  go_loopw [5] (fun iv wr => ∃ i : Nat, iv = .int .i64 (i : Int) ∧ i ≤ l.length ∧ Hid (hasB l x = hasB (l.drop i) x) ∧ Below w.heap.size w wr) (fun iv _ => l.length - (intOf iv).toNat)
  case atStart => exact ⟨0, rfl, by omega, (rfl : hasB l x = hasB (l.drop 0) x), Below.refl _ _⟩
  case round =>
    obtain ⟨i, rfl, hi, hk, hbw⟩ := hrel
    by_cases hlt : i < l.length
    · have hlt' : i < (sx l).length := by rw [sx_len]; exact hlt
      obtain ⟨b1, o1, rfl, hw⟩ := HW.out.row i hlt'
      have hwr := hw.below' hbw
      have cv := hwr.val i hlt'
      have cw := hwr.wt i hlt'
      rw [sx_get l i hlt] at cv cw
      simp only at cv cw
      have hk2 : hasB l x = ((decide (l[i].1 ≤ x) && decide (x ≤ l[i].2)) || hasB (l.drop (i + 1)) x) := by
        rw [hk.out, List.drop_eq_getElem_cons hlt]; unfold hasB; rw [List.any_cons]
      have HP := Lib.hid (HIN.out i hlt)
      clear hk hwr hw hlt'
      generalize (decide (l[i].1 ≤ x) && decide (x ≤ l[i].2)) = d at *
      generalize R l[i].1 = p1 at *
      generalize R l[i].2 = p2 at *
      cases d with
      | true =>
        have HK := Lib.hid hk2
        clear hk2
        go_wp2_with fail
        refine (HP.out _).mono ?_
        rintro e w1 ⟨rfl, hb1⟩
        have hb1' := hbw.trans (hb1.mono hbw.size)
        go_wp2
        go_ret
        exact Ret.of (by rw [← HH.out, HK.out]; rfl) hb1'
      | false =>
        have HK := Lib.hid hk2
        clear hk2
        go_wp2_with fail
        refine (HP.out _).mono ?_
        rintro e w1 ⟨rfl, hb1⟩
        have hb1' := hbw.trans (hb1.mono hbw.size)
        go_wp2
        go_roundw
        case rel => exact ⟨i + 1, by go_num, by omega, Lib.hid (by rw [HK.out]; rfl), hb1'⟩
        case measure => simp [intOf]; omega
    · obtain rfl : i = l.length := by omega
      have hk2 := hk.out
      rw [List.drop_length] at hk2
      have HK := Lib.hid hk2
      clear hk2 hk
      go_wp2
      go_ret
      exact Ret.of (by rw [← HH.out, HK.out]; rfl) hbw
end W
end Go.Proofs.YtpjaoapnangccaaGreatDoor
namespace Go.Proofs.YtpjaoapnangccaaGreatDoor
open Go Go.RowKit Go.Deep Go.Sort
namespace M
theorem lessQ_bq {k : Nat} {a b : Rat} (ha : Bq k a) (hb : Bq k b) : Bq k (lessQ a b) := by unfold lessQ; split; exact ha; exact hb
theorem moreQ_bq {k : Nat} {a b : Rat} (ha : Bq k a) (hb : Bq k b) : Bq k (moreQ a b) := by unfold moreQ; split; exact ha; exact hb
theorem hullQ_sp {k : Nat} {x a : SQ} (hx : SpB k x) (ha : SpB k a) : SpB k (hullQ x a) := ⟨hullQ_right hx.1, lessQ_bq hx.2.1 ha.2.1, moreQ_bq hx.2.2 ha.2.2⟩
theorem tidF_zero (out : List SQ) (x : SQ) : tidF out x 0 = (x, []) := rfl
theorem tidF_succ (out : List SQ) (x : SQ) (k : Nat) (h : k < out.length) : tidF out x (k + 1) = tstep (tidF out x k) out[k] := by
  unfold tidF
  rw [List.take_succ_eq_append_getElem h, List.foldl_append]; rfl
theorem tidF_sp {k0 : Nat} {out : List SQ} {x : SQ} (ho : ∀ s ∈ out, SpB k0 s) (hx : SpB k0 x) : ∀ k, k ≤ out.length → SpB k0 (tidF out x k).1 ∧ (∀ s ∈ (tidF out x k).2, SpB k0 s) ∧ (tidF out x k).2.length ≤ k
  | 0, _ => ⟨hx, (fun s hs => by cases hs), Nat.le_refl _⟩
  | k + 1, h => by
    obtain ⟨h1, h2, h3⟩ := tidF_sp ho hx k (by omega)
    rw [tidF_succ out x k (by omega)]
    have ha := ho _ (List.getElem_mem (show k < out.length by omega))
    unfold tstep
    split
    · exact ⟨hullQ_sp h1 ha, h2, by simp only; omega⟩
    · refine ⟨h1, fun s hs => ?_, by simp; omega⟩
      rcases List.mem_append.1 hs with h | h
      · exact h2 s h
      · rw [List.mem_singleton.1 h]; exact ha
theorem tput_mem {s : SQ × List SQ} {a : SQ} (h : a ∈ tput s) : a = s.1 ∨ a ∈ s.2 := by
  unfold tput at h
  rcases List.mem_append.1 h with h | h
  · rcases List.mem_append.1 h with h | h
    · exact Or.inr (List.mem_of_mem_take h)
    · exact Or.inl (List.mem_singleton.1 h)
  · exact Or.inr (List.mem_of_mem_drop h)
theorem tput_len (s : SQ × List SQ) : (tput s).length = s.2.length + 1 := by
  unfold tput
  have := cntLo_le s.2 s.1.1
  simp; omega
/-- The list behind the first i spans. -/
def tdy (l : List SQ) (i : Nat) : List SQ := tidy (l.take i)
theorem tdy_zero (l : List SQ) : tdy l 0 = [] := rfl
theorem tdy_succ (l : List SQ) (i : Nat) (h : i < l.length) : tdy l (i + 1) = tidI (tdy l i) l[i] := by
  unfold tdy tidy
  rw [List.take_succ_eq_append_getElem h, List.foldl_append]; rfl
theorem tdy_end (l : List SQ) : tdy l l.length = tidy l := by unfold tdy; rw [List.take_length]
theorem tdy_sp {k0 : Nat} {l : List SQ} (hl : ∀ s ∈ l, SpB k0 s) : ∀ i, i ≤ l.length → (∀ s ∈ tdy l i, SpB k0 s) ∧ (tdy l i).length ≤ i
  | 0, _ => ⟨(fun s hs => by cases hs), Nat.le_refl _⟩
  | i + 1, h => by
    obtain ⟨h1, h2⟩ := tdy_sp hl i (by omega)
    rw [tdy_succ l i (by omega)]
    have hx := hl _ (List.getElem_mem (show i < l.length by omega))
    obtain ⟨h3, h4, h5⟩ := tidF_sp h1 hx (tdy l i).length (Nat.le_refl _)
    unfold tidI
    refine ⟨fun s hs => ?_, by rw [tput_len]; omega⟩
    rcases tput_mem hs with h | h
    · rw [h]; exact h3
    · exact h4 s h
theorem tidy_sp {k0 : Nat} {l : List SQ} (hl : ∀ s ∈ l, SpB k0 s) : (∀ s ∈ tidy l, SpB k0 s) ∧ (tidy l).length ≤ l.length := by
  have := tdy_sp hl l.length (Nat.le_refl _)
  rwa [tdy_end] at this
theorem cntLo_lt : ∀ (l : List SQ) (v : Rat) (k : Nat) (h : k < l.length), k < cntLo l v → l[k].1 < v
  | a :: t, v, 0, _, h => by
    unfold cntLo at h
    split at h
    · assumption
    · cases h
  | a :: t, v, k + 1, hk, h => by
    unfold cntLo at h
    split at h
    · exact cntLo_lt t v k (by simpa using hk) (by omega)
    · cases h
theorem cntLo_stop : ∀ (l : List SQ) (v : Rat) (h : cntLo l v < l.length), ¬ (l[cntLo l v]'h).1 < v
  | a :: t, v, h => by
    by_cases ha : a.1 < v
    · have e : cntLo (a :: t) v = cntLo t v + 1 := by rw [cntLo, if_pos ha]
      have h2 : cntLo t v < t.length := by rw [e] at h; simpa using h
      have := cntLo_stop t v h2
      simpa [e] using this
    · have e : cntLo (a :: t) v = 0 := by rw [cntLo, if_neg ha]
      simpa [e] using ha
end M
end Go.Proofs.YtpjaoapnangccaaGreatDoor
namespace Go.Proofs.YtpjaoapnangccaaGreatDoor
open Go Go.Sort Go.RowKit
section
variable {P : Program} {ops : Array Oper} {md : Region.Mode} {C : World → Prop}
/-- Whatever order is picked, as long as the head lasts; then L. -/
def anyT (P : Program) (md : Region.Mode) (ops : Array Oper) (C : World → Prop) (n : Nat) (L : Array Bool → Act → Prop) : Nat → Array Bool → Act → Prop
  | 0, ls, a => L ls a
  | f + 1, ls, a => Region.ready md ops ls ≠ [] ∧ ∀ i ∈ Region.ready md ops ls, i < n ∧ qOp P ops C i (anyT P md ops C n L f (ls.setIfInBounds i true)) a
theorem wpAny_of_anyT {n g : Nat} {L : Array Bool → Act → Prop} {Q : Exit → Act → World → Prop} (hL : ∀ ls a w, C w → L ls a → wpAny P md ops Q g ls a w) :
    ∀ (f : Nat) (ls : Array Bool) (a : Act) (w : World), C w → anyT P md ops C n L f ls a → wpAny P md ops Q (f + g) ls a w := by
  intro f
  induction f with
  | zero => intro ls a w hw h; rw [Nat.zero_add]; exact hL _ _ _ hw h
  | succ f ih =>
    intro ls a w hw h
    rw [Nat.succ_add]
    exact ⟨fun h0 => absurd h0 h.1, fun i hi => wpOp_of_qOp hw (fun a' w' hw' h' => ih _ a' w' hw' h') (h.2 i hi).2⟩
theorem anyT_first {n i : Nat} {oi : Oper} {v : Value} {L : Array Bool → Act → Prop} (hi : ops[i]? = some oi) (hsel : ∀ (j : Nat) (o : Oper) cs b, ops[j]? = some o → o.op ≠ .select cs b)
    (hs : Region.sinkB md ops n = true) (hc : Region.chainB md ops n = true) (hn : n < ops.size) (hin : i < n) (hdone : ∀ ls a, L ls a → ∀ j ∈ Region.ready md ops ls, n ≤ j) :
    ∀ (f : Nat) (ls : Array Bool) (a : Act), HeadInv md ops n ls →
      (∀ j oj, ops[j]? = some oj → j ≠ i → ls.getD j true = false → (∀ e ∈ oj.after, Region.binds md e = true → e.on ≠ i) → oi.apart ops oj = true) →
      i ∈ Region.ready md ops ls → YieldsIn P ops C oi v a → anyT P md ops C n L f (ls.setIfInBounds i true) (a.put oi.dst v) → anyT P md ops C n L (f + 1) ls a := by
  intro f
  induction f with
  | zero =>
    intro ls a inv _ hr hy H
    refine ⟨List.ne_nil_of_mem hr, fun j hj => ?_⟩
    have hjn : j < n := Nat.lt_of_not_le fun h => tail_waits hs hc hn inv _ i rfl hin (mem_ready.1 hr).1 j h hj
    refine ⟨hjn, ?_⟩
    by_cases e : j = i
    · subst e; exact hy.qOp hi H
    · exact absurd (hdone _ _ H j (ready_mono hj e)) (by omega)
  | succ f ih =>
    intro ls a inv hfree hr hy H
    refine ⟨List.ne_nil_of_mem hr, fun j hj => ?_⟩
    have hjn : j < n := Nat.lt_of_not_le fun h => tail_waits hs hc hn inv _ i rfl hin (mem_ready.1 hr).1 j h hj
    refine ⟨hjn, ?_⟩
    by_cases e : j = i
    · subst e; exact hy.qOp hi H
    · obtain ⟨hju, oj, hoj, hall⟩ := mem_ready.1 hj
      have hno : ∀ e ∈ oj.after, Region.binds md e = true → e.on ≠ i := fun e he hb heq => by
        have h2 := hall e he hb
        rw [heq, getD_both (mem_ready.1 hr).1] at h2
        cases h2
      refine qOp_mono (fun a' h3 => ih (ls.setIfInBounds j true) a' (inv.set hj hjn) (fun k ok hk hki hun h4 => ?_) (ready_mono hr (Ne.symm e)) h3.1 (by rw [Array.setIfInBounds_comm _ _ e]; exact h3.2))
        (qOp_put hoj (hfree j oj hoj e hju hno) (fun cs b => hsel i oi cs b hi) (fun cs b => hsel j oj cs b hoj) hy (H.2 j (ready_mono hj e)).2)
      refine hfree k ok hk hki ?_ h4
      by_cases ek : j = k
      · subst ek; exact hju
      · rwa [getD_set_ne true ek] at hun
theorem anyT_lex {n g : Nat} {Lq : Act → Prop} (hsel : Region.noSelect ops = true) (hs : Region.sinkB md ops n = true) (hc : Region.chainB md ops n = true) (hn : n < ops.size) :
    ∀ (l : List Oper) (k : Nat) (ls : Array Bool) (a : Act), (∀ j, j < l.length → l[j]? = ops[k + j]?) → k + l.length = n → HeadInv md ops n ls → Region.lexHead md ops g l.length k ls = true → wpQuiet P ops C Lq l a →
      anyT P md ops C n (fun ls' a' => Region.seqB md ops g n ls' = true ∧ Lq a') l.length ls a := by
  intro l
  induction l with
  | nil =>
    intro k ls a _ hk _ hB h
    have e : k = n := by simpa using hk
    subst e
    exact ⟨by simpa [Region.lexHead] using hB, h⟩
  | cons o l ih =>
    intro k ls a hl hk inv hB h
    have h0 : ops[k]? = some o := by simpa using (hl 0 (by simp)).symm
    simp only [List.length_cons, Region.lexHead, Bool.and_eq_true] at hB
    have hkn : k < n := by simp only [List.length_cons] at hk; omega
    have hr : k ∈ Region.ready md ops ls := by simpa using hB.1.1
    obtain ⟨v, hy, hK⟩ := yieldsIn_of_qOp h0 (show qOp P ops C k (wpQuiet P ops C Lq l) a by unfold qOp; simp only [h0]; exact h)
    exact anyT_first h0 (Region.noSelect_spec hsel) hs hc hn hkn (fun ls' a' hL => seqB_ready hL.1) l.length ls a inv (Region.free_spec h0 hB.1.2) hr hy
      (ih (k + 1) _ _ (fun j hj => by have := hl (j + 1) (by simp; omega); simpa [Nat.add_assoc, Nat.add_comm 1 j] using this) (by simp only [List.length_cons] at hk; omega) (inv.set hr hkn) hB.2 hK)
theorem region_quiet_tail {id : Nat} {Q : Exit → Act → World → Prop} {a : Act} {w : World} {l : List Oper} (n : Nat) (hm : P.follows .mixedOrders = true) (hB : Region.lexTailB .any l.toArray n = true) (hC : C { w with drawn := w.drawn + 1 })
    (h : wpQuiet P l.toArray C (fun a' => ∀ w', C w' → wpList P l.toArray Q (l.drop n) a' w') (l.take n) a) : (Code.region id l.toArray true).wp P Q a w := by
  simp only [Region.lexTailB, Bool.and_eq_true, decide_eq_true_eq] at hB
  obtain ⟨⟨⟨⟨hsel, hn⟩, hs⟩, hc⟩, hlex⟩ := hB
  have hn2 : n < l.length := by simpa using hn
  have ht : (l.take n).length = n := by simp; omega
  have hd : (l.drop n).length = l.toArray.size - n := by simp
  have inv : HeadInv .any l.toArray n (Array.replicate l.toArray.size false) :=
    ⟨by simp, fun j oj _ h2 => (by rw [getD_replicate_false] at h2; cases h2), fun t _ h2 => getD_in (by simpa using h2) (getD_replicate_false _ _)⟩
  have H := anyT_lex (md := .any) (g := l.toArray.size - n) hsel hs hc hn (l.take n) 0 _ a (fun j hj => by rw [ht] at hj; simp [hj]) (by simpa using ht) inv (by rw [ht]; exact hlex) h
  refine wp_region_any hm ?_
  have h2 := wpAny_of_anyT (Q := Q) (g := l.toArray.size - n) (fun ls a' w' hw' hL => by
    have h3 := wpAny_of_seq (md := .any) (Q' := Q) (l.drop n) n ls a' w' (fun j => by simp [List.getElem?_drop]) (by rw [hd]; exact hL.1) (hL.2 w' hw')
    rwa [hd] at h3) _ _ _ _ hC H
  rw [ht, show n + (l.toArray.size - n) = l.toArray.size by omega] at h2
  exact h2
/-- The same, the class being 'blocks may have been laid'. -/
theorem region_below_tail {id : Nat} {Q : Exit → Act → World → Prop} {a : Act} {w : World} {l : List Oper} (n : Nat) (hm : P.follows .mixedOrders = true) (hB : Region.lexTailB .any l.toArray n = true)
    (h : wpQuiet P l.toArray (fun w' => ∃ p : Regrown, w' = grow (redrawn w p.d) p.os) (fun a' => ∀ w', (∃ p : Regrown, w' = grow (redrawn w p.d) p.os) → wpList P l.toArray Q (l.drop n) a' w') (l.take n) a) : (Code.region id l.toArray true).wp P Q a w :=
  region_quiet_tail n hm hB ⟨⟨w.drawn + 1, #[]⟩, by rw [grow_empty]; rfl⟩ h
end
end Go.Proofs.YtpjaoapnangccaaGreatDoor
namespace Go.Proofs.YtpjaoapnangccaaGreatDoor
open Go Go.RowKit Go.Deep Go.Sort
theorem bel2 {W E W2 : World} (h1 : Below W.heap.size W E) (h2 : Below E.heap.size E W2) : Below W.heap.size W W2 := h1.trans (h2.mono h1.size)
theorem rnew0 {w : World} {b : Nat} {t : TypeId} {xs : List Value} (hb : b = w.heap.size) : Row (w.alloc (.cells xs.toArray t (0, 0))) b t xs := by subst hb; exact rnw
theorem row_grown {w w' : World} {row : Option Nat} {b : Nat} {t : TypeId} {xs : List Value} (h : Row w b t xs) (hg : w.grownBy w' row) (hne : some b ≠ row) : Row w' b t xs := by
  have hlt := h.lt
  unfold Row at *
  rw [hg.block b hlt hne]; exact h
theorem src_row {w : World} {b : Nat} {p q : List UInt8} (h : Row w b 24 [.string (bs p), .string (bs q)]) : SrcP w (.slice (some ⟨b, 0, none⟩) 1 1) [(p, q)] :=
  SrcP.of ⟨h.lt, fun i hi => by
    obtain rfl : i = 0 := by simpa using hi
    exact h.cell rfl, fun i hi => by
    obtain rfl : i = 0 := by simpa using hi
    exact h.cell rfl⟩ rfl
theorem app_bel {W w w' : World} {B : Nat} {v : Value} {l : List M.PT} (h : OwnP w B v l) (hb : Below W.heap.size W w) (hB : W.heap.size ≤ B) (hg : w.grownBy w' v.ownBlock) : Below W.heap.size W w' :=
  hb.grown hg hb.size fun k hk => Nat.le_trans hB (World.ownsRow.lt h k hk).1
theorem OwnP.forms2 {w : World} {B : Nat} {v : Value} {l : List M.PT} (h : OwnP w B v l) : (v = .slice none 0 0 ∧ l = []) ∨ ∃ g cap, v = .slice (some ⟨g, 0, none⟩) l.length cap ∧ B ≤ g ∧ l.length ≤ cap ∧ cap ≤ maxLen ∧ PSl w g 0 l := by
  by_cases hl : l = []
  · subst hl
    have hlt := World.ownsRow.lt h
    obtain ⟨h1, h2⟩ := h
    rcases h2 with ⟨hv, _⟩ | ⟨g, cap, cur, hv, hB, hh, hc, hm, _, ht⟩
    · exact Or.inl ⟨hv, rfl⟩
    · exact Or.inr ⟨g, cap, hv, hB, hc, hm, (hlt g (by rw [hv]; rfl)).2, fun i hi => absurd hi (Nat.not_lt_zero _), fun i hi => absurd hi (Nat.not_lt_zero _)⟩
  · exact Or.inr (OwnP.form h hl)
/-- A list that is made behind W. -/
def ApP (W W' : World) (v : Value) (l : List M.PT) : Prop := OwnP W' W.heap.size v l ∧ Below W.heap.size W W'
/-- Within a round of Tidy: the new span's cell, and the row of what is left. -/
structure TIn (W0 W : World) (rv : Value) (s : M.SQ × List M.SQ) : Prop where
  bel : Below W0.heap.size W0 W
  own : OwnP W (W0.heap.size + 1) rv (M.sx s.2)
  cel : Row W W0.heap.size 24 [.string (bs (M.R s.1.1)), .string (bs (M.R s.1.2))]
theorem TIn.to {W0 W W2 : World} {rv : Value} {s : M.SQ × List M.SQ} (h : TIn W0 W rv s) (hb : Below W.heap.size W W2) : TIn W0 W2 rv s :=
  ⟨h.bel.trans (hb.mono h.bel.size), h.own.below hb, h.cel.below' hb⟩
theorem TIn.cells {W0 W : World} {rv : Value} {s : M.SQ × List M.SQ} {b o : Nat} {out : List M.SQ} (h : TIn W0 W rv s) (hp : PSl W0 b o (M.sx out)) (k : Nat) (hk : k < out.length) :
    W.cell? ⟨b, o + k * 2, none⟩ = some (.string (bs (M.R out[k].1))) ∧ W.cell? ⟨b, o + k * 2 + 1, none⟩ = some (.string (bs (M.R out[k].2))) ∧
      W.cell? ⟨W0.heap.size, 0, none⟩ = some (.string (bs (M.R s.1.1))) ∧ W.cell? ⟨W0.heap.size, 1, none⟩ = some (.string (bs (M.R s.1.2))) := by
  have hp2 := hp.below' h.bel
  have hk2 : k < (M.sx out).length := by rw [M.sx_len]; exact hk
  have c0 := hp2.val k hk2
  have c1 := hp2.wt k hk2
  rw [M.sx_get out k hk] at c0 c1
  exact ⟨c0, c1, h.cel.cell rfl, h.cel.cell rfl⟩
theorem TIn.app {W0 W W2 : World} {rv v2 : Value} {s : M.SQ × List M.SQ} (h : TIn W0 W rv s) (a : M.SQ) (ho : OwnP W2 (W0.heap.size + 1) v2 (M.sx s.2 ++ [(M.R a.1, M.R a.2)])) (hk : Keeps (W0.heap.size + 1) W W2) : TIn W0 W2 v2 (s.1, s.2 ++ [a]) :=
  ⟨hk W0.heap.size W0 (by omega) h.bel, by rw [M.sx_append]; exact ho, Row.below h.cel (hk (W0.heap.size + 1) W (Nat.le_refl _) (Below.refl _ _)) (by omega)⟩
theorem TIn.hull {W0 W : World} {rv : Value} {s : M.SQ × List M.SQ} (h : TIn W0 W rv s) (y : M.SQ) :
    TIn W0 ((W.setCell ⟨W0.heap.size, 0, none⟩ (.string (bs (M.R y.1)))).setCell ⟨W0.heap.size, 1, none⟩ (.string (bs (M.R y.2)))) rv (y, s.2) :=
  ⟨(h.bel.setCell (p := ⟨W0.heap.size, 0, none⟩) (Nat.le_refl _) _).setCell (p := ⟨W0.heap.size, 1, none⟩) (Nat.le_refl _) _,
    ownsRow_setCell_below (ownsRow_setCell_below h.own (by show W0.heap.size < W0.heap.size + 1; omega) _) (by show W0.heap.size < W0.heap.size + 1; omega) _, (h.cel.set 0 _).set 1 _⟩
/-- The call returns a list of its own. -/
def TidP (l : List M.SQ) (w : World) (e : Ending) (w' : World) : Prop := ∃ v, e = .returned v ∧ OwnP w' w.heap.size v (M.sx l) ∧ Below w.heap.size w w'
namespace W
open M
attribute [local go_sem] bs_size bs_toList bs_get bs_extract bs_append bs_lit0 bs_lit1 lit1_bs
set_option maxHeartbeats 2000000
set_option maxRecDepth 20000
theorem rtidy (va : Value) (l : List SQ) (w : World) (ha : RdP w va (sx l)) (nl : l.length ≤ 5000) (hl : ∀ s ∈ l, SpB 100 s) : Calls Tryz.prog 61 #[va] w (TidP (tidy l) w) := by
  have HW := Lib.hid ha
  obtain ⟨A, cap, rfl⟩ := ha.len
  rw [sx_len l] at HW ⊢
  have HD := Lib.hid (fun i (hi : i ≤ l.length) => tdy_sp hl i hi)
  have HX := Lib.hid (fun i (hi : i < l.length) => hl _ (List.getElem_mem hi))
  have HS := Lib.hid (fun i (hi : i < l.length) => tdy_succ l i hi)
  have HE := Lib.hid (tdy_end l)
  clear ha hl
  go_enter Tryz.func61, Tryz.ntmps61
  go_wp2
  go_loopw [3, 4] (fun ov iv wr => ∃ (i : Nat) (vo : Value), iv = .int .i64 (i : Int) ∧ ov = vo ∧ i ≤ l.length ∧ Hid (OwnP wr w.heap.size vo (sx (tdy l i))) ∧ Below w.heap.size w wr) (fun _ iv _ => l.length - (intOf iv).toNat)
  case atStart => exact ⟨0, _, rfl, rfl, by omega, Lib.hid (OwnP.nil _ _), Below.refl _ _⟩
  case round =>
    obtain ⟨i, vo, rfl, hvo, hi, hown, hbw⟩ := hrel
    have hvo := hvo.symm
    subst hvo
    by_cases hlt : i < l.length
    · have hlt' : i < (sx l).length := by rw [sx_len]; exact hlt
      have HW2 := HW.out
      rw [← sx_len l] at HW2
      obtain ⟨b1, o1, rfl, hw⟩ := HW2.row i hlt'
      have hwr := hw.below' hbw
      have cv := hwr.val i hlt'
      have cw := hwr.wt i hlt'
      rw [sx_get l i hlt] at cv cw
      simp only at cv cw
      have hdd := HD.out i hi
      have hxx := HX.out i hlt
      have HSI := Lib.hid (HS.out i hlt)
      have hrd := hown.out.rd
      obtain ⟨Ao, co, rfl⟩ := hrd.len
      rw [sx_len (tdy l i)] at hown hrd ⊢
      clear hwr hw hlt' HW2
      generalize tdy l i = out at *
      generalize l[i] = x at *
      obtain ⟨W0, hW0⟩ : ∃ y, y = wr := ⟨wr, rfl⟩
      subst hW0
      have HT0 := Lib.hid (show TIn W0 (W0.alloc (.cells #[.string (bs (R x.1)), .string (bs (R x.2))] 24)) (.slice none 0 0) (tidF out x 0) from ⟨(Below.refl _ _).alloc (Nat.le_refl _) _, OwnP.nil _ _, rnw⟩)
      have HRD := Lib.hid hrd
      have HSP := Lib.hid (fun k (hk : k ≤ out.length) => tidF_sp hdd.1 hxx k hk)
      have HOS := Lib.hid hdd
      have hno : out.length ≤ 5000 := by have := hdd.2; omega
      clear hrd hdd hxx
      go_wp2
      go_loopw [6, 7] (fun rv kv wr2 => ∃ (k : Nat) (vr : Value), kv = .int .i64 (k : Int) ∧ rv = vr ∧ k ≤ out.length ∧ Hid (TIn W0 wr2 vr (tidF out x k))) (fun _ kv _ => out.length - (intOf kv).toNat)
      case atStart => exact ⟨0, _, rfl, rfl, by omega, HT0⟩
      case round =>
        clear HT0
        obtain ⟨k, vr, rfl, hvr, hk, ht⟩ := hrel
        have hvr := hvr.symm
        subst hvr
        by_cases hkn : k < out.length
        · have hrd2 := HRD.out
          rw [← sx_len out] at hrd2
          obtain ⟨b2, o2, rfl, hp⟩ := hrd2.row k (by rw [sx_len]; exact hkn)
          have HCL := Lib.hid (fun W rv s (h : TIn W0 W rv s) => h.cells hp k hkn)
          have hsk := HSP.out k hk
          have HK1 := Lib.hid (tidF_succ out x k hkn)
          have hao := HOS.out.1 _ (List.getElem_mem hkn)
          have hk0 : (0 : Int) ≤ (k : Int) := by omega
          have hks : (k : Int) < (out.length : Int) := by omega
          have HC := Lib.hid (fun W => rcommon out[k] (tidF out x k).1 hao hsk.1 W)
          have HLE := Lib.hid (fun W => rless hsk.1.2.1 hao.2.1 W)
          have HMO := Lib.hid (fun W => rmore hsk.1.2.2 hao.2.2 W)
          have hln := hsk.2.2
          clear hrd2 hp hsk hao hvr
          generalize tidF out x k = s at *
          generalize out[k] = a at *
          obtain ⟨y, rest⟩ := s
          have HT := ht
          clear ht
          simp only at HC HLE HMO hln
          unfold tstep at HK1
          simp only at HK1
          by_cases hm : meetQ a y = true
          · rw [if_pos hm] at HK1
            rw [if_pos hm, hm] at HC
            generalize (R (comQ a y).1, R (comQ a y).2) = cp at *
            obtain ⟨cp1, cp2⟩ := cp
            go_wp2_with fail
            go_region_held3 (fun W => W.cell? ⟨b2, o2 + k * 2, none⟩ = some (.string (bs (R a.1))) ∧ W.cell? ⟨b2, o2 + k * 2 + 1, none⟩ = some (.string (bs (R a.2))) ∧ W.cell? ⟨W0.heap.size, 0, none⟩ = some (.string (bs (R y.1))) ∧ W.cell? ⟨W0.heap.size, 1, none⟩ = some (.string (bs (R y.2))))
              (first | exact HCL.out _ _ _ (HT.out.to HB5.out) | exact HCL.out _ _ _ (HT.out.to (HB5.out.alloc HB5.out.size _)) | exact HCL.out _ _ _ (HT.out.to ((HB5.out.setCell (p := ⟨wr.heap.size, 0, none⟩) (Nat.le_refl _) _).setCell (p := ⟨wr.heap.size, 1, none⟩) (Nat.le_refl _) _)) | exact HCL.out _ _ _ (HT.out.to (RowKit.Below.drew (Below.refl _ _))) | exact HCL.out _ _ _ (HT.out.to ((RowKit.Below.drew (Below.refl _ _)).alloc (Nat.le_refl _) _)) | exact HCL.out _ _ _ (HT.out.to (RowKit.Below.drew ((Below.refl _ _).alloc (Nat.le_refl _) _))) | exact HCL.out _ _ _ HT.out)
              (first | (go_at_call 63; refine (HC.out _).mono ?_; rintro e w5 ⟨rfl, hb5⟩; first
                | (have HB5 := Lib.hid (bel2 (RowKit.Below.drew (Below.refl wr.heap.size wr)) hb5))
                | (have HB5 := Lib.hid (bel2 ((RowKit.Below.drew (Below.refl wr.heap.size wr)).alloc (Nat.le_refl _) Z24) hb5); have HN5 := Lib.hid ((show ZRow (wr.drew.alloc Z24) wr.heap.size from rnw).below' hb5); have n0 := HN5.out.cell (i := 0) rfl; have n1 := (HN5.out.set 0 (.string (bs cp1))).cell (i := 1) rfl; have f0 := HN5.out.free 0; have f1 := (HN5.out.set 0 (.string (bs cp1))).free 1)
                | (have HB5 := Lib.hid (bel2 (RowKit.Below.drew ((Below.refl wr.heap.size wr).alloc (Nat.le_refl _) Z24)) hb5); have HN5 := Lib.hid ((show ZRow (wr.alloc Z24).drew wr.heap.size from rnw).below' hb5); have n0 := HN5.out.cell (i := 0) rfl; have n1 := (HN5.out.set 0 (.string (bs cp1))).cell (i := 1) rfl; have f0 := HN5.out.free 0; have f1 := (HN5.out.set 0 (.string (bs cp1))).free 1)))
            all_goals first
              | (refine genw (fun W => TIn W0 W vr (y, rest)) (HT.out.to (HB5.out.alloc HB5.out.size _)) ?_)
              | (refine genw (fun W => TIn W0 W vr (y, rest)) (HT.out.to ((HB5.out.setCell (p := ⟨wr.heap.size, 0, none⟩) (Nat.le_refl _) _).setCell (p := ⟨wr.heap.size, 1, none⟩) (Nat.le_refl _) _)) ?_)
            all_goals
              intro W2 ht2
              have HT2 := Lib.hid ht2
              obtain ⟨c0, c1, c2, c3⟩ := HCL.out _ _ _ ht2
              simp only at c2 c3
              clear HT HC HB5 hb5 ht2
              try clear HN5 n0 n1 f0 f1
              have k1 := reg_of (w := W2) (fun W _ => HLE.out W)
              have k2 := reg_of (w := W2) (fun W _ => HMO.out W)
              have m0 := cell_regrown c0
              have m1 := cell_regrown c1
              have m2 := cell_regrown c2
              have m3 := cell_regrown c3
              have e1 : ∀ args w, (callFunc 102 args).run Tryz.prog w = .ok (.enter 102 args) w := enters_of Tryz.func102 (by kernel_rfl) rfl
              have e2 : ∀ args w, (callFunc 103 args).run Tryz.prog w = .ok (.enter 103 args) w := enters_of Tryz.func103 (by kernel_rfl) rfl
              clear c0 c1 c2 c3
              go_wp2_with fail
              refine region_below_tail 17 (by kernel_rfl) (by kernel_rfl) ?_
              simp only [List.take_succ_cons, List.take_zero, List.drop_succ_cons, List.drop_zero]
              repeat (go_big_quiet_step (fail))
              go_big_quiet_step (exact k1 _ _)
              repeat (go_big_quiet_step (fail))
              go_big_quiet_step (exact k2 _ _)
              repeat (go_big_quiet_step (fail))
              refine wpQuiet_nil ?_
              intro W6 hw'
              have hb6 : Below W2.heap.size W2 W6 := by obtain ⟨p, e⟩ := hw'; rw [e]; exact below_regrown W2 p.d p.os
              have HT6 := Lib.hid (HT2.out.to hb6)
              clear k1 k2 m0 m1 m2 m3 e1 e2 hw' hb6
              have fz0 := HT6.out.cel.free 0
              have fc0 := HT6.out.cel.cell (i := 0) rfl
              have fz1 := (HT6.out.cel.set 0 (.string (bs (R (lessQ y.1 a.1))))).free 1
              have fc1 := (HT6.out.cel.set 0 (.string (bs (R (lessQ y.1 a.1))))).cell (i := 1) rfl
              go_wp2
              go_roundw
              case rel => exact ⟨k + 1, _, by go_num, rfl, hkn, by rw [HK1.out]; exact Lib.hid (HT6.out.hull (hullQ y a))⟩
              case measure => simp [intOf]; omega
          · rw [if_neg hm] at HK1
            rw [if_neg hm, Bool.eq_false_iff.2 hm] at HC
            have cpe : ([], []) = (([], []) : PT) := rfl
            generalize (([], []) : PT) = cp at *
            obtain ⟨cp1, cp2⟩ := cp
            clear cpe
            go_wp2_with fail
            go_region_held3 (fun W => W.cell? ⟨b2, o2 + k * 2, none⟩ = some (.string (bs (R a.1))) ∧ W.cell? ⟨b2, o2 + k * 2 + 1, none⟩ = some (.string (bs (R a.2))) ∧ W.cell? ⟨W0.heap.size, 0, none⟩ = some (.string (bs (R y.1))) ∧ W.cell? ⟨W0.heap.size, 1, none⟩ = some (.string (bs (R y.2))))
              (first | exact HCL.out _ _ _ (HT.out.to HB5.out) | exact HCL.out _ _ _ (HT.out.to (HB5.out.alloc HB5.out.size _)) | exact HCL.out _ _ _ (HT.out.to ((HB5.out.setCell (p := ⟨wr.heap.size, 0, none⟩) (Nat.le_refl _) _).setCell (p := ⟨wr.heap.size, 1, none⟩) (Nat.le_refl _) _)) | exact HCL.out _ _ _ (HT.out.to (RowKit.Below.drew (Below.refl _ _))) | exact HCL.out _ _ _ (HT.out.to ((RowKit.Below.drew (Below.refl _ _)).alloc (Nat.le_refl _) _)) | exact HCL.out _ _ _ (HT.out.to (RowKit.Below.drew ((Below.refl _ _).alloc (Nat.le_refl _) _))) | exact HCL.out _ _ _ HT.out)
              (first | (go_at_call 63; refine (HC.out _).mono ?_; rintro e w5 ⟨rfl, hb5⟩; first
                | (have HB5 := Lib.hid (bel2 (RowKit.Below.drew (Below.refl wr.heap.size wr)) hb5))
                | (have HB5 := Lib.hid (bel2 ((RowKit.Below.drew (Below.refl wr.heap.size wr)).alloc (Nat.le_refl _) Z24) hb5); have HN5 := Lib.hid ((show ZRow (wr.drew.alloc Z24) wr.heap.size from rnw).below' hb5); have n0 := HN5.out.cell (i := 0) rfl; have n1 := (HN5.out.set 0 (.string (bs cp1))).cell (i := 1) rfl; have f0 := HN5.out.free 0; have f1 := (HN5.out.set 0 (.string (bs cp1))).free 1)
                | (have HB5 := Lib.hid (bel2 (RowKit.Below.drew ((Below.refl wr.heap.size wr).alloc (Nat.le_refl _) Z24)) hb5); have HN5 := Lib.hid ((show ZRow (wr.alloc Z24).drew wr.heap.size from rnw).below' hb5); have n0 := HN5.out.cell (i := 0) rfl; have n1 := (HN5.out.set 0 (.string (bs cp1))).cell (i := 1) rfl; have f0 := HN5.out.free 0; have f1 := (HN5.out.set 0 (.string (bs cp1))).free 1)))
            all_goals first
              | (refine genw (fun W => TIn W0 W vr (y, rest)) (HT.out.to (HB5.out.alloc HB5.out.size _)) ?_)
              | (refine genw (fun W => TIn W0 W vr (y, rest)) (HT.out.to ((HB5.out.setCell (p := ⟨wr.heap.size, 0, none⟩) (Nat.le_refl _) _).setCell (p := ⟨wr.heap.size, 1, none⟩) (Nat.le_refl _) _)) ?_)
            all_goals
              intro W2 ht2
              have HT2 := Lib.hid ht2
              obtain ⟨c0, c1, c2, c3⟩ := HCL.out _ _ _ ht2
              simp only at c2 c3
              clear HT HC HB5 hb5 ht2
              try clear HN5 n0 n1 f0 f1
              go_wp2_with (at_builtin; refine wpList_app_p rfl _ _ rfl rfl rfl rfl HT2.out.own (by have := HT2.out.cel.lt; omega) (by rw [sx_len]; show rest.length ≤ 1000000000; omega) ?_; intro v2 w2 ho2 hk2)
              have HT3 := Lib.hid (HT2.out.app a ho2 hk2)
              go_wp2
              go_roundw
              case rel => exact ⟨k + 1, _, by go_num, rfl, hkn, by rw [HK1.out]; exact HT3⟩
              case measure => simp [intOf]; omega
        · obtain rfl : k = out.length := by omega
          have hsk := HSP.out out.length hk
          have HTI : Hid (tdy l (i + 1) = tput (tidF out x out.length)) := by rw [HSI.out]; exact Lib.hid rfl
          clear hvr HSP
          generalize tidF out x out.length = s at *
          obtain ⟨y, rest⟩ := s
          have HT := ht
          clear ht
          simp only at hsk
          have hln := hsk.2.2
          have HORD := Lib.hid (fun j (hj : j < rest.length) W => order_B (hsk.2.1 _ (List.getElem_mem hj)).2.1 hsk.1.2.1 W)
          have HKL := cntLo_le rest y.1
          have HK1 := Lib.hid (cntLo_lt rest y.1)
          have HK2 := Lib.hid (cntLo_stop rest y.1)
          have HTP : Hid (sx (tput (y, rest)) = sx (rest.take (cntLo rest y.1)) ++ [(R y.1, R y.2)] ++ sx (rest.drop (cntLo rest y.1))) := Lib.hid (by unfold tput; rw [sx_append, sx_append]; rfl)
          generalize cntLo rest y.1 = K at *
          clear hsk
          rcases HT.out.own.forms2 with ⟨rfl, hre⟩ | ⟨g, cr, rfl, hgB, hgc, hgm, hps⟩
          · obtain ⟨j, hjK⟩ : ∃ j, j = K := ⟨K, rfl⟩
            subst hjK
            have hr0 : rest = [] := by simpa [sx] using hre
            have HR0 := Lib.hid hr0
            have e1 : ∀ args w, (callFunc 56 args).run Tryz.prog w = .ok (.enter 56 args) w := enters_of Tryz.func56 (by kernel_rfl) rfl
            have HS1 := Lib.hid (fun E (_ : Below E.heap.size E E) => (by rw [HR0.out]; simp only [List.take_nil]; exact SrcP.nil E : SrcP E (.slice none 0 0) (sx (rest.take j))))
            have HS3 := Lib.hid (fun E (_ : Below E.heap.size E E) => (by rw [HR0.out]; simp only [List.drop_nil]; exact SrcP.nil E : SrcP E (.slice none 0 0) (sx (rest.drop j))))
            have HLN : Hid ((0 : Nat) + (sx (rest.take j)).length ≤ 1000000000 ∧ (sx (rest.take j)).length + 1 ≤ 1000000000 ∧ (sx (rest.take j) ++ [(R y.1, R y.2)]).length + (sx (rest.drop j)).length ≤ 1000000000) := Lib.hid (by
              have h1 : (sx (rest.take j)).length ≤ 5000 := by rw [sx_len, List.length_take]; omega
              have h2 : (sx (rest.drop j)).length ≤ 5000 := by rw [sx_len, List.length_drop]; omega
              rw [List.length_append]
              simp only [List.length_cons, List.length_nil]
              omega)
            clear hre hr0 HORD HK1 HK2 hln
            go_wp2_with fail
            refine wp_loop_rounds 1 ?_
            rw [rounds_succ]
            go_wp2_with fail
            refine wp_region_quiet_below (by kernel_rfl) (by kernel_rfl) ?_
            repeat (go_big_quiet_step (fail))
            refine wpQuiet_nil ?_
            intro W6 hw'
            have hb6 : Below wr.heap.size wr W6 := by obtain ⟨p, e⟩ := hw'; rw [e]; exact below_regrown wr p.d p.os
            have HT6 := Lib.hid (HT.out.to hb6)
            clear hb6 hw' e1
            obtain ⟨W, hW⟩ : ∃ z, z = W6 := ⟨W6, rfl⟩
            subst hW
            have HS1 := Lib.hid (fun E (_ : Below W.heap.size W E) => HS1.out E (Below.refl _ _))
            have HS3 := Lib.hid (fun E (_ : Below W.heap.size W E) => HS3.out E (Below.refl _ _))
            have HCX := Lib.hid (fun E (hE : Below W.heap.size W E) => And.intro ((HT6.out.to hE).cel.cell (i := 0) rfl) ((HT6.out.to hE).cel.cell (i := 1) rfl))
            have HSZ := Lib.hid (show W.heap.size + 1 ≤ ((W.alloc (Obj.cells #[.string (bs (R y.1)), .string (bs (R y.2))] 24 (0, 0))).alloc (Obj.cells #[] 24 (0, 0))).drew.heap.size ∧ True from ⟨by show W.heap.size + 1 ≤ ((W.alloc (Obj.cells #[.string (bs (R y.1)), .string (bs (R y.2))] 24 (0, 0))).alloc (Obj.cells #[] 24 (0, 0))).heap.size; rw [World.size_alloc, World.size_alloc]; omega, trivial⟩)
            have HNE := Lib.hid (show some W.heap.size ≠ (Value.slice (some ⟨W.heap.size + 1, 0, none⟩) 0 0).ownBlock ∧ some (W.heap.size + 1) ≠ (Value.slice (some ⟨W.heap.size, 0, none⟩) 0 0).ownBlock from ⟨by simp [Value.ownBlock], by simp [Value.ownBlock]⟩)
            go_wp2_with fail
            go_region_held3 (fun E => E.cell? ⟨W0.heap.size, 0, none⟩ = some (.string (bs (R y.1))) ∧ E.cell? ⟨W0.heap.size, 1, none⟩ = some (.string (bs (R y.2))))
              (first | exact HCX.out _ HA3.out.2 | exact HCX.out _ HA2.out.2 | exact HCX.out _ (HA1.out.2.alloc HA1.out.2.size _) | exact HCX.out _ HA1.out.2 | exact HCX.out _ (Below.refl _ _) | exact HCX.out _ (RowKit.Below.drew (Below.refl W.heap.size W)) | exact HCX.out _ (RowKit.Below.drew ((Below.refl W.heap.size W).alloc (Nat.le_refl _) _)) | exact HCX.out _ (RowKit.Below.drew (((Below.refl W.heap.size W).alloc (Nat.le_refl _) (Obj.cells #[.string (bs (R y.1)), .string (bs (R y.2))] 24 (0, 0))).alloc ((Below.refl W.heap.size W).alloc (Nat.le_refl _) (Obj.cells #[.string (bs (R y.1)), .string (bs (R y.2))] 24 (0, 0))).size (Obj.cells #[] 24 (0, 0)))) | exact HCX.out _ (RowKit.Below.drew (((Below.refl W.heap.size W).alloc (Nat.le_refl _) (Obj.cells #[] 24 (0, 0))).alloc ((Below.refl W.heap.size W).alloc (Nat.le_refl _) (Obj.cells #[] 24 (0, 0))).size (Obj.cells #[.string (bs (R y.1)), .string (bs (R y.2))] 24 (0, 0)))))
              (first
              | (refine step_app_rdg (v := .slice (some ⟨W.heap.size, 0, none⟩) 0 0) rfl (.tmp 78) (.tmp 81) rfl rfl rfl ((OwnP.fresh W W.heap.size W.heap.size rfl (Nat.le_refl _)).drew) (HS1.out _ (RowKit.Below.drew ((Below.refl W.heap.size W).alloc (Nat.le_refl _) (Obj.cells #[] 24 (0, 0))))) (RowKit.Below.drew ((Below.refl W.heap.size W).alloc (Nat.le_refl _) (Obj.cells #[] 24 (0, 0)))).size HLN.out.1 ?_; intro v1 w1 ho1 hg1; have HA1 := Lib.hid (show ApP W w1 v1 (sx (rest.take j)) from ⟨ho1, app_bel ((OwnP.fresh W W.heap.size W.heap.size rfl (Nat.le_refl _)).drew) (RowKit.Below.drew ((Below.refl W.heap.size W).alloc (Nat.le_refl _) (Obj.cells #[] 24 (0, 0)))) (Nat.le_refl _) hg1⟩))
              | (refine step_app_rdg (v := .slice (some ⟨W.heap.size + 1, 0, none⟩) 0 0) rfl (.tmp 78) (.tmp 81) rfl rfl rfl ((OwnP.fresh (W.alloc (Obj.cells #[.string (bs (R y.1)), .string (bs (R y.2))] 24 (0, 0))) (W.heap.size + 1) (W.heap.size + 1) (World.size_alloc _ _).symm (Nat.le_refl _)).drew) (HS1.out _ (RowKit.Below.drew (((Below.refl W.heap.size W).alloc (Nat.le_refl _) (Obj.cells #[.string (bs (R y.1)), .string (bs (R y.2))] 24 (0, 0))).alloc ((Below.refl W.heap.size W).alloc (Nat.le_refl _) (Obj.cells #[.string (bs (R y.1)), .string (bs (R y.2))] 24 (0, 0))).size (Obj.cells #[] 24 (0, 0))))) HSZ.out.1 HLN.out.1 ?_; intro v1 w1 ho1 hg1; have HA1 := Lib.hid (show ApP W w1 v1 (sx (rest.take j)) from ⟨ownsRow_base ho1 (Nat.le_succ _), app_bel ((OwnP.fresh (W.alloc (Obj.cells #[.string (bs (R y.1)), .string (bs (R y.2))] 24 (0, 0))) (W.heap.size + 1) (W.heap.size + 1) (World.size_alloc _ _).symm (Nat.le_refl _)).drew) (RowKit.Below.drew (((Below.refl W.heap.size W).alloc (Nat.le_refl _) (Obj.cells #[.string (bs (R y.1)), .string (bs (R y.2))] 24 (0, 0))).alloc ((Below.refl W.heap.size W).alloc (Nat.le_refl _) (Obj.cells #[.string (bs (R y.1)), .string (bs (R y.2))] 24 (0, 0))).size (Obj.cells #[] 24 (0, 0)))) (Nat.le_succ _) hg1⟩); have HXR := Lib.hid (src_row (row_grown (show Row ((W.alloc (Obj.cells #[.string (bs (R y.1)), .string (bs (R y.2))] 24 (0, 0))).alloc (Obj.cells #[] 24 (0, 0))).drew W.heap.size 24 [.string (bs (R y.1)), .string (bs (R y.2))] from Row.alloc rnw _) hg1 HNE.out.1)))
              | (refine step_app_rdg (v := .slice (some ⟨W.heap.size, 0, none⟩) 0 0) rfl (.tmp 78) (.tmp 81) rfl rfl rfl ((OwnP.alloc (OwnP.fresh W W.heap.size W.heap.size rfl (Nat.le_refl _)) (Obj.cells #[.string (bs (R y.1)), .string (bs (R y.2))] 24 (0, 0))).drew) (HS1.out _ (RowKit.Below.drew (((Below.refl W.heap.size W).alloc (Nat.le_refl _) (Obj.cells #[] 24 (0, 0))).alloc ((Below.refl W.heap.size W).alloc (Nat.le_refl _) (Obj.cells #[] 24 (0, 0))).size (Obj.cells #[.string (bs (R y.1)), .string (bs (R y.2))] 24 (0, 0))))) (RowKit.Below.drew (((Below.refl W.heap.size W).alloc (Nat.le_refl _) (Obj.cells #[] 24 (0, 0))).alloc ((Below.refl W.heap.size W).alloc (Nat.le_refl _) (Obj.cells #[] 24 (0, 0))).size (Obj.cells #[.string (bs (R y.1)), .string (bs (R y.2))] 24 (0, 0)))).size HLN.out.1 ?_; intro v1 w1 ho1 hg1; have HA1 := Lib.hid (show ApP W w1 v1 (sx (rest.take j)) from ⟨ho1, app_bel ((OwnP.alloc (OwnP.fresh W W.heap.size W.heap.size rfl (Nat.le_refl _)) (Obj.cells #[.string (bs (R y.1)), .string (bs (R y.2))] 24 (0, 0))).drew) (RowKit.Below.drew (((Below.refl W.heap.size W).alloc (Nat.le_refl _) (Obj.cells #[] 24 (0, 0))).alloc ((Below.refl W.heap.size W).alloc (Nat.le_refl _) (Obj.cells #[] 24 (0, 0))).size (Obj.cells #[.string (bs (R y.1)), .string (bs (R y.2))] 24 (0, 0)))) (Nat.le_refl _) hg1⟩); have HXR := Lib.hid (src_row (row_grown (show Row ((W.alloc (Obj.cells #[] 24 (0, 0))).alloc (Obj.cells #[.string (bs (R y.1)), .string (bs (R y.2))] 24 (0, 0))).drew (W.heap.size + 1) 24 [.string (bs (R y.1)), .string (bs (R y.2))] from rnew0 (World.size_alloc _ _).symm) hg1 HNE.out.2)))
              | (refine step_app_rdg rfl (.tmp 82) (.tmp 84) rfl rfl rfl HA1.out.1 HXR.out HA1.out.2.size HLN.out.2.1 ?_; intro v2 w2 ho2 hg2; have HA2 := Lib.hid (show ApP W w2 v2 (sx (rest.take j) ++ [(R y.1, R y.2)]) from ⟨ho2, app_bel HA1.out.1 HA1.out.2 (Nat.le_refl _) hg2⟩))
              | (refine step_app_rdg rfl (.tmp 82) (.tmp 84) rfl rfl rfl (OwnP.alloc HA1.out.1 _) (SrcP.new w1 [(R y.1, R y.2)] _ _ _ rfl rfl rfl) (HA1.out.2.alloc HA1.out.2.size _).size HLN.out.2.1 ?_; intro v2 w2 ho2 hg2; have HA2 := Lib.hid (show ApP W w2 v2 (sx (rest.take j) ++ [(R y.1, R y.2)]) from ⟨ho2, app_bel (OwnP.alloc HA1.out.1 _) (HA1.out.2.alloc HA1.out.2.size _) (Nat.le_refl _) hg2⟩))
              | (refine step_app_rdg rfl (.tmp 85) (.tmp 88) rfl rfl rfl HA2.out.1 (HS3.out _ HA2.out.2) HA2.out.2.size HLN.out.2.2 ?_; intro v3 w3 ho3 hg3; have HA3 := Lib.hid (show ApP W w3 v3 (sx (rest.take j) ++ [(R y.1, R y.2)] ++ sx (rest.drop j)) from ⟨ho3, app_bel HA2.out.1 HA2.out.2 (Nat.le_refl _) hg3⟩)))
            all_goals
              have HBE := Lib.hid (hbw.trans ((HT6.out.bel.trans (HA3.out.2.mono HT6.out.bel.size)).mono hbw.size))
              have HFIN : Hid (OwnP w3 w.heap.size v3 (sx (tdy l (i + 1)))) := by
                rw [HTI.out, HTP.out]
                exact Lib.hid (ownsRow_base HA3.out.1 (Nat.le_trans hbw.size HT6.out.bel.size))
              clear HA1 HA2 HA3 HS1 HS3 HCX HLN HSZ HNE HT6 HTI HTP
              go_wp2
              go_roundw
              case rel => exact ⟨i + 1, _, by go_num, rfl, hlt, HFIN, HBE.out⟩
              case measure => simp [intOf]; omega
          · have e9 : (sx (y, rest).2).length = rest.length := sx_len _
            rw [e9] at hgc HT ⊢
            clear e9
            have HPS := Lib.hid hps
            obtain ⟨W1, hW1⟩ : ∃ z, z = wr := ⟨wr, rfl⟩
            subst hW1
            have hgc' : (rest.length : Int) ≤ (cr : Int) := by omega
            clear hps
            go_wp2
            go_loopw [10] (fun av wr3 => ∃ j : Nat, av = .int .i64 (j : Int) ∧ j ≤ K ∧ Hid (TIn W0 wr3 (.slice (some ⟨g, 0, none⟩) rest.length cr) (y, rest) ∧ Below W1.heap.size W1 wr3)) (fun av _ => rest.length - (intOf av).toNat)
            case atStart => exact ⟨0, rfl, by omega, Lib.hid ⟨HT.out, Below.refl _ _⟩⟩
            case round =>
              clear HT
              obtain ⟨j, rfl, hj, ht⟩ := hrel
              have hps3 := HPS.out.below' ht.out.2
              have c2 := ht.out.1.cel.cell (i := 0) rfl
              have HT := Lib.hid ht.out.1
              have HBW := Lib.hid ht.out.2
              have hj0 : (0 : Int) ≤ (j : Int) := by omega
              simp only at c2
              clear ht
              have e1 : ∀ args w, (callFunc 56 args).run Tryz.prog w = .ok (.enter 56 args) w := enters_of Tryz.func56 (by kernel_rfl) rfl
              have m2 := cell_regrown c2
              by_cases hjn : j < rest.length
              · have hjn' : j < (sx rest).length := by rw [sx_len]; exact hjn
                have d0 := hps3.val j hjn'
                rw [sx_get rest j hjn, Nat.zero_add] at d0
                simp only at d0
                have m0 := cell_regrown d0
                have hjs : (j : Int) < (rest.length : Int) := by omega
                have k1 := reg_of (w := wr) (fun W _ => HORD.out j hjn W)
                clear hps3 hjn' c2 d0
                by_cases hlt2 : rest[j].1 < y.1
                · have hdc : decide (cmpQ rest[j].1 y.1 < 0) = true := decide_eq_true (cmpQ_lt.2 hlt2)
                  have hjk : j + 1 ≤ K := by
                    rcases Nat.lt_or_ge j K with h | h
                    · exact h
                    · obtain rfl : j = K := by omega
                      exact absurd hlt2 (HK2.out hjn)
                  generalize cmpQ rest[j].1 y.1 = cc at *
                  generalize R rest[j].1 = rj at *
                  go_wp2_with fail
                  refine wp_region_quiet_below (by kernel_rfl) (by kernel_rfl) ?_
                  repeat (go_big_quiet_step (fail))
                  go_big_quiet_step (exact k1 _ _)
                  repeat (go_big_quiet_step (fail))
                  refine wpQuiet_nil ?_
                  intro W6 hw'
                  have hb6 : Below wr.heap.size wr W6 := by obtain ⟨p, e⟩ := hw'; rw [e]; exact below_regrown wr p.d p.os
                  have HT6 := Lib.hid (And.intro (HT.out.to hb6) (HBW.out.trans (hb6.mono HBW.out.size)))
                  clear k1 m0 m2 e1 hw' hb6
                  go_wp2
                  go_roundw
                  case rel => exact ⟨j + 1, by go_num, hjk, HT6⟩
                  case measure => simp [intOf]; omega
                · have hdc : decide (cmpQ rest[j].1 y.1 < 0) = false := decide_eq_false (fun h => hlt2 (cmpQ_lt.1 h))
                  obtain rfl : j = K := by
                    rcases Nat.lt_or_ge j K with h | h
                    · exact absurd (HK1.out j hjn h) hlt2
                    · omega
                  generalize cmpQ rest[j].1 y.1 = cc at *
                  generalize R rest[j].1 = rj at *
                  go_wp2_with fail
                  refine wp_region_quiet_below (by kernel_rfl) (by kernel_rfl) ?_
                  repeat (go_big_quiet_step (fail))
                  go_big_quiet_step (exact k1 _ _)
                  repeat (go_big_quiet_step (fail))
                  refine wpQuiet_nil ?_
                  intro W6 hw'
                  have hb6 : Below wr.heap.size wr W6 := by obtain ⟨p, e⟩ := hw'; rw [e]; exact below_regrown wr p.d p.os
                  clear k1 m0 m2 e1 hw'
                  have HT6 := Lib.hid (HT.out.to hb6)
                  have HB6 := Lib.hid (HBW.out.trans (hb6.mono HBW.out.size))
                  clear hb6
                  obtain ⟨W, hW⟩ : ∃ z, z = W6 := ⟨W6, rfl⟩
                  subst hW
                  have HCX := Lib.hid (fun E (hE : Below W.heap.size W E) => And.intro ((HT6.out.to hE).cel.cell (i := 0) rfl) ((HT6.out.to hE).cel.cell (i := 1) rfl))
                  have hp6 := HPS.out.below' HB6.out
                  have HS1 := Lib.hid (fun E (hE : Below W.heap.size W E) => SrcP.of (cap := cr) (n := j) ((hp6.below' hE).take j) (by rw [List.length_take, sx_len]; omega))
                  have HS3 := Lib.hid (fun E (hE : Below W.heap.size W E) => SrcP.cut (n := rest.length) (gc := cr) (k := j) (by rw [List.length_drop, sx_len]) ((hp6.below' hE).drop j) hgc)
                  rw [show (sx rest).take j = sx (rest.take j) by unfold sx; rw [List.map_take]] at HS1
                  rw [show (sx rest).drop j = sx (rest.drop j) by unfold sx; rw [List.map_drop]] at HS3
                  have hjc : (j : Int) ≤ (cr : Int) := by omega
                  have hjr : (j : Int) ≤ (rest.length : Int) := by omega
                  have HLN : Hid ((0 : Nat) + (sx (rest.take j)).length ≤ 1000000000 ∧ (sx (rest.take j)).length + 1 ≤ 1000000000 ∧ (sx (rest.take j) ++ [(R y.1, R y.2)]).length + (sx (rest.drop j)).length ≤ 1000000000) := Lib.hid (by
                    have h1 : (sx (rest.take j)).length ≤ 5000 := by rw [sx_len, List.length_take]; omega
                    have h2 : (sx (rest.drop j)).length ≤ 5000 := by rw [sx_len, List.length_drop]; omega
                    rw [List.length_append]
                    simp only [List.length_cons, List.length_nil]
                    omega)
                  clear hp6
                  have HSZ := Lib.hid (show W.heap.size + 1 ≤ ((W.alloc (Obj.cells #[.string (bs (R y.1)), .string (bs (R y.2))] 24 (0, 0))).alloc (Obj.cells #[] 24 (0, 0))).drew.heap.size ∧ True from ⟨by show W.heap.size + 1 ≤ ((W.alloc (Obj.cells #[.string (bs (R y.1)), .string (bs (R y.2))] 24 (0, 0))).alloc (Obj.cells #[] 24 (0, 0))).heap.size; rw [World.size_alloc, World.size_alloc]; omega, trivial⟩)
                  have HNE := Lib.hid (show some W.heap.size ≠ (Value.slice (some ⟨W.heap.size + 1, 0, none⟩) 0 0).ownBlock ∧ some (W.heap.size + 1) ≠ (Value.slice (some ⟨W.heap.size, 0, none⟩) 0 0).ownBlock from ⟨by simp [Value.ownBlock], by simp [Value.ownBlock]⟩)
                  go_wp2_with fail
                  go_region_held3 (fun E => E.cell? ⟨W0.heap.size, 0, none⟩ = some (.string (bs (R y.1))) ∧ E.cell? ⟨W0.heap.size, 1, none⟩ = some (.string (bs (R y.2))))
                    (first | exact HCX.out _ HA3.out.2 | exact HCX.out _ HA2.out.2 | exact HCX.out _ (HA1.out.2.alloc HA1.out.2.size _) | exact HCX.out _ HA1.out.2 | exact HCX.out _ (Below.refl _ _) | exact HCX.out _ (RowKit.Below.drew (Below.refl W.heap.size W)) | exact HCX.out _ (RowKit.Below.drew ((Below.refl W.heap.size W).alloc (Nat.le_refl _) _)) | exact HCX.out _ (RowKit.Below.drew (((Below.refl W.heap.size W).alloc (Nat.le_refl _) (Obj.cells #[.string (bs (R y.1)), .string (bs (R y.2))] 24 (0, 0))).alloc ((Below.refl W.heap.size W).alloc (Nat.le_refl _) (Obj.cells #[.string (bs (R y.1)), .string (bs (R y.2))] 24 (0, 0))).size (Obj.cells #[] 24 (0, 0)))) | exact HCX.out _ (RowKit.Below.drew (((Below.refl W.heap.size W).alloc (Nat.le_refl _) (Obj.cells #[] 24 (0, 0))).alloc ((Below.refl W.heap.size W).alloc (Nat.le_refl _) (Obj.cells #[] 24 (0, 0))).size (Obj.cells #[.string (bs (R y.1)), .string (bs (R y.2))] 24 (0, 0)))))
                    (first
                    | (refine step_app_rdg (v := .slice (some ⟨W.heap.size, 0, none⟩) 0 0) rfl (.tmp 78) (.tmp 81) rfl rfl rfl ((OwnP.fresh W W.heap.size W.heap.size rfl (Nat.le_refl _)).drew) (HS1.out _ (RowKit.Below.drew ((Below.refl W.heap.size W).alloc (Nat.le_refl _) (Obj.cells #[] 24 (0, 0))))) (RowKit.Below.drew ((Below.refl W.heap.size W).alloc (Nat.le_refl _) (Obj.cells #[] 24 (0, 0)))).size HLN.out.1 ?_; intro v1 w1 ho1 hg1; have HA1 := Lib.hid (show ApP W w1 v1 (sx (rest.take j)) from ⟨ho1, app_bel ((OwnP.fresh W W.heap.size W.heap.size rfl (Nat.le_refl _)).drew) (RowKit.Below.drew ((Below.refl W.heap.size W).alloc (Nat.le_refl _) (Obj.cells #[] 24 (0, 0)))) (Nat.le_refl _) hg1⟩))
                    | (refine step_app_rdg (v := .slice (some ⟨W.heap.size + 1, 0, none⟩) 0 0) rfl (.tmp 78) (.tmp 81) rfl rfl rfl ((OwnP.fresh (W.alloc (Obj.cells #[.string (bs (R y.1)), .string (bs (R y.2))] 24 (0, 0))) (W.heap.size + 1) (W.heap.size + 1) (World.size_alloc _ _).symm (Nat.le_refl _)).drew) (HS1.out _ (RowKit.Below.drew (((Below.refl W.heap.size W).alloc (Nat.le_refl _) (Obj.cells #[.string (bs (R y.1)), .string (bs (R y.2))] 24 (0, 0))).alloc ((Below.refl W.heap.size W).alloc (Nat.le_refl _) (Obj.cells #[.string (bs (R y.1)), .string (bs (R y.2))] 24 (0, 0))).size (Obj.cells #[] 24 (0, 0))))) HSZ.out.1 HLN.out.1 ?_; intro v1 w1 ho1 hg1; have HA1 := Lib.hid (show ApP W w1 v1 (sx (rest.take j)) from ⟨ownsRow_base ho1 (Nat.le_succ _), app_bel ((OwnP.fresh (W.alloc (Obj.cells #[.string (bs (R y.1)), .string (bs (R y.2))] 24 (0, 0))) (W.heap.size + 1) (W.heap.size + 1) (World.size_alloc _ _).symm (Nat.le_refl _)).drew) (RowKit.Below.drew (((Below.refl W.heap.size W).alloc (Nat.le_refl _) (Obj.cells #[.string (bs (R y.1)), .string (bs (R y.2))] 24 (0, 0))).alloc ((Below.refl W.heap.size W).alloc (Nat.le_refl _) (Obj.cells #[.string (bs (R y.1)), .string (bs (R y.2))] 24 (0, 0))).size (Obj.cells #[] 24 (0, 0)))) (Nat.le_succ _) hg1⟩); have HXR := Lib.hid (src_row (row_grown (show Row ((W.alloc (Obj.cells #[.string (bs (R y.1)), .string (bs (R y.2))] 24 (0, 0))).alloc (Obj.cells #[] 24 (0, 0))).drew W.heap.size 24 [.string (bs (R y.1)), .string (bs (R y.2))] from Row.alloc rnw _) hg1 HNE.out.1)))
                    | (refine step_app_rdg (v := .slice (some ⟨W.heap.size, 0, none⟩) 0 0) rfl (.tmp 78) (.tmp 81) rfl rfl rfl ((OwnP.alloc (OwnP.fresh W W.heap.size W.heap.size rfl (Nat.le_refl _)) (Obj.cells #[.string (bs (R y.1)), .string (bs (R y.2))] 24 (0, 0))).drew) (HS1.out _ (RowKit.Below.drew (((Below.refl W.heap.size W).alloc (Nat.le_refl _) (Obj.cells #[] 24 (0, 0))).alloc ((Below.refl W.heap.size W).alloc (Nat.le_refl _) (Obj.cells #[] 24 (0, 0))).size (Obj.cells #[.string (bs (R y.1)), .string (bs (R y.2))] 24 (0, 0))))) (RowKit.Below.drew (((Below.refl W.heap.size W).alloc (Nat.le_refl _) (Obj.cells #[] 24 (0, 0))).alloc ((Below.refl W.heap.size W).alloc (Nat.le_refl _) (Obj.cells #[] 24 (0, 0))).size (Obj.cells #[.string (bs (R y.1)), .string (bs (R y.2))] 24 (0, 0)))).size HLN.out.1 ?_; intro v1 w1 ho1 hg1; have HA1 := Lib.hid (show ApP W w1 v1 (sx (rest.take j)) from ⟨ho1, app_bel ((OwnP.alloc (OwnP.fresh W W.heap.size W.heap.size rfl (Nat.le_refl _)) (Obj.cells #[.string (bs (R y.1)), .string (bs (R y.2))] 24 (0, 0))).drew) (RowKit.Below.drew (((Below.refl W.heap.size W).alloc (Nat.le_refl _) (Obj.cells #[] 24 (0, 0))).alloc ((Below.refl W.heap.size W).alloc (Nat.le_refl _) (Obj.cells #[] 24 (0, 0))).size (Obj.cells #[.string (bs (R y.1)), .string (bs (R y.2))] 24 (0, 0)))) (Nat.le_refl _) hg1⟩); have HXR := Lib.hid (src_row (row_grown (show Row ((W.alloc (Obj.cells #[] 24 (0, 0))).alloc (Obj.cells #[.string (bs (R y.1)), .string (bs (R y.2))] 24 (0, 0))).drew (W.heap.size + 1) 24 [.string (bs (R y.1)), .string (bs (R y.2))] from rnew0 (World.size_alloc _ _).symm) hg1 HNE.out.2)))
                    | (refine step_app_rdg rfl (.tmp 82) (.tmp 84) rfl rfl rfl HA1.out.1 HXR.out HA1.out.2.size HLN.out.2.1 ?_; intro v2 w2 ho2 hg2; have HA2 := Lib.hid (show ApP W w2 v2 (sx (rest.take j) ++ [(R y.1, R y.2)]) from ⟨ho2, app_bel HA1.out.1 HA1.out.2 (Nat.le_refl _) hg2⟩))
                    | (refine step_app_rdg rfl (.tmp 82) (.tmp 84) rfl rfl rfl (OwnP.alloc HA1.out.1 _) (SrcP.new w1 [(R y.1, R y.2)] _ _ _ rfl rfl rfl) (HA1.out.2.alloc HA1.out.2.size _).size HLN.out.2.1 ?_; intro v2 w2 ho2 hg2; have HA2 := Lib.hid (show ApP W w2 v2 (sx (rest.take j) ++ [(R y.1, R y.2)]) from ⟨ho2, app_bel (OwnP.alloc HA1.out.1 _) (HA1.out.2.alloc HA1.out.2.size _) (Nat.le_refl _) hg2⟩))
                    | (refine step_app_rdg rfl (.tmp 85) (.tmp 88) rfl rfl rfl HA2.out.1 (HS3.out _ HA2.out.2) HA2.out.2.size HLN.out.2.2 ?_; intro v3 w3 ho3 hg3; have HA3 := Lib.hid (show ApP W w3 v3 (sx (rest.take j) ++ [(R y.1, R y.2)] ++ sx (rest.drop j)) from ⟨ho3, app_bel HA2.out.1 HA2.out.2 (Nat.le_refl _) hg3⟩)))
                  all_goals
                    have HBE := Lib.hid (hbw.trans ((HT6.out.bel.trans (HA3.out.2.mono HT6.out.bel.size)).mono hbw.size))
                    have HFIN : Hid (OwnP w3 w.heap.size v3 (sx (tdy l (i + 1)))) := by
                      rw [HTI.out, HTP.out]
                      exact Lib.hid (ownsRow_base HA3.out.1 (Nat.le_trans hbw.size HT6.out.bel.size))
                    clear HA1 HA2 HA3 HS1 HS3 HCX HLN HSZ HNE HT6 HTI HTP
                    go_wp2
                    go_roundw
                    case rel => exact ⟨i + 1, _, by go_num, rfl, hlt, HFIN, HBE.out⟩
                    case measure => simp [intOf]; omega
              · obtain rfl : j = K := by omega
                have hjd : decide ((j : Int) < (rest.length : Int)) = false := decide_eq_false (by omega)
                go_wp2_with fail
                refine wp_region_quiet_below (by kernel_rfl) (by kernel_rfl) ?_
                repeat (go_big_quiet_step (fail))
                refine wpQuiet_nil ?_
                intro W6 hw'
                have hb6 : Below wr.heap.size wr W6 := by obtain ⟨p, e⟩ := hw'; rw [e]; exact below_regrown wr p.d p.os
                clear m2 e1 hw' hjd
                have HT6 := Lib.hid (HT.out.to hb6)
                have HB6 := Lib.hid (HBW.out.trans (hb6.mono HBW.out.size))
                clear hb6
                obtain ⟨W, hW⟩ : ∃ z, z = W6 := ⟨W6, rfl⟩
                subst hW
                have HCX := Lib.hid (fun E (hE : Below W.heap.size W E) => And.intro ((HT6.out.to hE).cel.cell (i := 0) rfl) ((HT6.out.to hE).cel.cell (i := 1) rfl))
                have hp6 := HPS.out.below' HB6.out
                have HS1 := Lib.hid (fun E (hE : Below W.heap.size W E) => SrcP.of (cap := cr) (n := j) ((hp6.below' hE).take j) (by rw [List.length_take, sx_len]; omega))
                have HS3 := Lib.hid (fun E (hE : Below W.heap.size W E) => SrcP.cut (n := rest.length) (gc := cr) (k := j) (by rw [List.length_drop, sx_len]) ((hp6.below' hE).drop j) hgc)
                rw [show (sx rest).take j = sx (rest.take j) by unfold sx; rw [List.map_take]] at HS1
                rw [show (sx rest).drop j = sx (rest.drop j) by unfold sx; rw [List.map_drop]] at HS3
                have hjc : (j : Int) ≤ (cr : Int) := by omega
                have hjr : (j : Int) ≤ (rest.length : Int) := by omega
                have HLN : Hid ((0 : Nat) + (sx (rest.take j)).length ≤ 1000000000 ∧ (sx (rest.take j)).length + 1 ≤ 1000000000 ∧ (sx (rest.take j) ++ [(R y.1, R y.2)]).length + (sx (rest.drop j)).length ≤ 1000000000) := Lib.hid (by
                  have h1 : (sx (rest.take j)).length ≤ 5000 := by rw [sx_len, List.length_take]; omega
                  have h2 : (sx (rest.drop j)).length ≤ 5000 := by rw [sx_len, List.length_drop]; omega
                  rw [List.length_append]
                  simp only [List.length_cons, List.length_nil]
                  omega)
                clear hp6
                have HSZ := Lib.hid (show W.heap.size + 1 ≤ ((W.alloc (Obj.cells #[.string (bs (R y.1)), .string (bs (R y.2))] 24 (0, 0))).alloc (Obj.cells #[] 24 (0, 0))).drew.heap.size ∧ True from ⟨by show W.heap.size + 1 ≤ ((W.alloc (Obj.cells #[.string (bs (R y.1)), .string (bs (R y.2))] 24 (0, 0))).alloc (Obj.cells #[] 24 (0, 0))).heap.size; rw [World.size_alloc, World.size_alloc]; omega, trivial⟩)
                have HNE := Lib.hid (show some W.heap.size ≠ (Value.slice (some ⟨W.heap.size + 1, 0, none⟩) 0 0).ownBlock ∧ some (W.heap.size + 1) ≠ (Value.slice (some ⟨W.heap.size, 0, none⟩) 0 0).ownBlock from ⟨by simp [Value.ownBlock], by simp [Value.ownBlock]⟩)
                go_wp2_with fail
                go_region_held3 (fun E => E.cell? ⟨W0.heap.size, 0, none⟩ = some (.string (bs (R y.1))) ∧ E.cell? ⟨W0.heap.size, 1, none⟩ = some (.string (bs (R y.2))))
                  (first | exact HCX.out _ HA3.out.2 | exact HCX.out _ HA2.out.2 | exact HCX.out _ (HA1.out.2.alloc HA1.out.2.size _) | exact HCX.out _ HA1.out.2 | exact HCX.out _ (Below.refl _ _) | exact HCX.out _ (RowKit.Below.drew (Below.refl W.heap.size W)) | exact HCX.out _ (RowKit.Below.drew ((Below.refl W.heap.size W).alloc (Nat.le_refl _) _)) | exact HCX.out _ (RowKit.Below.drew (((Below.refl W.heap.size W).alloc (Nat.le_refl _) (Obj.cells #[.string (bs (R y.1)), .string (bs (R y.2))] 24 (0, 0))).alloc ((Below.refl W.heap.size W).alloc (Nat.le_refl _) (Obj.cells #[.string (bs (R y.1)), .string (bs (R y.2))] 24 (0, 0))).size (Obj.cells #[] 24 (0, 0)))) | exact HCX.out _ (RowKit.Below.drew (((Below.refl W.heap.size W).alloc (Nat.le_refl _) (Obj.cells #[] 24 (0, 0))).alloc ((Below.refl W.heap.size W).alloc (Nat.le_refl _) (Obj.cells #[] 24 (0, 0))).size (Obj.cells #[.string (bs (R y.1)), .string (bs (R y.2))] 24 (0, 0)))))
                  (first
                  | (refine step_app_rdg (v := .slice (some ⟨W.heap.size, 0, none⟩) 0 0) rfl (.tmp 78) (.tmp 81) rfl rfl rfl ((OwnP.fresh W W.heap.size W.heap.size rfl (Nat.le_refl _)).drew) (HS1.out _ (RowKit.Below.drew ((Below.refl W.heap.size W).alloc (Nat.le_refl _) (Obj.cells #[] 24 (0, 0))))) (RowKit.Below.drew ((Below.refl W.heap.size W).alloc (Nat.le_refl _) (Obj.cells #[] 24 (0, 0)))).size HLN.out.1 ?_; intro v1 w1 ho1 hg1; have HA1 := Lib.hid (show ApP W w1 v1 (sx (rest.take j)) from ⟨ho1, app_bel ((OwnP.fresh W W.heap.size W.heap.size rfl (Nat.le_refl _)).drew) (RowKit.Below.drew ((Below.refl W.heap.size W).alloc (Nat.le_refl _) (Obj.cells #[] 24 (0, 0)))) (Nat.le_refl _) hg1⟩))
                  | (refine step_app_rdg (v := .slice (some ⟨W.heap.size + 1, 0, none⟩) 0 0) rfl (.tmp 78) (.tmp 81) rfl rfl rfl ((OwnP.fresh (W.alloc (Obj.cells #[.string (bs (R y.1)), .string (bs (R y.2))] 24 (0, 0))) (W.heap.size + 1) (W.heap.size + 1) (World.size_alloc _ _).symm (Nat.le_refl _)).drew) (HS1.out _ (RowKit.Below.drew (((Below.refl W.heap.size W).alloc (Nat.le_refl _) (Obj.cells #[.string (bs (R y.1)), .string (bs (R y.2))] 24 (0, 0))).alloc ((Below.refl W.heap.size W).alloc (Nat.le_refl _) (Obj.cells #[.string (bs (R y.1)), .string (bs (R y.2))] 24 (0, 0))).size (Obj.cells #[] 24 (0, 0))))) HSZ.out.1 HLN.out.1 ?_; intro v1 w1 ho1 hg1; have HA1 := Lib.hid (show ApP W w1 v1 (sx (rest.take j)) from ⟨ownsRow_base ho1 (Nat.le_succ _), app_bel ((OwnP.fresh (W.alloc (Obj.cells #[.string (bs (R y.1)), .string (bs (R y.2))] 24 (0, 0))) (W.heap.size + 1) (W.heap.size + 1) (World.size_alloc _ _).symm (Nat.le_refl _)).drew) (RowKit.Below.drew (((Below.refl W.heap.size W).alloc (Nat.le_refl _) (Obj.cells #[.string (bs (R y.1)), .string (bs (R y.2))] 24 (0, 0))).alloc ((Below.refl W.heap.size W).alloc (Nat.le_refl _) (Obj.cells #[.string (bs (R y.1)), .string (bs (R y.2))] 24 (0, 0))).size (Obj.cells #[] 24 (0, 0)))) (Nat.le_succ _) hg1⟩); have HXR := Lib.hid (src_row (row_grown (show Row ((W.alloc (Obj.cells #[.string (bs (R y.1)), .string (bs (R y.2))] 24 (0, 0))).alloc (Obj.cells #[] 24 (0, 0))).drew W.heap.size 24 [.string (bs (R y.1)), .string (bs (R y.2))] from Row.alloc rnw _) hg1 HNE.out.1)))
                  | (refine step_app_rdg (v := .slice (some ⟨W.heap.size, 0, none⟩) 0 0) rfl (.tmp 78) (.tmp 81) rfl rfl rfl ((OwnP.alloc (OwnP.fresh W W.heap.size W.heap.size rfl (Nat.le_refl _)) (Obj.cells #[.string (bs (R y.1)), .string (bs (R y.2))] 24 (0, 0))).drew) (HS1.out _ (RowKit.Below.drew (((Below.refl W.heap.size W).alloc (Nat.le_refl _) (Obj.cells #[] 24 (0, 0))).alloc ((Below.refl W.heap.size W).alloc (Nat.le_refl _) (Obj.cells #[] 24 (0, 0))).size (Obj.cells #[.string (bs (R y.1)), .string (bs (R y.2))] 24 (0, 0))))) (RowKit.Below.drew (((Below.refl W.heap.size W).alloc (Nat.le_refl _) (Obj.cells #[] 24 (0, 0))).alloc ((Below.refl W.heap.size W).alloc (Nat.le_refl _) (Obj.cells #[] 24 (0, 0))).size (Obj.cells #[.string (bs (R y.1)), .string (bs (R y.2))] 24 (0, 0)))).size HLN.out.1 ?_; intro v1 w1 ho1 hg1; have HA1 := Lib.hid (show ApP W w1 v1 (sx (rest.take j)) from ⟨ho1, app_bel ((OwnP.alloc (OwnP.fresh W W.heap.size W.heap.size rfl (Nat.le_refl _)) (Obj.cells #[.string (bs (R y.1)), .string (bs (R y.2))] 24 (0, 0))).drew) (RowKit.Below.drew (((Below.refl W.heap.size W).alloc (Nat.le_refl _) (Obj.cells #[] 24 (0, 0))).alloc ((Below.refl W.heap.size W).alloc (Nat.le_refl _) (Obj.cells #[] 24 (0, 0))).size (Obj.cells #[.string (bs (R y.1)), .string (bs (R y.2))] 24 (0, 0)))) (Nat.le_refl _) hg1⟩); have HXR := Lib.hid (src_row (row_grown (show Row ((W.alloc (Obj.cells #[] 24 (0, 0))).alloc (Obj.cells #[.string (bs (R y.1)), .string (bs (R y.2))] 24 (0, 0))).drew (W.heap.size + 1) 24 [.string (bs (R y.1)), .string (bs (R y.2))] from rnew0 (World.size_alloc _ _).symm) hg1 HNE.out.2)))
                  | (refine step_app_rdg rfl (.tmp 82) (.tmp 84) rfl rfl rfl HA1.out.1 HXR.out HA1.out.2.size HLN.out.2.1 ?_; intro v2 w2 ho2 hg2; have HA2 := Lib.hid (show ApP W w2 v2 (sx (rest.take j) ++ [(R y.1, R y.2)]) from ⟨ho2, app_bel HA1.out.1 HA1.out.2 (Nat.le_refl _) hg2⟩))
                  | (refine step_app_rdg rfl (.tmp 82) (.tmp 84) rfl rfl rfl (OwnP.alloc HA1.out.1 _) (SrcP.new w1 [(R y.1, R y.2)] _ _ _ rfl rfl rfl) (HA1.out.2.alloc HA1.out.2.size _).size HLN.out.2.1 ?_; intro v2 w2 ho2 hg2; have HA2 := Lib.hid (show ApP W w2 v2 (sx (rest.take j) ++ [(R y.1, R y.2)]) from ⟨ho2, app_bel (OwnP.alloc HA1.out.1 _) (HA1.out.2.alloc HA1.out.2.size _) (Nat.le_refl _) hg2⟩))
                  | (refine step_app_rdg rfl (.tmp 85) (.tmp 88) rfl rfl rfl HA2.out.1 (HS3.out _ HA2.out.2) HA2.out.2.size HLN.out.2.2 ?_; intro v3 w3 ho3 hg3; have HA3 := Lib.hid (show ApP W w3 v3 (sx (rest.take j) ++ [(R y.1, R y.2)] ++ sx (rest.drop j)) from ⟨ho3, app_bel HA2.out.1 HA2.out.2 (Nat.le_refl _) hg3⟩)))
                all_goals
                  have HBE := Lib.hid (hbw.trans ((HT6.out.bel.trans (HA3.out.2.mono HT6.out.bel.size)).mono hbw.size))
                  have HFIN : Hid (OwnP w3 w.heap.size v3 (sx (tdy l (i + 1)))) := by
                    rw [HTI.out, HTP.out]
                    exact Lib.hid (ownsRow_base HA3.out.1 (Nat.le_trans hbw.size HT6.out.bel.size))
                  clear HA1 HA2 HA3 HS1 HS3 HCX HLN HSZ HNE HT6 HTI HTP
                  go_wp2
                  go_roundw
                  case rel => exact ⟨i + 1, _, by go_num, rfl, hlt, HFIN, HBE.out⟩
                  case measure => simp [intOf]; omega
    · obtain rfl : i = l.length := by omega
      have hfin : OwnP wr w.heap.size vo (sx (tidy l)) := by rw [← HE.out]; exact hown.out
      have HFIN := Lib.hid hfin
      clear hfin hown HX HS HD
      go_wp2
      go_ret
      exact ⟨_, rfl, HFIN.out, hbw⟩
end W
end Go.Proofs.YtpjaoapnangccaaGreatDoor
