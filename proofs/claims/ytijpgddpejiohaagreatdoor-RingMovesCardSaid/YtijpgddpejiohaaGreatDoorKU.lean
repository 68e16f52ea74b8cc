/-
  Chapter 35 of the program: the annulus at a center. (Printed by wip/yq.py.)
  Chapter 35 of the program: 'At', 'Narrow', 'Round'.
  Chapter 35 of the program: 'Narrow', 'Round'.
-/
import Derived.Test.YtijpgddpejiohaaGreatDoorKT
section
namespace Go.Proofs.YtijpgddpejiohaaGreatDoor
open Go Go.RowKit Go.Deep Go.Sort
abbrev ZX5 : Obj := .cells #[.string ⟨#[]⟩, .string ⟨#[]⟩, .string ⟨#[]⟩, .string ⟨#[]⟩] 43 (0, 0)
structure PaS (w W : World) (ta tb x2 x3 : List UInt8) : Prop where
  r1 : Row W w.heap.size 41 [.string (bs ta), .string (bs tb)]
  r2 : Row W (w.heap.size + 1) 43 [.string ⟨#[]⟩, .string ⟨#[]⟩, .string ⟨#[]⟩, .string ⟨#[]⟩]
  rs : NoErR W (w.heap.size + 2)
  rz : Row W (w.heap.size + 3) 43 [.string (bs ta), .string (bs tb), .string (bs x2), .string (bs x3)]
  bel : Below w.heap.size w W
theorem PaS.to {w W W' : World} {ta tb x2 x3 : List UInt8} (h : PaS w W ta tb x2 x3) (hb : Below W.heap.size W W') : PaS w W' ta tb x2 x3 := ⟨h.r1.below' hb, h.r2.below' hb, h.rs.below' hb, h.rz.below' hb, bel_to h.bel hb⟩
theorem PaS.set2 {w W : World} {ta tb x2 x3 : List UInt8} (h : PaS w W ta tb x2 x3) (q : List UInt8) : PaS w (W.setCell ⟨w.heap.size + 3, 2, none⟩ (.string (bs q))) ta tb q x3 :=
  ⟨Row.other h.r1 (by show w.heap.size ≠ w.heap.size + 3; omega) _, Row.other h.r2 (by show w.heap.size + 1 ≠ w.heap.size + 3; omega) _, Row.other h.rs (by show w.heap.size + 2 ≠ w.heap.size + 3; omega) _, h.rz.set 2 _, h.bel.setCell (p := ⟨w.heap.size + 3, 2, none⟩) (by show w.heap.size ≤ w.heap.size + 3; omega) _⟩
theorem PaS.set3 {w W : World} {ta tb x2 x3 : List UInt8} (h : PaS w W ta tb x2 x3) (q : List UInt8) : PaS w (W.setCell ⟨w.heap.size + 3, 3, none⟩ (.string (bs q))) ta tb x2 q :=
  ⟨Row.other h.r1 (by show w.heap.size ≠ w.heap.size + 3; omega) _, Row.other h.r2 (by show w.heap.size + 1 ≠ w.heap.size + 3; omega) _, Row.other h.rs (by show w.heap.size + 2 ≠ w.heap.size + 3; omega) _, h.rz.set 3 _, h.bel.setCell (p := ⟨w.heap.size + 3, 3, none⟩) (by show w.heap.size ≤ w.heap.size + 3; omega) _⟩
theorem PaS.new (w : World) (ta tb : List UInt8) : PaS w ((((w.alloc (.cells #[.string (bs ta), .string (bs tb)] 41 (0, 0))).alloc ZX5).alloc (.cells #[.int .i64 0] 125 (0, 0))).alloc (.cells #[.string (bs ta), .string (bs tb), .string ⟨#[]⟩, .string ⟨#[]⟩] 43 (0, 0))) ta tb [] [] := by
  have s1 : (w.alloc (.cells #[.string (bs ta), .string (bs tb)] 41 (0, 0))).heap.size = w.heap.size + 1 := World.size_alloc _ _
  have s2 : ((w.alloc (.cells #[.string (bs ta), .string (bs tb)] 41 (0, 0))).alloc ZX5).heap.size = w.heap.size + 2 := by rw [World.size_alloc, s1]
  have s3 : (((w.alloc (.cells #[.string (bs ta), .string (bs tb)] 41 (0, 0))).alloc ZX5).alloc (.cells #[.int .i64 0] 125 (0, 0))).heap.size = w.heap.size + 3 := by rw [World.size_alloc, s2]
  exact ⟨((rnw.alloc _).alloc _).alloc _, ((rnew0 s1.symm).alloc _).alloc _, (show NoErR _ _ from (rnew0 s2.symm)).alloc _, rnew0 s3.symm, W.bel_alloc (W.bel_alloc (W.bel_alloc (W.bel_alloc (Below.refl _ _) _) _) _) _⟩
namespace M
def inT (f : Nat → Rat) : Nat → List UInt8
  | 0 => []
  | j + 1 => R (loTo f j)
def ouT (f : Nat → Rat) : Nat → List UInt8
  | 0 => []
  | j + 1 => R (hiTo f j)
end M
namespace W
open M
attribute [local go_sem] bs_size bs_toList bs_get bs_extract bs_append bs_lit0 bs_lit1 lit1_bs
set_option maxHeartbeats 4000000
set_option maxRecDepth 20000
theorem pat35 (vl : Value) (l : List PZ) (c : Rat × Rat) (k : Nat) (w : World) (hg : Glob w) (hl : RdV w vl l) (h0 : l ≠ []) (hp : ∀ p ∈ l, inP p = true) (h1 : Bq k c.1) (h2 : Bq k c.2) (hk : k ≤ 100) (hn : l.length ≤ 1000) :
    Calls Tryz.prog 78 #[vl, ceV (ceQ c)] w (Ret w (.tuple #[zoV (zoQ c (innQ l c) (outQ l c)), .int .i64 0])) := by
  have hpos : 0 < l.length := List.length_pos_iff.2 h0
  have hfb : ∀ i, i < l.length → Bq (4 * k + 29) (farF l c i) := fun i hi => by rw [farF_get l c hi]; exact far_bq (hp _ (List.getElem_mem hi)) h1 h2
  have hlo : ∀ i, i < l.length → Bq (4 * k + 29) (loTo (farF l c) i) := fun i hi => lo_bq fun j hj => hfb j (by omega)
  have hhi : ∀ i, i < l.length → Bq (4 * k + 29) (hiTo (farF l c) i) := fun i hi => hi_bq fun j hj => hfb j (by omega)
  have hf : ∀ i (_ : i < l.length) W (_ : Glob W) (_ : NoErR W (w.heap.size + 2)), Calls Tryz.prog 82 #[.pointer (some ⟨w.heap.size + 2, 0, none⟩), ptV l[i], ceV (ceQ c)] W (Ret W (.string (bs (R (farF l c i))))) := fun i hi W hW hs => by
    rw [farF_get l c hi]
    exact psquareR (w.heap.size + 2) l[i] c k W hW hs (hp _ (List.getElem_mem hi)) h1 h2 hk
  have ho1 : ∀ i (_ : i + 1 < l.length) W (_ : Glob W) (_ : NoErR W (w.heap.size + 2)), Calls Tryz.prog 139 #[.pointer (some ⟨w.heap.size + 2, 0, none⟩), .string (bs (R (farF l c (i + 1)))), .string (bs (R (loTo (farF l c) i)))] W (Ret W (.bool (decide (farF l c (i + 1) < loTo (farF l c) i)))) := fun i hi W hW hs => prless _ _ _ _ _ W hW hs (hfb (i + 1) hi) (hlo i (by omega)) (by omega)
  have ho2 : ∀ i (_ : i + 1 < l.length) W (_ : Glob W) (_ : NoErR W (w.heap.size + 2)), Calls Tryz.prog 139 #[.pointer (some ⟨w.heap.size + 2, 0, none⟩), .string (bs (R (hiTo (farF l c) i))), .string (bs (R (farF l c (i + 1))))] W (Ret W (.bool (decide (hiTo (farF l c) i < farF l c (i + 1))))) := fun i hi W hW hs => prless _ _ _ _ _ W hW hs (hhi i (by omega)) (hfb (i + 1) hi) (by omega)
  have HF := Lib.hid hf
  have HO1 := Lib.hid ho1
  have HO2 := Lib.hid ho2
  have HL := Lib.hid (fun W (hW : Below w.heap.size w W) => hl.below hW)
  have HG := Lib.hid (fun W (hW : Below w.heap.size w W) => hg.of hW)
  have HA := Lib.hid (PaS.new w (ceQ c).1 (ceQ c).2)
  obtain ⟨A, cap, rfl⟩ := hl.len
  unfold innQ outQ zoQ ceQ zoV ceV ptV at *
  simp only at *
  clear hfb hlo hhi h1 h2 hp hl h0 hf ho1 ho2 hg
  generalize R c.1 = ta at *
  generalize R c.2 = tb at *
  go_enter Tryz.func78, Tryz.ntmps78
  go_wp2_with fail
  generalize ((((w.alloc (.cells #[.string (bs ta), .string (bs tb)] 41 (0, 0))).alloc ZX5).alloc (.cells #[.int .i64 0] 125 (0, 0))).alloc (.cells #[.string (bs ta), .string (bs tb), .string ⟨#[]⟩, .string ⟨#[]⟩] 43 (0, 0))) = W0 at *
  go_loopw [17] (fun iv wr => ∃ i : Nat, iv = .int .i64 (i : Int) ∧ i ≤ l.length ∧ Hid (PaS w wr ta tb (inT (farF l c) i) (ouT (farF l c) i))) (fun iv _ => l.length - (intOf iv).toNat)
  case atStart => exact ⟨0, rfl, by omega, HA⟩
  case round =>
    clear HA
    obtain ⟨i, rfl, hi, hin⟩ := hrel
    by_cases hlt : i < l.length
    · obtain ⟨b1, o1, rfl, hw⟩ := (HL.out _ hin.out.bel).row i hlt
      obtain ⟨c0, c1⟩ := hw.val i hlt
      have HFI := Lib.hid (HF.out i hlt)
      have hi1 : (i : Int) < (l.length : Int) := by omega
      have hi0 : (0 : Int) ≤ (i : Int) := by omega
      clear hw
      generalize l[i].1 = x at *
      generalize l[i].2 = y at *
      have H1 := Lib.hid (hin.out.to (bel_alloc (Below.refl _ _) (.cells #[.int .i64 x, .int .i64 y] 69 (0, 0))))
      have HI := Lib.hid hin.out
      have p0 := hin.out.r1.cell (i := 0) rfl
      have p1 := hin.out.r1.cell (i := 1) rfl
      have p0' := H1.out.r1.cell (i := 0) rfl
      have p1' := H1.out.r1.cell (i := 1) rfl
      go_wp2_with fail
      refine (HFI.out _ (HG.out _ H1.out.bel) H1.out.rs).mono ?_
      rintro e w1 ⟨rfl, hb1⟩
      have H2 := Lib.hid (H1.out.to hb1)
      clear hb1 H1 p0 p1 p0' p1' c0 c1 hin HI HFI
      rcases i with _ | j
      · have HX := Lib.hid (show R (farF l c 0) = inT (farF l c) 1 ∧ R (farF l c 0) = ouT (farF l c) 1 from ⟨rfl, rfl⟩)
        generalize R (farF l c 0) = d at *
        have H3 := Lib.hid (H2.out.set2 d)
        have H4 := Lib.hid (H3.out.set3 d)
        have f2 := H2.out.rz.free 2
        have n2 := H2.out.rz.cell (i := 2) rfl
        have f3 := H3.out.rz.free 3
        have n3 := H3.out.rz.cell (i := 3) rfl
        have n3' := H2.out.rz.cell (i := 3) rfl
        clear H2 H3
        go_wp2
        go_roundw
        case rel => exact ⟨1, by go_num, by omega, by rw [← HX.out.1, ← HX.out.2]; exact H4⟩
        case measure => simp [intOf]; omega
      · have hz : ((((j + 1 : Nat) : Int)) == 0) = false := by rw [beq_eq_false_iff_ne]; omega
        have hz' : (((j : Int) + 1) == 0) = false := by rw [beq_eq_false_iff_ne]; omega
        have P1 := Lib.hid (HO1.out j hlt)
        have P2 := Lib.hid (HO2.out j hlt)
        have HX1 := Lib.hid (show inT (farF l c) (j + 2) = if farF l c (j + 1) < loTo (farF l c) j then R (farF l c (j + 1)) else R (loTo (farF l c) j) from by
          show R (loTo (farF l c) (j + 1)) = _
          rw [loTo]; split <;> rfl)
        have HX2 := Lib.hid (show ouT (farF l c) (j + 2) = if hiTo (farF l c) j < farF l c (j + 1) then R (farF l c (j + 1)) else R (hiTo (farF l c) j) from by
          show R (hiTo (farF l c) (j + 1)) = _
          rw [hiTo]; split <;> rfl)
        have hin2 : PaS w w1 ta tb (R (loTo (farF l c) j)) (R (hiTo (farF l c) j)) := H2.out
        have H3 := Lib.hid hin2
        clear H2 hin2
        generalize R (farF l c (j + 1)) = d at *
        generalize R (loTo (farF l c) j) = si at *
        generalize R (hiTo (farF l c) j) = so at *
        have q2 := H3.out.rz.cell (i := 2) rfl
        go_wp2_with fail
        refine (P1.out _ (HG.out _ H3.out.bel) H3.out.rs).mono ?_
        rintro e w4 ⟨rfl, hb4⟩
        have H4 := Lib.hid (H3.out.to hb4)
        clear hb4 H3 P1 q2
        by_cases hc1 : farF l c (j + 1) < loTo (farF l c) j
        · have hx1 := HX1.out
          rw [if_pos hc1] at hx1
          have HY1 := Lib.hid hx1
          have d1 : decide (farF l c (j + 1) < loTo (farF l c) j) = true := decide_eq_true hc1
          have f2 := H4.out.rz.free 2
          have n2 := H4.out.rz.cell (i := 2) rfl
          have n3 := H4.out.rz.cell (i := 3) rfl
          have H5 := Lib.hid (H4.out.set2 d)
          have n3' := H5.out.rz.cell (i := 3) rfl
          clear hx1 hc1 H4 HX1
          go_wp2_with fail
          refine (P2.out _ (HG.out _ H5.out.bel) H5.out.rs).mono ?_
          rintro e w6 ⟨rfl, hb6⟩
          have H6 := Lib.hid (H5.out.to hb6)
          clear hb6 H5 P2 f2 n2 n3 n3' d1
          by_cases hc2 : hiTo (farF l c) j < farF l c (j + 1)
          · have hx2 := HX2.out
            rw [if_pos hc2] at hx2
            have HY2 := Lib.hid hx2
            have d2 : decide (hiTo (farF l c) j < farF l c (j + 1)) = true := decide_eq_true hc2
            have f3 := H6.out.rz.free 3
            have n3 := H6.out.rz.cell (i := 3) rfl
            have H7 := Lib.hid (H6.out.set3 d)
            clear hx2 hc2 H6 HX2
            go_wp2
            go_roundw
            case rel => exact ⟨j + 2, by go_num, by omega, by rw [HY1.out, HY2.out]; exact H7⟩
            case measure => simp [intOf]; omega
          · have hx2 := HX2.out
            rw [if_neg hc2] at hx2
            have HY2 := Lib.hid hx2
            have d2 : decide (hiTo (farF l c) j < farF l c (j + 1)) = false := decide_eq_false hc2
            clear hx2 hc2 HX2
            go_wp2
            go_roundw
            case rel => exact ⟨j + 2, by go_num, by omega, by rw [HY1.out, HY2.out]; exact H6⟩
            case measure => simp [intOf]; omega
        · have hx1 := HX1.out
          rw [if_neg hc1] at hx1
          have HY1 := Lib.hid hx1
          have d1 : decide (farF l c (j + 1) < loTo (farF l c) j) = false := decide_eq_false hc1
          have H5 := Lib.hid H4.out
          have n3 := H5.out.rz.cell (i := 3) rfl
          clear hx1 hc1 H4 HX1
          go_wp2_with fail
          refine (P2.out _ (HG.out _ H5.out.bel) H5.out.rs).mono ?_
          rintro e w6 ⟨rfl, hb6⟩
          have H6 := Lib.hid (H5.out.to hb6)
          clear hb6 H5 P2 n3 d1
          by_cases hc2 : hiTo (farF l c) j < farF l c (j + 1)
          · have hx2 := HX2.out
            rw [if_pos hc2] at hx2
            have HY2 := Lib.hid hx2
            have d2 : decide (hiTo (farF l c) j < farF l c (j + 1)) = true := decide_eq_true hc2
            have f3 := H6.out.rz.free 3
            have n3 := H6.out.rz.cell (i := 3) rfl
            have H7 := Lib.hid (H6.out.set3 d)
            clear hx2 hc2 H6 HX2
            go_wp2
            go_roundw
            case rel => exact ⟨j + 2, by go_num, by omega, by rw [HY1.out, HY2.out]; exact H7⟩
            case measure => simp [intOf]; omega
          · have hx2 := HX2.out
            rw [if_neg hc2] at hx2
            have HY2 := Lib.hid hx2
            have d2 : decide (hiTo (farF l c) j < farF l c (j + 1)) = false := decide_eq_false hc2
            clear hx2 hc2 HX2
            go_wp2
            go_roundw
            case rel => exact ⟨j + 2, by go_num, by omega, by rw [HY1.out, HY2.out]; exact H6⟩
            case measure => simp [intOf]; omega
    · obtain rfl : i = l.length := by omega
      have hin2 : PaS w wr ta tb (R (loTo (farF l c) (l.length - 1))) (R (hiTo (farF l c) (l.length - 1))) := by
        have h := hin.out
        have e : ∀ n, 0 < n → inT (farF l c) n = R (loTo (farF l c) (n - 1)) ∧ ouT (farF l c) n = R (hiTo (farF l c) (n - 1)) := fun n hn => by
          cases n with
          | zero => omega
          | succ m => exact ⟨rfl, rfl⟩
        rw [(e _ hpos).1, (e _ hpos).2] at h
        exact h
      clear hin
      generalize R (loTo (farF l c) (l.length - 1)) = si at *
      generalize R (hiTo (farF l c) (l.length - 1)) = so at *
      have e0 := hin2.rs.cell
      have t0 := hin2.rz.cell (i := 0) rfl
      have t1 := hin2.rz.cell (i := 1) rfl
      have t2 := hin2.rz.cell (i := 2) rfl
      have t3 := hin2.rz.cell (i := 3) rfl
      obtain ⟨⟨f0, n0⟩, ⟨f1, n1⟩, ⟨f2, n2⟩, ⟨f3, n3⟩, hrow⟩ := zone_store (.string (bs ta)) (.string (bs tb)) (.string (bs si)) (.string (bs so)) hin2.r2
      have y0 := hrow.cell (i := 0) rfl
      have y1 := hrow.cell (i := 1) rfl
      have y2 := hrow.cell (i := 2) rfl
      have y3 := hrow.cell (i := 3) rfl
      have HQB := Lib.hid (zone_below (.string (bs ta)) (.string (bs tb)) (.string (bs si)) (.string (bs so)) hin2.bel (A := w.heap.size + 1) (by omega))
      clear hin2 hrow
      go_wp2
      refine bodyPost_ret (v := .tuple #[.agg #[.string (bs ta), .string (bs tb), .string (bs si), .string (bs so)], .int .i64 0]) (by simp [results, Tryz.results78, go_sem, y0, y1, y2, y3]) rfl ⟨rfl, HQB.out⟩
end W
end Go.Proofs.YtijpgddpejiohaaGreatDoor
end
section
namespace Go.Proofs.YtijpgddpejiohaaGreatDoor
open Go Go.RowKit Go.Deep Go.Sort
namespace W
open M
attribute [local go_sem] bs_size bs_toList bs_get bs_extract bs_append bs_lit0 bs_lit1 lit1_bs
set_option maxHeartbeats 4000000
set_option maxRecDepth 20000
structure PbS (w W : World) (ta tb : List UInt8) : Prop where
  r1 : Row W w.heap.size 41 [.string (bs ta), .string (bs tb)]
  r2 : Row W (w.heap.size + 1) 43 [.string ⟨#[]⟩, .string ⟨#[]⟩, .string ⟨#[]⟩, .string ⟨#[]⟩]
  bel : Below w.heap.size w W
theorem PbS.to {w W W' : World} {ta tb : List UInt8} (h : PbS w W ta tb) (hb : Below W.heap.size W W') : PbS w W' ta tb := ⟨h.r1.below' hb, h.r2.below' hb, bel_to h.bel hb⟩
theorem PbS.new (w : World) (ta tb : List UInt8) : PbS w ((w.alloc (.cells #[.string (bs ta), .string (bs tb)] 41 (0, 0))).alloc ZX5) ta tb :=
  ⟨rnw.alloc _, rnew0 (World.size_alloc _ _).symm, bel_alloc (bel_alloc (Below.refl _ _) _) _⟩
theorem pAt_bad (vl : Value) (l : List PZ) (c : CT) (w : World) (hg : Glob w) (hl : RdV w vl l) (h1 : c.1.length ≤ 90000) (h2 : c.2.length ≤ 90000) (h : atC l c ≠ 0) :
    Calls Tryz.prog 21 #[vl, ceV c] w (Ret w (.tuple #[zoV zo0, .int .i64 ((atC l c : Nat) : Int)])) := by
  have hgi := fun W (hW : Below w.heap.size w W) => pgiven vl l W (hl.below hW)
  have HA := Lib.hid (PbS.new w c.1 c.2)
  obtain ⟨ta, tb⟩ := c
  have hnu := fun W (hW : Below w.heap.size w W) => prnumbers (.slice (some ⟨W.heap.size, 0, none⟩) 2 2) [ta, tb] (W.alloc (.cells #[.string (bs ta), .string (bs tb)] 29 (0, 0))) (hg.of (bel_alloc hW _)) (rdt_row (cap := 2) (l := [ta, tb]) rnw) (fun p hp => by
    simp only [List.mem_cons, List.not_mem_nil, or_false] at hp
    rcases hp with rfl | rfl <;> assumption) (by simp)
  obtain ⟨A, cap, rfl⟩ := hl.len
  unfold atC ceV at *
  simp only at *
  by_cases hgv : givP l = 0
  · rw [if_neg (by simp [hgv])] at h ⊢
    rw [hgv] at hgi
    have hz : (((chkRs [ta, tb] : Nat) : Int) != 0) = true := by simp; exact h
    clear h h1 h2 hl hg hgv
    generalize ((chkRs [ta, tb] : Nat) : Int) = z at *
    have HG := Lib.hid hgi
    have HN := Lib.hid hnu
    clear hgi hnu
    go_enter Tryz.func21, Tryz.ntmps21
    go_wp2_with fail
    refine (HG.out _ HA.out.bel).mono ?_
    rintro e w1 ⟨rfl, hb1⟩
    have HA1 := Lib.hid (HA.out.to hb1)
    clear HA hb1 HG
    have p0 := HA1.out.r1.cell (i := 0) rfl
    have p1 := HA1.out.r1.cell (i := 1) rfl
    go_wp2_with fail
    refine (HN.out _ HA1.out.bel).mono ?_
    rintro e w2 ⟨rfl, hb2⟩
    have HA2 := Lib.hid (HA1.out.to (bel_to (bel_alloc (Below.refl _ _) _) hb2))
    clear HA1 hb2 HN p0 p1
    obtain ⟨⟨f0, n0⟩, ⟨f1, n1⟩, ⟨f2, n2⟩, ⟨f3, n3⟩, hrow⟩ := zone_store (.string ⟨#[]⟩) (.string ⟨#[]⟩) (.string ⟨#[]⟩) (.string ⟨#[]⟩) HA2.out.r2
    have y0 := hrow.cell (i := 0) rfl
    have y1 := hrow.cell (i := 1) rfl
    have y2 := hrow.cell (i := 2) rfl
    have y3 := hrow.cell (i := 3) rfl
    have HQB := Lib.hid (zone_below (.string ⟨#[]⟩) (.string ⟨#[]⟩) (.string ⟨#[]⟩) (.string ⟨#[]⟩) HA2.out.bel (A := w.heap.size + 1) (by omega))
    clear hrow HA2
    go_wp2
    refine bodyPost_ret (v := .tuple #[zoV zo0, .int .i64 z]) (by simp [results, Tryz.results21, go_sem, y0, y1, y2, y3, zoV, zo0]; rfl) rfl ⟨rfl, HQB.out⟩
  · rw [if_pos hgv] at h ⊢
    have hz : (((givP l : Nat) : Int) != 0) = true := by simp; exact h
    clear h h1 h2 hl hg hgv hnu
    generalize ((givP l : Nat) : Int) = z at *
    have HG := Lib.hid hgi
    clear hgi
    go_enter Tryz.func21, Tryz.ntmps21
    go_wp2_with fail
    refine (HG.out _ HA.out.bel).mono ?_
    rintro e w1 ⟨rfl, hb1⟩
    have HA2 := Lib.hid (HA.out.to hb1)
    clear HA hb1 HG
    obtain ⟨⟨f0, n0⟩, ⟨f1, n1⟩, ⟨f2, n2⟩, ⟨f3, n3⟩, hrow⟩ := zone_store (.string ⟨#[]⟩) (.string ⟨#[]⟩) (.string ⟨#[]⟩) (.string ⟨#[]⟩) HA2.out.r2
    have y0 := hrow.cell (i := 0) rfl
    have y1 := hrow.cell (i := 1) rfl
    have y2 := hrow.cell (i := 2) rfl
    have y3 := hrow.cell (i := 3) rfl
    have HQB := Lib.hid (zone_below (.string ⟨#[]⟩) (.string ⟨#[]⟩) (.string ⟨#[]⟩) (.string ⟨#[]⟩) HA2.out.bel (A := w.heap.size + 1) (by omega))
    clear hrow HA2
    go_wp2
    refine bodyPost_ret (v := .tuple #[zoV zo0, .int .i64 z]) (by simp [results, Tryz.results21, go_sem, y0, y1, y2, y3, zoV, zo0]; rfl) rfl ⟨rfl, HQB.out⟩
theorem pAt_ok (vl : Value) (l : List PZ) (c : Rat × Rat) (k : Nat) (w : World) (hg : Glob w) (hl : RdV w vl l) (hgv : givP l = 0) (h1 : Bq k c.1) (h2 : Bq k c.2) (hk : k ≤ 100) :
    Calls Tryz.prog 21 #[vl, ceV (ceQ c)] w (Ret w (.tuple #[zoV (zoQ c (innQ l c) (outQ l c)), .int .i64 0])) := by
  obtain ⟨g1, g2, g3⟩ := givP_iff.1 hgv
  have small : ∀ q, Bq k q → (R q).length ≤ 90000 := fun q h => by have := h.R_len (by omega); omega
  have s1 := small _ h1
  have s2 := small _ h2
  have hgi := fun W (hW : Below w.heap.size w W) => pgiven vl l W (hl.below hW)
  rw [hgv] at hgi
  have har := fun W (hW : Below w.heap.size w W) => pat35 vl l c k W (hg.of hW) (hl.below hW) g2 g3 h1 h2 hk (by omega)
  have HA := Lib.hid (PbS.new w (R c.1) (R c.2))
  have hnu := fun W (hW : Below w.heap.size w W) => prnumbers (.slice (some ⟨W.heap.size, 0, none⟩) 2 2) [R c.1, R c.2] (W.alloc (.cells #[.string (bs (R c.1)), .string (bs (R c.2))] 29 (0, 0))) (hg.of (bel_alloc hW _)) (rdt_row (cap := 2) (l := [R c.1, R c.2]) rnw) (fun p hp => by
    simp only [List.mem_cons, List.not_mem_nil, or_false] at hp
    rcases hp with rfl | rfl <;> assumption) (by simp)
  rw [chkRs_two h1 h2 (by omega) (by omega)] at hnu
  obtain ⟨A, cap, rfl⟩ := hl.len
  unfold ceV ceQ zoV zoQ ceQ at *
  simp only at *
  clear hgv h1 h2 hl small g1 g2 g3 s1 s2 hg
  generalize R (innQ l c) = si at *
  generalize R (outQ l c) = so at *
  generalize R c.1 = ta at *
  generalize R c.2 = tb at *
  have HG := Lib.hid hgi
  have HN := Lib.hid hnu
  have HT := Lib.hid har
  clear hgi hnu har
  go_enter Tryz.func21, Tryz.ntmps21
  go_wp2_with fail
  refine (HG.out _ HA.out.bel).mono ?_
  rintro e w1 ⟨rfl, hb1⟩
  have HA1 := Lib.hid (HA.out.to hb1)
  clear HA hb1 HG
  have p0 := HA1.out.r1.cell (i := 0) rfl
  have p1 := HA1.out.r1.cell (i := 1) rfl
  go_wp2_with fail
  refine (HN.out _ HA1.out.bel).mono ?_
  rintro e w2 ⟨rfl, hb2⟩
  have HA2 := Lib.hid (HA1.out.to (bel_to (bel_alloc (Below.refl _ _) _) hb2))
  clear HA1 hb2 HN p0 p1
  have p0 := HA2.out.r1.cell (i := 0) rfl
  have p1 := HA2.out.r1.cell (i := 1) rfl
  go_wp2_with fail
  refine (HT.out _ HA2.out.bel).mono ?_
  rintro e w3 ⟨rfl, hb3⟩
  have HA3 := Lib.hid (HA2.out.to hb3)
  clear HA2 hb3 HT p0 p1
  obtain ⟨⟨f0, n0⟩, ⟨f1, n1⟩, ⟨f2, n2⟩, ⟨f3, n3⟩, hrow⟩ := zone_store (.string (bs ta)) (.string (bs tb)) (.string (bs si)) (.string (bs so)) HA3.out.r2
  have y0 := hrow.cell (i := 0) rfl
  have y1 := hrow.cell (i := 1) rfl
  have y2 := hrow.cell (i := 2) rfl
  have y3 := hrow.cell (i := 3) rfl
  have HQB := Lib.hid (zone_below (.string (bs ta)) (.string (bs tb)) (.string (bs si)) (.string (bs so)) HA3.out.bel (A := w.heap.size + 1) (by omega))
  clear hrow HA3
  go_wp2
  refine bodyPost_ret (v := .tuple #[.agg #[.string (bs ta), .string (bs tb), .string (bs si), .string (bs so)], .int .i64 0]) (by simp [results, Tryz.results21, go_sem, y0, y1, y2, y3]) rfl ⟨rfl, HQB.out⟩
theorem pnarrow_bad (z : ZT) (t : Int) (w : World) (h : tolC t ≠ 0) : Calls Tryz.prog 86 #[zoV z, .int .i64 t] w (Ret w (.tuple #[.bool false, .int .i64 2])) := by
  obtain ⟨⟨ta, tb⟩, tc, td⟩ := z
  have ht : t < 0 ∨ 100000 < t := Classical.byContradiction fun hn => h (if_neg hn)
  unfold zoV
  simp only
  clear h
  by_cases h1 : t < 0
  · have d1 : decide (t < 0) = true := decide_eq_true h1
    clear ht h1
    go_enter Tryz.func86, Tryz.ntmps86
    go_wp2
    go_ret2
    exact ⟨rfl, bel_alloc (Below.refl _ _) _⟩
  · have d1 : decide (t < 0) = false := decide_eq_false h1
    have d2 : decide ((100000 : Int) < t) = true := decide_eq_true (by omega)
    clear ht h1
    go_enter Tryz.func86, Tryz.ntmps86
    go_wp2
    go_ret2
    exact ⟨rfl, bel_alloc (Below.refl _ _) _⟩
theorem pnarrow_ok (c : CT) (i o : Rat) (t : Int) (k : Nat) (w : World) (hg : Glob w) (h0 : 0 ≤ t) (h1 : t ≤ 100000) (b3 : Bq k i) (b4 : Bq k o) (hk : k ≤ 240) (hd2 : Bq (2 * k + 13) (o - i - ((t * t : Int) : Rat)) → 2 * (2 * k + 13) + (k + 12) ≤ 1024) :
    Calls Tryz.prog 86 #[zoV (c, R i, R o), .int .i64 t] w (Ret w (.tuple #[.bool (slimB i o t), .int .i64 0])) := by
  have tt := tt_bq h0 h1
  have td := tt_bd h0 h1
  have bd : Bq (2 * k + 13) (o - i - ((t * t : Int) : Rat)) := ((b4.sub b3).sub tt).mono (by omega)
  have hbb := hd2 bd
  have hW := fun W (hW : Glob W) => ratWhole (t * t) W hW (by omega) (by omega)
  have hL1 := fun b W (hW : Glob W) (hs : NoErR W b) => prsub b o i k k W hW hs b4 b3 (by omega)
  have hL2 := fun b W (hW : Glob W) (hs : NoErR W b) => prsub b (o - i) ((t * t : Int) : Rat) _ 11 W hW hs (b4.sub b3) tt (by omega)
  have hC := fun b W (hW : Glob W) (hs : NoErR W b) => prless b 0 (o - i - ((t * t : Int) : Rat)) 1 _ W hW hs Bq_nil bd (by omega)
  rw [R_nil] at hC
  have hM1 := fun b W (hW : Glob W) (hs : NoErR W b) => prmul b 4 ((t * t : Int) : Rat) 1 11 W hW hs four_bq tt (by omega)
  rw [R_four] at hM1
  have hM2 := fun b W (hW : Glob W) (hs : NoErR W b) => prmul b (4 * ((t * t : Int) : Rat)) i _ k W hW hs (four_bq.mul tt) b3 (by omega)
  have hM3 := fun b W (hW : Glob W) (hs : NoErR W b) => prmul b (o - i - ((t * t : Int) : Rat)) (o - i - ((t * t : Int) : Rat)) _ _ W hW hs bd bd (by omega)
  have hO := fun b W (hW : Glob W) (hs : NoErR W b) => prless b (4 * ((t * t : Int) : Rat) * i) ((o - i - ((t * t : Int) : Rat)) * (o - i - ((t * t : Int) : Rat))) (1 + 11 + k) ((2 * k + 13) + (2 * k + 13)) W hW hs ((four_bq.mul tt).mul b3) (bd.mul bd) (by omega)
  have hm1 : IntKind.i64.wrap (t * t) = t * t := IntWalk.i64_in _ (by omega)
  have d1 : decide (t < 0) = false := decide_eq_false (by omega)
  have d2 : decide ((100000 : Int) < t) = false := decide_eq_false (by omega)
  have hres : slimB i o t = if decide (0 < o - i - ((t * t : Int) : Rat)) = true then !decide (4 * ((t * t : Int) : Rat) * i < (o - i - ((t * t : Int) : Rat)) * (o - i - ((t * t : Int) : Rat))) else true := by
    unfold slimB
    by_cases h : 0 < o - i - ((t * t : Int) : Rat)
    · rw [if_pos h, if_pos (decide_eq_true h)]
      by_cases h2 : 4 * ((t * t : Int) : Rat) * i < (o - i - ((t * t : Int) : Rat)) * (o - i - ((t * t : Int) : Rat))
      · rw [decide_eq_true h2, decide_eq_false (Rat.not_le.2 h2)]; rfl
      · rw [decide_eq_false h2, decide_eq_true (Rat.not_lt.1 h2)]; rfl
    · rw [if_neg h, if_neg (by rw [decide_eq_true_eq]; exact h)]
  rw [hres]
  clear hres bd tt td b3 b4 hk hd2 hbb h0 h1
  obtain ⟨ta, tb⟩ := c
  show Calls Tryz.prog 86 #[.agg #[.string (bs ta), .string (bs tb), .string (bs (R i)), .string (bs (R o))], .int .i64 t] w _
  generalize decide (4 * ((t * t : Int) : Rat) * i < (o - i - ((t * t : Int) : Rat)) * (o - i - ((t * t : Int) : Rat))) = ov at *
  generalize decide (0 < o - i - ((t * t : Int) : Rat)) = bd at *
  generalize R ((o - i - ((t * t : Int) : Rat)) * (o - i - ((t * t : Int) : Rat))) = s1 at *
  generalize R (4 * ((t * t : Int) : Rat) * i) = s2 at *
  generalize R (4 * ((t * t : Int) : Rat)) = s3 at *
  generalize R (o - i - ((t * t : Int) : Rat)) = s5 at *
  generalize R ((t * t : Int) : Rat) = s6 at *
  generalize R (o - i) = s7 at *
  generalize R i = si at *
  generalize R o = so at *
  have hal : Below w.heap.size w ((w.alloc (.cells #[.string (bs ta), .string (bs tb), .string (bs si), .string (bs so)] 43 (0, 0))).alloc (.cells #[.int .i64 0] 125 (0, 0))) := bel_alloc (bel_alloc (Below.refl _ _) _) _
  have HR := Lib.hid (show Row ((w.alloc (.cells #[.string (bs ta), .string (bs tb), .string (bs si), .string (bs so)] 43 (0, 0))).alloc (.cells #[.int .i64 0] 125 (0, 0))) w.heap.size 43 [.string (bs ta), .string (bs tb), .string (bs si), .string (bs so)] ∧ NoErR ((w.alloc (.cells #[.string (bs ta), .string (bs tb), .string (bs si), .string (bs so)] 43 (0, 0))).alloc (.cells #[.int .i64 0] 125 (0, 0))) (w.heap.size + 1) ∧ Below w.heap.size w ((w.alloc (.cells #[.string (bs ta), .string (bs tb), .string (bs si), .string (bs so)] 43 (0, 0))).alloc (.cells #[.int .i64 0] 125 (0, 0))) from ⟨rnw.alloc _, rnew0 (World.size_alloc _ _).symm, hal⟩)
  have HW := Lib.hid hW
  have HL1 := Lib.hid (hL1 (w.heap.size + 1))
  have HL2 := Lib.hid (hL2 (w.heap.size + 1))
  have HC := Lib.hid (hC (w.heap.size + 1))
  have HM1 := Lib.hid (hM1 (w.heap.size + 1))
  have HM2 := Lib.hid (hM2 (w.heap.size + 1))
  have HM3 := Lib.hid (hM3 (w.heap.size + 1))
  have HO := Lib.hid (hO (w.heap.size + 1))
  have HGL := Lib.hid (fun W (hW : Below w.heap.size w W) => hg.of hW)
  clear hW hL1 hL2 hC hM1 hM2 hM3 hO hg hal
  generalize hrs : (if bd = true then !ov else true) = rs
  have HRS := Lib.hid hrs
  clear hrs
  go_enter Tryz.func86, Tryz.ntmps86
  go_wp2_with fail
  refine (HW.out _ (HGL.out _ HR.out.2.2)).mono ?_
  rintro e w1 ⟨rfl, hb1⟩
  have H1 := Lib.hid (And.intro (HR.out.1.below' hb1) (And.intro (HR.out.2.1.below' hb1) (bel_to HR.out.2.2 hb1)))
  clear hb1 HR HW
  have q2 := H1.out.1.cell (i := 2) rfl
  have q3 := H1.out.1.cell (i := 3) rfl
  go_wp2_with fail
  refine (HL1.out _ (HGL.out _ H1.out.2.2) H1.out.2.1).mono ?_
  rintro e w2 ⟨rfl, hb2⟩
  have H2 := Lib.hid (And.intro (H1.out.1.below' hb2) (And.intro (H1.out.2.1.below' hb2) (bel_to H1.out.2.2 hb2)))
  clear hb2 H1 HL1 q2 q3
  go_wp2_with fail
  refine (HL2.out _ (HGL.out _ H2.out.2.2) H2.out.2.1).mono ?_
  rintro e w3 ⟨rfl, hb3⟩
  have H3 := Lib.hid (And.intro (H2.out.1.below' hb3) (And.intro (H2.out.2.1.below' hb3) (bel_to H2.out.2.2 hb3)))
  clear hb3 H2 HL2
  go_wp2_with fail
  refine (HC.out _ (HGL.out _ H3.out.2.2) H3.out.2.1).mono ?_
  rintro e w4 ⟨rfl, hb4⟩
  have H4 := Lib.hid (And.intro (H3.out.1.below' hb4) (And.intro (H3.out.2.1.below' hb4) (bel_to H3.out.2.2 hb4)))
  clear hb4 H3 HC
  cases bd with
  | false =>
    obtain rfl : true = rs := by rw [← HRS.out]; rfl
    clear HRS
    have e0 := H4.out.2.1.cell
    go_wp2_with fail
    go_quiet (fail)
    clear e0
    go_wp2
    go_ret2
    exact ⟨rfl, bel_to H4.out.2.2 (below_drewN (Below.refl _ _) _)⟩
  | true =>
    obtain rfl : (!ov) = rs := by rw [← HRS.out]; rfl
    clear HRS
    have m2 := cell_regrown (H4.out.1.cell (i := 2) rfl)
    have k1 := reg_of (w := w4) (fun E hE => HM1.out E (HGL.out _ (bel_to H4.out.2.2 hE)) (H4.out.2.1.below' hE))
    have k2 := reg_of (w := w4) (fun E hE => HM2.out E (HGL.out _ (bel_to H4.out.2.2 hE)) (H4.out.2.1.below' hE))
    have k3 := reg_of (w := w4) (fun E hE => HM3.out E (HGL.out _ (bel_to H4.out.2.2 hE)) (H4.out.2.1.below' hE))
    have k4 := reg_of (w := w4) (fun E hE => HO.out E (HGL.out _ (bel_to H4.out.2.2 hE)) (H4.out.2.1.below' hE))
    have e2 : ∀ args w, (callFunc 143 args).run Tryz.prog w = .ok (.enter 143 args) w := enters_of Tryz.func143 (by kernel_rfl) rfl
    have e3 : ∀ args w, (callFunc 139 args).run Tryz.prog w = .ok (.enter 139 args) w := enters_of Tryz.func139 (by kernel_rfl) rfl
    go_wp2_with fail
    refine wp_region_quiet_below (by kernel_rfl) (by kernel_rfl) ?_
    repeat (go_big_quiet_step (fail))
    go_big_quiet_step (exact k1 _ _)
    repeat (go_big_quiet_step (fail))
    go_big_quiet_step (exact k2 _ _)
    repeat (go_big_quiet_step (fail))
    go_big_quiet_step (exact k3 _ _)
    repeat (go_big_quiet_step (fail))
    go_big_quiet_step (exact k4 _ _)
    repeat (go_big_quiet_step (fail))
    refine wpQuiet_nil ?_
    intro W6 hw'
    have hb6 : Below w4.heap.size w4 W6 := by obtain ⟨p, e⟩ := hw'; rw [e]; exact below_regrown w4 p.d p.os
    clear hw'
    have H6 := Lib.hid (And.intro (H4.out.2.1.below' hb6) (bel_to H4.out.2.2 hb6))
    clear hb6 k1 k2 k3 k4 e2 e3 m2 H4
    have e0 := H6.out.1.cell
    cases ov with
    | false =>
      go_wp2_with fail
      go_quiet (fail)
      clear e0
      go_wp2
      go_ret2
      exact ⟨rfl, bel_to H6.out.2 (below_drewN (Below.refl _ _) _)⟩
    | true =>
      go_wp2_with fail
      go_quiet (fail)
      clear e0
      go_wp2
      go_ret2
      exact ⟨rfl, bel_to H6.out.2 (below_drewN (Below.refl _ _) _)⟩
end W
end Go.Proofs.YtijpgddpejiohaaGreatDoor
end
section
namespace Go.Proofs.YtijpgddpejiohaaGreatDoor
open Go Go.RowKit Go.Deep Go.Sort
namespace W
open M
attribute [local go_sem] bs_size bs_toList bs_get bs_extract bs_append bs_lit0 bs_lit1 lit1_bs
set_option maxHeartbeats 2000000
set_option maxRecDepth 20000
theorem pNarrow_bad (z : ZT) (t : Int) (w : World) (hg : Glob w) (l1 : z.1.1.length ≤ 90000) (l2 : z.1.2.length ≤ 90000) (l3 : z.2.1.length ≤ 90000) (l4 : z.2.2.length ≤ 90000) (h : chkRs [z.1.1, z.1.2, z.2.1, z.2.2] ≠ 0) :
    Calls Tryz.prog 26 #[zoV z, .int .i64 t] w (Ret w (.tuple #[.bool false, .int .i64 ((chkRs [z.1.1, z.1.2, z.2.1, z.2.2] : Nat) : Int)])) := by
  have HC := Lib.hid (fun W (hW : Below w.heap.size w W) => pannulus_bad z W (hg.of hW) l1 l2 l3 l4 h)
  have hz : (((chkRs [z.1.1, z.1.2, z.2.1, z.2.2] : Nat) : Int) != 0) = true := by simp; exact h
  have HB := Lib.hid (bel_alloc (Below.refl w.heap.size w) (.cells #[.string (bs z.1.1), .string (bs z.1.2), .string (bs z.2.1), .string (bs z.2.2)] 43 (0, 0)))
  clear h l1 l2 l3 l4
  generalize ((chkRs [z.1.1, z.1.2, z.2.1, z.2.2] : Nat) : Int) = x at *
  unfold zoV at *
  go_enter Tryz.func26, Tryz.ntmps26
  go_wp2_with fail
  refine (HC.out _ HB.out).mono ?_
  rintro e w1 ⟨rfl, hb1⟩
  go_wp2
  go_ret2
  exact ⟨rfl, bel_to HB.out hb1⟩
theorem pNarrow_ok (c : Rat × Rat) (i o : Rat) (t : Int) (w : World) (hg : Glob w) (b1 : Bq 30 c.1) (b2 : Bq 30 c.2) (b3 : Bq 30 i) (b4 : Bq 30 o) :
    Calls Tryz.prog 26 #[zoV (zoQ c i o), .int .i64 t] w (Ret w (.tuple #[.bool (if narC i o t = 0 then slimB i o t else false), .int .i64 ((narC i o t : Nat) : Int)])) := by
  have hc := fun W (hW : Below w.heap.size w W) => pannulus_ok c i o 30 W (hg.of hW) b1 b2 b3 b4 (by decide) (by decide)
  have hs1 : ∀ W, tolC t ≠ 0 → Calls Tryz.prog 86 #[zoV (zoQ c i o), .int .i64 t] W (Ret W (.tuple #[.bool false, .int .i64 2])) := fun W h => pnarrow_bad _ t W h
  have hs2 : ∀ W, Below w.heap.size w W → 0 ≤ t → t ≤ 100000 → Calls Tryz.prog 86 #[zoV (zoQ c i o), .int .i64 t] W (Ret W (.tuple #[.bool (slimB i o t), .int .i64 0])) := fun W hW h0 h1 => pnarrow_ok (ceQ c) i o t 30 W (hg.of hW) h0 h1 b3 b4 (by decide) (fun _ => by decide)
  have HR := Lib.hid (And.intro (rnw (w := w) (t := 43) (xs := [.string (bs (R c.1)), .string (bs (R c.2)), .string (bs (R i)), .string (bs (R o))])) (bel_alloc (Below.refl w.heap.size w) (.cells #[.string (bs (R c.1)), .string (bs (R c.2)), .string (bs (R i)), .string (bs (R o))] 43 (0, 0))))
  unfold narC at *
  unfold zoV zoQ ceQ at *
  simp only at *
  clear b1 b2 b3 b4 hg
  generalize slimB i o t = sb at *
  generalize R c.1 = ta at *
  generalize R c.2 = tb at *
  generalize R i = si at *
  generalize R o = so at *
  by_cases hp : i < 0 ∨ o < i
  · simp only [if_pos hp] at hc ⊢
    have HC := Lib.hid hc
    clear hc hs1 hs2 hp
    go_enter Tryz.func26, Tryz.ntmps26
    go_wp2_with fail
    refine (HC.out _ HR.out.2).mono ?_
    rintro e w1 ⟨rfl, hb1⟩
    go_wp2
    go_ret2
    exact ⟨rfl, bel_to HR.out.2 hb1⟩
  · simp only [if_neg hp] at hc ⊢
    have HC := Lib.hid hc
    by_cases h : t < 0 ∨ 100000 < t
    · rw [show tolC t = 2 from if_pos h]
      have HS := Lib.hid (fun W => hs1 W (by rw [show tolC t = 2 from if_pos h]; decide))
      clear hc hs1 hs2 hp h
      go_enter Tryz.func26, Tryz.ntmps26
      go_wp2_with fail
      refine (HC.out _ HR.out.2).mono ?_
      rintro e w1 ⟨rfl, hb1⟩
      have H1 := Lib.hid (And.intro (HR.out.1.below' hb1) (bel_to HR.out.2 hb1))
      clear hb1 HR HC
      have q0 := H1.out.1.cell (i := 0) rfl
      have q1 := H1.out.1.cell (i := 1) rfl
      have q2 := H1.out.1.cell (i := 2) rfl
      have q3 := H1.out.1.cell (i := 3) rfl
      go_wp2_with fail
      refine (HS.out _).mono ?_
      rintro e w2 ⟨rfl, hb2⟩
      go_wp2
      go_ret2
      exact ⟨rfl, bel_to H1.out.2 hb2⟩
    · rw [show tolC t = 0 from if_neg h]
      have HS := Lib.hid (fun W hW => hs2 W hW (by omega) (by omega))
      clear hc hs1 hs2 hp h
      go_enter Tryz.func26, Tryz.ntmps26
      go_wp2_with fail
      refine (HC.out _ HR.out.2).mono ?_
      rintro e w1 ⟨rfl, hb1⟩
      have H1 := Lib.hid (And.intro (HR.out.1.below' hb1) (bel_to HR.out.2 hb1))
      clear hb1 HR HC
      have q0 := H1.out.1.cell (i := 0) rfl
      have q1 := H1.out.1.cell (i := 1) rfl
      have q2 := H1.out.1.cell (i := 2) rfl
      have q3 := H1.out.1.cell (i := 3) rfl
      go_wp2_with fail
      refine (HS.out _ H1.out.2).mono ?_
      rintro e w2 ⟨rfl, hb2⟩
      go_wp2
      go_ret2
      exact ⟨rfl, bel_to H1.out.2 hb2⟩
theorem pRound_bad (vl : Value) (l : List PZ) (c : CT) (t : Int) (w : World) (hg : Glob w) (hl : RdV w vl l) (h1 : c.1.length ≤ 90000) (h2 : c.2.length ≤ 90000) (h : atC l c ≠ 0) :
    Calls Tryz.prog 28 #[vl, ceV c, .int .i64 t] w (Ret w (.tuple #[.bool false, .int .i64 ((atC l c : Nat) : Int)])) := by
  have hat := fun W (hW : Below w.heap.size w W) => pAt_bad vl l c W (hg.of hW) (hl.below hW) h1 h2 h
  have hz : (((atC l c : Nat) : Int) != 0) = true := by simp; exact h
  have HR := Lib.hid (bel_alloc (Below.refl w.heap.size w) (.cells #[.string (bs c.1), .string (bs c.2)] 41 (0, 0)))
  obtain ⟨A, cap, rfl⟩ := hl.len
  unfold ceV zoV zo0 at *
  simp only at *
  clear h h1 h2 hl hg
  generalize ((atC l c : Nat) : Int) = z at *
  have HT := Lib.hid hat
  clear hat
  go_enter Tryz.func28, Tryz.ntmps28
  go_wp2_with fail
  refine (HT.out _ HR.out).mono ?_
  rintro e w1 ⟨rfl, hb1⟩
  go_wp2
  go_ret2
  exact ⟨rfl, bel_alloc (bel_to HR.out hb1) _⟩
theorem pRound_ok (vl : Value) (l : List PZ) (c : Rat × Rat) (t : Int) (w : World) (hg : Glob w) (hl : RdV w vl l) (hgv : givP l = 0) (h1 : Bq 30 c.1) (h2 : Bq 30 c.2) :
    Calls Tryz.prog 28 #[vl, ceV (ceQ c), .int .i64 t] w (Ret w (.tuple #[.bool (if tolC t = 0 then slimB (innQ l c) (outQ l c) t else false), .int .i64 ((tolC t : Nat) : Int)])) := by
  obtain ⟨g1, g2, g3⟩ := givP_iff.1 hgv
  have hfb : ∀ i, i ≤ l.length - 1 → Bq 149 (farF l c i) := fun i hi => by
    have := List.length_pos_iff.2 g2
    rw [farF_get l c (by omega)]; exact (far_bq (g3 _ (List.getElem_mem _)) h1 h2).mono (by omega)
  have b3 : Bq 149 (innQ l c) := lo_bq hfb
  have b4 : Bq 149 (outQ l c) := hi_bq hfb
  have hat := fun W (hW : Below w.heap.size w W) => pAt_ok vl l c 30 W (hg.of hW) (hl.below hW) hgv h1 h2 (by decide)
  have hs1 : ∀ W, tolC t ≠ 0 → Calls Tryz.prog 86 #[zoV (zoQ c (innQ l c) (outQ l c)), .int .i64 t] W (Ret W (.tuple #[.bool false, .int .i64 2])) := fun W h => pnarrow_bad _ t W h
  have hs2 : ∀ W, Below w.heap.size w W → 0 ≤ t → t ≤ 100000 → Calls Tryz.prog 86 #[zoV (zoQ c (innQ l c) (outQ l c)), .int .i64 t] W (Ret W (.tuple #[.bool (slimB (innQ l c) (outQ l c) t), .int .i64 0])) := fun W hW h0 h1 => pnarrow_ok (ceQ c) _ _ t 149 W (hg.of hW) h0 h1 b3 b4 (by decide) (fun _ => by decide)
  have HR := Lib.hid (bel_alloc (Below.refl w.heap.size w) (.cells #[.string (bs (R c.1)), .string (bs (R c.2))] 41 (0, 0)))
  obtain ⟨A, cap, rfl⟩ := hl.len
  unfold zoV zoQ ceV ceQ at *
  simp only at *
  clear b3 b4 hg hfb g1 g2 g3 h1 h2 hgv hl
  generalize slimB (innQ l c) (outQ l c) t = sb at *
  generalize R (innQ l c) = si at *
  generalize R (outQ l c) = so at *
  generalize R c.1 = ta at *
  generalize R c.2 = tb at *
  have HT := Lib.hid hat
  clear hat
  by_cases h : t < 0 ∨ 100000 < t
  · rw [show tolC t = 2 from if_pos h, if_neg (by decide)]
    have HS := Lib.hid (fun W => hs1 W (by rw [show tolC t = 2 from if_pos h]; decide))
    clear hs1 hs2 h
    go_enter Tryz.func28, Tryz.ntmps28
    go_wp2_with fail
    refine (HT.out _ HR.out).mono ?_
    rintro e w1 ⟨rfl, hb1⟩
    have H1 := Lib.hid (bel_alloc (bel_to HR.out hb1) (.cells #[.string (bs ta), .string (bs tb), .string (bs si), .string (bs so)] 43 (0, 0)))
    clear hb1 HR HT
    go_wp2_with fail
    refine (HS.out _).mono ?_
    rintro e w2 ⟨rfl, hb2⟩
    go_wp2
    go_ret2
    exact ⟨rfl, bel_to H1.out hb2⟩
  · rw [show tolC t = 0 from if_neg h, if_pos rfl]
    have HS := Lib.hid (fun W hW => hs2 W hW (by omega) (by omega))
    clear hs1 hs2 h
    go_enter Tryz.func28, Tryz.ntmps28
    go_wp2_with fail
    refine (HT.out _ HR.out).mono ?_
    rintro e w1 ⟨rfl, hb1⟩
    have H1 := Lib.hid (bel_alloc (bel_to HR.out hb1) (.cells #[.string (bs ta), .string (bs tb), .string (bs si), .string (bs so)] 43 (0, 0)))
    clear hb1 HR HT
    go_wp2_with fail
    refine (HS.out _ H1.out).mono ?_
    rintro e w2 ⟨rfl, hb2⟩
    go_wp2
    go_ret2
    exact ⟨rfl, bel_to H1.out hb2⟩
end W
end Go.Proofs.YtijpgddpejiohaaGreatDoor
end
