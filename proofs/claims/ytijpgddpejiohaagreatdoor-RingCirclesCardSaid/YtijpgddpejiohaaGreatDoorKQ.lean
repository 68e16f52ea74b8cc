/-
  Chapter 35, the reference: checks, distances, the annulus at a center.
  Chapter 35, the reference: the check of an annulus, the annulus at a center.
  Chapter 35, the reference: the annulus at a center.
  Chapter 35, the reference: 'At', 'Narrow', 'Round'.
-/
import Derived.Test.YtijpgddpejiohaaGreatDoorKP
import Derived.Test.YtijpgddpejiohaaGreatDoorKF
import Derived.Laws.StructEq
import Derived.Sort.BigQuietIn
import Derived.Deep.QuietTactic
import Derived.BigQuiet
import Derived.Deep.RegionHeld3
section
namespace Go.Proofs.YtijpgddpejiohaaGreatDoor
open Go Go.RowKit Go.Deep Go.Sort
namespace M
def inP (p : PZ) : Bool := inC p.1 && inC p.2
def chkPs (l : List PZ) : Nat := if 64 < l.length then 5 else if l.all inP = true then 0 else 2
def givP (l : List PZ) : Nat := if chkPs l ≠ 0 then chkPs l else if l.length = 0 then 13 else 0
theorem givP_iff {l : List PZ} : givP l = 0 ↔ l.length ≤ 64 ∧ l ≠ [] ∧ ∀ p ∈ l, inP p = true := by
  unfold givP chkPs
  by_cases h : 64 < l.length
  · rw [if_pos h]; simp; omega
  · rw [if_neg h]
    by_cases h2 : l.all inP = true
    · rw [if_pos h2]
      have h3 : ∀ p ∈ l, inP p = true := fun p hp => (List.all_eq_true.1 h2) p hp
      by_cases h4 : l.length = 0
      · rw [if_neg (by simp), if_pos h4, List.length_eq_zero_iff.1 h4]; simp
      · rw [if_neg (by simp), if_neg h4]
        exact ⟨fun _ => ⟨by omega, fun e => h4 (by rw [e]; rfl), h3⟩, fun _ => rfl⟩
    · rw [if_neg h2]
      rw [if_pos (by decide)]
      exact Iff.intro (fun e => by cases e) (fun h => (h2 (List.all_eq_true.2 h.2.2)).elim)
abbrev CT := List UInt8 × List UInt8
abbrev ZT := CT × List UInt8 × List UInt8
def ceQ (c : Rat × Rat) : CT := (R c.1, R c.2)
def zoQ (c : Rat × Rat) (i o : Rat) : ZT := (ceQ c, R i, R o)
def zo0 : ZT := (([], []), [], [])
end M
def ceV (c : M.CT) : Value := .agg #[.string (bs c.1), .string (bs c.2)]
def zoV (z : M.ZT) : Value := .agg #[.string (bs z.1.1), .string (bs z.1.2), .string (bs z.2.1), .string (bs z.2.2)]
def ptV (p : M.PZ) : Value := .agg #[.int .i64 p.1, .int .i64 p.2]
namespace M
theorem in_bd {n : Int} (h : inC n = true) : -100000 ≤ n ∧ n ≤ 100000 := by
  unfold inC at h
  simpa [Bool.and_eq_true, decide_eq_true_eq] using h
theorem in_bq {n : Int} (h : inC n = true) : Bq 6 (n : Rat) := by
  have := in_bd h
  exact ⟨by rw [Rat.num_intCast]; omega, by rw [Rat.den_intCast]; decide⟩
theorem far_bq {p : PZ} {c : Rat × Rat} {k : Nat} (hp : inP p = true) (h1 : Bq k c.1) (h2 : Bq k c.2) : Bq (4 * k + 29) (farQ p c) := by
  unfold inP at hp
  rw [Bool.and_eq_true] at hp
  have a := (in_bq hp.1).sub h1
  have b := (in_bq hp.2).sub h2
  exact ((a.mul a).add (b.mul b)).mono (by omega)
theorem lo_bq {f : Nat → Rat} {e : Nat} {n : Nat} (h : ∀ k, k ≤ n → Bq e (f k)) : Bq e (loTo f n) := by
  obtain ⟨k, hk, e⟩ := (loTo_spec f n).1
  rw [← e]; exact h k hk
theorem hi_bq {f : Nat → Rat} {e : Nat} {n : Nat} (h : ∀ k, k ≤ n → Bq e (f k)) : Bq e (hiTo f n) := by
  obtain ⟨k, hk, e⟩ := (hiTo_spec f n).1
  rw [← e]; exact h k hk
end M
namespace W
open M
attribute [local go_sem] bs_size bs_toList bs_get bs_extract bs_append bs_lit0 bs_lit1 lit1_bs
set_option maxHeartbeats 2000000
set_option maxRecDepth 20000
theorem rcheck07 (vl : Value) (l : List PZ) (w : World) (hl : RdV w vl l) (hn : l.length ≤ maxLen) : Calls Tryz.prog 144 #[vl] w (Ret w (.int .i64 ((chkPs l : Nat) : Int))) := by
  obtain ⟨A, cap, rfl⟩ := hl.len
  have HW := Lib.hid hl
  unfold maxLen at hn
  unfold chkPs
  by_cases h64 : 64 < l.length
  · have hd : decide ((64 : Int) < ((l.length : Nat) : Int)) = true := decide_eq_true (by omega)
    rw [if_pos h64]
    clear hl HW h64
    go_enter Tryz.func144, Tryz.ntmps144
    go_wp2
    go_ret
    exact Ret.of rfl (Below.refl _ _)
  · have hd : decide ((64 : Int) < ((l.length : Nat) : Int)) = false := decide_eq_false (by omega)
    rw [if_neg h64]
    generalize hch : (((if l.all inP = true then 0 else 2 : Nat)) : Int) = ch
    have HCH := Lib.hid hch
    clear hl hch
    go_enter Tryz.func144, Tryz.ntmps144
    go_wp2
    go_loopw [3] (fun iv wr => ∃ i : Nat, iv = .int .i64 (i : Int) ∧ i ≤ l.length ∧ Hid (l.all inP = (l.drop i).all inP) ∧ Below w.heap.size w wr) (fun iv _ => l.length - (intOf iv).toNat)
    case atStart => exact ⟨0, rfl, by omega, (rfl : l.all inP = (l.drop 0).all inP), Below.refl _ _⟩
    case round =>
      obtain ⟨i, rfl, hi, hk, hbw⟩ := hrel
      by_cases hlt : i < l.length
      · obtain ⟨b1, o1, rfl, hw⟩ := HW.out.row i hlt
        obtain ⟨c0, c1⟩ := (hw.below' hbw).val i hlt
        have hk2 := hk.out
        rw [List.drop_eq_getElem_cons hlt, List.all_cons] at hk2
        have HR := Lib.hid (fun W => rright07 l[i].1 l[i].2 W)
        rw [show (inC l[i].1 && inC l[i].2) = inP l[i] from rfl] at HR
        clear hk hw
        generalize l[i].1 = x at *
        generalize l[i].2 = y at *
        cases hc : inP l[i] with
        | true =>
          rw [hc] at hk2 HR
          rw [Bool.true_and] at hk2
          have HK := Lib.hid hk2
          clear hk2 hc
          go_wp2_with fail
          refine (HR.out _).mono ?_
          rintro e w1 ⟨rfl, hb1⟩
          have hb1' := hbw.trans (hb1.mono hbw.size)
          go_wp2
          go_roundw
          case rel => exact ⟨i + 1, by go_num, by omega, HK, hb1'⟩
          case measure => simp [intOf]; omega
        | false =>
          rw [hc] at hk2 HR
          rw [Bool.false_and] at hk2
          have HK := Lib.hid hk2
          clear hk2 hc
          go_wp2_with fail
          refine (HR.out _).mono ?_
          rintro e w1 ⟨rfl, hb1⟩
          have hb1' := hbw.trans (hb1.mono hbw.size)
          go_wp2
          go_ret
          exact Ret.of (by rw [← HCH.out, HK.out]; rfl) hb1'
      · obtain rfl : i = l.length := by omega
        have hk2 := hk.out
        rw [List.drop_length] at hk2
        have HK := Lib.hid hk2
        clear hk2 hk
        go_wp2
        go_ret
        exact Ret.of (by rw [← HCH.out, HK.out]; rfl) hbw
theorem rgiven35 (vl : Value) (l : List PZ) (w : World) (hl : RdV w vl l) (hn : l.length ≤ maxLen) : Calls Tryz.prog 83 #[vl] w (Ret w (.int .i64 ((givP l : Nat) : Int))) := by
  have HC := Lib.hid (rcheck07 vl l w hl hn)
  obtain ⟨A, cap, rfl⟩ := hl.len
  unfold givP
  clear hl
  by_cases h : chkPs l = 0
  · rw [h] at HC
    rw [if_neg (by simp [h])]
    by_cases h2 : l.length = 0
    · rw [if_pos h2]
      have hz : (((l.length : Nat) : Int) == 0) = true := by rw [h2]; rfl
      clear h h2
      go_enter Tryz.func83, Tryz.ntmps83
      go_wp2_with fail
      refine (HC.out).mono ?_
      rintro e w1 ⟨rfl, hb1⟩
      go_wp2
      go_ret
      exact Ret.of rfl hb1
    · rw [if_neg h2]
      have hz : (((l.length : Nat) : Int) == 0) = false := by rw [beq_eq_false_iff_ne]; omega
      clear h h2
      go_enter Tryz.func83, Tryz.ntmps83
      go_wp2_with fail
      refine (HC.out).mono ?_
      rintro e w1 ⟨rfl, hb1⟩
      go_wp2
      go_ret
      exact Ret.of rfl hb1
  · rw [if_pos h]
    have hz : (((chkPs l : Nat) : Int) != 0) = true := by simp; exact h
    clear h
    generalize ((chkPs l : Nat) : Int) = z at *
    go_enter Tryz.func83, Tryz.ntmps83
    go_wp2_with fail
    refine (HC.out).mono ?_
    rintro e w1 ⟨rfl, hb1⟩
    go_wp2
    go_ret
    exact Ret.of rfl hb1
theorem rcenter35 (c : CT) (w : World) (h1 : c.1.length ≤ 90000) (h2 : c.2.length ≤ 90000) : Calls Tryz.prog 140 #[ceV c] w (Ret w (.int .i64 ((chkRs [c.1, c.2] : Nat) : Int))) := by
  obtain ⟨c1, c2⟩ := c
  simp only at *
  have HX := Lib.hid (fun W => check2_any c1 W h1)
  have HY := Lib.hid (fun W => check2_any c2 W h2)
  have hr := rnw (w := w) (t := 41) (xs := [.string (bs c1), .string (bs c2)])
  have HR := Lib.hid (And.intro hr (bel_alloc (Below.refl w.heap.size w) (.cells #[.string (bs c1), .string (bs c2)] 41 (0, 0))))
  have hch : chkRs [c1, c2] = if chkR c1 = 0 then chkR c2 else chkR c1 := by
    rw [chkRs, chkRs]
    split
    · split
      · rename_i h; rw [h]; rfl
      · rfl
    · rfl
  rw [hch]
  show Calls Tryz.prog 140 #[.agg #[.string (bs c1), .string (bs c2)]] w _
  clear h1 h2 hch hr
  by_cases h : chkR c1 = 0
  · rw [if_pos h]
    rw [h] at HX
    clear h
    generalize ((chkR c2 : Nat) : Int) = z at *
    go_enter Tryz.func140, Tryz.ntmps140
    go_wp2_with fail
    refine (HX.out _).mono ?_
    rintro e w1 ⟨rfl, hb1⟩
    have q1 := (HR.out.1.below' hb1).cell (i := 1) rfl
    have HB := Lib.hid (bel_to HR.out.2 hb1)
    clear hb1
    go_wp2_with fail
    refine (HY.out _).mono ?_
    rintro e w2 ⟨rfl, hb2⟩
    go_wp2
    go_ret
    exact Ret.of rfl (bel_to HB.out hb2)
  · rw [if_neg h]
    have hz : (((chkR c1 : Nat) : Int) != 0) = true := by simp; exact h
    clear h
    generalize ((chkR c1 : Nat) : Int) = z at *
    go_enter Tryz.func140, Tryz.ntmps140
    go_wp2_with fail
    refine (HX.out _).mono ?_
    rintro e w1 ⟨rfl, hb1⟩
    go_wp2
    go_ret
    exact Ret.of rfl (bel_to HR.out.2 hb1)
theorem rless02 (a b : Rat) (w : World) (ha : Sh a) (hb : Sh b) : Calls Tryz.prog 94 #[.string (bs (R a)), .string (bs (R b))] w (Ret w (.string (bs (R (a - b))))) := by
  have HM := Lib.hid (minus_R a b w ha hb)
  clear ha hb
  generalize R (a - b) = s at *
  generalize R a = sa at *
  generalize R b = sb at *
  go_enter Tryz.func94, Tryz.ntmps94
  go_wp2_with fail
  refine (HM.out).mono ?_
  rintro e w1 ⟨rfl, hb1⟩
  go_wp2
  go_ret
  exact Ret.of rfl hb1
theorem rsquare35 (a : Rat) (w : World) (ha : Sh a) : Calls Tryz.prog 146 #[.string (bs (R a))] w (Ret w (.string (bs (R (a * a))))) := by
  have HM := Lib.hid (timesR a a w ha ha)
  clear ha
  generalize R (a * a) = s at *
  generalize R a = sa at *
  go_enter Tryz.func146, Tryz.ntmps146
  go_wp2_with fail
  refine (HM.out).mono ?_
  rintro e w1 ⟨rfl, hb1⟩
  go_wp2
  go_ret
  exact Ret.of rfl hb1
theorem rfar35 (p : PZ) (c : Rat × Rat) (k : Nat) (w : World) (hp : inP p = true) (h1 : Bq k c.1) (h2 : Bq k c.2) (hk1 : 1 ≤ k) (hk : k ≤ 100) : Calls Tryz.prog 85 #[ptV p, ceV (ceQ c)] w (Ret w (.string (bs (R (farQ p c))))) := by
  obtain ⟨x, y⟩ := p
  obtain ⟨cx, cy⟩ := c
  unfold inP at hp
  rw [Bool.and_eq_true] at hp
  simp only at *
  have ax := in_bd hp.1
  have ay := in_bd hp.2
  have b1 := (in_bq hp.1).sub h1
  have b2 := (in_bq hp.2).sub h2
  have hW1 := fun W => whole_R x W (by omega) (by omega)
  have hW2 := fun W => whole_R y W (by omega) (by omega)
  have hL1 := fun W => rless02 (x : Rat) cx W ((in_bq hp.1).sh (by decide) (by decide)) (h1.sh hk1 (by omega))
  have hL2 := fun W => rless02 (y : Rat) cy W ((in_bq hp.2).sh (by decide) (by decide)) (h2.sh hk1 (by omega))
  have hS1 := fun W => rsquare35 ((x : Rat) - cx) W (b1.sh (by omega) (by omega))
  have hS2 := fun W => rsquare35 ((y : Rat) - cy) W (b2.sh (by omega) (by omega))
  have hP := fun W => plus_R (((x : Rat) - cx) * ((x : Rat) - cx)) (((y : Rat) - cy) * ((y : Rat) - cy)) W ((b1.mul b1).sh (by omega) (by omega)) ((b2.mul b2).sh (by omega) (by omega))
  show Calls Tryz.prog 85 #[.agg #[.int .i64 x, .int .i64 y], .agg #[.string (bs (R cx)), .string (bs (R cy))]] w (Ret w (.string (bs (R (((x : Rat) - cx) * ((x : Rat) - cx) + ((y : Rat) - cy) * ((y : Rat) - cy))))))
  clear hp h1 h2 ax ay b1 b2 hk hk1
  generalize R (((x : Rat) - cx) * ((x : Rat) - cx) + ((y : Rat) - cy) * ((y : Rat) - cy)) = s7 at *
  generalize R (((x : Rat) - cx) * ((x : Rat) - cx)) = s5 at *
  generalize R (((y : Rat) - cy) * ((y : Rat) - cy)) = s6 at *
  generalize R ((x : Rat) - cx) = s3 at *
  generalize R ((y : Rat) - cy) = s4 at *
  generalize R cx = tx at *
  generalize R cy = ty at *
  generalize R (x : Rat) = s1 at *
  generalize R (y : Rat) = s2 at *
  have hr1 : Row ((w.alloc (.cells #[.int .i64 x, .int .i64 y] 69 (0, 0))).alloc (.cells #[.string (bs tx), .string (bs ty)] 41 (0, 0))) w.heap.size 69 [.int .i64 x, .int .i64 y] := rnw.alloc _
  have hr2 : Row ((w.alloc (.cells #[.int .i64 x, .int .i64 y] 69 (0, 0))).alloc (.cells #[.string (bs tx), .string (bs ty)] 41 (0, 0))) (w.heap.size + 1) 41 [.string (bs tx), .string (bs ty)] := rnew0 (World.size_alloc _ _).symm
  have HR := Lib.hid (And.intro hr1 (And.intro hr2 (bel_alloc (bel_alloc (Below.refl w.heap.size w) (.cells #[.int .i64 x, .int .i64 y] 69 (0, 0))) (.cells #[.string (bs tx), .string (bs ty)] 41 (0, 0)))))
  clear hr1 hr2
  go_enter Tryz.func85, Tryz.ntmps85
  go_wp2_with fail
  generalize (w.alloc (.cells #[.int .i64 x, .int .i64 y] 69 (0, 0))).alloc (.cells #[.string (bs tx), .string (bs ty)] 41 (0, 0)) = W at *
  have m0 := cell_regrown (HR.out.1.cell (i := 0) rfl)
  have m1 := cell_regrown (HR.out.1.cell (i := 1) rfl)
  have m2 := cell_regrown (HR.out.2.1.cell (i := 0) rfl)
  have m3 := cell_regrown (HR.out.2.1.cell (i := 1) rfl)
  have k1 := reg_of (w := W) (fun E _ => hW1 E)
  have k2 := reg_of (w := W) (fun E _ => hL1 E)
  have k3 := reg_of (w := W) (fun E _ => hS1 E)
  have k4 := reg_of (w := W) (fun E _ => hW2 E)
  have k5 := reg_of (w := W) (fun E _ => hL2 E)
  have k6 := reg_of (w := W) (fun E _ => hS2 E)
  have k7 := reg_of (w := W) (fun E _ => hP E)
  have e1 : ∀ args w, (callFunc 13 args).run Tryz.prog w = .ok (.enter 13 args) w := enters_of Tryz.func13 (by kernel_rfl) rfl
  have e2 : ∀ args w, (callFunc 94 args).run Tryz.prog w = .ok (.enter 94 args) w := enters_of Tryz.func94 (by kernel_rfl) rfl
  have e3 : ∀ args w, (callFunc 146 args).run Tryz.prog w = .ok (.enter 146 args) w := enters_of Tryz.func146 (by kernel_rfl) rfl
  have e4 : ∀ args w, (callFunc 15 args).run Tryz.prog w = .ok (.enter 15 args) w := enters_of Tryz.func15 (by kernel_rfl) rfl
  clear hW1 hW2 hL1 hL2 hS1 hS2 hP
  refine wp_region_quiet_below (by kernel_rfl) (by kernel_rfl) ?_
  repeat (go_big_quiet_step (fail))
  go_big_quiet_step (exact k1 _ _)
  repeat (go_big_quiet_step (fail))
  go_big_quiet_step (exact k2 _ _)
  repeat (go_big_quiet_step (fail))
  go_big_quiet_step (exact k3 _ _)
  repeat (go_big_quiet_step (fail))
  go_big_quiet_step (exact k4 _ _)
  repeat (go_big_quiet_step (fail))
  go_big_quiet_step (exact k5 _ _)
  repeat (go_big_quiet_step (fail))
  go_big_quiet_step (exact k6 _ _)
  repeat (go_big_quiet_step (fail))
  go_big_quiet_step (exact k7 _ _)
  repeat (go_big_quiet_step (fail))
  refine wpQuiet_nil ?_
  intro W6 hw'
  have hb6 : Below W.heap.size W W6 := by obtain ⟨p, e⟩ := hw'; rw [e]; exact below_regrown W p.d p.os
  clear hw'
  have HB6 := Lib.hid (bel_to HR.out.2.2 hb6)
  clear hb6 k1 k2 k3 k4 k5 k6 k7 e1 e2 e3 e4 m0 m1 m2 m3 HR
  go_wp2
  go_ret
  exact Ret.of rfl HB6.out
end W
end Go.Proofs.YtijpgddpejiohaaGreatDoor
end
section
namespace Go.Proofs.YtijpgddpejiohaaGreatDoor
open Go Go.RowKit Go.Deep Go.Sort
theorem zone_store {w : World} {A : Nat} {t : TypeId} {x0 x1 x2 x3 : Value} (y0 y1 y2 y3 : Value) (hr : Row w A t [x0, x1, x2, x3]) :
    (w.frozen? ⟨A, 0, none⟩ = false ∧ w.cell? ⟨A, 0, none⟩ = some x0) ∧
    ((w.setCell ⟨A, 0, none⟩ y0).frozen? ⟨A, 1, none⟩ = false ∧ (w.setCell ⟨A, 0, none⟩ y0).cell? ⟨A, 1, none⟩ = some x1) ∧
    (((w.setCell ⟨A, 0, none⟩ y0).setCell ⟨A, 1, none⟩ y1).frozen? ⟨A, 2, none⟩ = false ∧ ((w.setCell ⟨A, 0, none⟩ y0).setCell ⟨A, 1, none⟩ y1).cell? ⟨A, 2, none⟩ = some x2) ∧
    ((((w.setCell ⟨A, 0, none⟩ y0).setCell ⟨A, 1, none⟩ y1).setCell ⟨A, 2, none⟩ y2).frozen? ⟨A, 3, none⟩ = false ∧ (((w.setCell ⟨A, 0, none⟩ y0).setCell ⟨A, 1, none⟩ y1).setCell ⟨A, 2, none⟩ y2).cell? ⟨A, 3, none⟩ = some x3) ∧
    Row ((((w.setCell ⟨A, 0, none⟩ y0).setCell ⟨A, 1, none⟩ y1).setCell ⟨A, 2, none⟩ y2).setCell ⟨A, 3, none⟩ y3) A t [y0, y1, y2, y3] := by
  have h1 := hr.set 0 y0
  have h2 := h1.set 1 y1
  have h3 := h2.set 2 y2
  exact ⟨⟨hr.free 0, hr.cell rfl⟩, ⟨h1.free 1, h1.cell rfl⟩, ⟨h2.free 2, h2.cell rfl⟩, ⟨h3.free 3, h3.cell rfl⟩, h3.set 3 y3⟩
theorem zone_below {w0 w : World} {A : Nat} (y0 y1 y2 y3 : Value) (hb : Below w0.heap.size w0 w) (hA : w0.heap.size ≤ A) :
    Below w0.heap.size w0 ((((w.setCell ⟨A, 0, none⟩ y0).setCell ⟨A, 1, none⟩ y1).setCell ⟨A, 2, none⟩ y2).setCell ⟨A, 3, none⟩ y3) :=
  (((hb.setCell (p := ⟨A, 0, none⟩) hA y0).setCell (p := ⟨A, 1, none⟩) hA y1).setCell (p := ⟨A, 2, none⟩) hA y2).setCell (p := ⟨A, 3, none⟩) hA y3
namespace M
theorem sign_neg {q : Rat} : Int.sign q.num < 0 ↔ q < 0 := by
  rw [Int.sign_neg_iff, ← Int.not_le, Rat.num_nonneg, Rat.not_le]
theorem chk4 (a b c d : List UInt8) : chkRs [a, b, c, d] = if chkRs [a, b] = 0 then (if chkR c = 0 then chkR d else chkR c) else chkRs [a, b] := by
  simp only [chkRs]
  by_cases h1 : chkR a = 0 <;> by_cases h2 : chkR b = 0 <;> by_cases h3 : chkR c = 0 <;> by_cases h4 : chkR d = 0 <;> simp [h1, h2, h3, h4]
theorem cmpQ_gt' {a b : Rat} : 0 < cmpQ a b ↔ b < a := by
  rcases cmpQ_cases a b with ⟨h, e⟩ | ⟨h, e⟩ | ⟨h, e⟩
  · rw [e]; exact ⟨fun h => by omega, fun h2 => by grind⟩
  · rw [e]; exact ⟨fun h => by omega, fun h2 => by grind⟩
  · rw [e]; exact ⟨fun _ => h, fun _ => by omega⟩
theorem cmpQ_lt' {a b : Rat} : cmpQ a b < 0 ↔ a < b := by
  rcases cmpQ_cases a b with ⟨h, e⟩ | ⟨h, e⟩ | ⟨h, e⟩
  · rw [e]; exact ⟨fun _ => h, fun _ => by omega⟩
  · rw [e]; exact ⟨fun h => by omega, fun h2 => by grind⟩
  · rw [e]; exact ⟨fun h => by omega, fun h2 => by grind⟩
end M
namespace W
open M
attribute [local go_sem] bs_size bs_toList bs_get bs_extract bs_append bs_lit0 bs_lit1 lit1_bs
set_option maxHeartbeats 2000000
set_option maxRecDepth 20000
theorem rbelow02 (a : Rat) (w : World) (ha : Sh a) : Calls Tryz.prog 145 #[.string (bs (R a))] w (Ret w (.bool (decide (a < 0)))) := by
  have HM := Lib.hid (signum_R a w ha)
  have hd : decide (a < 0) = decide (Int.sign a.num < 0) := decide_eq_decide.2 sign_neg.symm
  rw [hd]
  clear ha hd
  generalize Int.sign a.num = z at *
  generalize R a = sa at *
  go_enter Tryz.func145, Tryz.ntmps145
  go_wp2_with fail
  refine (HM.out).mono ?_
  rintro e w1 ⟨rfl, hb1⟩
  go_wp2
  go_ret
  exact Ret.of rfl hb1
theorem rcheck35_bad (z : ZT) (w : World) (l1 : z.1.1.length ≤ 90000) (l2 : z.1.2.length ≤ 90000) (l3 : z.2.1.length ≤ 90000) (l4 : z.2.2.length ≤ 90000) (h : chkRs [z.1.1, z.1.2, z.2.1, z.2.2] ≠ 0) :
    Calls Tryz.prog 84 #[zoV z] w (Ret w (.int .i64 ((chkRs [z.1.1, z.1.2, z.2.1, z.2.2] : Nat) : Int))) := by
  obtain ⟨⟨a, b⟩, c, d⟩ := z
  simp only at *
  have HC := Lib.hid (fun W => rcenter35 (a, b) W l1 l2)
  have HI := Lib.hid (fun W => check2_any c W l3)
  have HO := Lib.hid (fun W => check2_any d W l4)
  have HR := Lib.hid (And.intro (rnw (w := w) (t := 47) (xs := [.string (bs a), .string (bs b), .string (bs c), .string (bs d)])) (bel_alloc (Below.refl w.heap.size w) (.cells #[.string (bs a), .string (bs b), .string (bs c), .string (bs d)] 47 (0, 0))))
  unfold ceV at HC
  simp only at HC
  show Calls Tryz.prog 84 #[.agg #[.string (bs a), .string (bs b), .string (bs c), .string (bs d)]] w _
  rw [chk4] at h ⊢
  clear l1 l2 l3 l4
  by_cases h1 : chkRs [a, b] = 0
  · rw [if_pos h1] at h ⊢
    rw [h1] at HC
    by_cases h2 : chkR c = 0
    · rw [if_pos h2] at h ⊢
      rw [h2] at HI
      have hz : (((chkR d : Nat) : Int) != 0) = true := by simp; exact h
      clear h h1 h2
      generalize ((chkR d : Nat) : Int) = x at *
      go_enter Tryz.func84, Tryz.ntmps84
      go_wp2_with fail
      refine (HC.out _).mono ?_
      rintro e w1 ⟨rfl, hb1⟩
      have H1 := Lib.hid (And.intro (HR.out.1.below' hb1) (bel_to HR.out.2 hb1))
      clear hb1 HR HC
      have q2 := H1.out.1.cell (i := 2) rfl
      go_wp2_with fail
      refine (HI.out _).mono ?_
      rintro e w2 ⟨rfl, hb2⟩
      have H2 := Lib.hid (And.intro (H1.out.1.below' hb2) (bel_to H1.out.2 hb2))
      clear hb2 H1 HI q2
      have q3 := H2.out.1.cell (i := 3) rfl
      go_wp2_with fail
      refine (HO.out _).mono ?_
      rintro e w3 ⟨rfl, hb3⟩
      go_wp2
      go_ret
      exact Ret.of rfl (bel_to H2.out.2 hb3)
    · rw [if_neg h2] at h ⊢
      have hz : (((chkR c : Nat) : Int) != 0) = true := by simp; exact h
      clear h h1 h2
      generalize ((chkR c : Nat) : Int) = x at *
      go_enter Tryz.func84, Tryz.ntmps84
      go_wp2_with fail
      refine (HC.out _).mono ?_
      rintro e w1 ⟨rfl, hb1⟩
      have H1 := Lib.hid (And.intro (HR.out.1.below' hb1) (bel_to HR.out.2 hb1))
      clear hb1 HR HC
      have q2 := H1.out.1.cell (i := 2) rfl
      go_wp2_with fail
      refine (HI.out _).mono ?_
      rintro e w2 ⟨rfl, hb2⟩
      go_wp2
      go_ret
      exact Ret.of rfl (bel_to H1.out.2 hb2)
  · rw [if_neg h1] at h ⊢
    have hz : (((chkRs [a, b] : Nat) : Int) != 0) = true := by simp; exact h
    clear h h1
    generalize ((chkRs [a, b] : Nat) : Int) = x at *
    go_enter Tryz.func84, Tryz.ntmps84
    go_wp2_with fail
    refine (HC.out _).mono ?_
    rintro e w1 ⟨rfl, hb1⟩
    go_wp2
    go_ret
    exact Ret.of rfl (bel_to HR.out.2 hb1)
theorem rcheck35_ok (c : Rat × Rat) (i o : Rat) (k : Nat) (w : World) (b1 : Bq k c.1) (b2 : Bq k c.2) (b3 : Bq k i) (b4 : Bq k o) (hk1 : 1 ≤ k) (hk : k ≤ 300) :
    Calls Tryz.prog 84 #[zoV (zoQ c i o)] w (Ret w (.int .i64 ((if i < 0 ∨ o < i then 9 else 0 : Nat) : Int))) := by
  have small : ∀ q, Bq k q → (R q).length ≤ 90000 := fun q h => by have := h.R_len (by omega); omega
  have hc := fun W => rcenter35 (R c.1, R c.2) W (small _ b1) (small _ b2)
  rw [show chkRs [(R c.1, R c.2).1, (R c.1, R c.2).2] = 0 from chkRs_two b1 b2 (by omega) (by omega)] at hc
  have hi := fun W => check2_any (R i) W (small _ b3)
  rw [b3.chk (by omega)] at hi
  have ho := fun W => check2_any (R o) W (small _ b4)
  rw [b4.chk (by omega)] at ho
  have hbl := fun W => rbelow02 i W (b3.sh hk1 (by omega))
  have hor : ∀ W, Calls Tryz.prog 141 #[.string (bs (R i)), .string (bs (R o))] W (Ret W (.int .i64 (cmpQ i o))) := fun W => order_R i o W (b3.sh hk1 (by omega)) (b4.sh hk1 (by omega))
  have hres : (((if i < 0 ∨ o < i then 9 else 0 : Nat)) : Int) = if i < 0 then 9 else if 0 < cmpQ i o then 9 else 0 := by
    by_cases h1 : i < 0
    · simp [h1]
    · by_cases h2 : o < i
      · rw [if_pos (Or.inr h2), if_neg h1, if_pos (cmpQ_gt'.2 h2)]; rfl
      · rw [if_neg (by simp [h1, h2]), if_neg h1, if_neg (fun h => h2 (cmpQ_gt'.1 h))]; rfl
  rw [hres]
  show Calls Tryz.prog 84 #[.agg #[.string (bs (R c.1)), .string (bs (R c.2)), .string (bs (R i)), .string (bs (R o))]] w _
  have hpd : (i < 0 ∧ decide (i < 0) = true) ∨ (¬ i < 0 ∧ decide (i < 0) = false) := by by_cases h : i < 0 <;> simp [h]
  unfold ceV at hc
  simp only at hc
  generalize decide (i < 0) = bi at *
  generalize cmpQ i o = cm at *
  clear b1 b2 b3 b4 hk hk1 small hres
  generalize R c.1 = ta at *
  generalize R c.2 = tb at *
  generalize R i = tc at *
  generalize R o = td at *
  have HC := Lib.hid hc
  have HI := Lib.hid hi
  have HO := Lib.hid ho
  have HB := Lib.hid hbl
  have HD := Lib.hid hor
  clear hc hi ho hbl hor
  have HR := Lib.hid (And.intro (rnw (w := w) (t := 47) (xs := [.string (bs ta), .string (bs tb), .string (bs tc), .string (bs td)])) (bel_alloc (Below.refl w.heap.size w) (.cells #[.string (bs ta), .string (bs tb), .string (bs tc), .string (bs td)] 47 (0, 0))))
  rcases hpd with ⟨h, rfl⟩ | ⟨h, rfl⟩
  · rw [if_pos h]
    clear h
    go_enter Tryz.func84, Tryz.ntmps84
    go_wp2_with fail
    refine (HC.out _).mono ?_
    rintro e w1 ⟨rfl, hb1⟩
    have H1 := Lib.hid (And.intro (HR.out.1.below' hb1) (bel_to HR.out.2 hb1))
    clear hb1 HR HC
    have q2 := H1.out.1.cell (i := 2) rfl
    go_wp2_with fail
    refine (HI.out _).mono ?_
    rintro e w2 ⟨rfl, hb2⟩
    have H2 := Lib.hid (And.intro (H1.out.1.below' hb2) (bel_to H1.out.2 hb2))
    clear hb2 H1 HI q2
    have q3 := H2.out.1.cell (i := 3) rfl
    go_wp2_with fail
    refine (HO.out _).mono ?_
    rintro e w3 ⟨rfl, hb3⟩
    have H3 := Lib.hid (And.intro (H2.out.1.below' hb3) (bel_to H2.out.2 hb3))
    clear hb3 H2 HO q3
    have q2 := H3.out.1.cell (i := 2) rfl
    go_wp2_with fail
    refine (HB.out _).mono ?_
    rintro e w4 ⟨rfl, hb4⟩
    go_wp2
    go_ret
    exact Ret.of rfl (bel_to H3.out.2 hb4)
  · rw [if_neg h]
    clear h
    generalize hrs : (if 0 < cm then (9 : Int) else 0) = rs
    have HRS := Lib.hid hrs
    have hcd : (0 < cm ∧ decide (0 < cm) = true) ∨ (¬ 0 < cm ∧ decide (0 < cm) = false) := by by_cases h : 0 < cm <;> simp [h]
    have HCD := Lib.hid hcd
    clear hrs hcd
    go_enter Tryz.func84, Tryz.ntmps84
    go_wp2_with fail
    refine (HC.out _).mono ?_
    rintro e w1 ⟨rfl, hb1⟩
    have H1 := Lib.hid (And.intro (HR.out.1.below' hb1) (bel_to HR.out.2 hb1))
    clear hb1 HR HC
    have q2 := H1.out.1.cell (i := 2) rfl
    go_wp2_with fail
    refine (HI.out _).mono ?_
    rintro e w2 ⟨rfl, hb2⟩
    have H2 := Lib.hid (And.intro (H1.out.1.below' hb2) (bel_to H1.out.2 hb2))
    clear hb2 H1 HI q2
    have q3 := H2.out.1.cell (i := 3) rfl
    go_wp2_with fail
    refine (HO.out _).mono ?_
    rintro e w3 ⟨rfl, hb3⟩
    have H3 := Lib.hid (And.intro (H2.out.1.below' hb3) (bel_to H2.out.2 hb3))
    clear hb3 H2 HO q3
    have q2 := H3.out.1.cell (i := 2) rfl
    go_wp2_with fail
    refine (HB.out _).mono ?_
    rintro e w4 ⟨rfl, hb4⟩
    have H4 := Lib.hid (And.intro (H3.out.1.below' hb4) (bel_to H3.out.2 hb4))
    clear hb4 H3 HB q2
    have q2 := H4.out.1.cell (i := 2) rfl
    have q3 := H4.out.1.cell (i := 3) rfl
    go_wp2_with fail
    refine (HD.out _).mono ?_
    rintro e w5 ⟨rfl, hb5⟩
    have H5 := Lib.hid (bel_to H4.out.2 hb5)
    clear hb5 H4 HD q2 q3
    rcases HCD.out with ⟨h, hd⟩ | ⟨h, hd⟩
    · obtain rfl : 9 = rs := by rw [← HRS.out, if_pos h]
      clear h HRS HCD
      go_wp2
      go_ret
      exact Ret.of rfl H5.out
    · obtain rfl : 0 = rs := by rw [← HRS.out, if_neg (by omega)]
      clear h HRS HCD
      go_wp2
      go_ret
      exact Ret.of rfl H5.out
end W
end Go.Proofs.YtijpgddpejiohaaGreatDoor
end
section
namespace Go.Proofs.YtijpgddpejiohaaGreatDoor
open Go Go.RowKit Go.Deep Go.Sort
theorem genwY {F : Exit → Act → World → Prop} {e : Exit} {a : Act} {W : World} (S : World → Prop) (h : S W) (k : ∀ W', S W' → F e a W') : F e a W := k W h
abbrev ZX4 : Obj := .cells #[.string ⟨#[]⟩, .string ⟨#[]⟩, .string ⟨#[]⟩, .string ⟨#[]⟩] 47 (0, 0)
structure ArS (w W : World) (c : M.CT) : Prop where
  r1 : Row W w.heap.size 41 [.string (bs c.1), .string (bs c.2)]
  r2 : Row W (w.heap.size + 1) 47 [.string ⟨#[]⟩, .string ⟨#[]⟩, .string ⟨#[]⟩, .string ⟨#[]⟩]
  bel : Below w.heap.size w W
theorem ArS.to {w W W' : World} {c : M.CT} (h : ArS w W c) (hb : Below W.heap.size W W') : ArS w W' c := ⟨h.r1.below' hb, h.r2.below' hb, bel_to h.bel hb⟩
theorem ArS.set {w W : World} {c : M.CT} (h : ArS w W c) {g : Nat} (hg : w.heap.size + 1 < g) (j : Nat) (v : Value) : ArS w (W.setCell ⟨g, j, none⟩ v) c :=
  ⟨Row.other h.r1 (by show w.heap.size ≠ g; omega) _, Row.other h.r2 (by show w.heap.size + 1 ≠ g; omega) _, h.bel.setCell (p := ⟨g, j, none⟩) (by show w.heap.size ≤ g; omega) _⟩
theorem ArS.new (w : World) (c : M.CT) : ArS w ((w.alloc (.cells #[.string (bs c.1), .string (bs c.2)] 41 (0, 0))).alloc ZX4) c :=
  ⟨rnw.alloc _, rnew0 (World.size_alloc _ _).symm, W.bel_alloc (W.bel_alloc (Below.refl _ _) _) _⟩
theorem ArS.size {w W : World} {c : M.CT} (h : ArS w W c) : w.heap.size + 1 < W.heap.size := h.r2.lt
namespace W
open M
attribute [local go_sem] bs_size bs_toList bs_get bs_extract bs_append bs_lit0 bs_lit1 lit1_bs
set_option maxHeartbeats 4000000
set_option maxRecDepth 20000
theorem raround35 (vl : Value) (l : List PZ) (c : Rat × Rat) (k : Nat) (w : World) (hl : RdV w vl l) (h0 : l ≠ []) (hp : ∀ p ∈ l, inP p = true) (h1 : Bq k c.1) (h2 : Bq k c.2) (hk1 : 1 ≤ k) (hk : k ≤ 100) (hn : l.length ≤ 1000) :
    Calls Tryz.prog 80 #[vl, ceV (ceQ c)] w (Ret w (zoV (zoQ c (innQ l c) (outQ l c)))) := by
  have hpos : 0 < l.length := List.length_pos_iff.2 h0
  have hfb : ∀ i, i < l.length → Bq (4 * k + 29) (farF l c i) := fun i hi => by rw [farF_get l c hi]; exact far_bq (hp _ (List.getElem_mem hi)) h1 h2
  have hlo : ∀ i, i < l.length → Bq (4 * k + 29) (loTo (farF l c) i) := fun i hi => lo_bq fun j hj => hfb j (by omega)
  have hhi : ∀ i, i < l.length → Bq (4 * k + 29) (hiTo (farF l c) i) := fun i hi => hi_bq fun j hj => hfb j (by omega)
  have HF := Lib.hid (fun i (hi : i < l.length) W => (by
    rw [farF_get l c hi]
    exact rfar35 l[i] c k W (hp _ (List.getElem_mem hi)) h1 h2 hk1 hk : Calls Tryz.prog 85 #[ptV l[i], ceV (ceQ c)] W (Ret W (.string (bs (R (farF l c i)))))))
  have ho1 : ∀ i (_ : i + 1 < l.length) W, Calls Tryz.prog 141 #[.string (bs (R (farF l c (i + 1)))), .string (bs (R (loTo (farF l c) i)))] W (Ret W (.int .i64 (cmpQ (farF l c (i + 1)) (loTo (farF l c) i)))) := fun i hi W => order_R (farF l c (i + 1)) (loTo (farF l c) i) W ((hfb (i + 1) hi).sh (by omega) (by omega)) ((hlo i (by omega)).sh (by omega) (by omega))
  have HO1 := Lib.hid ho1
  clear ho1
  have ho2 : ∀ i (_ : i + 1 < l.length) W, Calls Tryz.prog 141 #[.string (bs (R (farF l c (i + 1)))), .string (bs (R (hiTo (farF l c) i)))] W (Ret W (.int .i64 (cmpQ (farF l c (i + 1)) (hiTo (farF l c) i)))) := fun i hi W => order_R (farF l c (i + 1)) (hiTo (farF l c) i) W ((hfb (i + 1) hi).sh (by omega) (by omega)) ((hhi i (by omega)).sh (by omega) (by omega))
  have HO2 := Lib.hid ho2
  clear ho2
  have HL := Lib.hid (fun W (hW : Below w.heap.size w W) => hl.below hW)
  obtain ⟨A, cap, rfl⟩ := hl.len
  obtain ⟨b1, o1, rfl, hw0⟩ := hl.row 0 hpos
  obtain ⟨q0, q1⟩ := hw0.val 0 hpos
  rw [show o1 + 0 * 2 = o1 by omega] at q0 q1
  have HQ := Lib.hid (And.intro q0 q1)
  have hI : 0 < (l.length : Int) := by omega
  have HA := Lib.hid (ArS.new w (ceQ c))
  unfold innQ outQ zoQ ceQ zoV ceV at *
  simp only at *
  clear hfb hlo hhi h1 h2 hp hl hw0 h0 q0 q1
  have HF0 := HF.out 0 hpos
  unfold ptV at HF HF0
  generalize l[0].1 = x0 at *
  generalize l[0].2 = y0 at *
  have HE0 := Lib.hid (show R (farF l c 0) = R (loTo (farF l c) 0) ∧ R (farF l c 0) = R (hiTo (farF l c) 0) from ⟨rfl, rfl⟩)
  have HF1 := Lib.hid HF0
  clear HF0
  generalize R c.1 = ta at *
  generalize R c.2 = tb at *
  generalize hd0 : R (farF l c 0) = d0 at *
  clear hd0
  go_enter Tryz.func80, Tryz.ntmps80
  go_wp2_with fail
  generalize (w.alloc (.cells #[.string (bs ta), .string (bs tb)] 41 (0, 0))).alloc ZX4 = W0 at *
  have HCX := Lib.hid (fun E (hE : ArS w E (ta, tb)) => (⟨hE.r1.cell (i := 0) rfl, hE.r1.cell (i := 1) rfl, (hE.bel.cell (block_lt_of_cell HQ.out.1)).trans HQ.out.1, (hE.bel.cell (block_lt_of_cell HQ.out.2)).trans HQ.out.2⟩ :
    E.cell? ⟨w.heap.size, 0, none⟩ = some (.string (bs ta)) ∧ E.cell? ⟨w.heap.size, 1, none⟩ = some (.string (bs tb)) ∧ E.cell? ⟨b1, o1, none⟩ = some (.int .i64 x0) ∧ E.cell? ⟨b1, o1 + 1, none⟩ = some (.int .i64 y0)))
  have HNW := Lib.hid HA.out.size
  go_region_held3 (fun E => E.cell? ⟨w.heap.size, 0, none⟩ = some (.string (bs ta)) ∧ E.cell? ⟨w.heap.size, 1, none⟩ = some (.string (bs tb)) ∧ E.cell? ⟨b1, o1, none⟩ = some (.int .i64 x0) ∧ E.cell? ⟨b1, o1 + 1, none⟩ = some (.int .i64 y0))
    (first | exact HCX.out _ HA6.out | exact HCX.out _ ((((HA6.out.set HNW.out 0 _).set HNW.out 1 _).set HNW.out 2 _).set HNW.out 3 _) | exact HCX.out _ ((((HA6.out.set HA5.out.size 0 _).set HA5.out.size 1 _).set HA5.out.size 2 _).set HA5.out.size 3 _) | exact HCX.out _ (HA6.out.to (bel_alloc (Below.refl _ _) _)) | exact HCX.out _ HA5.out | exact HCX.out _ (HA5.out.to (bel_alloc (Below.refl _ _) _)) | exact HCX.out _ (HA.out.to (RowKit.Below.drew (Below.refl _ _))) | exact HCX.out _ (HA.out.to (RowKit.Below.drew (bel_alloc (Below.refl _ _) _))) | exact HCX.out _ (HA.out.to (bel_alloc (RowKit.Below.drew (Below.refl _ _)) _)))
    (first
    | (go_at_call 85; refine (HF1.out _).mono ?_; rintro e w6 ⟨rfl, hb6⟩; first
        | (have HA6 := Lib.hid (HA5.out.to hb6); have HN6 := Lib.hid (HN5.out.below' hb6); obtain ⟨⟨f0, n0⟩, ⟨f1, n1⟩, ⟨f2, n2⟩, ⟨f3, n3⟩, hrow⟩ := zone_store (.string (bs ta)) (.string (bs tb)) (.string (bs d0)) (.string (bs d0)) HN6.out)
        | (have HA6 := Lib.hid (HA5.out.to hb6))
        | (have HA6 := Lib.hid (HA5.out.to (bel_to (bel_alloc (Below.refl _ _) _) hb6)); have HN6 := Lib.hid ((show Row (w5.alloc ZX4) w5.heap.size 47 [.string ⟨#[]⟩, .string ⟨#[]⟩, .string ⟨#[]⟩, .string ⟨#[]⟩] from rnw).below' hb6); obtain ⟨⟨f0, n0⟩, ⟨f1, n1⟩, ⟨f2, n2⟩, ⟨f3, n3⟩, hrow⟩ := zone_store (.string (bs ta)) (.string (bs tb)) (.string (bs d0)) (.string (bs d0)) HN6.out))
    | (go_at_call 85; refine (HF1.out _).mono ?_; rintro e w5 ⟨rfl, hb5⟩; first
        | (have HA5 := Lib.hid (HA.out.to (bel_to (RowKit.Below.drew (Below.refl W0.heap.size W0)) hb5)))
        | (have HA5 := Lib.hid (HA.out.to (bel_to (RowKit.Below.drew (bel_alloc (Below.refl W0.heap.size W0) ZX4)) hb5)); have HN5 := Lib.hid ((show Row (W0.alloc ZX4).drew W0.heap.size 47 [.string ⟨#[]⟩, .string ⟨#[]⟩, .string ⟨#[]⟩, .string ⟨#[]⟩] from rnw).below' hb5))
        | (have HA5 := Lib.hid (HA.out.to (bel_to (bel_alloc (RowKit.Below.drew (Below.refl W0.heap.size W0)) ZX4) hb5)); have HN5 := Lib.hid ((show Row (W0.drew.alloc ZX4) W0.heap.size 47 [.string ⟨#[]⟩, .string ⟨#[]⟩, .string ⟨#[]⟩, .string ⟨#[]⟩] from rnw).below' hb5))))
  all_goals first
    | (have hz := HN5; clear hz; refine genwY (fun W => ArS w W (ta, tb) ∧ Row W W0.heap.size 47 [.string (bs ta), .string (bs tb), .string (bs d0), .string (bs d0)] ∧ w.heap.size + 1 < W0.heap.size) ⟨(((HA6.out.set HNW.out 0 _).set HNW.out 1 _).set HNW.out 2 _).set HNW.out 3 _, hrow, HNW.out⟩ ?_; intro W hst; generalize W0.heap.size = g at *)
    | (have hz := hrow; clear hz; refine genwY (fun W => ArS w W (ta, tb) ∧ Row W w5.heap.size 47 [.string (bs ta), .string (bs tb), .string (bs d0), .string (bs d0)] ∧ w.heap.size + 1 < w5.heap.size) ⟨(((HA6.out.set HA5.out.size 0 _).set HA5.out.size 1 _).set HA5.out.size 2 _).set HA5.out.size 3 _, hrow, HA5.out.size⟩ ?_; intro W hst; generalize w5.heap.size = g at *)
    | (refine genwY (fun W => ArS w W (ta, tb) ∧ Row W w6.heap.size 47 [.string (bs ta), .string (bs tb), .string (bs d0), .string (bs d0)] ∧ w.heap.size + 1 < w6.heap.size) ⟨HA6.out.to (bel_alloc (Below.refl _ _) _), rnw, HA6.out.size⟩ ?_; intro W hst; generalize w6.heap.size = g at *)
  all_goals
    have HST := Lib.hid hst
    try clear f0 f1 f2 f3 n0 n1 n2 n3 hrow
    clear hst HA6 HA5 HCX HF1 HA HNW
    try clear HN6
    try clear HN5
    go_wp2
    go_loopw [6] (fun iv wr => ∃ j : Nat, iv = .int .i64 ((j + 1 : Nat) : Int) ∧ j < l.length ∧ Hid (ArS w wr (ta, tb) ∧ Row wr g 47 [.string (bs ta), .string (bs tb), .string (bs (R (loTo (farF l c) j))), .string (bs (R (hiTo (farF l c) j)))] ∧ w.heap.size + 1 < g)) (fun iv _ => l.length - (intOf iv).toNat)
    case atStart => exact ⟨0, rfl, hpos, by rw [← HE0.out.1, ← HE0.out.2]; exact HST⟩
    case round =>
      clear HST
      obtain ⟨j, rfl, hj, hin⟩ := hrel
      by_cases hlt : j + 1 < l.length
      · have hrl := HL.out _ hin.out.1.bel
        obtain ⟨b2, o2, e2, hw⟩ := hrl.row (j + 1) hlt
        injection e2 with e2
        injection e2 with e2 e3 e4
        subst e2 e3
        obtain ⟨c0, c1⟩ := hw.val (j + 1) hlt
        have HFJ := Lib.hid (HF.out (j + 1) hlt)
        have HP1 := Lib.hid (HO1.out j hlt)
        have HP2 := Lib.hid (HO2.out j hlt)
        have HLO := Lib.hid (show R (loTo (farF l c) (j + 1)) = if cmpQ (farF l c (j + 1)) (loTo (farF l c) j) < 0 then R (farF l c (j + 1)) else R (loTo (farF l c) j) from by
          rw [loTo]
          by_cases h : farF l c (j + 1) < loTo (farF l c) j
          · rw [if_pos h, if_pos (cmpQ_lt'.2 h)]
          · rw [if_neg h, if_neg (fun h2 => h (cmpQ_lt'.1 h2))])
        have HHI := Lib.hid (show R (hiTo (farF l c) (j + 1)) = if 0 < cmpQ (farF l c (j + 1)) (hiTo (farF l c) j) then R (farF l c (j + 1)) else R (hiTo (farF l c) j) from by
          rw [hiTo]
          by_cases h : hiTo (farF l c) j < farF l c (j + 1)
          · rw [if_pos h, if_pos (cmpQ_gt'.2 h)]
          · rw [if_neg h, if_neg (fun h2 => h (cmpQ_gt'.1 h2))])
        clear hrl hw
        generalize R (loTo (farF l c) j) = slo at *
        generalize R (hiTo (farF l c) j) = shi at *
        generalize cmpQ (farF l c (j + 1)) (loTo (farF l c) j) = m1 at *
        generalize cmpQ (farF l c (j + 1)) (hiTo (farF l c) j) = m2 at *
        generalize R (farF l c (j + 1)) = dj at *
        generalize l[j + 1].1 = xj at *
        generalize l[j + 1].2 = yj at *
        have hj0 : (0 : Int) ≤ ((j + 1 : Nat) : Int) := by omega
        have hj1 : ((j + 1 : Nat) : Int) < (l.length : Int) := by omega
        have m0 := cell_regrown (hin.out.1.r1.cell (i := 0) rfl)
        have m1' := cell_regrown (hin.out.1.r1.cell (i := 1) rfl)
        have m2' := cell_regrown c0
        have m3' := cell_regrown c1
        have k1 := reg_of (w := wr) (fun E _ => HFJ.out E)
        have e1 : ∀ args w, (callFunc 85 args).run Tryz.prog w = .ok (.enter 85 args) w := enters_of Tryz.func85 (by kernel_rfl) rfl
        have HM1 := Lib.hid (show (m1 < 0 ∧ decide (m1 < 0) = true) ∨ (¬ m1 < 0 ∧ decide (m1 < 0) = false) by by_cases h : m1 < 0 <;> simp [h])
        have HM2 := Lib.hid (show (0 < m2 ∧ decide (0 < m2) = true) ∨ (¬ 0 < m2 ∧ decide (0 < m2) = false) by by_cases h : 0 < m2 <;> simp [h])
        clear c0 c1
        go_wp2_with fail
        refine wp_region_quiet_below (by kernel_rfl) (by kernel_rfl) ?_
        repeat (go_big_quiet_step (fail))
        go_big_quiet_step (exact k1 _ _)
        repeat (go_big_quiet_step (fail))
        refine wpQuiet_nil ?_
        intro W6 hw'
        have hb6 : Below wr.heap.size wr W6 := by obtain ⟨p, e⟩ := hw'; rw [e]; exact below_regrown wr p.d p.os
        clear hw'
        have HZ6 := Lib.hid (show ArS w W6 (ta, tb) ∧ Row W6 g 47 [.string (bs ta), .string (bs tb), .string (bs slo), .string (bs shi)] ∧ w.heap.size + 1 < g from ⟨hin.out.1.to hb6, hin.out.2.1.below' hb6, hin.out.2.2⟩)
        clear hb6 k1 e1 m0 m1' m2' m3' hin HFJ
        have n2 := HZ6.out.2.1.cell (i := 2) rfl
        go_wp2_with fail
        refine (HP1.out _).mono ?_
        rintro e w7 ⟨rfl, hb7⟩
        have HZ7 := Lib.hid (show ArS w w7 (ta, tb) ∧ Row w7 g 47 [.string (bs ta), .string (bs tb), .string (bs slo), .string (bs shi)] ∧ w.heap.size + 1 < g from ⟨HZ6.out.1.to hb7, HZ6.out.2.1.below' hb7, HZ6.out.2.2⟩)
        clear hb7 HZ6 n2 HP1
        rcases HM1.out with ⟨hm1, hd1⟩ | ⟨hm1, hd1⟩
        · have hs1 := HLO.out
          rw [if_pos hm1] at hs1
          have HS1 := Lib.hid hs1
          have f2 := HZ7.out.2.1.free 2
          have n2 := HZ7.out.2.1.cell (i := 2) rfl
          have HZ7' := Lib.hid (show ArS w (w7.setCell ⟨g, 2, none⟩ (.string (bs dj))) (ta, tb) ∧ Row (w7.setCell ⟨g, 2, none⟩ (.string (bs dj))) g 47 [.string (bs ta), .string (bs tb), .string (bs dj), .string (bs shi)] ∧ w.heap.size + 1 < g from ⟨HZ7.out.1.set HZ7.out.2.2 2 _, HZ7.out.2.1.set 2 _, HZ7.out.2.2⟩)
          have n3' := HZ7.out.2.1.cell (i := 3) rfl
          clear hs1 HZ7 HM1
          have n3 := HZ7'.out.2.1.cell (i := 3) rfl
          go_wp2_with fail
          refine (HP2.out _).mono ?_
          rintro e w8 ⟨rfl, hb8⟩
          have HZ8 := Lib.hid (show ArS w w8 (ta, tb) ∧ Row w8 g 47 [.string (bs ta), .string (bs tb), .string (bs dj), .string (bs shi)] ∧ w.heap.size + 1 < g from ⟨HZ7'.out.1.to hb8, HZ7'.out.2.1.below' hb8, HZ7'.out.2.2⟩)
          clear hb8 HZ7' n3 n3' f2 n2
          rcases HM2.out with ⟨hm2, hd2⟩ | ⟨hm2, hd2⟩
          · have hs := HHI.out
            rw [if_pos hm2] at hs
            have HS := Lib.hid hs
            have f3 := HZ8.out.2.1.free 3
            have n3 := HZ8.out.2.1.cell (i := 3) rfl
            have HZ9 := Lib.hid (show ArS w (w8.setCell ⟨g, 3, none⟩ (.string (bs dj))) (ta, tb) ∧ Row (w8.setCell ⟨g, 3, none⟩ (.string (bs dj))) g 47 [.string (bs ta), .string (bs tb), .string (bs dj), .string (bs dj)] ∧ w.heap.size + 1 < g from ⟨HZ8.out.1.set HZ8.out.2.2 3 _, HZ8.out.2.1.set 3 _, HZ8.out.2.2⟩)
            clear hs HZ8 HM2
            go_wp2
            go_roundw
            case rel => exact ⟨j + 1, by go_num, hlt, by rw [HS1.out, HS.out]; exact HZ9⟩
            case measure => simp [intOf]; omega
          · have hs := HHI.out
            rw [if_neg (by omega)] at hs
            have HS := Lib.hid hs
            clear hs HM2
            go_wp2
            go_roundw
            case rel => exact ⟨j + 1, by go_num, hlt, by rw [HS1.out, HS.out]; exact HZ8⟩
            case measure => simp [intOf]; omega
        · have hs1 := HLO.out
          rw [if_neg (by omega)] at hs1
          have HS1 := Lib.hid hs1
          clear hs1 HM1
          have n3 := HZ7.out.2.1.cell (i := 3) rfl
          go_wp2_with fail
          refine (HP2.out _).mono ?_
          rintro e w8 ⟨rfl, hb8⟩
          have HZ8 := Lib.hid (show ArS w w8 (ta, tb) ∧ Row w8 g 47 [.string (bs ta), .string (bs tb), .string (bs slo), .string (bs shi)] ∧ w.heap.size + 1 < g from ⟨HZ7.out.1.to hb8, HZ7.out.2.1.below' hb8, HZ7.out.2.2⟩)
          clear hb8 HZ7 n3
          rcases HM2.out with ⟨hm2, hd2⟩ | ⟨hm2, hd2⟩
          · have hs := HHI.out
            rw [if_pos hm2] at hs
            have HS := Lib.hid hs
            have f3 := HZ8.out.2.1.free 3
            have n3 := HZ8.out.2.1.cell (i := 3) rfl
            have HZ9 := Lib.hid (show ArS w (w8.setCell ⟨g, 3, none⟩ (.string (bs dj))) (ta, tb) ∧ Row (w8.setCell ⟨g, 3, none⟩ (.string (bs dj))) g 47 [.string (bs ta), .string (bs tb), .string (bs slo), .string (bs dj)] ∧ w.heap.size + 1 < g from ⟨HZ8.out.1.set HZ8.out.2.2 3 _, HZ8.out.2.1.set 3 _, HZ8.out.2.2⟩)
            clear hs HZ8 HM2
            go_wp2
            go_roundw
            case rel => exact ⟨j + 1, by go_num, hlt, by rw [HS1.out, HS.out]; exact HZ9⟩
            case measure => simp [intOf]; omega
          · have hs := HHI.out
            rw [if_neg (by omega)] at hs
            have HS := Lib.hid hs
            clear hs HM2
            go_wp2
            go_roundw
            case rel => exact ⟨j + 1, by go_num, hlt, by rw [HS1.out, HS.out]; exact HZ8⟩
            case measure => simp [intOf]; omega
      · obtain rfl : j = l.length - 1 := by omega
        generalize R (loTo (farF l c) (l.length - 1)) = slo at *
        generalize R (hiTo (farF l c) (l.length - 1)) = shi at *
        have hj1 : ((l.length - 1 + 1 : Nat) : Int) = (l.length : Int) := by omega
        have t0 := hin.out.2.1.cell (i := 0) rfl
        have t1 := hin.out.2.1.cell (i := 1) rfl
        have t2 := hin.out.2.1.cell (i := 2) rfl
        have t3 := hin.out.2.1.cell (i := 3) rfl
        obtain ⟨⟨f0, n0⟩, ⟨f1, n1⟩, ⟨f2, n2⟩, ⟨f3, n3⟩, hrow⟩ := zone_store (.string (bs ta)) (.string (bs tb)) (.string (bs slo)) (.string (bs shi)) hin.out.1.r2
        have y0 := hrow.cell (i := 0) rfl
        have y1 := hrow.cell (i := 1) rfl
        have y2 := hrow.cell (i := 2) rfl
        have y3 := hrow.cell (i := 3) rfl
        have HQB := Lib.hid (zone_below (.string (bs ta)) (.string (bs tb)) (.string (bs slo)) (.string (bs shi)) hin.out.1.bel (A := w.heap.size + 1) (by omega))
        rw [hj1]
        clear hin hrow
        go_wp2
        refine bodyPost_ret (v := .agg #[.string (bs ta), .string (bs tb), .string (bs slo), .string (bs shi)]) (by simp [results, Tryz.results80, go_sem, y0, y1, y2, y3]) rfl ⟨rfl, HQB.out⟩
end W
end Go.Proofs.YtijpgddpejiohaaGreatDoor
end
section
namespace Go.Proofs.YtijpgddpejiohaaGreatDoor
open Go Go.RowKit Go.Deep Go.Sort
namespace M
noncomputable def atC (l : List PZ) (c : CT) : Nat := if givP l ≠ 0 then givP l else chkRs [c.1, c.2]
def tolC (t : Int) : Nat := if t < 0 ∨ 100000 < t then 2 else 0
noncomputable def slimB (i o : Rat) (t : Int) : Bool := if 0 < o - i - ((t * t : Int) : Rat) then decide ((o - i - ((t * t : Int) : Rat)) * (o - i - ((t * t : Int) : Rat)) ≤ 4 * ((t * t : Int) : Rat) * i) else true
noncomputable def narC (i o : Rat) (t : Int) : Nat := if i < 0 ∨ o < i then 9 else tolC t
end M
namespace W
open M
attribute [local go_sem] bs_size bs_toList bs_get bs_extract bs_append bs_lit0 bs_lit1 lit1_bs
set_option maxHeartbeats 2000000
set_option maxRecDepth 20000
theorem rat35 (vl : Value) (l : List PZ) (c : CT) (w : World) (hl : RdV w vl l) (hn : l.length ≤ maxLen) (h1 : c.1.length ≤ 90000) (h2 : c.2.length ≤ 90000) :
    Calls Tryz.prog 79 #[vl, ceV c] w (Ret w (.int .i64 ((atC l c : Nat) : Int))) := by
  have hgi := fun W (hW : Below w.heap.size w W) => rgiven35 vl l W (hl.below hW) hn
  have HR := Lib.hid (And.intro (rnw (w := w) (t := 41) (xs := [.string (bs c.1), .string (bs c.2)])) (bel_alloc (Below.refl w.heap.size w) (.cells #[.string (bs c.1), .string (bs c.2)] 41 (0, 0))))
  have hc := (fun W => rcenter35 c W h1 h2)
  obtain ⟨A, cap, rfl⟩ := hl.len
  have HC := Lib.hid hc
  clear hc
  unfold atC ceV at *
  clear hl h1 h2
  have HG := Lib.hid hgi
  clear hgi
  by_cases h : givP l = 0
  · have hgi := HG.out
    clear HG
    rw [h] at hgi
    have HG := Lib.hid hgi
    clear hgi
    rw [if_neg (by simp [h])]
    clear h
    generalize ((chkRs [c.1, c.2] : Nat) : Int) = z at *
    go_enter Tryz.func79, Tryz.ntmps79
    go_wp2_with fail
    refine (HG.out _ HR.out.2).mono ?_
    rintro e w1 ⟨rfl, hb1⟩
    have q0 := (HR.out.1.below' hb1).cell (i := 0) rfl
    have q1 := (HR.out.1.below' hb1).cell (i := 1) rfl
    have HB := Lib.hid (bel_to HR.out.2 hb1)
    clear hb1
    go_wp2_with fail
    refine (HC.out _).mono ?_
    rintro e w2 ⟨rfl, hb2⟩
    go_wp2
    go_ret
    exact Ret.of rfl (bel_to HB.out hb2)
  · rw [if_pos h]
    have hz : (((givP l : Nat) : Int) != 0) = true := by simp; exact h
    clear h
    generalize ((givP l : Nat) : Int) = z at *
    go_enter Tryz.func79, Tryz.ntmps79
    go_wp2_with fail
    refine (HG.out _ HR.out.2).mono ?_
    rintro e w1 ⟨rfl, hb1⟩
    go_wp2
    go_ret
    exact Ret.of rfl (bel_to HR.out.2 hb1)
theorem rAt_bad (vl : Value) (l : List PZ) (c : CT) (w : World) (hl : RdV w vl l) (hn : l.length ≤ maxLen) (h1 : c.1.length ≤ 90000) (h2 : c.2.length ≤ 90000) (h : atC l c ≠ 0) :
    Calls Tryz.prog 22 #[vl, ceV c] w (Ret w (.tuple #[zoV zo0, .int .i64 ((atC l c : Nat) : Int)])) := by
  have hat := fun W (hW : Below w.heap.size w W) => rat35 vl l c W (hl.below hW) hn h1 h2
  have hz : (((atC l c : Nat) : Int) != 0) = true := by simp; exact h
  have HA := Lib.hid (ArS.new w c)
  obtain ⟨ta, tb⟩ := c
  obtain ⟨A, cap, rfl⟩ := hl.len
  unfold ceV at *
  simp only at *
  clear h h1 h2 hl
  generalize ((atC l (ta, tb) : Nat) : Int) = z at *
  have HT := Lib.hid hat
  clear hat
  go_enter Tryz.func22, Tryz.ntmps22
  go_wp2_with fail
  refine (HT.out _ HA.out.bel).mono ?_
  rintro e w1 ⟨rfl, hb1⟩
  have HA1 := Lib.hid (HA.out.to hb1)
  clear HA hb1 HT
  obtain ⟨⟨f0, n0⟩, ⟨f1, n1⟩, ⟨f2, n2⟩, ⟨f3, n3⟩, hrow⟩ := zone_store (.string ⟨#[]⟩) (.string ⟨#[]⟩) (.string ⟨#[]⟩) (.string ⟨#[]⟩) HA1.out.r2
  have y0 := hrow.cell (i := 0) rfl
  have y1 := hrow.cell (i := 1) rfl
  have y2 := hrow.cell (i := 2) rfl
  have y3 := hrow.cell (i := 3) rfl
  have HQB := Lib.hid (zone_below (.string ⟨#[]⟩) (.string ⟨#[]⟩) (.string ⟨#[]⟩) (.string ⟨#[]⟩) HA1.out.bel (A := w.heap.size + 1) (by omega))
  clear hrow HA1
  go_wp2
  refine bodyPost_ret (v := .tuple #[zoV zo0, .int .i64 z]) (by simp [results, Tryz.results22, go_sem, y0, y1, y2, y3, zoV, zo0]; rfl) rfl ⟨rfl, HQB.out⟩
theorem rAt_ok (vl : Value) (l : List PZ) (c : Rat × Rat) (k : Nat) (w : World) (hl : RdV w vl l) (hgv : givP l = 0) (h1 : Bq k c.1) (h2 : Bq k c.2) (hk1 : 1 ≤ k) (hk : k ≤ 100) :
    Calls Tryz.prog 22 #[vl, ceV (ceQ c)] w (Ret w (.tuple #[zoV (zoQ c (innQ l c) (outQ l c)), .int .i64 0])) := by
  obtain ⟨g1, g2, g3⟩ := givP_iff.1 hgv
  have small : ∀ q, Bq k q → (R q).length ≤ 90000 := fun q h => by have := h.R_len (by omega); omega
  have hat := fun W (hW : Below w.heap.size w W) => rat35 vl l (ceQ c) W (hl.below hW) (by unfold maxLen; omega) (small _ h1) (small _ h2)
  rw [show atC l (ceQ c) = 0 by unfold atC; rw [if_neg (by simp [hgv])]; exact chkRs_two h1 h2 (by omega) (by omega)] at hat
  have har := fun W (hW : Below w.heap.size w W) => raround35 vl l c k W (hl.below hW) g2 g3 h1 h2 hk1 hk (by omega)
  have HA := Lib.hid (ArS.new w (ceQ c))
  obtain ⟨A, cap, rfl⟩ := hl.len
  unfold ceV ceQ zoV zoQ ceQ at *
  simp only at *
  clear hgv h1 h2 hl small g1 g2 g3
  generalize R (innQ l c) = si at *
  generalize R (outQ l c) = so at *
  generalize R c.1 = ta at *
  generalize R c.2 = tb at *
  have HT := Lib.hid hat
  have HR := Lib.hid har
  clear hat har
  go_enter Tryz.func22, Tryz.ntmps22
  go_wp2_with fail
  refine (HT.out _ HA.out.bel).mono ?_
  rintro e w1 ⟨rfl, hb1⟩
  have HA1 := Lib.hid (HA.out.to hb1)
  clear HA hb1 HT
  have p0 := HA1.out.r1.cell (i := 0) rfl
  have p1 := HA1.out.r1.cell (i := 1) rfl
  go_wp2_with fail
  refine (HR.out _ HA1.out.bel).mono ?_
  rintro e w2 ⟨rfl, hb2⟩
  have HA2 := Lib.hid (HA1.out.to hb2)
  clear HA1 hb2 HR p0 p1
  obtain ⟨⟨f0, n0⟩, ⟨f1, n1⟩, ⟨f2, n2⟩, ⟨f3, n3⟩, hrow⟩ := zone_store (.string (bs ta)) (.string (bs tb)) (.string (bs si)) (.string (bs so)) HA2.out.r2
  have y0 := hrow.cell (i := 0) rfl
  have y1 := hrow.cell (i := 1) rfl
  have y2 := hrow.cell (i := 2) rfl
  have y3 := hrow.cell (i := 3) rfl
  have HQB := Lib.hid (zone_below (.string (bs ta)) (.string (bs tb)) (.string (bs si)) (.string (bs so)) HA2.out.bel (A := w.heap.size + 1) (by omega))
  clear hrow HA2
  go_wp2
  refine bodyPost_ret (v := .tuple #[.agg #[.string (bs ta), .string (bs tb), .string (bs si), .string (bs so)], .int .i64 0]) (by simp [results, Tryz.results22, go_sem, y0, y1, y2, y3]) rfl ⟨rfl, HQB.out⟩
theorem rtol35 (t : Int) (w : World) : Calls Tryz.prog 87 #[.int .i64 t] w (Ret w (.int .i64 ((tolC t : Nat) : Int))) := by
  unfold tolC
  generalize hrs : (((if t < 0 ∨ 100000 < t then 2 else 0 : Nat)) : Int) = rs
  have HRS := Lib.hid hrs
  clear hrs
  by_cases h1 : t < 0
  · have d1 : decide (t < 0) = true := decide_eq_true h1
    obtain rfl : 2 = rs := by rw [← HRS.out, if_pos (Or.inl h1)]; rfl
    clear h1 HRS
    go_enter Tryz.func87, Tryz.ntmps87
    go_wp2
    go_ret
    exact Ret.of rfl (Below.refl _ _)
  · have d1 : decide (t < 0) = false := decide_eq_false h1
    by_cases h2 : 100000 < t
    · have d2 : decide ((100000 : Int) < t) = true := decide_eq_true h2
      obtain rfl : 2 = rs := by rw [← HRS.out, if_pos (Or.inr h2)]; rfl
      clear h1 h2 HRS
      go_enter Tryz.func87, Tryz.ntmps87
      go_wp2
      go_ret
      exact Ret.of rfl (Below.refl _ _)
    · have d2 : decide ((100000 : Int) < t) = false := decide_eq_false h2
      obtain rfl : 0 = rs := by rw [← HRS.out, if_neg (by omega)]; rfl
      clear h1 h2 HRS
      go_enter Tryz.func87, Tryz.ntmps87
      go_wp2
      go_ret
      exact Ret.of rfl (Below.refl _ _)
end W
end Go.Proofs.YtijpgddpejiohaaGreatDoor
end
