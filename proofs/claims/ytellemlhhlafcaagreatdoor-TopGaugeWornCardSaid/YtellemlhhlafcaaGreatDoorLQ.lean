/-
  Chapter 46: the reference's checks of plates; the bonus, the allowed tolerance and 'Zone' on both sides.
  Chapter 46: the allowed tolerance and 'Zone' on both sides; 'Check' of the reference; 'Of' of layer 2.
-/
import Derived.Test.YtellemlhhlafcaaGreatDoorLI
import Derived.Test.YtellemlhhlafcaaGreatDoorLN
import Derived.Test.YtellemlhhlafcaaGreatDoorLJ
import Derived.Sort.BigQuietIn
import Derived.Deep.QuietTactic
import Derived.BigQuiet
section
namespace Go.Proofs.YtellemlhhlafcaaGreatDoor
open Go Go.RowKit Go.Deep
def Sig (w : World) : Prop := w.cell? ⟨0, 0, none⟩ = some (.int .i64 (-1)) ∧ w.cell? ⟨0, 1, none⟩ = some (.int .i64 (-1)) ∧ w.cell? ⟨0, 2, none⟩ = some (.int .i64 1) ∧
  w.cell? ⟨0, 3, none⟩ = some (.int .i64 1) ∧ w.cell? ⟨0, 4, none⟩ = some (.int .i64 1) ∧ w.cell? ⟨0, 5, none⟩ = some (.int .i64 (-1))
theorem Sig.below {w w' : World} (h : Sig w) (hb : Below w.heap.size w w') : Sig w' := by
  have hc : ∀ o v, w.cell? ⟨0, o, none⟩ = some v → w'.cell? ⟨0, o, none⟩ = some v := fun o v e => (hb.cell (block_lt_of_cell e)).trans e
  obtain ⟨h0, h1, h2, h3, h4, h5⟩ := h
  exact ⟨hc _ _ h0, hc _ _ h1, hc _ _ h2, hc _ _ h3, hc _ _ h4, hc _ _ h5⟩
namespace M
def sideT (t : Tg) : Int := if t.pin = true then (if t.mat = 2 then -1 else 1) else (if t.mat = 2 then 1 else -1)
end M
abbrev cdV (t : M.Tg) (s : Int) : Value := .agg #[.int .i64 t.x, .int .i64 t.y, .int .i64 t.lo, .int .i64 t.hi, .int .i64 t.tol, .int .i64 t.mat, .bool t.pin, .int .i64 s]
namespace W
open M
attribute [local go_sem] bs_size bs_toList bs_get bs_extract bs_append bs_lit0 bs_lit1 lit1_bs
set_option maxHeartbeats 1000000
set_option maxRecDepth 20000
theorem rplate44 (vt vc : Value) (ts : List Tg) (cs : List Cc) (w : World) (ht : RdG w vt ts) (hc : RdC w vc cs) (nt : ts.length ≤ maxLen) (nc : cs.length ≤ maxLen) :
    Calls Tryz.prog 55 #[vt, vc] w (Ret w (.int .i64 ((chkPl ts cs : Nat) : Int))) := by
  unfold maxLen at nt nc
  obtain ⟨At, ct, rfl⟩ := ht.len
  obtain ⟨Ac, cc, rfl⟩ := hc.len
  by_cases h16 : 16 < ts.length
  · unfold chkPl
    rw [if_pos h16]
    have hd : decide (16 < (ts.length : Int)) = true := by simp; omega
    clear ht hc
    go_enter Tryz.func55, Tryz.ntmps55
    go_wp2
    go_ret
    exact Ret.of rfl (Below.refl _ _)
  · have hd : decide (16 < (ts.length : Int)) = false := by simp; omega
    have HT := Lib.hid ht
    have HC := Lib.hid hc
    have hp : chkPl ts cs = if chkTs ts ≠ 0 then chkTs ts else if cs.length ≠ ts.length then 8 else chkCs cs := by unfold chkPl; rw [if_neg h16]
    generalize hch : ((chkPl ts cs : Nat) : Int) = ch
    rw [hp] at hch
    have HCH := Lib.hid hch
    clear ht hc hp hch
    have hts : ts.length ≤ 16 := by omega
    go_enter Tryz.func55, Tryz.ntmps55
    go_wp2
    go_loopw [5] (fun iv wr => ∃ i : Nat, iv = .int .i64 (i : Int) ∧ i ≤ ts.length ∧ Hid (chkTs ts = chkTs (ts.drop i)) ∧ Hid (Below w.heap.size w wr)) (fun iv _ => ts.length - (intOf iv).toNat)
    case atStart => exact ⟨0, rfl, by omega, Lib.hid (by rw [List.drop_zero]), Lib.hid (Below.refl _ _)⟩
    case round =>
      obtain ⟨i, rfl, hi, hk, hbw⟩ := hrel
      by_cases hlt : i < ts.length
      · obtain ⟨b1, o1, rfl, hw⟩ := HT.out.row i hlt
        obtain ⟨c0, c1, c2, c3, c4, c5, c6⟩ := (hw.below' hbw.out).val i hlt
        have hk2 := hk.out
        rw [chkTs_drop ts i hlt] at hk2
        clear hk hw
        generalize ts[i] = x at *
        have HCK := Lib.hid (rcheck44 x wr)
        by_cases h0 : chkT x = 0
        · rw [if_pos h0] at hk2
          rw [h0] at HCK
          have HK := Lib.hid hk2
          clear hk2 h0
          go_wp2_with fail
          refine (HCK.out).mono ?_
          rintro e w1 ⟨rfl, hb1⟩
          have HB1 := Lib.hid (bel_to hbw.out hb1)
          clear hb1 HCK
          go_wp2
          go_roundw
          case rel => exact ⟨i + 1, by go_num, by omega, HK, HB1⟩
          case measure => simp [intOf]; omega
        · rw [if_neg h0] at hk2
          have hz : (((chkT x : Nat) : Int) != 0) = true := by rw [bne_iff_ne]; omega
          have HK := Lib.hid (show ch = ((chkT x : Nat) : Int) by rw [← HCH.out, hk2, if_pos h0])
          clear hk2 h0
          generalize ((chkT x : Nat) : Int) = c at *
          go_wp2_with fail
          refine (HCK.out).mono ?_
          rintro e w1 ⟨rfl, hb1⟩
          have HB1 := Lib.hid (bel_to hbw.out hb1)
          clear hb1 HCK
          go_wp2
          go_ret
          exact Ret.of (by rw [HK.out]; rfl) HB1.out
      · obtain rfl : i = ts.length := by omega
        have hk2 := hk.out
        rw [List.drop_length] at hk2
        rw [hk2] at HCH
        have hch := HCH.out
        rw [if_neg (by simp [chkTs])] at hch
        clear hk hk2 HCH HT
        by_cases hl : cs.length = ts.length
        · have hz : ((cs.length : Int) != (ts.length : Int)) = false := by rw [hl]; simp
          rw [if_neg (by simpa using hl)] at hch
          have HCH := Lib.hid hch
          clear hch hl
          go_wp2
          go_loopw [7] (fun iv wr => ∃ i : Nat, iv = .int .i64 (i : Int) ∧ i ≤ cs.length ∧ Hid (chkCs cs = chkCs (cs.drop i)) ∧ Hid (Below w.heap.size w wr)) (fun iv _ => cs.length - (intOf iv).toNat)
          case atStart => exact ⟨0, rfl, by omega, Lib.hid (by rw [List.drop_zero]), hbw⟩
          case round =>
            clear hbw
            obtain ⟨i, rfl, hi, hk, hbw⟩ := hrel
            by_cases hlt : i < cs.length
            · obtain ⟨b1, o1, rfl, hw⟩ := HC.out.row i hlt
              obtain ⟨c0, c1, c2⟩ := (hw.below' hbw.out).val i hlt
              have hk2 := hk.out
              rw [chkCs_drop cs i hlt] at hk2
              clear hk hw
              generalize cs[i] = x at *
              have HCK := Lib.hid (fun W => rring44 x W)
              by_cases h0 : ringC x = 0
              · rw [if_pos h0] at hk2
                rw [h0] at HCK
                have HK := Lib.hid hk2
                clear hk2 h0
                go_wp2_with fail
                refine (HCK.out _).mono ?_
                rintro e w1 ⟨rfl, hb1⟩
                have HB1 := Lib.hid (bel_to hbw.out hb1)
                clear hb1 HCK
                go_wp2
                go_roundw
                case rel => exact ⟨i + 1, by go_num, by omega, HK, HB1⟩
                case measure => simp [intOf]; omega
              · rw [if_neg h0] at hk2
                have hz : (((ringC x : Nat) : Int) != 0) = true := by rw [bne_iff_ne]; omega
                have HK := Lib.hid (show ch = ((ringC x : Nat) : Int) by rw [← HCH.out, hk2])
                clear hk2 h0
                generalize ((ringC x : Nat) : Int) = c at *
                go_wp2_with fail
                refine (HCK.out _).mono ?_
                rintro e w1 ⟨rfl, hb1⟩
                have HB1 := Lib.hid (bel_to hbw.out hb1)
                clear hb1 HCK
                go_wp2
                go_ret
                exact Ret.of (by rw [HK.out]; rfl) HB1.out
            · obtain rfl : i = cs.length := by omega
              have hk2 := hk.out
              rw [List.drop_length] at hk2
              have HK := Lib.hid (show ch = 0 by rw [← HCH.out, hk2]; rfl)
              clear hk hk2
              go_wp2
              go_ret
              exact Ret.of (by rw [HK.out]; rfl) hbw.out
        · have hz : ((cs.length : Int) != (ts.length : Int)) = true := by rw [bne_iff_ne]; omega
          rw [if_pos hl] at hch
          have HCH := Lib.hid hch
          clear hch
          go_wp2
          go_ret
          exact Ret.of (by rw [← HCH.out]; rfl) hbw.out
theorem bof (t : Tg) (w : World) (hs : Sig w) (hm : t.mat = 0 ∨ t.mat = 1 ∨ t.mat = 2) : Calls Tryz.prog 87 #[tgV t] w (Ret w (cdV t (sideT t))) := by
  have hb1 : Below w.heap.size w ((w.alloc (tgO t)).alloc (.cells #[.int .i64 0, .int .i64 0, .int .i64 0, .int .i64 0, .int .i64 0, .int .i64 0, .bool false, .int .i64 0] 177 (0, 0))) := (bel_al w _).alloc (bel_al w _).size _
  have HB := Lib.hid (fun o : Obj => RowKit.Below.drew ((bel_al w (tgO t)).alloc (bel_al w (tgO t)).size o))
  obtain ⟨s0, s1, s2, s3, s4, s5⟩ := hs.below hb1
  clear hb1 hs
  unfold sideT
  obtain ⟨x, y, lo, hi, tol, mat, pin⟩ := t
  simp only at *
  rcases hm with rfl | rfl | rfl
  · cases pin
    · go_enter Tryz.func87, Tryz.ntmps87
      go_wp2
      go_region
      go_wp2
      refine bodyPost_ret (v := cdV ⟨x, y, lo, hi, tol, 0, false⟩ (-1)) (by simp [results, Tryz.results87, go_sem]) rfl ⟨rfl, HB.out _⟩
    · go_enter Tryz.func87, Tryz.ntmps87
      go_wp2
      go_region
      go_wp2
      refine bodyPost_ret (v := cdV ⟨x, y, lo, hi, tol, 0, true⟩ 1) (by simp [results, Tryz.results87, go_sem]) rfl ⟨rfl, HB.out _⟩
  · cases pin
    · go_enter Tryz.func87, Tryz.ntmps87
      go_wp2
      go_region
      go_wp2
      refine bodyPost_ret (v := cdV ⟨x, y, lo, hi, tol, 1, false⟩ (-1)) (by simp [results, Tryz.results87, go_sem]) rfl ⟨rfl, HB.out _⟩
    · go_enter Tryz.func87, Tryz.ntmps87
      go_wp2
      go_region
      go_wp2
      refine bodyPost_ret (v := cdV ⟨x, y, lo, hi, tol, 1, true⟩ 1) (by simp [results, Tryz.results87, go_sem]) rfl ⟨rfl, HB.out _⟩
  · cases pin
    · go_enter Tryz.func87, Tryz.ntmps87
      go_wp2
      go_region
      go_wp2
      refine bodyPost_ret (v := cdV ⟨x, y, lo, hi, tol, 2, false⟩ 1) (by simp [results, Tryz.results87, go_sem]) rfl ⟨rfl, HB.out _⟩
    · go_enter Tryz.func87, Tryz.ntmps87
      go_wp2
      go_region
      go_wp2
      refine bodyPost_ret (v := cdV ⟨x, y, lo, hi, tol, 2, true⟩ (-1)) (by simp [results, Tryz.results87, go_sem]) rfl ⟨rfl, HB.out _⟩
theorem bend (t : Tg) (s z : Int) (w : World) : Calls Tryz.prog 88 #[cdV t s, .int .i64 z] w (Ret w (.int .i64 (if z < 0 then t.lo else t.hi))) := by
  have hb := bel_al w (.cells #[.int .i64 t.x, .int .i64 t.y, .int .i64 t.lo, .int .i64 t.hi, .int .i64 t.tol, .int .i64 t.mat, .bool t.pin, .int .i64 s] 177 (0, 0))
  obtain ⟨x, y, lo, hi, tol, mat, pin⟩ := t
  simp only at *
  by_cases h : z < 0
  · rw [if_pos h]
    go_enter Tryz.func88, Tryz.ntmps88
    go_wp2
    go_ret
    exact Ret.of rfl hb
  · rw [if_neg h]
    go_enter Tryz.func88, Tryz.ntmps88
    go_wp2
    go_ret
    exact Ret.of rfl hb
theorem bextra (t : Tg) (n : Int) (w : World) (ht : RtT t) (hn : 1 ≤ n ∧ n ≤ 100000) : Calls Tryz.prog 119 #[cdV t (sideT t), .int .i64 n] w (Ret w (.int .i64 (extr t n))) := by
  have a1 := ht.lo
  have a2 := ht.hi
  have hm := ht.mat
  obtain ⟨s, hs⟩ : ∃ s, s = sideT t := ⟨_, rfl⟩
  rw [← hs]
  have hs2 : s = -1 ∨ s = 1 := by
    rw [hs]; unfold sideT
    repeat' split
    all_goals simp
  obtain ⟨E, hE⟩ : ∃ E, E = if s < 0 then t.lo else t.hi := ⟨_, rfl⟩
  have hE2 : 1 ≤ E ∧ E ≤ 100000 := by rw [hE]; split <;> omega
  have hx : t.mat ≠ 0 → extr t n = s * (E - n) := fun h0 => by
    rw [hE, hs]
    unfold extr sideT
    rw [if_neg h0]
    rcases hm with h | h | h
    · exact absurd h h0
    · rw [h]; cases t.pin <;> simp <;> omega
    · rw [h]; cases t.pin <;> simp <;> omega
  have HN := Lib.hid (fun W => bend t s s W)
  rw [← hE] at HN
  have HB := Lib.hid (bel_al w (.cells #[.int .i64 t.x, .int .i64 t.y, .int .i64 t.lo, .int .i64 t.hi, .int .i64 t.tol, .int .i64 t.mat, .bool t.pin, .int .i64 s] 177 (0, 0)))
  have HR := Lib.hid (Row.new w 177 [.int .i64 t.x, .int .i64 t.y, .int .i64 t.lo, .int .i64 t.hi, .int .i64 t.tol, .int .i64 t.mat, .bool t.pin, .int .i64 s])
  clear hE hs ht
  by_cases h0 : t.mat = 0
  · have hx0 : extr t n = 0 := by unfold extr; rw [if_pos h0]
    rw [hx0]
    obtain ⟨x, y, lo, hi, tol, mat, pin⟩ := t
    simp only at *
    subst h0
    clear hx hm HR
    go_enter Tryz.func119, Tryz.ntmps119
    go_wp2
    go_ret
    exact Ret.of rfl HB.out
  · rw [hx h0]
    have hz : (t.mat == 0) = false := by simpa using h0
    have hw1 : wrap64 (E - n) = E - n := by unfold wrap64; omega
    have hw2 : wrap64 (s * (E - n)) = s * (E - n) := by
      unfold wrap64
      rcases hs2 with rfl | rfl <;> omega
    have hw3 : IntKind.i64.wrap (E - n) = E - n := IntWalk.i64_in _ (by omega)
    have hw4 : IntKind.i64.wrap (s * (E - n)) = s * (E - n) := IntWalk.i64_in _ (by rcases hs2 with rfl | rfl <;> omega)
    have k1 := reg_of (w := w.alloc (.cells #[.int .i64 t.x, .int .i64 t.y, .int .i64 t.lo, .int .i64 t.hi, .int .i64 t.tol, .int .i64 t.mat, .bool t.pin, .int .i64 s] 177 (0, 0))) (fun W _ => HN.out W)
    obtain ⟨x, y, lo, hi, tol, mat, pin⟩ := t
    simp only at *
    clear hx hm h0 a1 a2
    go_enter Tryz.func119, Tryz.ntmps119
    go_wp2_with fail
    have m0 := cell_regrown (HR.out.cell (i := 0) rfl)
    have m1 := cell_regrown (HR.out.cell (i := 1) rfl)
    have m2 := cell_regrown (HR.out.cell (i := 2) rfl)
    have m3 := cell_regrown (HR.out.cell (i := 3) rfl)
    have m4 := cell_regrown (HR.out.cell (i := 4) rfl)
    have m5 := cell_regrown (HR.out.cell (i := 5) rfl)
    have m6 := cell_regrown (HR.out.cell (i := 6) rfl)
    have m7 := cell_regrown (HR.out.cell (i := 7) rfl)
    have e1 : ∀ args w, (callFunc 88 args).run Tryz.prog w = .ok (.enter 88 args) w := enters_of Tryz.func88 (by kernel_rfl) rfl
    generalize w.alloc (.cells #[.int .i64 x, .int .i64 y, .int .i64 lo, .int .i64 hi, .int .i64 tol, .int .i64 mat, .bool pin, .int .i64 s] 177 (0, 0)) = wr at *
    refine wp_region_quiet_below (by kernel_rfl) (by kernel_rfl) ?_
    repeat (go_big_quiet_step (fail))
    go_big_quiet_step (exact k1 _ _)
    repeat (go_big_quiet_step (fail))
    refine wpQuiet_nil ?_
    intro W6 hw'
    have hb6 : Below wr.heap.size wr W6 := by obtain ⟨p, e⟩ := hw'; rw [e]; exact below_regrown wr p.d p.os
    clear hw'
    have HB6 := Lib.hid (bel_to HB.out hb6)
    go_wp2
    go_ret
    exact Ret.of rfl HB6.out
end W
end Go.Proofs.YtellemlhhlafcaaGreatDoor
end
section
namespace Go.Proofs.YtellemlhhlafcaaGreatDoor
open Go Go.RowKit Go.Deep
abbrev tgC (t : M.Tg) : List Value := [.int .i64 t.x, .int .i64 t.y, .int .i64 t.lo, .int .i64 t.hi, .int .i64 t.tol, .int .i64 t.mat, .bool t.pin]
abbrev ccC (c : M.Cc) : List Value := [.int .i64 c.x, .int .i64 c.y, .int .i64 c.d]
theorem bel_al2 (w : World) (o o2 : Obj) : Below w.heap.size w ((w.alloc o).alloc o2) := (bel_al w o).alloc (bel_al w o).size o2
namespace M
def bonC (t : Tg) (n : Int) : Nat := if chkT t ≠ 0 then chkT t else if wth t n = true then 0 else 2
def bonN (t : Tg) (n : Int) : Int := if bonC t n = 0 then extr t n else 0
theorem bon_bad {t : Tg} {n : Int} (h : chkT t ≠ 0) : bonC t n = chkT t ∧ bonN t n = 0 := by
  have e : bonC t n = chkT t := by unfold bonC; rw [if_pos h]
  exact ⟨e, by unfold bonN; rw [e, if_neg h]⟩
theorem bon_out {t : Tg} {n : Int} (h : chkT t = 0) (hw : wth t n = false) : bonC t n = 2 ∧ bonN t n = 0 := by
  have e : bonC t n = 2 := by unfold bonC; rw [if_neg (fun h2 => h2 h), hw]; rfl
  exact ⟨e, by unfold bonN; rw [e]; rfl⟩
theorem bon_ok {t : Tg} {n : Int} (h : chkT t = 0) (hw : wth t n = true) : bonC t n = 0 ∧ bonN t n = extr t n := by
  have e : bonC t n = 0 := by unfold bonC; rw [if_neg (fun h2 => h2 h), hw]; rfl
  exact ⟨e, by unfold bonN; rw [e]; rfl⟩
theorem wth_rng {t : Tg} {n : Int} (h : RtT t) (hw : wth t n = true) : 1 ≤ n ∧ n ≤ 100000 := by
  unfold wth at hw
  simp only [Bool.and_eq_true, decide_eq_true_eq] at hw
  have := h.lo
  have := h.hi
  omega
theorem extr_rng {t : Tg} {n : Int} (h : RtT t) (hw : wth t n = true) : 0 ≤ extr t n ∧ extr t n ≤ 100000 := by
  unfold wth at hw
  simp only [Bool.and_eq_true, decide_eq_true_eq] at hw
  have := h.lo
  have := h.hi
  unfold extr
  split
  · omega
  · split <;> omega
end M
namespace W
open M
attribute [local go_sem] bs_size bs_toList bs_get bs_extract bs_append bs_lit0 bs_lit1 lit1_bs
set_option maxHeartbeats 1000000
set_option maxRecDepth 20000
theorem nz_bne {n : Nat} (h : n ≠ 0) : (((n : Nat) : Int) != 0) = true := by rw [bne_iff_ne]; omega
theorem bbonus (t : Tg) (n : Int) (w : World) (hs : Sig w) : Calls Tryz.prog 65 #[tgV t, .int .i64 n] w (Ret w (.tuple #[.int .i64 (bonN t n), .int .i64 ((bonC t n : Nat) : Int)])) := by
  have HB0 := Lib.hid (bel_al w (tgO t))
  have HX := Lib.hid (rnw (w := w) (t := 27) (xs := tgC t))
  have HC := Lib.hid (fun W => bcheck t W)
  have HW := Lib.hid (fun W => bwithin t n W)
  have HS := Lib.hid hs
  have HO := Lib.hid (fun W (hW : Sig W) (ht : RtT t) => bof t W hW ht.mat)
  have HE := Lib.hid (fun W (ht : RtT t) (hn : 1 ≤ n ∧ n ≤ 100000) => bextra t n W ht hn)
  have HT := Lib.hid (chkT_iff t)
  have HG := Lib.hid (fun ht hw => wth_rng (t := t) (n := n) ht hw)
  clear hs
  by_cases h : chkT t = 0
  · have ht := HT.out.1 h
    rw [h] at HC
    cases hw : wth t n with
    | true =>
      rw [hw] at HW
      rw [(bon_ok h hw).1, (bon_ok h hw).2]
      have hn := HG.out ht hw
      have HO2 := Lib.hid (fun W hW => HO.out W hW ht)
      have HE2 := Lib.hid (fun W => HE.out W ht hn)
      clear HG HT HO HE h ht hw hn
      obtain ⟨s, hs⟩ : ∃ s, s = sideT t := ⟨_, rfl⟩
      obtain ⟨E, hE⟩ : ∃ E, E = extr t n := ⟨_, rfl⟩
      rw [← hs] at HO2 HE2
      rw [← hE] at HE2 ⊢
      clear hs hE
      obtain ⟨x, y, lo, hi, tol, mat, pin⟩ := t
      (try simp only at *)
      go_enter Tryz.func65, Tryz.ntmps65
      go_wp2_with fail
      refine (HC.out _).mono ?_
      rintro e w1 ⟨rfl, hb1⟩
      have HX1 := Lib.hid (HX.out.below' hb1)
      have HB1 := Lib.hid (bel_to HB0.out hb1)
      have x0 := HX1.out.cell (i := 0) rfl
      have x1 := HX1.out.cell (i := 1) rfl
      have x2 := HX1.out.cell (i := 2) rfl
      have x3 := HX1.out.cell (i := 3) rfl
      have x4 := HX1.out.cell (i := 4) rfl
      have x5 := HX1.out.cell (i := 5) rfl
      have x6 := HX1.out.cell (i := 6) rfl
      clear hb1 HX HB0 HC
      go_wp2_with fail
      refine (HW.out _).mono ?_
      rintro e w2 ⟨rfl, hb2⟩
      have HX2 := Lib.hid (HX1.out.below' hb2)
      have HB2 := Lib.hid (bel_to HB1.out hb2)
      clear hb2 HX1 HB1 HW x0 x1 x2 x3 x4 x5 x6
      have x0 := HX2.out.cell (i := 0) rfl
      have x1 := HX2.out.cell (i := 1) rfl
      have x2 := HX2.out.cell (i := 2) rfl
      have x3 := HX2.out.cell (i := 3) rfl
      have x4 := HX2.out.cell (i := 4) rfl
      have x5 := HX2.out.cell (i := 5) rfl
      have x6 := HX2.out.cell (i := 6) rfl
      go_wp2_with fail
      refine (HO2.out _ (HS.out.below HB2.out)).mono ?_
      rintro e w3 ⟨rfl, hb3⟩
      have HB3 := Lib.hid (bel_to HB2.out hb3)
      clear hb3 HB2 HX2 x0 x1 x2 x3 x4 x5 x6
      go_wp2_with fail
      refine (HE2.out _).mono ?_
      rintro e w4 ⟨rfl, hb4⟩
      have hb4' := bel_to HB3.out hb4
      clear hb4 HB3
      go_wp2
      go_ret2
      exact Ret.of rfl hb4'
    | false =>
      rw [hw] at HW
      rw [(bon_out h hw).1, (bon_out h hw).2]
      clear HG HT HO HE h ht hw
      obtain ⟨x, y, lo, hi, tol, mat, pin⟩ := t
      (try simp only at *)
      go_enter Tryz.func65, Tryz.ntmps65
      go_wp2_with fail
      refine (HC.out _).mono ?_
      rintro e w1 ⟨rfl, hb1⟩
      have HX1 := Lib.hid (HX.out.below' hb1)
      have HB1 := Lib.hid (bel_to HB0.out hb1)
      have x0 := HX1.out.cell (i := 0) rfl
      have x1 := HX1.out.cell (i := 1) rfl
      have x2 := HX1.out.cell (i := 2) rfl
      have x3 := HX1.out.cell (i := 3) rfl
      have x4 := HX1.out.cell (i := 4) rfl
      have x5 := HX1.out.cell (i := 5) rfl
      have x6 := HX1.out.cell (i := 6) rfl
      clear hb1 HX HB0 HC
      go_wp2_with fail
      refine (HW.out _).mono ?_
      rintro e w2 ⟨rfl, hb2⟩
      have hb2' := bel_to HB1.out hb2
      clear hb2 HB1
      go_wp2
      go_ret2
      exact Ret.of rfl hb2'
  · rw [(bon_bad h).1, (bon_bad h).2]
    have hz := nz_bne h
    clear h HG HT HO HE HW
    generalize ((chkT t : Nat) : Int) = k at *
    obtain ⟨x, y, lo, hi, tol, mat, pin⟩ := t
    (try simp only at *)
    go_enter Tryz.func65, Tryz.ntmps65
    go_wp2_with fail
    refine (HC.out _).mono ?_
    rintro e w1 ⟨rfl, hb1⟩
    have hb1' := bel_to HB0.out hb1
    clear hb1 HX HB0 HC
    go_wp2
    go_ret2
    exact Ret.of rfl hb1'
theorem ballowed (t : Tg) (n : Int) (w : World) (hs : Sig w) : Calls Tryz.prog 30 #[tgV t, .int .i64 n] w (Ret w (.tuple #[.int .i64 (if bonC t n = 0 then t.tol + extr t n else 0), .int .i64 ((bonC t n : Nat) : Int)])) := by
  have HB0 := Lib.hid (bel_al w (tgO t))
  have HX := Lib.hid (rnw (w := w) (t := 27) (xs := tgC t))
  have HC := Lib.hid (bbonus t n (w.alloc (tgO t)) (hs.below (bel_al w (tgO t))))
  by_cases h : bonC t n = 0
  · rw [if_pos h]
    have h1 : chkT t = 0 := by
      refine Classical.byContradiction fun h2 => ?_
      rw [(bon_bad h2).1] at h; exact h2 h
    have h2 : wth t n = true := by
      cases hw : wth t n with
      | true => rfl
      | false => rw [(bon_out h1 hw).1] at h; cases h
    have hr := extr_rng ((chkT_iff t).1 h1) h2
    have htol := ((chkT_iff t).1 h1).tol
    have hw1 : wrap64 (t.tol + extr t n) = t.tol + extr t n := by unfold wrap64; omega
    rw [(bon_ok h1 h2).2, h] at HC
    rw [h]
    clear h h1 h2 hr htol hs
    generalize extr t n = E at *
    obtain ⟨x, y, lo, hi, tol, mat, pin⟩ := t
    (try simp only at *)
    go_enter Tryz.func30, Tryz.ntmps30
    go_wp2_with fail
    refine (HC.out).mono ?_
    rintro e w1 ⟨rfl, hb1⟩
    have x4 := (HX.out.below' hb1).cell (i := 4) rfl
    have hb1' := bel_to HB0.out hb1
    clear hb1 HX HB0 HC
    go_wp2
    go_ret2
    exact Ret.of (by show Value.tuple #[.int .i64 (wrap64 (tol + E)), .int .i64 0] = _; rw [hw1]; rfl) hb1'
  · rw [if_neg h]
    have hN : bonN t n = 0 := by unfold bonN; rw [if_neg h]
    have hz := nz_bne h
    rw [hN] at HC
    clear h hN hs
    generalize ((bonC t n : Nat) : Int) = k at *
    obtain ⟨x, y, lo, hi, tol, mat, pin⟩ := t
    (try simp only at *)
    go_enter Tryz.func30, Tryz.ntmps30
    go_wp2_with fail
    refine (HC.out).mono ?_
    rintro e w1 ⟨rfl, hb1⟩
    have hb1' := bel_to HB0.out hb1
    clear hb1 HX HB0 HC
    go_wp2
    go_ret2
    exact Ret.of rfl hb1'
end W
end Go.Proofs.YtellemlhhlafcaaGreatDoor
end
