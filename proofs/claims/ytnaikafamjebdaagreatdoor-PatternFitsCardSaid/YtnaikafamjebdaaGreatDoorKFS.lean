/-
  Chapter 46: the allowed tolerance and 'Zone' on both sides; 'Check' of the reference; 'Of' of layer 2.
  Chapter 46: arguments that are lists of targets, or of circles.
  Chapter 46: 'Zone' and 'Check' of the reference; 'Of' of layer 2.
  Chapter 46: plates with their tolerances ('plateOf').
-/
import Derived.Test.YtnaikafamjebdaaGreatDoorKFR
section
namespace Go.Proofs.YtnaikafamjebdaaGreatDoor
open Go Go.RowKit Go.Deep
abbrev tgC (t : M.Tg) : List Value := [.int .i64 t.x, .int .i64 t.y, .int .i64 t.lo, .int .i64 t.hi, .int .i64 t.tol, .int .i64 t.mat, .bool t.pin]
abbrev ccC (c : M.Cc) : List Value := [.int .i64 c.x, .int .i64 c.y, .int .i64 c.d]
def Bx (W : World) (b : Nat) (t : M.Tg) (c : M.Cc) : Prop := Row W b 82 (tgC t) ∧ Row W (b + 1) 84 (ccC c)
theorem Bx.below {W W' : World} {b : Nat} {t : M.Tg} {c : M.Cc} (h : Bx W b t c) (hb : Below W.heap.size W W') : Bx W' b t c := ⟨h.1.below' hb, h.2.below' hb⟩
theorem Bx.new (w : World) (t : M.Tg) (c : M.Cc) : Bx ((w.alloc (tgO t)).alloc (ccO c)) w.heap.size t c :=
  ⟨(rnw (w := w) (t := 82) (xs := tgC t)).alloc _, rnew0 (w := w.alloc (tgO t)) (b := w.heap.size + 1) (t := 84) (xs := ccC c) (World.size_alloc _ _).symm⟩
theorem bel_al2 (w : World) (o o2 : Obj) : Below w.heap.size w ((w.alloc o).alloc o2) := (bel_al w o).alloc (bel_al w o).size o2
theorem Bx.t {W : World} {b : Nat} {t : M.Tg} {c : M.Cc} (h : Bx W b t c) : W.cell? ⟨b, 0, none⟩ = some (.int .i64 t.x) ∧ W.cell? ⟨b, 1, none⟩ = some (.int .i64 t.y) ∧ W.cell? ⟨b, 2, none⟩ = some (.int .i64 t.lo) ∧ W.cell? ⟨b, 3, none⟩ = some (.int .i64 t.hi) ∧
    W.cell? ⟨b, 4, none⟩ = some (.int .i64 t.tol) ∧ W.cell? ⟨b, 5, none⟩ = some (.int .i64 t.mat) ∧ W.cell? ⟨b, 6, none⟩ = some (.bool t.pin) :=
  ⟨h.1.cell rfl, h.1.cell rfl, h.1.cell rfl, h.1.cell rfl, h.1.cell rfl, h.1.cell rfl, h.1.cell rfl⟩
theorem Bx.c {W : World} {b : Nat} {t : M.Tg} {c : M.Cc} (h : Bx W b t c) : W.cell? ⟨b + 1, 0, none⟩ = some (.int .i64 c.x) ∧ W.cell? ⟨b + 1, 1, none⟩ = some (.int .i64 c.y) ∧ W.cell? ⟨b + 1, 2, none⟩ = some (.int .i64 c.d) := ⟨h.2.cell rfl, h.2.cell rfl, h.2.cell rfl⟩
namespace M
def bothC (t : Tg) (c : Cc) : Nat := if chkT t ≠ 0 then chkT t else ringC c
def bonC (t : Tg) (n : Int) : Nat := if chkT t ≠ 0 then chkT t else if wth t n = true then 0 else 2
def bonN (t : Tg) (n : Int) : Int := if bonC t n = 0 then extr t n else 0
theorem bon_bad {t : Tg} {n : Int} (h : chkT t ≠ 0) : bonC t n = chkT t ∧ bonN t n = 0 := by
  have e : bonC t n = chkT t := by unfold bonC; rw [if_pos h]
  exact ⟨e, by unfold bonN; rw [e, if_neg h]⟩
theorem bon_out {t : Tg} {n : Int} (h : chkT t = 0) (hw : wth t n = false) : bonC t n = 2 ∧ bonN t n = 0 := by
  have e : bonC t n = 2 := by unfold bonC; rw [if_neg (fun h2 => h2 h), hw]; rfl
  exact ⟨e, by unfold bonN; rw [e]; rfl⟩
theorem bon_ok {t : Tg} {n : Int} (h : chkT t = 0) (hw : wth t n = true) : bonC t n = 0 ∧ bonN t n = extr t n := by
  have e : bonC t n = 0 := by unfold bonC; rw [if_neg (fun h2 => h2 h), hw]; rfl
  exact ⟨e, by unfold bonN; rw [e]; rfl⟩
theorem zone_bad1 {t : Tg} {c : Cc} (h : bothC t c ≠ 0) : zoneC t c = bothC t c ∧ zoneN t c = 0 := by
  have e : zoneC t c = bothC t c := by
    unfold zoneC bothC at *
    by_cases h1 : chkT t = 0
    · simp only [h1, ne_eq, not_true_eq_false, if_false] at *
      rw [if_pos h]
    · simp only [h1, ne_eq, not_false_eq_true, if_true]
  exact ⟨e, by unfold zoneN; rw [e, if_neg h]⟩
theorem both_zero {t : Tg} {c : Cc} (h : bothC t c = 0) : chkT t = 0 ∧ ringC c = 0 := by
  unfold bothC at h
  by_cases h1 : chkT t = 0
  · rw [if_neg (fun h2 => h2 h1)] at h
    exact ⟨h1, h⟩
  · rw [if_pos h1] at h; exact absurd h h1
theorem zone_out {t : Tg} {c : Cc} (h : bothC t c = 0) (hw : wth t c.d = false) : zoneC t c = 14 ∧ zoneN t c = 0 := by
  obtain ⟨h1, h2⟩ := both_zero h
  have e : zoneC t c = 14 := by
    unfold zoneC
    rw [if_neg (fun h3 => h3 h1), if_neg (fun h3 => h3 h2), hw]; rfl
  exact ⟨e, by unfold zoneN; rw [e]; rfl⟩
theorem zone_ok {t : Tg} {c : Cc} (h : bothC t c = 0) (hw : wth t c.d = true) : zoneC t c = 0 ∧ zoneN t c = wide t c := by
  obtain ⟨h1, h2⟩ := both_zero h
  have e : zoneC t c = 0 := by
    unfold zoneC
    rw [if_neg (fun h3 => h3 h1), if_neg (fun h3 => h3 h2), hw]; rfl
  exact ⟨e, by unfold zoneN; rw [e]; rfl⟩
theorem wth_rng {t : Tg} {n : Int} (h : RtT t) (hw : wth t n = true) : 1 ≤ n ∧ n ≤ 100000 := by
  unfold wth at hw
  simp only [Bool.and_eq_true, decide_eq_true_eq] at hw
  have := h.lo
  have := h.hi
  omega
theorem extr_rng {t : Tg} {n : Int} (h : RtT t) (hw : wth t n = true) : 0 ≤ extr t n ∧ extr t n ≤ 100000 := by
  unfold wth at hw
  simp only [Bool.and_eq_true, decide_eq_true_eq] at hw
  have := h.lo
  have := h.hi
  unfold extr
  split
  · omega
  · split <;> omega
end M
namespace W
open M
attribute [local go_sem] bs_size bs_toList bs_get bs_extract bs_append bs_lit0 bs_lit1 lit1_bs
set_option maxHeartbeats 1000000
set_option maxRecDepth 20000
theorem nz_bne {n : Nat} (h : n ≠ 0) : (((n : Nat) : Int) != 0) = true := by rw [bne_iff_ne]; omega
theorem bboth (t : Tg) (c : Cc) (w : World) : Calls Tryz.prog 132 #[tgV t, ccV c] w (Ret w (.int .i64 ((bothC t c : Nat) : Int))) := by
  have HB0 := Lib.hid (bel_al2 w (tgO t) (ccO c))
  have HX := Lib.hid (Bx.new w t c)
  have HC := Lib.hid (fun W => bcheck t W)
  have HR := Lib.hid (fun W => bring c W)
  unfold bothC
  obtain ⟨x, y, lo, hi, tol, mat, pin⟩ := t
  obtain ⟨x1, y1, d⟩ := c
  (try simp only at *)
  by_cases h : chkT ⟨x, y, lo, hi, tol, mat, pin⟩ = 0
  · rw [if_neg (by simpa using h)]
    rw [h] at HC
    clear h
    go_enter Tryz.func132, Tryz.ntmps132
    go_wp2_with fail
    refine (HC.out _).mono ?_
    rintro e w1 ⟨rfl, hb1⟩
    have HX1 := Lib.hid (HX.out.below hb1)
    obtain ⟨c0, c1, c2⟩ := HX1.out.c
    have HB1 := Lib.hid (bel_to HB0.out hb1)
    clear hb1 HX HX1 HB0 HC
    go_wp2_with fail
    refine (HR.out _).mono ?_
    rintro e w2 ⟨rfl, hb2⟩
    have hb2' := bel_to HB1.out hb2
    clear hb2 HB1
    go_wp2
    go_ret
    exact Ret.of rfl hb2'
  · rw [if_pos h]
    have hz := nz_bne h
    clear h
    generalize ((chkT ⟨x, y, lo, hi, tol, mat, pin⟩ : Nat) : Int) = k at *
    go_enter Tryz.func132, Tryz.ntmps132
    go_wp2_with fail
    refine (HC.out _).mono ?_
    rintro e w1 ⟨rfl, hb1⟩
    have hb1' := bel_to HB0.out hb1
    clear hb1 HX HB0 HC
    go_wp2
    go_ret
    exact Ret.of rfl hb1'
theorem bgap (t : Tg) (c : Cc) (w : World) : Calls Tryz.prog 133 #[tgV t, ccV c] w fun e w' => ∃ a b : Int, e = .returned (.tuple #[.int .i64 a, .int .i64 b]) ∧ Below w.heap.size w w' := by
  have HB0 := Lib.hid (bel_al2 w (tgO t) (ccO c))
  obtain ⟨c0, c1, c2⟩ := (Bx.new w t c).c
  obtain ⟨t0, t1, t2, t3, t4, t5, t6⟩ := (Bx.new w t c).t
  obtain ⟨x, y, lo, hi, tol, mat, pin⟩ := t
  obtain ⟨x1, y1, d⟩ := c
  (try simp only at *)
  go_enter Tryz.func133, Tryz.ntmps133
  go_wp2
  go_quiet (fail)
  go_wp2
  go_ret2
  exact ⟨_, _, rfl, Below.drewN HB0.out _⟩
theorem bdist (t : Tg) (c : Cc) (w : World) : Calls Tryz.prog 96 #[tgV t, ccV c] w fun e w' => ∃ n : Int, e = .returned (.tuple #[.int .i64 n, .int .i64 ((bothC t c : Nat) : Int)]) ∧ Below w.heap.size w w' := by
  have HB0 := Lib.hid (bel_al2 w (tgO t) (ccO c))
  have HX := Lib.hid (Bx.new w t c)
  have HC := Lib.hid (fun W => bboth t c W)
  have HG := Lib.hid (fun W => bgap t c W)
  obtain ⟨x, y, lo, hi, tol, mat, pin⟩ := t
  obtain ⟨x1, y1, d⟩ := c
  (try simp only at *)
  by_cases h : bothC ⟨x, y, lo, hi, tol, mat, pin⟩ ⟨x1, y1, d⟩ = 0
  · rw [h] at HC ⊢
    clear h
    go_enter Tryz.func96, Tryz.ntmps96
    go_wp2_with fail
    refine (HC.out _).mono ?_
    rintro e w1 ⟨rfl, hb1⟩
    have HX1 := Lib.hid (HX.out.below hb1)
    obtain ⟨c0, c1, c2⟩ := HX1.out.c
    obtain ⟨t0, t1, t2, t3, t4, t5, t6⟩ := HX1.out.t
    have HB1 := Lib.hid (bel_to HB0.out hb1)
    clear hb1 HX HX1 HB0 HC
    go_wp2_with fail
    refine (HG.out _).mono ?_
    rintro e w2 ⟨z1, z2, rfl, hb2⟩
    have hb2' := bel_to HB1.out hb2
    clear hb2 HB1 c0 c1 c2 t0 t1 t2 t3 t4 t5 t6
    go_wp2
    go_ret2
    exact ⟨_, rfl, hb2'⟩
  · have hz := nz_bne h
    clear h
    generalize ((bothC ⟨x, y, lo, hi, tol, mat, pin⟩ ⟨x1, y1, d⟩ : Nat) : Int) = k at *
    go_enter Tryz.func96, Tryz.ntmps96
    go_wp2_with fail
    refine (HC.out _).mono ?_
    rintro e w1 ⟨rfl, hb1⟩
    have hb1' := bel_to HB0.out hb1
    clear hb1 HX HB0 HC
    go_wp2
    go_ret2
    exact ⟨_, rfl, hb1'⟩
theorem bbonus (t : Tg) (n : Int) (w : World) (hs : Sig w) : Calls Tryz.prog 134 #[tgV t, .int .i64 n] w (Ret w (.tuple #[.int .i64 (bonN t n), .int .i64 ((bonC t n : Nat) : Int)])) := by
  have HB0 := Lib.hid (bel_al w (tgO t))
  have HX := Lib.hid (rnw (w := w) (t := 82) (xs := tgC t))
  have HC := Lib.hid (fun W => bcheck t W)
  have HW := Lib.hid (fun W => bwithin t n W)
  have HS := Lib.hid hs
  have HO := Lib.hid (fun W (hW : Sig W) (ht : RtT t) => bof t W hW ht.mat)
  have HE := Lib.hid (fun W (ht : RtT t) (hn : 1 ≤ n ∧ n ≤ 100000) => bextra t n W ht hn)
  have HT := Lib.hid (chkT_iff t)
  have HG := Lib.hid (fun ht hw => wth_rng (t := t) (n := n) ht hw)
  clear hs
  by_cases h : chkT t = 0
  · have ht := HT.out.1 h
    rw [h] at HC
    cases hw : wth t n with
    | true =>
      rw [hw] at HW
      rw [(bon_ok h hw).1, (bon_ok h hw).2]
      have hn := HG.out ht hw
      have HO2 := Lib.hid (fun W hW => HO.out W hW ht)
      have HE2 := Lib.hid (fun W => HE.out W ht hn)
      clear HG HT HO HE h ht hw hn
      obtain ⟨s, hs⟩ : ∃ s, s = sideT t := ⟨_, rfl⟩
      obtain ⟨E, hE⟩ : ∃ E, E = extr t n := ⟨_, rfl⟩
      rw [← hs] at HO2 HE2
      rw [← hE] at HE2 ⊢
      clear hs hE
      obtain ⟨x, y, lo, hi, tol, mat, pin⟩ := t
      (try simp only at *)
      go_enter Tryz.func134, Tryz.ntmps134
      go_wp2_with fail
      refine (HC.out _).mono ?_
      rintro e w1 ⟨rfl, hb1⟩
      have HX1 := Lib.hid (HX.out.below' hb1)
      have HB1 := Lib.hid (bel_to HB0.out hb1)
      have x0 := HX1.out.cell (i := 0) rfl
      have x1 := HX1.out.cell (i := 1) rfl
      have x2 := HX1.out.cell (i := 2) rfl
      have x3 := HX1.out.cell (i := 3) rfl
      have x4 := HX1.out.cell (i := 4) rfl
      have x5 := HX1.out.cell (i := 5) rfl
      have x6 := HX1.out.cell (i := 6) rfl
      clear hb1 HX HB0 HC
      go_wp2_with fail
      refine (HW.out _).mono ?_
      rintro e w2 ⟨rfl, hb2⟩
      have HX2 := Lib.hid (HX1.out.below' hb2)
      have HB2 := Lib.hid (bel_to HB1.out hb2)
      clear hb2 HX1 HB1 HW x0 x1 x2 x3 x4 x5 x6
      have x0 := HX2.out.cell (i := 0) rfl
      have x1 := HX2.out.cell (i := 1) rfl
      have x2 := HX2.out.cell (i := 2) rfl
      have x3 := HX2.out.cell (i := 3) rfl
      have x4 := HX2.out.cell (i := 4) rfl
      have x5 := HX2.out.cell (i := 5) rfl
      have x6 := HX2.out.cell (i := 6) rfl
      go_wp2_with fail
      refine (HO2.out _ (HS.out.below HB2.out)).mono ?_
      rintro e w3 ⟨rfl, hb3⟩
      have HB3 := Lib.hid (bel_to HB2.out hb3)
      clear hb3 HB2 HX2 x0 x1 x2 x3 x4 x5 x6
      go_wp2_with fail
      refine (HE2.out _).mono ?_
      rintro e w4 ⟨rfl, hb4⟩
      have hb4' := bel_to HB3.out hb4
      clear hb4 HB3
      go_wp2
      go_ret2
      exact Ret.of rfl hb4'
    | false =>
      rw [hw] at HW
      rw [(bon_out h hw).1, (bon_out h hw).2]
      clear HG HT HO HE h ht hw
      obtain ⟨x, y, lo, hi, tol, mat, pin⟩ := t
      (try simp only at *)
      go_enter Tryz.func134, Tryz.ntmps134
      go_wp2_with fail
      refine (HC.out _).mono ?_
      rintro e w1 ⟨rfl, hb1⟩
      have HX1 := Lib.hid (HX.out.below' hb1)
      have HB1 := Lib.hid (bel_to HB0.out hb1)
      have x0 := HX1.out.cell (i := 0) rfl
      have x1 := HX1.out.cell (i := 1) rfl
      have x2 := HX1.out.cell (i := 2) rfl
      have x3 := HX1.out.cell (i := 3) rfl
      have x4 := HX1.out.cell (i := 4) rfl
      have x5 := HX1.out.cell (i := 5) rfl
      have x6 := HX1.out.cell (i := 6) rfl
      clear hb1 HX HB0 HC
      go_wp2_with fail
      refine (HW.out _).mono ?_
      rintro e w2 ⟨rfl, hb2⟩
      have hb2' := bel_to HB1.out hb2
      clear hb2 HB1
      go_wp2
      go_ret2
      exact Ret.of rfl hb2'
  · rw [(bon_bad h).1, (bon_bad h).2]
    have hz := nz_bne h
    clear h HG HT HO HE HW
    generalize ((chkT t : Nat) : Int) = k at *
    obtain ⟨x, y, lo, hi, tol, mat, pin⟩ := t
    (try simp only at *)
    go_enter Tryz.func134, Tryz.ntmps134
    go_wp2_with fail
    refine (HC.out _).mono ?_
    rintro e w1 ⟨rfl, hb1⟩
    have hb1' := bel_to HB0.out hb1
    clear hb1 HX HB0 HC
    go_wp2
    go_ret2
    exact Ret.of rfl hb1'
theorem ballowed (t : Tg) (n : Int) (w : World) (hs : Sig w) : Calls Tryz.prog 97 #[tgV t, .int .i64 n] w (Ret w (.tuple #[.int .i64 (if bonC t n = 0 then t.tol + extr t n else 0), .int .i64 ((bonC t n : Nat) : Int)])) := by
  have HB0 := Lib.hid (bel_al w (tgO t))
  have HX := Lib.hid (rnw (w := w) (t := 82) (xs := tgC t))
  have HC := Lib.hid (bbonus t n (w.alloc (tgO t)) (hs.below (bel_al w (tgO t))))
  by_cases h : bonC t n = 0
  · rw [if_pos h]
    have h1 : chkT t = 0 := by
      refine Classical.byContradiction fun h2 => ?_
      rw [(bon_bad h2).1] at h; exact h2 h
    have h2 : wth t n = true := by
      cases hw : wth t n with
      | true => rfl
      | false => rw [(bon_out h1 hw).1] at h; cases h
    have hr := extr_rng ((chkT_iff t).1 h1) h2
    have htol := ((chkT_iff t).1 h1).tol
    have hw1 : wrap64 (t.tol + extr t n) = t.tol + extr t n := by unfold wrap64; omega
    rw [(bon_ok h1 h2).2, h] at HC
    rw [h]
    clear h h1 h2 hr htol hs
    generalize extr t n = E at *
    obtain ⟨x, y, lo, hi, tol, mat, pin⟩ := t
    (try simp only at *)
    go_enter Tryz.func97, Tryz.ntmps97
    go_wp2_with fail
    refine (HC.out).mono ?_
    rintro e w1 ⟨rfl, hb1⟩
    have x4 := (HX.out.below' hb1).cell (i := 4) rfl
    have hb1' := bel_to HB0.out hb1
    clear hb1 HX HB0 HC
    go_wp2
    go_ret2
    exact Ret.of (by show Value.tuple #[.int .i64 (wrap64 (tol + E)), .int .i64 0] = _; rw [hw1]; rfl) hb1'
  · rw [if_neg h]
    have hN : bonN t n = 0 := by unfold bonN; rw [if_neg h]
    have hz := nz_bne h
    rw [hN] at HC
    clear h hN hs
    generalize ((bonC t n : Nat) : Int) = k at *
    obtain ⟨x, y, lo, hi, tol, mat, pin⟩ := t
    (try simp only at *)
    go_enter Tryz.func97, Tryz.ntmps97
    go_wp2_with fail
    refine (HC.out).mono ?_
    rintro e w1 ⟨rfl, hb1⟩
    have hb1' := bel_to HB0.out hb1
    clear hb1 HX HB0 HC
    go_wp2
    go_ret2
    exact Ret.of rfl hb1'
theorem pzone (t : Tg) (c : Cc) (w : World) (hs : Sig w) : Calls Tryz.prog 53 #[tgV t, ccV c] w (Ret w (.tuple #[.int .i64 (zoneN t c), .int .i64 ((zoneC t c : Nat) : Int)])) := by
  have HB0 := Lib.hid (bel_al2 w (tgO t) (ccO c))
  have HX := Lib.hid (Bx.new w t c)
  have HC := Lib.hid (fun W => bdist t c W)
  have HA := Lib.hid (fun W (hW : Below w.heap.size w W) => ballowed t c.d W (hs.below hW))
  clear hs
  by_cases h : bothC t c = 0
  · rw [h] at HC
    have h1 := (both_zero h).1
    obtain ⟨ZN, hZN⟩ : ∃ ZN, ZN = zoneN t c := ⟨_, rfl⟩
    obtain ⟨ZC, hZC⟩ : ∃ ZC, ZC = ((zoneC t c : Nat) : Int) := ⟨_, rfl⟩
    rw [← hZN, ← hZC]
    obtain ⟨AN, hAN⟩ : ∃ AN, AN = (if bonC t c.d = 0 then t.tol + extr t c.d else 0) := ⟨_, rfl⟩
    obtain ⟨AC, hAC⟩ : ∃ AC, AC = ((bonC t c.d : Nat) : Int) := ⟨_, rfl⟩
    rw [← hAN, ← hAC] at HA
    have hcase : (AC = 2 ∧ ZC = 14 ∧ ZN = 0) ∨ (AC = 0 ∧ ZC = 0 ∧ ZN = AN) := by
      cases hw : wth t c.d with
      | true =>
        right
        rw [hAC, hZC, hZN, hAN, (bon_ok h1 hw).1, (zone_ok h hw).1, (zone_ok h hw).2]
        exact ⟨rfl, rfl, rfl⟩
      | false =>
        left
        rw [hAC, hZC, hZN, (bon_out h1 hw).1, (zone_out h hw).1, (zone_out h hw).2]
        exact ⟨rfl, rfl, rfl⟩
    clear h h1 hZN hZC hAN hAC
    obtain ⟨x, y, lo, hi, tol, mat, pin⟩ := t
    obtain ⟨x1, y1, d⟩ := c
    (try simp only at *)
    go_enter Tryz.func53, Tryz.ntmps53
    go_wp2_with fail
    refine (HC.out _).mono ?_
    rintro e w1 ⟨nd, rfl, hb1⟩
    have HX1 := Lib.hid (HX.out.below hb1)
    obtain ⟨c0, c1, c2⟩ := HX1.out.c
    obtain ⟨t0, t1, t2, t3, t4, t5, t6⟩ := HX1.out.t
    have HB1 := Lib.hid (bel_to HB0.out hb1)
    clear hb1 HX HX1 HB0 HC
    go_wp2_with fail
    refine (HA.out _ HB1.out).mono ?_
    rintro e w2 ⟨rfl, hb2⟩
    have hb2' := bel_to HB1.out hb2
    clear hb2 HB1 HA t0 t1 t2 t3 t4 t5 t6 c0 c1 c2
    rcases hcase with ⟨rfl, rfl, rfl⟩ | ⟨rfl, rfl, rfl⟩ <;>
    · go_wp2
      go_ret2
      exact Ret.of rfl hb2'
  · rw [(zone_bad1 h).1, (zone_bad1 h).2]
    have hz := nz_bne h
    clear h
    generalize ((bothC t c : Nat) : Int) = k at *
    obtain ⟨x, y, lo, hi, tol, mat, pin⟩ := t
    obtain ⟨x1, y1, d⟩ := c
    (try simp only at *)
    go_enter Tryz.func53, Tryz.ntmps53
    go_wp2_with fail
    refine (HC.out _).mono ?_
    rintro e w1 ⟨nd, rfl, hb1⟩
    have hb1' := bel_to HB0.out hb1
    clear hb1 HX HB0 HC
    go_wp2
    go_ret2
    exact Ret.of rfl hb1'
end W
end Go.Proofs.YtnaikafamjebdaaGreatDoor
end
section
namespace Go.Proofs.YtnaikafamjebdaaGreatDoor
open Go Go.RowKit Go.ChangeShapes Go.WideShapes Go.ChangeAt Go.Deep
namespace Fin
set_option maxRecDepth 20000
section
variable {H : Type} {enc : TypeId × Value → H} {W : World}
theorem list3 {α : Type} {cs : List α} (h : cs.length = 3) : ∃ c0 c1 c2, cs = [c0, c1, c2] := by
  match cs, h with
  | [c0, c1, c2], _ => exact ⟨c0, c1, c2, rfl⟩
theorem list7 {α : Type} {cs : List α} (h : cs.length = 7) : ∃ c0 c1 c2 c3 c4 c5 c6, cs = [c0, c1, c2, c3, c4, c5, c6] := by
  match cs, h with
  | [c0, c1, c2, c3, c4, c5, c6], _ => exact ⟨c0, c1, c2, c3, c4, c5, c6, rfl⟩
theorem elt_cc {n : Nat} {cs : List Value} {x : DataW H × List MemPlace} (h : DataW.trod enc Tryz.prog W 0 (fun _ => true) true n 84 cs = some x) : ∃ c : M.Cc, cs = ccC c := by
  obtain ⟨xs, k, _, rfl, hlen, hxl, hf⟩ := DataW.trod_struct Tryz.underlying84 h
  rw [cellsCc] at hlen
  obtain ⟨c0, c1, c2, rfl⟩ := list3 hlen
  obtain ⟨y0, y1, n, _, _, h0, h1⟩ := trod_struct2 Tryz.underlying84 h
  rw [cellsPt] at h0
  rw [cellsInt] at h1
  have e0 : DataW.trod enc Tryz.prog W 0 (fun _ => true) true n 65 [c0, c1] = some y0 := h0
  have e1 : DataW.trod enc Tryz.prog W 0 (fun _ => true) true n 3 [c2] = some y1 := h1
  obtain ⟨a, b, rfl, rfl⟩ := cell_pt e0
  obtain ⟨c, rfl⟩ := cell_int e1
  exact ⟨⟨a, b, c⟩, rfl⟩
theorem elt_tg {n : Nat} {cs : List Value} {x : DataW H × List MemPlace} (h : DataW.trod enc Tryz.prog W 0 (fun _ => true) true n 82 cs = some x) : ∃ t : M.Tg, cs = tgC t := by
  obtain ⟨xs, k, _, rfl, hlen, hxl, hf⟩ := DataW.trod_struct Tryz.underlying82 h
  rw [cellsTg] at hlen
  obtain ⟨c0, c1, c2, c3, c4, c5, c6, rfl⟩ := list7 hlen
  obtain ⟨_, _, _, _, _, n, h0, h1, h2, h3, h4⟩ := trod_struct5 Tryz.underlying82 h
  rw [cellsPt] at h0
  rw [cellsLim] at h1
  rw [cellsInt] at h2 h3
  rw [cellsBool] at h4
  obtain ⟨y0, g0⟩ : ∃ y, DataW.trod enc Tryz.prog W 0 (fun _ => true) true n 65 [c0, c1] = some y := ⟨_, h0⟩
  obtain ⟨y1, g1⟩ : ∃ y, DataW.trod enc Tryz.prog W 0 (fun _ => true) true n 80 [c2, c3] = some y := ⟨_, h1⟩
  obtain ⟨y2, g2⟩ : ∃ y, DataW.trod enc Tryz.prog W 0 (fun _ => true) true n 3 [c4] = some y := ⟨_, h2⟩
  obtain ⟨y3, g3⟩ : ∃ y, DataW.trod enc Tryz.prog W 0 (fun _ => true) true n 3 [c5] = some y := ⟨_, h3⟩
  obtain ⟨y4, g4⟩ : ∃ y, DataW.trod enc Tryz.prog W 0 (fun _ => true) true n 4 [c6] = some y := ⟨_, h4⟩
  obtain ⟨a, b, rfl, rfl⟩ := cell_pt g0
  obtain ⟨lo, hi, rfl, rfl⟩ := cell_lim g1
  obtain ⟨tol, rfl⟩ := cell_int g2
  obtain ⟨mat, rfl⟩ := cell_int g3
  obtain ⟨pin, rfl⟩ := cell_bool g4
  exact ⟨⟨a, b, lo, hi, tol, mat, pin⟩, rfl⟩
theorem open_rows {α : Type} {t e : TypeId} {k : Nat} (C : α → List Value) (x0 : α) (hC : ∀ x, (C x).length = k) (hk : 0 < k) (ht : Tryz.prog.underlying t = some (.slice e)) (hce : Tryz.prog.cellsOf e = k)
    (hel : ∀ (n : Nat) (cs : List Value) (x : DataW H × List MemPlace), DataW.trod enc Tryz.prog W 0 (fun _ => true) true n e cs = some x → ∃ c : α, cs = C c)
    {v : Value} {d : DataW H} {p : List MemPlace} (hv : ∃ a len cap, v = .slice a len cap) (h : DataW.Trod enc Tryz.prog W 0 (fun _ => true) true t v d p) :
    (∃ l : List α, l.length ≤ maxLen ∧ (v = .slice none 0 0 ∧ l = [] ∨ ∃ b o cap, v = .slice (some ⟨b, o, none⟩) l.length cap ∧ l.length ≤ cap ∧ b < W.heap.size ∧ ∀ i (hi : i < l.length) j (u : Value), (C l[i])[j]? = some u → W.cell? ⟨b, o + i * k + j, none⟩ = some u ∨ l = [])) ∨
      ∃ l : List α, l = [] ∧ ∃ a cap, v = .slice a 0 cap := by
  obtain ⟨fuel, hf⟩ := h
  obtain ⟨a0, len0, cap0, rfl⟩ := hv
  have hf' : DataW.trod enc Tryz.prog W 0 (fun _ => true) true fuel t [.slice a0 len0 cap0] = some (d, p) := hf
  rcases open_slice ht hf' with ⟨hcs, _⟩ | ⟨a, len, cap, m, n, D, Pl, hcs, _, hl, hm, hmm, _, hi⟩
  · simp at hcs
    obtain ⟨rfl, rfl, rfl⟩ := hcs
    exact Or.inl ⟨[], Nat.zero_le _, Or.inl ⟨rfl, rfl⟩⟩
  · simp at hcs
    obtain ⟨rfl, rfl, rfl⟩ := hcs
    simp only [if_true] at hmm
    subst hmm
    clear hf hf'
    rw [hce] at hi
    by_cases h0 : len0 = 0
    · subst h0
      exact Or.inr ⟨[], rfl, _, _, rfl⟩
    refine Or.inl ?_
    have hel2 : ∀ i, ∃ c : α, i < len0 → ∀ j (u : Value), (C c)[j]? = some u → W.cell? ((a.add (i * k)).add j) = some u := by
      intro i
      by_cases hil : i < len0
      · obtain ⟨cs', hc, hte⟩ := hi i (by omega)
        obtain ⟨c, rfl⟩ := hel _ _ _ hte
        obtain ⟨_, _, hat⟩ := World.cells?_some hc
        refine ⟨c, fun _ j u hu => ?_⟩
        have hj : j < k := by rw [← hC c]; exact (List.getElem?_eq_some_iff.1 hu).1
        rw [hat j hj]
        exact hu
      · exact ⟨x0, fun h => absurd h hil⟩
    obtain ⟨f, hf⟩ := Classical.skolem.1 hel2
    have hlt : ∃ u, W.cell? ((a.add (0 * k)).add 0) = some u := by
      have : 0 < (C (f 0)).length := by rw [hC]; exact hk
      exact ⟨_, hf 0 (by omega) 0 _ (List.getElem?_eq_getElem this)⟩
    obtain ⟨u0, hu0⟩ := hlt
    obtain ⟨b, off, spot⟩ := a
    have hspot : spot = none := by simpa [Addr.add] using World.cell?_spot hu0
    subst hspot
    have hadd : ∀ j, (⟨b, off, none⟩ : Addr).add j = ⟨b, off + j, none⟩ := by
      intro j; unfold Addr.add; split <;> simp_all
    have hadd2 : ∀ i j, ((⟨b, off, none⟩ : Addr).add i).add j = ⟨b, off + i + j, none⟩ := by
      intro i j; rw [hadd]; unfold Addr.add; split <;> simp_all
    refine ⟨(List.range len0).map f, by simp; omega, Or.inr ⟨b, off, m, by simp, by simpa using hl, ?_, fun i hil j u hu => Or.inl ?_⟩⟩
    · rw [hadd2] at hu0
      exact cell_lt1 hu0
    · have hil' : i < len0 := by simpa using hil
      rw [List.getElem_map, List.getElem_range] at hu
      have := hf i hil' j u hu
      rwa [hadd2] at this
theorem open_gl {v : Value} {d : DataW H} {p : List MemPlace} (hv : ∃ a len cap, v = .slice a len cap) (h : DataW.Trod enc Tryz.prog W 0 (fun _ => true) true 22 v d p) :
    ∃ l : List M.Tg, RdG W v l ∧ l.length ≤ maxLen ∧ ∃ A cap, v = .slice A l.length cap ∧ l.length ≤ cap := by
  rcases open_rows (k := 7) tgC ⟨0, 0, 0, 0, 0, 0, false⟩ (fun _ => rfl) (by decide) Tryz.underlying22 cellsTg (fun _ _ _ => elt_tg) hv h with ⟨l, hl, ⟨rfl, rfl⟩ | ⟨b, o, cap, rfl, hlc, hlt, hc⟩⟩ | ⟨l, rfl, a, cap, rfl⟩
  · exact ⟨[], ⟨_, _, rfl, Or.inl rfl⟩, Nat.zero_le _, _, _, rfl, Nat.zero_le _⟩
  · refine ⟨l, ⟨_, _, rfl, ?_⟩, hl, _, _, rfl, hlc⟩
    by_cases h0 : l = []
    · exact Or.inl h0
    · refine Or.inr ⟨b, o, rfl, hlt, fun i hi => ?_⟩
      have hh := fun j u e => (hc i hi j u e).resolve_right h0
      exact ⟨hh 0 _ rfl, hh 1 _ rfl, hh 2 _ rfl, hh 3 _ rfl, hh 4 _ rfl, hh 5 _ rfl, hh 6 _ rfl⟩
  · exact ⟨[], ⟨_, _, rfl, Or.inl rfl⟩, Nat.zero_le _, _, _, rfl, Nat.zero_le _⟩
theorem open_cl {v : Value} {d : DataW H} {p : List MemPlace} (hv : ∃ a len cap, v = .slice a len cap) (h : DataW.Trod enc Tryz.prog W 0 (fun _ => true) true 23 v d p) :
    ∃ l : List M.Cc, RdC W v l ∧ l.length ≤ maxLen ∧ ∃ A cap, v = .slice A l.length cap ∧ l.length ≤ cap := by
  rcases open_rows (k := 3) ccC ⟨0, 0, 0⟩ (fun _ => rfl) (by decide) Tryz.underlying23 cellsCc (fun _ _ _ => elt_cc) hv h with ⟨l, hl, ⟨rfl, rfl⟩ | ⟨b, o, cap, rfl, hlc, hlt, hc⟩⟩ | ⟨l, rfl, a, cap, rfl⟩
  · exact ⟨[], ⟨_, _, rfl, Or.inl rfl⟩, Nat.zero_le _, _, _, rfl, Nat.zero_le _⟩
  · refine ⟨l, ⟨_, _, rfl, ?_⟩, hl, _, _, rfl, hlc⟩
    by_cases h0 : l = []
    · exact Or.inl h0
    · refine Or.inr ⟨b, o, rfl, hlt, fun i hi => ?_⟩
      have hh := fun j u e => (hc i hi j u e).resolve_right h0
      exact ⟨hh 0 _ rfl, hh 1 _ rfl, hh 2 _ rfl⟩
  · exact ⟨[], ⟨_, _, rfl, Or.inl rfl⟩, Nat.zero_le _, _, _, rfl, Nat.zero_le _⟩
end
end Fin
end Go.Proofs.YtnaikafamjebdaaGreatDoor
end
section
namespace Go.Proofs.YtnaikafamjebdaaGreatDoor
open Go Go.RowKit Go.Deep
namespace M
theorem wths_drop (ts : List Tg) (cs : List Cc) (i : Nat) (h : i < ts.length) (h2 : i < cs.length) : wths (ts.drop i) (cs.drop i) = if wth ts[i] cs[i].d = true then wths (ts.drop (i + 1)) (cs.drop (i + 1)) else 14 := by
  rw [List.drop_eq_getElem_cons h, List.drop_eq_getElem_cons h2, wths]
end M
namespace W
open M
attribute [local go_sem] bs_size bs_toList bs_get bs_extract bs_append bs_lit0 bs_lit1 lit1_bs
set_option maxHeartbeats 1000000
set_option maxRecDepth 20000
theorem rwide46 (t : Tg) (c : Cc) (w : World) (ht : RtT t) (hw : wth t c.d = true) : Calls Tryz.prog 68 #[tgV t, ccV c] w (Ret w (.int .i64 (wide t c))) := by
  have HB0 := Lib.hid (bel_al2 w (tgO t) (ccO c))
  have HX := Lib.hid (Bx.new w t c)
  have hn := wth_rng ht hw
  have hr := extr_rng ht hw
  have htol := ht.tol
  have k1 := reg_of (w := (w.alloc (tgO t)).alloc (ccO c)) (fun W _ => rextra44 t c.d W ht hn)
  have hw1 : wrap64 (t.tol + extr t c.d) = t.tol + extr t c.d := by unfold wrap64; omega
  have hw3 : IntKind.i64.wrap (t.tol + extr t c.d) = t.tol + extr t c.d := IntWalk.i64_in _ (by omega)
  have hE : wide t c = t.tol + extr t c.d := rfl
  rw [hE]
  clear hE hn hr htol ht hw
  generalize extr t c.d = E at *
  obtain ⟨x, y, lo, hi, tol, mat, pin⟩ := t
  obtain ⟨x1, y1, d⟩ := c
  (try simp only at *)
  go_enter Tryz.func68, Tryz.ntmps68
  go_wp2_with fail
  obtain ⟨c0, c1, c2⟩ := HX.out.c
  obtain ⟨t0, t1, t2, t3, t4, t5, t6⟩ := HX.out.t
  have m0 := cell_regrown t0
  have m1 := cell_regrown t1
  have m2 := cell_regrown t2
  have m3 := cell_regrown t3
  have m4 := cell_regrown t4
  have m5 := cell_regrown t5
  have m6 := cell_regrown t6
  have m7 := cell_regrown c2
  have e1 : ∀ args w, (callFunc 111 args).run Tryz.prog w = .ok (.enter 111 args) w := enters_of Tryz.func111 (by kernel_rfl) rfl
  clear HX c0 c1 c2 t0 t1 t2 t3 t4 t5 t6
  generalize (w.alloc (tgO ⟨x, y, lo, hi, tol, mat, pin⟩)).alloc (ccO ⟨x1, y1, d⟩) = wr at *
  refine wp_region_quiet_below (by kernel_rfl) (by kernel_rfl) ?_
  repeat (go_big_quiet_step (fail))
  go_big_quiet_step (exact k1 _ _)
  repeat (go_big_quiet_step (fail))
  refine wpQuiet_nil ?_
  intro W6 hw'
  have hb6 : Below wr.heap.size wr W6 := by obtain ⟨p, e⟩ := hw'; rw [e]; exact below_regrown wr p.d p.os
  clear hw'
  have HB6 := Lib.hid (bel_to HB0.out hb6)
  go_wp2
  go_ret
  exact Ret.of rfl HB6.out
theorem rcheck46 (vt vc : Value) (ts : List Tg) (cs : List Cc) (w : World) (ht : RdG w vt ts) (hc : RdC w vc cs) (nt : ts.length ≤ maxLen) (nc : cs.length ≤ maxLen) :
    Calls Tryz.prog 9 #[vt, vc] w (Ret w (.int .i64 ((chk46 ts cs : Nat) : Int))) := by
  have HP := Lib.hid (rplate44 vt vc ts cs w ht hc nt nc)
  unfold maxLen at nt nc
  obtain ⟨At, ct, rfl⟩ := ht.len
  obtain ⟨Ac, cc, rfl⟩ := hc.len
  by_cases h : chkPl ts cs = 0
  · have hp := chkPl_iff.1 h
    rw [h] at HP
    by_cases h0 : ts.length = 0
    · have hk : chk46 ts cs = 13 := by unfold chk46; rw [if_neg (fun h2 => h2 h), if_pos h0]
      rw [hk]
      have hz : (((ts.length : Nat) : Int) == 0) = true := by rw [h0]; rfl
      clear hp h hk ht hc h0
      go_enter Tryz.func9, Tryz.ntmps9
      go_wp2_with fail
      refine (HP.out).mono ?_
      rintro e w1 ⟨rfl, hb1⟩
      go_wp2
      go_ret
      exact Ret.of rfl hb1
    · have hk : chk46 ts cs = wths ts cs := by unfold chk46; rw [if_neg (fun h2 => h2 h), if_neg h0]
      rw [hk]
      have hz : (((ts.length : Nat) : Int) == 0) = false := by rw [beq_eq_false_iff_ne]; omega
      have HT := Lib.hid ht
      have HC := Lib.hid hc
      have hlen := hp.2.1
      have HL := Lib.hid (show ∀ i : Nat, i < ts.length → i < cs.length from fun i hi => by omega)
      have hts : ts.length ≤ 16 := hp.1
      generalize hch : ((wths ts cs : Nat) : Int) = ch
      have HCH := Lib.hid hch
      clear hp h hk ht hc h0 hlen hch
      go_enter Tryz.func9, Tryz.ntmps9
      go_wp2_with fail
      refine (HP.out).mono ?_
      rintro e w1 ⟨rfl, hb1⟩
      have HB1 := Lib.hid hb1
      clear hb1 HP
      go_wp2
      go_loopw [6] (fun iv wr => ∃ i : Nat, iv = .int .i64 (i : Int) ∧ i ≤ ts.length ∧ Hid (wths ts cs = wths (ts.drop i) (cs.drop i)) ∧ Hid (Below w.heap.size w wr)) (fun iv _ => ts.length - (intOf iv).toNat)
      case atStart => exact ⟨0, rfl, by omega, Lib.hid (by rw [List.drop_zero, List.drop_zero]), HB1⟩
      case round =>
        clear HB1
        obtain ⟨i, rfl, hi, hk, hbw⟩ := hrel
        by_cases hlt : i < ts.length
        · have hlc := HL.out i hlt
          obtain ⟨b1, o1, rfl, hw⟩ := HT.out.row i hlt
          obtain ⟨b2, o2, rfl, hv⟩ := HC.out.row i hlc
          obtain ⟨c0, c1, c2, c3, c4, c5, c6⟩ := (hw.below' hbw.out).val i hlt
          obtain ⟨d0, d1, d2⟩ := (hv.below' hbw.out).val i hlc
          have hk2 := hk.out
          rw [wths_drop ts cs i hlt hlc] at hk2
          have hi0 : (0 : Int) ≤ (i : Int) := by omega
          have hit : (i : Int) < (ts.length : Int) := by omega
          have hic : (i : Int) < (cs.length : Int) := by omega
          clear hk hw hv
          generalize ts[i] = x at *
          generalize cs[i] = z at *
          have HN := Lib.hid (fun W => rinside44 x z.d W)
          have m0 := cell_regrown c0
          have m1 := cell_regrown c1
          have m2 := cell_regrown c2
          have m3 := cell_regrown c3
          have m4 := cell_regrown c4
          have m5 := cell_regrown c5
          have m6 := cell_regrown c6
          have m7 := cell_regrown d2
          have e1 : ∀ args w, (callFunc 31 args).run Tryz.prog w = .ok (.enter 31 args) w := enters_of Tryz.func31 (by kernel_rfl) rfl
          clear c0 c1 c2 c3 c4 c5 c6 d0 d1 d2
          cases hwt : wth x z.d with
          | true =>
            rw [hwt, if_pos rfl] at hk2
            rw [hwt] at HN
            have HK := Lib.hid hk2
            have k1 := reg_of (w := wr) (fun W _ => HN.out W)
            clear hk2 hwt HN
            go_wp2_with fail
            refine wp_region_quiet_below (by kernel_rfl) (by kernel_rfl) ?_
            repeat (go_big_quiet_step (fail))
            go_big_quiet_step (exact k1 _ _)
            repeat (go_big_quiet_step (fail))
            refine wpQuiet_nil ?_
            intro W6 hw'
            have hb6 : Below wr.heap.size wr W6 := by obtain ⟨p, e⟩ := hw'; rw [e]; exact below_regrown wr p.d p.os
            clear hw'
            have HB6 := Lib.hid (bel_to hbw.out hb6)
            clear hb6 k1 m0 m1 m2 m3 m4 m5 m6 m7 e1
            go_wp2
            go_roundw
            case rel => exact ⟨i + 1, by go_num, by omega, HK, HB6⟩
            case measure => simp [intOf]; omega
          | false =>
            rw [hwt] at hk2 HN
            have HK := Lib.hid (show ch = 14 by rw [← HCH.out, hk2]; rfl)
            have k1 := reg_of (w := wr) (fun W _ => HN.out W)
            clear hk2 hwt HN
            go_wp2_with fail
            refine wp_region_quiet_below (by kernel_rfl) (by kernel_rfl) ?_
            repeat (go_big_quiet_step (fail))
            go_big_quiet_step (exact k1 _ _)
            repeat (go_big_quiet_step (fail))
            refine wpQuiet_nil ?_
            intro W6 hw'
            have hb6 : Below wr.heap.size wr W6 := by obtain ⟨p, e⟩ := hw'; rw [e]; exact below_regrown wr p.d p.os
            clear hw'
            have HB6 := Lib.hid (bel_to hbw.out hb6)
            clear hb6 k1 m0 m1 m2 m3 m4 m5 m6 m7 e1
            go_wp2
            go_ret
            exact Ret.of (by rw [HK.out]; rfl) HB6.out
        · obtain rfl : i = ts.length := by omega
          have hk2 := hk.out
          rw [List.drop_length] at hk2
          have HK := Lib.hid (show ch = 0 by rw [← HCH.out, hk2]; simp [wths])
          clear hk hk2
          go_wp2
          go_ret
          exact Ret.of (by rw [HK.out]; rfl) hbw.out
  · have hk : chk46 ts cs = chkPl ts cs := by unfold chk46; rw [if_pos h]
    rw [hk]
    have hz := nz_bne h
    clear h hk ht hc
    generalize ((chkPl ts cs : Nat) : Int) = k at *
    go_enter Tryz.func9, Tryz.ntmps9
    go_wp2_with fail
    refine (HP.out).mono ?_
    rintro e w1 ⟨rfl, hb1⟩
    go_wp2
    go_ret
    exact Ret.of rfl hb1
theorem ratOf (n d : Int) (w : World) (hg : Glob w) (hn : n.natAbs < 10 ^ 18) (hd : d.natAbs < 10 ^ 18) (h0 : d ≠ 0) :
    Calls Tryz.prog 153 #[.int .i64 n, .int .i64 d] w (Ret w (.tuple #[.string (bs (R (Rat.divInt n d))), .int .i64 0])) := by
  have e : (10 : Nat) ^ 18 = 1000000000000000000 := by decide
  have HN := Lib.hid (fun wx hgx => vof_any n wx hgx (by omega) (by omega))
  have HD := Lib.hid (fun wx hgx => vof_any d wx hgx (by omega) (by omega))
  have HL := Lib.hid (fun wx hgx => ratMake n d wx hgx (ok_pow hn (by omega)) (ok_pow hd (by omega)) h0)
  have HG := Lib.hid hg
  clear hn hd h0 e hg
  go_enter Tryz.func153, Tryz.ntmps153
  go_wp2_with fail
  refine (HN.out _ HG.out).mono ?_
  rintro e w1 ⟨rfl, hb1⟩
  go_wp2_with fail
  refine (HD.out _ (HG.out.of hb1)).mono ?_
  rintro e w2 ⟨rfl, hb2⟩
  have hb2 := bel_to hb1 hb2
  go_wp2_with fail
  refine (HL.out _ (HG.out.of hb2)).mono ?_
  rintro e w3 ⟨rfl, hb3⟩
  have hb3 := bel_to hb2 hb3
  clear hb1 hb2
  go_wp2
  go_ret2
  exact Ret.of rfl hb3
end W
end Go.Proofs.YtnaikafamjebdaaGreatDoor
end
section
namespace Go.Proofs.YtnaikafamjebdaaGreatDoor
open Go Go.RowKit Go.Deep
abbrev IntC (l : List Int) : List Value := l.map fun z => .int .i64 z
def RdI (w : World) (v : Value) (l : List Int) : Prop := ∃ A cap, v = .slice A l.length cap ∧ (l = [] ∨ ∃ b o, A = some ⟨b, o, none⟩ ∧ b < w.heap.size ∧ ∀ i (h : i < l.length), w.cell? ⟨b, o + i, none⟩ = some (.int .i64 l[i]))
theorem RdI.below {w w' : World} {v : Value} {l : List Int} (h : RdI w v l) (hb : Below w.heap.size w w') : RdI w' v l := by
  obtain ⟨A, cap, e, h2⟩ := h
  refine ⟨A, cap, e, ?_⟩
  rcases h2 with h2 | ⟨b, o, e2, h3, h4⟩
  · exact Or.inl h2
  · exact Or.inr ⟨b, o, e2, Nat.lt_of_lt_of_le h3 hb.size, fun i hi => (hb.cell (by exact h3)).trans (h4 i hi)⟩
theorem RdI.len {w : World} {v : Value} {l : List Int} (h : RdI w v l) : ∃ A cap, v = .slice A l.length cap := by
  obtain ⟨A, cap, e, _⟩ := h; exact ⟨A, cap, e⟩
theorem RdI.row {w : World} {A : Option Addr} {n cap : Nat} {l : List Int} (h : RdI w (.slice A n cap) l) (i : Nat) (hi : i < l.length) : ∃ b o, A = some ⟨b, o, none⟩ ∧ b < w.heap.size ∧ ∀ i (h : i < l.length), w.cell? ⟨b, o + i, none⟩ = some (.int .i64 l[i]) := by
  obtain ⟨A', cap', e, h2⟩ := h
  injection e with e
  subst e
  exact h2.resolve_left (fun e => by rw [e] at hi; cases hi)
def OwnI (w : World) (B : Nat) (v : Value) (l : List Int) : Prop := w.ownsRow B 3 1 v l.length (IntC l)
theorem OwnI.rd {w : World} {B : Nat} {v : Value} {l : List Int} (h : OwnI w B v l) : RdI w v l := by
  obtain ⟨h1, h2⟩ := h
  rcases h2 with ⟨hv, hn⟩ | ⟨g, cap, cur, hv, hB, hh, hn, hm, hs, ht⟩
  · exact ⟨none, 0, by rw [hv, hn], Or.inl (List.length_eq_zero_iff.1 hn)⟩
  · refine ⟨_, _, hv, Or.inr ⟨g, 0, rfl, lt_of_block hh, fun i hi => ?_⟩⟩
    have e : (IntC l)[i]? = some (.int .i64 l[i]) := by simp [IntC, hi]
    rw [← ht, List.getElem?_take] at e
    split at e
    · simp [World.cell?, hh]; simpa using e
    · cases e
theorem OwnI.below {w w' : World} {B : Nat} {v : Value} {l : List Int} (h : OwnI w B v l) (hb : Below w.heap.size w w') : OwnI w' B v l :=
  World.ownsRow.kept (row := none) h ⟨hb.os, hb.tape, hb.output, hb.size, fun k hk _ => hb.block k hk⟩ (Classical.em _)
namespace M
def zoneNs (ts : List Tg) (cs : List Cc) : List Int := (ts.zip cs).map fun p => wide p.1 p.2
theorem zoneNs_len {ts : List Tg} {cs : List Cc} (h : cs.length = ts.length) : (zoneNs ts cs).length = ts.length := by simp [zoneNs, h]
theorem zoneNs_take {ts : List Tg} {cs : List Cc} (h : cs.length = ts.length) {i : Nat} (hi : i < ts.length) (hc : i < cs.length) : (zoneNs ts cs).take (i + 1) = (zoneNs ts cs).take i ++ [wide ts[i] cs[i]] := by
  have hl := zoneNs_len h
  rw [List.take_add_one, List.getElem?_eq_getElem (by omega)]
  simp [zoneNs]
end M
structure PlS (w0 w : World) (bp : Nat) (va vt vc : Value) (al : List Int) : Prop where
  row : Row w bp 72 [va, vt, vc]
  own : OwnI w (bp + 1) va al
  bel : Below w0.heap.size w0 w
  lo : w0.heap.size ≤ bp
theorem PlS.to {w0 w w' : World} {bp : Nat} {va vt vc : Value} {al : List Int} (h : PlS w0 w bp va vt vc al) (hb : Below w.heap.size w w') : PlS w0 w' bp va vt vc al :=
  ⟨h.row.below' hb, h.own.below hb, bel_to h.bel hb, h.lo⟩
theorem grown_set (w : World) (p : Addr) (v : Value) : w.grownBy (w.setCell p v) (some p.block) :=
  ⟨rfl, rfl, rfl, by simp [World.setCell], fun k _ hne => by
    have : k ≠ p.block := fun e => hne (by rw [e])
    simp only [World.setCell, Array.getElem?_modify]
    rw [if_neg (fun e => this e.symm)]⟩
theorem PlS.app {w0 w w' : World} {bp : Nat} {va va' vt vc : Value} {al : List Int} {z : Int} (h : PlS w0 w bp va vt vc al) (ho : w'.ownsRow (bp + 1) 3 1 va' (al.length + 1) (IntC al ++ [.int .i64 z]))
    (hg : (w.alloc (.cells #[.int .i64 z] 3 (0, 0))).grownBy w' va.ownBlock) : PlS w0 (w'.setCell ⟨bp, 0, none⟩ va') bp va' vt vc (al ++ [z]) ∧ Row w' bp 72 [va, vt, vc] := by
  have hne : ∀ k, va.ownBlock = some k → bp + 1 ≤ k := fun k hk => (World.ownsRow.lt h.own k hk).1
  have hbp : bp < w.heap.size := h.row.lt
  have hr : Row w' bp 72 [va, vt, vc] := by
    have h1 : Row (w.alloc (.cells #[.int .i64 z] 3 (0, 0))) bp 72 [va, vt, vc] := h.row.alloc _
    unfold Row at h1 ⊢
    rw [hg.block bp (by rw [World.size_alloc]; omega) (fun e => by have := hne bp e.symm; omega)]
    exact h1
  refine ⟨⟨by simpa using hr.set 0 va', ?_, ?_, h.lo⟩, hr⟩
  · have h1 : OwnI w' (bp + 1) va' (al ++ [z]) := by
      unfold OwnI
      rw [List.length_append, show IntC (al ++ [z]) = IntC al ++ [.int .i64 z] by simp [IntC]]
      exact ho
    refine World.ownsRow.kept h1 (grown_set w' ⟨bp, 0, none⟩ va') ?_
    rcases hv : va'.ownBlock with _ | k
    · exact Or.inl rfl
    · refine Or.inr fun e => ?_
      injection e with e
      have := (World.ownsRow.lt h1 k hv).1
      simp only at e
      omega
  · have hlo := h.lo
    refine Below.setCell ?_ (show w0.heap.size ≤ bp from hlo) _
    exact (h.bel.alloc h.bel.size _).grown hg (by rw [World.size_alloc]; have := h.bel.size; omega) fun k hk => by have := hne k hk; omega
def PlBad (k : Int) (w : World) (e : Ending) (w' : World) : Prop := e = .returned (.tuple #[.agg #[.slice none 0 0, .slice none 0 0, .slice none 0 0], .int .i64 k]) ∧ Below w.heap.size w w'
def PlOk (al : List Int) (vt vc : Value) (w : World) (e : Ending) (w' : World) : Prop := ∃ va, e = .returned (.tuple #[.agg #[va, vt, vc], .int .i64 0]) ∧ RdI w' va al ∧ Below w.heap.size w w'
theorem row_grownP {w w' : World} {g : Nat} {t : TypeId} {xs : List Value} {row : Option Nat} {bp : Nat} (h : Row w g t xs) (hg : w.grownBy w' row) (hr : ∀ k, row = some k → bp + 1 ≤ k) (hl : g < bp) : Row w' g t xs := by
  have h1 := h.lt
  unfold Row at h ⊢
  rw [hg.block g h1 (fun e => by have := hr g e.symm; omega)]
  exact h
theorem row_other {w : World} {g : Nat} {t : TypeId} {xs : List Value} (h : Row w g t xs) {p : Addr} (hp : g ≠ p.block) (v : Value) : Row (w.setCell p v) g t xs := by
  unfold Row at h ⊢
  rw [(grown_set w p v).block g (Array.getElem?_eq_some_iff.1 h).1 (fun e => by injection e with e; exact hp e)]
  exact h
theorem plate_store {w0 w : World} {A : Nat} {x0 y0 z0 : Value} (x y z : Value) (hr : Row w A 72 [x0, y0, z0]) (hA : w0.heap.size ≤ A) (hb : Below w0.heap.size w0 w) :
    Row (((w.setCell ⟨A, 0, none⟩ x).setCell ⟨A, 1, none⟩ y).setCell ⟨A, 2, none⟩ z) A 72 [x, y, z] ∧ Below w0.heap.size w0 (((w.setCell ⟨A, 0, none⟩ x).setCell ⟨A, 1, none⟩ y).setCell ⟨A, 2, none⟩ z) :=
  ⟨((hr.set 0 x).set 1 y).set 2 z, ((hb.setCell (p := ⟨A, 0, none⟩) hA x).setCell (p := ⟨A, 1, none⟩) hA y).setCell (p := ⟨A, 2, none⟩) hA z⟩
end Go.Proofs.YtnaikafamjebdaaGreatDoor
end
