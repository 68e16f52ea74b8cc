/-
  Chapter 46: the reference's checks of plates; the bonus, the allowed tolerance and 'Zone' on both sides.
  Chapter 46: the allowed tolerance and 'Zone' on both sides; 'Check' of the reference; 'Of' of layer 2.
-/
import Derived.Test.YtellemlhhlafcaaGreatDoorMI
import Derived.Test.YtellemlhhlafcaaGreatDoorMN
import Derived.Test.YtellemlhhlafcaaGreatDoorMJ
import Derived.Sort.BigQuietIn
import Derived.Deep.QuietTactic
import Derived.BigQuiet
section
namespace Go.Proofs.YtellemlhhlafcaaGreatDoor
open Go Go.RowKit Go.Deep
def Sig (w : World) : Prop := w.cell? ⟨0, 0, none⟩ = some (.int .i64 (-1)) ∧ w.cell? ⟨0, 1, none⟩ = some (.int .i64 (-1)) ∧ w.cell? ⟨0, 2, none⟩ = some (.int .i64 1) ∧
  w.cell? ⟨0, 3, none⟩ = some (.int .i64 1) ∧ w.cell? ⟨0, 4, none⟩ = some (.int .i64 1) ∧ w.cell? ⟨0, 5, none⟩ = some (.int .i64 (-1))
theorem Sig.below {w w' : World} (h : Sig w) (hb : Below w.heap.size w w') : Sig w' := by
  have hc : ∀ o v, w.cell? ⟨0, o, none⟩ = some v → w'.cell? ⟨0, o, none⟩ = some v := fun o v e => (hb.cell (block_lt_of_cell e)).trans e
  obtain ⟨h0, h1, h2, h3, h4, h5⟩ := h
  exact ⟨hc _ _ h0, hc _ _ h1, hc _ _ h2, hc _ _ h3, hc _ _ h4, hc _ _ h5⟩
namespace M
def sideT (t : Tg) : Int := if t.pin = true then (if t.mat = 2 then -1 else 1) else (if t.mat = 2 then 1 else -1)
end M
abbrev cdV (t : M.Tg) (s : Int) : Value := .agg #[.int .i64 t.x, .int .i64 t.y, .int .i64 t.lo, .int .i64 t.hi, .int .i64 t.tol, .int .i64 t.mat, .bool t.pin, .int .i64 s]
namespace W
open M
attribute [local go_sem] bs_size bs_toList bs_get bs_extract bs_append bs_lit0 bs_lit1 lit1_bs
set_option maxHeartbeats 1000000
set_option maxRecDepth 20000
theorem bof (t : Tg) (w : World) (hs : Sig w) (hm : t.mat = 0 ∨ t.mat = 1 ∨ t.mat = 2) : Calls Tryz.prog 87 #[tgV t] w (Ret w (cdV t (sideT t))) := by
  have hb1 : Below w.heap.size w ((w.alloc (tgO t)).alloc (.cells #[.int .i64 0, .int .i64 0, .int .i64 0, .int .i64 0, .int .i64 0, .int .i64 0, .bool false, .int .i64 0] 177 (0, 0))) := (bel_al w _).alloc (bel_al w _).size _
  have HB := Lib.hid (fun o : Obj => RowKit.Below.drew ((bel_al w (tgO t)).alloc (bel_al w (tgO t)).size o))
  obtain ⟨s0, s1, s2, s3, s4, s5⟩ := hs.below hb1
  clear hb1 hs
  unfold sideT
  obtain ⟨x, y, lo, hi, tol, mat, pin⟩ := t
  simp only at *
  rcases hm with rfl | rfl | rfl
  · cases pin
    · go_enter Tryz.func87, Tryz.ntmps87
      go_wp2
      go_region
      go_wp2
      refine bodyPost_ret (v := cdV ⟨x, y, lo, hi, tol, 0, false⟩ (-1)) (by simp [results, Tryz.results87, go_sem]) rfl ⟨rfl, HB.out _⟩
    · go_enter Tryz.func87, Tryz.ntmps87
      go_wp2
      go_region
      go_wp2
      refine bodyPost_ret (v := cdV ⟨x, y, lo, hi, tol, 0, true⟩ 1) (by simp [results, Tryz.results87, go_sem]) rfl ⟨rfl, HB.out _⟩
  · cases pin
    · go_enter Tryz.func87, Tryz.ntmps87
      go_wp2
      go_region
      go_wp2
      refine bodyPost_ret (v := cdV ⟨x, y, lo, hi, tol, 1, false⟩ (-1)) (by simp [results, Tryz.results87, go_sem]) rfl ⟨rfl, HB.out _⟩
    · go_enter Tryz.func87, Tryz.ntmps87
      go_wp2
      go_region
      go_wp2
      refine bodyPost_ret (v := cdV ⟨x, y, lo, hi, tol, 1, true⟩ 1) (by simp [results, Tryz.results87, go_sem]) rfl ⟨rfl, HB.out _⟩
  · cases pin
    · go_enter Tryz.func87, Tryz.ntmps87
      go_wp2
      go_region
      go_wp2
      refine bodyPost_ret (v := cdV ⟨x, y, lo, hi, tol, 2, false⟩ 1) (by simp [results, Tryz.results87, go_sem]) rfl ⟨rfl, HB.out _⟩
    · go_enter Tryz.func87, Tryz.ntmps87
      go_wp2
      go_region
      go_wp2
      refine bodyPost_ret (v := cdV ⟨x, y, lo, hi, tol, 2, true⟩ (-1)) (by simp [results, Tryz.results87, go_sem]) rfl ⟨rfl, HB.out _⟩
theorem bend (t : Tg) (s z : Int) (w : World) : Calls Tryz.prog 88 #[cdV t s, .int .i64 z] w (Ret w (.int .i64 (if z < 0 then t.lo else t.hi))) := by
  have hb := bel_al w (.cells #[.int .i64 t.x, .int .i64 t.y, .int .i64 t.lo, .int .i64 t.hi, .int .i64 t.tol, .int .i64 t.mat, .bool t.pin, .int .i64 s] 177 (0, 0))
  obtain ⟨x, y, lo, hi, tol, mat, pin⟩ := t
  simp only at *
  by_cases h : z < 0
  · rw [if_pos h]
    go_enter Tryz.func88, Tryz.ntmps88
    go_wp2
    go_ret
    exact Ret.of rfl hb
  · rw [if_neg h]
    go_enter Tryz.func88, Tryz.ntmps88
    go_wp2
    go_ret
    exact Ret.of rfl hb
end W
end Go.Proofs.YtellemlhhlafcaaGreatDoor
end
section
namespace Go.Proofs.YtellemlhhlafcaaGreatDoor
open Go Go.RowKit Go.Deep
abbrev tgC (t : M.Tg) : List Value := [.int .i64 t.x, .int .i64 t.y, .int .i64 t.lo, .int .i64 t.hi, .int .i64 t.tol, .int .i64 t.mat, .bool t.pin]
abbrev ccC (c : M.Cc) : List Value := [.int .i64 c.x, .int .i64 c.y, .int .i64 c.d]
def Bx (W : World) (b : Nat) (t : M.Tg) (c : M.Cc) : Prop := Row W b 27 (tgC t) ∧ Row W (b + 1) 30 (ccC c)
theorem Bx.below {W W' : World} {b : Nat} {t : M.Tg} {c : M.Cc} (h : Bx W b t c) (hb : Below W.heap.size W W') : Bx W' b t c := ⟨h.1.below' hb, h.2.below' hb⟩
theorem Bx.new (w : World) (t : M.Tg) (c : M.Cc) : Bx ((w.alloc (tgO t)).alloc (ccO c)) w.heap.size t c :=
  ⟨(rnw (w := w) (t := 27) (xs := tgC t)).alloc _, rnew0 (w := w.alloc (tgO t)) (b := w.heap.size + 1) (t := 30) (xs := ccC c) (World.size_alloc _ _).symm⟩
theorem bel_al2 (w : World) (o o2 : Obj) : Below w.heap.size w ((w.alloc o).alloc o2) := (bel_al w o).alloc (bel_al w o).size o2
theorem Bx.t {W : World} {b : Nat} {t : M.Tg} {c : M.Cc} (h : Bx W b t c) : W.cell? ⟨b, 0, none⟩ = some (.int .i64 t.x) ∧ W.cell? ⟨b, 1, none⟩ = some (.int .i64 t.y) ∧ W.cell? ⟨b, 2, none⟩ = some (.int .i64 t.lo) ∧ W.cell? ⟨b, 3, none⟩ = some (.int .i64 t.hi) ∧
    W.cell? ⟨b, 4, none⟩ = some (.int .i64 t.tol) ∧ W.cell? ⟨b, 5, none⟩ = some (.int .i64 t.mat) ∧ W.cell? ⟨b, 6, none⟩ = some (.bool t.pin) :=
  ⟨h.1.cell rfl, h.1.cell rfl, h.1.cell rfl, h.1.cell rfl, h.1.cell rfl, h.1.cell rfl, h.1.cell rfl⟩
theorem Bx.c {W : World} {b : Nat} {t : M.Tg} {c : M.Cc} (h : Bx W b t c) : W.cell? ⟨b + 1, 0, none⟩ = some (.int .i64 c.x) ∧ W.cell? ⟨b + 1, 1, none⟩ = some (.int .i64 c.y) ∧ W.cell? ⟨b + 1, 2, none⟩ = some (.int .i64 c.d) := ⟨h.2.cell rfl, h.2.cell rfl, h.2.cell rfl⟩
namespace M
def bothC (t : Tg) (c : Cc) : Nat := if chkT t ≠ 0 then chkT t else ringC c
end M
namespace W
open M
attribute [local go_sem] bs_size bs_toList bs_get bs_extract bs_append bs_lit0 bs_lit1 lit1_bs
set_option maxHeartbeats 1000000
set_option maxRecDepth 20000
theorem nz_bne {n : Nat} (h : n ≠ 0) : (((n : Nat) : Int) != 0) = true := by rw [bne_iff_ne]; omega
theorem bboth (t : Tg) (c : Cc) (w : World) : Calls Tryz.prog 63 #[tgV t, ccV c] w (Ret w (.int .i64 ((bothC t c : Nat) : Int))) := by
  have HB0 := Lib.hid (bel_al2 w (tgO t) (ccO c))
  have HX := Lib.hid (Bx.new w t c)
  have HC := Lib.hid (fun W => bcheck t W)
  have HR := Lib.hid (fun W => bring c W)
  unfold bothC
  obtain ⟨x, y, lo, hi, tol, mat, pin⟩ := t
  obtain ⟨x1, y1, d⟩ := c
  (try simp only at *)
  by_cases h : chkT ⟨x, y, lo, hi, tol, mat, pin⟩ = 0
  · rw [if_neg (by simpa using h)]
    rw [h] at HC
    clear h
    go_enter Tryz.func63, Tryz.ntmps63
    go_wp2_with fail
    refine (HC.out _).mono ?_
    rintro e w1 ⟨rfl, hb1⟩
    have HX1 := Lib.hid (HX.out.below hb1)
    obtain ⟨c0, c1, c2⟩ := HX1.out.c
    have HB1 := Lib.hid (bel_to HB0.out hb1)
    clear hb1 HX HX1 HB0 HC
    go_wp2_with fail
    refine (HR.out _).mono ?_
    rintro e w2 ⟨rfl, hb2⟩
    have hb2' := bel_to HB1.out hb2
    clear hb2 HB1
    go_wp2
    go_ret
    exact Ret.of rfl hb2'
  · rw [if_pos h]
    have hz := nz_bne h
    clear h
    generalize ((chkT ⟨x, y, lo, hi, tol, mat, pin⟩ : Nat) : Int) = k at *
    go_enter Tryz.func63, Tryz.ntmps63
    go_wp2_with fail
    refine (HC.out _).mono ?_
    rintro e w1 ⟨rfl, hb1⟩
    have hb1' := bel_to HB0.out hb1
    clear hb1 HX HB0 HC
    go_wp2
    go_ret
    exact Ret.of rfl hb1'
end W
end Go.Proofs.YtellemlhhlafcaaGreatDoor
end
