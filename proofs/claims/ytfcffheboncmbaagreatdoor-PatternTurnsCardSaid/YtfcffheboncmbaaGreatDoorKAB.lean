/-
  Chapter 46: slices.Reverse of targets and of circles. (Printed by wip/revs.py.)
-/
import Derived.Test.YtfcffheboncmbaaGreatDoorKAA
import Derived.RegionTactic
import Derived.ChangeAlike
import Derived.BigRegion
import Derived.OwnWalk
section
namespace Go.Proofs.YtfcffheboncmbaaGreatDoor
open Go Go.RowKit Go.Deep
/-- After k exchanges of a reversal. -/
def RevN {α : Type} (l m : List α) (k : Nat) : Prop := m.length = l.length ∧ ∀ i (h : i < m.length) (h2 : l.length - 1 - i < l.length) (h3 : i < l.length), m[i] = if i < k ∨ l.length - 1 - i < k then l[l.length - 1 - i] else l[i]
theorem RevN.start {α : Type} (l : List α) : RevN l l 0 := ⟨rfl, fun i h h2 h3 => by rw [if_neg (by omega)]⟩
theorem RevN.done {α : Type} {l m : List α} {k : Nat} (h : RevN l m k) (hk : l.length ≤ 2 * k + 1) : m = l.reverse := by
  obtain ⟨h1, h2⟩ := h
  apply List.ext_getElem (by simp [h1])
  intro i hi hi2
  rw [h2 i hi (by omega) (by omega), List.getElem_reverse]
  by_cases hc : i < k ∨ l.length - 1 - i < k
  · rw [if_pos hc]
  · rw [if_neg hc]; congr 1; omega
theorem RevN.step {α : Type} {l m : List α} {k : Nat} (h : RevN l m k) (hk : 2 * k + 1 < l.length) (ha : k < m.length) (hb : l.length - 1 - k < m.length) :
    RevN l ((m.set k m[l.length - 1 - k]).set (l.length - 1 - k) m[k]) (k + 1) := by
  obtain ⟨h1, h2⟩ := h
  refine ⟨by simp [h1], fun i hi hj hl => ?_⟩
  have ea := h2 k ha (by omega) (by omega)
  have eb := h2 (l.length - 1 - k) hb (by omega) (by omega)
  rw [if_neg (by omega)] at ea eb
  by_cases e1 : i = l.length - 1 - k
  · subst e1
    rw [List.getElem_set_self, if_pos (by omega), ea]
    congr 1; omega
  · rw [List.getElem_set_ne (by omega)]
    by_cases e2 : i = k
    · subst e2
      rw [List.getElem_set_self, if_pos (by omega), eb]
    · rw [List.getElem_set_ne (by omega), h2 i (by simpa using hi) hj hl]
      by_cases hc : i < k ∨ l.length - 1 - i < k
      · rw [if_pos hc, if_pos (by omega)]
      · rw [if_neg hc, if_neg (by omega)]
theorem grown_drew {w w' : World} {r : Option Nat} (h : w.grownBy w' r) : w.grownBy w'.drew r := ⟨h.os, h.tape, h.output, h.size, h.block⟩
theorem grown_trans2 {w w1 w2 : World} {g : Nat} (h : w.grownBy w1 (some g)) (h2 : w1.grownBy w2 (some g)) : w.grownBy w2 (some g) :=
  ⟨h2.os.trans h.os, h2.tape.trans h.tape, h2.output.trans h.output, Nat.le_trans h.size h2.size, fun k hk hne => (h2.block k (Nat.lt_of_lt_of_le hk h.size) hne).trans (h.block k hk hne)⟩
theorem csC_set (l : List M.Cc) (i : Nat) (h : i < l.length) (x : M.Cc) : ((((csC l).set (i * 3) (.int .i64 x.x)).set (i * 3 + 1) (.int .i64 x.y)).set (i * 3 + 2) (.int .i64 x.d)) = csC (l.set i x) := by
  induction l generalizing i with
  | nil => cases h
  | cons y t ih =>
    rcases i with _ | j
    · rfl
    · have hj : j < t.length := by simpa using h
      have e1 : csC (y :: t) = (.int .i64 y.x : Value) :: (.int .i64 y.y : Value) :: (.int .i64 y.d : Value) :: csC t := rfl
      have e2 : csC ((y :: t).set (j + 1) x) = (.int .i64 y.x : Value) :: (.int .i64 y.y : Value) :: (.int .i64 y.d : Value) :: csC (t.set j x) := rfl
      rw [e1, e2, ← ih j hj]
      rw [show (j + 1) * 3 + 2 = (j * 3 + 2) + 1 + 1 + 1 by omega]
      rw [show (j + 1) * 3 + 1 = (j * 3 + 1) + 1 + 1 + 1 by omega]
      rw [show (j + 1) * 3 = j * 3 + 1 + 1 + 1 by omega]
      simp only [List.set_cons_succ]
namespace W
open M
attribute [local go_sem] bs_size bs_toList bs_get bs_extract bs_append bs_lit0 bs_lit1 lit1_bs
set_option maxHeartbeats 4000000
set_option maxRecDepth 20000
theorem revOwnC (g cap B : Nat) (l : List M.Cc) (w : World) (h : OwnC w B (.slice (some ⟨g, 0, none⟩) l.length cap) l) (hl : l.length ≤ 100000) (hn : l ≠ []) :
    Calls Tryz.prog 32 #[.slice (some ⟨g, 0, none⟩) l.length cap] w (fun e w' => e = .returned (.tuple #[]) ∧ OwnC w' B (.slice (some ⟨g, 0, none⟩) l.length cap) l.reverse ∧ w.grownBy w' (some g)) := by
  have HH := Lib.hid h
  have hpos := List.length_pos_iff.2 hn
  clear h hn
  have hwr : IntKind.i64.wrap ((l.length : Int) - 1) = (l.length : Int) - 1 := IntWalk.i64_in _ (by omega)
  go_enter Tryz.func32, Tryz.ntmps32
  go_wp2
  go_loopw [2, 3] (fun iv jv wr => ∃ (k j : Nat) (m : List M.Cc), iv = .int .i64 (k : Int) ∧ jv = .int .i64 (j : Int) ∧ j + k + 1 = l.length ∧ Hid (RevN l m k) ∧ Hid (OwnC wr B (.slice (some ⟨g, 0, none⟩) l.length cap) m) ∧ Hid (w.grownBy wr (some g))) (fun iv _ _ => l.length - (intOf iv).toNat)
  case atStart => exact ⟨0, l.length - 1, l, rfl, by congr 1; omega, by omega, Lib.hid (RevN.start l), HH, Lib.hid (grown_same _ _)⟩
  case round =>
    clear HH
    obtain ⟨k, j, m, rfl, rfl, hjk, hr, ho, hkp⟩ := hrel
    by_cases hlt : k < j
    · have hml := hr.out.1
      have hkm : k < m.length := by omega
      have hjm : j < m.length := by omega
      have hrd := ho.out
      unfold OwnC at hrd
      rw [hml] at hrd
      have a0 := hrd.cellAt (k * 3) (by omega)
      rw [(csC_get m k hkm).1] at a0
      have fa0 := hrd.frozenAt (k * 3)
      have a1 := hrd.cellAt (k * 3 + 1) (by omega)
      rw [(csC_get m k hkm).2.1] at a1
      have fa1 := hrd.frozenAt (k * 3 + 1)
      have a2 := hrd.cellAt (k * 3 + 2) (by omega)
      rw [(csC_get m k hkm).2.2] at a2
      have fa2 := hrd.frozenAt (k * 3 + 2)
      have b0 := hrd.cellAt (j * 3) (by omega)
      rw [(csC_get m j hjm).1] at b0
      have fb0 := hrd.frozenAt (j * 3)
      have b1 := hrd.cellAt (j * 3 + 1) (by omega)
      rw [(csC_get m j hjm).2.1] at b1
      have fb1 := hrd.frozenAt (j * 3 + 1)
      have b2 := hrd.cellAt (j * 3 + 2) (by omega)
      rw [(csC_get m j hjm).2.2] at b2
      have fb2 := hrd.frozenAt (j * 3 + 2)
      have hi0 : (0 : Int) ≤ (k : Int) := by omega
      have hi1 : (k : Int) < (l.length : Int) := by omega
      have hj0 : (0 : Int) ≤ (j : Int) := by omega
      have hj1 : (j : Int) < (l.length : Int) := by omega
      have hst := ((((((hrd.stored (k * 3) (.int .i64 m[j].x)).1.stored (k * 3 + 1) (.int .i64 m[j].y)).1.stored (k * 3 + 2) (.int .i64 m[j].d)).1.stored (j * 3) (.int .i64 m[k].x)).1.stored (j * 3 + 1) (.int .i64 m[k].y)).1.stored (j * 3 + 2) (.int .i64 m[k].d)).1
      rw [csC_set m k hkm m[j], csC_set (m.set k m[j]) j (by simpa using hjm) m[k]] at hst
      have hst2 : OwnC (((((((wr.setCell ⟨g, k * 3, none⟩ (.int .i64 m[j].x)).setCell ⟨g, k * 3 + 1, none⟩ (.int .i64 m[j].y)).setCell ⟨g, k * 3 + 2, none⟩ (.int .i64 m[j].d)).setCell ⟨g, j * 3, none⟩ (.int .i64 m[k].x)).setCell ⟨g, j * 3 + 1, none⟩ (.int .i64 m[k].y)).setCell ⟨g, j * 3 + 2, none⟩ (.int .i64 m[k].d))).drew B (.slice (some ⟨g, 0, none⟩) l.length cap) ((m.set k m[j]).set j m[k]) := by
        unfold OwnC
        rw [List.length_set, List.length_set, hml]
        exact World.ownsRow.drew hst
      have gz := hkp.out
      replace gz := grown_trans2 gz (hrd.stored (k * 3) (.int .i64 m[j].x)).2
      replace gz := grown_trans2 gz ((hrd.stored (k * 3) (.int .i64 m[j].x)).1.stored (k * 3 + 1) (.int .i64 m[j].y)).2
      replace gz := grown_trans2 gz (((hrd.stored (k * 3) (.int .i64 m[j].x)).1.stored (k * 3 + 1) (.int .i64 m[j].y)).1.stored (k * 3 + 2) (.int .i64 m[j].d)).2
      replace gz := grown_trans2 gz ((((hrd.stored (k * 3) (.int .i64 m[j].x)).1.stored (k * 3 + 1) (.int .i64 m[j].y)).1.stored (k * 3 + 2) (.int .i64 m[j].d)).1.stored (j * 3) (.int .i64 m[k].x)).2
      replace gz := grown_trans2 gz (((((hrd.stored (k * 3) (.int .i64 m[j].x)).1.stored (k * 3 + 1) (.int .i64 m[j].y)).1.stored (k * 3 + 2) (.int .i64 m[j].d)).1.stored (j * 3) (.int .i64 m[k].x)).1.stored (j * 3 + 1) (.int .i64 m[k].y)).2
      replace gz := grown_trans2 gz ((((((hrd.stored (k * 3) (.int .i64 m[j].x)).1.stored (k * 3 + 1) (.int .i64 m[j].y)).1.stored (k * 3 + 2) (.int .i64 m[j].d)).1.stored (j * 3) (.int .i64 m[k].x)).1.stored (j * 3 + 1) (.int .i64 m[k].y)).1.stored (j * 3 + 2) (.int .i64 m[k].d)).2
      have hkp2 : w.grownBy (((((((wr.setCell ⟨g, k * 3, none⟩ (.int .i64 m[j].x)).setCell ⟨g, k * 3 + 1, none⟩ (.int .i64 m[j].y)).setCell ⟨g, k * 3 + 2, none⟩ (.int .i64 m[j].d)).setCell ⟨g, j * 3, none⟩ (.int .i64 m[k].x)).setCell ⟨g, j * 3 + 1, none⟩ (.int .i64 m[k].y)).setCell ⟨g, j * 3 + 2, none⟩ (.int .i64 m[k].d))).drew (some g) := grown_drew gz
      have hr2 := hr.out.step (by omega) hkm (by omega)
      have ej : l.length - 1 - k = j := by omega
      have hr3 : Hid (RevN l ((m.set k m[j]).set j m[k]) (k + 1)) := Lib.hid (by
        simp only [ej] at hr2
        exact hr2)
      have HST := Lib.hid hst2
      have HKP := Lib.hid hkp2
      generalize hm2 : (m.set k m[j]).set j m[k] = m2 at *
      clear hrd hst hr2 hst2 hkp2 hr hm2 ej ho hkp
      have hjc : ((j : Int) - 1) = ((j - 1 : Nat) : Int) := by omega
      have HJC := Lib.hid hjc
      have hwj : IntKind.i64.wrap ((j : Int) - 1) = (j : Int) - 1 := IntWalk.i64_in _ (by omega)
      clear hjc
      generalize m[k] = mk at *
      generalize m[j] = mj at *
      go_wp2
      go_region
      generalize (((((((wr.setCell ⟨g, k * 3, none⟩ (.int .i64 mj.x)).setCell ⟨g, k * 3 + 1, none⟩ (.int .i64 mj.y)).setCell ⟨g, k * 3 + 2, none⟩ (.int .i64 mj.d)).setCell ⟨g, j * 3, none⟩ (.int .i64 mk.x)).setCell ⟨g, j * 3 + 1, none⟩ (.int .i64 mk.y)).setCell ⟨g, j * 3 + 2, none⟩ (.int .i64 mk.d))).drew = w2 at *
      clear a0 fa0 a1 fa1 a2 fa2 b0 fb0 b1 fb1 b2 fb2
      go_wp2
      go_roundw
      case rel => exact ⟨k + 1, j - 1, m2, by go_num, by rw [HJC.out], by omega, hr3, HST, HKP⟩
      case measure => simp [intOf]; omega
    · have hm := hr.out.done (by omega)
      have HM := Lib.hid hm
      clear hr hm
      go_wp2
      go_end0
      exact ⟨rfl, by rw [← HM.out]; exact ho.out, hkp.out⟩
end W
theorem csG_set (l : List M.Tg) (i : Nat) (h : i < l.length) (x : M.Tg) : ((((((((csG l).set (i * 7) (.int .i64 x.x)).set (i * 7 + 1) (.int .i64 x.y)).set (i * 7 + 2) (.int .i64 x.lo)).set (i * 7 + 3) (.int .i64 x.hi)).set (i * 7 + 4) (.int .i64 x.tol)).set (i * 7 + 5) (.int .i64 x.mat)).set (i * 7 + 6) (.bool x.pin)) = csG (l.set i x) := by
  induction l generalizing i with
  | nil => cases h
  | cons y t ih =>
    rcases i with _ | j
    · rfl
    · have hj : j < t.length := by simpa using h
      have e1 : csG (y :: t) = (.int .i64 y.x : Value) :: (.int .i64 y.y : Value) :: (.int .i64 y.lo : Value) :: (.int .i64 y.hi : Value) :: (.int .i64 y.tol : Value) :: (.int .i64 y.mat : Value) :: (.bool y.pin : Value) :: csG t := rfl
      have e2 : csG ((y :: t).set (j + 1) x) = (.int .i64 y.x : Value) :: (.int .i64 y.y : Value) :: (.int .i64 y.lo : Value) :: (.int .i64 y.hi : Value) :: (.int .i64 y.tol : Value) :: (.int .i64 y.mat : Value) :: (.bool y.pin : Value) :: csG (t.set j x) := rfl
      rw [e1, e2, ← ih j hj]
      rw [show (j + 1) * 7 + 6 = (j * 7 + 6) + 1 + 1 + 1 + 1 + 1 + 1 + 1 by omega]
      rw [show (j + 1) * 7 + 5 = (j * 7 + 5) + 1 + 1 + 1 + 1 + 1 + 1 + 1 by omega]
      rw [show (j + 1) * 7 + 4 = (j * 7 + 4) + 1 + 1 + 1 + 1 + 1 + 1 + 1 by omega]
      rw [show (j + 1) * 7 + 3 = (j * 7 + 3) + 1 + 1 + 1 + 1 + 1 + 1 + 1 by omega]
      rw [show (j + 1) * 7 + 2 = (j * 7 + 2) + 1 + 1 + 1 + 1 + 1 + 1 + 1 by omega]
      rw [show (j + 1) * 7 + 1 = (j * 7 + 1) + 1 + 1 + 1 + 1 + 1 + 1 + 1 by omega]
      rw [show (j + 1) * 7 = j * 7 + 1 + 1 + 1 + 1 + 1 + 1 + 1 by omega]
      simp only [List.set_cons_succ]
namespace W
open M
attribute [local go_sem] bs_size bs_toList bs_get bs_extract bs_append bs_lit0 bs_lit1 lit1_bs
set_option maxHeartbeats 4000000
set_option maxRecDepth 20000
theorem revOwnG (g cap B : Nat) (l : List M.Tg) (w : World) (h : OwnG w B (.slice (some ⟨g, 0, none⟩) l.length cap) l) (hl : l.length ≤ 100000) (hn : l ≠ []) :
    Calls Tryz.prog 31 #[.slice (some ⟨g, 0, none⟩) l.length cap] w (fun e w' => e = .returned (.tuple #[]) ∧ OwnG w' B (.slice (some ⟨g, 0, none⟩) l.length cap) l.reverse ∧ w.grownBy w' (some g)) := by
  have HH := Lib.hid h
  have hpos := List.length_pos_iff.2 hn
  clear h hn
  have hwr : IntKind.i64.wrap ((l.length : Int) - 1) = (l.length : Int) - 1 := IntWalk.i64_in _ (by omega)
  go_enter Tryz.func31, Tryz.ntmps31
  go_wp2
  go_loopw [2, 3] (fun iv jv wr => ∃ (k j : Nat) (m : List M.Tg), iv = .int .i64 (k : Int) ∧ jv = .int .i64 (j : Int) ∧ j + k + 1 = l.length ∧ Hid (RevN l m k) ∧ Hid (OwnG wr B (.slice (some ⟨g, 0, none⟩) l.length cap) m) ∧ Hid (w.grownBy wr (some g))) (fun iv _ _ => l.length - (intOf iv).toNat)
  case atStart => exact ⟨0, l.length - 1, l, rfl, by congr 1; omega, by omega, Lib.hid (RevN.start l), HH, Lib.hid (grown_same _ _)⟩
  case round =>
    clear HH
    obtain ⟨k, j, m, rfl, rfl, hjk, hr, ho, hkp⟩ := hrel
    by_cases hlt : k < j
    · have hml := hr.out.1
      have hkm : k < m.length := by omega
      have hjm : j < m.length := by omega
      have hrd := ho.out
      unfold OwnG at hrd
      rw [hml] at hrd
      have a0 := hrd.cellAt (k * 7) (by omega)
      rw [(csG_get m k hkm).1] at a0
      have fa0 := hrd.frozenAt (k * 7)
      have a1 := hrd.cellAt (k * 7 + 1) (by omega)
      rw [(csG_get m k hkm).2.1] at a1
      have fa1 := hrd.frozenAt (k * 7 + 1)
      have a2 := hrd.cellAt (k * 7 + 2) (by omega)
      rw [(csG_get m k hkm).2.2.1] at a2
      have fa2 := hrd.frozenAt (k * 7 + 2)
      have a3 := hrd.cellAt (k * 7 + 3) (by omega)
      rw [(csG_get m k hkm).2.2.2.1] at a3
      have fa3 := hrd.frozenAt (k * 7 + 3)
      have a4 := hrd.cellAt (k * 7 + 4) (by omega)
      rw [(csG_get m k hkm).2.2.2.2.1] at a4
      have fa4 := hrd.frozenAt (k * 7 + 4)
      have a5 := hrd.cellAt (k * 7 + 5) (by omega)
      rw [(csG_get m k hkm).2.2.2.2.2.1] at a5
      have fa5 := hrd.frozenAt (k * 7 + 5)
      have a6 := hrd.cellAt (k * 7 + 6) (by omega)
      rw [(csG_get m k hkm).2.2.2.2.2.2] at a6
      have fa6 := hrd.frozenAt (k * 7 + 6)
      have b0 := hrd.cellAt (j * 7) (by omega)
      rw [(csG_get m j hjm).1] at b0
      have fb0 := hrd.frozenAt (j * 7)
      have b1 := hrd.cellAt (j * 7 + 1) (by omega)
      rw [(csG_get m j hjm).2.1] at b1
      have fb1 := hrd.frozenAt (j * 7 + 1)
      have b2 := hrd.cellAt (j * 7 + 2) (by omega)
      rw [(csG_get m j hjm).2.2.1] at b2
      have fb2 := hrd.frozenAt (j * 7 + 2)
      have b3 := hrd.cellAt (j * 7 + 3) (by omega)
      rw [(csG_get m j hjm).2.2.2.1] at b3
      have fb3 := hrd.frozenAt (j * 7 + 3)
      have b4 := hrd.cellAt (j * 7 + 4) (by omega)
      rw [(csG_get m j hjm).2.2.2.2.1] at b4
      have fb4 := hrd.frozenAt (j * 7 + 4)
      have b5 := hrd.cellAt (j * 7 + 5) (by omega)
      rw [(csG_get m j hjm).2.2.2.2.2.1] at b5
      have fb5 := hrd.frozenAt (j * 7 + 5)
      have b6 := hrd.cellAt (j * 7 + 6) (by omega)
      rw [(csG_get m j hjm).2.2.2.2.2.2] at b6
      have fb6 := hrd.frozenAt (j * 7 + 6)
      have hi0 : (0 : Int) ≤ (k : Int) := by omega
      have hi1 : (k : Int) < (l.length : Int) := by omega
      have hj0 : (0 : Int) ≤ (j : Int) := by omega
      have hj1 : (j : Int) < (l.length : Int) := by omega
      have hst := ((((((((((((((hrd.stored (k * 7) (.int .i64 m[j].x)).1.stored (k * 7 + 1) (.int .i64 m[j].y)).1.stored (k * 7 + 2) (.int .i64 m[j].lo)).1.stored (k * 7 + 3) (.int .i64 m[j].hi)).1.stored (k * 7 + 4) (.int .i64 m[j].tol)).1.stored (k * 7 + 5) (.int .i64 m[j].mat)).1.stored (k * 7 + 6) (.bool m[j].pin)).1.stored (j * 7) (.int .i64 m[k].x)).1.stored (j * 7 + 1) (.int .i64 m[k].y)).1.stored (j * 7 + 2) (.int .i64 m[k].lo)).1.stored (j * 7 + 3) (.int .i64 m[k].hi)).1.stored (j * 7 + 4) (.int .i64 m[k].tol)).1.stored (j * 7 + 5) (.int .i64 m[k].mat)).1.stored (j * 7 + 6) (.bool m[k].pin)).1
      rw [csG_set m k hkm m[j], csG_set (m.set k m[j]) j (by simpa using hjm) m[k]] at hst
      have hst2 : OwnG (((((((((((((((wr.setCell ⟨g, k * 7, none⟩ (.int .i64 m[j].x)).setCell ⟨g, k * 7 + 1, none⟩ (.int .i64 m[j].y)).setCell ⟨g, k * 7 + 2, none⟩ (.int .i64 m[j].lo)).setCell ⟨g, k * 7 + 3, none⟩ (.int .i64 m[j].hi)).setCell ⟨g, k * 7 + 4, none⟩ (.int .i64 m[j].tol)).setCell ⟨g, k * 7 + 5, none⟩ (.int .i64 m[j].mat)).setCell ⟨g, k * 7 + 6, none⟩ (.bool m[j].pin)).setCell ⟨g, j * 7, none⟩ (.int .i64 m[k].x)).setCell ⟨g, j * 7 + 1, none⟩ (.int .i64 m[k].y)).setCell ⟨g, j * 7 + 2, none⟩ (.int .i64 m[k].lo)).setCell ⟨g, j * 7 + 3, none⟩ (.int .i64 m[k].hi)).setCell ⟨g, j * 7 + 4, none⟩ (.int .i64 m[k].tol)).setCell ⟨g, j * 7 + 5, none⟩ (.int .i64 m[k].mat)).setCell ⟨g, j * 7 + 6, none⟩ (.bool m[k].pin))).drew B (.slice (some ⟨g, 0, none⟩) l.length cap) ((m.set k m[j]).set j m[k]) := by
        unfold OwnG
        rw [List.length_set, List.length_set, hml]
        exact World.ownsRow.drew hst
      have gz := hkp.out
      replace gz := grown_trans2 gz (hrd.stored (k * 7) (.int .i64 m[j].x)).2
      replace gz := grown_trans2 gz ((hrd.stored (k * 7) (.int .i64 m[j].x)).1.stored (k * 7 + 1) (.int .i64 m[j].y)).2
      replace gz := grown_trans2 gz (((hrd.stored (k * 7) (.int .i64 m[j].x)).1.stored (k * 7 + 1) (.int .i64 m[j].y)).1.stored (k * 7 + 2) (.int .i64 m[j].lo)).2
      replace gz := grown_trans2 gz ((((hrd.stored (k * 7) (.int .i64 m[j].x)).1.stored (k * 7 + 1) (.int .i64 m[j].y)).1.stored (k * 7 + 2) (.int .i64 m[j].lo)).1.stored (k * 7 + 3) (.int .i64 m[j].hi)).2
      replace gz := grown_trans2 gz (((((hrd.stored (k * 7) (.int .i64 m[j].x)).1.stored (k * 7 + 1) (.int .i64 m[j].y)).1.stored (k * 7 + 2) (.int .i64 m[j].lo)).1.stored (k * 7 + 3) (.int .i64 m[j].hi)).1.stored (k * 7 + 4) (.int .i64 m[j].tol)).2
      replace gz := grown_trans2 gz ((((((hrd.stored (k * 7) (.int .i64 m[j].x)).1.stored (k * 7 + 1) (.int .i64 m[j].y)).1.stored (k * 7 + 2) (.int .i64 m[j].lo)).1.stored (k * 7 + 3) (.int .i64 m[j].hi)).1.stored (k * 7 + 4) (.int .i64 m[j].tol)).1.stored (k * 7 + 5) (.int .i64 m[j].mat)).2
      replace gz := grown_trans2 gz (((((((hrd.stored (k * 7) (.int .i64 m[j].x)).1.stored (k * 7 + 1) (.int .i64 m[j].y)).1.stored (k * 7 + 2) (.int .i64 m[j].lo)).1.stored (k * 7 + 3) (.int .i64 m[j].hi)).1.stored (k * 7 + 4) (.int .i64 m[j].tol)).1.stored (k * 7 + 5) (.int .i64 m[j].mat)).1.stored (k * 7 + 6) (.bool m[j].pin)).2
      replace gz := grown_trans2 gz ((((((((hrd.stored (k * 7) (.int .i64 m[j].x)).1.stored (k * 7 + 1) (.int .i64 m[j].y)).1.stored (k * 7 + 2) (.int .i64 m[j].lo)).1.stored (k * 7 + 3) (.int .i64 m[j].hi)).1.stored (k * 7 + 4) (.int .i64 m[j].tol)).1.stored (k * 7 + 5) (.int .i64 m[j].mat)).1.stored (k * 7 + 6) (.bool m[j].pin)).1.stored (j * 7) (.int .i64 m[k].x)).2
      replace gz := grown_trans2 gz (((((((((hrd.stored (k * 7) (.int .i64 m[j].x)).1.stored (k * 7 + 1) (.int .i64 m[j].y)).1.stored (k * 7 + 2) (.int .i64 m[j].lo)).1.stored (k * 7 + 3) (.int .i64 m[j].hi)).1.stored (k * 7 + 4) (.int .i64 m[j].tol)).1.stored (k * 7 + 5) (.int .i64 m[j].mat)).1.stored (k * 7 + 6) (.bool m[j].pin)).1.stored (j * 7) (.int .i64 m[k].x)).1.stored (j * 7 + 1) (.int .i64 m[k].y)).2
      replace gz := grown_trans2 gz ((((((((((hrd.stored (k * 7) (.int .i64 m[j].x)).1.stored (k * 7 + 1) (.int .i64 m[j].y)).1.stored (k * 7 + 2) (.int .i64 m[j].lo)).1.stored (k * 7 + 3) (.int .i64 m[j].hi)).1.stored (k * 7 + 4) (.int .i64 m[j].tol)).1.stored (k * 7 + 5) (.int .i64 m[j].mat)).1.stored (k * 7 + 6) (.bool m[j].pin)).1.stored (j * 7) (.int .i64 m[k].x)).1.stored (j * 7 + 1) (.int .i64 m[k].y)).1.stored (j * 7 + 2) (.int .i64 m[k].lo)).2
      replace gz := grown_trans2 gz (((((((((((hrd.stored (k * 7) (.int .i64 m[j].x)).1.stored (k * 7 + 1) (.int .i64 m[j].y)).1.stored (k * 7 + 2) (.int .i64 m[j].lo)).1.stored (k * 7 + 3) (.int .i64 m[j].hi)).1.stored (k * 7 + 4) (.int .i64 m[j].tol)).1.stored (k * 7 + 5) (.int .i64 m[j].mat)).1.stored (k * 7 + 6) (.bool m[j].pin)).1.stored (j * 7) (.int .i64 m[k].x)).1.stored (j * 7 + 1) (.int .i64 m[k].y)).1.stored (j * 7 + 2) (.int .i64 m[k].lo)).1.stored (j * 7 + 3) (.int .i64 m[k].hi)).2
      replace gz := grown_trans2 gz ((((((((((((hrd.stored (k * 7) (.int .i64 m[j].x)).1.stored (k * 7 + 1) (.int .i64 m[j].y)).1.stored (k * 7 + 2) (.int .i64 m[j].lo)).1.stored (k * 7 + 3) (.int .i64 m[j].hi)).1.stored (k * 7 + 4) (.int .i64 m[j].tol)).1.stored (k * 7 + 5) (.int .i64 m[j].mat)).1.stored (k * 7 + 6) (.bool m[j].pin)).1.stored (j * 7) (.int .i64 m[k].x)).1.stored (j * 7 + 1) (.int .i64 m[k].y)).1.stored (j * 7 + 2) (.int .i64 m[k].lo)).1.stored (j * 7 + 3) (.int .i64 m[k].hi)).1.stored (j * 7 + 4) (.int .i64 m[k].tol)).2
      replace gz := grown_trans2 gz (((((((((((((hrd.stored (k * 7) (.int .i64 m[j].x)).1.stored (k * 7 + 1) (.int .i64 m[j].y)).1.stored (k * 7 + 2) (.int .i64 m[j].lo)).1.stored (k * 7 + 3) (.int .i64 m[j].hi)).1.stored (k * 7 + 4) (.int .i64 m[j].tol)).1.stored (k * 7 + 5) (.int .i64 m[j].mat)).1.stored (k * 7 + 6) (.bool m[j].pin)).1.stored (j * 7) (.int .i64 m[k].x)).1.stored (j * 7 + 1) (.int .i64 m[k].y)).1.stored (j * 7 + 2) (.int .i64 m[k].lo)).1.stored (j * 7 + 3) (.int .i64 m[k].hi)).1.stored (j * 7 + 4) (.int .i64 m[k].tol)).1.stored (j * 7 + 5) (.int .i64 m[k].mat)).2
      replace gz := grown_trans2 gz ((((((((((((((hrd.stored (k * 7) (.int .i64 m[j].x)).1.stored (k * 7 + 1) (.int .i64 m[j].y)).1.stored (k * 7 + 2) (.int .i64 m[j].lo)).1.stored (k * 7 + 3) (.int .i64 m[j].hi)).1.stored (k * 7 + 4) (.int .i64 m[j].tol)).1.stored (k * 7 + 5) (.int .i64 m[j].mat)).1.stored (k * 7 + 6) (.bool m[j].pin)).1.stored (j * 7) (.int .i64 m[k].x)).1.stored (j * 7 + 1) (.int .i64 m[k].y)).1.stored (j * 7 + 2) (.int .i64 m[k].lo)).1.stored (j * 7 + 3) (.int .i64 m[k].hi)).1.stored (j * 7 + 4) (.int .i64 m[k].tol)).1.stored (j * 7 + 5) (.int .i64 m[k].mat)).1.stored (j * 7 + 6) (.bool m[k].pin)).2
      have hkp2 : w.grownBy (((((((((((((((wr.setCell ⟨g, k * 7, none⟩ (.int .i64 m[j].x)).setCell ⟨g, k * 7 + 1, none⟩ (.int .i64 m[j].y)).setCell ⟨g, k * 7 + 2, none⟩ (.int .i64 m[j].lo)).setCell ⟨g, k * 7 + 3, none⟩ (.int .i64 m[j].hi)).setCell ⟨g, k * 7 + 4, none⟩ (.int .i64 m[j].tol)).setCell ⟨g, k * 7 + 5, none⟩ (.int .i64 m[j].mat)).setCell ⟨g, k * 7 + 6, none⟩ (.bool m[j].pin)).setCell ⟨g, j * 7, none⟩ (.int .i64 m[k].x)).setCell ⟨g, j * 7 + 1, none⟩ (.int .i64 m[k].y)).setCell ⟨g, j * 7 + 2, none⟩ (.int .i64 m[k].lo)).setCell ⟨g, j * 7 + 3, none⟩ (.int .i64 m[k].hi)).setCell ⟨g, j * 7 + 4, none⟩ (.int .i64 m[k].tol)).setCell ⟨g, j * 7 + 5, none⟩ (.int .i64 m[k].mat)).setCell ⟨g, j * 7 + 6, none⟩ (.bool m[k].pin))).drew (some g) := grown_drew gz
      have hr2 := hr.out.step (by omega) hkm (by omega)
      have ej : l.length - 1 - k = j := by omega
      have hr3 : Hid (RevN l ((m.set k m[j]).set j m[k]) (k + 1)) := Lib.hid (by
        simp only [ej] at hr2
        exact hr2)
      have HST := Lib.hid hst2
      have HKP := Lib.hid hkp2
      generalize hm2 : (m.set k m[j]).set j m[k] = m2 at *
      clear hrd hst hr2 hst2 hkp2 hr hm2 ej ho hkp
      have hjc : ((j : Int) - 1) = ((j - 1 : Nat) : Int) := by omega
      have HJC := Lib.hid hjc
      have hwj : IntKind.i64.wrap ((j : Int) - 1) = (j : Int) - 1 := IntWalk.i64_in _ (by omega)
      clear hjc
      generalize m[k] = mk at *
      generalize m[j] = mj at *
      go_wp2
      go_region
      generalize (((((((((((((((wr.setCell ⟨g, k * 7, none⟩ (.int .i64 mj.x)).setCell ⟨g, k * 7 + 1, none⟩ (.int .i64 mj.y)).setCell ⟨g, k * 7 + 2, none⟩ (.int .i64 mj.lo)).setCell ⟨g, k * 7 + 3, none⟩ (.int .i64 mj.hi)).setCell ⟨g, k * 7 + 4, none⟩ (.int .i64 mj.tol)).setCell ⟨g, k * 7 + 5, none⟩ (.int .i64 mj.mat)).setCell ⟨g, k * 7 + 6, none⟩ (.bool mj.pin)).setCell ⟨g, j * 7, none⟩ (.int .i64 mk.x)).setCell ⟨g, j * 7 + 1, none⟩ (.int .i64 mk.y)).setCell ⟨g, j * 7 + 2, none⟩ (.int .i64 mk.lo)).setCell ⟨g, j * 7 + 3, none⟩ (.int .i64 mk.hi)).setCell ⟨g, j * 7 + 4, none⟩ (.int .i64 mk.tol)).setCell ⟨g, j * 7 + 5, none⟩ (.int .i64 mk.mat)).setCell ⟨g, j * 7 + 6, none⟩ (.bool mk.pin))).drew = w2 at *
      clear a0 fa0 a1 fa1 a2 fa2 a3 fa3 a4 fa4 a5 fa5 a6 fa6 b0 fb0 b1 fb1 b2 fb2 b3 fb3 b4 fb4 b5 fb5 b6 fb6
      go_wp2
      go_roundw
      case rel => exact ⟨k + 1, j - 1, m2, by go_num, by rw [HJC.out], by omega, hr3, HST, HKP⟩
      case measure => simp [intOf]; omega
    · have hm := hr.out.done (by omega)
      have HM := Lib.hid hm
      clear hr hm
      go_wp2
      go_end0
      exact ⟨rfl, by rw [← HM.out]; exact ho.out, hkp.out⟩
end W
end Go.Proofs.YtfcffheboncmbaaGreatDoor
end
