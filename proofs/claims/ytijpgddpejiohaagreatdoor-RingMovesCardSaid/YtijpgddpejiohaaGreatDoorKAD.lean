/-
  Chapter 35: what moves and circles do to the width, in plain terms.
  Chapter 35: two lists of points that grow side by side; slices.Clone and slices.Reverse of points. (Printed by wip/zl.py.)
  Chapter 35's laws: RingMoves.
-/
import Derived.Test.YtijpgddpejiohaaGreatDoorKW
import Derived.Test.YtijpgddpejiohaaGreatDoorKQ
import Derived.Test.YtijpgddpejiohaaGreatDoorKS
import Derived.RegionTactic
import Derived.ChangeAlike
import Derived.BigRegion
import Derived.OwnWalk
import Derived.Test.YtijpgddpejiohaaGreatDoorKZ
section
namespace Go.Proofs.YtijpgddpejiohaaGreatDoor
open Go
namespace M
theorem moves_plain {l : List PZ} {bx bY : Int} (hl : l ≠ []) {a b c d : Rat} (ha : WidIs l a) (hb : WidIs (l.map (movP bx bY)).reverse b) (hc : WidIs (l.map twiP) c) (hd : WidIs (l ++ [(bx, bY)]) d) : b = a ∧ c = 4 * a ∧ a ≤ d := by
  refine ⟨?_, ?_, ?_⟩
  · exact hb.unique (ha.mov bx bY hl fun p => by simp)
  · exact hc.unique (ha.twi hl fun p => by simp)
  · exact ha.more hd hl fun p hp => by simp [hp]
def halfP (p : PZ) : Bool := decide (-50000 ≤ p.1) && decide (p.1 ≤ 50000) && decide (-50000 ≤ p.2) && decide (p.2 ≤ 50000)
theorem half_iff {p : PZ} : halfP p = true ↔ -50000 ≤ p.1 ∧ p.1 ≤ 50000 ∧ -50000 ≤ p.2 ∧ p.2 ≤ 50000 := by
  unfold halfP
  rw [Bool.and_eq_true, Bool.and_eq_true, Bool.and_eq_true, decide_eq_true_eq, decide_eq_true_eq, decide_eq_true_eq, decide_eq_true_eq]
  exact ⟨fun h => ⟨h.1.1.1, h.1.1.2, h.1.2, h.2⟩, fun h => ⟨⟨⟨h.1, h.2.1⟩, h.2.2.1⟩, h.2.2.2⟩⟩
theorem inP_iff {p : PZ} : inP p = true ↔ -100000 ≤ p.1 ∧ p.1 ≤ 100000 ∧ -100000 ≤ p.2 ∧ p.2 ≤ 100000 := by
  unfold inP
  rw [Bool.and_eq_true]
  constructor
  · intro h
    have h1 := in_bd h.1
    have h2 := in_bd h.2
    exact ⟨h1.1, h1.2, h2.1, h2.2⟩
  · intro h
    constructor
    · unfold inC; simp; omega
    · unfold inC; simp; omega
theorem mov_in {p : PZ} {bx bY : Int} (h : halfP p = true) (h2 : halfP (bx, bY) = true) : inP (movP bx bY p) = true := by
  have a := half_iff.1 h
  have b := half_iff.1 h2
  exact inP_iff.2 ⟨by show -100000 ≤ bx - p.2; have := b.1; simp only at *; omega, by show bx - p.2 ≤ 100000; simp only at *; omega, by show -100000 ≤ bY + p.1; simp only at *; omega, by show bY + p.1 ≤ 100000; simp only at *; omega⟩
theorem twi_in {p : PZ} (h : halfP p = true) : inP (twiP p) = true := by
  have a := half_iff.1 h
  exact inP_iff.2 ⟨by show -100000 ≤ 2 * p.1; omega, by show 2 * p.1 ≤ 100000; omega, by show -100000 ≤ 2 * p.2; omega, by show 2 * p.2 ≤ 100000; omega⟩
theorem circles_plain {a b c s0 s1 s2 : PZ} (hp : ∀ p, p ∈ [a, b, c] ↔ p ∈ [s0, s1, s2]) (hl : leftZ s0 s1 s2 = 0) (h1 : beforeZ s0 s1 = true) (h2 : beforeZ s1 s2 = true) {w : Rat} (hw : WidIs [a, b, c] w) :
    w * w = (farZ s0 s1 : Rat) * (farZ s1 s2 : Rat) := by
  obtain ⟨x, hx, e⟩ := wid_line hl h1 h2
  have := hw.unique (hx.congr (by simp) fun p => (hp p).symm)
  rw [this, e]
end M
end Go.Proofs.YtijpgddpejiohaaGreatDoor
end
section
namespace Go.Proofs.YtijpgddpejiohaaGreatDoor
open Go Go.RowKit Go.Deep
def RevN {α : Type} (l m : List α) (k : Nat) : Prop := m.length = l.length ∧ ∀ i (h : i < m.length) (h2 : l.length - 1 - i < l.length) (h3 : i < l.length), m[i] = if i < k ∨ l.length - 1 - i < k then l[l.length - 1 - i] else l[i]
theorem RevN.start {α : Type} (l : List α) : RevN l l 0 := ⟨rfl, fun i h h2 h3 => by rw [if_neg (by omega)]⟩
theorem RevN.done {α : Type} {l m : List α} {k : Nat} (h : RevN l m k) (hk : l.length ≤ 2 * k + 1) : m = l.reverse := by
  obtain ⟨h1, h2⟩ := h
  apply List.ext_getElem (by simp [h1])
  intro i hi hi2
  rw [h2 i hi (by omega) (by omega), List.getElem_reverse]
  by_cases hc : i < k ∨ l.length - 1 - i < k
  · rw [if_pos hc]
  · rw [if_neg hc]; congr 1; omega
theorem RevN.step {α : Type} {l m : List α} {k : Nat} (h : RevN l m k) (hk : 2 * k + 1 < l.length) (ha : k < m.length) (hb : l.length - 1 - k < m.length) :
    RevN l ((m.set k m[l.length - 1 - k]).set (l.length - 1 - k) m[k]) (k + 1) := by
  obtain ⟨h1, h2⟩ := h
  refine ⟨by simp [h1], fun i hi hj hl => ?_⟩
  have ea := h2 k ha (by omega) (by omega)
  have eb := h2 (l.length - 1 - k) hb (by omega) (by omega)
  rw [if_neg (by omega)] at ea eb
  by_cases e1 : i = l.length - 1 - k
  · subst e1
    rw [List.getElem_set_self, if_pos (by omega), ea]
    congr 1; omega
  · rw [List.getElem_set_ne (by omega)]
    by_cases e2 : i = k
    · subst e2
      rw [List.getElem_set_self, if_pos (by omega), eb]
    · rw [List.getElem_set_ne (by omega), h2 i (by simpa using hi) hj hl]
      by_cases hc : i < k ∨ l.length - 1 - i < k
      · rw [if_pos hc, if_pos (by omega)]
      · rw [if_neg hc, if_neg (by omega)]
theorem grown_drew {w w' : World} {r : Option Nat} (h : w.grownBy w' r) : w.grownBy w'.drew r := ⟨h.os, h.tape, h.output, h.size, h.block⟩
theorem grown_trans2 {w w1 w2 : World} {g : Nat} (h : w.grownBy w1 (some g)) (h2 : w1.grownBy w2 (some g)) : w.grownBy w2 (some g) :=
  ⟨h2.os.trans h.os, h2.tape.trans h.tape, h2.output.trans h.output, Nat.le_trans h.size h2.size, fun k hk hne => (h2.block k (Nat.lt_of_lt_of_le hk h.size) hne).trans (h.block k hk hne)⟩
theorem csV_set (l : List M.PZ) (i : Nat) (h : i < l.length) (x : M.PZ) : (((csV l).set (i * 2) (.int .i64 x.1)).set (i * 2 + 1) (.int .i64 x.2)) = csV (l.set i x) := by
  induction l generalizing i with
  | nil => cases h
  | cons y t ih =>
    rcases i with _ | j
    · rfl
    · have hj : j < t.length := by simpa using h
      have e1 : csV (y :: t) = (.int .i64 y.1 : Value) :: (.int .i64 y.2 : Value) :: csV t := rfl
      have e2 : csV ((y :: t).set (j + 1) x) = (.int .i64 y.1 : Value) :: (.int .i64 y.2 : Value) :: csV (t.set j x) := rfl
      rw [e1, e2, ← ih j hj]
      rw [show (j + 1) * 2 + 1 = (j * 2 + 1) + 1 + 1 by omega]
      rw [show (j + 1) * 2 = j * 2 + 1 + 1 by omega]
      simp only [List.set_cons_succ]
namespace W
open M
attribute [local go_sem] bs_size bs_toList bs_get bs_extract bs_append bs_lit0 bs_lit1 lit1_bs
set_option maxHeartbeats 4000000
set_option maxRecDepth 20000
theorem revOwnV (g cap B : Nat) (l : List M.PZ) (w : World) (h : OwnV w B (.slice (some ⟨g, 0, none⟩) l.length cap) l) (hl : l.length ≤ 100000) (hn : l ≠ []) :
    Calls Tryz.prog 37 #[.slice (some ⟨g, 0, none⟩) l.length cap] w (fun e w' => e = .returned (.tuple #[]) ∧ OwnV w' B (.slice (some ⟨g, 0, none⟩) l.length cap) l.reverse ∧ w.grownBy w' (some g)) := by
  have HH := Lib.hid h
  have hpos := List.length_pos_iff.2 hn
  clear h hn
  have hwr : IntKind.i64.wrap ((l.length : Int) - 1) = (l.length : Int) - 1 := IntWalk.i64_in _ (by omega)
  go_enter Tryz.func37, Tryz.ntmps37
  go_wp2
  go_loopw [2, 3] (fun iv jv wr => ∃ (k j : Nat) (m : List M.PZ), iv = .int .i64 (k : Int) ∧ jv = .int .i64 (j : Int) ∧ j + k + 1 = l.length ∧ Hid (RevN l m k) ∧ Hid (OwnV wr B (.slice (some ⟨g, 0, none⟩) l.length cap) m) ∧ Hid (w.grownBy wr (some g))) (fun iv _ _ => l.length - (intOf iv).toNat)
  case atStart => exact ⟨0, l.length - 1, l, rfl, by congr 1; omega, by omega, Lib.hid (RevN.start l), HH, Lib.hid (grown_same _ _)⟩
  case round =>
    clear HH
    obtain ⟨k, j, m, rfl, rfl, hjk, hr, ho, hkp⟩ := hrel
    by_cases hlt : k < j
    · have hml := hr.out.1
      have hkm : k < m.length := by omega
      have hjm : j < m.length := by omega
      have hrd := ho.out
      unfold OwnV at hrd
      rw [hml] at hrd
      have a0 := hrd.cellAt (k * 2) (by omega)
      rw [(csV_get m k hkm).1] at a0
      have fa0 := hrd.frozenAt (k * 2)
      have a1 := hrd.cellAt (k * 2 + 1) (by omega)
      rw [(csV_get m k hkm).2] at a1
      have fa1 := hrd.frozenAt (k * 2 + 1)
      have b0 := hrd.cellAt (j * 2) (by omega)
      rw [(csV_get m j hjm).1] at b0
      have fb0 := hrd.frozenAt (j * 2)
      have b1 := hrd.cellAt (j * 2 + 1) (by omega)
      rw [(csV_get m j hjm).2] at b1
      have fb1 := hrd.frozenAt (j * 2 + 1)
      have hi0 : (0 : Int) ≤ (k : Int) := by omega
      have hi1 : (k : Int) < (l.length : Int) := by omega
      have hj0 : (0 : Int) ≤ (j : Int) := by omega
      have hj1 : (j : Int) < (l.length : Int) := by omega
      have hst := ((((hrd.stored (k * 2) (.int .i64 m[j].1)).1.stored (k * 2 + 1) (.int .i64 m[j].2)).1.stored (j * 2) (.int .i64 m[k].1)).1.stored (j * 2 + 1) (.int .i64 m[k].2)).1
      rw [csV_set m k hkm m[j], csV_set (m.set k m[j]) j (by simpa using hjm) m[k]] at hst
      have hst2 : OwnV (((((wr.setCell ⟨g, k * 2, none⟩ (.int .i64 m[j].1)).setCell ⟨g, k * 2 + 1, none⟩ (.int .i64 m[j].2)).setCell ⟨g, j * 2, none⟩ (.int .i64 m[k].1)).setCell ⟨g, j * 2 + 1, none⟩ (.int .i64 m[k].2))).drew B (.slice (some ⟨g, 0, none⟩) l.length cap) ((m.set k m[j]).set j m[k]) := by
        unfold OwnV
        rw [List.length_set, List.length_set, hml]
        exact World.ownsRow.drew hst
      have gz := hkp.out
      replace gz := grown_trans2 gz (hrd.stored (k * 2) (.int .i64 m[j].1)).2
      replace gz := grown_trans2 gz ((hrd.stored (k * 2) (.int .i64 m[j].1)).1.stored (k * 2 + 1) (.int .i64 m[j].2)).2
      replace gz := grown_trans2 gz (((hrd.stored (k * 2) (.int .i64 m[j].1)).1.stored (k * 2 + 1) (.int .i64 m[j].2)).1.stored (j * 2) (.int .i64 m[k].1)).2
      replace gz := grown_trans2 gz ((((hrd.stored (k * 2) (.int .i64 m[j].1)).1.stored (k * 2 + 1) (.int .i64 m[j].2)).1.stored (j * 2) (.int .i64 m[k].1)).1.stored (j * 2 + 1) (.int .i64 m[k].2)).2
      have hkp2 : w.grownBy (((((wr.setCell ⟨g, k * 2, none⟩ (.int .i64 m[j].1)).setCell ⟨g, k * 2 + 1, none⟩ (.int .i64 m[j].2)).setCell ⟨g, j * 2, none⟩ (.int .i64 m[k].1)).setCell ⟨g, j * 2 + 1, none⟩ (.int .i64 m[k].2))).drew (some g) := grown_drew gz
      have hr2 := hr.out.step (by omega) hkm (by omega)
      have ej : l.length - 1 - k = j := by omega
      have hr3 : Hid (RevN l ((m.set k m[j]).set j m[k]) (k + 1)) := Lib.hid (by
        simp only [ej] at hr2
        exact hr2)
      have HST := Lib.hid hst2
      have HKP := Lib.hid hkp2
      generalize hm2 : (m.set k m[j]).set j m[k] = m2 at *
      clear hrd hst hr2 hst2 hkp2 hr hm2 ej ho hkp
      have hjc : ((j : Int) - 1) = ((j - 1 : Nat) : Int) := by omega
      have HJC := Lib.hid hjc
      have hwj : IntKind.i64.wrap ((j : Int) - 1) = (j : Int) - 1 := IntWalk.i64_in _ (by omega)
      clear hjc
      generalize m[k] = mk at *
      generalize m[j] = mj at *
      go_wp2
      go_region
      generalize (((((wr.setCell ⟨g, k * 2, none⟩ (.int .i64 mj.1)).setCell ⟨g, k * 2 + 1, none⟩ (.int .i64 mj.2)).setCell ⟨g, j * 2, none⟩ (.int .i64 mk.1)).setCell ⟨g, j * 2 + 1, none⟩ (.int .i64 mk.2))).drew = w2 at *
      clear a0 fa0 a1 fa1 b0 fb0 b1 fb1
      go_wp2
      go_roundw
      case rel => exact ⟨k + 1, j - 1, m2, by go_num, by rw [HJC.out], by omega, hr3, HST, HKP⟩
      case measure => simp [intOf]; omega
    · have hm := hr.out.done (by omega)
      have HM := Lib.hid hm
      clear hr hm
      go_wp2
      go_end0
      exact ⟨rfl, by rw [← HM.out]; exact ho.out, hkp.out⟩
end W

theorem run_app_OwnV_at {w : World} {B : Nat} {v : Value} {l m : List M.PZ} {ad : Addr} {cap : Nat} (ty : TypeId) (h : OwnV w B v l) (hc : ∀ j u, (csV m)[j]? = some u → w.cell? (ad.add j) = some u) (hB : B ≤ w.heap.size) (hn : (l.length + m.length) * 16 ≤ 140737488355328) :
    ∃ v' w', (Builtin.append_ #[39, 39] ty #[v, .slice (some ad) m.length cap]).run Tryz.prog w = .ok v' w' ∧ OwnV w' B v' (l ++ m) ∧ w.grownBy w' v.ownBlock ∧ (v'.ownBlock = v.ownBlock ∨ v'.ownBlock = some w.heap.size) := by
  obtain ⟨i, h1, h2, h3, h4⟩ := info_parts infoPnt
  obtain ⟨v', w', k1, k2, k3, _, k5⟩ := run_append_own_at (P := Tryz.prog) w B _ ty _ i _ 2 16 Tryz.underlying39 h1 h2 h3 h4 rfl (by decide) v l.length (csV l) h ad m.length cap (csV m) (csV_len m)
      hc csV_one (by unfold maxLen; omega) hn hB
  refine ⟨v', w', k1, ?_, k3, k5⟩
  unfold OwnV
  rw [csV_append, List.length_append]
  exact k2
theorem wpList_app_OwnV_at {ops : Array Oper} {rest : List Oper} {o : Oper} {a : Act} {Q : Exit → Act → World → Prop} {w : World} {B : Nat} {v xv : Value} {l m : List M.PZ} {ad : Addr} {cap : Nat} (hgd : o.guard = none) (s x : Operand)
    (ho : o.op = .call { callee := .builtin .append, args := #[s, x], argTypes := #[39, 39] }) (hs : a.eval s = v) (hx : a.eval x = xv) (hxv : xv = .slice (some ad) m.length cap)
    (h : OwnV w B v l) (hc : ∀ j u, (csV m)[j]? = some u → w.cell? (ad.add j) = some u) (hB : B ≤ w.heap.size) (hn : (l.length + m.length) * 16 ≤ 140737488355328)
    (hK : ∀ v' w', OwnV w' B v' (l ++ m) → w.grownBy w' v.ownBlock → (v'.ownBlock = v.ownBlock ∨ v'.ownBlock = some w.heap.size) → wpList Tryz.prog ops Q rest (a.put o.dst v') w') : wpList Tryz.prog ops Q (o :: rest) a w :=
  wpList_plain hgd fun _ hK2 => by
    subst hxv
    obtain ⟨v', w', hr, h2, h3, h4⟩ := run_app_OwnV_at (cap := cap) o.type h hc hB hn
    unfold Oper.wp execOp
    simp only [ho, resolve, invoke, builtin, Sem.run_bind, Sem.run_pure, Result.andThen_ok, List.map_toArray, List.map_cons, List.map_nil, hs, hx, hr]
    exact hK2 _ _ (hK v' w' h2 h3 h4)
structure TwV (w0 w : World) (v1 v2 : Value) (l1 l2 : List M.PZ) : Prop where
  o1 : OwnV w w0.heap.size v1 l1
  o2 : OwnV w w0.heap.size v2 l2
  d1 : v1.ownBlock = none ∨ v1.ownBlock ≠ v2.ownBlock
  d2 : v2.ownBlock = none ∨ v2.ownBlock ≠ v1.ownBlock
  bel : Below w0.heap.size w0 w
theorem TwV.to {w0 w w' : World} {v1 v2 : Value} {l1 l2 : List M.PZ} (h : TwV w0 w v1 v2 l1 l2) (hb : Below w.heap.size w w') : TwV w0 w' v1 v2 l1 l2 :=
  ⟨h.o1.below hb, h.o2.below hb, h.d1, h.d2, bel_to h.bel hb⟩
theorem TwV.swap {w0 w : World} {v1 v2 : Value} {l1 l2 : List M.PZ} (h : TwV w0 w v1 v2 l1 l2) : TwV w0 w v2 v1 l2 l1 := ⟨h.o2, h.o1, h.d2, h.d1, h.bel⟩
theorem TwV.app {w0 w w' : World} {v1 v2 v' : Value} {l1 l2 l' : List M.PZ} (h : TwV w0 w v1 v2 l1 l2) (ho : OwnV w' w0.heap.size v' l') (hg : w.grownBy w' v1.ownBlock) (hd : v'.ownBlock = v1.ownBlock ∨ v'.ownBlock = some w.heap.size) : TwV w0 w' v' v2 l' l2 := by
  have hlt : v2.ownBlock ≠ some w.heap.size := fun e => by
    have := (World.ownsRow.lt h.o2 _ e).2
    omega
  refine ⟨ho, World.ownsRow.kept h.o2 hg h.d2, ?_, ?_, h.bel.grown hg h.bel.size fun b hb => (World.ownsRow.lt h.o1 b hb).1⟩
  · rcases hd with hd | hd
    · rw [hd]; exact h.d1
    · exact Or.inr (by rw [hd]; exact fun e => hlt e.symm)
  · rcases hd with hd | hd
    · rw [hd]; exact h.d2
    · exact Or.inr (by rw [hd]; exact hlt)
theorem TwV.app2 {w0 w w' : World} {v1 v2 v' : Value} {l1 l2 l' : List M.PZ} (h : TwV w0 w v1 v2 l1 l2) (ho : OwnV w' w0.heap.size v' l') (hg : w.grownBy w' v2.ownBlock) (hd : v'.ownBlock = v2.ownBlock ∨ v'.ownBlock = some w.heap.size) : TwV w0 w' v1 v' l1 l' :=
  (h.swap.app ho hg hd).swap
namespace W
open M
attribute [local go_sem] bs_size bs_toList bs_get bs_extract bs_append bs_lit0 bs_lit1 lit1_bs
set_option maxHeartbeats 4000000
set_option maxRecDepth 20000
theorem pcloneOwnV (vl : Value) (l : List PZ) (w : World) (hs : RdV w vl l) (h0 : 0 < l.length) (hn : l.length ≤ 1000000) :
    Calls Tryz.prog 39 #[vl] w (fun e w' => ∃ g cap, e = .returned (.slice (some ⟨g, 0, none⟩) l.length cap) ∧ w.heap.size ≤ g ∧ OwnV w' w.heap.size (.slice (some ⟨g, 0, none⟩) l.length cap) l ∧ Below w.heap.size w w') := by
  obtain ⟨A, cap, rfl⟩ := hs.len
  obtain ⟨b, o, rfl, _, hc⟩ := srcRdV hs h0
  have hq : ∀ w, (binOp .eql 39 (.slice (some ⟨b, o, none⟩) l.length cap) (.slice none 0 0)).run Tryz.prog w = .ok (.bool false) w := fun w => rfl
  have hb0 : Below w.heap.size w (w.alloc (.cells #[] 69 (0, 0))) := bel_alloc (Below.refl _ _) _
  have HS := Lib.hid (And.intro (fun j u e => (hb0.cell (block_lt_of_cell (hc j u e))).trans (hc j u e)) hb0)
  have HN := Lib.hid hn
  have H0 := Lib.hid h0
  clear hs hc hb0 hn h0
  go_enter Tryz.func39, Tryz.ntmps39
  go_wp2_with (at_builtin; refine wpList_app_OwnV rfl (.tmp 5) (.tmp 6) rfl rfl rfl rfl (OwnV.fresh w w.heap.size w.heap.size rfl (Nat.le_refl _)) HS.out.1 HS.out.2.size (by have := HN.out; simp; omega) ?_; intro v2 w2 ho2 hk2)
  rw [List.nil_append] at ho2
  have HB := Lib.hid (app_belOwnV (OwnV.fresh w w.heap.size w.heap.size rfl (Nat.le_refl _)) HS.out.2 (Nat.le_refl _) hk2)
  obtain ⟨g, cap2, rfl, hg, _⟩ := ho2.form H0.out
  have HF := Lib.hid ho2
  clear ho2 hk2 HS
  go_wp2
  go_ret
  exact ⟨_, _, rfl, hg, HF.out, HB.out⟩
end W
end Go.Proofs.YtijpgddpejiohaaGreatDoor
end
section
namespace Go.Proofs.YtijpgddpejiohaaGreatDoor
namespace Fin
section
open Go Go.RowKit Go.ChangeShapes Go.WideShapes Go.ChangeAt Go.Deep
set_option maxRecDepth 20000
variable {H : Type} {enc : TypeId × Value → H} {W : World}
theorem open_ptY {r : Reach} {b0 : Nat} {v : Value} {d : DataW H} {p : List MemPlace} (hv : Value.okWide Tryz.prog W r b0 69 v) (h : DataW.Trod enc Tryz.prog W 0 (fun _ => true) true 69 v d p) : ∃ c : M.PZ, v = ptV c := by
  obtain ⟨cs, rfl, hsz⟩ := okWide_struct Tryz.underlying69 hv
  obtain ⟨c0, c1, rfl⟩ := Go.Joins.array2 (hsz.trans cellsPtY)
  obtain ⟨fuel, hf⟩ := h
  obtain ⟨a, b, rfl, rfl⟩ := cell_ptY hf
  exact ⟨(a, b), rfl⟩
end
end Fin
open Go Go.RowKit Go.Deep Go.Sort
namespace M
theorem giv_vals (l : List PZ) : givP l = 0 ∨ givP l = 2 ∨ givP l = 5 ∨ givP l = 13 := by
  unfold givP chkPs
  by_cases h1 : 64 < l.length
  · rw [if_pos h1]; simp
  · rw [if_neg h1]
    by_cases h2 : l.all inP = true
    · rw [if_pos h2]
      by_cases h3 : l.length = 0
      · rw [if_pos h3]; simp
      · rw [if_neg h3]; simp
    · rw [if_neg h2]; simp
theorem half_max {x y px py m : Int} (hm : m = max (max (max (max (max (max (max x (-x)) y) (-y)) px) (-px)) py) (-py)) : (halfP (x, y) = true ∧ halfP (px, py) = true) ↔ ¬ 50000 < m := by
  rw [half_iff, half_iff]
  simp only
  omega
end M
theorem max2_int (a b : Int) (W : World) : (Builtin.max2 (.int .i64 a) (.int .i64 b)).run Tryz.prog W = .ok (.int .i64 (max a b)) W := by
  simp [Builtin.max2]
  rw [Int.max_def]
  split <;> split <;> omega
theorem max8_int (a b c d e f g h : Int) (t : Array TypeId) (ty : TypeId) (W : World) : (Builtin.max_ t ty #[.int .i64 a, .int .i64 b, .int .i64 c, .int .i64 d, .int .i64 e, .int .i64 f, .int .i64 g, .int .i64 h]).run Tryz.prog W = .ok (.int .i64 (max (max (max (max (max (max (max a b) c) d) e) f) g) h)) W := by
  simp only [Builtin.max_, List.foldlM_cons, List.foldlM_nil, Sem.run_bind, max2_int, Result.andThen_ok, Sem.run_pure]
namespace W
open M
def rightP (l : List PZ) : Bool := fewP l && decide (givP l = 0)
attribute [local go_sem] bs_size bs_toList bs_get bs_extract bs_append bs_lit0 bs_lit1 lit1_bs
set_option maxHeartbeats 2000000
set_option maxRecDepth 20000
theorem pright35 (vl : Value) (l : List PZ) (w : World) (hl : RdV w vl l) (hn : l.length ≤ maxLen) : Calls Tryz.prog 35 #[vl] w (Ret w (.bool (rightP l))) := by
  have HF := Lib.hid (fun W (hW : Below w.heap.size w W) => rfew35 vl l W (hl.below hW))
  have HG := Lib.hid (fun W (hW : Below w.heap.size w W) => rgiven35 vl l W (hl.below hW) hn)
  unfold rightP
  have hv := giv_vals l
  obtain ⟨A, cap, rfl⟩ := hl.len
  generalize fewP l = b at *
  generalize givP l = n at *
  clear hl hn
  cases b with
  | false =>
    clear hv HG
    go_enter Tryz.func35, Tryz.ntmps35
    go_wp2_with fail
    refine (HF.out _ (Below.refl _ _)).mono ?_
    rintro e w1 ⟨rfl, hb1⟩
    go_wp2
    go_ret
    exact Ret.of rfl hb1
  | true =>
    rcases hv with rfl | rfl | rfl | rfl
    all_goals
      go_enter Tryz.func35, Tryz.ntmps35
      go_wp2_with fail
      refine (HF.out _ (Below.refl _ _)).mono ?_
      rintro e w1 ⟨rfl, hb1⟩
      go_wp2_with fail
      refine (HG.out _ hb1).mono ?_
      rintro e w2 ⟨rfl, hb2⟩
      have hb := bel_to hb1 hb2
      clear hb1 hb2 HF HG
      go_wp2
      go_ret
      exact Ret.of rfl hb
theorem revV_any (v : Value) (l : List PZ) (w w0 : World) (h : OwnV w w0.heap.size v l) (hb : Below w0.heap.size w0 w) (h0 : 0 < l.length) (hl : l.length ≤ 1000) :
    Calls Tryz.prog 37 #[v] w (fun e w' => e = .returned (.tuple #[]) ∧ OwnV w' w0.heap.size v l.reverse ∧ w.grownBy w' v.ownBlock ∧ Below w0.heap.size w0 w') := by
  obtain ⟨g, cap, rfl, hB, hlt⟩ := h.form h0
  refine (revOwnV g cap w0.heap.size l w h (by omega) (fun e => by rw [e] at h0; cases h0)).mono ?_
  rintro e w' ⟨rfl, ho, hg⟩
  exact ⟨rfl, ho, hg, hb.grown hg hb.size fun b hbb => by cases hbb; exact hB⟩
theorem elt_src (W : World) (a b : Int) : ∀ j u, (csV [((a, b) : PZ)])[j]? = some u → (W.alloc (.cells #[.int .i64 a, .int .i64 b] 69 (0, 0))).cell? ((⟨W.heap.size, 0, none⟩ : Addr).add j) = some u := fun j u hu => by
  have hq := (rnw (w := W) (t := 69) (xs := [.int .i64 a, .int .i64 b]))
  have q0 := hq.cell (i := 0) rfl
  have q1 := hq.cell (i := 1) rfl
  match j, hu with
  | 0, hu => obtain rfl := Option.some.inj hu; exact q0
  | 1, hu => obtain rfl := Option.some.inj hu; exact q1
theorem ownV_base {w : World} {B B' : Nat} {v : Value} {l : List PZ} (h : OwnV w B v l) (hB : B' ≤ B) : OwnV w B' v l := by
  obtain ⟨h1, h2⟩ := h
  refine ⟨h1, ?_⟩
  rcases h2 with h2 | ⟨g, cap, cur, e, hb, h3⟩
  · exact Or.inl h2
  · exact Or.inr ⟨g, cap, cur, e, Nat.le_trans hB hb, h3⟩
theorem row_src {W : World} {g : Nat} {a b : Int} (hq : Row W g 69 [.int .i64 a, .int .i64 b]) : ∀ j u, (csV [((a, b) : PZ)])[j]? = some u → W.cell? ((⟨g, 0, none⟩ : Addr).add j) = some u := fun j u hu => by
  have q0 := hq.cell (i := 0) rfl
  have q1 := hq.cell (i := 1) rfl
  match j, hu with
  | 0, hu => obtain rfl := Option.some.inj hu; exact q0
  | 1, hu => obtain rfl := Option.some.inj hu; exact q1
theorem moves35_law (vl : Value) (l : List PZ) (p : PZ) (w : World) (hg : Glob w) (hl : RdV w vl l) (hn : l.length ≤ maxLen) :
    Calls Tryz.prog 7 #[vl, ptV p] w (Ret w (.bool true)) := by
  have HAW := Lib.hid (fun W hW => awake35 W hW)
  have HRI := Lib.hid (fun W (hW : Below w.heap.size w W) => pright35 vl l W (hl.below hW) hn)
  have HG := Lib.hid hg
  have HL := Lib.hid (fun W (hW : Below w.heap.size w W) => hl.below hW)
  obtain ⟨px, py⟩ := p
  have HBY := Lib.hid (fun W => rright07 px py W)
  unfold ptV
  simp only
  have HR := Lib.hid (And.intro (rnw (w := w) (t := 69) (xs := [.int .i64 px, .int .i64 py])) (bel_alloc (Below.refl w.heap.size w) (.cells #[.int .i64 px, .int .i64 py] 69 (0, 0))))
  by_cases hr : rightP l = true
  · rw [hr] at HRI
    unfold rightP at hr
    rw [Bool.and_eq_true, decide_eq_true_eq] at hr
    have h8 := few_giv hr.1 hr.2
    obtain ⟨_, hne, hin⟩ := givP_iff.1 hr.2
    by_cases h7 : l.length ≤ 7
    · have hi7 : decide ((7 : Int) < (l.length : Int)) = false := decide_eq_false (by omega)
      by_cases hb : (inC px && inC py) = true
      · rw [hb] at HBY
        have hpin : inP (px, py) = true := hb
        have HPI := Lib.hid hpin
        obtain ⟨A, cap, rfl⟩ := hl.len
        have HIN := Lib.hid hin
        have HNE := Lib.hid hne
        clear hl hn hg hr hne hin hb hpin
        go_enter Tryz.func7, Tryz.ntmps7
        go_wp2_with fail
        refine (HRI.out _ HR.out.2).mono ?_
        rintro e w1 ⟨rfl, hb1⟩
        have H1 := Lib.hid (And.intro (HR.out.1.below' hb1) (bel_to HR.out.2 hb1))
        clear hb1 HR HRI
        have x0 := H1.out.1.cell (i := 0) rfl
        have x1 := H1.out.1.cell (i := 1) rfl
        go_wp2_with fail
        refine (HBY.out _).mono ?_
        rintro e w2 ⟨rfl, hb2⟩
        have H2 := Lib.hid (And.intro (H1.out.1.below' hb2) (bel_to H1.out.2 hb2))
        clear hb2 H1 x0 x1 hi7 HBY
        go_wp2_with fail
        go_loopw [5, 6, 37] (fun mv tv iv wr => ∃ (i : Nat) (v1 v2 : Value), iv = .int .i64 (i : Int) ∧ mv = v1 ∧ tv = v2 ∧ i ≤ l.length ∧ Hid (TwV w2 wr v1 v2 ((l.take i).map (movP px py)) ((l.take i).map twiP) ∧ (∀ q ∈ l.take i, halfP q = true) ∧ (0 < i → halfP (px, py) = true))) (fun _ _ iv _ => l.length - (intOf iv).toNat)
        case atStart => exact ⟨0, _, _, rfl, rfl, rfl, by omega, Lib.hid ⟨⟨OwnV.nil _ _, OwnV.nil _ _, Or.inl rfl, Or.inl rfl, Below.refl _ _⟩, fun q hq => (by cases hq), fun h => absurd h (by omega)⟩⟩
        case round =>
          obtain ⟨i, v1, v2, rfl, hv1, hv2, hi, hin'⟩ := hrel
          have hv1 := hv1.symm
          have hv2 := hv2.symm
          subst hv1
          subst hv2
          obtain ⟨E1, m1, k1, rfl⟩ := hin'.out.1.o1.shape
          obtain ⟨E2, m2, k2, rfl⟩ := hin'.out.1.o2.shape
          by_cases hlt : i < l.length
          · obtain ⟨b, o, rfl, hs⟩ := (HL.out wr (bel_to H2.out.2 hin'.out.1.bel)).row i hlt
            obtain ⟨y0, y1⟩ := hs.val i hlt
            have hm := inP_iff.1 (HIN.out _ (List.getElem_mem hlt))
            have hpm := inP_iff.1 HPI.out
            have HT : Hid ((l.take (i + 1)).map (movP px py) = (l.take i).map (movP px py) ++ [(px - l[i].2, py + l[i].1)] ∧ (l.take (i + 1)).map twiP = (l.take i).map twiP ++ [(2 * l[i].1, 2 * l[i].2)] ∧ ((∀ q ∈ l.take i, halfP q = true) → halfP (l[i].1, l[i].2) = true → ∀ q ∈ l.take (i + 1), halfP q = true)) := Lib.hid ⟨by
              rw [List.take_succ_eq_append_getElem hlt, List.map_append]; rfl, by
              rw [List.take_succ_eq_append_getElem hlt, List.map_append]; rfl, fun h1 h2 q hq => by
              rw [List.take_succ_eq_append_getElem hlt] at hq
              rcases List.mem_append.1 hq with hq | hq
              · exact h1 q hq
              · rw [List.mem_singleton.1 hq]; exact h2⟩
            have hi0 : (0 : Int) ≤ (i : Int) := by omega
            have hi1 : (i : Int) < (l.length : Int) := by omega
            clear hs
            generalize l[i].1 = x at *
            generalize l[i].2 = y at *
            simp only at hpm
            have hrb := (H2.out.1.below' hin'.out.1.bel).alloc (.cells #[.int .i64 x, .int .i64 y] 69 (0, 0))
            have c0 := hrb.cell (i := 0) rfl
            have c1 := hrb.cell (i := 1) rfl
            have hrx := (rnw (w := wr) (t := 69) (xs := [.int .i64 x, .int .i64 y]))
            have d0 := hrx.cell (i := 0) rfl
            have d1 := hrx.cell (i := 1) rfl
            clear hrb hrx
            have n1 : IntKind.i64.wrap (-x) = -x := IntWalk.i64_in _ (by omega)
            have n2 : IntKind.i64.wrap (-y) = -y := IntWalk.i64_in _ (by omega)
            have n3 : IntKind.i64.wrap (-px) = -px := IntWalk.i64_in _ (by omega)
            have n4 : IntKind.i64.wrap (-py) = -py := IntWalk.i64_in _ (by omega)
            have n5 : IntKind.i64.wrap (px - y) = px - y := IntWalk.i64_in _ (by omega)
            have n6 : IntKind.i64.wrap (py + x) = py + x := IntWalk.i64_in _ (by omega)
            have n7 : IntKind.i64.wrap (2 * x) = 2 * x := IntWalk.i64_in _ (by omega)
            have n8 : IntKind.i64.wrap (2 * y) = 2 * y := IntWalk.i64_in _ (by omega)
            have hmx := fun t ty W => max8_int x (-x) y (-y) px (-px) py (-py) t ty W
            obtain ⟨mx, hmq⟩ : ∃ m, m = max (max (max (max (max (max (max x (-x)) y) (-y)) px) (-px)) py) (-py) := ⟨_, rfl⟩
            rw [← hmq] at hmx
            have HHM := Lib.hid (half_max hmq)
            clear hmq hm hpm
            by_cases hbig : 50000 < mx
            · clear HT HHM d0 d1
              have HB := Lib.hid (bel_to (bel_to H2.out.2 hin'.out.1.bel) (bel_al wr (.cells #[.int .i64 x, .int .i64 y] 69 (0, 0))))
              go_wp2_with fail
              refine (HAW.out _ (HG.out.of HB.out)).mono ?_
              rintro e w5 ⟨rfl, hb5⟩
              have HB5 := Lib.hid (bel_to HB.out hb5)
              clear hb5 HB
              go_wp2
              go_ret
              exact Ret.of rfl HB5.out
            · have HHF := Lib.hid (HHM.out.2 hbig)
              have hdm : decide (50000 < mx) = false := decide_eq_false hbig
              clear HHM
              have hal := bel_to (bel_al wr (.cells #[.int .i64 x, .int .i64 y] 69 (0, 0))) (bel_al _ (.cells #[.int .i64 (px - y), .int .i64 (py + x)] 69 (0, 0)))
              have HT1 := Lib.hid (hin'.out.1.to hal)
              have hq := (rnew0 (w := wr.alloc (.cells #[.int .i64 x, .int .i64 y] 69 (0, 0))) (b := wr.heap.size + 1) (t := 69) (xs := [.int .i64 (px - y), .int .i64 (py + x)]) (World.size_alloc _ _).symm)
              have q0 := hq.cell (i := 0) rfl
              have q1 := hq.cell (i := 1) rfl
              have HC : Hid (∀ j u, (csV [((px - y, py + x) : PZ)])[j]? = some u → ((wr.alloc (.cells #[.int .i64 x, .int .i64 y] 69 (0, 0))).alloc (.cells #[.int .i64 (px - y), .int .i64 (py + x)] 69 (0, 0))).cell? ((⟨wr.heap.size + 1, 0, none⟩ : Addr).add j) = some u) := Lib.hid (fun j u hu => by
                match j, hu with
                | 0, hu => obtain rfl := Option.some.inj hu; exact q0
                | 1, hu => obtain rfl := Option.some.inj hu; exact q1)
              have HRX : Hid (Row ((wr.alloc (.cells #[.int .i64 x, .int .i64 y] 69 (0, 0))).alloc (.cells #[.int .i64 (px - y), .int .i64 (py + x)] 69 (0, 0))) wr.heap.size 69 [.int .i64 x, .int .i64 y]) := Lib.hid (rnw.alloc _)
              have HNE1 : Hid (some wr.heap.size ≠ (Value.slice E1 m1 k1).ownBlock ∧ some wr.heap.size ≠ (Value.slice E2 m2 k2).ownBlock) := Lib.hid ⟨fun e => by have := (World.ownsRow.lt hin'.out.1.o1 _ e.symm).2; omega, fun e => by have := (World.ownsRow.lt hin'.out.1.o2 _ e.symm).2; omega⟩
              have HLN : Hid ((((l.take i).map (movP px py)).length + 1) * 16 ≤ 140737488355328 ∧ (((l.take i).map twiP).length + 1) * 16 ≤ 140737488355328) := Lib.hid (by simp only [List.length_map, List.length_take]; omega)
              have HHI := Lib.hid hin'.out.2
              clear hal hq q0 q1 hin' hbig
              go_wp2_with (at_builtin; first
                | (have hz := HT3; clear hz; refine wpList_app_OwnV_at (m := [((2 * x, 2 * y) : PZ)]) rfl _ _ rfl rfl rfl rfl (HT3.out.to (bel_al w3 (.cells #[.int .i64 (2 * x), .int .i64 (2 * y)] 69 (0, 0)))).o2 HC2.out (HT3.out.to (bel_al w3 (.cells #[.int .i64 (2 * x), .int .i64 (2 * y)] 69 (0, 0)))).bel.size HLN.out.2 ?_; intro v4 w4 ho4 hg4 hd4)
                | (refine wpList_app_OwnV_at (m := [((px - y, py + x) : PZ)]) rfl _ _ rfl rfl rfl rfl HT1.out.o1 HC.out HT1.out.bel.size HLN.out.1 ?_; intro v3 w3 ho3 hg3 hd3; have HT3 := Lib.hid (HT1.out.app ho3 hg3 hd3); have f0 := (row_grown HRX.out hg3 HNE1.out.1).cell (i := 0) rfl; have f1 := (row_grown HRX.out hg3 HNE1.out.1).cell (i := 1) rfl; have HC2 := Lib.hid (elt_src w3 (2 * x) (2 * y)); clear ho3 hg3 hd3))
              have HT4 := Lib.hid ((HT3.out.to (bel_al w3 (.cells #[.int .i64 (2 * x), .int .i64 (2 * y)] 69 (0, 0)))).app2 ho4 hg4 hd4)
              clear ho4 hg4 hd4 HT3 HC2 f0 f1 HT1 HC HRX HNE1 d0 d1 c0 c1
              go_roundw
              case rel => exact ⟨i + 1, _, _, by go_num, rfl, rfl, hlt, Lib.hid ⟨by rw [HT.out.1, HT.out.2.1]; exact HT4.out, HT.out.2.2 HHI.out.1 HHF.out.1, fun _ => HHF.out.2⟩⟩
              case measure => simp [intOf]; omega
          · obtain rfl : i = l.length := by omega
            have hall : ∀ q ∈ l, halfP q = true := fun q hq => hin'.out.2.1 q (by rw [List.take_length]; exact hq)
            have hpos := List.length_pos_iff.2 HNE.out
            have hph := hin'.out.2.2 hpos
            have hT := hin'.out.1
            rw [List.take_length] at hT
            obtain ⟨a, wa, ba, hwa⟩ := pwidth35 HNE.out HIN.out h8
            obtain ⟨b, wb, _, hwb⟩ := pwidth35 (l := (l.map (movP px py)).reverse) (by simpa using HNE.out) (fun q hq => by
              rw [List.mem_reverse, List.mem_map] at hq
              obtain ⟨q', h1, rfl⟩ := hq
              exact mov_in (hall q' h1) hph) (by simpa using h8)
            obtain ⟨c, wc, _, hwc⟩ := pwidth35 (l := l.map twiP) (by simpa using HNE.out) (fun q hq => by
              rw [List.mem_map] at hq
              obtain ⟨q', h1, rfl⟩ := hq
              exact twi_in (hall q' h1)) (by simpa using h8)
            obtain ⟨d, wd, bd, hwd⟩ := pwidth35 (l := l ++ [(px, py)]) (by simp) (fun q hq => by
              rcases List.mem_append.1 hq with hq | hq
              · exact HIN.out q hq
              · rw [List.mem_singleton.1 hq]; exact HPI.out) (by simp; omega)
            obtain ⟨rfl, rfl, had⟩ := moves_plain HNE.out wa wb wc wd
            have hML := Lib.hid (fun W hW => ratMul 4 b 1 123 W hW four_bq ba (by decide))
            have hCM := Lib.hid (fun W hW => ratCompare d b 123 123 W hW bd ba (by decide))
            have hcm : decide (0 ≤ cmpQ d b) = true := decide_eq_true (by
              rcases Int.lt_or_le (cmpQ d b) 0 with h | h
              · have h2 := cmpQ_lt'.1 h; exact absurd had (by grind)
              · exact h)
            rw [t4] at hML
            have HW1 := Lib.hid hwa
            have HW2 := Lib.hid hwb
            have HW3 := Lib.hid hwc
            have HW4 := Lib.hid hwd
            have HTW := Lib.hid hT
            have HRV := Lib.hid (revV_any _ _ wr w2 hT.o1 hT.bel (by simpa using hpos) (by simp; omega))
            have HLEN : Hid (0 < l.length ∧ l.length ≤ 1000000 ∧ (l.length + 1) * 16 ≤ 140737488355328) := Lib.hid ⟨hpos, by omega, by omega⟩
            clear hall hpos hph hT wa wb wc wd ba bd had hwa hwb hwc hwd hin' HPI HIN HNE hi
            generalize cmpQ d b = cm at *
            generalize R (4 * b) = s4 at *
            generalize R b = sb at *
            generalize R d = sd at *
            go_wp2_with fail
            refine HRV.out.mono ?_
            rintro e w4 ⟨rfl, ho4, hg4, hb4⟩
            have HO4 := Lib.hid (And.intro ho4.rd (And.intro (show OwnV w4 w2.heap.size (.slice E2 m2 k2) (l.map twiP) from World.ownsRow.kept HTW.out.o2 hg4 HTW.out.d2).rd (bel_to H2.out.2 hb4)))
            have HR4 := Lib.hid (H2.out.1.below' hb4)
            clear ho4 hg4 hb4 HTW HRV H2
            go_wp2_with fail
            refine (HW1.out _ _ (HG.out.of HO4.out.2.2) (HL.out _ HO4.out.2.2)).mono ?_
            rintro e w5 ⟨rfl, hb5⟩
            have HO5 := Lib.hid (And.intro (HO4.out.1.below hb5) (And.intro (HO4.out.2.1.below hb5) (bel_to HO4.out.2.2 hb5)))
            have HR5 := Lib.hid (HR4.out.below' hb5)
            clear hb5 HO4 HR4 HW1
            go_wp2_with fail
            refine (HW2.out _ _ (HG.out.of HO5.out.2.2) HO5.out.1).mono ?_
            rintro e w6 ⟨rfl, hb6⟩
            have HO6 := Lib.hid (And.intro (HO5.out.2.1.below hb6) (bel_to HO5.out.2.2 hb6))
            have HR6 := Lib.hid (HR5.out.below' hb6)
            clear hb6 HO5 HR5 HW2
            go_wp2_with fail
            refine (HW3.out _ _ (HG.out.of HO6.out.2) HO6.out.1).mono ?_
            rintro e w8 ⟨rfl, hb8⟩
            have HO8 := Lib.hid (bel_to HO6.out.2 hb8)
            have HR8 := Lib.hid (HR6.out.below' hb8)
            clear hb8 HO6 HR6 HW3
            have HCB := Lib.hid (fun E (hE : Below w8.heap.size w8 E) => And.intro ((HR8.out.below' hE).cell (i := 0) rfl) ((HR8.out.below' hE).cell (i := 1) rfl))
            go_wp2_with fail
            go_region_held3 (fun E => E.cell? ⟨w.heap.size, 0, none⟩ = some (.int .i64 px) ∧ E.cell? ⟨w.heap.size, 1, none⟩ = some (.int .i64 py))
              (first | exact HCB.out _ HA8.out | exact HCB.out _ HA7.out.2 | exact HCB.out _ HA6.out.2 | exact HCB.out _ (bel_alloc HA6.out.2 _) | exact HCB.out _ (RowKit.Below.drew (Below.refl w8.heap.size w8)) | exact HCB.out _ (RowKit.Below.drew (bel_alloc (Below.refl w8.heap.size w8) (.cells #[.int .i64 px, .int .i64 py] 69 (0, 0)))) | exact HCB.out _ (bel_alloc (RowKit.Below.drew (Below.refl w8.heap.size w8)) (.cells #[.int .i64 px, .int .i64 py] 69 (0, 0))) | exact HCB.out _ (Below.refl w8.heap.size w8) | exact HCB.out _ (bel_alloc (Below.refl w8.heap.size w8) (.cells #[.int .i64 px, .int .i64 py] 69 (0, 0))))
              (first
                | (go_at_call 38; refine (HW4.out _ _ (HG.out.of (bel_to HO8.out HA7.out.2)) HA7.out.1.rd).mono ?_; rintro e w13 ⟨rfl, hb13⟩; have HA8 := Lib.hid (bel_to HA7.out.2 hb13))
                | (have hz := HE6; clear hz; refine step_app_OwnV (m := [((px, py) : PZ)]) rfl (.tmp 108) (.tmp 110) rfl rfl rfl rfl HA6.out.1 HE6.out HA6.out.2.size HLEN.out.2.2 ?_; intro v7 w7 ho7 hg7; have HA7 := Lib.hid (And.intro ho7 (app_belOwnV HA6.out.1 HA6.out.2 (Nat.le_refl _) hg7)))
                | (refine step_app_OwnV (m := [((px, py) : PZ)]) rfl (.tmp 108) (.tmp 110) rfl rfl rfl rfl (HA6.out.1.alloc _) (elt_src w6 px py) (bel_alloc HA6.out.2 (.cells #[.int .i64 px, .int .i64 py] 69 (0, 0))).size HLEN.out.2.2 ?_; intro v7 w7 ho7 hg7; have HA7 := Lib.hid (And.intro ho7 (app_belOwnV (HA6.out.1.alloc _) (bel_alloc HA6.out.2 (.cells #[.int .i64 px, .int .i64 py] 69 (0, 0))) (Nat.le_refl _) hg7)))
                | (go_at_call 39; refine (pcloneOwnV _ l _ (HL.out _ (bel_to HO8.out (by first | exact RowKit.Below.drew (Below.refl w8.heap.size w8) | exact RowKit.Below.drew (bel_alloc (Below.refl w8.heap.size w8) (.cells #[.int .i64 px, .int .i64 py] 69 (0, 0))) | exact bel_alloc (RowKit.Below.drew (Below.refl w8.heap.size w8)) (.cells #[.int .i64 px, .int .i64 py] 69 (0, 0)) | exact Below.refl w8.heap.size w8 | exact bel_alloc (Below.refl w8.heap.size w8) (.cells #[.int .i64 px, .int .i64 py] 69 (0, 0))))) HLEN.out.1 HLEN.out.2.1).mono ?_; rintro e w6 ⟨g6, cp6, rfl, _, ho, hb6⟩; first
                  | (have HA6 := Lib.hid (And.intro (ownV_base ho (RowKit.Below.drew (Below.refl w8.heap.size w8)).size) (bel_to (RowKit.Below.drew (Below.refl w8.heap.size w8)) hb6)))
                  | (have HA6 := Lib.hid (And.intro (ownV_base ho (RowKit.Below.drew (bel_alloc (Below.refl w8.heap.size w8) (.cells #[.int .i64 px, .int .i64 py] 69 (0, 0)))).size) (bel_to (RowKit.Below.drew (bel_alloc (Below.refl w8.heap.size w8) (.cells #[.int .i64 px, .int .i64 py] 69 (0, 0)))) hb6)); have HE6 := Lib.hid (row_src ((show Row (w8.alloc (.cells #[.int .i64 px, .int .i64 py] 69 (0, 0))).drew w8.heap.size 69 [.int .i64 px, .int .i64 py] from rnw).below' hb6)))
                  | (have HA6 := Lib.hid (And.intro (ownV_base ho (bel_alloc (RowKit.Below.drew (Below.refl w8.heap.size w8)) (.cells #[.int .i64 px, .int .i64 py] 69 (0, 0))).size) (bel_to (bel_alloc (RowKit.Below.drew (Below.refl w8.heap.size w8)) (.cells #[.int .i64 px, .int .i64 py] 69 (0, 0))) hb6)); have HE6 := Lib.hid (row_src ((show Row (w8.drew.alloc (.cells #[.int .i64 px, .int .i64 py] 69 (0, 0))) w8.heap.size 69 [.int .i64 px, .int .i64 py] from rnw).below' hb6)))
                  | (have HA6 := Lib.hid (And.intro (ownV_base ho (Below.refl w8.heap.size w8).size) (bel_to (Below.refl w8.heap.size w8) hb6)))
                  | (have HA6 := Lib.hid (And.intro (ownV_base ho (bel_alloc (Below.refl w8.heap.size w8) (.cells #[.int .i64 px, .int .i64 py] 69 (0, 0))).size) (bel_to (bel_alloc (Below.refl w8.heap.size w8) (.cells #[.int .i64 px, .int .i64 py] 69 (0, 0))) hb6)); have HE6 := Lib.hid (row_src ((show Row (w8.alloc (.cells #[.int .i64 px, .int .i64 py] 69 (0, 0))) w8.heap.size 69 [.int .i64 px, .int .i64 py] from rnw).below' hb6)))
                ))
            all_goals
              have HO9 := Lib.hid (bel_to HO8.out HA8.out)
              clear HR8 HCB HA8 HO8 HW4
              go_wp2_with fail
              refine (hML.out _ (HG.out.of HO9.out)).mono ?_
              rintro e w14 ⟨rfl, hb14⟩
              have HO10 := Lib.hid (bel_to HO9.out hb14)
              clear hb14 HO9 hML
              go_wp2_with fail
              refine (hCM.out _ (HG.out.of HO10.out)).mono ?_
              rintro e w15 ⟨rfl, hb15⟩
              have HO11 := Lib.hid (bel_to HO10.out hb15)
              clear hb15 HO10 hCM
              go_wp2_with fail
              refine (HAW.out _ (HG.out.of HO11.out)).mono ?_
              rintro e w16 ⟨rfl, hb16⟩
              have hbz := bel_to HO11.out hb16
              clear hb16 HO11
              go_wp2
              go_ret
              exact Ret.of rfl hbz
      · rw [Bool.not_eq_true] at hb
        rw [hb] at HBY
        obtain ⟨A, cap, rfl⟩ := hl.len
        clear hl hn hg hr hne hin hb
        go_enter Tryz.func7, Tryz.ntmps7
        go_wp2_with fail
        refine (HRI.out _ HR.out.2).mono ?_
        rintro e w1 ⟨rfl, hb1⟩
        have H1 := Lib.hid (And.intro (HR.out.1.below' hb1) (bel_to HR.out.2 hb1))
        clear hb1 HR HRI
        have x0 := H1.out.1.cell (i := 0) rfl
        have x1 := H1.out.1.cell (i := 1) rfl
        go_wp2_with fail
        refine (HBY.out _).mono ?_
        rintro e w2 ⟨rfl, hb2⟩
        have H2 := Lib.hid (bel_to H1.out.2 hb2)
        clear hb2 H1 x0 x1 hi7
        go_wp2_with fail
        refine (HAW.out _ (HG.out.of H2.out)).mono ?_
        rintro e w3 ⟨rfl, hb3⟩
        go_wp2
        go_ret
        exact Ret.of rfl (bel_to H2.out hb3)
    · have hi7 : decide ((7 : Int) < (l.length : Int)) = true := decide_eq_true (by omega)
      obtain ⟨A, cap, rfl⟩ := hl.len
      clear hl hn hg hr hne hin
      go_enter Tryz.func7, Tryz.ntmps7
      go_wp2_with fail
      refine (HRI.out _ HR.out.2).mono ?_
      rintro e w1 ⟨rfl, hb1⟩
      have H1 := Lib.hid (bel_to HR.out.2 hb1)
      clear hb1 HR HRI
      go_wp2_with fail
      refine (HAW.out _ (HG.out.of H1.out)).mono ?_
      rintro e w2 ⟨rfl, hb2⟩
      go_wp2
      go_ret
      exact Ret.of rfl (bel_to H1.out hb2)
  · rw [Bool.not_eq_true] at hr
    rw [hr] at HRI
    obtain ⟨A, cap, rfl⟩ := hl.len
    clear hl hn hg hr
    go_enter Tryz.func7, Tryz.ntmps7
    go_wp2_with fail
    refine (HRI.out _ HR.out.2).mono ?_
    rintro e w1 ⟨rfl, hb1⟩
    have H1 := Lib.hid (bel_to HR.out.2 hb1)
    clear hb1 HR HRI
    go_wp2_with fail
    refine (HAW.out _ (HG.out.of H1.out)).mono ?_
    rintro e w2 ⟨rfl, hb2⟩
    go_wp2
    go_ret
    exact Ret.of rfl (bel_to H1.out hb2)
end W
end Go.Proofs.YtijpgddpejiohaaGreatDoor
end
