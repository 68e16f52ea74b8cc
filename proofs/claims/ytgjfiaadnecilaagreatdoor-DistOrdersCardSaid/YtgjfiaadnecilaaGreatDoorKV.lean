/-
  Chapter 26, plain facts for 'DistOrders': what the split elements come to, and where a quantile lies.
  Chapter 26: slices.Backward over values with weights: its iterator's contract; and the law of 'append' in the body of such a loop.
  Chapter 26: what the loops of 'DistOrders' keep.
-/
import Derived.Test.YtgjfiaadnecilaaGreatDoorKU
import Derived.RangeFuncNested
import Derived.RangeFuncBound
import Derived.RangeFuncCalls
import Derived.RangeFuncLeaves
import Derived.RangeFuncBox
import Derived.Shelf.Abstract
import Derived.Shelf.RegionOpen
import Derived.WalkKit
import Derived.OwnWalkIn
import Derived.TacticsInMore
import Derived.LoopNIn
import Derived.LoopIn
import Derived.Test.YtgjfiaadnecilaaGreatDoorKR
namespace Go.Proofs.YtgjfiaadnecilaaGreatDoor
open Go Go.RowKit Go.Deep
namespace M
/-- An element in three parts. -/
def thr (x : ZT) : List ZT := [(x.1, 0), (x.1, x.2), (x.1, 1)]
/-- The parts of all elements from the last one to that at place k. -/
def spl (zl : List ZT) (k : Nat) : List ZT := (zl.drop k).reverse.flatMap thr
/-- What the first i elements still lack. -/
def lack (zl : List ZT) (i : Nat) : List ZT := (zl.take i).map fun x => (x.1, x.2 - 1)
theorem spl_end (zl : List ZT) : spl zl zl.length = [] := by simp [spl]
theorem spl_step {zl : List ZT} {k : Nat} (h : k < zl.length) : spl zl k = spl zl (k + 1) ++ thr zl[k] := by
  unfold spl
  rw [List.drop_eq_getElem_cons h, List.reverse_cons, List.flatMap_append]
  simp
theorem lack_step {zl : List ZT} {i : Nat} (h : i < zl.length) : lack zl (i + 1) = lack zl i ++ [(zl[i].1, zl[i].2 - 1)] := by
  unfold lack
  rw [List.take_succ_eq_append_getElem h, List.map_append]; rfl
theorem spl_len (zl : List ZT) : ∀ d k, k + d = zl.length → (spl zl k).length = 3 * d
  | 0, k, h => by obtain rfl : k = zl.length := by omega
                  rw [spl_end]; rfl
  | d + 1, k, h => by
    rw [spl_step (by omega), List.length_append, spl_len zl d (k + 1) (by omega)]
    show 3 * d + 3 = _
    omega
theorem lack_len {zl : List ZT} {i : Nat} (h : i ≤ zl.length) : (lack zl i).length = i := by
  unfold lack; rw [List.length_map, List.length_take]; omega
/-- How many elements have this value. -/
def cntAt : List ZT → Int → Int
  | [], _ => 0
  | x :: t, v => (if x.1 = v then 1 else 0) + cntAt t v
theorem cntAt_append (a b : List ZT) (v : Int) : cntAt (a ++ b) v = cntAt a v + cntAt b v := by
  induction a with
  | nil => simp [cntAt]
  | cons x t ih => simp only [List.cons_append, cntAt, ih]; omega
theorem sumAt_rev (l : List ZT) (v : Int) : sumAt l.reverse v = sumAt l v := by
  induction l with
  | nil => rfl
  | cons x t ih => rw [List.reverse_cons, sumAt_append, ih, sumAt, sumAt, sumAt]; omega
theorem cntAt_rev (l : List ZT) (v : Int) : cntAt l.reverse v = cntAt l v := by
  induction l with
  | nil => rfl
  | cons x t ih => rw [List.reverse_cons, cntAt_append, ih, cntAt, cntAt, cntAt]; omega
theorem sumAt_thr (l : List ZT) (v : Int) : sumAt (l.flatMap thr) v = sumAt l v + cntAt l v := by
  induction l with
  | nil => rfl
  | cons x t ih =>
    rw [List.flatMap_cons, sumAt_append, ih]
    simp only [thr, sumAt, cntAt]
    split <;> omega
theorem sumAt_lack (l : List ZT) (v : Int) : sumAt (l.map fun x => (x.1, x.2 - 1)) v = sumAt l v - cntAt l v := by
  induction l with
  | nil => rfl
  | cons x t ih =>
    rw [List.map_cons]
    simp only [sumAt, cntAt, ih]
    split <;> omega
theorem keyIn_thr (l : List ZT) (v : Int) : keyIn (l.flatMap thr) v ↔ keyIn l v := by
  unfold keyIn
  constructor
  · rintro ⟨x, hx, rfl⟩
    obtain ⟨y, hy, hxy⟩ := List.mem_flatMap.1 hx
    refine ⟨y, hy, ?_⟩
    simp only [thr, List.mem_cons, List.not_mem_nil, or_false] at hxy
    rcases hxy with rfl | rfl | rfl <;> rfl
  · rintro ⟨x, hx, rfl⟩
    exact ⟨(x.1, x.2), List.mem_flatMap.2 ⟨x, hx, by simp [thr]⟩, rfl⟩
theorem keyIn_lack {l : List ZT} {v : Int} : keyIn (l.map fun x => (x.1, x.2 - 1)) v ↔ keyIn l v := by
  unfold keyIn
  constructor
  · rintro ⟨x, hx, rfl⟩
    obtain ⟨y, hy, rfl⟩ := List.mem_map.1 hx
    exact ⟨y, hy, rfl⟩
  · rintro ⟨x, hx, rfl⟩
    exact ⟨_, List.mem_map.2 ⟨x, hx, rfl⟩, rfl⟩
theorem keyIn_rev {l : List ZT} {v : Int} : keyIn l.reverse v ↔ keyIn l v := by
  unfold keyIn; simp
/-- What the split elements are collected into. -/
theorem gath_spl {zl : List ZT} (h : GoodL zl) : gathF (spl zl 0 ++ lack zl zl.length) = kmu 2 zl := by
  have ha : Asc zl := h.1.pair.1
  have e1 : spl zl 0 = zl.reverse.flatMap thr := by unfold spl; rw [List.drop_zero]
  have e2 : lack zl zl.length = zl.map fun x => (x.1, x.2 - 1) := by unfold lack; rw [List.take_length]
  have hs : ∀ v, sumAt (spl zl 0 ++ lack zl zl.length) v = sumAt zl v * 2 := fun v => by
    rw [sumAt_append, e1, e2, sumAt_thr, sumAt_rev, cntAt_rev, sumAt_lack]; omega
  have hk : ∀ v, keyIn (spl zl 0 ++ lack zl zl.length) v ↔ keyIn zl v := fun v => by
    rw [keyIn_append, e1, e2, keyIn_thr, keyIn_rev, keyIn_lack, or_self]
  symm
  refine gathF_of ?_ fun x => ?_
  · unfold Asc kmu
    rw [List.pairwise_map]
    exact ha
  · rw [hk, hs]
    unfold kmu
    rw [List.mem_map]
    constructor
    · rintro ⟨y, hy, rfl⟩
      have h1 := (asc_mem ha y).1 hy
      have h2 := h.1.mem y hy
      exact ⟨h1.1, by simp only; rw [← h1.2], by simp only; omega⟩
    · rintro ⟨h1, h2, h3⟩
      refine ⟨(x.1, sumAt zl x.1), (asc_mem ha _).2 ⟨h1, rfl⟩, ?_⟩
      simp only
      rw [← h2]
/-- The parts are right. -/
theorem spl_right {zl : List ZT} (h : GoodL zl) (h15 : ∀ x ∈ zl, x.2.natAbs < 10 ^ 15) : ∀ x ∈ spl zl 0 ++ lack zl zl.length, 0 ≤ x.2 ∧ x.2.natAbs < 10 ^ 40 ∧ okv x.1 = true := by
  intro x hx
  have hp : (10 : Nat) ^ 15 ≤ 10 ^ 40 := by decide
  have hp1 : (1 : Nat) < 10 ^ 40 := by decide
  rcases List.mem_append.1 hx with hx | hx
  · obtain ⟨y, hy, hxy⟩ := List.mem_flatMap.1 hx
    rw [List.mem_reverse, List.drop_zero] at hy
    have h1 := h.1.mem y hy
    have h2 := h15 y hy
    have hv : okv y.1 = true := okv_true.2 h1.2.2
    simp only [thr, List.mem_cons, List.not_mem_nil, or_false] at hxy
    rcases hxy with rfl | rfl | rfl
    · exact ⟨Int.le_refl _, by simp only; omega, hv⟩
    · exact ⟨by simp only; omega, by simp only; omega, hv⟩
    · exact ⟨by simp only; omega, by simp only; omega, hv⟩
  · obtain ⟨y, hy, rfl⟩ := List.mem_map.1 hx
    rw [List.take_length] at hy
    have h1 := h.1.mem y hy
    have h2 := h15 y hy
    exact ⟨by simp only; omega, by simp only; omega, okv_true.2 h1.2.2⟩
theorem qfrom_spec {zl : List ZT} {q : Rat} (hl : ∃ i, i < zl.length ∧ q ≤ cumQ zl i) : ∀ (d k : Nat), k + d = zl.length → (∀ j, j < k → cumQ zl j < q) → ∃ i, ∃ hi : i < zl.length, qfrom zl q (zl.length - k) k = zl[i].1 ∧ q ≤ cumQ zl i ∧ ∀ j, j < i → cumQ zl j < q
  | 0, k, hk, hb => by
    obtain ⟨i, hi, hq⟩ := hl
    exact absurd hq (Rat.not_le.2 (hb i (by omega)))
  | d + 1, k, hk, hb => by
    by_cases h : q ≤ cumQ zl k
    · exact ⟨k, by omega, qfrom_here (by omega) h, h, hb⟩
    · rw [qfrom_next (by omega) h]
      exact qfrom_spec hl d (k + 1) (by omega) fun j hj => by
        by_cases hjk : j = k
        · rw [hjk]; exact Rat.not_le.1 h
        · exact hb j (by omega)
/-- The quantile is the first value up to which the probabilities reach the number. -/
theorem quan_spec {zl : List ZT} {q : Rat} (h : GoodL zl) (hu : Un q) : ∃ i, ∃ hi : i < zl.length, quanV zl q = zl[i].1 ∧ q ≤ cumQ zl i ∧ ∀ j, j < i → cumQ zl j < q := by
  have hpos := List.length_pos_iff.2 h.2.1
  exact qfrom_spec ⟨zl.length - 1, by omega, by rw [cum_last h _ (by omega)]; exact hu.2⟩ zl.length 0 (by omega) (fun j hj => absurd hj (Nat.not_lt_zero _))
theorem inn_pred {zl : List ZT} {lo : Int} (h : zl.Pairwise fun a b => a.1 < b.1) (i : Nat) (hi : i + 1 < zl.length) : ∀ x ∈ zl, inn lo (zl[i + 1].1 - 1) x = inn lo zl[i].1 x := by
  intro x hx
  obtain ⟨j, hj, rfl⟩ := List.getElem_of_mem hx
  rw [List.pairwise_iff_getElem] at h
  have h2 := h i (i + 1) (by omega) hi (by omega)
  unfold inn
  by_cases hji : j ≤ i
  · have h1 : zl[j].1 ≤ zl[i].1 := by
      rcases Nat.lt_or_eq_of_le hji with hlt | rfl
      · exact Int.le_of_lt (h j i hj (by omega) hlt)
      · exact Int.le_refl _
    by_cases hlo : zl[j].1 < lo
    · rw [if_pos (Or.inl hlo), if_pos (Or.inl hlo)]
    · rw [if_neg (by omega), if_neg (by omega)]
  · have h1 : zl[i + 1].1 ≤ zl[j].1 := by
      rcases Nat.lt_or_eq_of_le (show i + 1 ≤ j by omega) with hlt | rfl
      · exact Int.le_of_lt (h (i + 1) j hi hj hlt)
      · exact Int.le_refl _
    rw [if_pos (Or.inr (by omega)), if_pos (Or.inr (by omega))]
theorem first_lt {zl : List ZT} (h : GoodL zl) (i : Nat) (hi : i + 1 < zl.length) : zl[0].1 < zl[i + 1].1 := by
  have hp := h.1.pair.1
  rw [List.pairwise_iff_getElem] at hp
  exact hp 0 (i + 1) (by omega) hi (by omega)
theorem prob_pred {zl : List ZT} {lo : Int} (h : GoodL zl) (hlo : ∀ x ∈ zl, lo ≤ x.1) (i : Nat) (hi : i + 1 < zl.length) : probQ zl lo (zl[i + 1].1 - 1) = cumQ zl i := by
  rw [← prob_cum h hlo i (by omega)]
  unfold probQ inw
  rw [List.map_congr_left (inn_pred h.1.pair.1 i hi)]
end M
end Go.Proofs.YtgjfiaadnecilaaGreatDoor
namespace Go.Proofs.YtgjfiaadnecilaaGreatDoor
open Go Go.RowKit Go.Deep Go.Shelf
/-- What the body of such a loop keeps: what lay below n, and the iterator's box. -/
def KB (n Bs : Nat) (W W' : World) : Prop := Below n W W' ∧ W'.heap[Bs]? = W.heap[Bs]?
theorem KB.trans {n Bs : Nat} {A B C : World} (h : KB n Bs A B) (k : KB n Bs B C) : KB n Bs A C := ⟨h.1.trans k.1, k.2.trans h.2⟩
theorem KB.refl (n Bs : Nat) (A : World) : KB n Bs A A := ⟨Below.refl _ _, rfl⟩
theorem KB.put {n Bs : Nat} {w : World} (hn : n ≤ w.heap.size) (hB : Bs < w.heap.size) (W : World) (l : Nat) (o o' : Obj) (hl : w.heap.size ≤ l) (h : W.heap[l]? = some o) (h1 : o.isCells = false) (h2 : o.isWalk = false) : KB n Bs W (W.putObj l o') :=
  ⟨belowK_b hn W l o o' hl h h1 h2, (grownBy_putObj' W l o').block Bs (by have := (Array.getElem?_eq_some_iff.1 h).1; omega) (fun e => by cases e; omega)⟩
theorem wpListIn_app_rdg {F : Fence} {n : Nat} {ops : Array Oper} {rest : List Oper} {o : Oper} {a : Act} {Q : Exit → Act → World → Prop} {w : World} {B : Nat} {v xv : Value} {l m : List M.WT} (hgd : o.guard = none) (s x : Operand)
    (ho : o.op = .call { callee := .builtin .append, args := #[s, x], argTypes := #[22, 22] }) (hs : a.eval s = v) (hx : a.eval x = xv)
    (h : OwnW w B v l) (hsrc : SrcW w xv m) (hB : B ≤ w.heap.size) (hn : l.length + m.length ≤ 1000000000)
    (hK : ∀ v' w', OwnW w' B v' (l ++ m) → w.grownBy w' v.ownBlock → wpListIn F n Tryz.prog ops Q rest (a.put o.dst v') w') : wpListIn F n Tryz.prog ops Q (o :: rest) a w := by
  refine wpListIn_plain hgd fun K hK2 => ?_
  obtain ⟨v', w', hr, h2, h3⟩ := run_app_rdg o.type h hsrc hB hn
  unfold Oper.wpIn
  refine ⟨by simp [Oper.about, ho, resolve, Target.leads, Sem.run_pure], ?_⟩
  rw [Oper.semAt_plain F _ _ (by rw [ho]; intro c hc'; cases hc')]
  simp [execOp, ho, resolve, invoke, builtin, hs, hx, hr, Result.andThen]
  exact hK2 _ _ (hK v' w' h2 h3)
/-- A box that holds a list of the call's own. -/
def HP (W : World) (H B : Nat) (v : Value) (l : List M.WT) : Prop := Boxed W H 22 v ∧ OwnW W B v l ∧ B ≤ H
theorem HP.below {W W' : World} {H B : Nat} {v : Value} {l : List M.WT} (h : HP W H B v l) (hb : Below W.heap.size W W') : HP W' H B v l :=
  ⟨(hb.block H h.1.lt).trans h.1, h.2.1.below hb, h.2.2⟩
theorem HP.alloc {W : World} {H B : Nat} {v : Value} {l : List M.WT} (h : HP W H B v l) (o : Obj) : HP (W.alloc o) H B v l := ⟨h.1.alloc o, h.2.1.alloc o, h.2.2⟩
theorem HP.app {W w1 : World} {H B : Nat} {v v' : Value} {l m : List M.WT} {o : Obj} (h : HP W H B v l) (h1 : OwnW w1 B v' (l ++ m)) (hg : (W.alloc o).grownBy w1 v.ownBlock) :
    Boxed w1 H 22 v ∧ HP (w1.setCell ⟨H, 0, none⟩ v') H B v' (l ++ m) ∧ KeepsOthers W (w1.setCell ⟨H, 0, none⟩ v') ∧ Below B W (w1.setCell ⟨H, 0, none⟩ v') := by
  have hlt := h.1.lt
  obtain ⟨a1, a2, a3, a4, a5⟩ := h.1.appended (by decide) h.2.1 (by have := h.2.2; omega) h.2.2 h1 hg
  exact ⟨a1, ⟨a2, a3, h.2.2⟩, a4, a5⟩
/-- Another block is as it was. -/
theorem HP.app_other {W w1 : World} {H : Nat} {v v' : Value} {o : Obj} (hg : (W.alloc o).grownBy w1 v.ownBlock) {C : Nat} (hC : C < W.heap.size) (h1 : C ≠ H) (h2 : some C ≠ v.ownBlock) :
    (w1.setCell ⟨H, 0, none⟩ v').heap[C]? = W.heap[C]? :=
  (Below.heap_setCell _ _ _ C (fun e => h1 e)).trans ((hg.block C (by rw [World.size_alloc]; omega) h2).trans (Below.heap_alloc W o C hC))
namespace W
open M
attribute [local go_sem] bs_size bs_toList bs_get bs_extract bs_append bs_lit0 bs_lit1 lit1_bs
attribute [local go_sem] Oper.semAt_some
set_option maxHeartbeats 2000000
set_option maxRecDepth 100000
abbrev encB (x : Nat × ZT) : Array Value := #[.int .i64 (x.1 : Int), .agg #[.int .i64 x.2.1, .string (bs (I x.2.2))]]
theorem backward_ok (a : Option Addr) (len cap : Nat) (w : World) :
    Calls Tryz.prog 47 #[.slice a len cap] w fun e w' => e = .returned (.func (.func 102) #[] #[.pointer (some ⟨w.heap.size, 0, none⟩)]) ∧ w' = w.alloc (.cells #[.slice a len cap] 22 (0, 0)) := by
  go_enter Tryz.func47, Tryz.ntmps47
  go_wp2
  go_ret
  exact ⟨rfl, rfl⟩
theorem drop_rev {zl : List ZT} {m : Nat} {pre : List (Nat × ZT)} (h : m < zl.length) (hp : pre.map Prod.snd = (zl.drop (m + 1)).reverse) : (pre ++ [((m, zl[m]) : Nat × ZT)]).map Prod.snd = (zl.drop m).reverse := by
  rw [List.map_append, hp, List.drop_eq_getElem_cons h, List.reverse_cons]; rfl
theorem back1_in (F : Fence) (n : Nat) (hF : F.fn 102) (hro : F.round = none) (hn : 1 ≤ n) (l Bs n₀ b o cap : Nat) (zl : List ZT) (hlen : zl.length ≤ 4096) (hb : b < n₀) (J Jx : List (Nat × ZT) → World → Prop)
    (hY : ∀ pre x W, J pre W → pre.length < zl.length → YieldAt F (n - 1) Tryz.prog l (encB x) W fun e W' =>
      (e = .returned (.bool true) ∧ J (pre ++ [x]) W' ∧ KB n₀ Bs W W') ∨ (e = .returned (.bool false) ∧ Jx (pre ++ [x]) W'))
    (W : World) (hBs : Boxed W Bs 22 (.slice (some ⟨b, o, none⟩) zl.length cap)) (hw : WSl W b o (tx zl)) (h0 : J [] W) :
    CallsIn F n Tryz.prog 102 #[.func (.yield l) #[] #[], .pointer (some ⟨Bs, 0, none⟩)] W fun e W' => (∃ v, e = .returned v) ∧
      ((∃ ys : List (Nat × ZT), ys.map Prod.snd = zl.reverse ∧ J ys W') ∨ (∃ pre : List (Nat × ZT), True ∧ Jx pre W')) := by
  have hstart : wrap64 ((zl.length : Int) - 1) = (zl.length : Int) - 1 := IntWalk.wrap64_in _ (by omega)
  have HW := Lib.hid hw
  have hcb := hBs.cell
  clear hw
  refine callsIn_of_wp Tryz.func102 rfl hF ?_ hro
  simp only [Tryz.ntmps102, List.size_toArray, List.length_cons, List.length_nil, Nat.reduceAdd, Nat.reduceSub, Array.replicate_succ, Array.replicate_zero, List.push_toArray, List.append_toArray, List.nil_append, List.cons_append]
  gi_wp2
  gi_loopw [3] (fun i wr => ∃ (k : Nat) (pre : List (Nat × ZT)), k ≤ zl.length ∧ i = .int .i64 ((k : Int) - 1) ∧ pre.length = zl.length - k ∧ Hid (pre.map Prod.snd = (zl.drop k).reverse) ∧ J pre wr ∧ Hid (KB n₀ Bs W wr))
    (fun i _ => (intOf i + 1).toNat)
  case atStart => exact ⟨zl.length, [], Nat.le_refl _, rfl, by simp, (by simp : ([] : List (Nat × ZT)).map Prod.snd = (zl.drop zl.length).reverse), h0, KB.refl _ _ _⟩
  case round =>
    obtain ⟨k, pre, hk, rfl, hpl, hpre, hJs, hkb⟩ := hrel
    have hbox : Boxed wr Bs 22 (.slice (some ⟨b, o, none⟩) zl.length cap) := hkb.out.2.trans hBs
    have hcx := hbox.cell
    cases k with
    | zero =>
      have hfin := hpre.out
      rw [List.drop_zero] at hfin
      have HF := Lib.hid hfin
      clear hfin
      gi_wp2
      go_end0
      exact ⟨⟨_, rfl⟩, .inl ⟨pre, HF.out, hJs⟩⟩
    | succ m =>
      rw [show ((m + 1 : Nat) : Int) - 1 = (m : Int) by omega]
      have hlt : m < zl.length := by omega
      have hlt' : m < (tx zl).length := by rw [tx_len]; exact hlt
      have cv := (hkb.out.1.cell (p := ⟨b, o + m * 2, none⟩) hb).trans (HW.out.val m hlt')
      have cw := (hkb.out.1.cell (p := ⟨b, o + m * 2 + 1, none⟩) hb).trans (HW.out.wt m hlt')
      rw [tx_get zl m hlt] at cv cw
      simp only at cv cw
      have hnext : wrap64 ((m : Int) - 1) = (m : Int) - 1 := IntWalk.wrap64_in _ (by omega)
      obtain ⟨fn, tmps, assign, body, hy, hR⟩ := hY pre (m, zl[m]) wr hJs (by omega)
      dsimp only [encB] at hy
      have HPRE := Lib.hid (drop_rev hlt hpre.out)
      clear hpre
      gi_wp2
      refine hR.mono ?_
      rintro e W3 (⟨rfl, hJ3, hk3⟩ | ⟨rfl, hJx3⟩)
      · have HK3 := Lib.hid (hkb.out.trans hk3)
        clear hk3
        gi_wp2
        go_roundw
        case rel => exact ⟨m, pre ++ [(m, zl[m])], by omega, rfl, by rw [List.length_append]; simp; omega, HPRE, hJ3, HK3⟩
        case measure => simp [intOf]
      · gi_wp2
        refine bodyPost_ret (results_none rfl _ _ _) rfl ?_
        exact ⟨⟨_, rfl⟩, .inr ⟨_, trivial, hJx3⟩⟩
/-- The iterator hands on the elements from the last one to the first. -/
theorem back_stops (F : Fence) (n : Nat) (hF : F.fn 102) (hro : F.round = none) (hn : 1 ≤ n) (Bs n₀ b o cap : Nat) (zl : List ZT) (hlen : zl.length ≤ 4096) (w : World) (hb : b < n₀)
    (hBs : Boxed w Bs 22 (.slice (some ⟨b, o, none⟩) zl.length cap)) (hw : WSl w b o (tx zl)) :
    SeqStopsK F n Tryz.prog 102 #[.pointer (some ⟨Bs, 0, none⟩)] encB (KB n₀ Bs) (fun ys => ys.map Prod.snd = zl.reverse) (fun _ => True) zl.length w := fun l J Jx W hW _ _ hY h0 =>
  back1_in F n hF hro hn l Bs n₀ b o cap zl hlen hb J Jx hY W ((hW.block Bs hBs.lt).trans hBs) (hw.below' hW) h0
end W
end Go.Proofs.YtgjfiaadnecilaaGreatDoor
namespace Go.Proofs.YtgjfiaadnecilaaGreatDoor
open Go Go.RowKit Go.Deep Go.Shelf
namespace M
/-- What the first loop has collected. -/
def thrL (pre : List (Nat × ZT)) : List WT := tx (pre.flatMap fun x => thr x.2)
theorem thrL_snoc (pre : List (Nat × ZT)) (x : Nat × ZT) : thrL (pre ++ [x]) = thrL pre ++ [(x.2.1, I 0), (x.2.1, I x.2.2), (x.2.1, I 1)] := by
  unfold thrL
  rw [List.flatMap_append, tx_append]; rfl
theorem thrL_len (pre : List (Nat × ZT)) : (thrL pre).length = 3 * pre.length := by
  induction pre with
  | nil => rfl
  | cons x t ih =>
    unfold thrL at *
    rw [List.flatMap_cons, tx_append, List.length_append, ih, List.length_cons]
    show 3 + 3 * t.length = _
    omega
theorem thrL_all {zl : List ZT} {ys : List (Nat × ZT)} (h : ys.map Prod.snd = zl.reverse) : thrL ys = tx (spl zl 0) := by
  unfold thrL spl
  rw [List.drop_zero, ← h, List.flatMap_map]
end M
/-- A block of cells. -/
def RowAt (W : World) (B : Nat) (cs : Array Value) (t : TypeId) : Prop := W.heap[B]? = some (.cells cs t (0, 0))
theorem RowAt.new (W : World) (cs : Array Value) (t : TypeId) : RowAt (W.alloc (.cells cs t (0, 0))) W.heap.size cs t := World.alloc_heap_new W _
theorem RowAt.lt {W : World} {B : Nat} {cs : Array Value} {t : TypeId} (h : RowAt W B cs t) : B < W.heap.size := (Array.getElem?_eq_some_iff.1 h).1
theorem RowAt.cell {W : World} {B : Nat} {cs : Array Value} {t : TypeId} (h : RowAt W B cs t) (i : Nat) : W.cell? ⟨B, i, none⟩ = cs[i]? := by simp [World.cell?, show W.heap[B]? = _ from h]
theorem rowAt_own {β : Type} (B : Nat) (t : TypeId) (cs : Array Value) : Own (fun (_ : β) W => RowAt W B cs t) := fun s X Y row hs hg hrow =>
  (hg.block B (RowAt.lt hs) (fun e' => by obtain ⟨o, ho, hc⟩ := hrow B e'.symm; rw [show X.heap[B]? = _ from hs] at ho; cases ho; cases hc)).trans hs
theorem OwnW.not_def {w : World} {B D : Nat} {v : Value} {l : List M.WT} {x : Option (List Deferred)} (h : OwnW w B v l) (hD : w.heap[D]? = some (.deferred x)) : some D ≠ v.ownBlock := by
  rcases h.2 with ⟨rfl, _⟩ | ⟨g, cap, cur, rfl, _, hgb, _⟩
  · simp [Value.ownBlock]
  · intro e'
    obtain rfl : D = g := by simpa [Value.ownBlock] using e'
    rw [hgb] at hD; cases hD
/-- The state of the second loop. -/
def OS (w W : World) (H D : Nat) (v : Value) (l : List M.WT) : Prop := HP W H w.heap.size v l ∧ Below w.heap.size w W ∧ W.heap[D]? = some (.deferred (some []))
theorem OS.below {w W W' : World} {H D : Nat} {v : Value} {l : List M.WT} (h : OS w W H D v l) (hb : Below W.heap.size W W') : OS w W' H D v l :=
  ⟨h.1.below hb, h.2.1.trans (hb.mono h.2.1.size), (hb.block D (Array.getElem?_eq_some_iff.1 h.2.2).1).trans h.2.2⟩
theorem OS.app {w W w1 : World} {H D : Nat} {v v' : Value} {l m : List M.WT} {o : Obj} (h : OS w W H D v l) (h1 : OwnW w1 w.heap.size v' (l ++ m)) (hg : (W.alloc o).grownBy w1 v.ownBlock) :
    Boxed w1 H 22 v ∧ OS w (w1.setCell ⟨H, 0, none⟩ v') H D v' (l ++ m) := by
  obtain ⟨a1, a2, a3, a4⟩ := h.1.app h1 hg
  have hne : D ≠ H := fun e => by
    have h2 := h.2.2
    rw [e, show W.heap[H]? = _ from h.1.1] at h2; cases h2
  exact ⟨a1, a2, h.2.1.trans a4, (HP.app_other hg (Array.getElem?_eq_some_iff.1 h.2.2).1 hne (h.1.2.1.not_def h.2.2)).trans h.2.2⟩
/-- A body that never panics. -/
def bodyPostN (F : Fence) (n : Nat) (P : Program) (fn : Func) (R : Ending → World → Prop) : Exit → Act → World → Prop
  | .normal, a, w | .ret, a, w => LeavesInM F n P fn a.tmps R a.defers .returning w
  | .outgrown, _, w => R .outgrown w
  | _, _, _ => False
theorem bodyPostN_M {F : Fence} {n : Nat} {P : Program} {fn : Func} {R : Ending → World → Prop} : ∀ (e : Exit) (a : Act) (w : World), bodyPostN F n P fn R e a w → bodyPostM F n P fn R e a w := by
  intro e a w h
  cases e <;> first | exact h | exact h.elim
/-- A range over a function whose second variable is boxed in a round. -/
theorem rf_boxed {F : Fence} {n : Nat} {P : Program} {α : Type} {g : Operand} {ps : Array Tmp} {assign body : Code} {Q : Exit → Act → World → Prop} {a : Act} {w : World}
    (hro : F.round = none) (h1 : 1 ≤ n) {gf : Nat} {lb : Array Value} (hg : a.eval g = .func (.func gf) #[] lb) (hFg : F.fn gf) (eg : ∀ args w, (callFunc gf args).run P w = .ok (.enter gf args) w)
    {encs : α → Array Value} {Kp : World → World → Prop} {S Sp : List α → Prop} {N : Nat} {w0 : World} (hseq : SeqStopsK F (n - 1) P gf lb encs Kp S Sp N w0)
    (hKt : ∀ {A B C : World}, Kp A B → Kp B C → Kp A C) (hKb : ∀ (W : World) (l : Nat) (o o' : Obj), w.heap.size ≤ l → W.heap[l]? = some o → o.isCells = false → o.isWalk = false → Kp W (W.putObj l o')) (hb0 : Below w0.heap.size w0 w) (hps : ∀ x, (encs x).size = ps.size)
    (I : List α → World → Prop) (hI : OwnFrom w.heap.size I) (h0 : I [] w) (slot : Nat) (RB : α → Nat → World → Prop) (hRB : ∀ x B, OwnFrom w.heap.size (fun (_ : Unit) W => RB x B W))
    (hassign : ∀ (l : Nat) (pre : List α) (x : α) (W : World) (K : Act → World → Prop), I pre W →
      (∀ B W', KeepsFrom w.heap.size W W' → Kp W W' → I pre W' → RB x B W' → K { tmps := ((ps.zip (encs x)).foldl (fun t (p, v) => t.setIfInBounds p v) a.tmps).setIfInBounds slot (.pointer (some ⟨B, 0, none⟩)), defers := [] } W') →
      assign.wpIn (F.inRound l) (n - 1 - 1) P (Exit.then K (fun _ _ _ => False)) { tmps := (ps.zip (encs x)).foldl (fun t (p, v) => t.setIfInBounds p v) a.tmps, defers := [] } W)
    (hbody : ∀ (l : Nat) (pre : List α) (x : α) (B : Nat) (W : World), w.heap.size ≤ l → (∃ r, W.heap[l]? = some (.loop r)) → I pre W → RB x B W → pre.length < N →
      body.wpIn (F.inRound l) (n - 1 - 1) P (ownPostG w.heap.size Kp I (fun _ _ _ => False) (pre ++ [x]) W) { tmps := ((ps.zip (encs x)).foldl (fun t (p, v) => t.setIfInBounds p v) a.tmps).setIfInBounds slot (.pointer (some ⟨B, 0, none⟩)), defers := [] } W)
    (hdone : ∀ (D : Nat) (xs : List α) (W : World), w.heap.size ≤ D → S xs → I xs W → W.heap[D]? = some (.deferred (some [])) → Q .normal { a with defers := { target := .collected D, args := #[] } :: a.defers } W) :
    (Code.rangeFunc g ps assign body).wpIn F n P Q a w :=
  wpIn_rangeFunc_ownH hro h1 hg hFg eg hseq hKt hKb hb0 hps I (fun _ _ _ => False) hI (fun _ _ _ _ _ hs _ _ => hs) h0
    (fun x a' W => ∃ B, RB x B W ∧ a' = { tmps := ((ps.zip (encs x)).foldl (fun t (p, v) => t.setIfInBounds p v) a.tmps).setIfInBounds slot (.pointer (some ⟨B, 0, none⟩)), defers := [] })
    (fun x _ s A B row hs hg' hr => by obtain ⟨Bx, h2, h3⟩ := hs; exact ⟨Bx, hRB x Bx s A B row h2 hg' hr, h3⟩)
    (fun l pre x W K hi hK => hassign l pre x W K hi fun B W' a1 a2 a3 a4 => hK _ W' a1 a2 a3 ⟨B, a4, rfl⟩)
    (fun l pre x a' W hl hr hi hA hlt => by obtain ⟨B, h2, rfl⟩ := hA; exact hbody l pre x B W hl hr hi h2 hlt)
    hdone (fun _ _ _ _ _ _ h _ => h.elim)
end Go.Proofs.YtgjfiaadnecilaaGreatDoor
