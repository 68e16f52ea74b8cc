/-
  Chapter 5: the checks of lists of numbers, on both sides; the program's sums.
  Chapter 46: right targets and circles, on both sides.
  Chapter 5: lists of texts that are made by 'append'; 'Check' of the reference.
  Chapter 5: the sum of products, on both sides.
  A region that draws its order: reads and calls that lay blocks at most, then a tail in one forced order (a store, an append). The head goes by the walk of the lexical order over a class of worlds; the tail is walked from any world of the class.
-/
import Derived.Test.YtellemlhhlafcaaGreatDoorMH
import Derived.Test.YtellemlhhlafcaaGreatDoorMG
import Derived.Test.YtellemlhhlafcaaGreatDoorMF
import Derived.RegionTactic
import Derived.ChangeAlike
import Derived.BigRegion
import Derived.Deep.RegionHeld3
import Derived.StillTail
import Derived.Lib.QuietBelow
section
namespace Go.Proofs.YtellemlhhlafcaaGreatDoor
open Go Go.RowKit Go.Deep Go.Sort
theorem bel_to {W E W2 : World} (h1 : Below W.heap.size W E) (h2 : Below E.heap.size E W2) : Below W.heap.size W W2 := h1.trans (h2.mono h1.size)
namespace W
open M
attribute [local go_sem] bs_size bs_toList bs_get bs_extract bs_append bs_lit0 bs_lit1 lit1_bs
set_option maxHeartbeats 1000000
set_option maxRecDepth 20000
end W
end Go.Proofs.YtellemlhhlafcaaGreatDoor
end
section
namespace Go.Proofs.YtellemlhhlafcaaGreatDoor
open Go Go.RowKit Go.Deep
abbrev tgV (t : M.Tg) : Value := .agg #[.int .i64 t.x, .int .i64 t.y, .int .i64 t.lo, .int .i64 t.hi, .int .i64 t.tol, .int .i64 t.mat, .bool t.pin]
abbrev ccV (c : M.Cc) : Value := .agg #[.int .i64 c.x, .int .i64 c.y, .int .i64 c.d]
abbrev tgO (t : M.Tg) : Obj := .cells #[.int .i64 t.x, .int .i64 t.y, .int .i64 t.lo, .int .i64 t.hi, .int .i64 t.tol, .int .i64 t.mat, .bool t.pin] 27 (0, 0)
abbrev ccO (c : M.Cc) : Obj := .cells #[.int .i64 c.x, .int .i64 c.y, .int .i64 c.d] 30 (0, 0)
theorem bel_al (w : World) (o : Obj) : Below w.heap.size w (w.alloc o) := (Below.refl _ _).alloc (Nat.le_refl _) o
namespace W
open M
attribute [local go_sem] bs_size bs_toList bs_get bs_extract bs_append bs_lit0 bs_lit1 lit1_bs
set_option maxHeartbeats 1000000
set_option maxRecDepth 20000
theorem bin_ (n : Int) (w : World) : Calls Tryz.prog 127 #[.int .i64 n] w fun e w' => e = .returned (.bool (inC n)) ∧ w = w' := by
  unfold inC
  cases h1 : decide (-100000 ≤ n) <;> cases h2 : decide (n ≤ 100000) <;>
  · go_enter Tryz.func127, Tryz.ntmps127
    go_wp2
    go_ret
    exact ⟨rfl, rfl⟩
theorem bsize (n : Int) (w : World) : Calls Tryz.prog 128 #[.int .i64 n] w fun e w' => e = .returned (.bool (szC n)) ∧ w = w' := by
  unfold szC
  cases h1 : decide (1 ≤ n) <;> cases h2 : decide (n ≤ 100000) <;>
  · go_enter Tryz.func128, Tryz.ntmps128
    go_wp2
    go_ret
    exact ⟨rfl, rfl⟩
theorem rsize44 (n : Int) (w : World) : Calls Tryz.prog 83 #[.int .i64 n] w fun e w' => e = .returned (.bool (szC n)) ∧ w = w' := by
  unfold szC
  cases h1 : decide (1 ≤ n) <;> cases h2 : decide (n ≤ 100000) <;>
  · go_enter Tryz.func83, Tryz.ntmps83
    go_wp2
    go_ret
    exact ⟨rfl, rfl⟩
theorem rright07 (x y : Int) (w : World) : Calls Tryz.prog 82 #[.agg #[.int .i64 x, .int .i64 y]] w (Ret w (.bool (inC x && inC y))) := by
  have hb0 := bel_al w (.cells #[.int .i64 x, .int .i64 y] 23 (0, 0))
  unfold inC
  cases h1 : decide (-100000 ≤ x) <;> cases h2 : decide (x ≤ 100000) <;> cases h3 : decide (-100000 ≤ y) <;> cases h4 : decide (y ≤ 100000) <;>
  · go_enter Tryz.func82, Tryz.ntmps82
    go_wp2
    go_ret
    exact Ret.of rfl hb0
theorem bcheck (t : Tg) (w : World) : Calls Tryz.prog 86 #[tgV t] w (Ret w (.int .i64 ((chkT t : Nat) : Int))) := by
  have HX := Lib.hid (fun w => bin_ t.x w)
  have HY := Lib.hid (fun w => bin_ t.y w)
  have HL := Lib.hid (fun w => bsize t.lo w)
  have HH := Lib.hid (fun w => bsize t.hi w)
  have hb0 := bel_al w (tgO t)
  unfold chkT
  obtain ⟨x, y, lo, hi, tol, mat, pin⟩ := t
  simp only at *
  generalize inC x = a1 at *
  generalize inC y = a2 at *
  generalize szC lo = a3 at *
  generalize szC hi = a4 at *
  generalize hc : (if (a1 && a2 && a3 && a4) = false then 2 else if hi < lo then 9 else if (decide (tol < 0) || decide (100000 < tol) || (!pin && decide (lo ≤ tol))) = true then 2 else if (decide (mat < 0) || decide (3 ≤ mat)) = true then 1 else 0) = c
  go_enter Tryz.func86, Tryz.ntmps86
  go_wp2_with fail
  refine (HX.out _).mono ?_
  rintro e w' ⟨rfl, rfl⟩
  cases a1
  · go_wp2
    go_ret
    subst hc
    exact Ret.of rfl hb0
  go_wp2_with fail
  refine (HY.out _).mono ?_
  rintro e w' ⟨rfl, rfl⟩
  cases a2
  · go_wp2
    go_ret
    subst hc
    exact Ret.of rfl hb0
  go_wp2_with fail
  refine (HL.out _).mono ?_
  rintro e w' ⟨rfl, rfl⟩
  cases a3
  · go_wp2
    go_ret
    subst hc
    exact Ret.of rfl hb0
  go_wp2_with fail
  refine (HH.out _).mono ?_
  rintro e w' ⟨rfl, rfl⟩
  cases a4
  · go_wp2
    go_ret
    subst hc
    exact Ret.of rfl hb0
  cases pin <;>
  · go_wp2
    all_goals
      go_ret
      subst hc
      refine Ret.of ?_ hb0
      (try simp_all) <;> (repeat' split) <;> omega
theorem rcheck44 (t : Tg) (w : World) : Calls Tryz.prog 72 #[tgV t] w (Ret w (.int .i64 ((chkT t : Nat) : Int))) := by
  have HX := Lib.hid (fun w => rright07 t.x t.y w)
  have HL := Lib.hid (fun w => rsize44 t.lo w)
  have HH := Lib.hid (fun w => rsize44 t.hi w)
  have HB0 := Lib.hid (bel_al w (tgO t))
  have HR := Lib.hid (Row.new w 27 [.int .i64 t.x, .int .i64 t.y, .int .i64 t.lo, .int .i64 t.hi, .int .i64 t.tol, .int .i64 t.mat, .bool t.pin])
  unfold chkT
  obtain ⟨x, y, lo, hi, tol, mat, pin⟩ := t
  simp only at *
  generalize inC x = a1 at *
  generalize inC y = a2 at *
  generalize szC lo = a3 at *
  generalize szC hi = a4 at *
  generalize hc : (if (a1 && a2 && a3 && a4) = false then 2 else if hi < lo then 9 else if (decide (tol < 0) || decide (100000 < tol) || (!pin && decide (lo ≤ tol))) = true then 2 else if (decide (mat < 0) || decide (3 ≤ mat)) = true then 1 else 0) = c
  generalize ha : (a1 && a2) = a at *
  go_enter Tryz.func72, Tryz.ntmps72
  go_wp2_with fail
  refine (HX.out _).mono ?_
  rintro e w1 ⟨rfl, hb1⟩
  have HB1 := Lib.hid (bel_to HB0.out hb1)
  have hr := HR.out.below' hb1
  have x2 := hr.cell (i := 2) rfl
  have x3 := hr.cell (i := 3) rfl
  have x4 := hr.cell (i := 4) rfl
  have x5 := hr.cell (i := 5) rfl
  have x6 := hr.cell (i := 6) rfl
  clear hr hb1 HB0 HR
  cases a
  · go_wp2
    go_ret
    subst hc
    exact Ret.of (by simp) HB1.out
  go_wp2_with fail
  refine (HL.out _).mono ?_
  rintro e w' ⟨rfl, rfl⟩
  cases a3
  · go_wp2
    go_ret
    subst hc
    exact Ret.of (by simp) HB1.out
  go_wp2_with fail
  refine (HH.out _).mono ?_
  rintro e w' ⟨rfl, rfl⟩
  cases a4
  · go_wp2
    go_ret
    subst hc
    exact Ret.of (by simp) HB1.out
  cases pin <;>
  · go_wp2
    all_goals
      go_ret
      subst hc
      refine Ret.of ?_ HB1.out
      clear x2 x3 x4 x5 x6
      (try simp_all) <;> (repeat' split) <;> omega
theorem bring (c : Cc) (w : World) : Calls Tryz.prog 117 #[ccV c] w (Ret w (.int .i64 ((ringC c : Nat) : Int))) := by
  have HX := Lib.hid (fun w => bin_ c.x w)
  have HY := Lib.hid (fun w => bin_ c.y w)
  have HL := Lib.hid (fun w => bsize c.d w)
  have hb0 := bel_al w (ccO c)
  unfold ringC
  obtain ⟨x, y, d⟩ := c
  simp only at *
  generalize inC x = a1 at *
  generalize inC y = a2 at *
  generalize szC d = a3 at *
  generalize hc : (if (a1 && a2 && a3) = true then 0 else 2) = c
  go_enter Tryz.func117, Tryz.ntmps117
  go_wp2_with fail
  refine (HX.out _).mono ?_
  rintro e w' ⟨rfl, rfl⟩
  cases a1
  · go_wp2
    go_ret
    subst hc
    exact Ret.of rfl hb0
  go_wp2_with fail
  refine (HY.out _).mono ?_
  rintro e w' ⟨rfl, rfl⟩
  cases a2
  · go_wp2
    go_ret
    subst hc
    exact Ret.of rfl hb0
  go_wp2_with fail
  refine (HL.out _).mono ?_
  rintro e w' ⟨rfl, rfl⟩
  cases a3 <;>
  · go_wp2
    go_ret
    subst hc
    exact Ret.of rfl hb0
theorem rring44 (c : Cc) (w : World) : Calls Tryz.prog 43 #[ccV c] w (Ret w (.int .i64 ((ringC c : Nat) : Int))) := by
  have HX := Lib.hid (fun w => rright07 c.x c.y w)
  have HL := Lib.hid (fun w => rsize44 c.d w)
  have HB0 := Lib.hid (bel_al w (ccO c))
  have HR := Lib.hid (Row.new w 30 [.int .i64 c.x, .int .i64 c.y, .int .i64 c.d])
  unfold ringC
  obtain ⟨x, y, d⟩ := c
  simp only at *
  generalize inC x = a1 at *
  generalize inC y = a2 at *
  generalize szC d = a3 at *
  generalize (a1 && a2) = a at *
  generalize hc : (if (a && a3) = true then 0 else 2) = c
  go_enter Tryz.func43, Tryz.ntmps43
  go_wp2_with fail
  refine (HX.out _).mono ?_
  rintro e w1 ⟨rfl, hb1⟩
  have HB1 := Lib.hid (bel_to HB0.out hb1)
  have hr := HR.out.below' hb1
  have x2 := hr.cell (i := 2) rfl
  clear hr hb1 HB0 HR
  cases a
  · go_wp2
    go_ret
    subst hc
    exact Ret.of rfl HB1.out
  go_wp2_with fail
  refine (HL.out _).mono ?_
  rintro e w' ⟨rfl, rfl⟩
  cases a3 <;>
  · go_wp2
    go_ret
    subst hc
    exact Ret.of rfl HB1.out
theorem rinside44 (t : Tg) (n : Int) (w : World) : Calls Tryz.prog 44 #[tgV t, .int .i64 n] w (Ret w (.bool (wth t n))) := by
  have hb0 := bel_al w (tgO t)
  unfold wth
  obtain ⟨x, y, lo, hi, tol, mat, pin⟩ := t
  simp only at *
  cases h1 : decide (lo ≤ n) <;> cases h2 : decide (n ≤ hi) <;>
  · go_enter Tryz.func44, Tryz.ntmps44
    go_wp2
    go_ret
    exact Ret.of rfl hb0
end W
end Go.Proofs.YtellemlhhlafcaaGreatDoor
end
section
namespace Go.Proofs.YtellemlhhlafcaaGreatDoor
open Go Go.RowKit Go.Deep Go.Sort
theorem rnw {w : World} {t : TypeId} {xs : List Value} : Row (w.alloc (.cells xs.toArray t (0, 0))) w.heap.size t xs := Row.new w t xs
theorem rnew0 {w : World} {b : Nat} {t : TypeId} {xs : List Value} (hb : b = w.heap.size) : Row (w.alloc (.cells xs.toArray t (0, 0))) b t xs := by subst hb; exact rnw
namespace W
open M
attribute [local go_sem] bs_size bs_toList bs_get bs_extract bs_append bs_lit0 bs_lit1 lit1_bs
set_option maxHeartbeats 1000000
set_option maxRecDepth 20000
end W
end Go.Proofs.YtellemlhhlafcaaGreatDoor
end
section
namespace Go.Proofs.YtellemlhhlafcaaGreatDoor
open Go Go.RowKit Go.Deep Go.Sort
namespace M
theorem Bq_nil : Bq 1 (0 : Rat) := by unfold Bq; decide +kernel
end M
namespace W
open M
attribute [local go_sem] bs_size bs_toList bs_get bs_extract bs_append bs_lit0 bs_lit1 lit1_bs
set_option maxHeartbeats 1000000
set_option maxRecDepth 20000
end W
end Go.Proofs.YtellemlhhlafcaaGreatDoor
end
section
namespace Go.Proofs.YtellemlhhlafcaaGreatDoor
open Go Go.Sort Go.RowKit
section
variable {P : Program} {ops : Array Oper} {md : Region.Mode} {C : World → Prop}
def anyT (P : Program) (md : Region.Mode) (ops : Array Oper) (C : World → Prop) (n : Nat) (L : Array Bool → Act → Prop) : Nat → Array Bool → Act → Prop
  | 0, ls, a => L ls a
  | f + 1, ls, a => Region.ready md ops ls ≠ [] ∧ ∀ i ∈ Region.ready md ops ls, i < n ∧ qOp P ops C i (anyT P md ops C n L f (ls.setIfInBounds i true)) a
theorem wpAny_of_anyT {n g : Nat} {L : Array Bool → Act → Prop} {Q : Exit → Act → World → Prop} (hL : ∀ ls a w, C w → L ls a → wpAny P md ops Q g ls a w) :
    ∀ (f : Nat) (ls : Array Bool) (a : Act) (w : World), C w → anyT P md ops C n L f ls a → wpAny P md ops Q (f + g) ls a w := by
  intro f
  induction f with
  | zero => intro ls a w hw h; rw [Nat.zero_add]; exact hL _ _ _ hw h
  | succ f ih =>
    intro ls a w hw h
    rw [Nat.succ_add]
    exact ⟨fun h0 => absurd h0 h.1, fun i hi => wpOp_of_qOp hw (fun a' w' hw' h' => ih _ a' w' hw' h') (h.2 i hi).2⟩
theorem anyT_first {n i : Nat} {oi : Oper} {v : Value} {L : Array Bool → Act → Prop} (hi : ops[i]? = some oi) (hsel : ∀ (j : Nat) (o : Oper) cs b, ops[j]? = some o → o.op ≠ .select cs b)
    (hs : Region.sinkB md ops n = true) (hc : Region.chainB md ops n = true) (hn : n < ops.size) (hin : i < n) (hdone : ∀ ls a, L ls a → ∀ j ∈ Region.ready md ops ls, n ≤ j) :
    ∀ (f : Nat) (ls : Array Bool) (a : Act), HeadInv md ops n ls →
      (∀ j oj, ops[j]? = some oj → j ≠ i → ls.getD j true = false → (∀ e ∈ oj.after, Region.binds md e = true → e.on ≠ i) → oi.apart ops oj = true) →
      i ∈ Region.ready md ops ls → YieldsIn P ops C oi v a → anyT P md ops C n L f (ls.setIfInBounds i true) (a.put oi.dst v) → anyT P md ops C n L (f + 1) ls a := by
  intro f
  induction f with
  | zero =>
    intro ls a inv _ hr hy H
    refine ⟨List.ne_nil_of_mem hr, fun j hj => ?_⟩
    have hjn : j < n := Nat.lt_of_not_le fun h => tail_waits hs hc hn inv _ i rfl hin (mem_ready.1 hr).1 j h hj
    refine ⟨hjn, ?_⟩
    by_cases e : j = i
    · subst e; exact hy.qOp hi H
    · exact absurd (hdone _ _ H j (ready_mono hj e)) (by omega)
  | succ f ih =>
    intro ls a inv hfree hr hy H
    refine ⟨List.ne_nil_of_mem hr, fun j hj => ?_⟩
    have hjn : j < n := Nat.lt_of_not_le fun h => tail_waits hs hc hn inv _ i rfl hin (mem_ready.1 hr).1 j h hj
    refine ⟨hjn, ?_⟩
    by_cases e : j = i
    · subst e; exact hy.qOp hi H
    · obtain ⟨hju, oj, hoj, hall⟩ := mem_ready.1 hj
      have hno : ∀ e ∈ oj.after, Region.binds md e = true → e.on ≠ i := fun e he hb heq => by
        have h2 := hall e he hb
        rw [heq, getD_both (mem_ready.1 hr).1] at h2
        cases h2
      refine qOp_mono (fun a' h3 => ih (ls.setIfInBounds j true) a' (inv.set hj hjn) (fun k ok hk hki hun h4 => ?_) (ready_mono hr (Ne.symm e)) h3.1 (by rw [Array.setIfInBounds_comm _ _ e]; exact h3.2))
        (qOp_put hoj (hfree j oj hoj e hju hno) (fun cs b => hsel i oi cs b hi) (fun cs b => hsel j oj cs b hoj) hy (H.2 j (ready_mono hj e)).2)
      refine hfree k ok hk hki ?_ h4
      by_cases ek : j = k
      · subst ek; exact hju
      · rwa [getD_set_ne true ek] at hun
theorem anyT_lex {n g : Nat} {Lq : Act → Prop} (hsel : Region.noSelect ops = true) (hs : Region.sinkB md ops n = true) (hc : Region.chainB md ops n = true) (hn : n < ops.size) :
    ∀ (l : List Oper) (k : Nat) (ls : Array Bool) (a : Act), (∀ j, j < l.length → l[j]? = ops[k + j]?) → k + l.length = n → HeadInv md ops n ls → Region.lexHead md ops g l.length k ls = true → wpQuiet P ops C Lq l a →
      anyT P md ops C n (fun ls' a' => Region.seqB md ops g n ls' = true ∧ Lq a') l.length ls a := by
  intro l
  induction l with
  | nil =>
    intro k ls a _ hk _ hB h
    have e : k = n := by simpa using hk
    subst e
    exact ⟨by simpa [Region.lexHead] using hB, h⟩
  | cons o l ih =>
    intro k ls a hl hk inv hB h
    have h0 : ops[k]? = some o := by simpa using (hl 0 (by simp)).symm
    simp only [List.length_cons, Region.lexHead, Bool.and_eq_true] at hB
    have hkn : k < n := by simp only [List.length_cons] at hk; omega
    have hr : k ∈ Region.ready md ops ls := by simpa using hB.1.1
    obtain ⟨v, hy, hK⟩ := yieldsIn_of_qOp h0 (show qOp P ops C k (wpQuiet P ops C Lq l) a by unfold qOp; simp only [h0]; exact h)
    exact anyT_first h0 (Region.noSelect_spec hsel) hs hc hn hkn (fun ls' a' hL => seqB_ready hL.1) l.length ls a inv (Region.free_spec h0 hB.1.2) hr hy
      (ih (k + 1) _ _ (fun j hj => by have := hl (j + 1) (by simp; omega); simpa [Nat.add_assoc, Nat.add_comm 1 j] using this) (by simp only [List.length_cons] at hk; omega) (inv.set hr hkn) hB.2 hK)
theorem region_quiet_tail {id : Nat} {Q : Exit → Act → World → Prop} {a : Act} {w : World} {l : List Oper} (n : Nat) (hm : P.follows .mixedOrders = true) (hB : Region.lexTailB .any l.toArray n = true) (hC : C { w with drawn := w.drawn + 1 })
    (h : wpQuiet P l.toArray C (fun a' => ∀ w', C w' → wpList P l.toArray Q (l.drop n) a' w') (l.take n) a) : (Code.region id l.toArray true).wp P Q a w := by
  simp only [Region.lexTailB, Bool.and_eq_true, decide_eq_true_eq] at hB
  obtain ⟨⟨⟨⟨hsel, hn⟩, hs⟩, hc⟩, hlex⟩ := hB
  have hn2 : n < l.length := by simpa using hn
  have ht : (l.take n).length = n := by simp; omega
  have hd : (l.drop n).length = l.toArray.size - n := by simp
  have inv : HeadInv .any l.toArray n (Array.replicate l.toArray.size false) :=
    ⟨by simp, fun j oj _ h2 => (by rw [getD_replicate_false] at h2; cases h2), fun t _ h2 => getD_in (by simpa using h2) (getD_replicate_false _ _)⟩
  have H := anyT_lex (md := .any) (g := l.toArray.size - n) hsel hs hc hn (l.take n) 0 _ a (fun j hj => by rw [ht] at hj; simp [hj]) (by simpa using ht) inv (by rw [ht]; exact hlex) h
  refine wp_region_any hm ?_
  have h2 := wpAny_of_anyT (Q := Q) (g := l.toArray.size - n) (fun ls a' w' hw' hL => by
    have h3 := wpAny_of_seq (md := .any) (Q' := Q) (l.drop n) n ls a' w' (fun j => by simp [List.getElem?_drop]) (by rw [hd]; exact hL.1) (hL.2 w' hw')
    rwa [hd] at h3) _ _ _ _ hC H
  rw [ht, show n + (l.toArray.size - n) = l.toArray.size by omega] at h2
  exact h2
theorem region_below_tail {id : Nat} {Q : Exit → Act → World → Prop} {a : Act} {w : World} {l : List Oper} (n : Nat) (hm : P.follows .mixedOrders = true) (hB : Region.lexTailB .any l.toArray n = true)
    (h : wpQuiet P l.toArray (fun w' => ∃ p : Regrown, w' = grow (redrawn w p.d) p.os) (fun a' => ∀ w', (∃ p : Regrown, w' = grow (redrawn w p.d) p.os) → wpList P l.toArray Q (l.drop n) a' w') (l.take n) a) : (Code.region id l.toArray true).wp P Q a w :=
  region_quiet_tail n hm hB ⟨⟨w.drawn + 1, #[]⟩, by rw [grow_empty]; rfl⟩ h
end
end Go.Proofs.YtellemlhhlafcaaGreatDoor
end
