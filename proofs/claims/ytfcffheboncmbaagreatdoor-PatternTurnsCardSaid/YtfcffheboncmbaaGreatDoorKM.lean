/-
  XBt's law where the region's first operation is a move that only the tail waits for ('out = append(out, f(..))'): it is taken first.
  Chapter 5: 'point' and 'weights'.
  Chapter 5: 'aim' sets the goal.
-/
import Derived.Test.YtfcffheboncmbaaGreatDoorKJ
import Derived.Test.YtfcffheboncmbaaGreatDoorKL
section
namespace Go.Proofs.YtfcffheboncmbaaGreatDoor
open Go Go.Sort Go.RowKit
section
variable {P : Program} {ops : Array Oper} {md : Region.Mode} {C : World → Prop}
/-- Every operation of the head, but for the first, is waited for. -/
def sink1B (md : Region.Mode) (ops : Array Oper) (n : Nat) : Bool :=
  (List.range n).all fun i => decide (i = 0) || (List.range (n + 1)).any fun j => decide (i < j) && Region.waitsFor md ops j i
theorem tail_waits1 {n : Nat} {listed : Array Bool} (hs : sink1B md ops n = true) (hc : Region.chainB md ops n = true) (hn : n < ops.size) (inv : HeadInv md ops n listed) :
    ∀ (d i : Nat), n - i = d → 1 ≤ i → i < n → listed.getD i true = false → ∀ t, n ≤ t → t ∉ Region.ready md ops listed := by
  intro d
  induction d using Nat.strongRecOn with
  | _ d ih =>
    intro i hd h1i hi hun t ht hr
    obtain ⟨_, ot, hot, hall⟩ := mem_ready.1 hr
    have htlt : t < ops.size := (Array.getElem?_eq_some_iff.1 hot).1
    by_cases htn : t = n
    · subst htn
      have h1 := List.all_eq_true.1 hs i (List.mem_range.2 hi)
      rw [Bool.or_eq_true] at h1
      have h1 := h1.resolve_left (by simp; omega)
      obtain ⟨j, hj, hj2⟩ := List.any_eq_true.1 h1
      simp only [Bool.and_eq_true, decide_eq_true_eq] at hj2
      obtain ⟨oj, hoj, e, he, hb, hon⟩ := Region.waitsFor_spec hj2.2
      have hjle : j ≤ t := by have := List.mem_range.1 hj; omega
      by_cases hjt : j = t
      · subst hjt
        have : oj = ot := Option.some.inj (hoj.symm.trans hot)
        subst this
        have h2 := hall e he hb
        rw [hon, getD_both hun] at h2
        cases h2
      · cases hl : listed.getD j false with
        | true =>
          have h2 := inv.closed j oj hoj hl e he hb
          rw [hon, getD_both hun] at h2
          cases h2
        | false =>
          have hjs : j < listed.size := by rw [inv.size]; omega
          exact ih (t - j) (by omega) j rfl (by omega) (by omega) (getD_in hjs hl) t (Nat.le_refl _) hr
    · have h1 := List.all_eq_true.1 hc t (List.mem_range.2 htlt)
      simp only [Bool.or_eq_true, decide_eq_true_eq] at h1
      rcases h1 with h1 | h1
      · omega
      · obtain ⟨o', ho', e, he, hb, hon⟩ := Region.waitsFor_spec h1
        have : o' = ot := Option.some.inj (ho'.symm.trans hot)
        subst this
        have h2 := hall e he hb
        rw [hon, getD_both (inv.tail (t - 1) (by omega) (by omega))] at h2
        cases h2
theorem anyT_first1 {n i : Nat} {oi : Oper} {v : Value} {L : Array Bool → Act → Prop} (hi : ops[i]? = some oi) (hsel : ∀ (j : Nat) (o : Oper) cs b, ops[j]? = some o → o.op ≠ .select cs b)
    (hs : sink1B md ops n = true) (hc : Region.chainB md ops n = true) (hn : n < ops.size) (hi1 : 1 ≤ i) (hin : i < n) (hdone : ∀ ls a, L ls a → ∀ j ∈ Region.ready md ops ls, n ≤ j) :
    ∀ (f : Nat) (ls : Array Bool) (a : Act), HeadInv md ops n ls →
      (∀ j oj, ops[j]? = some oj → j ≠ i → ls.getD j true = false → (∀ e ∈ oj.after, Region.binds md e = true → e.on ≠ i) → oi.apart ops oj = true) →
      i ∈ Region.ready md ops ls → YieldsIn P ops C oi v a → anyT P md ops C n L f (ls.setIfInBounds i true) (a.put oi.dst v) → anyT P md ops C n L (f + 1) ls a := by
  intro f
  induction f with
  | zero =>
    intro ls a inv _ hr hy H
    refine ⟨List.ne_nil_of_mem hr, fun j hj => ?_⟩
    have hjn : j < n := Nat.lt_of_not_le fun h => tail_waits1 hs hc hn inv _ i rfl hi1 hin (mem_ready.1 hr).1 j h hj
    refine ⟨hjn, ?_⟩
    by_cases e : j = i
    · subst e; exact hy.qOp hi H
    · exact absurd (hdone _ _ H j (ready_mono hj e)) (by omega)
  | succ f ih =>
    intro ls a inv hfree hr hy H
    refine ⟨List.ne_nil_of_mem hr, fun j hj => ?_⟩
    have hjn : j < n := Nat.lt_of_not_le fun h => tail_waits1 hs hc hn inv _ i rfl hi1 hin (mem_ready.1 hr).1 j h hj
    refine ⟨hjn, ?_⟩
    by_cases e : j = i
    · subst e; exact hy.qOp hi H
    · obtain ⟨hju, oj, hoj, hall⟩ := mem_ready.1 hj
      have hno : ∀ e ∈ oj.after, Region.binds md e = true → e.on ≠ i := fun e he hb heq => by
        have h2 := hall e he hb
        rw [heq, getD_both (mem_ready.1 hr).1] at h2
        cases h2
      refine qOp_mono (fun a' h3 => ih (ls.setIfInBounds j true) a' (inv.set hj hjn) (fun k ok hk hki hun h4 => ?_) (ready_mono hr (Ne.symm e)) h3.1 (by rw [Array.setIfInBounds_comm _ _ e]; exact h3.2))
        (qOp_put hoj (hfree j oj hoj e hju hno) (fun cs b => hsel i oi cs b hi) (fun cs b => hsel j oj cs b hoj) hy (H.2 j (ready_mono hj e)).2)
      refine hfree k ok hk hki ?_ h4
      by_cases ek : j = k
      · subst ek; exact hju
      · rwa [getD_set_ne true ek] at hun
theorem anyT_lex1 {n g : Nat} {Lq : Act → Prop} (hsel : Region.noSelect ops = true) (hs : sink1B md ops n = true) (hc : Region.chainB md ops n = true) (hn : n < ops.size) :
    ∀ (l : List Oper) (k : Nat) (ls : Array Bool) (a : Act), 1 ≤ k → (∀ j, j < l.length → l[j]? = ops[k + j]?) → k + l.length = n → HeadInv md ops n ls → Region.lexHead md ops g l.length k ls = true → wpQuiet P ops C Lq l a →
      anyT P md ops C n (fun ls' a' => Region.seqB md ops g n ls' = true ∧ Lq a') l.length ls a := by
  intro l
  induction l with
  | nil =>
    intro k ls a _ _ hk _ hB h
    have e : k = n := by simpa using hk
    subst e
    exact ⟨by simpa [Region.lexHead] using hB, h⟩
  | cons o l ih =>
    intro k ls a h1 hl hk inv hB h
    have h0 : ops[k]? = some o := by simpa using (hl 0 (by simp)).symm
    simp only [List.length_cons, Region.lexHead, Bool.and_eq_true] at hB
    have hkn : k < n := by simp only [List.length_cons] at hk; omega
    have hr : k ∈ Region.ready md ops ls := by simpa using hB.1.1
    obtain ⟨v, hy, hK⟩ := yieldsIn_of_qOp h0 (show qOp P ops C k (wpQuiet P ops C Lq l) a by unfold qOp; simp only [h0]; exact h)
    exact anyT_first1 h0 (Region.noSelect_spec hsel) hs hc hn h1 hkn (fun ls' a' hL => seqB_ready hL.1) l.length ls a inv (Region.free_spec h0 hB.1.2) hr hy
      (ih (k + 1) _ _ (by omega) (fun j hj => by have := hl (j + 1) (by simp; omega); simpa [Nat.add_assoc, Nat.add_comm 1 j] using this) (by simp only [List.length_cons] at hk; omega) (inv.set hr hkn) hB.2 hK)
/-- The check: the first operation is free to come first; then the head in order; then the tail. -/
def lexTail1B (md : Region.Mode) (ops : Array Oper) (n : Nat) : Bool :=
  Region.noSelect ops && decide (n < ops.size) && sink1B md ops n && Region.chainB md ops n && (Region.ready md ops (Array.replicate ops.size false)).contains 0 && Region.free md ops (Array.replicate ops.size false) 0 &&
    Region.lexHead md ops (ops.size - n) (n - 1) 1 ((Array.replicate ops.size false).setIfInBounds 0 true)
theorem region_quiet_tail1 {id : Nat} {Q : Exit → Act → World → Prop} {a : Act} {w : World} {o0 : Oper} {l : List Oper} {v : Value} (n : Nat) (hm : P.follows .mixedOrders = true) (hB : lexTail1B .any (o0 :: l).toArray (n + 1) = true)
    (hQ : ∀ c a w, Q (.panic c) (a.put o0.dst v) w → Q (.panic c) a w) (hy : Yields P (o0 :: l).toArray o0 v a) (hC : C { w with drawn := w.drawn + 1 })
    (h : wpQuiet P (o0 :: l).toArray C (fun a' => ∀ w', C w' → wpList P (o0 :: l).toArray Q (l.drop n) a' w') (l.take n) (a.put o0.dst v)) : (Code.region id (o0 :: l).toArray true).wp P Q a w := by
  simp only [lexTail1B, Bool.and_eq_true, decide_eq_true_eq] at hB
  obtain ⟨⟨⟨⟨⟨⟨hsel, hn⟩, hs⟩, hc⟩, hr0⟩, hf0⟩, hlex⟩ := hB
  have hn2 : n < l.length := by simpa using hn
  have ht : (l.take n).length = n := by simp; omega
  have hd : (l.drop n).length = (o0 :: l).toArray.size - (n + 1) := by simp
  have inv0 : HeadInv .any (o0 :: l).toArray (n + 1) (Array.replicate (o0 :: l).toArray.size false) :=
    ⟨by simp, fun j oj _ h2 => (by rw [getD_replicate_false] at h2; cases h2), fun t _ h2 => getD_in (by simpa using h2) (getD_replicate_false _ _)⟩
  have inv := inv0.set (i := 0) (by simpa using hr0) (by omega)
  have H := anyT_lex1 (md := .any) (g := (o0 :: l).toArray.size - (n + 1)) hsel hs hc hn (l.take n) 1 _ (a.put o0.dst v) (Nat.le_refl _) (fun j hj => by rw [ht] at hj; simp [hj, Nat.add_comm 1 j]) (by rw [ht]; omega) inv (by rw [ht]; exact hlex) h
  refine wp_region_any hm ?_
  have h2 := wpAny_of_anyT (Q := Q) (g := (o0 :: l).toArray.size - (n + 1)) (fun ls a' w' hw' hL => by
    have h3 := wpAny_of_seq (md := .any) (Q' := Q) (l.drop n) (n + 1) ls a' w' (fun j => by simp [List.getElem?_drop, Nat.add_right_comm]) (by rw [hd]; exact hL.1) (hL.2 w' hw')
    rwa [hd] at h3) _ _ _ _ hC H
  have h4 := wpAny_take (i := 0) (oi := o0) (by simp) hsel hf0 hr0 hQ hy h2
  rw [ht, show n + ((o0 :: l).toArray.size - (n + 1)) + 1 = (o0 :: l).toArray.size by omega] at h4
  exact h4
theorem region_below_tail1 {id : Nat} {Q : Exit → Act → World → Prop} {a : Act} {w : World} {o0 : Oper} {l : List Oper} {v : Value} (n : Nat) (hm : P.follows .mixedOrders = true) (hB : lexTail1B .any (o0 :: l).toArray (n + 1) = true)
    (hQ : ∀ c a w, Q (.panic c) (a.put o0.dst v) w → Q (.panic c) a w) (hy : Yields P (o0 :: l).toArray o0 v a)
    (h : wpQuiet P (o0 :: l).toArray (fun w' => ∃ p : Regrown, w' = grow (redrawn w p.d) p.os) (fun a' => ∀ w', (∃ p : Regrown, w' = grow (redrawn w p.d) p.os) → wpList P (o0 :: l).toArray Q (l.drop n) a' w') (l.take n) (a.put o0.dst v)) : (Code.region id (o0 :: l).toArray true).wp P Q a w :=
  region_quiet_tail1 n hm hB hQ hy ⟨⟨w.drawn + 1, #[]⟩, by rw [grow_empty]; rfl⟩ h
end
end Go.Proofs.YtfcffheboncmbaaGreatDoor
end
section
namespace Go.Proofs.YtfcffheboncmbaaGreatDoor
open Go Go.RowKit Go.Deep Go.Sort Go.Shelf
theorem part0_map (n : Nat) : Part0 n n = Strs (M.mapR (fun _ => 0) n) := by
  unfold Part0 M.mapR
  rw [Nat.sub_self, List.replicate_zero, List.append_nil]
  congr 1
  have e : (fun k => M.R ((fun (_ : Nat) => (0 : Rat)) k)) = fun _ => [48] := by funext _; exact W.R_nil
  rw [e, List.map_const', List.length_range]
namespace M
theorem mapR_snoc (f : Nat → Rat) (k : Nat) : mapR f (k + 1) = mapR f k ++ [R (f k)] := by
  unfold mapR; rw [List.range_succ, List.map_append]; rfl
theorem allS_bq {n m e : Nat} {A : Mx} (b : Nat → Nat) (hA : ∀ j, j ≤ m → ∀ k, k ≤ wdt n m → Bq e (A j k)) (he : 1 ≤ e) : ∀ i, i ≤ m → ∀ k, Bq e (allS A b (wdt n m) i k)
  | 0, _, _ => Bq_nil.mono he
  | i + 1, hi, k => by
    show Bq e (upd (allS A b (wdt n m) i) (b i) (A i (wdt n m)) k)
    unfold upd
    split
    · exact hA i (by omega) _ (Nat.le_refl _)
    · exact allS_bq b hA he i (by omega) k
end M
theorem strs_set (f : Nat → Rat) (n k : Nat) (q : Rat) : (Strs (M.mapR f n)).set k (.string (bs (M.R q))) = Strs (M.mapR (M.upd f k q) n) := by
  rw [M.mapR_upd]; simp [Strs, List.map_set]
theorem strs_get {f : Nat → Rat} {n k : Nat} (h : k < n) : (Strs (M.mapR f n))[k]? = some (.string (bs (M.R (f k)))) := by simp [Strs, M.mapR, h]
namespace W
open M
attribute [local go_sem] bs_size bs_toList bs_get bs_extract bs_append bs_lit0 bs_lit1 lit1_bs
set_option maxHeartbeats 2000000
set_option maxRecDepth 20000
section
variable {w : World} {B p S gr gb cr cb : Nat} {h : Nat → Nat} {n m : Nat} {A : Mx} {b : Nat → Nat}
theorem pweights (t : TabS w B p S gr gb cr cb h n m A b) (e : Nat) (hA : ∀ j, j ≤ m → ∀ k, k ≤ wdt n m → Bq e (A j k)) (he : e ≤ 210) :
    Calls Tryz.prog 102 #[.pointer (some ⟨p, 0, none⟩)] w fun ee w' => ∃ v, ee = .returned v ∧ OwnS w' w.heap.size v (mapR (weightF n m A) m) ∧ Below w.heap.size w w' := by
  obtain ⟨L, hL⟩ : ∃ L, L = wdt n m + 1 := ⟨_, rfl⟩
  have hms := t.hm
  have hns := t.hn
  have hLn : 2 * n + m < L := by rw [hL]; unfold wdt; omega
  have HC := Lib.hid (fun W i (hi : i < m) (hW : Below w.heap.size w W) => (by
    have hT := t.below' hW
    have e1 := hT.ce (Nat.le_refl m) (show 2 * n + i ≤ wdt n m by omega)
    have e3 := hT.c5
    rw [← hL] at e3
    exact ⟨hT.c0, hT.c1, e3, e1⟩ : W.cell? ⟨p, 0, none⟩ = some (.pointer (some ⟨S, 0, none⟩)) ∧ W.cell? ⟨p, 1, none⟩ = some (.int .i64 (n : Int)) ∧ W.cell? ⟨p, 5, none⟩ = some (.slice (some ⟨h m, 0, none⟩) L L) ∧ W.cell? ⟨h m, 2 * n + i, none⟩ = some (.string (bs (R (A m (2 * n + i)))))))
  have HNG := Lib.hid (fun W i (hi : i < m) (hW : Below w.heap.size w W) => ratNeg (A m (2 * n + i)) e W ((t.below' hW).gl) (hA m (Nat.le_refl _) _ (by omega)) (by omega))
  have HOF := Lib.hid (fun s W (hW : Below w.heap.size w W) => psof S s W ((t.below' hW).err))
  have c2 := t.c2
  clear t hA hL
  go_enter Tryz.func102, Tryz.ntmps102
  go_wp2
  go_loopw [3, 9] (fun ov iv wr => ∃ (i : Nat) (vo : Value), iv = .int .i64 (i : Int) ∧ ov = vo ∧ i ≤ m ∧ Hid (OwnS wr w.heap.size vo (mapR (weightF n m A) i) ∧ Below w.heap.size w wr)) (fun _ iv _ => m - (intOf iv).toNat)
  case atStart => exact ⟨0, _, rfl, rfl, by omega, Lib.hid ⟨World.ownsRow_nil _ _ _ _, Below.refl _ _⟩⟩
  case round =>
    clear c2
    obtain ⟨i, vo, rfl, hvo, hi, hin⟩ := hrel
    have hvo := hvo.symm
    subst hvo
    by_cases hlt : i < m
    · obtain ⟨c0, c1, c3, c4⟩ := HC.out wr i hlt hin.out.2
      have k1 := reg_of (w := wr) (fun W hW => HNG.out W i hlt (bel_to hin.out.2 hW))
      have k2 := reg_of (w := wr) (fun W hW => HOF.out (R (-A m (2 * n + i))) W (bel_to hin.out.2 hW))
      have hw1 : IntKind.i64.wrap (2 * (n : Int)) = 2 * (n : Int) := IntWalk.i64_in _ (by omega)
      have hw2 : IntKind.i64.wrap (2 * (n : Int) + (i : Int)) = ((2 * n + i : Nat) : Int) := by rw [IntWalk.i64_in _ (by omega)]; omega
      obtain ⟨x, hx⟩ : ∃ x, x = 2 * n + i := ⟨_, rfl⟩
      have hxL : (x : Int) < (L : Int) := by omega
      have hx0 : (0 : Int) ≤ (x : Int) := by omega
      rw [← hx] at c4 k1 k2 hw2
      have hwf : weightF n m A i = -A m x := by rw [hx]; rfl
      have HWF := Lib.hid hwf
      have m0 := cell_regrown c0
      have m1 := cell_regrown c1
      have m3 := cell_regrown c3
      have m4 := cell_regrown c4
      have e1 : ∀ args w, (callFunc 66 args).run Tryz.prog w = .ok (.enter 66 args) w := enters_of Tryz.func66 (by kernel_rfl) rfl
      have e2 : ∀ args w, (callFunc 147 args).run Tryz.prog w = .ok (.enter 147 args) w := enters_of Tryz.func147 (by kernel_rfl) rfl
      clear c0 c1 c3 c4 hx hwf
      go_wp2_with fail
      refine region_below_tail1 (v := vo) 21 (by kernel_rfl) (by kernel_rfl) (fun _ _ _ h => h) (Or.inl ⟨by rfl, fun wz => by go_simp⟩) ?_
      simp only [List.take_succ_cons, List.take_zero, List.drop_succ_cons, List.drop_zero, Act.put, List.setIfInBounds_toArray, List.set_cons_zero, List.set_cons_succ]
      repeat (go_big_quiet_step (fail))
      go_big_quiet_step (exact k1 _ _)
      repeat (go_big_quiet_step (fail))
      go_big_quiet_step (exact k2 _ _)
      repeat (go_big_quiet_step (fail))
      refine wpQuiet_nil ?_
      intro W6 hw'
      have hb6 : Below wr.heap.size wr W6 := by obtain ⟨p, e⟩ := hw'; rw [e]; exact below_regrown wr p.d p.os
      clear hw'
      have HT6 : Hid (OwnS W6 w.heap.size vo (mapR (weightF n m A) i) ∧ Below w.heap.size w W6) := Lib.hid ⟨hin.out.1.below hb6, bel_to hin.out.2 hb6⟩
      clear k1 k2 m0 m1 m3 m4 e1 e2 hb6 hin hw1 hw2
      go_wp2_with (at_builtin; refine wpList_app_s (q := R (-A m x)) rfl _ _ rfl rfl rfl rfl HT6.out.1 HT6.out.2.size (by rw [mapR_len]; omega) ?_; intro v2 w2 ho2 hk2)
      have HFI : Hid (OwnS w2 w.heap.size v2 (mapR (weightF n m A) (i + 1)) ∧ Below w.heap.size w w2) := Lib.hid ⟨by
        rw [mapR_snoc, HWF.out]; exact ho2, hk2 _ _ (Nat.le_refl _) HT6.out.2⟩
      clear ho2 hk2 HT6
      go_wp2
      go_roundw
      case rel => exact ⟨i + 1, _, by go_num, rfl, hlt, HFI⟩
      case measure => simp [intOf]; omega
    · obtain rfl : m = i := by omega
      clear HC HNG HOF
      go_wp2
      go_ret
      exact ⟨_, rfl, hin.out.1, hin.out.2⟩
theorem ppoint (t : TabS w B p S gr gb cr cb h n m A b) (e : Nat) (hA : ∀ j, j ≤ m → ∀ k, k ≤ wdt n m → Bq e (A j k)) (he : e ≤ 210) (he1 : 1 ≤ e) :
    Calls Tryz.prog 101 #[.pointer (some ⟨p, 0, none⟩)] w fun ee w' => ∃ v, ee = .returned v ∧ OwnS w' w.heap.size v (mapR (pointF n m A b) n) ∧ Below w.heap.size w w' := by
  obtain ⟨L, hL⟩ : ∃ L, L = wdt n m + 1 := ⟨_, rfl⟩
  obtain ⟨D, hD⟩ : ∃ D, D = wdt n m := ⟨_, rfl⟩
  have hms := t.hm
  have hns := t.hn
  have hDn : 2 * n + m < D := by rw [hD]; unfold wdt; omega
  have hDs : D ≤ 10000 := by rw [hD]; unfold wdt; omega
  have HC := Lib.hid (fun W i (hi : i < m) (hW : Below w.heap.size w W) => (by
    have hT := t.below' hW
    have e1 := hT.ce (show i ≤ m by omega) (Nat.le_refl (wdt n m))
    have e3 := hT.crow hi
    rw [← hL] at e3
    rw [← hD] at e1
    exact ⟨hT.c3, e3, e1, hT.cbas hi⟩ : W.cell? ⟨p, 3, none⟩ = some (.slice (some ⟨gr, 0, none⟩) m cr) ∧ W.cell? ⟨gr, i, none⟩ = some (.slice (some ⟨h i, 0, none⟩) L L) ∧ W.cell? ⟨h i, D, none⟩ = some (.string (bs (R (A i D)))) ∧ W.cell? ⟨gb, i, none⟩ = some (.int .i64 (b i : Int))))
  have HC0 := Lib.hid (fun W (hW : Below w.heap.size w W) => (by
    have hT := t.below' hW
    exact ⟨hT.c0, hT.c1, hT.c4⟩ : W.cell? ⟨p, 0, none⟩ = some (.pointer (some ⟨S, 0, none⟩)) ∧ W.cell? ⟨p, 1, none⟩ = some (.int .i64 (n : Int)) ∧ W.cell? ⟨p, 4, none⟩ = some (.slice (some ⟨gb, 0, none⟩) m cb)))
  have HBL := Lib.hid (fun i (hi : i < m) => t.blt i hi)
  have HWD := Lib.hid (fun W (hW : Below w.heap.size w W) => pwidth (t.below' hW))
  have HOF := Lib.hid (fun s W (hW : Below w.heap.size w W) => psof S s W ((t.below' hW).err))
  have HSB := Lib.hid (fun W k (hW : Below w.heap.size w W) => ratSub (allS A b (wdt n m) m k) (allS A b (wdt n m) m (n + k)) e e W ((t.below' hW).gl) (allS_bq b hA he1 m (Nat.le_refl _) _) (allS_bq b hA he1 m (Nat.le_refl _) _) (by omega))
  have HPF : Hid (∀ k, pointF n m A b k = allS A b D m k - allS A b D m (n + k)) := Lib.hid (fun k => by rw [hD]; rfl)
  rw [← hD] at HBL HWD HSB
  have hDL : D < L := by omega
  clear t hA hL hD
  -- the list [0]
  have hb0 : Below w.heap.size w (w.alloc (.cells #[.string (bs [48])] 40 (0, 0))) := (Below.refl _ _).alloc (Nat.le_refl _) _
  have HW1 := Lib.hid (HWD.out _ hb0)
  have hr0 : (w.alloc (.cells #[.string (bs [48])] 40 (0, 0))).cell? ⟨w.heap.size, 0, none⟩ = some (.string (bs [48])) := (Row.new w 40 [.string (bs [48])]).cell rfl
  have HB0 := Lib.hid (And.intro hb0 hr0)
  clear hb0 hr0
  go_enter Tryz.func101, Tryz.ntmps101
  go_wp2_with fail
  refine (HW1.out).mono ?_
  rintro e wa ⟨rfl, hba⟩
  have hx1 : wa.cell? ⟨w.heap.size, 0, none⟩ = some (.string (bs [48])) := (hba.cell (p := ⟨w.heap.size, 0, none⟩) (block_lt_of_cell HB0.out.2)).trans HB0.out.2
  have HBA := Lib.hid (bel_to HB0.out.1 hba)
  have HRP := Lib.hid (prepeat w.heap.size 1 D wa hx1 (by omega) (by omega))
  clear hba hx1 HB0 HW1
  go_wp2_with fail
  refine HRP.out.mono ?_
  rintro e1 w1 ⟨ga, rfl, hga, hrow, hb1⟩
  have HAL : Hid (Pre w1 ga 40 (Strs (mapR (allS A b D 0) D)) ∧ Below w.heap.size w w1 ∧ w.heap.size ≤ ga) := Lib.hid ⟨by rw [part0_map] at hrow; exact Pre.of hrow, bel_to HBA.out hb1, Nat.le_trans HBA.out.size hga⟩
  clear hga hrow hb1 HRP HBA
  obtain ⟨c0, c1, c4⟩ := HC0.out w1 HAL.out.2.1
  clear c0 c1
  go_wp2_with fail
  go_loopw [17] (fun iv wr => ∃ i : Nat, iv = .int .i64 (i : Int) ∧ i ≤ m ∧ Hid (Pre wr ga 40 (Strs (mapR (allS A b D i) D)) ∧ Below w.heap.size w wr ∧ w.heap.size ≤ ga)) (fun iv _ => m - (intOf iv).toNat)
  case atStart => exact ⟨0, rfl, by omega, HAL⟩
  case round =>
    clear HAL c4
    obtain ⟨i, rfl, hi, hin⟩ := hrel
    by_cases hlt : i < m
    · obtain ⟨c3, c4, c5, c6⟩ := HC.out wr i hlt hin.out.2.1
      have k1 := reg_of (w := wr) (fun W hW => HWD.out W (bel_to hin.out.2.1 hW))
      have m3 := cell_regrown c3
      have m4 := cell_regrown c4
      have m5 := cell_regrown c5
      have e1 : ∀ args w, (callFunc 113 args).run Tryz.prog w = .ok (.enter 113 args) w := enters_of Tryz.func113 (by kernel_rfl) rfl
      have hi0 : (0 : Int) ≤ (i : Int) := by omega
      have his : (i : Int) < (m : Int) := by omega
      have hd0 : (0 : Int) ≤ (D : Int) := by omega
      have hdL : (D : Int) < (L : Int) := by omega
      have hbi := HBL.out i hlt
      have hb0 : (0 : Int) ≤ (b i : Int) := by omega
      have hbD : (b i : Int) < (D : Int) := by omega
      clear c3 c4 c5
      go_wp2_with fail
      refine region_below_tail 13 (by kernel_rfl) (by kernel_rfl) ?_
      simp only [List.take_succ_cons, List.take_zero, List.drop_succ_cons, List.drop_zero]
      repeat (go_big_quiet_step (fail))
      go_big_quiet_step (exact k1 _ _)
      repeat (go_big_quiet_step (fail))
      refine wpQuiet_nil ?_
      intro W6 hw'
      have hb6 : Below wr.heap.size wr W6 := by obtain ⟨p, e⟩ := hw'; rw [e]; exact below_regrown wr p.d p.os
      clear hw'
      have HT6 : Hid (Pre W6 ga 40 (Strs (mapR (allS A b D i) D)) ∧ Below w.heap.size w W6 ∧ w.heap.size ≤ ga) := Lib.hid ⟨hin.out.1.below' hb6, bel_to hin.out.2.1 hb6, hin.out.2.2⟩
      clear k1 m3 m4 m5 e1 hb6 hin c6
      have fz := HT6.out.1.free (b i)
      have fc := HT6.out.1.cell (strs_get hbi)
      have HN : Hid (Pre (W6.setCell ⟨ga, b i, none⟩ (.string (bs (R (A i D))))) ga 40 (Strs (mapR (allS A b D (i + 1)) D)) ∧ Below w.heap.size w (W6.setCell ⟨ga, b i, none⟩ (.string (bs (R (A i D))))) ∧ w.heap.size ≤ ga) := Lib.hid ⟨by
        have h2 := HT6.out.1.set (i := b i) (by simp [Strs, mapR_len]; exact hbi) (.string (bs (R (A i D))))
        rw [strs_set] at h2
        exact h2, HT6.out.2.1.setCell (p := ⟨ga, b i, none⟩) HT6.out.2.2 _, HT6.out.2.2⟩
      clear HT6
      go_wp2
      go_roundw
      case rel => exact ⟨i + 1, by go_num, hlt, HN⟩
      case measure => simp [intOf]; omega
    · obtain rfl : m = i := by omega
      obtain ⟨c0, c1, c4⟩ := HC0.out wr hin.out.2.1
      obtain ⟨W0, hW0⟩ : ∃ W0, W0 = wr := ⟨_, rfl⟩
      rw [← hW0] at hin c1 ⊢
      clear hW0 c0 c4 HC HBL HWD
      have HAL := hin
      clear hin
      go_wp2_with fail
      go_loopw [6, 41] (fun ov iv wr => ∃ (k : Nat) (vo : Value), iv = .int .i64 (k : Int) ∧ ov = vo ∧ k ≤ n ∧ Hid (OwnS wr W0.heap.size vo (mapR (pointF n m A b) k) ∧ Below W0.heap.size W0 wr)) (fun _ iv _ => n - (intOf iv).toNat)
      case atStart => exact ⟨0, _, rfl, rfl, by omega, Lib.hid ⟨World.ownsRow_nil _ _ _ _, Below.refl _ _⟩⟩
      case round =>
        clear c1
        obtain ⟨k, vo, rfl, hvo, hk, hin⟩ := hrel
        have hvo := hvo.symm
        subst hvo
        by_cases hlt : k < n
        · have hbw := bel_to HAL.out.2.1 hin.out.2
          obtain ⟨c0, c1, c4⟩ := HC0.out wr hbw
          have hpa := HAL.out.1.below' hin.out.2
          have c5 := hpa.cell (strs_get (show k < D by omega))
          have c6 := hpa.cell (strs_get (show n + k < D by omega))
          have k1 := reg_of (w := wr) (fun W hW => HSB.out W k (bel_to hbw hW))
          have k2 := reg_of (w := wr) (fun W hW => HOF.out (R (allS A b D m k - allS A b D m (n + k))) W (bel_to hbw hW))
          have hw2 : IntKind.i64.wrap ((n : Int) + (k : Int)) = ((n + k : Nat) : Int) := by rw [IntWalk.i64_in _ (by omega)]; omega
          obtain ⟨x, hx⟩ : ∃ x, x = n + k := ⟨_, rfl⟩
          have hxD : (x : Int) < (D : Int) := by omega
          have hx0 : (0 : Int) ≤ (x : Int) := by omega
          have hkD : (k : Int) < (D : Int) := by omega
          have hk0 : (0 : Int) ≤ (k : Int) := by omega
          rw [← hx] at c6 k1 k2 hw2
          have HWF : Hid (pointF n m A b k = allS A b D m k - allS A b D m x) := Lib.hid (by rw [HPF.out, hx])
          have m0 := cell_regrown c0
          have m1 := cell_regrown c1
          have m5 := cell_regrown c5
          have m6 := cell_regrown c6
          have e1 : ∀ args w, (callFunc 151 args).run Tryz.prog w = .ok (.enter 151 args) w := enters_of Tryz.func151 (by kernel_rfl) rfl
          have e2 : ∀ args w, (callFunc 147 args).run Tryz.prog w = .ok (.enter 147 args) w := enters_of Tryz.func147 (by kernel_rfl) rfl
          clear c0 c1 c4 c5 c6 hx hpa hbw
          generalize allS A b D m k - allS A b D m x = q1 at *
          generalize allS A b D m k = q2 at *
          generalize allS A b D m x = q3 at *
          go_wp2_with fail
          refine region_below_tail1 (v := vo) 21 (by kernel_rfl) (by kernel_rfl) (fun _ _ _ h => h) (Or.inl ⟨by rfl, fun wz => by go_simp⟩) ?_
          simp only [List.take_succ_cons, List.take_zero, List.drop_succ_cons, List.drop_zero, Act.put, List.setIfInBounds_toArray, List.set_cons_zero, List.set_cons_succ]
          repeat (go_big_quiet_step (fail))
          go_big_quiet_step (exact k1 _ _)
          repeat (go_big_quiet_step (fail))
          go_big_quiet_step (exact k2 _ _)
          repeat (go_big_quiet_step (fail))
          refine wpQuiet_nil ?_
          intro W6 hw'
          have hb6 : Below wr.heap.size wr W6 := by obtain ⟨p, e⟩ := hw'; rw [e]; exact below_regrown wr p.d p.os
          clear hw'
          have HT6 : Hid (OwnS W6 W0.heap.size vo (mapR (pointF n m A b) k) ∧ Below W0.heap.size W0 W6) := Lib.hid ⟨hin.out.1.below hb6, bel_to hin.out.2 hb6⟩
          clear k1 k2 m0 m1 m5 m6 e1 e2 hb6 hin hw2
          go_wp2_with (at_builtin; refine wpList_app_s (q := R q1) rfl _ _ rfl rfl rfl rfl HT6.out.1 HT6.out.2.size (by rw [mapR_len]; omega) ?_; intro v2 w2 ho2 hk2)
          have HFI : Hid (OwnS w2 W0.heap.size v2 (mapR (pointF n m A b) (k + 1)) ∧ Below W0.heap.size W0 w2) := Lib.hid ⟨by
            rw [mapR_snoc, HWF.out]; exact ho2, hk2 _ _ (Nat.le_refl _) HT6.out.2⟩
          clear ho2 hk2 HT6
          go_wp2
          go_roundw
          case rel => exact ⟨k + 1, _, by go_num, rfl, hlt, HFI⟩
          case measure => simp [intOf]; omega
        · obtain rfl : n = k := by omega
          clear HC0 HSB HOF HPF
          have HX := Lib.hid (And.intro (ownsRow_base hin.out.1 HAL.out.2.1.size) (bel_to HAL.out.2.1 hin.out.2))
          clear hin
          go_wp2
          go_ret
          exact ⟨_, rfl, HX.out.1, HX.out.2⟩
end
end W
end Go.Proofs.YtfcffheboncmbaaGreatDoor
end
section
namespace Go.Proofs.YtfcffheboncmbaaGreatDoor
open Go Go.RowKit Go.Deep Go.Sort Go.Shelf
namespace M
/-- The goal's row after k unknowns. -/
def goalP (n : Nat) (goal : List Rat) (k : Nat) : Nat → Rat := fun j => if j < k then nth goal j else if n ≤ j ∧ j < n + k then - nth goal (j - n) else 0
theorem goalP_zero (n : Nat) (goal : List Rat) : goalP n goal 0 = fun _ => 0 := by
  funext j; unfold goalP; rw [if_neg (by omega), if_neg (by omega)]
theorem goalP_step (n : Nat) (goal : List Rat) (k : Nat) (hk : k < n) : upd (upd (goalP n goal k) k (nth goal k)) (n + k) (- nth goal k) = goalP n goal (k + 1) := by
  funext j
  unfold upd goalP
  by_cases h1 : j = n + k
  · subst h1
    rw [if_pos rfl, if_neg (by omega), if_pos (by omega), show n + k - n = k by omega]
  · rw [if_neg h1]
    by_cases h2 : j = k
    · subst h2; rw [if_pos rfl, if_pos (by omega)]
    · rw [if_neg h2]
      by_cases h3 : j < k
      · rw [if_pos h3, if_pos (by omega)]
      · rw [if_neg h3, if_neg (show ¬ j < k + 1 by omega)]
        by_cases h4 : n ≤ j ∧ j < n + k
        · rw [if_pos h4, if_pos (by omega)]
        · rw [if_neg h4, if_neg (by omega)]
theorem goalP_end (n : Nat) (goal : List Rat) : goalP n goal n = goalF n goal := by
  funext j
  unfold goalP goalF
  by_cases h1 : j < n
  · rw [if_pos h1, if_pos h1]
  · rw [if_neg h1, if_neg h1]
    by_cases h2 : j < 2 * n
    · rw [if_pos (by omega), if_pos h2]
    · rw [if_neg (by omega), if_neg h2]
/-- One row's column out of the goal. -/
def aimG (n m : Nat) (A : Mx) (b : Nat → Nat) (g : List Rat) (i : Nat) : List Rat := (List.range (wdt n m + 1)).map fun k => nth g k - nth g (b i) * A i k
theorem aimT_back {ez n m : Nat} {A : Mx} {b : Nat → Nat} {goal : List Rat} {i : Nat} {g2 : List Rat} (h : aimT ez n m A b goal (i + 1) = some g2) :
    ∃ g, aimT ez n m A b goal i = some g ∧ smallL ez g = true ∧ g2 = aimG n m A b g i := by
  unfold aimT at h
  cases hg : aimT ez n m A b goal i with
  | none => rw [hg] at h; cases h
  | some g =>
    rw [hg] at h
    simp only at h
    by_cases hs : smallL ez g = true
    · rw [if_pos hs] at h; exact ⟨g, rfl, hs, (Option.some.inj h).symm⟩
    · rw [if_neg hs] at h; cases h
theorem aimT_le {ez n m : Nat} {A : Mx} {b : Nat → Nat} {goal : List Rat} : ∀ (d i : Nat) (g2 : List Rat), aimT ez n m A b goal (i + d) = some g2 → ∃ g, aimT ez n m A b goal i = some g
  | 0, i, g2, h => ⟨g2, h⟩
  | d + 1, i, g2, h => by
    obtain ⟨g, hg, _, _⟩ := aimT_back (i := i + d) h
    exact aimT_le d i g hg
theorem aimT_fwd {ez n m : Nat} {A : Mx} {b : Nat → Nat} {goal : List Rat} {gm : List Rat} (h : aimT ez n m A b goal m = some gm) {i : Nat} (hi : i < m) {g : List Rat} (hg : aimT ez n m A b goal i = some g) :
    smallL ez g = true ∧ aimT ez n m A b goal (i + 1) = some (aimG n m A b g i) := by
  obtain ⟨d, rfl⟩ := Nat.exists_eq_add_of_le (show i + 1 ≤ m by omega)
  obtain ⟨g2, hg2⟩ := aimT_le d (i + 1) gm h
  obtain ⟨g3, h3, hs, he⟩ := aimT_back hg2
  rw [hg] at h3
  obtain rfl := Option.some.inj h3
  exact ⟨hs, by rw [hg2, he]⟩
theorem nth_small {ez : Nat} {g : List Rat} (h : smallL ez g = true) (hez1 : 1 ≤ ez) (k : Nat) : Bq ez (nth g k) := by
  unfold nth
  by_cases hk : k < g.length
  · rw [show g.getD k 0 = g[k] by simp [hk]]; exact smallL_bq h _ (List.getElem_mem hk)
  · rw [show g.getD k 0 = 0 by simp [Nat.not_lt.1 hk]]; exact Bq_nil.mono hez1
theorem upd_row (A : Mx) (f : Nat → Rat) (j k : Nat) (q : Rat) : upd (upd A j f) j (upd ((upd A j f) j) k q) = upd A j (upd f k q) := by
  funext i
  by_cases e : i = j
  · subst e; rw [upd_same, upd_same, upd_same]
  · rw [upd_other _ e, upd_other _ e, upd_other _ e]
theorem rowsV_congr {f g : Nat → Nat} {m L : Nat} (h : ∀ k, k < m → f k = g k) : rowsV f m L = rowsV g m L := by
  unfold rowsV
  apply List.map_congr_left
  intro k hk
  rw [h k (List.mem_range.1 hk)]
end M
open M in
theorem TabS.goal {w : World} {B p S gr gb cr cb : Nat} {h : Nat → Nat} {n m : Nat} {A : Mx} {b : Nat → Nat} (t : TabS w B p S gr gb cr cb h n m A b) {g : Nat} {f : Nat → Rat}
    (hg : Pre w g 40 (Strs (mapR f (wdt n m + 1)))) (hB : B ≤ g) (hj : ∀ j, j ≤ m → g ≠ h j) (hne : g ≠ p ∧ g ≠ S ∧ g ≠ gr ∧ g ≠ gb) :
    TabS (w.setCell ⟨p, 5, none⟩ (.slice (some ⟨g, 0, none⟩) (wdt n m + 1) (wdt n m + 1))) B p S gr gb cr cb (upd h m g) n m (upd A m f) b := by
  obtain ⟨q1, q2, q3, _, _, _⟩ := t.pne
  have h5 := t.tab.set (i := 5) (by simp) (.slice (some ⟨g, 0, none⟩) (wdt n m + 1) (wdt n m + 1))
  refine { t with gl := t.gl.below ((Below.refl B w).setCell (p := ⟨p, 5, none⟩) t.lowp _) t.hB, tab := ?_, err := Row.other t.err (fun e => q1 e.symm) _, rows := ?_, bas := t.bas.other (fun e => q3 e.symm) _, mat := fun j hjm => ?_, lowh := fun j hjm => ?_, inj := fun i j hi hjm e => ?_, hne := fun j hjm => ?_ }
  · rw [upd_same]; exact h5
  · rw [rowsV_congr (g := h) (fun k hk => upd_other _ (by omega) _)]
    exact t.rows.other (fun e => q2 e.symm) _
  · by_cases e : j = m
    · subst e
      rw [upd_same, upd_same]
      exact hg.other (fun e => hne.1 e) _
    · rw [upd_other _ e, upd_other _ e]
      exact (t.mat j hjm).other (fun e => (t.hne j hjm).1 e) _
  · by_cases e : j = m
    · subst e; rw [upd_same]; exact hB
    · rw [upd_other _ e]; exact t.lowh j hjm
  · by_cases e1 : i = m
    · by_cases e2 : j = m
      · rw [e1, e2]
      · rw [e1, upd_same, upd_other _ e2] at e
        exact absurd e (hj j hjm)
    · by_cases e2 : j = m
      · rw [e2, upd_same, upd_other _ e1] at e
        exact absurd e.symm (hj i hi)
      · rw [upd_other _ e1, upd_other _ e2] at e
        exact t.inj i j hi hjm e
  · by_cases e : j = m
    · subst e; rw [upd_same]; exact hne
    · rw [upd_other _ e]; exact t.hne j hjm
namespace W
open M
attribute [local go_sem] bs_size bs_toList bs_get bs_extract bs_append bs_lit0 bs_lit1 lit1_bs
set_option maxHeartbeats 2000000
set_option maxRecDepth 20000
section
variable {w : World} {B p S gr gb cr cb : Nat} {h : Nat → Nat} {n m : Nat} {A : Mx} {b : Nat → Nat}
theorem paim (t : TabS w B p S gr gb cr cb h n m A b) (vg : Value) (goal gm : List Rat) (ez e : Nat) (hez : ez ≤ 210) (hez1 : 1 ≤ ez) (hg : ∀ W, Below B w W → RdT W vg (rx goal)) (hgl : goal.length = n) (hgq : ∀ x ∈ goal, Bq 20 x)
    (hA : ∀ j, j ≤ m → ∀ k, k ≤ wdt n m → Bq e (A j k)) (he : e ≤ 210) (haim : aimT ez n m A b goal m = some gm) :
    Calls Tryz.prog 110 #[.pointer (some ⟨p, 0, none⟩), vg] w fun ee w' =>
      ee = .returned (.tuple #[]) ∧ (∃ gx, TabS w' B p S gr gb cr cb (upd h m gx) n m (upd A m (nth gm)) b) ∧ Below B w w' := by
  obtain ⟨L, hL⟩ : ∃ L, L = wdt n m + 1 := ⟨_, rfl⟩
  obtain ⟨D, hD⟩ : ∃ D, D = wdt n m := ⟨_, rfl⟩
  have hms := t.hm
  have hns := t.hn
  have hDn : 2 * n + m < D := by rw [hD]; unfold wdt; omega
  have hDs : D ≤ 10000 := by rw [hD]; unfold wdt; omega
  have hLD : L = D + 1 := by rw [hL, hD]
  have HLD := Lib.hid hLD
  have hLs : L ≤ 20000 := by omega
  have hL1 : IntKind.i64.wrap ((D : Int) + 1) = (L : Int) := by rw [IntWalk.i64_in _ (by omega)]; omega
  have HT := Lib.hid t
  have HBS := Lib.hid (TabS.size t)
  have HDE : Hid (D = wdt n m ∧ L = wdt n m + 1) := Lib.hid ⟨hD, hL⟩
  obtain ⟨Ag, cg, rfl⟩ := (hg w (Below.refl _ _)).len
  have HG := Lib.hid hg
  rw [rx_len goal, hgl] at HG ⊢
  have HGL := Lib.hid hgl
  have HGQ := Lib.hid hgq
  have HA := Lib.hid hA
  have HAM := Lib.hid haim
  have hb0 : Below w.heap.size w (w.alloc (.cells #[.string (bs [48])] 40 (0, 0))) := (Below.refl _ _).alloc (Nat.le_refl _) _
  have HW1 := Lib.hid (pwidth (t.below' hb0))
  rw [← hD] at HW1
  have hr0 : (w.alloc (.cells #[.string (bs [48])] 40 (0, 0))).cell? ⟨w.heap.size, 0, none⟩ = some (.string (bs [48])) := (Row.new w 40 [.string (bs [48])]).cell rfl
  have HB0 := Lib.hid (And.intro hb0 hr0)
  clear hb0 hr0 t hg hgl hgq hA hL hD hLD haim
  go_enter Tryz.func110, Tryz.ntmps110
  go_wp2_with fail
  refine (HW1.out).mono ?_
  rintro e wa ⟨rfl, hba⟩
  have hx1 : wa.cell? ⟨w.heap.size, 0, none⟩ = some (.string (bs [48])) := (hba.cell (p := ⟨w.heap.size, 0, none⟩) (block_lt_of_cell HB0.out.2)).trans HB0.out.2
  have HBA := Lib.hid (bel_to HB0.out.1 hba)
  have HRP := Lib.hid (prepeat w.heap.size 1 L wa hx1 (by have := HLD.out; omega) (by have := HLD.out; omega))
  clear hba hx1 HB0 HW1
  go_wp2_with fail
  refine HRP.out.mono ?_
  rintro e1 w1 ⟨ga, rfl, hga, hrow, hb1⟩
  have hbw1 := bel_to HBA.out hb1
  have hgs : w.heap.size ≤ ga := Nat.le_trans HBA.out.size hga
  have ht1 := HT.out.below' hbw1
  rw [part0_map, HDE.out.2] at hrow
  have htg := ht1.goal (Pre.of hrow) (by have := HBS.out; omega) (fun j hj => by have := TabS.hlt HT.out hj; omega)
    (by have := HT.out.tab.lt; have := HT.out.err.lt; have := HT.out.rows.lt; have := HT.out.bas.lt; exact ⟨by omega, by omega, by omega, by omega⟩)
  rw [← HDE.out.2] at htg
  obtain ⟨h2, hh2⟩ : ∃ h2, h2 = upd h m ga := ⟨_, rfl⟩
  rw [← hh2] at htg
  have HTG : Hid (TabS (w1.setCell ⟨p, 5, none⟩ (.slice (some ⟨ga, 0, none⟩) L L)) B p S gr gb cr cb h2 n m (upd A m (goalP n goal 0)) b ∧ Below B w (w1.setCell ⟨p, 5, none⟩ (.slice (some ⟨ga, 0, none⟩) L L))) := Lib.hid ⟨by rw [goalP_zero]; exact htg, (hbw1.mono HBS.out).setCell (p := ⟨p, 5, none⟩) HT.out.lowp _⟩
  have fz := ht1.ft 5
  have fc := ht1.c5
  rw [← HDE.out.2] at fc
  have HH2 := Lib.hid hh2
  clear hga hrow hb1 HRP HBA ht1 htg hgs hh2
  go_wp2_with fail
  generalize w1.setCell ⟨p, 5, none⟩ (.slice (some ⟨ga, 0, none⟩) L L) = w2 at *
  clear fz fc hbw1
  go_loopw [20] (fun iv wr => ∃ k : Nat, iv = .int .i64 (k : Int) ∧ k ≤ n ∧ Hid (TabS wr B p S gr gb cr cb h2 n m (upd A m (goalP n goal k)) b ∧ Below B w wr)) (fun iv _ => n - (intOf iv).toNat)
  case atStart => exact ⟨0, rfl, by omega, HTG⟩
  case round =>
    clear HTG
    obtain ⟨k, rfl, hk, hin⟩ := hrel
    by_cases hlt : k < n
    · obtain ⟨b1, o1, rfl, hts⟩ := (HG.out wr hin.out.2).row k (by rw [rx_len, HGL.out]; exact hlt)
      have hkg : k < goal.length := by rw [HGL.out]; exact hlt
      have c9 := hts.val k (by rw [rx_len]; exact hkg)
      rw [rx_get goal k hkg, ← nth_get goal k hkg] at c9
      have hq : Bq 20 (nth goal k) := by rw [nth_get goal k hkg]; exact HGQ.out _ (List.getElem_mem hkg)
      have hw2 : IntKind.i64.wrap ((n : Int) + (k : Int)) = ((n + k : Nat) : Int) := by rw [IntWalk.i64_in _ (by omega)]; omega
      have HUP : Hid (upd (upd (goalP n goal k) k (nth goal k)) (n + k) (- nth goal k) = goalP n goal (k + 1)) := Lib.hid (goalP_step n goal k hlt)
      obtain ⟨x, hx⟩ : ∃ x, x = n + k := ⟨_, rfl⟩
      have hxL : (x : Int) < (L : Int) := by have := HLD.out; omega
      have hx0 : (0 : Int) ≤ (x : Int) := by omega
      have hkL : (k : Int) < (L : Int) := by have := HLD.out; omega
      have hk0 : (0 : Int) ≤ (k : Int) := by omega
      have hkx : k ≠ x := by omega
      have HKW : Hid (k ≤ wdt n m ∧ x ≤ wdt n m) := Lib.hid (by have := HDE.out; have := HLD.out; omega)
      rw [← hx] at hw2 HUP
      have hqd : Bq 20 (nth goal k) := hq
      obtain ⟨q, hq⟩ : ∃ q, q = nth goal k := ⟨_, rfl⟩
      rw [← hq] at c9 HUP hqd
      obtain ⟨gz, hgz⟩ : ∃ gz, gz = h2 m := ⟨_, rfl⟩
      have HK1 := Lib.hid (fun W A1 (hT : TabS W B p S gr gb cr cb h2 n m A1 b) => ratNeg q 20 W hT.gl hqd (by decide))
      have HK2 := Lib.hid (fun W A1 (hT : TabS W B p S gr gb cr cb h2 n m A1 b) => psof S (R (-q)) W hT.err)
      have HCL := Lib.hid (fun W A1 (hT : TabS W B p S gr gb cr cb h2 n m A1 b) => (by
        have c5 := hT.c5
        rw [← HDE.out.2, ← hgz] at c5
        exact ⟨hT.c0, hT.c1, c5⟩ : W.cell? ⟨p, 0, none⟩ = some (.pointer (some ⟨S, 0, none⟩)) ∧ W.cell? ⟨p, 1, none⟩ = some (.int .i64 (n : Int)) ∧ W.cell? ⟨p, 5, none⟩ = some (.slice (some ⟨gz, 0, none⟩) L L)))
      have HFC := Lib.hid (fun W A1 y (hy : y ≤ wdt n m) (hT : TabS W B p S gr gb cr cb h2 n m A1 b) => (by
        rw [hgz]
        exact ⟨hT.fe (Nat.le_refl m) y, hT.ce (Nat.le_refl m) hy⟩ : W.frozen? ⟨gz, y, none⟩ = false ∧ W.cell? ⟨gz, y, none⟩ = some (.string (bs (R (A1 m y))))))
      have HSA := Lib.hid (fun W f y r (hy : y ≤ wdt n m) (hT : TabS W B p S gr gb cr cb h2 n m (upd A m f) b ∧ Below B w W) => (by
        have t1 := hT.1.setA (Nat.le_refl m) hy r
        rw [upd_row, ← hgz] at t1
        have t2 := hT.1.belowA hT.2 (Nat.le_refl m) y (.string (bs (R r)))
        rw [← hgz] at t2
        exact ⟨t1, t2⟩ : TabS (W.setCell ⟨gz, y, none⟩ (.string (bs (R r)))) B p S gr gb cr cb h2 n m (upd A m (upd f y r)) b ∧ Below B w (W.setCell ⟨gz, y, none⟩ (.string (bs (R r))))))
      have HBT := Lib.hid (fun W W' f (hT : TabS W B p S gr gb cr cb h2 n m (upd A m f) b ∧ Below B w W) (hb : Below W.heap.size W W') => (And.intro (hT.1.below' hb) (hT.2.trans (hb.mono (TabS.size hT.1))) : TabS W' B p S gr gb cr cb h2 n m (upd A m f) b ∧ Below B w W'))
      have HTD := Lib.hid (HBT.out _ _ _ hin.out (RowKit.Below.drew (Below.refl wr.heap.size wr)))
      clear hx hts hkg hgz hq hqd hin
      go_wp2_with fail
      go_region_held3 (fun W => W.cell? ⟨p, 0, none⟩ = some (.pointer (some ⟨S, 0, none⟩)) ∧ W.cell? ⟨p, 1, none⟩ = some (.int .i64 (n : Int)) ∧ W.cell? ⟨p, 5, none⟩ = some (.slice (some ⟨gz, 0, none⟩) L L))
        (first | exact HCL.out _ _ HT8.out.1 | exact HCL.out _ _ HT7.out.1 | exact HCL.out _ _ HT6.out.1 | exact HCL.out _ _ HT5.out.1 | exact HCL.out _ _ HTD.out.1)
        (first
        | (go_at_call 66; refine (HK1.out _ _ HTD.out.1).mono ?_; rintro e w5 ⟨rfl, hb5⟩; have HT5 := Lib.hid (HBT.out _ _ _ HTD.out hb5))
        | (go_at_call 147; refine (HK2.out _ _ HT5.out.1).mono ?_; rintro e w6 ⟨rfl, hb6⟩; have HT6 := Lib.hid (HBT.out _ _ _ HT5.out hb6); have HT7 := Lib.hid (HSA.out _ _ k q HKW.out.1 HT6.out); obtain ⟨fz, fc⟩ := HFC.out _ _ k HKW.out.1 HT6.out.1; obtain ⟨fy, fd⟩ := HFC.out _ _ x HKW.out.2 HT7.out.1; have HT8 := Lib.hid (HSA.out _ _ x (-q) HKW.out.2 HT7.out)))
      rw [HUP.out] at HT8
      clear HK1 HK2 HCL HFC HSA HBT HTD HT5 HT6 HT7 HUP fz fc fy fd hw2 c9
      go_wp2
      go_roundw
      case rel => exact ⟨k + 1, by go_num, hlt, HT8⟩
      case measure => simp [intOf]; omega
    · obtain rfl : n = k := by omega
      have HTG : Hid (TabS wr B p S gr gb cr cb h2 n m (upd A m (goalF n goal)) b ∧ Below B w wr) := Lib.hid ⟨by rw [← goalP_end]; exact hin.out.1, hin.out.2⟩
      have c4 := hin.out.1.c4
      clear hin HG HGQ
      have HX0 : Hid (∃ g, aimT ez n m A b goal 0 = some g ∧ TabS wr B p S gr gb cr cb h2 n m (upd A m (nth g)) b ∧ Below B w wr) := Lib.hid (by
        refine ⟨_, rfl, HTG.out.1.congr (fun j hj k hk => ?_) (fun _ _ => rfl), HTG.out.2⟩
        by_cases e : j = m
        · subst e; rw [upd_same, upd_same]; exact (nth_map _ _ _ (by omega)).symm
        · rw [upd_other _ e, upd_other _ e])
      clear HTG
      go_wp2_with fail
      go_loopw [58] (fun iv wr => ∃ i : Nat, iv = .int .i64 (i : Int) ∧ i ≤ m ∧ Hid (∃ g, aimT ez n m A b goal i = some g ∧ TabS wr B p S gr gb cr cb h2 n m (upd A m (nth g)) b ∧ Below B w wr)) (fun iv _ => m - (intOf iv).toNat)
      case atStart => exact ⟨0, rfl, by omega, HX0⟩
      case round =>
        clear HX0 c4
        obtain ⟨i, rfl, hi, hin⟩ := hrel
        by_cases hlt : i < m
        · obtain ⟨g, hgi, hti, hbi⟩ := hin.out
          obtain ⟨hsm, hnx⟩ := aimT_fwd HAM.out hlt hgi
          have c4 := hti.cbas hlt
          have c5 := hti.c5
          rw [← HDE.out.2] at c5
          have hbl := hti.blt i hlt
          have c6 := hti.ce (Nat.le_refl m) (show b i ≤ wdt n m by omega)
          rw [upd_same] at c6
          have hb0 : (0 : Int) ≤ (b i : Int) := by omega
          have hbL : (b i : Int) < (L : Int) := by have := HDE.out; omega
          have hi0 : (0 : Int) ≤ (i : Int) := by omega
          have his : (i : Int) < (m : Int) := by omega
          obtain ⟨G, hG⟩ : ∃ G : Nat → Rat, G = fun k => nth g k - nth g (b i) * A i k := ⟨_, rfl⟩
          have HSTT : Hid (TabS wr B p S gr gb cr cb h2 n m (upd A m (mix (nth g) G 0)) b ∧ Below B w wr) := Lib.hid ⟨by rw [mix_zero]; exact hti, hbi⟩
          have HNX := Lib.hid hnx
          have HEND := Lib.hid (fun W (hT : TabS W B p S gr gb cr cb h2 n m (upd A m (mix (nth g) G L)) b) => (hT.congr (fun j hj k hk => by
            have := HDE.out.2
            by_cases e : j = m
            · subst e
              rw [upd_same, upd_same, mix_lt (by omega), hG]
              unfold aimG
              rw [nth_map _ _ k (show k < wdt n j + 1 by omega)]
            · rw [upd_other _ e, upd_other _ e]) (fun _ _ => rfl) : TabS W B p S gr gb cr cb h2 n m (upd A m (nth (aimG n m A b g i))) b))
          obtain ⟨y, hy⟩ : ∃ y, y = nth g (b i) := ⟨_, rfl⟩
          rw [← hy] at c6
          have HLS := Lib.hid (fun W k (hk : k < L) (hT : TabS W B p S gr gb cr cb h2 n m (upd A m (mix (nth g) G k)) b) => (by
            have e2 : G k = nth g k - y * A i k := by rw [hG, hy]
            rw [e2]
            exact psless S (nth g k) y (A i k) ez ez e W hT.gl hT.err (nth_small hsm hez1 k) (by rw [hy]; exact nth_small hsm hez1 _) (HA.out i (by omega) k (by have := HDE.out.2; omega)) (by omega) : Calls Tryz.prog 153 #[.pointer (some ⟨S, 0, none⟩), .string (bs (R (nth g k))), .string (bs (R y)), .string (bs (R (A i k)))] W (Ret W (.string (bs (R (G k)))))))
          have HCC := Lib.hid (fun W k (hk : k < L) (hT : TabS W B p S gr gb cr cb h2 n m (upd A m (mix (nth g) G k)) b) => (by
            have hkw : k ≤ wdt n m := by have := HDE.out.2; omega
            have d1 := hT.ce (Nat.le_refl m) hkw
            rw [upd_same, mix_ge (Nat.le_refl k)] at d1
            have d2 := hT.ce (show i ≤ m by omega) hkw
            rw [upd_other _ (by omega)] at d2
            have d3 := hT.crow hlt
            have d4 := hT.c5
            rw [← HDE.out.2] at d3 d4
            exact ⟨hT.c0, hT.c3, d4, d3, d1, d2⟩ : W.cell? ⟨p, 0, none⟩ = some (.pointer (some ⟨S, 0, none⟩)) ∧ W.cell? ⟨p, 3, none⟩ = some (.slice (some ⟨gr, 0, none⟩) m cr) ∧ W.cell? ⟨p, 5, none⟩ = some (.slice (some ⟨h2 m, 0, none⟩) L L) ∧ W.cell? ⟨gr, i, none⟩ = some (.slice (some ⟨h2 i, 0, none⟩) L L) ∧ W.cell? ⟨h2 m, k, none⟩ = some (.string (bs (R (nth g k)))) ∧ W.cell? ⟨h2 i, k, none⟩ = some (.string (bs (R (A i k))))))
          have HSS := Lib.hid (fun W k (hk : k < L) (hT : TabS W B p S gr gb cr cb h2 n m (upd A m (mix (nth g) G k)) b ∧ Below B w W) => (by
            have t1 := hT.1.setA (Nat.le_refl m) (show k ≤ wdt n m by have := HDE.out.2; omega) (G k)
            rw [upd_mix] at t1
            exact ⟨t1, hT.1.belowA hT.2 (Nat.le_refl m) k _⟩ : TabS (W.setCell ⟨h2 m, k, none⟩ (.string (bs (R (G k))))) B p S gr gb cr cb h2 n m (upd A m (mix (nth g) G (k + 1))) b ∧ Below B w (W.setCell ⟨h2 m, k, none⟩ (.string (bs (R (G k)))))))
          have HFZ := Lib.hid (fun W k (hT : TabS W B p S gr gb cr cb h2 n m (upd A m (mix (nth g) G k)) b) => hT.fe (Nat.le_refl m) k)
          clear hin hgi hti hbi hsm hnx hG hy hbl
          obtain ⟨W0, hW0⟩ : ∃ W0, W0 = wr := ⟨_, rfl⟩
          rw [← hW0] at HSTT c4 c5 c6 ⊢
          clear hW0
          go_wp2_with fail
          go_loopw [75] (fun iv wr => ∃ k : Nat, iv = .int .i64 (k : Int) ∧ k ≤ L ∧ Hid (TabS wr B p S gr gb cr cb h2 n m (upd A m (mix (nth g) G k)) b ∧ Below B w wr)) (fun iv _ => L - (intOf iv).toNat)
          case atStart => exact ⟨0, rfl, by omega, HSTT⟩
          case round =>
            clear HSTT c4 c5 c6
            obtain ⟨k, rfl, hk, hin⟩ := hrel
            by_cases hlk : k < L
            · obtain ⟨c0, c3, c5, c4, c6, c7⟩ := HCC.out wr k hlk hin.out.1
              have k1 := reg_of (w := wr) (fun W hW => HLS.out W k hlk (hin.out.1.below' hW))
              have hk0 : (0 : Int) ≤ (k : Int) := by omega
              have hks : (k : Int) < (L : Int) := by omega
              have m0 := cell_regrown c0
              have m3 := cell_regrown c3
              have m4 := cell_regrown c4
              have m5 := cell_regrown c5
              have m6 := cell_regrown c6
              have m7 := cell_regrown c7
              have e1 : ∀ args w, (callFunc 153 args).run Tryz.prog w = .ok (.enter 153 args) w := enters_of Tryz.func153 (by kernel_rfl) rfl
              clear c0 c3 c4 c5 c6 c7
              go_wp2_with fail
              refine region_below_tail 28 (by kernel_rfl) (by kernel_rfl) ?_
              simp only [List.take_succ_cons, List.take_zero, List.drop_succ_cons, List.drop_zero]
              repeat (go_big_quiet_step (fail))
              go_big_quiet_step (exact k1 _ _)
              repeat (go_big_quiet_step (fail))
              refine wpQuiet_nil ?_
              intro W6 hw'
              have hb6 : Below wr.heap.size wr W6 := by obtain ⟨p, e⟩ := hw'; rw [e]; exact below_regrown wr p.d p.os
              clear hw'
              have HT6 := Lib.hid (And.intro (hin.out.1.below' hb6) (hin.out.2.trans (hb6.mono (TabS.size hin.out.1))))
              clear k1 m0 m3 m4 m5 m6 m7 e1 hb6 hin
              have fz := HFZ.out W6 k HT6.out.1
              have fc := (HCC.out W6 k hlk HT6.out.1).2.2.2.2.1
              have HN := Lib.hid (HSS.out W6 k hlk HT6.out)
              clear HT6
              go_wp2
              go_roundw
              case rel => exact ⟨k + 1, by go_num, hlk, HN⟩
              case measure => simp [intOf]; omega
            · obtain rfl : L = k := by omega
              have HN : Hid (∃ g, aimT ez n m A b goal (i + 1) = some g ∧ TabS wr B p S gr gb cr cb h2 n m (upd A m (nth g)) b ∧ Below B w wr) := Lib.hid ⟨_, HNX.out, HEND.out wr hin.out.1, hin.out.2⟩
              clear hin HLS HCC HSS HFZ HEND
              go_wp2
              go_roundw
              case rel => exact ⟨i + 1, by go_num, hlt, HN⟩
              case measure => simp [intOf]; omega
        · obtain rfl : m = i := by omega
          have HN : Hid (∃ gx, TabS wr B p S gr gb cr cb (upd h m gx) n m (upd A m (nth gm)) b) := Lib.hid (by
            obtain ⟨g, hgi, hti, _⟩ := hin.out
            rw [HAM.out] at hgi
            obtain rfl := Option.some.inj hgi
            rw [HH2.out] at hti
            exact ⟨ga, hti⟩)
          have HNB : Hid (Below B w wr) := Lib.hid (by obtain ⟨_, _, _, hb⟩ := hin.out; exact hb)
          clear hin
          go_wp2
          go_end0
          exact ⟨rfl, HN.out, HNB.out⟩
end
end W
end Go.Proofs.YtfcffheboncmbaaGreatDoor
end
