/-
  Chapter 5: 'leaving' finds the row that determines a column next.
  XBt's law inside a fence: a region that draws its order: reads and calls that lay blocks at most, then a tail in one forced order (a call of yield).
  Chapter 5: 'columns', an iterator over the columns that make the goal greater, and 'first', which takes its first one.
  Chapter 5: 'first' takes the first column that an iterator hands on.
  Chapter 5: 'climb' makes the goal as great as possible.
  Chapter 5: slices.Index of a basis; the row of the least right side; 'ready'.
-/
import Derived.Test.YtellemlhhlafcaaGreatDoorKJ
import Derived.Test.YtellemlhhlafcaaGreatDoorKI
import Derived.Sort.QuietThIn
import Derived.Sort.BigQuietIn
import Derived.RangeFuncNested
import Derived.RangeFuncBound
import Derived.RangeFuncCalls
import Derived.RangeFuncLeaves
import Derived.RangeFuncFrom
import Derived.WalkKit
import Derived.OwnWalkIn
import Derived.TacticsInMore
import Derived.LoopNIn
import Derived.LoopIn
import Derived.RangeFuncBox
section
namespace Go.Proofs.YtellemlhhlafcaaGreatDoor
open Go Go.RowKit Go.Deep Go.Sort
namespace M
def plV : Option Nat → Int
  | none => -1
  | some k => (k : Int)
def LvOk (A : Mx) (c wd i : Nat) : Option Nat × Rat → Prop
  | (none, l) => l = 0
  | (some k, l) => k < i ∧ 0 < A k c ∧ l = A k wd / A k c
theorem lvOne_none (A : Mx) (b : Nat → Nat) (c wd i : Nat) (l : Rat) : lvOne A b c wd i (none, l) = if A i c ≤ 0 then (none, l) else (some i, A i wd / A i c) := rfl
theorem lvOne_some (A : Mx) (b : Nat → Nat) (c wd i k : Nat) (l : Rat) : lvOne A b c wd i (some k, l) = if A i c ≤ 0 then (some k, l) else if A i wd / A i c < l ∨ (A i wd / A i c = l ∧ b i < b k) then (some i, A i wd / A i c) else (some k, l) := rfl
theorem lvS_succ (A : Mx) (b : Nat → Nat) (c wd i : Nat) : lvS A b c wd (i + 1) = lvOne A b c wd i (lvS A b c wd i) := rfl
theorem lvOne_ok {A : Mx} {b : Nat → Nat} {c wd i : Nat} {s : Option Nat × Rat} (h : LvOk A c wd i s) : LvOk A c wd (i + 1) (lvOne A b c wd i s) := by
  obtain ⟨o, l⟩ := s
  cases o with
  | none =>
    rw [lvOne_none]
    by_cases h1 : A i c ≤ 0
    · rw [if_pos h1]; exact h
    · rw [if_neg h1]; exact ⟨by omega, by grind, rfl⟩
  | some k =>
    have h' : k < i ∧ 0 < A k c ∧ l = A k wd / A k c := h
    rw [lvOne_some]
    by_cases h1 : A i c ≤ 0
    · rw [if_pos h1]; exact ⟨by omega, h'.2⟩
    · rw [if_neg h1]
      by_cases h2 : A i wd / A i c < l ∨ (A i wd / A i c = l ∧ b i < b k)
      · rw [if_pos h2]; exact ⟨by omega, by grind, rfl⟩
      · rw [if_neg h2]; exact ⟨by omega, h'.2⟩
theorem lvS_ok (A : Mx) (b : Nat → Nat) (c wd : Nat) : ∀ i, LvOk A c wd i (lvS A b c wd i)
  | 0 => rfl
  | i + 1 => lvOne_ok (lvS_ok A b c wd i)
theorem leaveT_some {n m : Nat} {A : Mx} {b : Nat → Nat} {c r : Nat} (h : leaveT n m A b c = some r) : r < m ∧ 0 < A r c := by
  have h2 := lvS_ok A b c (wdt n m) m
  unfold leaveT at h
  generalize lvS A b c (wdt n m) m = s at *
  obtain ⟨o, l⟩ := s
  simp only at h
  subst h
  exact ⟨h2.1, h2.2.1⟩
end M
namespace W
open M
attribute [local go_sem] bs_size bs_toList bs_get bs_extract bs_append bs_lit0 bs_lit1 lit1_bs
set_option maxHeartbeats 2000000
set_option maxRecDepth 20000
section
variable {w : World} {B p S gr gb cr cb : Nat} {h : Nat → Nat} {n m : Nat} {A : Mx} {b : Nat → Nat}
theorem pleaving (t : TabS w B p S gr gb cr cb h n m A b) (c e : Nat) (hcw : c < wdt n m) (hA : ∀ j, j ≤ m → ∀ k, k ≤ wdt n m → Bq e (A j k)) (he : e ≤ 210) (he1 : 1 ≤ e) :
    Calls Tryz.prog 157 #[.pointer (some ⟨p, 0, none⟩), .int .i64 (c : Int)] w (Ret w (.int .i64 (plV (leaveT n m A b c)))) := by
  obtain ⟨L, hL⟩ : ∃ L, L = wdt n m + 1 := ⟨_, rfl⟩
  obtain ⟨D, hD⟩ : ∃ D, D = wdt n m := ⟨_, rfl⟩
  have hLs : L ≤ 100000 := by have := t.hn; have := t.hm; rw [hL]; unfold wdt; omega
  have hms := t.hm
  have HT := Lib.hid t
  have HOK := Lib.hid (fun i => lvS_ok A b c D i)
  have HA := Lib.hid (fun W i (hi : i < m) (hW : Below w.heap.size w W) => (by
    have hT := t.below' hW
    have e1 := hT.ce (show i ≤ m by omega) (show c ≤ wdt n m by omega)
    have e2 := hT.ce (show i ≤ m by omega) (Nat.le_refl (wdt n m))
    have e3 := hT.crow hi
    rw [← hL] at e3
    rw [← hD] at e2
    exact ⟨hT.c0, hT.c3, hT.c4, e3, e1, e2, hT.cbas hi⟩ : W.cell? ⟨p, 0, none⟩ = some (.pointer (some ⟨S, 0, none⟩)) ∧ W.cell? ⟨p, 3, none⟩ = some (.slice (some ⟨gr, 0, none⟩) m cr) ∧ W.cell? ⟨p, 4, none⟩ = some (.slice (some ⟨gb, 0, none⟩) m cb) ∧ W.cell? ⟨gr, i, none⟩ = some (.slice (some ⟨h i, 0, none⟩) L L) ∧ W.cell? ⟨h i, c, none⟩ = some (.string (bs (R (A i c)))) ∧ W.cell? ⟨h i, D, none⟩ = some (.string (bs (R (A i D)))) ∧ W.cell? ⟨gb, i, none⟩ = some (.int .i64 (b i : Int))))
  have HSG := Lib.hid (fun W i (hi : i < m) (hW : Below w.heap.size w W) => pssign S (A i c) e W ((t.below' hW).gl) ((t.below' hW).err) (hA i (by omega) c (by omega)) (by omega))
  have HWD := Lib.hid (fun W (hW : Below w.heap.size w W) => pwidth (t.below' hW))
  have HDV := Lib.hid (fun W i (hi : i < m) (h0 : A i c ≠ 0) (hW : Below w.heap.size w W) => ratDiv (A i D) (A i c) e e W ((t.below' hW).gl) (by rw [hD]; exact hA i (by omega) _ (Nat.le_refl _)) (hA i (by omega) c (by omega)) h0 (by omega))
  have HOF := Lib.hid (fun s W (hW : Below w.heap.size w W) => psof S s W ((t.below' hW).err))
  have HCM := Lib.hid (fun W i (hi : i < m) (h0 : A i c ≠ 0) o l (hl : LvOk A c D i (o, l)) (hW : Below w.heap.size w W) => (by
    refine ratCompare (A i D / A i c) l (e + e) (e + e) W ((t.below' hW).gl) (Bq.div (by rw [hD]; exact hA i (by omega) _ (Nat.le_refl _)) (hA i (by omega) c (by omega)) h0) ?_ (by omega)
    cases o with
    | none => rw [show l = 0 from hl]; exact Bq_nil.mono (by omega)
    | some k =>
      obtain ⟨h1, h2, h3⟩ : k < i ∧ 0 < A k c ∧ l = A k D / A k c := hl
      rw [h3]
      exact Bq.div (by rw [hD]; exact hA k (by omega) _ (Nat.le_refl _)) (hA k (by omega) c (by omega)) (by grind) : Calls Tryz.prog 152 #[.string (bs (R (A i D / A i c))), .string (bs (R l))] W (Ret W (.tuple #[.int .i64 (cmpQ (A i D / A i c) l), .int .i64 0]))))
  rw [← hD] at HWD
  have hend : leaveT n m A b c = (lvS A b c D m).1 := by rw [hD]; rfl
  rw [hend]
  have c3 := t.c3
  have hc0 : (0 : Int) ≤ (c : Int) := by omega
  have hcL : (c : Int) < (L : Int) := by omega
  have hd0 : (0 : Int) ≤ (D : Int) := by omega
  have hdL : (D : Int) < (L : Int) := by omega
  obtain ⟨rv, hrv⟩ : ∃ rv, rv = plV (lvS A b c D m).1 := ⟨_, rfl⟩
  rw [← hrv]
  have HRV := Lib.hid hrv
  clear t hA hL hD hend hrv
  go_enter Tryz.func157, Tryz.ntmps157
  go_wp2
  go_loopw [5, 6, 17] (fun bv lv iv wr => ∃ (i : Nat) (o : Option Nat) (l : Rat) (z : Int), iv = .int .i64 (i : Int) ∧ i ≤ m ∧ bv = .int .i64 z ∧ Hid (z = plV o) ∧ lv = .string (bs (R l)) ∧ Hid (lvS A b c D i = (o, l)) ∧ Hid (Below w.heap.size w wr)) (fun _ _ iv _ => m - (intOf iv).toNat)
  case atStart => exact ⟨0, none, 0, -1, rfl, by omega, rfl, Lib.hid rfl, by rw [R_nil]; rfl, Lib.hid rfl, Lib.hid (Below.refl _ _)⟩
  case round =>
    obtain ⟨i, o, l, z, rfl, hi, rfl, hz, rfl, hs, hbw⟩ := hrel
    by_cases hlt : i < m
    · obtain ⟨c0, c3, c4, c5, c6, c7, c8⟩ := HA.out wr i hlt hbw.out
      have hi0 : (0 : Int) ≤ (i : Int) := by omega
      have his : (i : Int) < (m : Int) := by omega
      have hok := HOK.out i
      rw [hs.out] at hok
      have HLV := Lib.hid hok
      have HSN := Lib.hid (lvS_succ A b c D i)
      rw [hs.out] at HSN
      have k1 := reg_of (w := wr) (fun W hW => HSG.out W i hlt (bel_to hbw.out hW))
      have m0 := cell_regrown c0
      have m6 := cell_regrown c6
      have e1 : ∀ args w, (callFunc 151 args).run Tryz.prog w = .ok (.enter 151 args) w := enters_of Tryz.func151 (by kernel_rfl) rfl
      have hsg : decide (Int.sign (A i c).num ≤ 0) = decide (A i c ≤ 0) := by
        rw [decide_eq_decide, ← Int.not_lt, sign_pos, Rat.not_lt]
      have HSD := Lib.hid hsg
      clear c0 c4 c6 c7 c8 hok hsg
      generalize Int.sign (A i c).num = sg at *
      go_wp2_with fail
      refine wp_region_quiet_below (by kernel_rfl) (by kernel_rfl) ?_
      repeat (go_big_quiet_step (fail))
      go_big_quiet_step (exact k1 _ _)
      repeat (go_big_quiet_step (fail))
      refine wpQuiet_nil ?_
      intro W6 hw'
      have hb6 : Below wr.heap.size wr W6 := by obtain ⟨p, e⟩ := hw'; rw [e]; exact below_regrown wr p.d p.os
      clear hw'
      have HB6 := Lib.hid (bel_to hbw.out hb6)
      clear k1 m0 m6 e1 hb6 c5 c3
      have hsg := HSD.out
      clear HSD
      by_cases hle : A i c ≤ 0
      · rw [decide_eq_true hle] at hsg
        have hsp := of_decide_eq_true hsg
        clear hsg
        have HN : Hid (lvS A b c D (i + 1) = (o, l)) := Lib.hid (by
          rw [HSN.out]
          cases o with
          | none => rw [lvOne_none, if_pos hle]
          | some k => rw [lvOne_some, if_pos hle])
        clear HSN hle
        go_wp2
        go_roundw
        case rel => exact ⟨i + 1, o, l, z, by go_num, hlt, rfl, hz, rfl, HN, HB6⟩
        case measure => simp [intOf]; omega
      · rw [decide_eq_false hle] at hsg
        have hsp := of_decide_eq_false hsg
        clear hsg
        have hne : A i c ≠ 0 := by grind
        obtain ⟨c0, c3, c4, c5, c6, c7, c8⟩ := HA.out W6 i hlt HB6.out
        have k1 := reg_of (w := W6) (fun W hW => HWD.out W (bel_to HB6.out hW))
        have k2 := reg_of (w := W6) (fun W hW => HDV.out W i hlt hne (bel_to HB6.out hW))
        have k3 := reg_of (w := W6) (fun W hW => HOF.out (R (A i D / A i c)) W (bel_to HB6.out hW))
        have m0 := cell_regrown c0
        have m6 := cell_regrown c6
        have m7 := cell_regrown c7
        have e1 : ∀ args w, (callFunc 110 args).run Tryz.prog w = .ok (.enter 110 args) w := enters_of Tryz.func110 (by kernel_rfl) rfl
        have e2 : ∀ args w, (callFunc 197 args).run Tryz.prog w = .ok (.enter 197 args) w := enters_of Tryz.func197 (by kernel_rfl) rfl
        have e3 : ∀ args w, (callFunc 150 args).run Tryz.prog w = .ok (.enter 150 args) w := enters_of Tryz.func150 (by kernel_rfl) rfl
        have HLE := Lib.hid hle
        have HQC := Lib.hid (fun W hW => HCM.out W i hlt hne o l HLV.out hW)
        clear c0 c3 c4 c5 c6 c7 c8 hne hle
        obtain ⟨q, hq⟩ : ∃ q, q = A i D / A i c := ⟨_, rfl⟩
        rw [← hq] at k2 k3 HQC
        have HQ := Lib.hid hq
        clear hq
        go_wp2_with fail
        obtain ⟨W7, hW7⟩ : ∃ W7, W7 = W6 := ⟨_, rfl⟩
        rw [← hW7] at k1 k2 k3 m0 m6 m7 HB6 ⊢
        clear hW7
        refine wp_region_quiet_below (by kernel_rfl) (by kernel_rfl) ?_
        repeat (go_big_quiet_step (fail))
        go_big_quiet_step (exact k1 _ _)
        repeat (go_big_quiet_step (fail))
        go_big_quiet_step (exact k2 _ _)
        repeat (go_big_quiet_step (fail))
        go_big_quiet_step (exact k3 _ _)
        repeat (go_big_quiet_step (fail))
        refine wpQuiet_nil ?_
        intro W6 hw'
        have hb6 : Below W7.heap.size W7 W6 := by obtain ⟨p, e⟩ := hw'; rw [e]; exact below_regrown W7 p.d p.os
        clear hw'
        have HB8 := Lib.hid (bel_to HB6.out hb6)
        clear k1 k2 k3 m0 m6 m7 e1 e2 e3 hb6 HB6
        go_wp2_with fail
        refine (HQC.out _ HB8.out).mono ?_
        rintro e w9 ⟨rfl, hb9⟩
        have HB9 := Lib.hid (bel_to HB8.out hb9)
        clear hb9
        have c0 := (HA.out w9 i hlt HB9.out).1
        go_wp2_with fail
        refine (HOF.out _ _ HB9.out).mono ?_
        rintro e wa ⟨rfl, hba⟩
        have HBa := Lib.hid (bel_to HB9.out hba)
        obtain ⟨c0, c3, c4, c5, c6, c7, c8⟩ := HA.out wa i hlt HBa.out
        clear c3 c5 c6 c7 hba
        cases o with
        | none =>
          replace hz : z = -1 := hz.out
          subst hz
          have HN : Hid (lvS A b c D (i + 1) = (some i, q)) := Lib.hid (by rw [HSN.out, lvOne_none, if_neg HLE.out, HQ.out])
          clear HQ HLE HSN HLV HQC
          go_wp2_with fail
          refine wp_region_quiet_lit (by kernel_rfl) (by kernel_rfl) ?_
          repeat (go_big_quiet_step (fail))
          refine wpQuiet_nil ?_
          intro _ hw'
          obtain ⟨n1, hw''⟩ := hw'
          subst hw''
          have HBn := Lib.hid (Below.drewN HBa.out n1)
          go_wp2
          go_roundw
          case rel => exact ⟨i + 1, some i, q, _, by go_num, hlt, rfl, Lib.hid rfl, rfl, HN, HBn⟩
          case measure => simp [intOf]; omega
        | some k =>
          have hz2 : z = (k : Int) := hz.out
          have hkb : k < i := HLV.out.1
          have c9 := (HA.out wa k (by omega) HBa.out).2.2.2.2.2.2
          have hk0 : (0 : Int) ≤ z := by omega
          have hks : z < (m : Int) := by omega
          have hkn : ¬ (z < 0) := by omega
          have hkd : decide (z < 0) = false := decide_eq_false hkn
          rw [show k = z.toNat by omega] at c9
          have hbk : b z.toNat = b k := by rw [show z.toNat = k by omega]
          rw [hbk] at c9
          clear hbk hz2
          have HSN2 : Hid (lvS A b c D (i + 1) = if q < l ∨ (q = l ∧ b i < b k) then (some i, q) else (some k, l)) := Lib.hid (by rw [HSN.out, lvOne_some, if_neg HLE.out, HQ.out])
          clear HQ HLE HSN HLV HQC
          have hca := cmpQ_cases q l
          generalize cmpQ q l = cm at *
          by_cases hq1 : cm < 0
          · have HN : Hid (lvS A b c D (i + 1) = (some i, q)) := Lib.hid (by rw [HSN2.out, if_pos (.inl (by rcases hca with h | h | h <;> first | exact h.1 | omega))])
            clear hca
            go_wp2_with fail
            refine wp_region_quiet_lit (by kernel_rfl) (by kernel_rfl) ?_
            repeat (go_big_quiet_step (fail))
            refine wpQuiet_nil ?_
            intro _ hw'
            obtain ⟨n1, hw''⟩ := hw'
            subst hw''
            have HBn := Lib.hid (Below.drewN HBa.out n1)
            go_wp2
            go_roundw
            case rel => exact ⟨i + 1, some i, q, _, by go_num, hlt, rfl, Lib.hid rfl, rfl, HN, HBn⟩
            case measure => simp [intOf]; omega
          · have hq1d : decide (cm < 0) = false := decide_eq_false hq1
            by_cases hq2 : cm = 0
            · by_cases hq3 : b i < b k
              · have hq4 : (b i : Int) < (b k : Int) := by omega
                have HN : Hid (lvS A b c D (i + 1) = (some i, q)) := Lib.hid (by rw [HSN2.out, if_pos (.inr ⟨by rcases hca with h | h | h <;> first | exact h.1 | omega, by omega⟩)])
                clear hca
                go_wp2_with fail
                refine wp_region_quiet_lit (by kernel_rfl) (by kernel_rfl) ?_
                repeat (go_big_quiet_step (fail))
                refine wpQuiet_nil ?_
                intro _ hw'
                obtain ⟨n1, hw''⟩ := hw'
                subst hw''
                have HBn := Lib.hid (Below.drewN HBa.out n1)
                go_wp2
                go_roundw
                case rel => exact ⟨i + 1, some i, q, _, by go_num, hlt, rfl, Lib.hid rfl, rfl, HN, HBn⟩
                case measure => simp [intOf]; omega
              · have hq4 : ¬ (b i : Int) < (b k : Int) := by omega
                have HN : Hid (lvS A b c D (i + 1) = (some k, l)) := Lib.hid (by rw [HSN2.out, if_neg (by rintro (h | h); · { rcases hca with h2 | h2 | h2 <;> first | omega | grind }; · omega)])
                clear hca
                go_wp2_with fail
                refine wp_region_quiet_lit (by kernel_rfl) (by kernel_rfl) ?_
                repeat (go_big_quiet_step (fail))
                refine wpQuiet_nil ?_
                intro _ hw'
                obtain ⟨n1, hw''⟩ := hw'
                subst hw''
                have HBn := Lib.hid (Below.drewN HBa.out n1)
                go_wp2
                go_roundw
                case rel => exact ⟨i + 1, some k, l, z, by go_num, hlt, rfl, hz, rfl, HN, HBn⟩
                case measure => simp [intOf]; omega
            · have hq2d : decide (cm = 0) = false := decide_eq_false hq2
              have hq2e : (cm == 0) = false := by simpa using hq2
              have HN : Hid (lvS A b c D (i + 1) = (some k, l)) := Lib.hid (by rw [HSN2.out, if_neg (by rcases hca with h2 | h2 | h2 <;> first | omega | grind)])
              clear hca
              go_wp2_with fail
              refine wp_region_quiet_lit (by kernel_rfl) (by kernel_rfl) ?_
              repeat (go_big_quiet_step (fail))
              refine wpQuiet_nil ?_
              intro _ hw'
              obtain ⟨n1, hw''⟩ := hw'
              subst hw''
              have HBn := Lib.hid (Below.drewN HBa.out n1)
              go_wp2
              go_roundw
              case rel => exact ⟨i + 1, some k, l, z, by go_num, hlt, rfl, hz, rfl, HN, HBn⟩
              case measure => simp [intOf]; omega
    · obtain rfl : m = i := by omega
      have hb := hbw.out
      have hs2 := hs.out
      have HE : Hid (rv = z) := Lib.hid (by rw [HRV.out, hs2, hz.out])
      clear hs hs2 hz
      go_wp2
      go_ret
      exact Ret.of (by rw [HE.out]; rfl) hb
end
end W
end Go.Proofs.YtellemlhhlafcaaGreatDoor
end
section
namespace Go.Proofs.YtellemlhhlafcaaGreatDoor
open Go Go.Sort Go.RowKit
section
variable {F : Fence} {fn : Nat} {P : Program} {ops : Array Oper} {md : Region.Mode} {C : World → Prop}
def anyTI (F : Fence) (fn : Nat) (P : Program) (md : Region.Mode) (ops : Array Oper) (C : World → Prop) (n : Nat) (L : Array Bool → Act → Prop) : Nat → Array Bool → Act → Prop
  | 0, ls, a => L ls a
  | f + 1, ls, a => Region.ready md ops ls ≠ [] ∧ ∀ i ∈ Region.ready md ops ls, i < n ∧ qOpIn F fn P ops C i (anyTI F fn P md ops C n L f (ls.setIfInBounds i true)) a
theorem wpAnyIn_of_anyTI {n g : Nat} {L : Array Bool → Act → Prop} {Q : Exit → Act → World → Prop} (hro : F.round = none) (hL : ∀ ls a w, C w → L ls a → wpAnyIn F fn P md ops Q g ls a w) :
    ∀ (f : Nat) (ls : Array Bool) (a : Act) (w : World), C w → anyTI F fn P md ops C n L f ls a → wpAnyIn F fn P md ops Q (f + g) ls a w := by
  intro f
  induction f with
  | zero => intro ls a w hw h; rw [Nat.zero_add]; exact hL _ _ _ hw h
  | succ f ih =>
    intro ls a w hw h
    rw [Nat.succ_add]
    exact ⟨fun h0 => absurd h0 h.1, fun i hi => wpOpIn_of_qOpIn hro hw (fun a' w' hw' h' => ih _ a' w' hw' h') (h.2 i hi).2⟩
theorem wpAnyIn_of_seqI {Q' : Exit → Act → World → Prop} : ∀ (l : List Oper) (k : Nat) (listed : Array Bool) (a : Act) (w : World), (∀ j, l[j]? = ops[k + j]?) →
    Region.seqB md ops l.length k listed = true → wpListIn F fn P ops Q' l a w → wpAnyIn F fn P md ops Q' l.length listed a w
  | [], _, _, _, _, _, hB, h => ⟨by simpa [Region.seqB] using hB, h⟩
  | o :: l, k, listed, a, w, hl, hB, h => by
    have h0 : ops[k]? = some o := by simpa using (hl 0).symm
    simp only [List.length_cons, Region.seqB, Bool.and_eq_true, decide_eq_true_eq] at hB
    refine ⟨fun h1 => (by rw [hB.1] at h1; cases h1), fun i hi => ?_⟩
    rw [hB.1] at hi
    have hik : i = k := by simpa using hi
    subst hik
    have hw : wpOpIn F fn P ops Q' i (wpListIn F fn P ops Q' l) a w := by unfold wpOpIn; simp only [h0]; exact h
    exact wpOpIn_mono (fun a' w' h' => wpAnyIn_of_seqI l (i + 1) _ a' w' (fun j => by have := hl (j + 1); simpa [Nat.add_assoc, Nat.add_comm 1 j] using this) hB.2 h') hw
theorem anyTI_first {n i : Nat} {oi : Oper} {v : Value} {L : Array Bool → Act → Prop} (hi : ops[i]? = some oi) (hsel : ∀ (j : Nat) (o : Oper) cs b, ops[j]? = some o → o.op ≠ .select cs b)
    (hs : Region.sinkB md ops n = true) (hc : Region.chainB md ops n = true) (hn : n < ops.size) (hin : i < n) (hdone : ∀ ls a, L ls a → ∀ j ∈ Region.ready md ops ls, n ≤ j) :
    ∀ (f : Nat) (ls : Array Bool) (a : Act), HeadInv md ops n ls →
      (∀ j oj, ops[j]? = some oj → j ≠ i → ls.getD j true = false → (∀ e ∈ oj.after, Region.binds md e = true → e.on ≠ i) → oi.apart ops oj = true) →
      i ∈ Region.ready md ops ls → YieldsQuiet F fn P ops C oi v a → anyTI F fn P md ops C n L f (ls.setIfInBounds i true) (a.put oi.dst v) → anyTI F fn P md ops C n L (f + 1) ls a := by
  intro f
  induction f with
  | zero =>
    intro ls a inv _ hr hy H
    refine ⟨List.ne_nil_of_mem hr, fun j hj => ?_⟩
    have hjn : j < n := Nat.lt_of_not_le fun h => tail_waits hs hc hn inv _ i rfl hin (mem_ready.1 hr).1 j h hj
    refine ⟨hjn, ?_⟩
    by_cases e : j = i
    · subst e; exact hy.qOpIn hi H
    · exact absurd (hdone _ _ H j (ready_mono hj e)) (by omega)
  | succ f ih =>
    intro ls a inv hfree hr hy H
    refine ⟨List.ne_nil_of_mem hr, fun j hj => ?_⟩
    have hjn : j < n := Nat.lt_of_not_le fun h => tail_waits hs hc hn inv _ i rfl hin (mem_ready.1 hr).1 j h hj
    refine ⟨hjn, ?_⟩
    by_cases e : j = i
    · subst e; exact hy.qOpIn hi H
    · obtain ⟨hju, oj, hoj, hall⟩ := mem_ready.1 hj
      have hno : ∀ e ∈ oj.after, Region.binds md e = true → e.on ≠ i := fun e he hb heq => by
        have h2 := hall e he hb
        rw [heq, getD_both (mem_ready.1 hr).1] at h2
        cases h2
      refine qOpIn_mono (fun a' h3 => ih (ls.setIfInBounds j true) a' (inv.set hj hjn) (fun k ok hk hki hun h4 => ?_) (ready_mono hr (Ne.symm e)) h3.1 (by rw [Array.setIfInBounds_comm _ _ e]; exact h3.2))
        (qOpIn_put hoj (hfree j oj hoj e hju hno) (fun cs b => hsel i oi cs b hi) (fun cs b => hsel j oj cs b hoj) hy (H.2 j (ready_mono hj e)).2)
      refine hfree k ok hk hki ?_ h4
      by_cases ek : j = k
      · subst ek; exact hju
      · rwa [getD_set_ne true ek] at hun
theorem anyTI_lex {n g : Nat} {Lq : Act → Prop} (hsel : Region.noSelect ops = true) (hs : Region.sinkB md ops n = true) (hc : Region.chainB md ops n = true) (hn : n < ops.size) :
    ∀ (l : List Oper) (k : Nat) (ls : Array Bool) (a : Act), (∀ j, j < l.length → l[j]? = ops[k + j]?) → k + l.length = n → HeadInv md ops n ls → Region.lexHead md ops g l.length k ls = true → wpQuietIn F fn P ops C Lq l a →
      anyTI F fn P md ops C n (fun ls' a' => Region.seqB md ops g n ls' = true ∧ Lq a') l.length ls a := by
  intro l
  induction l with
  | nil =>
    intro k ls a _ hk _ hB h
    have e : k = n := by simpa using hk
    subst e
    exact ⟨by simpa [Region.lexHead] using hB, h⟩
  | cons o l ih =>
    intro k ls a hl hk inv hB h
    have h0 : ops[k]? = some o := by simpa using (hl 0 (by simp)).symm
    simp only [List.length_cons, Region.lexHead, Bool.and_eq_true] at hB
    have hkn : k < n := by simp only [List.length_cons] at hk; omega
    have hr : k ∈ Region.ready md ops ls := by simpa using hB.1.1
    obtain ⟨v, hy, hK⟩ := yieldsQuiet_of_qOpIn h0 (show qOpIn F fn P ops C k (wpQuietIn F fn P ops C Lq l) a by unfold qOpIn; simp only [h0]; exact h)
    exact anyTI_first h0 (Region.noSelect_spec hsel) hs hc hn hkn (fun ls' a' hL => seqB_ready hL.1) l.length ls a inv (Region.free_spec h0 hB.1.2) hr hy
      (ih (k + 1) _ _ (fun j hj => by have := hl (j + 1) (by simp; omega); simpa [Nat.add_assoc, Nat.add_comm 1 j] using this) (by simp only [List.length_cons] at hk; omega) (inv.set hr hkn) hB.2 hK)
theorem regionIn_quiet_tail {id : Nat} {Q : Exit → Act → World → Prop} {a : Act} {w : World} {l : List Oper} (n : Nat) (hro : F.round = none) (hm : P.follows .mixedOrders = true) (hB : Region.lexTailB .any l.toArray n = true) (hC : C { w with drawn := w.drawn + 1 })
    (h : wpQuietIn F fn P l.toArray C (fun a' => ∀ w', C w' → wpListIn F fn P l.toArray Q (l.drop n) a' w') (l.take n) a) : (Code.region id l.toArray true).wpIn F fn P Q a w := by
  simp only [Region.lexTailB, Bool.and_eq_true, decide_eq_true_eq] at hB
  obtain ⟨⟨⟨⟨hsel, hn⟩, hs⟩, hc⟩, hlex⟩ := hB
  have hn2 : n < l.length := by simpa using hn
  have ht : (l.take n).length = n := by simp; omega
  have hd : (l.drop n).length = l.toArray.size - n := by simp
  have inv : HeadInv .any l.toArray n (Array.replicate l.toArray.size false) :=
    ⟨by simp, fun j oj _ h2 => (by rw [getD_replicate_false] at h2; cases h2), fun t _ h2 => getD_in (by simpa using h2) (getD_replicate_false _ _)⟩
  have H := anyTI_lex (md := .any) (g := l.toArray.size - n) hsel hs hc hn (l.take n) 0 _ a (fun j hj => by rw [ht] at hj; simp [hj]) (by simpa using ht) inv (by rw [ht]; exact hlex) h
  refine wpIn_region_any hm ?_
  have h2 := wpAnyIn_of_anyTI (Q := Q) (g := l.toArray.size - n) hro (fun ls a' w' hw' hL => by
    have h3 := wpAnyIn_of_seqI (md := .any) (Q' := Q) (l.drop n) n ls a' w' (fun j => by simp [List.getElem?_drop]) (by rw [hd]; exact hL.1) (hL.2 w' hw')
    rwa [hd] at h3) _ _ _ _ hC H
  rw [ht, show n + (l.toArray.size - n) = l.toArray.size by omega] at h2
  exact h2
theorem regionIn_below_tail {id : Nat} {Q : Exit → Act → World → Prop} {a : Act} {w : World} {l : List Oper} (n : Nat) (hro : F.round = none) (hm : P.follows .mixedOrders = true) (hB : Region.lexTailB .any l.toArray n = true)
    (h : wpQuietIn F fn P l.toArray (fun w' => ∃ p : Regrown, w' = grow (redrawn w p.d) p.os) (fun a' => ∀ w', (∃ p : Regrown, w' = grow (redrawn w p.d) p.os) → wpListIn F fn P l.toArray Q (l.drop n) a' w') (l.take n) a) : (Code.region id l.toArray true).wpIn F fn P Q a w :=
  regionIn_quiet_tail n hro hm hB ⟨⟨w.drawn + 1, #[]⟩, by rw [grow_empty]; rfl⟩ h
end
end Go.Proofs.YtellemlhhlafcaaGreatDoor
end
section
namespace Go.Proofs.YtellemlhhlafcaaGreatDoor
open Go Go.RowKit Go.Deep Go.Sort Go.Shelf
namespace M
def colP (m : Nat) (A : Mx) (ban : Int) (c : Nat) : Bool := decide ((c : Int) ≠ ban) && decide (0 < A m c)
def colsL (m : Nat) (A : Mx) (ban : Int) (D : Nat) : List Nat := (List.range D).filter (colP m A ban)
theorem colsL_yes {m : Nat} {A : Mx} {ban : Int} {k : Nat} (h : colP m A ban k = true) : colsL m A ban (k + 1) = colsL m A ban k ++ [k] := by
  unfold colsL; rw [List.range_succ, List.filter_append]; simp [h]
theorem colsL_no {m : Nat} {A : Mx} {ban : Int} {k : Nat} (h : colP m A ban k = false) : colsL m A ban (k + 1) = colsL m A ban k := by
  unfold colsL; rw [List.range_succ, List.filter_append]; simp [h]
theorem colsL_len (m : Nat) (A : Mx) (ban : Int) (k : Nat) : (colsL m A ban k).length ≤ k := by
  unfold colsL
  exact Nat.le_trans (List.length_filter_le _ _) (by simp)
theorem colsL_pre {m : Nat} {A : Mx} {ban : Int} {k D : Nat} (h : k ≤ D) : ∃ r, colsL m A ban D = colsL m A ban k ++ r := by
  unfold colsL
  obtain ⟨d, rfl⟩ := Nat.exists_eq_add_of_le h
  rw [List.range_add, List.filter_append]
  exact ⟨_, rfl⟩
end M
theorem grownBy_bel {W W' : World} (h : Below W.heap.size W W') : W.grownBy W' none := ⟨h.os, h.tape, h.output, h.size, fun k hk _ => h.block k hk⟩
theorem wide_asked {P : Program} {o : Oper} {a : Act} {C : World → Prop} : Oper.askedIn Fence.wide P o a C = True := eq_true fun _ _ _ _ => trivial
theorem wide_fn (f : FuncId) : Fence.wide.fn f = True := rfl
abbrev encC (c : Nat) : Array Value := #[.int .i64 (c : Int)]
namespace W
open M
attribute [local go_sem] bs_size bs_toList bs_get bs_extract bs_append bs_lit0 bs_lit1 lit1_bs
attribute [local go_sem] Oper.semAt_some
attribute [local go_sem] wide_asked wide_fn
set_option maxHeartbeats 2000000
set_option maxRecDepth 100000
section
variable {w : World} {B p S gr gb cr cb : Nat} {h : Nat → Nat} {n m : Nat} {A : Mx} {b : Nat → Nat}
theorem columns_ok (ban : Int) (w : World) :
    Calls Tryz.prog 156 #[.pointer (some ⟨p, 0, none⟩), .int .i64 ban] w fun e w' => e = .returned (.func (.func 199) #[] #[.pointer (some ⟨w.heap.size, 0, none⟩), .pointer (some ⟨w.heap.size + 1, 0, none⟩)]) ∧
      w' = (w.alloc (.cells #[.pointer (some ⟨p, 0, none⟩)] 199 (0, 0))).alloc (.cells #[.int .i64 ban] 3 (0, 0)) := by
  go_enter Tryz.func156, Tryz.ntmps156
  go_wp2
  go_ret
  exact ⟨rfl, rfl⟩
theorem cols1_in (t : TabS w B p S gr gb cr cb h n m A b) (xt xb e fnn l : Nat) (ban : Int) (hf1 : 1 ≤ fnn)
    (hxt : Pre w xt 199 [.pointer (some ⟨p, 0, none⟩)]) (hxb : Pre w xb 3 [.int .i64 ban])
    (hA : ∀ k, k ≤ wdt n m → Bq e (A m k)) (he : e ≤ 210) (J Jx : List Nat → World → Prop)
    (hY : ∀ pre x W, J pre W → pre.length < wdt n m → YieldAt Fence.wide (fnn - 1) Tryz.prog l (encC x) W fun e W' =>
      (e = .returned (.bool true) ∧ J (pre ++ [x]) W' ∧ Below w.heap.size W W') ∨ (e = .returned (.bool false) ∧ Jx (pre ++ [x]) W'))
    (W0 : World) (hW0 : Below w.heap.size w W0) (hJ : AbidesFrom W0.heap.size J) (h0 : J [] W0) :
    CallsIn Fence.wide fnn Tryz.prog 199 #[.func (.yield l) #[] #[], .pointer (some ⟨xt, 0, none⟩), .pointer (some ⟨xb, 0, none⟩)] W0 fun e W' => (∃ v, e = .returned v) ∧
      ((∃ xs, xs = colsL m A ban (wdt n m) ∧ J xs W') ∨ (∃ pre, (∃ r, colsL m A ban (wdt n m) = pre ++ r) ∧ Jx pre W')) := by
  obtain ⟨D, hD⟩ : ∃ D, D = wdt n m := ⟨_, rfl⟩
  obtain ⟨L, hL⟩ : ∃ L, L = wdt n m + 1 := ⟨_, rfl⟩
  have HWD := Lib.hid (fun W (hW : Below w.heap.size w W) => pwidth (t.below' hW))
  have HC := Lib.hid (fun W (hW : Below w.heap.size w W) => And.intro ((hxt.below' hW).cell (i := 0) rfl) (And.intro ((hxb.below' hW).cell (i := 0) rfl) (t.below' hW).c0))
  have HG := Lib.hid (fun W k (hk : k < D) (hW : Below w.heap.size w W) => (by
    have e1 := (t.below' hW).ce (Nat.le_refl m) (show k ≤ wdt n m by omega)
    have e2 := (t.below' hW).c5
    rw [← hL] at e2
    exact ⟨e2, e1⟩ : W.cell? ⟨p, 5, none⟩ = some (.slice (some ⟨h m, 0, none⟩) L L) ∧ W.cell? ⟨h m, k, none⟩ = some (.string (bs (R (A m k))))))
  have HSG := Lib.hid (fun W k (hk : k < D) (hW : Below w.heap.size w W) => pssign S (A m k) e W ((t.below' hW).gl) ((t.below' hW).err) (hA k (by omega)) (by omega))
  have HJB := Lib.hid (fun s W W' (hs : J s W) (hb : Below W.heap.size W W') => hJ s W W' none hs (grownBy_bel hb) (fun r e => by cases e))
  have HY := Lib.hid hY
  have H0 := Lib.hid (And.intro h0 hW0)
  have hDL : D < L := by omega
  have hDs : D ≤ 100000 := by have := t.hn; have := t.hm; rw [hD]; unfold wdt; omega
  rw [← hD] at HWD HY ⊢
  clear t hxt hxb hA hY hJ h0 hL hD
  refine callsIn_of_wp Tryz.func199 rfl trivial ?_ rfl
  simp only [Tryz.ntmps199, List.size_toArray, List.length_cons, List.length_nil, Nat.reduceAdd, Nat.reduceSub, Array.replicate_succ, Array.replicate_zero, List.push_toArray, List.append_toArray, List.nil_append, List.cons_append]
  obtain ⟨ct, cb0, c0⟩ := HC.out W0 hW0
  gi_wp2_with fail
  refine (callsIn_wide.2 (HWD.out W0 hW0)).mono ?_
  rintro e1 w1 ⟨rfl, hb1⟩
  have H1 : Hid (J (colsL m A ban 0) w1 ∧ Below w.heap.size w w1) := Lib.hid ⟨HJB.out _ _ _ H0.out.1 hb1, bel_to hW0 hb1⟩
  clear hb1 ct cb0 c0 H0 hW0 HWD
  gi_wp2_with fail
  gi_loopw [7] (fun iv wr => ∃ k : Nat, iv = .int .i64 (k : Int) ∧ k ≤ D ∧ Hid (J (colsL m A ban k) wr ∧ Below w.heap.size w wr)) (fun iv _ => D - (intOf iv).toNat)
  case atStart => exact ⟨0, rfl, by omega, H1⟩
  case round =>
    clear H1
    obtain ⟨k, rfl, hk, hin⟩ := hrel
    by_cases hlt : k < D
    · obtain ⟨ct, cb0, c0⟩ := HC.out wr hin.out.2
      obtain ⟨c5, c6⟩ := HG.out wr k hlt hin.out.2
      have k1 := reg_of (w := wr) (fun W hW => HSG.out W k hlt (bel_to hin.out.2 hW))
      have hk0 : (0 : Int) ≤ (k : Int) := by omega
      have hks : (k : Int) < (L : Int) := by omega
      have hsg : 0 < Int.sign (A m k).num ↔ 0 < A m k := sign_pos
      have HSD := Lib.hid hsg
      generalize Int.sign (A m k).num = sg at *
      clear hsg
      have m0 := cell_regrown c0
      have m5 := cell_regrown c5
      have m6 := cell_regrown c6
      have mt := cell_regrown ct
      have mb := cell_regrown cb0
      clear ct cb0 c0 c5 c6
      have e1 : ∀ args w, (callFunc 151 args).run Tryz.prog w = .ok (.enter 151 args) w := enters_of Tryz.func151 (by kernel_rfl) rfl
      by_cases hb : (k : Int) = ban
      · have HCL := Lib.hid (colsL_no (m := m) (A := A) (ban := ban) (k := k) (by unfold colP; simp [hb]))
        subst hb
        gi_wp2_with fail
        refine regionIn_below_tail 21 rfl (by kernel_rfl) (by kernel_rfl) ?_
        simp only [List.take_succ_cons, List.take_zero, List.drop_succ_cons, List.drop_zero]
        repeat (gi_big_quiet_step (fail))
        refine wpQuietIn_nil ?_
        intro W6 hw'
        have hb6 : Below wr.heap.size wr W6 := by obtain ⟨p, e⟩ := hw'; rw [e]; exact below_regrown wr p.d p.os
        have H6 : Hid (J (colsL m A (k : Int) k) W6 ∧ Below w.heap.size w W6) := Lib.hid ⟨HJB.out _ _ _ hin.out.1 hb6, bel_to hin.out.2 hb6⟩
        clear k1 m0 m5 m6 mt mb e1 hb6 hw' hin
        gi_wp2
        go_roundw
        case rel => exact ⟨k + 1, by go_num, hlt, by rw [HCL.out]; exact H6⟩
        case measure => simp [intOf]; omega
      · have hbd : decide ((k : Int) = ban) = false := decide_eq_false hb
        have hbe : ((k : Int) != ban) = true := by simpa using hb
        by_cases hs : 0 < sg
        · have hgd : decide (0 < sg) = true := decide_eq_true hs
          have HCL := Lib.hid (colsL_yes (m := m) (A := A) (ban := ban) (k := k) (by unfold colP; simp [hb, HSD.out.1 hs]))
          clear hs
          gi_wp2_with fail
          refine regionIn_below_tail 21 rfl (by kernel_rfl) (by kernel_rfl) ?_
          simp only [List.take_succ_cons, List.take_zero, List.drop_succ_cons, List.drop_zero]
          repeat (gi_big_quiet_step (fail))
          gi_big_quiet_step (exact callsIn_wide.2 (k1 _ _))
          repeat (gi_big_quiet_step (fail))
          refine wpQuietIn_nil ?_
          intro W6 hw'
          have hb6 : Below wr.heap.size wr W6 := by obtain ⟨p, e⟩ := hw'; rw [e]; exact below_regrown wr p.d p.os
          have H6 : Hid (J (colsL m A ban k) W6 ∧ Below w.heap.size w W6) := Lib.hid ⟨HJB.out _ _ _ hin.out.1 hb6, bel_to hin.out.2 hb6⟩
          clear k1 m0 m5 m6 mt mb e1 hb6 hw' hin
          obtain ⟨fn, tmps, assign, body, hy, hR⟩ := HY.out (colsL m A ban k) k W6 H6.out.1 (Nat.lt_of_le_of_lt (colsL_len m A ban k) hlt)
          dsimp only [encC] at hy
          gi_wp2
          refine hR.mono ?_
          rintro e W3 (⟨rfl, hJ3, hk3⟩ | ⟨rfl, hJx3⟩)
          · have HK3 : Hid (J (colsL m A ban (k + 1)) W3 ∧ Below w.heap.size w W3) := Lib.hid ⟨by rw [HCL.out]; exact hJ3, H6.out.2.trans hk3⟩
            clear hk3 hJ3
            gi_wp2
            go_roundw
            case rel => exact ⟨k + 1, by go_num, hlt, HK3⟩
            case measure => simp [intOf]; omega
          · have HJ3 := Lib.hid hJx3
            clear hJx3
            gi_wp2
            refine bodyPost_ret (results_none rfl _ _ _) rfl ?_
            exact ⟨⟨_, rfl⟩, .inr ⟨_, HCL.out ▸ colsL_pre (show k + 1 ≤ D by omega), HJ3.out⟩⟩
        · have hgd : decide (0 < sg) = false := decide_eq_false hs
          have HCL := Lib.hid (colsL_no (m := m) (A := A) (ban := ban) (k := k) (by unfold colP; rw [decide_eq_false (fun h => hs (HSD.out.2 h)), Bool.and_false]))
          clear hs
          gi_wp2_with fail
          refine regionIn_below_tail 21 rfl (by kernel_rfl) (by kernel_rfl) ?_
          simp only [List.take_succ_cons, List.take_zero, List.drop_succ_cons, List.drop_zero]
          repeat (gi_big_quiet_step (fail))
          gi_big_quiet_step (exact callsIn_wide.2 (k1 _ _))
          repeat (gi_big_quiet_step (fail))
          refine wpQuietIn_nil ?_
          intro W6 hw'
          have hb6 : Below wr.heap.size wr W6 := by obtain ⟨p, e⟩ := hw'; rw [e]; exact below_regrown wr p.d p.os
          have H6 : Hid (J (colsL m A ban k) W6 ∧ Below w.heap.size w W6) := Lib.hid ⟨HJB.out _ _ _ hin.out.1 hb6, bel_to hin.out.2 hb6⟩
          clear k1 m0 m5 m6 mt mb e1 hb6 hw' hin
          gi_wp2
          go_roundw
          case rel => exact ⟨k + 1, by go_num, hlt, by rw [HCL.out]; exact H6⟩
          case measure => simp [intOf]; omega
    · obtain rfl : D = k := by omega
      have HF := hin
      clear hin
      gi_wp2
      go_end0
      exact ⟨⟨_, rfl⟩, .inl ⟨_, rfl, HF.out.1⟩⟩
end
end W
end Go.Proofs.YtellemlhhlafcaaGreatDoor
end
section
namespace Go.Proofs.YtellemlhhlafcaaGreatDoor
open Go Go.RowKit Go.Deep Go.Sort Go.Shelf
def bodyPostR (F : Fence) (n : Nat) (P : Program) (fn : Func) (R : Ending → World → Prop) : Exit → Act → World → Prop
  | .normal, a, w | .ret, a, w => LeavesInM F n P fn a.tmps R a.defers .returning w
  | .outgrown, _, w => R .outgrown w
  | _, _, _ => False
theorem bodyPostR_M {F : Fence} {n : Nat} {P : Program} {fn : Func} {R : Ending → World → Prop} : ∀ (e : Exit) (a : Act) (w : World), bodyPostR F n P fn R e a w → bodyPostM F n P fn R e a w := by
  intro e a w h
  cases e <;> first | exact h | exact h.elim
namespace W
open M
attribute [local go_sem] bs_size bs_toList bs_get bs_extract bs_append bs_lit0 bs_lit1 lit1_bs
attribute [local go_sem] Oper.semAt_some
attribute [local go_sem] wide_asked wide_fn
set_option maxHeartbeats 2000000
set_option maxRecDepth 100000
def firstV : Option Nat → Value
  | none => .tuple #[.int .i64 0, .bool false]
  | some c => .tuple #[.int .i64 (c : Int), .bool true]
section
variable {w : World} {B p S gr gb cr cb : Nat} {h : Nat → Nat} {n m : Nat} {A : Mx} {b : Nat → Nat}
theorem cols_stops (t : TabS w B p S gr gb cr cb h n m A b) (xt xb e fnn : Nat) (ban : Int) (hf1 : 1 ≤ fnn)
    (hxt : Pre w xt 199 [.pointer (some ⟨p, 0, none⟩)]) (hxb : Pre w xb 3 [.int .i64 ban])
    (hA : ∀ k, k ≤ wdt n m → Bq e (A m k)) (he : e ≤ 210) :
    SeqStopsK Fence.wide fnn Tryz.prog 199 #[.pointer (some ⟨xt, 0, none⟩), .pointer (some ⟨xb, 0, none⟩)] encC (Below w.heap.size)
      (fun xs => xs = colsL m A ban (wdt n m)) (fun pre => ∃ r, colsL m A ban (wdt n m) = pre ++ r) (wdt n m) w := fun l J Jx W hW hJ _ hY h0 =>
  cols1_in t xt xb e fnn l ban hf1 hxt hxb hA he J Jx hY W hW hJ h0
theorem pfirst (t : TabS w B p S gr gb cr cb h n m A b) (xt xb e : Nat) (ban : Int)
    (hxt : Pre w xt 199 [.pointer (some ⟨p, 0, none⟩)]) (hxb : Pre w xb 3 [.int .i64 ban])
    (hA : ∀ k, k ≤ wdt n m → Bq e (A m k)) (he : e ≤ 210) :
    Calls Tryz.prog 109 #[.func (.func 199) #[] #[.pointer (some ⟨xt, 0, none⟩), .pointer (some ⟨xb, 0, none⟩)]] w
      (Ret w (firstV (colsL m A ban (wdt n m)).head?)) := by
  have HSQ := Lib.hid (cols_stops t xt xb e 2 ban (by decide) hxt hxb hA he)
  have HB0 : Below w.heap.size w ((w.alloc (.cells #[.int .i64 0] 3 (0, 0))).alloc (.cells #[.bool false] 4 (0, 0))) := ((Below.refl _ _).alloc (Nat.le_refl _) _).alloc (by simp) _
  have bH : Boxed ((w.alloc (.cells #[.int .i64 0] 3 (0, 0))).alloc (.cells #[.bool false] 4 (0, 0))) w.heap.size 3 (.int .i64 0) := (Boxed.new w 3 (.int .i64 0)).alloc _
  have bN := Boxed.new (w.alloc (.cells #[.int .i64 0] 3 (0, 0))) 4 (.bool false)
  rw [World.size_alloc] at bN
  have hsz : ((w.alloc (.cells #[.int .i64 0] 3 (0, 0))).alloc (.cells #[.bool false] 4 (0, 0))).heap.size = w.heap.size + 2 := by simp
  generalize colsL m A ban (wdt n m) = cl at *
  clear t hxt hxb hA he
  refine (callsIn_wide (n := 3)).1 ?_
  refine callsIn_of_wp_marks Tryz.func109 rfl trivial ?_ rfl
  simp only [Tryz.ntmps109, List.size_toArray, List.length_cons, List.length_nil, Nat.reduceAdd, Nat.reduceSub, Array.replicate_succ, Array.replicate_zero, List.push_toArray, List.append_toArray, List.nil_append, List.cons_append]
  refine wpIn_wide.2 ?_
  refine Code.wp_mono bodyPostR_M ?_
  go_wp2
  obtain ⟨W0, hW0⟩ : ∃ W0, ((w.alloc (.cells #[.int .i64 0] 3 (0, 0))).alloc (.cells #[.bool false] 4 (0, 0))) = W0 := ⟨_, rfl⟩
  rw [hW0] at HB0 bH bN hsz ⊢
  clear hW0
  refine (wpIn_wide (n := 3)).1 ?_
  refine wpIn_rangeFunc_ownF (F := Fence.wide) (n := 3) (encs := encC) rfl (by decide) (gf := 199) (lb := #[.pointer (some ⟨xt, 0, none⟩), .pointer (some ⟨xb, 0, none⟩)]) rfl trivial (enters_of Tryz.func199 (by kernel_rfl) rfl)
    HSQ.out (fun h k => h.trans k) (belowK_b (by omega)) HB0 (fun _ => rfl)
    (fun s W => (fun (_ : List Nat) => s = []) s ∧ Boxed W w.heap.size 3 (.int .i64 0) ∧ Boxed W (w.heap.size + 1) 4 (.bool false) ∧ Below w.heap.size w W)
    (fun c s W => ∃ x, (s = [x] ∧ c = .ret) ∧ Boxed W w.heap.size 3 (.int .i64 (x : Int)) ∧ Boxed W (w.heap.size + 1) 4 (.bool true) ∧ Below w.heap.size w W)
    ?hI ?hIx ⟨rfl, bH, bN, HB0⟩ (fun c => { tmps := #[.func (.func 199) #[] #[.pointer (some ⟨xt, 0, none⟩), .pointer (some ⟨xb, 0, none⟩)], undef, .pointer (some ⟨w.heap.size, 0, none⟩), .pointer (some ⟨w.heap.size + 1, 0, none⟩), .int .i64 (c : Int), .func (.func 199) #[] #[.pointer (some ⟨xt, 0, none⟩), .pointer (some ⟨xb, 0, none⟩)], .int .i64 (c : Int), undef], defers := [] })
    ?assign ?body ?done ?stop
  case hI =>
    rintro s X Y row ⟨h1, h2, h3, h4⟩ hg hr
    exact ⟨h1, (boxed_own (β := Unit) _ _ (fun _ => .int .i64 0)) () X Y row h2 hg (fun r e => (hr r e).2), (boxed_own (β := Unit) _ _ (fun _ => .bool false)) () X Y row h3 hg (fun r e => (hr r e).2), ownFrom_below (β := Unit) (Nat.le_refl _) (by omega) () X Y row h4 hg hr⟩
  case hIx =>
    rintro c s X Y row ⟨x, h1, h2, h3, h4⟩ hg hr
    exact ⟨x, h1, (boxed_own (β := Unit) _ _ (fun _ => .int .i64 (x : Int))) () X Y row h2 hg (fun r e => (hr r e).2), (boxed_own (β := Unit) _ _ (fun _ => .bool true)) () X Y row h3 hg (fun r e => (hr r e).2), ownFrom_below (β := Unit) (Nat.le_refl _) (by omega) () X Y row h4 hg hr⟩
  case assign =>
    rintro l x W K hK
    dsimp only [encC]
    gi_wp2
    exact hK
  case body =>
    rintro l pre x W ⟨rfl, b1, b2, hb⟩ hlt
    have c1 := b1.cell
    have c2 := b2.cell
    have f1 := b1.frozen
    have f2 := b2.frozen
    gi_wp2
    exact ⟨(KeepsOthers.setCell _ _ _).trans (KeepsOthers.setCell _ _ _), x, ⟨rfl, rfl⟩, (b1.set _).other (by omega) _, (b2.other (by omega) _).set _, (hb.setCell (p := ⟨w.heap.size, 0, none⟩) (Nat.le_refl _) _).setCell (p := ⟨w.heap.size + 1, 0, none⟩) (by show _ ≤ w.heap.size + 1; omega) _⟩
  case done =>
    rintro D xs W hD hS ⟨rfl, b1, b2, hb⟩ hK
    have c1 := b1.cell
    have c2 := b2.cell
    have f1 := b1.frozen
    have f2 := b2.frozen
    go_wp2
    have hK2 : ((W.setCell ⟨w.heap.size, 0, none⟩ (.int .i64 0)).setCell ⟨w.heap.size + 1, 0, none⟩ (.bool false)).heap[D]? = some (.deferred (some [])) :=
      (Below.heap_setCell _ _ _ D (by show D ≠ w.heap.size + 1; omega)).trans ((Below.heap_setCell _ _ _ D (by show D ≠ w.heap.size; omega)).trans hK)
    have d1 := ((b1.set (.int .i64 0)).other (B' := w.heap.size + 1) (by omega) (.bool false)).kept (grownBy_putObj' _ D (.deferred none)) (by intro e; cases e; omega)
    have d2 := ((b2.other (B' := w.heap.size) (by omega) (.int .i64 0)).set (.bool false)).kept (grownBy_putObj' _ D (.deferred none)) (by intro e; cases e; omega)
    have q0 := d1.cell
    have q1 := d2.cell
    refine ⟨by simp, .inl ⟨_, _, rfl, run_takeDeferred hK2, ?_⟩⟩
    refine ⟨.tuple #[.int .i64 0, .bool false], by simp [results, Tryz.results109, go_sem, q0, q1], by rw [← hS]; rfl, ?_⟩
    exact belowK_b (w := w) (Nat.le_refl _) _ D _ _ (by omega) hK2 rfl rfl |> fun hx => ((hb.setCell (p := ⟨w.heap.size, 0, none⟩) (Nat.le_refl _) _).setCell (p := ⟨w.heap.size + 1, 0, none⟩) (by show _ ≤ w.heap.size + 1; omega) _).trans hx
  case stop =>
    rintro D c pre W hD ⟨r, hr⟩ ⟨x, ⟨rfl, rfl⟩, b1, b2, hb⟩ hK
    have c1 := b1.cell
    have c2 := b2.cell
    gi_wp2
    have d1 := b1.kept (grownBy_putObj' _ D (.deferred none)) (by intro e; cases e; omega)
    have d2 := b2.kept (grownBy_putObj' _ D (.deferred none)) (by intro e; cases e; omega)
    have q0 := d1.cell
    have q1 := d2.cell
    refine ⟨by simp, .inl ⟨_, _, rfl, run_takeDeferred hK, ?_⟩⟩
    refine ⟨.tuple #[.int .i64 (x : Int), .bool true], by simp [results, Tryz.results109, go_sem, q0, q1], by rw [hr]; rfl, ?_⟩
    exact hb.trans (belowK_b (w := w) (Nat.le_refl _) _ D _ _ (by omega) hK rfl rfl)
end
end W
end Go.Proofs.YtellemlhhlafcaaGreatDoor
end
section
namespace Go.Proofs.YtellemlhhlafcaaGreatDoor
open Go Go.RowKit Go.Deep Go.Sort Go.Shelf
namespace M
theorem climbT_succ {ez n m k : Nat} {ban : Option Nat} {T : Tbl} {r : Bool × Tbl} (h : climbT ez n m ban (k + 1) T = some r) :
    smallT ez n m T = true ∧ ((colT n m T.A ban = none ∧ r = (true, T)) ∨ ∃ c, colT n m T.A ban = some c ∧ ((leaveT n m T.A T.b c = none ∧ r = (false, T)) ∨ ∃ q, leaveT n m T.A T.b c = some q ∧ climbT ez n m ban k (pivT n m T q c) = some r)) := by
  unfold climbT at h
  by_cases hs : smallT ez n m T = false
  · rw [if_pos hs] at h; cases h
  · rw [if_neg hs] at h
    refine ⟨by simpa using hs, ?_⟩
    cases hc : colT n m T.A ban with
    | none => rw [hc] at h; exact .inl ⟨rfl, (Option.some.inj h).symm⟩
    | some c =>
      rw [hc] at h
      refine .inr ⟨c, rfl, ?_⟩
      simp only at h
      cases hl : leaveT n m T.A T.b c with
      | none => rw [hl] at h; exact .inl ⟨rfl, (Option.some.inj h).symm⟩
      | some q => rw [hl] at h; exact .inr ⟨q, rfl, h⟩
theorem colT_head (n m : Nat) (A : Mx) (ban : Option Nat) : (colsL m A (plV ban) (wdt n m)).head? = colT n m A ban := by
  unfold colsL colT
  rw [List.head?_filter]
  congr 1
  funext c
  unfold colP
  congr 1
  rw [decide_eq_decide]
  cases ban with
  | none => simp [plV]
  | some k => simp [plV]; omega
theorem colT_lt {n m c : Nat} {A : Mx} {ban : Option Nat} (h : colT n m A ban = some c) : c < wdt n m := List.mem_range.1 (List.mem_of_find?_eq_some h)
end M
theorem TabS.piv {w : World} {B p S gr gb cr cb : Nat} {h : Nat → Nat} {n m : Nat} {A : M.Mx} {b : Nat → Nat} (t : TabS w B p S gr gb cr cb h n m A b) :
    TabS w B p S gr gb cr cb h n m (M.tab n m A b).A (M.tab n m A b).b :=
  t.congr (fun _ hj _ hk => (M.tab_A A b hj hk).symm) (fun _ hi => (M.tab_b A b hi).symm)
namespace W
open M
attribute [local go_sem] bs_size bs_toList bs_get bs_extract bs_append bs_lit0 bs_lit1 lit1_bs
set_option maxHeartbeats 2000000
set_option maxRecDepth 20000
section
variable {w : World} {B p S gr gb cr cb : Nat} {h : Nat → Nat} {n m : Nat}
theorem pclimb (ez f : Nat) (hez : ez ≤ 210) (hez1 : 1 ≤ ez) (T T' : Tbl) (ok : Bool) (ban : Option Nat) (hr : climbT ez n m ban f T = some (ok, T')) (t : TabS w B p S gr gb cr cb h n m T.A T.b) :
    Calls Tryz.prog 108 #[.pointer (some ⟨p, 0, none⟩), .func (.func 109) #[] #[], .int .i64 (plV ban)] w fun e w' =>
      e = .returned (.bool ok) ∧ (smallT ez n m T' = true ∧ TabS w' B p S gr gb cr cb h n m T'.A T'.b) ∧ Below B w w' := by
  have HT0 : Hid (TabS w B p S gr gb cr cb h n m T.A T.b ∧ Below B w w) := Lib.hid ⟨t, Below.refl _ _⟩
  have HR := Lib.hid hr
  obtain ⟨bv, hbv⟩ : ∃ bv, bv = plV ban := ⟨_, rfl⟩
  rw [← hbv]
  have HBV := Lib.hid hbv
  clear t hr hbv
  go_enter Tryz.func108, Tryz.ntmps108
  go_wp2_with fail
  go_loopg [] f (fun k wr => ∃ T1 : Tbl, Hid (climbT ez n m ban k T1 = some (ok, T')) ∧ Hid (TabS wr B p S gr gb cr cb h n m T1.A T1.b ∧ Below B w wr))
  case atStart => exact ⟨T, HR, HT0⟩
  case round =>
    clear HR HT0
    obtain ⟨T1, hr, hin⟩ := hrel
    cases gk with
    | zero => exact absurd hr.out (by unfold climbT; simp)
    | succ k =>
      obtain ⟨hsm, hcase⟩ := climbT_succ hr.out
      have hA : ∀ j, j ≤ m → ∀ k, k ≤ wdt n m → Bq ez (T1.A j k) := fun j hj k hk => smallT_bq hsm hj hk
      have c0 := hin.out.1.c0
      have e0 := hin.out.1.err.cell
      have hbB : Below wr.heap.size wr ((wr.alloc (.cells #[.pointer (some ⟨p, 0, none⟩)] 199 (0, 0))).alloc (.cells #[.int .i64 bv] 3 (0, 0))) := ((Below.refl _ _).alloc (Nat.le_refl _) _).alloc (by simp) _
      have p0 : Pre ((wr.alloc (.cells #[.pointer (some ⟨p, 0, none⟩)] 199 (0, 0))).alloc (.cells #[.int .i64 bv] 3 (0, 0))) wr.heap.size 199 [.pointer (some ⟨p, 0, none⟩)] :=
        (Pre.of (Row.new wr 199 [.pointer (some ⟨p, 0, none⟩)])).alloc _
      have p1 : Pre ((wr.alloc (.cells #[.pointer (some ⟨p, 0, none⟩)] 199 (0, 0))).alloc (.cells #[.int .i64 bv] 3 (0, 0))) (wr.heap.size + 1) 3 [.int .i64 bv] := by
        have := Pre.of (Row.new (wr.alloc (.cells #[.pointer (some ⟨p, 0, none⟩)] 199 (0, 0))) 3 [.int .i64 bv])
        rwa [World.size_alloc] at this
      have HF := Lib.hid (pfirst (hin.out.1.below' hbB) wr.heap.size (wr.heap.size + 1) ez bv p0 p1 (hA m (Nat.le_refl _)) hez)
      have HTB : Hid (TabS ((wr.alloc (.cells #[.pointer (some ⟨p, 0, none⟩)] 199 (0, 0))).alloc (.cells #[.int .i64 bv] 3 (0, 0))) B p S gr gb cr cb h n m T1.A T1.b ∧ Below B w ((wr.alloc (.cells #[.pointer (some ⟨p, 0, none⟩)] 199 (0, 0))).alloc (.cells #[.int .i64 bv] 3 (0, 0)))) :=
        Lib.hid ⟨hin.out.1.below' hbB, hin.out.2.trans (hbB.mono (TabS.size hin.out.1))⟩
      rw [HBV.out, colT_head, ← HBV.out] at HF
      have HAA := Lib.hid hA
      have HSM := Lib.hid hsm
      clear hin hbB p0 p1 hA hsm hr
      go_wp2_with fail
      refine (columns_ok bv wr).mono ?_
      rintro e w1 ⟨rfl, rfl⟩
      obtain ⟨W1, hW1⟩ : ∃ W1, W1 = ((wr.alloc (.cells #[.pointer (some ⟨p, 0, none⟩)] 199 (0, 0))).alloc (.cells #[.int .i64 bv] 3 (0, 0))) := ⟨_, rfl⟩
      rw [← hW1] at HF HTB ⊢
      clear c0 e0
      obtain ⟨x0, hx0⟩ : ∃ x0, x0 = wr.heap.size := ⟨_, rfl⟩
      rw [← hx0] at HF ⊢
      clear hW1 hx0
      rcases hcase with ⟨hc, hres⟩ | ⟨c, hc, hcase⟩
      · obtain ⟨rfl, rfl⟩ := Prod.mk.inj hres
        rw [hc] at HF
        clear hc hres HBV
        go_wp2_with fail
        refine (HF.out).mono ?_
        rintro e wa ⟨rfl, hba⟩
        have HX := Lib.hid (And.intro (HTB.out.1.below' hba) (HTB.out.2.trans (hba.mono (TabS.size HTB.out.1))))
        clear hba
        dsimp only [firstV]
        go_wp2
        go_ret
        exact ⟨rfl, ⟨HSM.out, HX.out.1⟩, HX.out.2⟩
      · rw [hc] at HF
        have hcw := colT_lt hc
        clear hc HBV
        go_wp2_with fail
        refine (HF.out).mono ?_
        rintro e wa ⟨rfl, hba⟩
        have HX := Lib.hid (And.intro (HTB.out.1.below' hba) (HTB.out.2.trans (hba.mono (TabS.size HTB.out.1))))
        have HL := Lib.hid (pleaving HX.out.1 c ez hcw HAA.out hez hez1)
        clear hba HTB HF
        dsimp only [firstV]
        rcases hcase with ⟨hl, hres⟩ | ⟨q, hl, hres⟩
        · obtain ⟨rfl, rfl⟩ := Prod.mk.inj hres
          rw [hl] at HL
          have HL2 : Hid (Calls Tryz.prog 157 #[.pointer (some ⟨p, 0, none⟩), .int .i64 (c : Int)] wa (Ret wa (.int .i64 (-1)))) := HL
          clear hl hres HL
          go_wp2_with fail
          refine (HL2.out).mono ?_
          rintro e wb ⟨rfl, hbb⟩
          have HY := Lib.hid (And.intro (HX.out.1.below' hbb) (HX.out.2.trans (hbb.mono (TabS.size HX.out.1))))
          clear hbb HX
          go_wp2
          go_ret
          exact ⟨rfl, ⟨HSM.out, HY.out.1⟩, HY.out.2⟩
        · rw [hl] at HL
          have hq := leaveT_some hl
          have HL2 : Hid (Calls Tryz.prog 157 #[.pointer (some ⟨p, 0, none⟩), .int .i64 (c : Int)] wa (Ret wa (.int .i64 (q : Int)))) := HL
          have HRS := Lib.hid hres
          clear hl hres HL
          go_wp2_with fail
          refine (HL2.out).mono ?_
          rintro e wb ⟨rfl, hbb⟩
          have HY := Lib.hid (And.intro (HX.out.1.below' hbb) (HX.out.2.trans (hbb.mono (TabS.size HX.out.1))))
          have HPV := Lib.hid (ppivot HY.out.1 q c ez hq.1 hcw HAA.out hez (by have := hq.2; grind))
          have hqn : ¬ ((q : Int) < 0) := by omega
          clear hbb HX HL2 hq
          go_wp2_with fail
          refine HPV.out.mono ?_
          rintro e wc ⟨rfl, hT, hbc⟩
          have HZ : Hid (TabS wc B p S gr gb cr cb h n m (pivT n m T1 q c).A (pivT n m T1 q c).b ∧ Below B w wc) := Lib.hid ⟨hT.piv, HY.out.2.trans hbc⟩
          clear hT hbc HY HPV
          go_wp2
          go_roundg k
          case measure => omega
          case rel => exact ⟨_, HRS, HZ⟩
end
end W
end Go.Proofs.YtellemlhhlafcaaGreatDoor
end
section
namespace Go.Proofs.YtellemlhhlafcaaGreatDoor
open Go Go.RowKit Go.Deep Go.Sort Go.Shelf
namespace M
theorem find_hit {p : Nat → Bool} {i m : Nat} (h : ∀ j, j < i → p j = false) (hi : i < m) (hp : p i = true) : (List.range m).find? p = some i := by
  obtain ⟨d, rfl⟩ := Nat.exists_eq_add_of_le (show i + 1 ≤ m by omega)
  rw [List.range_add, List.find?_append, List.range_succ, List.find?_append, List.find?_eq_none.2 (fun x hx => by rw [h x (List.mem_range.1 hx)]; decide)]
  simp [hp]
theorem find_miss {p : Nat → Bool} {m : Nat} (h : ∀ j, j < m → p j = false) : (List.range m).find? p = none :=
  List.find?_eq_none.2 fun x hx => by rw [h x (List.mem_range.1 hx)]; decide
theorem wsOne_none (A : Mx) (wd i : Nat) : wsOne A wd i none = if 0 ≤ A i wd then none else some i := rfl
theorem wsOne_some (A : Mx) (wd i k : Nat) : wsOne A wd i (some k) = if 0 ≤ A i wd then some k else if A k wd ≤ A i wd then some k else some i := rfl
theorem wsS_succ (A : Mx) (wd i : Nat) : wsS A wd (i + 1) = wsOne A wd i (wsS A wd i) := rfl
theorem wsS_lt (A : Mx) (wd : Nat) : ∀ i k, wsS A wd i = some k → k < i
  | 0, k, h => by cases h
  | i + 1, k, h => by
    rw [wsS_succ] at h
    cases hs : wsS A wd i with
    | none =>
      rw [hs, wsOne_none] at h
      by_cases h1 : 0 ≤ A i wd
      · rw [if_pos h1] at h; cases h
      · rw [if_neg h1] at h; have := Option.some.inj h; omega
    | some q =>
      have ih := wsS_lt A wd i q hs
      rw [hs, wsOne_some] at h
      by_cases h1 : 0 ≤ A i wd
      · rw [if_pos h1] at h; have := Option.some.inj h; omega
      · rw [if_neg h1] at h
        by_cases h2 : A q wd ≤ A i wd
        · rw [if_pos h2] at h; have := Option.some.inj h; omega
        · rw [if_neg h2] at h; have := Option.some.inj h; omega
end M
namespace W
open M
attribute [local go_sem] bs_size bs_toList bs_get bs_extract bs_append bs_lit0 bs_lit1 lit1_bs
set_option maxHeartbeats 2000000
set_option maxRecDepth 20000
section
variable {w : World} {B p S gr gb cr cb : Nat} {h : Nat → Nat} {n m : Nat} {A : Mx} {b : Nat → Nat}
theorem pindex (t : TabS w B p S gr gb cr cb h n m A b) (v : Nat) :
    Calls Tryz.prog 154 #[.slice (some ⟨gb, 0, none⟩) m cb, .int .i64 (v : Int)] w (Ret w (.int .i64 (plV ((List.range m).find? fun i => decide (b i = v))))) := by
  have HB := Lib.hid (fun i (hi : i < m) => t.cbas hi)
  have hms := t.hm
  obtain ⟨rv, hrv⟩ : ∃ rv, rv = plV ((List.range m).find? fun i => decide (b i = v)) := ⟨_, rfl⟩
  rw [← hrv]
  have HRV := Lib.hid hrv
  clear t hrv
  go_enter Tryz.func154, Tryz.ntmps154
  go_wp2
  go_loopw [8] (fun iv wr => ∃ i : Nat, iv = .int .i64 (i : Int) ∧ i ≤ m ∧ Hid (∀ j, j < i → decide (b j = v) = false) ∧ wr = w) (fun iv _ => m - (intOf iv).toNat)
  case atStart => exact ⟨0, rfl, by omega, Lib.hid (fun j hj => by omega), rfl⟩
  case round =>
    obtain ⟨i, rfl, hi, hno, rfl⟩ := hrel
    by_cases hlt : i < m
    · have c1 := HB.out i hlt
      have hi0 : (0 : Int) ≤ (i : Int) := by omega
      have his : (i : Int) < (m : Int) := by omega
      by_cases hv : b i = v
      · have HE : Hid (rv = (i : Int)) := Lib.hid (by rw [HRV.out, find_hit hno.out hlt (decide_eq_true hv)]; rfl)
        subst hv
        clear HRV hno HB
        go_wp2
        go_ret
        exact Ret.of (by rw [HE.out]; rfl) (Below.refl _ _)
      · have hvd : ((v : Int) == (b i : Int)) = false := by rw [beq_eq_false_iff_ne]; omega
        have hvd2 : ¬ ((v : Int) = (b i : Int)) := by omega
        have HN : Hid (∀ j, j < i + 1 → decide (b j = v) = false) := Lib.hid (fun j hj => by
          by_cases e : j = i
          · subst e; exact decide_eq_false hv
          · exact hno.out j (by omega))
        clear hno hv
        go_wp2
        go_roundw
        case rel => exact ⟨i + 1, by go_num, hlt, HN, trivial⟩
        case measure => simp [intOf]; omega
    · obtain rfl : m = i := by omega
      have HE : Hid (rv = -1) := Lib.hid (by rw [HRV.out, find_miss hno.out]; rfl)
      clear HRV hno
      go_wp2
      go_ret
      exact Ret.of (by rw [HE.out]; rfl) (Below.refl _ _)
end
end W
end Go.Proofs.YtellemlhhlafcaaGreatDoor
end
