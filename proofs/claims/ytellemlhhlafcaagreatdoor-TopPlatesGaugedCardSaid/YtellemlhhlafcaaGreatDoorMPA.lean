/-
  Chapter 49 of the reference: 'pair', 'Check', 'All', 'Good'.
  Chapter 49 of the reference: 'All', 'Good' at right joints.
  Chapter 49 of the reference: 'Given', 'Few'. (Printed by wip/ouc.py.)
  Chapter 49 of the program: 'negative', 'filtered', 'inside', 'pair', 'Check', 'plates' at right joints and plates. (Printed by wip/oud.py.)
  Chapter 49 of the program: 'Check', 'plates' at right joints and plates. (Printed by wip/oue.py.)
-/
import Derived.Test.YtellemlhhlafcaaGreatDoorMOB
import Derived.Test.YtellemlhhlafcaaGreatDoorMU
import Derived.Test.YtellemlhhlafcaaGreatDoorMOA
section
namespace Go.Proofs.YtellemlhhlafcaaGreatDoor
open Go Go.RowKit Go.Deep Go.Sort
namespace M
def matJ (a b : Tg) : Bool := decide (a.mat = 1) && decide (b.mat = 1)
def atJ (a b : Tg) : Bool := (a.x == b.x && a.y == b.y) && (a.pin != b.pin)
def prN (a b : Tg) : Nat := if chkT a ≠ 0 then chkT a else if chkT b ≠ 0 then chkT b else if matJ a b = true then (if atJ a b = true then 0 else 16) else 14
theorem prN_ok {a b : Tg} (h : prN a b = 0) : RtT a ∧ RtT b ∧ a.mat = 1 ∧ b.mat = 1 ∧ a.x = b.x ∧ a.y = b.y ∧ b.pin = !a.pin := by
  unfold prN at h
  by_cases h1 : chkT a = 0
  · rw [if_neg (by simpa using h1)] at h
    by_cases h2 : chkT b = 0
    · rw [if_neg (by simpa using h2)] at h
      by_cases h3 : matJ a b = true
      · rw [if_pos h3] at h
        by_cases h4 : atJ a b = true
        · unfold matJ at h3
          unfold atJ at h4
          rw [Bool.and_eq_true, decide_eq_true_eq, decide_eq_true_eq] at h3
          rw [Bool.and_eq_true, Bool.and_eq_true, beq_iff_eq, beq_iff_eq, bne_iff_ne] at h4
          refine ⟨(chkT_iff _).1 h1, (chkT_iff _).1 h2, h3.1, h3.2, h4.1.1, h4.1.2, ?_⟩
          have h5 := h4.2
          cases ha : a.pin <;> cases hb : b.pin <;> simp_all
        · rw [if_neg h4] at h; cases h
      · rw [if_neg h3] at h; cases h
    · rw [if_pos h2] at h; exact absurd h h2
  · rw [if_pos h1] at h; exact absurd h h1
structure RightC (A B : List Tg) : Prop where
  h0 : 1 ≤ A.length
  h1 : A.length ≤ 16
  len : B.length = A.length
  ok : ∀ i (h1 : i < A.length) (h2 : i < B.length), prN A[i] B[i] = 0
def mgL (A B : List Tg) : List Int := (A.zip B).map fun p => mgJ p.1 p.2
end M
abbrev joV (va vb : Value) : Value := .agg #[va, vb]
namespace W
open M
attribute [local go_sem] bs_size bs_toList bs_get bs_extract bs_append bs_lit0 bs_lit1 lit1_bs
set_option maxHeartbeats 1000000
set_option maxRecDepth 20000
theorem neq_point (a b c d : Int) (w : World) : (binOp .neq 23 (.agg #[.int .i64 a, .int .i64 b]) (.agg #[.int .i64 c, .int .i64 d])).run Tryz.prog w = .ok (.bool (!(a == c && b == d))) w := by
  have hf : Tryz.prog.underlying 23 = some (.struct (Tryz.prog.fieldsOf 23)) := by unfold Program.fieldsOf; rw [Tryz.underlying23]
  rw [run_neq_struct, show (10000 : Nat) = 9999 + 1 from rfl, run_equalIn_agg w 9999 23 _ _ hf (by kernel_rfl)]
  unfold Program.fieldsOf
  rw [Tryz.underlying23]
  go_simp
  by_cases h1 : a = c <;> by_cases h2 : b = d <;> simp [h1, h2]
theorem rpair49 (a b : Tg) (w : World) : Calls Tryz.prog 81 #[tgV a, tgV b] w (Ret w (.int .i64 ((prN a b : Nat) : Int))) := by
  have HA := Lib.hid (fun W => rcheck44 a W)
  have HB := Lib.hid (fun W => rcheck44 b W)
  have hb0 := bel_al2 w (tgO a) (tgO b)
  have hr1 : Row ((w.alloc (tgO a)).alloc (tgO b)) w.heap.size 27 (tgC a) := rnw.alloc _
  have hr2 : Row ((w.alloc (tgO a)).alloc (tgO b)) (w.heap.size + 1) 27 (tgC b) := rnew0 (World.size_alloc _ _).symm
  have HR := Lib.hid (And.intro hr1 (And.intro hr2 hb0))
  clear hr1 hr2 hb0
  have hpr := Lib.hid (show prN a b = if chkT a ≠ 0 then chkT a else if chkT b ≠ 0 then chkT b else if matJ a b = true then (if atJ a b = true then 0 else 16) else 14 from rfl)
  generalize prN a b = n at *
  unfold matJ atJ at hpr
  unfold tgV at HA HB ⊢
  unfold tgO tgC at HR
  generalize chkT a = ca at *
  generalize chkT b = cb at *
  obtain ⟨ax, ay, alo, ahi, atol, am, ap⟩ := a
  obtain ⟨bx, by_, blo, bhi, btol, bm, bp⟩ := b
  simp only at HA HB HR hpr ⊢
  by_cases h1 : ca = 0
  · subst h1
    by_cases h2 : cb = 0
    · subst h2
      have hpr2 := Lib.hid (show n = if (decide (am = 1) && decide (bm = 1)) = true then (if ((ax == bx && ay == by_) && (ap != bp)) = true then 0 else 16) else 14 from hpr.out)
      clear hpr
      have hq := fun W => neq_point ax ay bx by_ W
      go_enter Tryz.func81, Tryz.ntmps81
      go_wp2_with fail
      refine (HA.out _).mono ?_
      rintro e w1 ⟨rfl, hb1⟩
      have H1 := Lib.hid (And.intro (HR.out.1.below' hb1) (And.intro (HR.out.2.1.below' hb1) (bel_to HR.out.2.2 hb1)))
      clear hb1 HR HA
      have x0 := H1.out.2.1.cell (i := 0) rfl
      have x1 := H1.out.2.1.cell (i := 1) rfl
      have x2 := H1.out.2.1.cell (i := 2) rfl
      have x3 := H1.out.2.1.cell (i := 3) rfl
      have x4 := H1.out.2.1.cell (i := 4) rfl
      have x5 := H1.out.2.1.cell (i := 5) rfl
      have x6 := H1.out.2.1.cell (i := 6) rfl
      go_wp2_with fail
      refine (HB.out _).mono ?_
      rintro e w2 ⟨rfl, hb2⟩
      have H2 := Lib.hid (And.intro (H1.out.1.below' hb2) (And.intro (H1.out.2.1.below' hb2) (bel_to H1.out.2.2 hb2)))
      clear hb2 H1 HB x0 x1 x2 x3 x4 x5 x6
      have y0 := H2.out.1.cell (i := 0) rfl
      have y1 := H2.out.1.cell (i := 1) rfl
      have y5 := H2.out.1.cell (i := 5) rfl
      have y6 := H2.out.1.cell (i := 6) rfl
      have x0 := H2.out.2.1.cell (i := 0) rfl
      have x1 := H2.out.2.1.cell (i := 1) rfl
      have x5 := H2.out.2.1.cell (i := 5) rfl
      have x6 := H2.out.2.1.cell (i := 6) rfl
      have hb := H2.out.2.2
      by_cases m1 : am = 1
      · by_cases m2 : bm = 1
        · subst m1 m2
          generalize (ax == bx && ay == by_) = sq at *
          have hn : Hid (n = if (sq && (ap != bp)) = true then 0 else 16) := Lib.hid (by have := hpr2.out; simpa using this)
          clear hpr2 H2
          cases sq <;> cases ap <;> cases bp <;>
          · go_wp2
            go_ret
            exact Ret.of (by rw [hn.out]; rfl) hb
        · have hm2 : (bm != 1) = true := by simpa using m2
          have hn : Hid (n = 14) := Lib.hid (by have := hpr2.out; simpa [m2] using this)
          subst m1
          clear hpr2 H2 m2
          go_wp2
          go_ret
          exact Ret.of (by rw [hn.out]; rfl) hb
      · have hm1 : (am != 1) = true := by simpa using m1
        have hn : Hid (n = 14) := Lib.hid (by have := hpr2.out; simpa [m1] using this)
        clear hpr2 H2 m1
        go_wp2
        go_ret
        exact Ret.of (by rw [hn.out]; rfl) hb
    · have hz := nz_bne h2
      have hn : Hid (n = cb) := Lib.hid (by have := hpr.out; rw [if_neg (by simp), if_pos h2] at this; exact this)
      clear hpr h2
      go_enter Tryz.func81, Tryz.ntmps81
      go_wp2_with fail
      refine (HA.out _).mono ?_
      rintro e w1 ⟨rfl, hb1⟩
      have H1 := Lib.hid (And.intro (HR.out.2.1.below' hb1) (bel_to HR.out.2.2 hb1))
      clear hb1 HR HA
      have x0 := H1.out.1.cell (i := 0) rfl
      have x1 := H1.out.1.cell (i := 1) rfl
      have x2 := H1.out.1.cell (i := 2) rfl
      have x3 := H1.out.1.cell (i := 3) rfl
      have x4 := H1.out.1.cell (i := 4) rfl
      have x5 := H1.out.1.cell (i := 5) rfl
      have x6 := H1.out.1.cell (i := 6) rfl
      go_wp2_with fail
      refine (HB.out _).mono ?_
      rintro e w2 ⟨rfl, hb2⟩
      have hb := bel_to H1.out.2 hb2
      clear hb2 H1 HB x0 x1 x2 x3 x4 x5 x6
      go_wp2
      go_ret
      exact Ret.of (by rw [hn.out]; rfl) hb
  · have hz := nz_bne h1
    have hn : Hid (n = ca) := Lib.hid (by have := hpr.out; rw [if_pos h1] at this; exact this)
    clear hpr h1
    go_enter Tryz.func81, Tryz.ntmps81
    go_wp2_with fail
    refine (HA.out _).mono ?_
    rintro e w1 ⟨rfl, hb1⟩
    have hb := bel_to HR.out.2.2 hb1
    clear hb1 HR HA HB
    go_wp2
    go_ret
    exact Ret.of (by rw [hn.out]; rfl) hb
theorem rcheck49 (va vb : Value) (A B : List Tg) (w : World) (ha : RdG w va A) (hb : RdG w vb B) (na : A.length ≤ maxLen) :
    Calls Tryz.prog 42 #[joV va vb] w (fun e w' => ∃ n : Nat, e = .returned (.int .i64 (n : Int)) ∧ (n = 0 ↔ RightC A B) ∧ Below w.heap.size w w') := by
  have HAB := Lib.hid (And.intro ha hb)
  obtain ⟨Aa, ca, rfl⟩ := ha.len
  obtain ⟨Ab, cb, rfl⟩ := hb.len
  have hb0 := bel_al w (.cells #[.slice Aa A.length ca, .slice Ab B.length cb] 74 (0, 0))
  have hr0 : Row (w.alloc (.cells #[.slice Aa A.length ca, .slice Ab B.length cb] 74 (0, 0))) w.heap.size 74 [.slice Aa A.length ca, .slice Ab B.length cb] := rnw
  have HR := Lib.hid (And.intro hr0 hb0)
  have r0 := hr0.cell (i := 0) rfl
  have r1 := hr0.cell (i := 1) rfl
  unfold maxLen at na
  clear ha hb hb0 hr0
  unfold joV
  by_cases h0 : A.length = 0
  · have hz : (((A.length : Nat) : Int) == 0) = true := by rw [h0]; rfl
    have hn : ¬ RightC A B := fun h => by have := h.h0; omega
    have HN := Lib.hid hn
    clear hn h0
    go_enter Tryz.func42, Tryz.ntmps42
    go_wp2
    go_ret
    exact ⟨13, rfl, ⟨fun h => (by cases h), fun h => absurd h HN.out⟩, HR.out.2⟩
  · have hz : (((A.length : Nat) : Int) == 0) = false := by rw [beq_eq_false_iff_ne]; omega
    by_cases h5 : 16 < A.length
    · have d5 : decide (16 < (A.length : Int)) = true := decide_eq_true (by omega)
      have HN := Lib.hid (show ¬ RightC A B from fun h => by have := h.h1; omega)
      clear h0 h5
      go_enter Tryz.func42, Tryz.ntmps42
      go_wp2
      go_ret
      exact ⟨5, rfl, ⟨fun h => (by cases h), fun h => absurd h HN.out⟩, HR.out.2⟩
    · have d5 : decide (16 < (A.length : Int)) = false := decide_eq_false (by omega)
      by_cases hl : B.length = A.length
      · have dl : ((B.length : Int) != (A.length : Int)) = false := by rw [hl]; simp
        have HL := Lib.hid hl
        clear hl
        go_enter Tryz.func42, Tryz.ntmps42
        go_wp2
        go_loopw [3] (fun iv wr => ∃ i : Nat, iv = .int .i64 (i : Int) ∧ i ≤ A.length ∧ Hid (Row wr w.heap.size 74 [.slice Aa A.length ca, .slice Ab B.length cb] ∧ Below w.heap.size w wr ∧ ∀ j (h1 : j < A.length) (h2 : j < B.length), j < i → prN A[j] B[j] = 0)) (fun iv _ => A.length - (intOf iv).toNat)
        case atStart => exact ⟨0, rfl, by omega, Lib.hid ⟨HR.out.1, HR.out.2, fun j _ _ h => absurd h (by omega)⟩⟩
        case round =>
          clear HR r0 r1
          obtain ⟨i, rfl, hi, hk⟩ := hrel
          have r0 := hk.out.1.cell (i := 0) rfl
          by_cases hlt : i < A.length
          · have hlb : i < B.length := by have := HL.out; omega
            obtain ⟨q1, o1, rfl, hw⟩ := HAB.out.1.row i hlt
            obtain ⟨q2, o2, rfl, hv⟩ := HAB.out.2.row i hlb
            have r1 := hk.out.1.cell (i := 1) rfl
            obtain ⟨c0, c1, c2, c3, c4, c5, c6⟩ := (hw.below' hk.out.2.1).val i hlt
            obtain ⟨e0, e1, e2, e3, e4, e5, e6⟩ := (hv.below' hk.out.2.1).val i hlb
            have hi0 : (0 : Int) ≤ (i : Int) := by omega
            have hit : (i : Int) < (A.length : Int) := by omega
            have hic : (i : Int) < (B.length : Int) := by omega
            have HN := Lib.hid (fun W => rpair49 A[i] B[i] W)
            have HZ := Lib.hid hk.out.2.2
            obtain ⟨pn, hpn⟩ : ∃ pn, pn = prN A[i] B[i] := ⟨_, rfl⟩
            rw [← hpn] at HN
            have HPN := Lib.hid hpn
            clear hw hv hpn
            unfold tgV at HN
            generalize A[i].x = ax at *
            generalize A[i].y = ay at *
            generalize A[i].lo = al at *
            generalize A[i].hi = ah at *
            generalize A[i].tol = at_ at *
            generalize A[i].mat = am at *
            generalize A[i].pin = ap at *
            generalize B[i].x = bx at *
            generalize B[i].y = bY at *
            generalize B[i].lo = bl at *
            generalize B[i].hi = bh at *
            generalize B[i].tol = bt at *
            generalize B[i].mat = bm at *
            generalize B[i].pin = bp at *
            have m0 := cell_regrown c0
            have m1 := cell_regrown c1
            have m2 := cell_regrown c2
            have m3 := cell_regrown c3
            have m4 := cell_regrown c4
            have m5 := cell_regrown c5
            have m6 := cell_regrown c6
            have n0 := cell_regrown e0
            have n1 := cell_regrown e1
            have n2 := cell_regrown e2
            have n3 := cell_regrown e3
            have n4 := cell_regrown e4
            have n5 := cell_regrown e5
            have n6 := cell_regrown e6
            have m8 := cell_regrown r0
            have m9 := cell_regrown r1
            have f1 : ∀ args w, (callFunc 81 args).run Tryz.prog w = .ok (.enter 81 args) w := enters_of Tryz.func81 (by kernel_rfl) rfl
            clear c0 c1 c2 c3 c4 c5 c6 e0 e1 e2 e3 e4 e5 e6 r1
            have k1 := reg_of (w := wr) (fun W _ => HN.out W)
            go_wp2_with fail
            clear r0
            refine wp_region_quiet_below (by kernel_rfl) (by kernel_rfl) ?_
            repeat (go_big_quiet_step (fail))
            go_big_quiet_step (exact k1 _ _)
            repeat (go_big_quiet_step (fail))
            refine wpQuiet_nil ?_
            intro W6 hw'
            have hb6 : Below wr.heap.size wr W6 := by obtain ⟨p, e⟩ := hw'; rw [e]; exact below_regrown wr p.d p.os
            clear hw'
            have H6 := Lib.hid (And.intro (hk.out.1.below' hb6) (bel_to hk.out.2.1 hb6))
            clear hb6 k1 m0 m1 m2 m3 m4 m5 m6 m8 m9 n0 n1 n2 n3 n4 n5 n6 f1 HN hk
            by_cases hp : pn = 0
            · subst hp
              go_wp2
              go_roundw
              case rel => exact ⟨i + 1, by go_num, by omega, Lib.hid ⟨H6.out.1, H6.out.2, fun j h1 h2 h3 => by
                by_cases hji : j = i
                · subst hji; exact HPN.out.symm
                · exact HZ.out j h1 h2 (by omega)⟩⟩
              case measure => simp [intOf]; omega
            · have hz1 := nz_bne hp
              have HP0 := Lib.hid hp
              clear hp
              go_wp2
              go_ret
              exact ⟨pn, rfl, ⟨fun h => absurd h HP0.out, fun h => absurd (HPN.out.trans (h.ok i hlt hlb)) HP0.out⟩, H6.out.2⟩
          · obtain rfl : i = A.length := by omega
            go_wp2
            go_ret
            exact ⟨0, rfl, ⟨fun _ => ⟨by omega, by omega, HL.out, fun j h1 h2 => hk.out.2.2 j h1 h2 h1⟩, fun _ => rfl⟩, hk.out.2.1⟩
      · have dl : ((B.length : Int) != (A.length : Int)) = true := by rw [bne_iff_ne]; omega
        have HN := Lib.hid (show ¬ RightC A B from fun h => hl h.len)
        clear hl
        go_enter Tryz.func42, Tryz.ntmps42
        go_wp2
        go_ret
        exact ⟨8, rfl, ⟨fun h => (by cases h), fun h => absurd h HN.out⟩, HR.out.2⟩
end W
end Go.Proofs.YtellemlhhlafcaaGreatDoor
end
section
namespace Go.Proofs.YtellemlhhlafcaaGreatDoor
open Go Go.RowKit Go.Deep Go.Sort
theorem row_grownR {w W w' : World} {B g : Nat} {v : Value} {t : TypeId} {xs : List Value} {l : List Int} (h : Row W g t xs) (ho : OwnI w B v l) (hg : W.grownBy w' v.ownBlock) (hlt : g < B) : Row w' g t xs := by
  have hne : some g ≠ v.ownBlock := fun e => by have := (World.ownsRow.lt ho g e.symm).1; omega
  exact (hg.block g (Row.lt h) hne).trans h
theorem own_appI {w : World} {B g cap : Nat} {l : List Int} {z : Int} (h : w.ownsRow B 3 1 (.slice (some ⟨g, 0, none⟩) (l.length + 1) cap) (l.length + 1) (IntC l ++ [.int .i64 z])) : OwnI w B (.slice (some ⟨g, 0, none⟩) (l.length + 1) cap) (l ++ [z]) := by
  unfold OwnI
  rw [List.length_append, show IntC (l ++ [z]) = IntC l ++ [.int .i64 z] by simp [IntC]]
  exact h
theorem OwnI.base {w : World} {B B' : Nat} {v : Value} {l : List Int} (h : OwnI w B v l) (hB : B' ≤ B) : OwnI w B' v l := by
  refine ⟨h.1, ?_⟩
  rcases h.2 with h2 | ⟨g, cap, cur, h2, h3, h4⟩
  · exact Or.inl h2
  · exact Or.inr ⟨g, cap, cur, h2, Nat.le_trans hB h3, h4⟩
namespace M
theorem mgL_len {A B : List Tg} (h : B.length = A.length) : (mgL A B).length = A.length := by unfold mgL; rw [List.length_map, List.length_zip, h]; omega
theorem mgL_get {A B : List Tg} (h : B.length = A.length) (i : Nat) (hi : i < A.length) : (mgL A B)[i]'(by rw [mgL_len h]; exact hi) = mgJ A[i] (B[i]'(by omega)) := by simp [mgL]
end M
namespace W
open M
attribute [local go_sem] bs_size bs_toList bs_get bs_extract bs_append bs_lit0 bs_lit1 lit1_bs
set_option maxHeartbeats 1000000
set_option maxRecDepth 20000
theorem rgauge44 (t : Tg) (w : World) (ht : RtT t) (hm : t.mat = 1) : Calls Tryz.prog 84 #[tgV t] w (Ret w (.int .i64 (virt t))) := by
  have hb0 := bel_al w (tgO t)
  have h1 := ht.lo
  have h2 := ht.hi
  have h3 := ht.tol
  unfold virt
  obtain ⟨x, y, lo, hi, tol, mat, pin⟩ := t
  unfold tgV
  simp only at hm h1 h2 h3 ⊢
  subst hm
  cases pin with
  | true =>
    have hw : wrap64 (hi + tol) = hi + tol := IntWalk.wrap64_in _ (by omega)
    rw [if_pos rfl]
    clear ht h1 h2 h3
    go_enter Tryz.func84, Tryz.ntmps84
    go_wp2
    go_ret
    exact Ret.of (congrArg (Value.int .i64) hw) hb0
  | false =>
    have hw : wrap64 (lo - tol) = lo - tol := IntWalk.wrap64_in _ (by omega)
    rw [if_neg (by decide)]
    clear ht h1 h2 h3
    go_enter Tryz.func84, Tryz.ntmps84
    go_wp2
    go_ret
    exact Ret.of (congrArg (Value.int .i64) hw) hb0
theorem rall49 (va vb : Value) (A B : List Tg) (w : World) (ha : RdG w va A) (hb : RdG w vb B) (h : RightC A B) :
    Calls Tryz.prog 45 #[joV va vb] w (fun e w' => ∃ v, e = .returned v ∧ OwnI w' w.heap.size v (mgL A B) ∧ Below w.heap.size w w') := by
  have HAB := Lib.hid (And.intro ha hb)
  have HL := Lib.hid h.len
  have h16 := h.h1
  have HG := Lib.hid (fun i (hi : i < A.length) (hj : i < B.length) => prN_ok (h.ok i hi hj))
  have HTK := Lib.hid (fun i (hi : i < A.length) (hj : i < B.length) => show (mgL A B).take (i + 1) = (mgL A B).take i ++ [mgJ A[i] B[i]] from by
    rw [List.take_succ_eq_append_getElem (by rw [mgL_len h.len]; exact hi), mgL_get h.len i hi])
  have HFU : Hid ((mgL A B).take A.length = mgL A B) := Lib.hid (List.take_of_length_le (by rw [mgL_len h.len]; omega))
  have HLT := Lib.hid (fun i (hi : i ≤ A.length) => show ((mgL A B).take i).length = i from by rw [List.length_take, mgL_len h.len]; omega)
  obtain ⟨Aa, ca, rfl⟩ := ha.len
  obtain ⟨Ab, cb, rfl⟩ := hb.len
  have hb0 := bel_al w (.cells #[.slice Aa A.length ca, .slice Ab B.length cb] 74 (0, 0))
  have hr0 : Row (w.alloc (.cells #[.slice Aa A.length ca, .slice Ab B.length cb] 74 (0, 0))) w.heap.size 74 [.slice Aa A.length ca, .slice Ab B.length cb] := rnw
  have HR := Lib.hid (And.intro hr0 hb0)
  clear ha hb hb0 hr0 h
  generalize mgL A B = ml at *
  unfold joV
  go_enter Tryz.func45, Tryz.ntmps45
  go_wp2
  go_loopw [3, 4] (fun ov iv wr => ∃ (i : Nat) (vo : Value), iv = .int .i64 (i : Int) ∧ ov = vo ∧ i ≤ A.length ∧ Hid (Row wr w.heap.size 74 [.slice Aa A.length ca, .slice Ab B.length cb] ∧ OwnI wr (w.heap.size + 1) vo (ml.take i) ∧ Below w.heap.size w wr)) (fun _ iv _ => A.length - (intOf iv).toNat)
  case atStart => exact ⟨0, _, rfl, rfl, by omega, Lib.hid ⟨HR.out.1, by rw [List.take_zero]; exact World.ownsRow_nil _ _ _ _, HR.out.2⟩⟩
  case round =>
    clear HR
    obtain ⟨i, vo, rfl, e4, hi, hk⟩ := hrel
    obtain ⟨VA, vn, vc, hv⟩ := hk.out.2.1.shape
    subst hv
    subst e4
    have r0 := hk.out.1.cell (i := 0) rfl
    by_cases hlt : i < A.length
    · have hlb : i < B.length := by have := HL.out; omega
      obtain ⟨q1, o1, rfl, hw⟩ := HAB.out.1.row i hlt
      obtain ⟨q2, o2, rfl, hv⟩ := HAB.out.2.row i hlb
      have r1 := hk.out.1.cell (i := 1) rfl
      obtain ⟨c0, c1, c2, c3, c4, c5, c6⟩ := (hw.below' hk.out.2.2).val i hlt
      obtain ⟨e0, e1, e2, e3, e4, e5, e6⟩ := (hv.below' hk.out.2.2).val i hlb
      have hi0 : (0 : Int) ≤ (i : Int) := by omega
      have hit : (i : Int) < (A.length : Int) := by omega
      have hic : (i : Int) < (B.length : Int) := by omega
      obtain ⟨ta, tb, ma, mb, -, -, -⟩ := HG.out i hlt hlb
      have va1 := virt_rng ta
      have vb1 := virt_rng tb
      have HNA := Lib.hid (fun W => rgauge44 A[i] W ta ma)
      have HNB := Lib.hid (fun W => rgauge44 B[i] W tb mb)
      have HPN := Lib.hid (fun W (hW : Below w.heap.size w W) => ((hw.below' hW).val i hlt).2.2.2.2.2.2)
      have HTK1 := Lib.hid (HTK.out i hlt hlb)
      have HLT1 := Lib.hid (HLT.out i (by omega))
      unfold mgJ at HTK1
      clear hw hv ta tb ma mb
      unfold tgV at HNA HNB
      generalize virt A[i] = na at *
      generalize virt B[i] = nb at *
      have hw1 : wrap64 (na - nb) = na - nb := IntWalk.wrap64_in _ (by omega)
      have hw2 : wrap64 (-(na - nb)) = -(na - nb) := IntWalk.wrap64_in _ (by omega)
      generalize A[i].x = ax at *
      generalize A[i].y = ay at *
      generalize A[i].lo = al at *
      generalize A[i].hi = ah at *
      generalize A[i].tol = at_ at *
      generalize A[i].mat = am at *
      generalize A[i].pin = ap at *
      generalize B[i].x = bx at *
      generalize B[i].y = bY at *
      generalize B[i].lo = bl at *
      generalize B[i].hi = bh at *
      generalize B[i].tol = bt at *
      generalize B[i].mat = bm at *
      generalize B[i].pin = bp at *
      have m0 := cell_regrown c0
      have m1 := cell_regrown c1
      have m2 := cell_regrown c2
      have m3 := cell_regrown c3
      have m4 := cell_regrown c4
      have m5 := cell_regrown c5
      have m6 := cell_regrown c6
      have n0 := cell_regrown e0
      have n1 := cell_regrown e1
      have n2 := cell_regrown e2
      have n3 := cell_regrown e3
      have n4 := cell_regrown e4
      have n5 := cell_regrown e5
      have n6 := cell_regrown e6
      have m8 := cell_regrown r0
      have m9 := cell_regrown r1
      have f1 : ∀ args w, (callFunc 84 args).run Tryz.prog w = .ok (.enter 84 args) w := enters_of Tryz.func84 (by kernel_rfl) rfl
      clear c0 c1 c2 c3 c4 c5 c6 e0 e1 e2 e3 e4 e5 e6 r1
      have k1 := reg_of (w := wr) (fun W _ => HNA.out W)
      have k2 := reg_of (w := wr) (fun W _ => HNB.out W)
      go_wp2_with fail
      clear r0
      refine wp_region_quiet_below (by kernel_rfl) (by kernel_rfl) ?_
      repeat (go_big_quiet_step (fail))
      go_big_quiet_step (exact k1 _ _)
      repeat (go_big_quiet_step (fail))
      go_big_quiet_step (exact k2 _ _)
      repeat (go_big_quiet_step (fail))
      refine wpQuiet_nil ?_
      intro W6 hw'
      have hb6 : Below wr.heap.size wr W6 := by obtain ⟨p, e⟩ := hw'; rw [e]; exact below_regrown wr p.d p.os
      clear hw'
      have H6 := Lib.hid (And.intro (hk.out.1.below' hb6) (And.intro (hk.out.2.1.below hb6) (bel_to hk.out.2.2 hb6)))
      have p6 := HPN.out _ H6.out.2.2
      clear hb6 k1 k2 m0 m1 m2 m3 m4 m5 m6 m8 m9 n0 n1 n2 n3 n4 n5 n6 f1 HNA HNB hk
      have r0 := H6.out.1.cell (i := 0) rfl
      obtain ⟨iI, s1, s2, s3, s4⟩ := info_parts infoInt
      cases ap with
      | true =>
        rw [if_pos rfl, show nb - na = -(na - nb) by omega] at HTK1
        go_wp2_with (at_builtin; refine wpList_app_g (t := 45) (v := .slice VA vn vc) Tryz.underlying45 s1 s2 s3 s4 rfl rfl _ _ rfl rfl rfl rfl H6.out.2.1 (by have := H6.out.1.lt; omega) (.int .i64 (-(na - nb))) rfl (by rw [HLT1.out]; omega) (by decide) ?_; intro g2 cap2 w10 ho2 hk3)
        have HN := Lib.hid (And.intro (row_grownR (H6.out.1.below' (bel_al _ _)) H6.out.2.1 hk3 (by omega)) (And.intro (by rw [HTK1.out]; exact own_appI ho2 : OwnI w10 (w.heap.size + 1) (.slice (some ⟨g2, 0, none⟩) ((ml.take i).length + 1) cap2) (ml.take (i + 1))) ((bel_to H6.out.2.2 (bel_al _ _)).grown hk3 (bel_to H6.out.2.2 (bel_al _ _)).size fun k hk => by have := (World.ownsRow.lt H6.out.2.1 k hk).1; omega)))
        clear ho2 hk3 H6
        go_wp2
        go_roundw
        case rel => exact ⟨i + 1, _, by go_num, rfl, by omega, Lib.hid (by have h := HN.out; rwa [List.length_take] at h)⟩
        case measure => simp [intOf]; omega
      | false =>
        rw [if_neg (by decide)] at HTK1
        go_wp2_with (at_builtin; refine wpList_app_g (t := 45) (v := .slice VA vn vc) Tryz.underlying45 s1 s2 s3 s4 rfl rfl _ _ rfl rfl rfl rfl H6.out.2.1 (by have := H6.out.1.lt; omega) (.int .i64 (na - nb)) rfl (by rw [HLT1.out]; omega) (by decide) ?_; intro g2 cap2 w10 ho2 hk3)
        have HN := Lib.hid (And.intro (row_grownR (H6.out.1.below' (bel_al _ _)) H6.out.2.1 hk3 (by omega)) (And.intro (by rw [HTK1.out]; exact own_appI ho2 : OwnI w10 (w.heap.size + 1) (.slice (some ⟨g2, 0, none⟩) ((ml.take i).length + 1) cap2) (ml.take (i + 1))) ((bel_to H6.out.2.2 (bel_al _ _)).grown hk3 (bel_to H6.out.2.2 (bel_al _ _)).size fun k hk => by have := (World.ownsRow.lt H6.out.2.1 k hk).1; omega)))
        clear ho2 hk3 H6
        go_wp2
        go_roundw
        case rel => exact ⟨i + 1, _, by go_num, rfl, by omega, Lib.hid (by have h := HN.out; rwa [List.length_take] at h)⟩
        case measure => simp [intOf]; omega
    · obtain rfl : A.length = i := by omega
      have hk2 := hk.out
      rw [HFU.out] at hk2
      have HK := Lib.hid hk2
      clear hk hk2
      go_wp2
      go_ret
      exact ⟨_, rfl, HK.out.2.1.base (by omega), HK.out.2.2⟩
theorem rgood49 (va vb : Value) (A B : List Tg) (w : World) (ha : RdG w va A) (hb : RdG w vb B) (h : RightC A B) :
    Calls Tryz.prog 21 #[joV va vb] w (fun e w' => ∃ b : Bool, e = .returned (.bool b) ∧ (b = true → ∀ i (h1 : i < A.length) (h2 : i < B.length), 0 ≤ mgJ A[i] B[i]) ∧ Below w.heap.size w w') := by
  have HALL := Lib.hid (fun W (hW : Below w.heap.size w W) => rall49 va vb A B W (ha.below hW) (hb.below hW) h)
  have HLN := Lib.hid (mgL_len h.len)
  have HGT : Hid (∀ i (hi : i < A.length) (hj : i < B.length) (hk : i < (mgL A B).length), (mgL A B)[i] = mgJ A[i] B[i]) := Lib.hid (fun i hi _ _ => mgL_get h.len i hi)
  have h16 := h.h1
  obtain ⟨Aa, ca, rfl⟩ := ha.len
  obtain ⟨Ab, cb, rfl⟩ := hb.len
  have hb0 := bel_al w (.cells #[.slice Aa A.length ca, .slice Ab B.length cb] 74 (0, 0))
  have hr0 : Row (w.alloc (.cells #[.slice Aa A.length ca, .slice Ab B.length cb] 74 (0, 0))) w.heap.size 74 [.slice Aa A.length ca, .slice Ab B.length cb] := rnw
  have HR := Lib.hid (And.intro hr0 hb0)
  have r0 := hr0.cell (i := 0) rfl
  have r1 := hr0.cell (i := 1) rfl
  have HLB := Lib.hid h.len
  clear ha hb hb0 hr0 h
  unfold joV at HALL ⊢
  go_enter Tryz.func21, Tryz.ntmps21
  go_wp2_with fail
  refine (HALL.out _ HR.out.2).mono ?_
  rintro e w1 ⟨v, rfl, ho, hb1⟩
  have H1 := Lib.hid (And.intro (bel_to HR.out.2 hb1) ho.rd)
  obtain ⟨VA, vcap, hv⟩ := ho.rd.len
  rw [HLN.out] at hv
  subst hv
  clear hb1 ho HR HALL r0 r1
  go_wp2_with fail
  go_loopw [4] (fun iv wr => ∃ i : Nat, iv = .int .i64 (i : Int) ∧ i ≤ A.length ∧ Hid (Below w.heap.size w wr ∧ RdI wr (.slice VA A.length vcap) (mgL A B) ∧ ∀ j (h1 : j < A.length) (h2 : j < B.length), j < i → 0 ≤ mgJ A[j] B[j])) (fun iv _ => A.length - (intOf iv).toNat)
  case atStart => exact ⟨0, rfl, by omega, Lib.hid ⟨H1.out.1, H1.out.2, fun j _ _ h => absurd h (by omega)⟩⟩
  case round =>
    clear H1
    obtain ⟨i, rfl, hi, hk⟩ := hrel
    by_cases hlt : i < A.length
    · have hlm : i < (mgL A B).length := by rw [HLN.out]; exact hlt
      obtain ⟨bq, oq, rfl, _, hc⟩ := hk.out.2.1.row i hlm
      have c0 := hc i hlm
      have hlb : i < B.length := by have := HLB.out; omega
      rw [HGT.out i hlt hlb hlm] at c0
      have hi0 : (0 : Int) ≤ (i : Int) := by omega
      have hit : (i : Int) < (A.length : Int) := by omega
      have HZ := Lib.hid hk.out
      clear hc hk
      generalize hm : mgJ A[i] B[i] = m at *
      have HM := Lib.hid hm
      clear hm
      by_cases hneg : m < 0
      · have d : decide (m < 0) = true := decide_eq_true hneg
        go_wp2
        go_ret
        exact ⟨false, rfl, fun h => (by cases h), HZ.out.1⟩
      · have d : decide (m < 0) = false := decide_eq_false hneg
        go_wp2
        go_roundw
        case rel => exact ⟨i + 1, by go_num, by omega, Lib.hid ⟨HZ.out.1, HZ.out.2.1, fun j h1 h2 h3 => by
          by_cases hji : j = i
          · subst hji; rw [HM.out]; omega
          · exact HZ.out.2.2 j h1 h2 (by omega)⟩⟩
        case measure => simp [intOf]; omega
    · obtain rfl : i = A.length := by omega
      go_wp2
      go_ret
      exact ⟨true, rfl, fun _ j h1 h2 => hk.out.2.2 j h1 h2 h1, hk.out.1⟩
end W
end Go.Proofs.YtellemlhhlafcaaGreatDoor
end
section
namespace Go.Proofs.YtellemlhhlafcaaGreatDoor
open Go Go.RowKit Go.Deep Go.Sort
namespace M
structure RightG (A B : List Tg) (p q : List Cc) : Prop where
  c : RightC A B
  lp : p.length = A.length
  lq : q.length = B.length
  ok : ∀ i (h1 : i < A.length) (h2 : i < B.length) (h3 : i < p.length) (h4 : i < q.length), ringC p[i] = 0 ∧ ringC q[i] = 0 ∧ wth A[i] p[i].d = true ∧ wth B[i] q[i].d = true
end M
namespace W
open M
attribute [local go_sem] bs_size bs_toList bs_get bs_extract bs_append bs_lit0 bs_lit1 lit1_bs
set_option maxHeartbeats 2000000
set_option maxRecDepth 20000
def GvP (A B : List Tg) (p q : List Cc) (w : World) (e : Ending) (w' : World) : Prop := ∃ n : Nat, e = .returned (.int .i64 (n : Int)) ∧ (n = 0 ↔ RightG A B p q) ∧ Below w.heap.size w w'
theorem GvP.no {A B : List Tg} {p q : List Cc} {w w' : World} {n : Nat} (h : n ≠ 0) (hn : ¬ RightG A B p q) (hb : Below w.heap.size w w') : GvP A B p q w (.returned (.int .i64 (n : Int))) w' := ⟨n, rfl, ⟨fun e => absurd e h, fun e => absurd e hn⟩, hb⟩
theorem GvP.yes {A B : List Tg} {p q : List Cc} {w w' : World} (hn : RightG A B p q) (hb : Below w.heap.size w w') : GvP A B p q w (.returned (.int .i64 0)) w' := ⟨0, rfl, ⟨fun _ => hn, fun _ => rfl⟩, hb⟩
theorem rgiven49 (va vb vp vq : Value) (A B : List Tg) (p q : List Cc) (w : World) (ha : RdG w va A) (hb : RdG w vb B) (hp : RdC w vp p) (hq : RdC w vq q) (na : A.length ≤ maxLen) :
    Calls Tryz.prog 20 #[joV va vb, joV vp vq] w (GvP A B p q w) := by
  have HAB := Lib.hid (And.intro ha (And.intro hb (And.intro hp hq)))
  have HCK := Lib.hid (fun W (hW : Below w.heap.size w W) => rcheck49 va vb A B W (ha.below hW) (hb.below hW) na)
  obtain ⟨Aa, ca, rfl⟩ := ha.len
  obtain ⟨Ab, cb, rfl⟩ := hb.len
  obtain ⟨Ap, cp, rfl⟩ := hp.len
  obtain ⟨Aq, cq, rfl⟩ := hq.len
  have hb0 := bel_al2 w (.cells #[.slice Aa A.length ca, .slice Ab B.length cb] 74 (0, 0)) (.cells #[.slice Ap p.length cp, .slice Aq q.length cq] 75 (0, 0))
  have hr1 : Row ((w.alloc (.cells #[.slice Aa A.length ca, .slice Ab B.length cb] 74 (0, 0))).alloc (.cells #[.slice Ap p.length cp, .slice Aq q.length cq] 75 (0, 0))) w.heap.size 74 [.slice Aa A.length ca, .slice Ab B.length cb] := rnw.alloc _
  have hr2 : Row ((w.alloc (.cells #[.slice Aa A.length ca, .slice Ab B.length cb] 74 (0, 0))).alloc (.cells #[.slice Ap p.length cp, .slice Aq q.length cq] 75 (0, 0))) (w.heap.size + 1) 75 [.slice Ap p.length cp, .slice Aq q.length cq] := rnew0 (World.size_alloc _ _).symm
  have HR := Lib.hid (And.intro hr1 (And.intro hr2 hb0))
  have r0 := hr1.cell (i := 0) rfl
  have r1 := hr1.cell (i := 1) rfl
  clear ha hb hp hq hb0 hr1 hr2
  unfold joV at HCK ⊢
  go_enter Tryz.func20, Tryz.ntmps20
  go_wp2_with fail
  refine (HCK.out _ HR.out.2.2).mono ?_
  rintro e w1 ⟨n, rfl, hn, hb1⟩
  have H1 := Lib.hid (And.intro (HR.out.1.below' hb1) (And.intro (HR.out.2.1.below' hb1) (bel_to HR.out.2.2 hb1)))
  clear hb1 HR HCK r0 r1
  by_cases h0 : n = 0
  · subst h0
    have HRC := Lib.hid (hn.1 rfl)
    have h16 := HRC.out.h1
    clear hn
    have r0 := H1.out.1.cell (i := 0) rfl
    have r1 := H1.out.1.cell (i := 1) rfl
    have s0 := H1.out.2.1.cell (i := 0) rfl
    have s1 := H1.out.2.1.cell (i := 1) rfl
    by_cases l1 : p.length = A.length
    · have d1 : ((p.length : Int) != (A.length : Int)) = false := by rw [l1]; simp
      by_cases l2 : q.length = B.length
      · have d2 : ((q.length : Int) != (B.length : Int)) = false := by rw [l2]; simp
        have HL := Lib.hid (And.intro l1 (And.intro l2 HRC.out.len))
        have hp16 : p.length ≤ 16 := by omega
        clear l1 l2
        go_wp2
        go_loopw [6] (fun iv wr => ∃ i : Nat, iv = .int .i64 (i : Int) ∧ i ≤ p.length ∧ Hid (Row wr w.heap.size 74 [.slice Aa A.length ca, .slice Ab B.length cb] ∧ Row wr (w.heap.size + 1) 75 [.slice Ap p.length cp, .slice Aq q.length cq] ∧ Below w.heap.size w wr ∧ ∀ j (h1 : j < A.length) (h2 : j < B.length) (h3 : j < p.length) (h4 : j < q.length), j < i → ringC p[j] = 0 ∧ ringC q[j] = 0 ∧ wth A[j] p[j].d = true ∧ wth B[j] q[j].d = true)) (fun iv _ => p.length - (intOf iv).toNat)
        case atStart => exact ⟨0, rfl, by omega, Lib.hid ⟨H1.out.1, H1.out.2.1, H1.out.2.2, fun j _ _ _ _ h => absurd h (by omega)⟩⟩
        case round =>
          clear H1 r0 r1 s0 s1
          obtain ⟨i, rfl, hi, hk⟩ := hrel
          have s0 := hk.out.2.1.cell (i := 0) rfl
          by_cases hlt : i < p.length
          · have i1 : i < A.length := by have := HL.out; omega
            have i2 : i < B.length := by have := HL.out; omega
            have i4 : i < q.length := by have := HL.out; omega
            obtain ⟨q1, o1, rfl, hA⟩ := HAB.out.1.row i i1
            obtain ⟨q2, o2, rfl, hB⟩ := HAB.out.2.1.row i i2
            obtain ⟨q3, o3, rfl, hP⟩ := HAB.out.2.2.1.row i hlt
            obtain ⟨q4, o4, rfl, hQ⟩ := HAB.out.2.2.2.row i i4
            have HVA := Lib.hid (fun W (hW : Below w.heap.size w W) => (hA.below' hW).val i i1)
            have HVB := Lib.hid (fun W (hW : Below w.heap.size w W) => (hB.below' hW).val i i2)
            have HVP := Lib.hid (fun W (hW : Below w.heap.size w W) => (hP.below' hW).val i hlt)
            have HVQ := Lib.hid (fun W (hW : Below w.heap.size w W) => (hQ.below' hW).val i i4)
            have hi0 : (0 : Int) ≤ (i : Int) := by omega
            have d1 : (i : Int) < (A.length : Int) := by omega
            have d2 : (i : Int) < (B.length : Int) := by omega
            have d3 : (i : Int) < (p.length : Int) := by omega
            have d4 : (i : Int) < (q.length : Int) := by omega
            have HNP := Lib.hid (fun W => rring44 p[i] W)
            have HNQ := Lib.hid (fun W => rring44 q[i] W)
            have HIA := Lib.hid (fun W => rinside44 A[i] p[i].d W)
            have HIB := Lib.hid (fun W => rinside44 B[i] q[i].d W)
            have HBAD := Lib.hid (fun (h : ¬ (ringC p[i] = 0 ∧ ringC q[i] = 0 ∧ wth A[i] p[i].d = true ∧ wth B[i] q[i].d = true)) => show ¬ RightG A B p q from fun hG => h (hG.ok i i1 i2 hlt i4))
            have HZ := Lib.hid hk.out.2.2.2
            obtain ⟨np, hnp⟩ : ∃ n, n = ringC p[i] := ⟨_, rfl⟩
            obtain ⟨nq, hnq⟩ : ∃ n, n = ringC q[i] := ⟨_, rfl⟩
            obtain ⟨b1, hb1⟩ : ∃ b, b = wth A[i] p[i].d := ⟨_, rfl⟩
            obtain ⟨b2, hb2⟩ : ∃ b, b = wth B[i] q[i].d := ⟨_, rfl⟩
            rw [← hnp] at HNP
            rw [← hnq] at HNQ
            rw [← hb1] at HIA
            rw [← hb2] at HIB
            have HE : Hid (ringC p[i] = np ∧ ringC q[i] = nq ∧ wth A[i] p[i].d = b1 ∧ wth B[i] q[i].d = b2) := Lib.hid ⟨hnp.symm, hnq.symm, hb1.symm, hb2.symm⟩
            clear hA hB hP hQ hnp hnq hb1 hb2
            unfold ccV at HNP HNQ
            unfold tgV at HIA HIB
            rw [HE.out.1, HE.out.2.1, HE.out.2.2.1, HE.out.2.2.2] at HBAD
            have HOK := Lib.hid (fun (h1 : np = 0) (h2 : nq = 0) (h3 : b1 = true) (h4 : b2 = true) => show ringC p[i] = 0 ∧ ringC q[i] = 0 ∧ wth A[i] p[i].d = true ∧ wth B[i] q[i].d = true from ⟨HE.out.1.trans h1, HE.out.2.1.trans h2, HE.out.2.2.1.trans h3, HE.out.2.2.2.trans h4⟩)
            clear HE
            have t3 := HVP.out _ hk.out.2.2.1
            obtain ⟨c0, c1, c2⟩ := t3
            generalize A[i].x = jax at *
            generalize A[i].y = jay at *
            generalize A[i].lo = jal at *
            generalize A[i].hi = jah at *
            generalize A[i].tol = jat at *
            generalize A[i].mat = jam at *
            generalize A[i].pin = jap at *
            generalize B[i].x = jbx at *
            generalize B[i].y = jby at *
            generalize B[i].lo = jbl at *
            generalize B[i].hi = jbh at *
            generalize B[i].tol = jbt at *
            generalize B[i].mat = jbm at *
            generalize B[i].pin = jbp at *
            generalize p[i].x = jpx at *
            generalize p[i].y = jpy at *
            generalize hjpd : p[i].d = jpd at *
            have HJPD := Lib.hid hjpd
            clear hjpd
            generalize q[i].x = jqx at *
            generalize q[i].y = jqy at *
            generalize hjqd : q[i].d = jqd at *
            have HJQD := Lib.hid hjqd
            clear hjqd
            go_wp2_with fail
            refine (HNP.out _).mono ?_
            rintro e w2 ⟨rfl, hb2⟩
            have H2 := Lib.hid (And.intro (hk.out.1.below' hb2) (And.intro (hk.out.2.1.below' hb2) (bel_to hk.out.2.2.1 hb2)))
            clear hb2 hk HNP c0 c1 c2 s0
            by_cases e1 : np = 0
            · subst e1
              have s1 := H2.out.2.1.cell (i := 1) rfl
              obtain ⟨c0, c1, c2⟩ := HVQ.out _ H2.out.2.2
              go_wp2_with fail
              refine (HNQ.out _).mono ?_
              rintro e w3 ⟨rfl, hb3⟩
              have H3 := Lib.hid (And.intro (H2.out.1.below' hb3) (And.intro (H2.out.2.1.below' hb3) (bel_to H2.out.2.2 hb3)))
              clear hb3 H2 HNQ c0 c1 c2 s1
              by_cases e2 : nq = 0
              · subst e2
                obtain ⟨c0, c1, c2, c3, c4, c5, c6⟩ := HVA.out _ H3.out.2.2
                obtain ⟨e0, e1, e2, e3, e4, e5, e6⟩ := HVB.out _ H3.out.2.2
                have g2 := (HVP.out _ H3.out.2.2).2.2
                have g3 := (HVQ.out _ H3.out.2.2).2.2
                have r0 := H3.out.1.cell (i := 0) rfl
                have r1 := H3.out.1.cell (i := 1) rfl
                have s0 := H3.out.2.1.cell (i := 0) rfl
                have s1 := H3.out.2.1.cell (i := 1) rfl
                have m0 := cell_regrown c0
                have m1 := cell_regrown c1
                have m2 := cell_regrown c2
                have m3 := cell_regrown c3
                have m4 := cell_regrown c4
                have m5 := cell_regrown c5
                have m6 := cell_regrown c6
                have n0 := cell_regrown e0
                have n1 := cell_regrown e1
                have n2 := cell_regrown e2
                have n3 := cell_regrown e3
                have n4 := cell_regrown e4
                have n5 := cell_regrown e5
                have n6 := cell_regrown e6
                have g4 := cell_regrown g2
                have g5 := cell_regrown g3
                have g6 := cell_regrown r0
                have g7 := cell_regrown r1
                have g8 := cell_regrown s0
                have g9 := cell_regrown s1
                have f1 : ∀ args w, (callFunc 44 args).run Tryz.prog w = .ok (.enter 44 args) w := enters_of Tryz.func44 (by kernel_rfl) rfl
                clear c0 c1 c2 c3 c4 c5 c6 e0 e1 e2 e3 e4 e5 e6 g2 g3
                have k1 := reg_of (w := w3) (fun W _ => HIA.out W)
                have k2 := reg_of (w := w3) (fun W _ => HIB.out W)
                cases b1 with
                | true =>
                  cases b2 with
                  | true =>
                    go_wp2_with fail
                    clear r0 r1 s0 s1
                    refine wp_region_quiet_below (by kernel_rfl) (by kernel_rfl) ?_
                    repeat (go_big_quiet_step (fail))
                    go_big_quiet_step (exact k1 _ _)
                    repeat (go_big_quiet_step (fail))
                    go_big_quiet_step (exact k2 _ _)
                    repeat (go_big_quiet_step (fail))
                    refine wpQuiet_nil ?_
                    intro W6 hw'
                    have hb6 : Below w3.heap.size w3 W6 := by obtain ⟨p, e⟩ := hw'; rw [e]; exact below_regrown w3 p.d p.os
                    clear hw'
                    have H6 := Lib.hid (And.intro (H3.out.1.below' hb6) (And.intro (H3.out.2.1.below' hb6) (bel_to H3.out.2.2 hb6)))
                    clear hb6 k1 k2 m0 n0 m1 n1 m2 n2 m3 n3 m4 n4 m5 n5 m6 n6 g4 g5 g6 g7 g8 g9 f1 HIA HIB H3
                    go_wp2
                    go_roundw
                    case rel => exact ⟨i + 1, by go_num, by omega, Lib.hid ⟨H6.out.1, H6.out.2.1, H6.out.2.2, fun j h1 h2 h3 h4 h5 => by
                      by_cases hji : j = i
                      · subst hji; exact (by have h := HOK.out; simp only [true_implies] at h; rw [← HJPD.out, ← HJQD.out] at h; exact h)
                      · exact HZ.out j h1 h2 h3 h4 (by omega)⟩⟩
                    case measure => simp [intOf]; omega
                  | false =>
                    have HB := Lib.hid (HBAD.out (fun h => by have := h.2.2.2; cases this))
                    go_wp2_with fail
                    clear r0 r1 s0 s1
                    refine wp_region_quiet_below (by kernel_rfl) (by kernel_rfl) ?_
                    repeat (go_big_quiet_step (fail))
                    go_big_quiet_step (exact k1 _ _)
                    repeat (go_big_quiet_step (fail))
                    go_big_quiet_step (exact k2 _ _)
                    repeat (go_big_quiet_step (fail))
                    refine wpQuiet_nil ?_
                    intro W6 hw'
                    have hb6 : Below w3.heap.size w3 W6 := by obtain ⟨p, e⟩ := hw'; rw [e]; exact below_regrown w3 p.d p.os
                    clear hw'
                    have H6 := Lib.hid (bel_to H3.out.2.2 hb6)
                    clear hb6 k1 k2 m0 n0 m1 n1 m2 n2 m3 n3 m4 n4 m5 n5 m6 n6 g4 g5 g6 g7 g8 g9 f1 HIA HIB H3 HBAD HOK
                    go_wp2
                    go_ret
                    exact GvP.no (n := 14) (by decide) HB.out H6.out
                | false =>
                  have HB := Lib.hid (HBAD.out (fun h => by have := h.2.2.1; cases this))
                  go_wp2_with fail
                  clear r0 r1 s0 s1
                  refine wp_region_quiet_below (by kernel_rfl) (by kernel_rfl) ?_
                  repeat (go_big_quiet_step (fail))
                  go_big_quiet_step (exact k1 _ _)
                  repeat (go_big_quiet_step (fail))
                  refine wpQuiet_nil ?_
                  intro W6 hw'
                  have hb6 : Below w3.heap.size w3 W6 := by obtain ⟨p, e⟩ := hw'; rw [e]; exact below_regrown w3 p.d p.os
                  clear hw'
                  have H6 := Lib.hid (bel_to H3.out.2.2 hb6)
                  clear hb6 k1 k2 m0 n0 m1 n1 m2 n2 m3 n3 m4 n4 m5 n5 m6 n6 g4 g5 g6 g7 g8 g9 f1 HIA HIB H3 HBAD HOK
                  go_wp2
                  go_ret
                  exact GvP.no (n := 14) (by decide) HB.out H6.out
              · have HB := Lib.hid (And.intro (HBAD.out (fun h => e2 h.2.1)) e2)
                have hz := nz_bne e2
                have hbb := H3.out.2.2
                clear e2 H3 HBAD HOK HIA HIB HVA HVB HVP HVQ
                go_wp2
                go_ret
                exact GvP.no HB.out.2 HB.out.1 hbb
            · have HB := Lib.hid (And.intro (HBAD.out (fun h => e1 h.1)) e1)
              have hz := nz_bne e1
              have hbb := H2.out.2.2
              clear e1 H2 HBAD HOK HIA HIB HVA HVB HVP HVQ HNQ
              go_wp2
              go_ret
              exact GvP.no HB.out.2 HB.out.1 hbb
          · obtain rfl : i = p.length := by omega
            go_wp2
            go_ret
            exact GvP.yes ⟨HRC.out, HL.out.1, HL.out.2.1, fun j h1 h2 h3 h4 => hk.out.2.2.2 j h1 h2 h3 h4 h3⟩ hk.out.2.2.1
      · have d2 : ((q.length : Int) != (B.length : Int)) = true := by rw [bne_iff_ne]; omega
        have HB := Lib.hid (show ¬ RightG A B p q from fun h => l2 h.lq)
        have hbb := H1.out.2.2
        clear l2 H1
        go_wp2
        go_ret
        exact GvP.no (n := 8) (by decide) HB.out hbb
    · have d1 : ((p.length : Int) != (A.length : Int)) = true := by rw [bne_iff_ne]; omega
      have HB := Lib.hid (show ¬ RightG A B p q from fun h => l1 h.lp)
      have hbb := H1.out.2.2
      clear l1 H1
      go_wp2
      go_ret
      exact GvP.no (n := 8) (by decide) HB.out hbb
  · have HB := Lib.hid (And.intro (show ¬ RightG A B p q from fun h => h0 (hn.2 h.c)) h0)
    have hz := nz_bne h0
    have hbb := H1.out.2.2
    clear h0 hn H1
    go_wp2
    go_ret
    exact GvP.no HB.out.2 HB.out.1 hbb
theorem rfew49 (va vb vp vq : Value) (A B : List Tg) (p q : List Cc) (w : World) (ha : RdG w va A) (hb : RdG w vb B) (hp : RdC w vp p) (hq : RdC w vq q) (na : A.length ≤ maxLen) :
    Calls Tryz.prog 19 #[joV va vb, joV vp vq] w (fun e w' => ∃ b : Bool, e = .returned (.bool b) ∧ Below w.heap.size w w') := by
  have HGV := Lib.hid (fun W (hW : Below w.heap.size w W) => rgiven49 va vb vp vq A B p q W (ha.below hW) (hb.below hW) (hp.below hW) (hq.below hW) na)
  obtain ⟨Aa, ca, rfl⟩ := ha.len
  obtain ⟨Ab, cb, rfl⟩ := hb.len
  obtain ⟨Ap, cp, rfl⟩ := hp.len
  obtain ⟨Aq, cq, rfl⟩ := hq.len
  have hb0 := bel_al2 w (.cells #[.slice Aa A.length ca, .slice Ab B.length cb] 74 (0, 0)) (.cells #[.slice Ap p.length cp, .slice Aq q.length cq] 75 (0, 0))
  have hr1 : Row ((w.alloc (.cells #[.slice Aa A.length ca, .slice Ab B.length cb] 74 (0, 0))).alloc (.cells #[.slice Ap p.length cp, .slice Aq q.length cq] 75 (0, 0))) w.heap.size 74 [.slice Aa A.length ca, .slice Ab B.length cb] := rnw.alloc _
  have hr2 : Row ((w.alloc (.cells #[.slice Aa A.length ca, .slice Ab B.length cb] 74 (0, 0))).alloc (.cells #[.slice Ap p.length cp, .slice Aq q.length cq] 75 (0, 0))) (w.heap.size + 1) 75 [.slice Ap p.length cp, .slice Aq q.length cq] := rnew0 (World.size_alloc _ _).symm
  have HR := Lib.hid (And.intro hr1 (And.intro hr2 hb0))
  have r0 := hr1.cell (i := 0) rfl
  have r1 := hr1.cell (i := 1) rfl
  have s0 := hr2.cell (i := 0) rfl
  have s1 := hr2.cell (i := 1) rfl
  clear ha hb hp hq hb0 hr1 hr2
  unfold joV at HGV ⊢
  unfold GvP at HGV
  cases h1 : decide (40 < (A.length : Int)) with
  | true =>
    go_enter Tryz.func19, Tryz.ntmps19
    go_wp2
    go_ret
    exact ⟨_, rfl, HR.out.2.2⟩
  | false =>
    cases h2 : decide (40 < (B.length : Int)) with
    | true =>
      go_enter Tryz.func19, Tryz.ntmps19
      go_wp2
      go_ret
      exact ⟨_, rfl, HR.out.2.2⟩
    | false =>
      cases h3 : decide (40 < (p.length : Int)) with
      | true =>
        go_enter Tryz.func19, Tryz.ntmps19
        go_wp2
        go_ret
        exact ⟨_, rfl, HR.out.2.2⟩
      | false =>
        cases h4 : decide (40 < (q.length : Int)) with
        | true =>
          go_enter Tryz.func19, Tryz.ntmps19
          go_wp2
          go_ret
          exact ⟨_, rfl, HR.out.2.2⟩
        | false =>
          cases h5 : decide ((A.length : Int) ≤ 4) with
          | true =>
            go_enter Tryz.func19, Tryz.ntmps19
            go_wp2
            go_ret
            exact ⟨_, rfl, HR.out.2.2⟩
          | false =>
            go_enter Tryz.func19, Tryz.ntmps19
            go_wp2_with fail
            refine (HGV.out _ HR.out.2.2).mono ?_
            rintro e w1 ⟨n, rfl, _, hb1⟩
            have hbb := bel_to HR.out.2.2 hb1
            generalize (n : Int) = z at *
            clear HR r0 r1 s0 s1
            go_wp2
            go_ret
            exact ⟨_, rfl, hbb⟩
end W
end Go.Proofs.YtellemlhhlafcaaGreatDoor
end
section
namespace Go.Proofs.YtellemlhhlafcaaGreatDoor
open Go Go.RowKit Go.Deep Go.Sort
namespace W
open M
attribute [local go_sem] bs_size bs_toList bs_get bs_extract bs_append bs_lit0 bs_lit1 lit1_bs
set_option maxHeartbeats 2000000
set_option maxRecDepth 20000
theorem anegative (i n : Int) (w : World) : Calls Tryz.prog 53 #[.int .i64 i, .int .i64 n] w fun e w' => e = .returned (.bool (decide (n < 0))) ∧ w = w' := by
  cases h : decide (n < 0) <;>
  · go_enter Tryz.func53, Tryz.ntmps53
    go_wp2
    go_ret
    exact ⟨rfl, rfl⟩
theorem ent_neg : Enters Tryz.prog 53 := enters_of Tryz.func53 (by kernel_rfl) rfl
def FlP (l : List Int) (w : World) (e : Ending) (w' : World) : Prop := ∃ (A : Option Addr) (n c : Nat), e = .returned (.slice A n c) ∧ (n = 0 ↔ ∀ x ∈ l, 0 ≤ x) ∧ Below w.heap.size w w'
theorem afiltered (vl : Value) (l : List Int) (w : World) (hl : RdI w vl l) (hn : l.length ≤ 16) : Calls Tryz.prog 51 #[vl, .func (.func 53) #[] #[]] w (FlP l w) := by
  obtain ⟨A, cap, rfl⟩ := hl.len
  have HL := Lib.hid hl
  have hf := ent_neg
  unfold Enters at hf
  clear hl
  go_enter Tryz.func51, Tryz.ntmps51
  go_wp2
  go_loopw [5, 10] (fun ov iv wr => ∃ (i : Nat) (vo : Value), iv = .int .i64 (i : Int) ∧ ov = vo ∧ i ≤ l.length ∧ Hid (∃ ks : List Int, OwnI wr w.heap.size vo ks ∧ ks.length ≤ i ∧ (ks.length = 0 ↔ ∀ j (h : j < l.length), j < i → 0 ≤ l[j]) ∧ Below w.heap.size w wr)) (fun _ iv _ => l.length - (intOf iv).toNat)
  case atStart => exact ⟨0, _, rfl, rfl, by omega, Lib.hid ⟨[], World.ownsRow_nil _ _ _ _, by simp, ⟨fun _ j _ h => absurd h (by omega), fun _ => rfl⟩, Below.refl _ _⟩⟩
  case round =>
    obtain ⟨i, vo, rfl, e4, hi, hk⟩ := hrel
    obtain ⟨ks, hko, hkl, hkz, hkb⟩ := hk.out
    obtain ⟨VA, vn, vc, hv⟩ := hko.shape
    subst hv
    subst e4
    clear hk
    by_cases hlt : i < l.length
    · obtain ⟨b, o, rfl, _, hc⟩ := RdI.row (n := l.length) (HL.out.below hkb) i hlt
      have c0 := hc i hlt
      have hi0 : (0 : Int) ≤ (i : Int) := by omega
      have hi1 : (i : Int) < (l.length : Int) := by omega
      have H1 := Lib.hid (And.intro hko (And.intro hkl (And.intro hkz hkb)))
      clear hc hko hkl hkz hkb
      generalize hz : l[i] = z at *
      have HZ := Lib.hid hz
      have HNG := Lib.hid (fun W => anegative (i : Int) z W)
      clear hz
      by_cases hneg : z < 0
      · rw [decide_eq_true hneg] at HNG
        have HNN := Lib.hid hneg
        clear hneg
        go_wp2_with fail
        refine (HNG.out _).mono ?_
        rintro e w2 ⟨rfl, rfl⟩
        obtain ⟨iI, s1, s2, s3, s4⟩ := info_parts infoInt
        clear c0 HNG
        go_wp2_with (at_builtin; refine wpList_app_g (t := 45) (v := .slice VA vn vc) Tryz.underlying45 s1 s2 s3 s4 rfl rfl _ _ rfl rfl rfl rfl H1.out.1 H1.out.2.2.2.size (.int .i64 (i : Int)) rfl (by have := H1.out.2.1; omega) (by decide) ?_; intro g2 cap2 w10 ho2 hk3)
        have HN := Lib.hid (show ∃ ks2 : List Int, OwnI w10 w.heap.size (.slice (some ⟨g2, 0, none⟩) (ks.length + 1) cap2) ks2 ∧ ks2.length ≤ i + 1 ∧ (ks2.length = 0 ↔ ∀ j (h : j < l.length), j < i + 1 → 0 ≤ l[j]) ∧ Below w.heap.size w w10 from
          ⟨ks ++ [(i : Int)], own_appI ho2, by rw [List.length_append]; have := H1.out.2.1; simp only [List.length_cons, List.length_nil]; omega, ⟨fun h => by simp at h, fun h => by have := h i hlt (by omega); rw [HZ.out] at this; have := HNN.out; omega⟩, (bel_to H1.out.2.2.2 (bel_al _ _)).grown hk3 (bel_to H1.out.2.2.2 (bel_al _ _)).size fun k hk => (World.ownsRow.lt H1.out.1 k hk).1⟩)
        clear ho2 hk3 H1
        go_wp2
        go_roundw
        case rel => exact ⟨i + 1, _, by go_num, rfl, by omega, HN⟩
        case measure => simp [intOf]; omega
      · rw [decide_eq_false hneg] at HNG
        have HNN := Lib.hid (show 0 ≤ z by omega)
        clear hneg
        go_wp2_with fail
        refine (HNG.out _).mono ?_
        rintro e w2 ⟨rfl, rfl⟩
        clear c0 HNG
        go_wp2
        go_roundw
        case rel => exact ⟨i + 1, _, by go_num, rfl, by omega, Lib.hid ⟨ks, H1.out.1, by have := H1.out.2.1; omega, ⟨fun h j hj h3 => by
          by_cases hji : j = i
          · subst hji; rw [HZ.out]; exact HNN.out
          · exact H1.out.2.2.1.1 h j hj (by omega), fun h => H1.out.2.2.1.2 fun j hj h3 => h j hj (by omega)⟩, H1.out.2.2.2⟩⟩
        case measure => simp [intOf]; omega
    · obtain rfl : l.length = i := by omega
      obtain ⟨VB, vcap, hve⟩ := hko.rd.len
      cases hve
      have HK := Lib.hid (And.intro hkz hkb)
      clear hko hkl hkz hkb
      go_wp2
      go_ret
      exact ⟨_, _, _, rfl, ⟨fun h x hx => by
        obtain ⟨j, hj, rfl⟩ := List.mem_iff_getElem.1 hx
        exact HK.out.1.1 h j hj hj, fun h => HK.out.1.2 fun j hj _ => h _ (List.getElem_mem hj)⟩, HK.out.2⟩
theorem ainside (t : Tg) (c : Cc) (w : World) : Calls Tryz.prog 90 #[tgV t, ccV c] w (Ret w (.bool (wth t c.d))) := by
  have hb0 := bel_al2 w (tgO t) (ccO c)
  unfold wth
  obtain ⟨x, y, lo, hi, tol, mat, pin⟩ := t
  obtain ⟨cx, cy, n⟩ := c
  simp only at *
  cases h1 : decide (lo ≤ n) <;> cases h2 : decide (n ≤ hi) <;>
  · go_enter Tryz.func90, Tryz.ntmps90
    go_wp2
    go_ret
    exact Ret.of rfl hb0
theorem agap (t : Tg) (c : Cc) (w : World) (ht : RtT t) (hc : RtC c) : Calls Tryz.prog 64 #[tgV t, ccV c] w (Ret w (.tuple #[.int .i64 (c.x - t.x), .int .i64 (c.y - t.y)])) := by
  have HB0 := Lib.hid (bel_al2 w (tgO t) (ccO c))
  obtain ⟨c0, c1, c2⟩ := (Bx.new w t c).c
  obtain ⟨t0, t1, t2, t3, t4, t5, t6⟩ := (Bx.new w t c).t
  have q1 := ht.x
  have q2 := ht.y
  have q3 := hc.x
  have q4 := hc.y
  obtain ⟨x, y, lo, hi, tol, mat, pin⟩ := t
  obtain ⟨x1, y1, d⟩ := c
  simp only at *
  have hw1 := (IntWalk.i64_left _).trans (IntWalk.wrap64_in (x1 - x) (by omega))
  have hw2 := (IntWalk.i64_left _).trans (IntWalk.wrap64_in (y1 - y) (by omega))
  have hv1 := IntWalk.wrap64_in (x1 - x) (by omega)
  have hv2 := IntWalk.wrap64_in (y1 - y) (by omega)
  go_enter Tryz.func64, Tryz.ntmps64
  go_wp2
  go_quiet (fail)
  go_wp2
  go_ret2
  refine Ret.of ?_ (Below.drewN HB0.out _)
  first | rfl | (show Ending.returned (.tuple #[.int .i64 (wrap64 (x1 - x)), .int .i64 (wrap64 (y1 - y))]) = _; rw [hv1, hv2])
theorem adist (t : Tg) (c : Cc) (w : World) (ht : RtT t) (hc : RtC c) (hr : ringC c = 0) : Calls Tryz.prog 29 #[tgV t, ccV c] w (Ret w (.tuple #[.int .i64 ((c.x - t.x) * (c.x - t.x) + (c.y - t.y) * (c.y - t.y)), .int .i64 0])) := by
  have HB0 := Lib.hid (bel_al2 w (tgO t) (ccO c))
  have HX := Lib.hid (Bx.new w t c)
  have h0 : bothC t c = 0 := by unfold bothC; rw [if_neg (by rw [(chkT_iff t).2 ht]; simp), hr]
  have hC := fun W => bboth t c W
  rw [h0] at hC
  have HC := Lib.hid hC
  have HG := Lib.hid (fun W => agap t c W ht hc)
  have q1 := ht.x
  have q2 := ht.y
  have q3 := hc.x
  have q4 := hc.y
  obtain ⟨x, y, lo, hi, tol, mat, pin⟩ := t
  obtain ⟨x1, y1, d⟩ := c
  simp only at *
  have e1 := ply_sq (n := x1 - x) (by omega)
  have e2 := ply_sq (n := y1 - y) (by omega)
  clear q1 q2 q3 q4 h0 hC ht hc hr
  generalize x1 - x = z1 at *
  generalize y1 - y = z2 at *
  have v1 := IntWalk.wrap64_in (z1 * z1) (by omega)
  have v2 := IntWalk.wrap64_in (z2 * z2) (by omega)
  have v3 := IntWalk.wrap64_in (z1 * z1 + z2 * z2) (by omega)
  go_enter Tryz.func29, Tryz.ntmps29
  go_wp2_with fail
  refine (HC.out _).mono ?_
  rintro e w1 ⟨rfl, hb1⟩
  have HX1 := Lib.hid (HX.out.below hb1)
  obtain ⟨c0, c1, c2⟩ := HX1.out.c
  obtain ⟨t0, t1, t2, t3, t4, t5, t6⟩ := HX1.out.t
  have HB1 := Lib.hid (bel_to HB0.out hb1)
  clear hb1 HX HX1 HB0 HC
  go_wp2_with fail
  refine (HG.out _).mono ?_
  rintro e w2 ⟨rfl, hb2⟩
  have hb2' := bel_to HB1.out hb2
  clear hb2 HB1 c0 c1 c2 t0 t1 t2 t3 t4 t5 t6
  go_wp2
  go_ret2
  refine Ret.of ?_ hb2'
  first | rfl | (show Ending.returned (.tuple #[.int .i64 (wrap64 (wrap64 (z1 * z1) + wrap64 (z2 * z2))), .int .i64 0]) = _; rw [v1, v2, v3])
theorem apair (a b : Tg) (w : World) (h : prN a b = 0) : Calls Tryz.prog 129 #[tgV a, tgV b] w (Ret w (.int .i64 0)) := by
  obtain ⟨ta, tb, ma, mb, ex, ey, hp⟩ := prN_ok h
  have hA := fun W => bcheck a W
  have hB := fun W => bcheck b W
  rw [(chkT_iff a).2 ta] at hA
  rw [(chkT_iff b).2 tb] at hB
  have HA := Lib.hid hA
  have HB := Lib.hid hB
  have hq := fun W => neq_point a.x a.y a.x a.y W
  simp only [beq_self_eq_true, Bool.and_self, Bool.not_true] at hq
  clear ta tb hA hB h
  obtain ⟨ax, ay, al, ah, at_, am, ap⟩ := a
  obtain ⟨bx, bY, bl, bh, bt, bm, bp⟩ := b
  simp only at ma mb ex ey hp HA HB hq
  subst ma mb ex ey hp
  have hb0 := bel_to (bel_al2 w (.cells #[.int .i64 ax, .int .i64 ay, .int .i64 al, .int .i64 ah, .int .i64 at_, .int .i64 1, .bool ap] 27 (0, 0)) (.cells #[.int .i64 ax, .int .i64 ay, .int .i64 bl, .int .i64 bh, .int .i64 bt, .int .i64 1, .bool (!ap)] 27 (0, 0))) (bel_al ((w.alloc (.cells #[.int .i64 ax, .int .i64 ay, .int .i64 al, .int .i64 ah, .int .i64 at_, .int .i64 1, .bool ap] 27 (0, 0))).alloc (.cells #[.int .i64 ax, .int .i64 ay, .int .i64 bl, .int .i64 bh, .int .i64 bt, .int .i64 1, .bool (!ap)] 27 (0, 0))) (.cells #[.int .i64 ax, .int .i64 ay, .int .i64 al, .int .i64 ah, .int .i64 at_, .int .i64 1, .bool ap, .int .i64 ax, .int .i64 ay, .int .i64 bl, .int .i64 bh, .int .i64 bt, .int .i64 1, .bool (!ap)] 27 (0, 0)))
  have hr1 : Row (((w.alloc (.cells #[.int .i64 ax, .int .i64 ay, .int .i64 al, .int .i64 ah, .int .i64 at_, .int .i64 1, .bool ap] 27 (0, 0))).alloc (.cells #[.int .i64 ax, .int .i64 ay, .int .i64 bl, .int .i64 bh, .int .i64 bt, .int .i64 1, .bool (!ap)] 27 (0, 0))).alloc (.cells #[.int .i64 ax, .int .i64 ay, .int .i64 al, .int .i64 ah, .int .i64 at_, .int .i64 1, .bool ap, .int .i64 ax, .int .i64 ay, .int .i64 bl, .int .i64 bh, .int .i64 bt, .int .i64 1, .bool (!ap)] 27 (0, 0))) w.heap.size 27 [.int .i64 ax, .int .i64 ay, .int .i64 al, .int .i64 ah, .int .i64 at_, .int .i64 1, .bool ap] := (rnw.alloc _).alloc _
  have hr2 : Row (((w.alloc (.cells #[.int .i64 ax, .int .i64 ay, .int .i64 al, .int .i64 ah, .int .i64 at_, .int .i64 1, .bool ap] 27 (0, 0))).alloc (.cells #[.int .i64 ax, .int .i64 ay, .int .i64 bl, .int .i64 bh, .int .i64 bt, .int .i64 1, .bool (!ap)] 27 (0, 0))).alloc (.cells #[.int .i64 ax, .int .i64 ay, .int .i64 al, .int .i64 ah, .int .i64 at_, .int .i64 1, .bool ap, .int .i64 ax, .int .i64 ay, .int .i64 bl, .int .i64 bh, .int .i64 bt, .int .i64 1, .bool (!ap)] 27 (0, 0))) (w.heap.size + 1) 27 [.int .i64 ax, .int .i64 ay, .int .i64 bl, .int .i64 bh, .int .i64 bt, .int .i64 1, .bool (!ap)] := (rnew0 (World.size_alloc _ _).symm).alloc _
  have hr3 : Row (((w.alloc (.cells #[.int .i64 ax, .int .i64 ay, .int .i64 al, .int .i64 ah, .int .i64 at_, .int .i64 1, .bool ap] 27 (0, 0))).alloc (.cells #[.int .i64 ax, .int .i64 ay, .int .i64 bl, .int .i64 bh, .int .i64 bt, .int .i64 1, .bool (!ap)] 27 (0, 0))).alloc (.cells #[.int .i64 ax, .int .i64 ay, .int .i64 al, .int .i64 ah, .int .i64 at_, .int .i64 1, .bool ap, .int .i64 ax, .int .i64 ay, .int .i64 bl, .int .i64 bh, .int .i64 bt, .int .i64 1, .bool (!ap)] 27 (0, 0))) (w.heap.size + 2) 27 [.int .i64 ax, .int .i64 ay, .int .i64 al, .int .i64 ah, .int .i64 at_, .int .i64 1, .bool ap, .int .i64 ax, .int .i64 ay, .int .i64 bl, .int .i64 bh, .int .i64 bt, .int .i64 1, .bool (!ap)] := rnew0 (by rw [World.size_alloc, World.size_alloc])
  have HR := Lib.hid (And.intro hr1 (And.intro hr2 (And.intro hr3 hb0)))
  clear hr1 hr2 hr3 hb0
  have hs1 : Row ((w.alloc (.cells #[.int .i64 ax, .int .i64 ay, .int .i64 al, .int .i64 ah, .int .i64 at_, .int .i64 1, .bool ap] 27 (0, 0))).alloc (.cells #[.int .i64 ax, .int .i64 ay, .int .i64 bl, .int .i64 bh, .int .i64 bt, .int .i64 1, .bool (!ap)] 27 (0, 0))) w.heap.size 27 [.int .i64 ax, .int .i64 ay, .int .i64 al, .int .i64 ah, .int .i64 at_, .int .i64 1, .bool ap] := rnw.alloc _
  have hs2 : Row ((w.alloc (.cells #[.int .i64 ax, .int .i64 ay, .int .i64 al, .int .i64 ah, .int .i64 at_, .int .i64 1, .bool ap] 27 (0, 0))).alloc (.cells #[.int .i64 ax, .int .i64 ay, .int .i64 bl, .int .i64 bh, .int .i64 bt, .int .i64 1, .bool (!ap)] 27 (0, 0))) (w.heap.size + 1) 27 [.int .i64 ax, .int .i64 ay, .int .i64 bl, .int .i64 bh, .int .i64 bt, .int .i64 1, .bool (!ap)] := rnew0 (World.size_alloc _ _).symm
  have x0 := hs1.cell (i := 0) rfl
  have x1 := hs1.cell (i := 1) rfl
  have x2 := hs1.cell (i := 2) rfl
  have x3 := hs1.cell (i := 3) rfl
  have x4 := hs1.cell (i := 4) rfl
  have x5 := hs1.cell (i := 5) rfl
  have x6 := hs1.cell (i := 6) rfl
  have y0 := hs2.cell (i := 0) rfl
  have y1 := hs2.cell (i := 1) rfl
  have y2 := hs2.cell (i := 2) rfl
  have y3 := hs2.cell (i := 3) rfl
  have y4 := hs2.cell (i := 4) rfl
  have y5 := hs2.cell (i := 5) rfl
  have y6 := hs2.cell (i := 6) rfl
  clear hs1 hs2
  unfold tgV at HA HB ⊢
  go_enter Tryz.func129, Tryz.ntmps129
  go_wp2
  clear x0 x1 x2 x3 x4 x5 x6 y0 y1 y2 y3 y4 y5 y6
  generalize (((w.alloc (.cells #[.int .i64 ax, .int .i64 ay, .int .i64 al, .int .i64 ah, .int .i64 at_, .int .i64 1, .bool ap] 27 (0, 0))).alloc (.cells #[.int .i64 ax, .int .i64 ay, .int .i64 bl, .int .i64 bh, .int .i64 bt, .int .i64 1, .bool (!ap)] 27 (0, 0))).alloc (.cells #[.int .i64 ax, .int .i64 ay, .int .i64 al, .int .i64 ah, .int .i64 at_, .int .i64 1, .bool ap, .int .i64 ax, .int .i64 ay, .int .i64 bl, .int .i64 bh, .int .i64 bt, .int .i64 1, .bool (!ap)] 27 (0, 0))) = W at *
  refine wp_loop_rounds 3 ?_
  rw [rounds_succ]
  have z0 := HR.out.2.2.1.cell (i := 0) rfl
  have z1 := HR.out.2.2.1.cell (i := 1) rfl
  have z2 := HR.out.2.2.1.cell (i := 2) rfl
  have z3 := HR.out.2.2.1.cell (i := 3) rfl
  have z4 := HR.out.2.2.1.cell (i := 4) rfl
  have z5 := HR.out.2.2.1.cell (i := 5) rfl
  have z6 := HR.out.2.2.1.cell (i := 6) rfl
  have hal := bel_al W (.cells #[.int .i64 ax, .int .i64 ay, .int .i64 al, .int .i64 ah, .int .i64 at_, .int .i64 1, .bool ap] 27 (0, 0))
  have H4 := Lib.hid (And.intro (HR.out.1.below' hal) (And.intro (HR.out.2.1.below' hal) (And.intro (HR.out.2.2.1.below' hal) (bel_to HR.out.2.2.2 hal))))
  clear hal HR
  go_wp2_with fail
  refine (HA.out _).mono ?_
  rintro e w4 ⟨rfl, hb4⟩
  have K4 := Lib.hid (And.intro (H4.out.1.below' hb4) (And.intro (H4.out.2.1.below' hb4) (And.intro (H4.out.2.2.1.below' hb4) (bel_to H4.out.2.2.2 hb4))))
  clear hb4 H4 HA z0 z1 z2 z3 z4 z5 z6
  go_wp2
  rw [rounds_succ]
  have z0 := K4.out.2.2.1.cell (i := 7) rfl
  have z1 := K4.out.2.2.1.cell (i := 8) rfl
  have z2 := K4.out.2.2.1.cell (i := 9) rfl
  have z3 := K4.out.2.2.1.cell (i := 10) rfl
  have z4 := K4.out.2.2.1.cell (i := 11) rfl
  have z5 := K4.out.2.2.1.cell (i := 12) rfl
  have z6 := K4.out.2.2.1.cell (i := 13) rfl
  have hal := bel_al w4 (.cells #[.int .i64 ax, .int .i64 ay, .int .i64 bl, .int .i64 bh, .int .i64 bt, .int .i64 1, .bool (!ap)] 27 (0, 0))
  have H5 := Lib.hid (And.intro (K4.out.1.below' hal) (And.intro (K4.out.2.1.below' hal) (And.intro (K4.out.2.2.1.below' hal) (bel_to K4.out.2.2.2 hal))))
  clear hal K4
  go_wp2_with fail
  refine (HB.out _).mono ?_
  rintro e w5 ⟨rfl, hb5⟩
  have K5 := Lib.hid (And.intro (H5.out.1.below' hb5) (And.intro (H5.out.2.1.below' hb5) (And.intro (H5.out.2.2.1.below' hb5) (bel_to H5.out.2.2.2 hb5))))
  clear hb5 H5 HB z0 z1 z2 z3 z4 z5 z6
  go_wp2
  rw [rounds_succ]
  have x0 := K5.out.1.cell (i := 0) rfl
  have x1 := K5.out.1.cell (i := 1) rfl
  have x5 := K5.out.1.cell (i := 5) rfl
  have x6 := K5.out.1.cell (i := 6) rfl
  have y0 := K5.out.2.1.cell (i := 0) rfl
  have y1 := K5.out.2.1.cell (i := 1) rfl
  have y5 := K5.out.2.1.cell (i := 5) rfl
  have y6 := K5.out.2.1.cell (i := 6) rfl
  have hb := K5.out.2.2.2
  clear K5
  cases ap <;>
  · go_wp2
    go_ret
    exact Ret.of rfl hb
end W
end Go.Proofs.YtellemlhhlafcaaGreatDoor
end
section
namespace Go.Proofs.YtellemlhhlafcaaGreatDoor
open Go Go.RowKit Go.Deep Go.Sort
namespace W
open M
attribute [local go_sem] bs_size bs_toList bs_get bs_extract bs_append bs_lit0 bs_lit1 lit1_bs
set_option maxHeartbeats 2000000
set_option maxRecDepth 20000
theorem acheck (va vb : Value) (A B : List Tg) (w : World) (ha : RdG w va A) (hb : RdG w vb B) (h : RightC A B) : Calls Tryz.prog 89 #[joV va vb] w (Ret w (.int .i64 0)) := by
  have HAB := Lib.hid (And.intro ha hb)
  have h1 := h.h0
  have h16 := h.h1
  have HL := Lib.hid h.len
  have HPR := Lib.hid (fun i (hi : i < A.length) (hj : i < B.length) W => apair A[i] B[i] W (h.ok i hi hj))
  have dl : ((A.length : Int) != (B.length : Int)) = false := by rw [h.len]; simp
  obtain ⟨Aa, ca, rfl⟩ := ha.len
  obtain ⟨Ab, cb, rfl⟩ := hb.len
  have hb0 := bel_al w (.cells #[.slice Aa A.length ca, .slice Ab B.length cb] 70 (0, 0))
  have hr0 : Row (w.alloc (.cells #[.slice Aa A.length ca, .slice Ab B.length cb] 70 (0, 0))) w.heap.size 70 [.slice Aa A.length ca, .slice Ab B.length cb] := rnw
  have HR := Lib.hid (And.intro hr0 hb0)
  have r0 := hr0.cell (i := 0) rfl
  have r1 := hr0.cell (i := 1) rfl
  have hz : (((A.length : Nat) : Int) == 0) = false := by rw [beq_eq_false_iff_ne]; omega
  have d5 : decide (16 < (A.length : Int)) = false := decide_eq_false (by omega)
  clear ha hb hb0 hr0 h
  unfold joV
  go_enter Tryz.func89, Tryz.ntmps89
  go_wp2
  go_loopw [26] (fun iv wr => ∃ i : Nat, iv = .int .i64 (i : Int) ∧ i ≤ A.length ∧ Hid (Row wr w.heap.size 70 [.slice Aa A.length ca, .slice Ab B.length cb] ∧ Below w.heap.size w wr)) (fun iv _ => A.length - (intOf iv).toNat)
  case atStart => exact ⟨0, rfl, by omega, HR⟩
  case round =>
    clear HR r0 r1
    obtain ⟨i, rfl, hi, hk⟩ := hrel
    by_cases hlt : i < A.length
    · have hlb : i < B.length := by have := HL.out; omega
      obtain ⟨q1, o1, rfl, hw⟩ := HAB.out.1.row i hlt
      obtain ⟨q2, o2, rfl, hv⟩ := HAB.out.2.row i hlb
      have r0 := hk.out.1.cell (i := 0) rfl
      have r1 := hk.out.1.cell (i := 1) rfl
      obtain ⟨c0, c1, c2, c3, c4, c5, c6⟩ := (hw.below' hk.out.2).val i hlt
      obtain ⟨e0, e1, e2, e3, e4, e5, e6⟩ := (hv.below' hk.out.2).val i hlb
      have hi0 : (0 : Int) ≤ (i : Int) := by omega
      have hit : (i : Int) < (A.length : Int) := by omega
      have hic : (i : Int) < (B.length : Int) := by omega
      have HN := Lib.hid (HPR.out i hlt hlb)
      clear hw hv
      unfold tgV at HN
      generalize A[i].x = jax at *
      generalize A[i].y = jay at *
      generalize A[i].lo = jal at *
      generalize A[i].hi = jah at *
      generalize A[i].tol = jat at *
      generalize A[i].mat = jam at *
      generalize A[i].pin = jap at *
      generalize B[i].x = jbx at *
      generalize B[i].y = jby at *
      generalize B[i].lo = jbl at *
      generalize B[i].hi = jbh at *
      generalize B[i].tol = jbt at *
      generalize B[i].mat = jbm at *
      generalize B[i].pin = jbp at *
      have m0 := cell_regrown c0
      have m1 := cell_regrown c1
      have m2 := cell_regrown c2
      have m3 := cell_regrown c3
      have m4 := cell_regrown c4
      have m5 := cell_regrown c5
      have m6 := cell_regrown c6
      have n0 := cell_regrown e0
      have n1 := cell_regrown e1
      have n2 := cell_regrown e2
      have n3 := cell_regrown e3
      have n4 := cell_regrown e4
      have n5 := cell_regrown e5
      have n6 := cell_regrown e6
      have m8 := cell_regrown r0
      have m9 := cell_regrown r1
      have f1 : ∀ args w, (callFunc 129 args).run Tryz.prog w = .ok (.enter 129 args) w := enters_of Tryz.func129 (by kernel_rfl) rfl
      clear c0 c1 c2 c3 c4 c5 c6 e0 e1 e2 e3 e4 e5 e6
      have k1 := reg_of (w := wr) (fun W _ => HN.out W)
      go_wp2_with fail
      clear r0 r1
      refine wp_region_quiet_below (by kernel_rfl) (by kernel_rfl) ?_
      repeat (go_big_quiet_step (fail))
      go_big_quiet_step (exact k1 _ _)
      repeat (go_big_quiet_step (fail))
      refine wpQuiet_nil ?_
      intro W6 hw'
      have hb6 : Below wr.heap.size wr W6 := by obtain ⟨p, e⟩ := hw'; rw [e]; exact below_regrown wr p.d p.os
      clear hw'
      have H6 := Lib.hid (And.intro (hk.out.1.below' hb6) (bel_to hk.out.2 hb6))
      clear hb6 k1 m0 m1 m2 m3 m4 m5 m6 m8 m9 n0 n1 n2 n3 n4 n5 n6 f1 HN hk
      go_wp2
      go_roundw
      case rel => exact ⟨i + 1, by go_num, by omega, H6⟩
      case measure => simp [intOf]; omega
    · obtain rfl : i = A.length := by omega
      go_wp2
      go_ret
      exact Ret.of rfl hk.out.2
theorem aplates (va vb vp vq : Value) (A B : List Tg) (p q : List Cc) (w : World) (ha : RdG w va A) (hb : RdG w vb B) (hp : RdC w vp p) (hq : RdC w vq q) (h : RightG A B p q) :
    Calls Tryz.prog 50 #[joV va vb, joV vp vq] w (Ret w (.int .i64 0)) := by
  have HAB := Lib.hid (And.intro ha (And.intro hb (And.intro hp hq)))
  have HCK := Lib.hid (fun W (hW : Below w.heap.size w W) => acheck va vb A B W (ha.below hW) (hb.below hW) h.c)
  have h1 := h.c.h0
  have h16 := h.c.h1
  have HL := Lib.hid (And.intro h.lp (And.intro h.lq h.c.len))
  have d1 : ((p.length : Int) != (A.length : Int)) = false := by rw [h.lp]; simp
  have d2 : ((q.length : Int) != (B.length : Int)) = false := by rw [h.lq]; simp
  have HOK := Lib.hid (fun i (h1 : i < A.length) (h2 : i < B.length) (h3 : i < p.length) (h4 : i < q.length) => show (∀ W, Calls Tryz.prog 29 #[tgV A[i], ccV p[i]] W (Ret W (.tuple #[.int .i64 ((p[i].x - A[i].x) * (p[i].x - A[i].x) + (p[i].y - A[i].y) * (p[i].y - A[i].y)), .int .i64 0]))) ∧ (∀ W, Calls Tryz.prog 29 #[tgV B[i], ccV q[i]] W (Ret W (.tuple #[.int .i64 ((q[i].x - B[i].x) * (q[i].x - B[i].x) + (q[i].y - B[i].y) * (q[i].y - B[i].y)), .int .i64 0]))) ∧ (∀ W, Calls Tryz.prog 90 #[tgV A[i], ccV p[i]] W (Ret W (.bool true))) ∧ (∀ W, Calls Tryz.prog 90 #[tgV B[i], ccV q[i]] W (Ret W (.bool true))) from by
    obtain ⟨g1, g2, g3, g4⟩ := h.ok i h1 h2 h3 h4
    obtain ⟨ta, tb, _⟩ := prN_ok (h.c.ok i h1 h2)
    refine ⟨fun W => adist A[i] p[i] W ta ((ringC_iff _).1 g1) g1, fun W => adist B[i] q[i] W tb ((ringC_iff _).1 g2) g2, fun W => ?_, fun W => ?_⟩
    · have := ainside A[i] p[i] W
      rwa [g3] at this
    · have := ainside B[i] q[i] W
      rwa [g4] at this)
  obtain ⟨Aa, ca, rfl⟩ := ha.len
  obtain ⟨Ab, cb, rfl⟩ := hb.len
  obtain ⟨Ap, cp, rfl⟩ := hp.len
  obtain ⟨Aq, cq, rfl⟩ := hq.len
  have hb0 := bel_al2 w (.cells #[.slice Aa A.length ca, .slice Ab B.length cb] 70 (0, 0)) (.cells #[.slice Ap p.length cp, .slice Aq q.length cq] 72 (0, 0))
  have hr1 : Row ((w.alloc (.cells #[.slice Aa A.length ca, .slice Ab B.length cb] 70 (0, 0))).alloc (.cells #[.slice Ap p.length cp, .slice Aq q.length cq] 72 (0, 0))) w.heap.size 70 [.slice Aa A.length ca, .slice Ab B.length cb] := rnw.alloc _
  have hr2 : Row ((w.alloc (.cells #[.slice Aa A.length ca, .slice Ab B.length cb] 70 (0, 0))).alloc (.cells #[.slice Ap p.length cp, .slice Aq q.length cq] 72 (0, 0))) (w.heap.size + 1) 72 [.slice Ap p.length cp, .slice Aq q.length cq] := rnew0 (World.size_alloc _ _).symm
  have HR := Lib.hid (And.intro hr1 (And.intro hr2 hb0))
  have r0 := hr1.cell (i := 0) rfl
  have r1 := hr1.cell (i := 1) rfl
  clear ha hb hp hq hb0 hr1 hr2 h
  unfold joV at HCK ⊢
  go_enter Tryz.func50, Tryz.ntmps50
  go_wp2_with fail
  refine (HCK.out _ HR.out.2.2).mono ?_
  rintro e w1 ⟨rfl, hb1⟩
  have H1 := Lib.hid (And.intro (HR.out.1.below' hb1) (And.intro (HR.out.2.1.below' hb1) (bel_to HR.out.2.2 hb1)))
  clear hb1 HR HCK r0 r1
  have r0 := H1.out.1.cell (i := 0) rfl
  have r1 := H1.out.1.cell (i := 1) rfl
  have s0 := H1.out.2.1.cell (i := 0) rfl
  have s1 := H1.out.2.1.cell (i := 1) rfl
  go_wp2
  go_loopw [35] (fun iv wr => ∃ i : Nat, iv = .int .i64 (i : Int) ∧ i ≤ A.length ∧ Hid (Row wr w.heap.size 70 [.slice Aa A.length ca, .slice Ab B.length cb] ∧ Row wr (w.heap.size + 1) 72 [.slice Ap p.length cp, .slice Aq q.length cq] ∧ Below w.heap.size w wr)) (fun iv _ => A.length - (intOf iv).toNat)
  case atStart => exact ⟨0, rfl, by omega, H1⟩
  case round =>
    clear H1 r0 r1 s0 s1
    obtain ⟨i, rfl, hi, hk⟩ := hrel
    by_cases hlt : i < A.length
    · have i2 : i < B.length := by have := HL.out; omega
      have i3 : i < p.length := by have := HL.out; omega
      have i4 : i < q.length := by have := HL.out; omega
      obtain ⟨q1, o1, rfl, hA⟩ := HAB.out.1.row i hlt
      obtain ⟨q2, o2, rfl, hB⟩ := HAB.out.2.1.row i i2
      obtain ⟨q3, o3, rfl, hP⟩ := HAB.out.2.2.1.row i i3
      obtain ⟨q4, o4, rfl, hQ⟩ := HAB.out.2.2.2.row i i4
      have HVA := Lib.hid (fun W (hW : Below w.heap.size w W) => (hA.below' hW).val i hlt)
      have HVB := Lib.hid (fun W (hW : Below w.heap.size w W) => (hB.below' hW).val i i2)
      have HVP := Lib.hid (fun W (hW : Below w.heap.size w W) => (hP.below' hW).val i i3)
      have HVQ := Lib.hid (fun W (hW : Below w.heap.size w W) => (hQ.below' hW).val i i4)
      have hi0 : (0 : Int) ≤ (i : Int) := by omega
      have e1 : (i : Int) < (A.length : Int) := by omega
      have e2 : (i : Int) < (B.length : Int) := by omega
      have e3 : (i : Int) < (p.length : Int) := by omega
      have e4 : (i : Int) < (q.length : Int) := by omega
      have HOI := Lib.hid (HOK.out i hlt i2 i3 i4)
      clear hA hB hP hQ
      unfold tgV ccV at HOI
      generalize (p[i].x - A[i].x) * (p[i].x - A[i].x) + (p[i].y - A[i].y) * (p[i].y - A[i].y) = z1 at *
      generalize (q[i].x - B[i].x) * (q[i].x - B[i].x) + (q[i].y - B[i].y) * (q[i].y - B[i].y) = z2 at *
      generalize A[i].x = jax at *
      generalize A[i].y = jay at *
      generalize A[i].lo = jal at *
      generalize A[i].hi = jah at *
      generalize A[i].tol = jat at *
      generalize A[i].mat = jam at *
      generalize A[i].pin = jap at *
      generalize B[i].x = jbx at *
      generalize B[i].y = jby at *
      generalize B[i].lo = jbl at *
      generalize B[i].hi = jbh at *
      generalize B[i].tol = jbt at *
      generalize B[i].mat = jbm at *
      generalize B[i].pin = jbp at *
      generalize p[i].x = jpx at *
      generalize p[i].y = jpy at *
      generalize p[i].d = jpd at *
      generalize q[i].x = jqx at *
      generalize q[i].y = jqy at *
      generalize q[i].d = jqd at *
      have f1 : ∀ args w, (callFunc 29 args).run Tryz.prog w = .ok (.enter 29 args) w := enters_of Tryz.func29 (by kernel_rfl) rfl
      have f2 : ∀ args w, (callFunc 90 args).run Tryz.prog w = .ok (.enter 90 args) w := enters_of Tryz.func90 (by kernel_rfl) rfl
      go_wp2_with fail
      obtain ⟨c0, c1, c2, c3, c4, c5, c6⟩ := HVA.out _ hk.out.2.2
      have m0 := cell_regrown c0
      have m1 := cell_regrown c1
      have m2 := cell_regrown c2
      have m3 := cell_regrown c3
      have m4 := cell_regrown c4
      have m5 := cell_regrown c5
      have m6 := cell_regrown c6
      clear c0 c1 c2 c3 c4 c5 c6
      obtain ⟨c0, c1, c2⟩ := HVP.out _ hk.out.2.2
      have p0 := cell_regrown c0
      have p1 := cell_regrown c1
      have p2 := cell_regrown c2
      clear c0 c1 c2
      have g0 := cell_regrown (hk.out.1.cell (i := 0) rfl)
      have g1 := cell_regrown (hk.out.1.cell (i := 1) rfl)
      have g2 := cell_regrown (hk.out.2.1.cell (i := 0) rfl)
      have g3 := cell_regrown (hk.out.2.1.cell (i := 1) rfl)
      have k1 := reg_of (w := wr) (fun W _ => HOI.out.1 W)
      refine wp_region_quiet_below (by kernel_rfl) (by kernel_rfl) ?_
      repeat (go_big_quiet_step (fail))
      go_big_quiet_step (exact k1 _ _)
      repeat (go_big_quiet_step (fail))
      refine wpQuiet_nil ?_
      intro W6 hw'
      have hb6 : Below wr.heap.size wr W6 := by obtain ⟨p, e⟩ := hw'; rw [e]; exact below_regrown wr p.d p.os
      clear hw'
      have H2 := Lib.hid (And.intro (hk.out.1.below' hb6) (And.intro (hk.out.2.1.below' hb6) (bel_to hk.out.2.2 hb6)))
      clear hb6 hk k1 m0 m1 m2 m3 m4 m5 m6 p0 p1 p2 g0 g1 g2 g3
      generalize W6 = Wa at *
      go_wp2_with fail
      obtain ⟨c0, c1, c2, c3, c4, c5, c6⟩ := HVB.out _ H2.out.2.2
      have n0 := cell_regrown c0
      have n1 := cell_regrown c1
      have n2 := cell_regrown c2
      have n3 := cell_regrown c3
      have n4 := cell_regrown c4
      have n5 := cell_regrown c5
      have n6 := cell_regrown c6
      clear c0 c1 c2 c3 c4 c5 c6
      obtain ⟨c0, c1, c2⟩ := HVQ.out _ H2.out.2.2
      have v0 := cell_regrown c0
      have v1 := cell_regrown c1
      have v2 := cell_regrown c2
      clear c0 c1 c2
      have g0 := cell_regrown (H2.out.1.cell (i := 0) rfl)
      have g1 := cell_regrown (H2.out.1.cell (i := 1) rfl)
      have g2 := cell_regrown (H2.out.2.1.cell (i := 0) rfl)
      have g3 := cell_regrown (H2.out.2.1.cell (i := 1) rfl)
      have k1 := reg_of (w := Wa) (fun W _ => HOI.out.2.1 W)
      refine wp_region_quiet_below (by kernel_rfl) (by kernel_rfl) ?_
      repeat (go_big_quiet_step (fail))
      go_big_quiet_step (exact k1 _ _)
      repeat (go_big_quiet_step (fail))
      refine wpQuiet_nil ?_
      intro W6 hw'
      have hb6 : Below Wa.heap.size Wa W6 := by obtain ⟨p, e⟩ := hw'; rw [e]; exact below_regrown Wa p.d p.os
      clear hw'
      have H3 := Lib.hid (And.intro (H2.out.1.below' hb6) (And.intro (H2.out.2.1.below' hb6) (bel_to H2.out.2.2 hb6)))
      clear hb6 H2 k1 n0 n1 n2 n3 n4 n5 n6 v0 v1 v2 g0 g1 g2 g3
      generalize W6 = Wb at *
      go_wp2_with fail
      obtain ⟨c0, c1, c2, c3, c4, c5, c6⟩ := HVA.out _ H3.out.2.2
      have m0 := cell_regrown c0
      have m1 := cell_regrown c1
      have m2 := cell_regrown c2
      have m3 := cell_regrown c3
      have m4 := cell_regrown c4
      have m5 := cell_regrown c5
      have m6 := cell_regrown c6
      clear c0 c1 c2 c3 c4 c5 c6
      obtain ⟨c0, c1, c2, c3, c4, c5, c6⟩ := HVB.out _ H3.out.2.2
      have n0 := cell_regrown c0
      have n1 := cell_regrown c1
      have n2 := cell_regrown c2
      have n3 := cell_regrown c3
      have n4 := cell_regrown c4
      have n5 := cell_regrown c5
      have n6 := cell_regrown c6
      clear c0 c1 c2 c3 c4 c5 c6
      obtain ⟨c0, c1, c2⟩ := HVP.out _ H3.out.2.2
      have p0 := cell_regrown c0
      have p1 := cell_regrown c1
      have p2 := cell_regrown c2
      clear c0 c1 c2
      obtain ⟨c0, c1, c2⟩ := HVQ.out _ H3.out.2.2
      have v0 := cell_regrown c0
      have v1 := cell_regrown c1
      have v2 := cell_regrown c2
      clear c0 c1 c2
      have g0 := cell_regrown (H3.out.1.cell (i := 0) rfl)
      have g1 := cell_regrown (H3.out.1.cell (i := 1) rfl)
      have g2 := cell_regrown (H3.out.2.1.cell (i := 0) rfl)
      have g3 := cell_regrown (H3.out.2.1.cell (i := 1) rfl)
      have k1 := reg_of (w := Wb) (fun W _ => HOI.out.2.2.1 W)
      have k2 := reg_of (w := Wb) (fun W _ => HOI.out.2.2.2 W)
      refine wp_region_quiet_below (by kernel_rfl) (by kernel_rfl) ?_
      repeat (go_big_quiet_step (fail))
      go_big_quiet_step (exact k1 _ _)
      repeat (go_big_quiet_step (fail))
      go_big_quiet_step (exact k2 _ _)
      repeat (go_big_quiet_step (fail))
      refine wpQuiet_nil ?_
      intro W6 hw'
      have hb6 : Below Wb.heap.size Wb W6 := by obtain ⟨p, e⟩ := hw'; rw [e]; exact below_regrown Wb p.d p.os
      clear hw'
      have H4 := Lib.hid (And.intro (H3.out.1.below' hb6) (And.intro (H3.out.2.1.below' hb6) (bel_to H3.out.2.2 hb6)))
      clear hb6 H3 k1 k2 f1 f2 HOI m0 m1 m2 m3 m4 m5 m6 n0 n1 n2 n3 n4 n5 n6 p0 p1 p2 v0 v1 v2 g0 g1 g2 g3
      go_wp2
      go_roundw
      case rel => exact ⟨i + 1, by go_num, by omega, H4⟩
      case measure => simp [intOf]; omega
    · obtain rfl : i = A.length := by omega
      go_wp2
      go_ret
      exact Ret.of rfl hk.out.2.2
end W
end Go.Proofs.YtellemlhhlafcaaGreatDoor
end
