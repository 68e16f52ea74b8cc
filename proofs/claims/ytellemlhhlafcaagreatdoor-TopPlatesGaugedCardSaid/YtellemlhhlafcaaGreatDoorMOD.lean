/-
  Chapter 48 of the program: 'inside', 'play', 'Check', 'tight' at right trials.
  A drawn region as in XBw; its tail may write slots that the head reads.
  Chapter 48 of the program: the discs of a round trial. (Printed by wip/oti.py.)
-/
import Derived.Test.YtellemlhhlafcaaGreatDoorMOB
import Derived.Test.YtellemlhhlafcaaGreatDoorMU
import Derived.Test.YtellemlhhlafcaaGreatDoorMV
import Derived.Test.YtellemlhhlafcaaGreatDoorMW
import Derived.Test.YtellemlhhlafcaaGreatDoorMY
section
namespace Go.Proofs.YtellemlhhlafcaaGreatDoor
open Go Go.RowKit Go.Deep Go.Sort
abbrev trV (vt vc : Value) : Value := .agg #[.bool false, vt, vc]
namespace M
structure RtR (ts : List To) (cs : List Cc) : Prop where
  h0 : 1 ≤ ts.length
  h1 : ts.length ≤ 16
  len : cs.length = ts.length
  ok : ∀ i (h : i < ts.length) (h2 : i < cs.length), RtO (ts[i], cs[i])
end M
namespace W
open M
attribute [local go_sem] bs_size bs_toList bs_get bs_extract bs_append bs_lit0 bs_lit1 lit1_bs
set_option maxHeartbeats 1000000
set_option maxRecDepth 20000
theorem tinside (x y : Int) (w : World) (hx : -100000 ≤ x ∧ x ≤ 100000) (hy : -100000 ≤ y ∧ y ≤ 100000) : Calls Tryz.prog 80 #[.agg #[.int .i64 x, .int .i64 y]] w (Ret w (.bool true)) := by
  have hb0 := bel_al w (.cells #[.int .i64 x, .int .i64 y] 23 (0, 0))
  have h1 : decide (-100000 ≤ x) = true := decide_eq_true hx.1
  have h2 : decide (x ≤ 100000) = true := decide_eq_true hx.2
  have h3 : decide (-100000 ≤ y) = true := decide_eq_true hy.1
  have h4 : decide (y ≤ 100000) = true := decide_eq_true hy.2
  clear hx hy
  go_enter Tryz.func80, Tryz.ntmps80
  go_wp2
  go_ret
  exact Ret.of rfl hb0
theorem tplay (t : To) (c : Cc) (w : World) (h : RtO (t, c)) : Calls Tryz.prog 291 #[toV t, ccV c] w (Ret w (.int .i64 (plyT (t, c)))) := by
  have hb0 := bel_al2 w (.cells #[.int .i64 t.x, .int .i64 t.y, .bool t.hole, .int .i64 t.n] 67 (0, 0)) (.cells #[.int .i64 c.x, .int .i64 c.y, .int .i64 c.d] 30 (0, 0))
  have hp := h.ply
  obtain ⟨tx, ty, th, tn⟩ := t
  obtain ⟨cx, cy, cd⟩ := c
  unfold plyT at hp ⊢
  simp only at hp hb0 ⊢
  cases th with
  | true =>
    rw [if_pos rfl] at hp ⊢
    have hw : wrap64 (tn - cd) = tn - cd := IntWalk.wrap64_in _ (by omega)
    clear hp h
    go_enter Tryz.func291, Tryz.ntmps291
    go_wp2
    go_ret
    exact Ret.of (congrArg (Value.int .i64) hw) hb0
  | false =>
    rw [if_neg (by decide)] at hp ⊢
    have hw : wrap64 (cd - tn) = cd - tn := IntWalk.wrap64_in _ (by omega)
    clear hp h
    go_enter Tryz.func291, Tryz.ntmps291
    go_wp2
    go_ret
    exact Ret.of (congrArg (Value.int .i64) hw) hb0
theorem tcheck (vt vc : Value) (ts : List To) (cs : List Cc) (w : World) (ht : RdTL w vt ts) (hc : RdC w vc cs) (h : RtR ts cs) :
    Calls Tryz.prog 40 #[trV vt vc] w (Ret w (.int .i64 0)) := by
  have HH := Lib.hid h.ok
  have HLN := Lib.hid h.len
  have h16 := h.h1
  have h01 := h.h0
  obtain ⟨At, ct, rfl⟩ := ht.len
  obtain ⟨Ac, cc, rfl⟩ := hc.len
  have hb0 := bel_al w (.cells #[.bool false, .slice At ts.length ct, .slice Ac cs.length cc] 55 (0, 0))
  have HR := Lib.hid (And.intro (rnw (w := w) (t := 55) (xs := [.bool false, .slice At ts.length ct, .slice Ac cs.length cc])) hb0)
  have HT := Lib.hid (And.intro ht hc)
  have z1 : ((ts.length : Int) == 0) = false := by rw [beq_eq_false_iff_ne]; omega
  have d1 : decide (16 < (ts.length : Int)) = false := decide_eq_false (by omega)
  have z2 : ((cs.length : Int) != (ts.length : Int)) = false := by rw [h.len]; simp
  clear ht hc hb0 h
  have b1 := HR.out.1.cell (i := 1) rfl
  unfold trV
  go_enter Tryz.func40, Tryz.ntmps40
  go_wp2
  go_loopw [20] (fun iv wr => ∃ i : Nat, iv = .int .i64 (i : Int) ∧ i ≤ ts.length ∧ Hid (Row wr w.heap.size 55 [.bool false, .slice At ts.length ct, .slice Ac cs.length cc] ∧ Below w.heap.size w wr)) (fun iv _ => ts.length - (intOf iv).toNat)
  case atStart => exact ⟨0, rfl, by omega, HR⟩
  case round =>
    clear HR b1
    obtain ⟨i, rfl, hi, hk⟩ := hrel
    by_cases hlt : i < ts.length
    · have hj : i < cs.length := by have := HLN.out; omega
      obtain ⟨bt, ot, rfl, hst⟩ := RdTL.row (n := ts.length) (HT.out.1.below hk.out.2) i hlt
      obtain ⟨t0, t1, t2, t3⟩ := hst.val i hlt
      have hr := HH.out i hlt hj
      have hi0 : (0 : Int) ≤ (i : Int) := by omega
      have hi1 : (i : Int) < (ts.length : Int) := by omega
      have HI := Lib.hid (fun W => tinside ts[i].x ts[i].y W hr.x hr.y)
      have e1 : decide (ts[i].n < 1) = false := decide_eq_false (by have := (show 1 ≤ ts[i].n ∧ ts[i].n ≤ 300000 from hr.n); omega)
      have e2 : decide (300000 < ts[i].n) = false := decide_eq_false (by have := (show 1 ≤ ts[i].n ∧ ts[i].n ≤ 300000 from hr.n); omega)
      clear hst hr
      generalize ts[i].x = tx at *
      generalize ts[i].y = ty at *
      generalize ts[i].hole = th at *
      generalize ts[i].n = tn at *
      have hal := bel_al wr (.cells #[.int .i64 tx, .int .i64 ty, .bool th, .int .i64 tn] 67 (0, 0))
      have hrt : Row (wr.alloc (.cells #[.int .i64 tx, .int .i64 ty, .bool th, .int .i64 tn] 67 (0, 0))) wr.heap.size 67 [.int .i64 tx, .int .i64 ty, .bool th, .int .i64 tn] := rnw
      have H1 := Lib.hid (And.intro (hk.out.1.below' hal) (And.intro hrt (bel_to hk.out.2 hal)))
      clear hal hrt hk
      go_wp2_with fail
      refine (HI.out _).mono ?_
      rintro e w2 ⟨rfl, hb2⟩
      have H2 := Lib.hid (And.intro (H1.out.1.below' hb2) (And.intro (H1.out.2.1.below' hb2) (bel_to H1.out.2.2 hb2)))
      have y3 := H2.out.2.1.cell (i := 3) rfl
      clear hb2 H1 HI t0 t1 t2 t3
      go_wp2
      go_roundw
      case rel => exact ⟨i + 1, by go_num, by omega, Lib.hid ⟨H2.out.1, H2.out.2.2⟩⟩
      case measure => simp [intOf]; omega
    · obtain rfl : ts.length = i := by omega
      have b1 := hk.out.1.cell (i := 1) rfl
      have b2 := hk.out.1.cell (i := 2) rfl
      go_wp2
      go_loopw [49] (fun iv wr => ∃ i : Nat, iv = .int .i64 (i : Int) ∧ i ≤ cs.length ∧ Hid (Row wr w.heap.size 55 [.bool false, .slice At ts.length ct, .slice Ac cs.length cc] ∧ Below w.heap.size w wr)) (fun iv _ => cs.length - (intOf iv).toNat)
      case atStart => exact ⟨0, rfl, by omega, hk⟩
      case round =>
        clear hk b1 b2
        obtain ⟨i, rfl, hi, hk⟩ := hrel
        by_cases hlt : i < cs.length
        · have hj : i < ts.length := by have := HLN.out; omega
          obtain ⟨bc, oc, rfl, hsc⟩ := RdC.row (n := cs.length) (HT.out.2.below hk.out.2) i hlt
          obtain ⟨t0, t1, t2⟩ := hsc.val i hlt
          have hr := (HH.out i hj hlt).c
          have hi0 : (0 : Int) ≤ (i : Int) := by omega
          have hi1 : (i : Int) < (cs.length : Int) := by omega
          have HI := Lib.hid (fun W => tinside cs[i].x cs[i].y W hr.x hr.y)
          have e1 : decide (cs[i].d < 1) = false := decide_eq_false (by have := (show 1 ≤ cs[i].d ∧ cs[i].d ≤ 100000 from hr.d); omega)
          have e2 : decide (100000 < cs[i].d) = false := decide_eq_false (by have := (show 1 ≤ cs[i].d ∧ cs[i].d ≤ 100000 from hr.d); omega)
          clear hsc hr
          generalize cs[i].x = tx at *
          generalize cs[i].y = ty at *
          generalize cs[i].d = tn at *
          have hal := bel_al wr (.cells #[.int .i64 tx, .int .i64 ty, .int .i64 tn] 30 (0, 0))
          have hrt : Row (wr.alloc (.cells #[.int .i64 tx, .int .i64 ty, .int .i64 tn] 30 (0, 0))) wr.heap.size 30 [.int .i64 tx, .int .i64 ty, .int .i64 tn] := rnw
          have H1 := Lib.hid (And.intro (hk.out.1.below' hal) (And.intro hrt (bel_to hk.out.2 hal)))
          clear hal hrt hk
          go_wp2_with fail
          refine (HI.out _).mono ?_
          rintro e w2 ⟨rfl, hb2⟩
          have H2 := Lib.hid (And.intro (H1.out.1.below' hb2) (And.intro (H1.out.2.1.below' hb2) (bel_to H1.out.2.2 hb2)))
          have y3 := H2.out.2.1.cell (i := 2) rfl
          clear hb2 H1 HI t0 t1 t2
          go_wp2
          go_roundw
          case rel => exact ⟨i + 1, by go_num, by omega, Lib.hid ⟨H2.out.1, H2.out.2.2⟩⟩
          case measure => simp [intOf]; omega
        · obtain rfl : cs.length = i := by omega
          go_wp2
          go_ret
          exact Ret.of rfl hk.out.2
theorem ttight (vt vc : Value) (ts : List To) (cs : List Cc) (w : World) (ht : RdTL w vt ts) (hc : RdC w vc cs) (h : RtR ts cs) :
    Calls Tryz.prog 285 #[trV vt vc] w (fun e w' => ∃ k : Int, e = .returned (.int .i64 k) ∧ (k = -1 ∧ (∀ i (h1 : i < ts.length) (h2 : i < cs.length), 0 ≤ plyT (ts[i], cs[i])) ∨ 0 ≤ k ∧ ∃ i, ∃ (h1 : i < ts.length) (h2 : i < cs.length), plyT (ts[i], cs[i]) < 0) ∧ Below w.heap.size w w') := by
  have HP := Lib.hid (fun i (hi : i < ts.length) (hj : i < cs.length) W => tplay ts[i] cs[i] W (h.ok i hi hj))
  have HLN := Lib.hid h.len
  have h16 := h.h1
  obtain ⟨At, ct, rfl⟩ := ht.len
  obtain ⟨Ac, cc, rfl⟩ := hc.len
  have hb0 := bel_al w (.cells #[.bool false, .slice At ts.length ct, .slice Ac cs.length cc] 55 (0, 0))
  have HR := Lib.hid (And.intro (rnw (w := w) (t := 55) (xs := [.bool false, .slice At ts.length ct, .slice Ac cs.length cc])) hb0)
  have HT := Lib.hid (And.intro ht hc)
  clear ht hc hb0 h
  have b1 := HR.out.1.cell (i := 1) rfl
  unfold trV
  go_enter Tryz.func285, Tryz.ntmps285
  go_wp2
  go_loopw [8] (fun iv wr => ∃ i : Nat, iv = .int .i64 (i : Int) ∧ i ≤ ts.length ∧ Hid (Row wr w.heap.size 55 [.bool false, .slice At ts.length ct, .slice Ac cs.length cc] ∧ Below w.heap.size w wr ∧ ∀ j (h1 : j < ts.length) (h2 : j < cs.length), j < i → 0 ≤ plyT (ts[j], cs[j]))) (fun iv _ => ts.length - (intOf iv).toNat)
  case atStart => exact ⟨0, rfl, by omega, Lib.hid ⟨HR.out.1, HR.out.2, fun j _ _ h => absurd h (by omega)⟩⟩
  case round =>
    clear HR b1
    obtain ⟨i, rfl, hi, hk⟩ := hrel
    by_cases hlt : i < ts.length
    · have hj : i < cs.length := by have := HLN.out; omega
      obtain ⟨bt, ot, rfl, hst⟩ := RdTL.row (n := ts.length) (HT.out.1.below hk.out.2.1) i hlt
      obtain ⟨bc, oc, rfl, hsc⟩ := RdC.row (n := cs.length) (HT.out.2.below hk.out.2.1) i hj
      obtain ⟨t0, t1, t2, t3⟩ := hst.val i hlt
      have hi0 : (0 : Int) ≤ (i : Int) := by omega
      have hi1 : (i : Int) < (ts.length : Int) := by omega
      have hj1 : (i : Int) < (cs.length : Int) := by omega
      have HI := Lib.hid (HP.out i hlt hj)
      have HZ := Lib.hid hk.out.2.2
      obtain ⟨pl, hpl⟩ : ∃ pl, pl = plyT (ts[i], cs[i]) := ⟨_, rfl⟩
      rw [← hpl] at HI
      have HPL := Lib.hid hpl
      clear hst hpl
      unfold toV ccV at HI
      have HC := Lib.hid (fun W (hW : Below wr.heap.size wr W) => (hsc.below' hW).val i hj)
      clear hsc
      generalize ts[i].x = tx at *
      generalize ts[i].y = ty at *
      generalize ts[i].hole = th at *
      generalize ts[i].n = tn at *
      generalize cs[i].x = cx at *
      generalize cs[i].y = cy at *
      generalize cs[i].d = cd at *
      have hal := bel_al wr (.cells #[.int .i64 tx, .int .i64 ty, .bool th, .int .i64 tn] 67 (0, 0))
      have hrt : Row (wr.alloc (.cells #[.int .i64 tx, .int .i64 ty, .bool th, .int .i64 tn] 67 (0, 0))) wr.heap.size 67 [.int .i64 tx, .int .i64 ty, .bool th, .int .i64 tn] := rnw
      have H1 := Lib.hid (And.intro (hk.out.1.below' hal) (And.intro hrt (bel_to hk.out.2.1 hal)))
      obtain ⟨c0, c1, c2⟩ := HC.out _ hal
      clear hal hrt hk HC
      have e1 : ∀ args w, (callFunc 291 args).run Tryz.prog w = .ok (.enter 291 args) w := enters_of Tryz.func291 (by kernel_rfl) rfl
      go_wp2_with fail
      clear t0 t1 t2 t3
      generalize wr.alloc (.cells #[.int .i64 tx, .int .i64 ty, .bool th, .int .i64 tn] 67 (0, 0)) = V at *
      generalize wr.heap.size = gt at *
      have m0 := cell_regrown (H1.out.2.1.cell (i := 0) rfl)
      have m1 := cell_regrown (H1.out.2.1.cell (i := 1) rfl)
      have m2 := cell_regrown (H1.out.2.1.cell (i := 2) rfl)
      have m3 := cell_regrown (H1.out.2.1.cell (i := 3) rfl)
      have m4 := cell_regrown (H1.out.1.cell (i := 2) rfl)
      have m5 := cell_regrown c0
      have m6 := cell_regrown c1
      have m7 := cell_regrown c2
      clear c0 c1 c2
      have k1 := reg_of (w := V) (fun W _ => HI.out W)
      by_cases hp : pl < 0
      · have d1 : decide (pl < 0) = true := decide_eq_true hp
        have HN := Lib.hid (show plyT (ts[i], cs[i]) < 0 by rw [← HPL.out]; exact hp)
        clear hp
        refine wp_region_quiet_below (by kernel_rfl) (by kernel_rfl) ?_
        repeat (go_big_quiet_step (fail))
        go_big_quiet_step (exact k1 _ _)
        repeat (go_big_quiet_step (fail))
        refine wpQuiet_nil ?_
        intro W6 hw'
        have hb6 : Below V.heap.size V W6 := by obtain ⟨p, e⟩ := hw'; rw [e]; exact below_regrown V p.d p.os
        clear hw'
        have H2 := Lib.hid (And.intro (bel_to H1.out.2.2 hb6) (And.intro hlt (And.intro hj HN.out)))
        clear hb6 m0 m1 m2 m3 m4 m5 m6 m7 k1 e1 H1 HI
        go_wp2
        go_ret
        exact ⟨_, rfl, Or.inr ⟨by omega, i, H2.out.2.1, H2.out.2.2.1, H2.out.2.2.2⟩, H2.out.1⟩
      · have d1 : decide (pl < 0) = false := decide_eq_false hp
        have HN := Lib.hid (show 0 ≤ plyT (ts[i], cs[i]) by rw [← HPL.out]; omega)
        clear hp
        refine wp_region_quiet_below (by kernel_rfl) (by kernel_rfl) ?_
        repeat (go_big_quiet_step (fail))
        go_big_quiet_step (exact k1 _ _)
        repeat (go_big_quiet_step (fail))
        refine wpQuiet_nil ?_
        intro W6 hw'
        have hb6 : Below V.heap.size V W6 := by obtain ⟨p, e⟩ := hw'; rw [e]; exact below_regrown V p.d p.os
        clear hw'
        have H2 := Lib.hid (And.intro (H1.out.1.below' hb6) (bel_to H1.out.2.2 hb6))
        clear hb6 m0 m1 m2 m3 m4 m5 m6 m7 k1 e1 H1 HI
        go_wp2
        go_roundw
        case rel => exact ⟨i + 1, by go_num, by omega, Lib.hid ⟨H2.out.1, H2.out.2, fun j h1 h2 h3 => by
          by_cases hji : j = i
          · subst hji; exact HN.out
          · exact HZ.out j h1 h2 (by omega)⟩⟩
        case measure => simp [intOf]; omega
    · obtain rfl : ts.length = i := by omega
      go_wp2
      go_ret
      exact ⟨_, rfl, Or.inl ⟨rfl, fun j h1 h2 => hk.out.2.2 j h1 h2 h1⟩, hk.out.2.1⟩
end W
end Go.Proofs.YtellemlhhlafcaaGreatDoor
end
section
namespace Go.Proofs.YtellemlhhlafcaaGreatDoor
open Go Go.Sort Go.RowKit Go.Deep
def growTC (md : Region.Mode) (ops : Array Oper) (N n : Nat) : Bool :=
  (List.range n).all fun i => match ops[i]? with
    | none => true
    | some o => o.guard.isNone && (match o.dst with
        | some d => decide (d < N) && (List.range ops.size).all fun j => j == i || dstOf ops j != some d
        | none => true) &&
      (o.op.operands.all fun x => match x with
        | .tmp t => decide (t < N) && (List.range n).all fun j => dstOf ops j != some t || o.after.any fun e => e.on == j && Region.binds md e
        | _ => true) && o.after.all fun e => !(Region.binds md e) || decide (e.on < i)
section
variable {P : Program} {ops : Array Oper} {Q : Exit → Act → World → Prop} {md : Region.Mode} {N n : Nat}
theorem growTC_at (h : growTC md ops N n = true) {i : Nat} {o : Oper} (hin : i < n) (ho : ops[i]? = some o) :
    o.guard = none ∧ (∀ d, o.dst = some d → d < N ∧ ∀ j, j ≠ i → dstOf ops j ≠ some d) ∧
    (∀ t, Operand.tmp t ∈ o.op.operands → t < N ∧ ∀ j, j < n → dstOf ops j = some t → ∃ e ∈ o.after, e.on = j ∧ Region.binds md e = true) ∧ ∀ e ∈ o.after, Region.binds md e = true → e.on < i := by
  have hrng : ∀ j d, dstOf ops j = some d → j < ops.size := fun j d e => by
    rcases Nat.lt_or_ge j ops.size with h | h
    · exact h
    · unfold dstOf at e; rw [Array.getElem?_eq_none h] at e; cases e
  unfold growTC at h
  rw [List.all_eq_true] at h
  have h1 := h i (List.mem_range.2 hin)
  rw [ho] at h1
  simp only [Bool.and_eq_true] at h1
  obtain ⟨⟨⟨h2, h3⟩, h4⟩, h5⟩ := h1
  refine ⟨by simpa using h2, fun d hd => ?_, fun t ht => ?_, fun e he hb => ?_⟩
  · rw [hd] at h3
    simp only [Bool.and_eq_true, decide_eq_true_eq, List.all_eq_true, Bool.or_eq_true, beq_iff_eq, bne_iff_ne, List.mem_range] at h3
    refine ⟨h3.1, fun j hj e => ?_⟩
    rcases h3.2 j (hrng j d e) with h6 | h6
    · exact hj h6
    · exact h6 e
  · rw [Array.all_eq_true_iff_forall_mem] at h4
    have h6 := h4 _ ht
    simp only [Bool.and_eq_true, decide_eq_true_eq, List.all_eq_true, Bool.or_eq_true, bne_iff_ne, List.mem_range] at h6
    refine ⟨h6.1, fun j hjn e => ?_⟩
    rcases h6.2 j hjn with h7 | h7
    · exact absurd e h7
    · rw [Array.any_eq_true] at h7
      obtain ⟨k, hk, h8⟩ := h7
      simp only [Bool.and_eq_true, beq_iff_eq] at h8
      exact ⟨_, Array.getElem_mem hk, h8.1, h8.2⟩
  · rw [Array.all_eq_true_iff_forall_mem] at h5
    have h6 := h5 e he
    rw [hb] at h6
    simpa using h6
theorem heads_readyC {listed : Array Bool} (hB : growTC md ops N n = true) (hn : n < ops.size) (hs : listed.size = ops.size) : ∀ (j : Nat), j < n → listed.getD j false = false → ∃ i, i < n ∧ i ∈ Region.ready md ops listed := by
  intro j
  induction j using Nat.strongRecOn with
  | _ j ih =>
    intro hj hl
    by_cases hall : ∀ k, k < j → listed.getD k false = true
    · obtain ⟨o, ho⟩ : ∃ o, ops[j]? = some o := ⟨ops[j]'(by omega), by rw [Array.getElem?_eq_getElem]⟩
      refine ⟨j, hj, mem_ready.2 ⟨getD_in (by omega) hl, o, ho, fun e he hb => hall _ ((growTC_at hB hj ho).2.2.2 e he hb)⟩⟩
    · obtain ⟨k, hk⟩ := Classical.not_forall.1 hall
      obtain ⟨hkj, hk2⟩ := Classical.not_imp.1 hk
      exact ih k hkj (by omega) (by cases h : listed.getD k false with
        | true => exact absurd h hk2
        | false => rfl)
theorem wpAny_growTC {ψ : Nat → World → Value → Prop} {W0 : World} {D : List Deferred} (l : List Oper) (hl : ops = l.toArray) (hB : growTC md ops N n = true) (hs : Region.sinkB md ops n = true) (hc : Region.chainB md ops n = true) (hn : n < ops.size)
    (hseq : Region.seqB md ops (ops.size - n) n (Array.replicate n true ++ Array.replicate (ops.size - n) false) = true) (hst : ∀ t w w' v, Below w.heap.size w w' → ψ t w v → ψ t w' v)
    (hstep : ∀ (i : Nat) (o : Oper), i < n → ops[i]? = some o → ∀ (a : Act) (w : World), Below W0.heap.size W0 w → a.tmps.size = N → (∀ t, Operand.tmp t ∈ o.op.operands → ψ t w (a.tmps.getD t undef)) → Oper.wp P o a w (fun a' w' => ∃ v, a' = a.put o.dst v ∧ Below w.heap.size w w' ∧ ∀ d, o.dst = some d → ψ d w' v) Q)
    (hend : ∀ (a : Act) (w : World), Below W0.heap.size W0 w → a.defers = D → a.tmps.size = N → (∀ t, t < N → ((∃ j, j < n ∧ dstOf ops j = some t) ∨ ∀ j, j < n → dstOf ops j ≠ some t) → ψ t w (a.tmps.getD t undef)) → wpList P ops Q (l.drop n) a w) :
    ∀ (fuel : Nat) (listed : Array Bool) (a : Act) (w : World), HeadInv md ops n listed → (listed.toList.take n).count false = fuel → GrowT ops N n ψ W0 D listed a w → wpAny P md ops Q (fuel + (ops.size - n)) listed a w := by
  intro fuel
  induction fuel with
  | zero =>
    intro listed a w inv hcount hI
    have hall := heads_all (by have := inv.size; omega) hcount
    rw [Nat.zero_add, heads_end inv hn hall]
    have hd : (l.drop n).length = ops.size - n := by rw [hl]; simp
    have := wpAny_of_seq (P := P) (md := md) (ops := ops) (Q' := Q) (l.drop n) n (Array.replicate n true ++ Array.replicate (ops.size - n) false) a w (fun j => by rw [hl]; simp [List.getElem?_drop]) (by rw [hd]; exact hseq)
      (hend a w hI.bel hI.def_ hI.size fun t ht h => by
        rcases h with ⟨j, hj, e⟩ | h
        · exact hI.out j t hj e (hall j hj)
        · exact hI.inp t ht h)
    rwa [hd] at this
  | succ fuel ih =>
    intro listed a w inv hcount hI
    rw [Nat.succ_add]
    obtain ⟨j, hj, hjl⟩ := head_some (listed := listed) (n := n) (by omega)
    obtain ⟨r, _, hr⟩ := heads_readyC hB hn inv.size j hj hjl
    refine ⟨fun h0 => absurd h0 (List.ne_nil_of_mem hr), fun i hi => ?_⟩
    have hin : i < n := Nat.lt_of_not_le fun h => tail_waits hs hc hn inv _ j rfl hj (getD_in (by have := inv.size; omega) hjl) i h hi
    obtain ⟨h0, o, ho, hall⟩ := mem_ready.1 hi
    obtain ⟨g1, g2, g3, g4⟩ := growTC_at hB hin ho
    have his := (Array.getElem?_eq_some_iff.1 ho).1
    have hlt : i < listed.size := by have := inv.size; omega
    have h0' := getD_both h0
    unfold wpOp
    rw [ho]
    have hw : Region.wanted o (yielded ops a.tmps) = true := by simp [Region.wanted, g1]
    simp only [hw, if_true]
    refine Or.inl (Oper.wp_mono (fun a' w' h => ?_) (hstep i o hin ho a w hI.bel hI.size fun t ht => ?_))
    · obtain ⟨v, rfl, hb, hv⟩ := h
      refine ih _ _ _ (inv.set hi hin) (by have := count_heads hin hlt h0'; omega) ⟨bel_to hI.bel hb, by rw [put_defers]; exact hI.def_, by rw [put_size]; exact hI.size, fun t ht hno => ?_, fun j t hjn hj hl => ?_⟩
      · have hd : o.dst ≠ some t := fun e => hno i hin (by unfold dstOf; rw [ho]; exact e)
        rw [getD_put_ne hd]
        exact hst t w w' _ hb (hI.inp t ht hno)
      · by_cases e : j = i
        · subst e
          have hd : o.dst = some t := by unfold dstOf at hj; rw [ho] at hj; exact hj
          rw [hd, getD_put_same (by rw [hI.size]; exact (g2 t hd).1)]
          exact hv t hd
        · have hd : o.dst ≠ some t := fun e2 => (g2 t e2).2 j e hj
          rw [getD_put_ne hd]
          refine hst t w w' _ hb (hI.out j t hjn hj ?_)
          simpa [Array.getD_eq_getD_getElem?, Array.getElem?_setIfInBounds, Ne.symm e] using hl
    · obtain ⟨g5, g6⟩ := g3 t ht
      by_cases h : ∃ j, j < n ∧ dstOf ops j = some t
      · obtain ⟨j, hjn, hj⟩ := h
        obtain ⟨e, he, e1, e2⟩ := g6 j hjn hj
        have h7 := hall e he e2
        have h8 := g4 e he e2
        rw [e1] at h7 h8
        exact hI.out j t (by omega) hj h7
      · exact hI.inp t g5 fun j hjn e => h ⟨j, hjn, e⟩
theorem region_grow_tailC {id : Nat} {a : Act} {w : World} {l : List Oper} {ψ : Nat → World → Value → Prop} (N n : Nat) (hm : P.follows .mixedOrders = true) (hB : growTC .any l.toArray N n = true)
    (hs : Region.sinkB .any l.toArray n = true) (hc : Region.chainB .any l.toArray n = true) (hn : n < l.toArray.size)
    (hseq : Region.seqB .any l.toArray (l.toArray.size - n) n (Array.replicate n true ++ Array.replicate (l.toArray.size - n) false) = true) (hst : ∀ t w w' v, Below w.heap.size w w' → ψ t w v → ψ t w' v)
    (hN : a.tmps.size = N) (h0 : ∀ t, t < N → ((l.take n).any fun o => o.dst == some t) = false → ψ t w (a.tmps.getD t undef))
    (hstep : ∀ o ∈ l.take n, ∀ (a : Act) (w' : World), Below w.heap.size w w' → a.tmps.size = N → (∀ t, Operand.tmp t ∈ o.op.operands → ψ t w' (a.tmps.getD t undef)) → Oper.wp P o a w' (fun a' w2 => ∃ v, a' = a.put o.dst v ∧ Below w'.heap.size w' w2 ∧ ∀ d, o.dst = some d → ψ d w2 v) Q)
    (hend : ∀ (a' : Act) (w' : World), Below w.heap.size w w' → a'.defers = a.defers → a'.tmps.size = N → (∀ t, t < N → ψ t w' (a'.tmps.getD t undef)) → wpList P l.toArray Q (l.drop n) a' w') :
    (Code.region id l.toArray true).wp P Q a w := by
  have hdr : Below w.heap.size w { w with drawn := w.drawn + 1 } := RowKit.Below.drew (Below.refl _ _)
  have hsz : n + (l.toArray.size - n) = l.toArray.size := by omega
  have key := wpAny_growTC (P := P) (ops := l.toArray) (Q := Q) (md := .any) (N := N) (n := n) (ψ := ψ) (W0 := w) (D := a.defers) l rfl hB hs hc hn hseq hst
    (fun i o hi ho => hstep o (by
      have h2 : l[i]? = some o := by simpa using ho
      exact List.mem_of_getElem? (i := i) (by rw [List.getElem?_take, if_pos hi]; exact h2)))
    (fun a' w' h1 h2 h3 h4 => hend a' w' h1 h2 h3 fun t ht => h4 t ht (by
      by_cases h : ∃ j, j < n ∧ dstOf l.toArray j = some t
      · exact Or.inl h
      · exact Or.inr fun j hj e => h ⟨j, hj, e⟩))
    n (Array.replicate l.toArray.size false) a { w with drawn := w.drawn + 1 }
    ⟨by simp, fun j oj _ h2 => (by rw [getD_replicate_false] at h2; cases h2), fun t _ h2 => getD_in (by simpa using h2) (getD_replicate_false _ _)⟩
    (by
      rw [Array.toList_replicate, List.take_replicate, List.count_replicate_self]
      have : n < l.length := by simpa using hn
      simp; omega)
    ⟨hdr, rfl, hN, fun t ht hno => hst t _ _ _ hdr (h0 t ht (by
      rw [List.any_eq_false]
      intro o ho e
      obtain ⟨j, hj, rfl⟩ := List.mem_iff_getElem.1 ho
      have hj2 : j < n ∧ j < l.length := by simp at hj; omega
      refine hno j hj2.1 ?_
      unfold dstOf
      simp only [List.getElem?_toArray, List.getElem?_eq_getElem hj2.2, Option.bind_some]
      rw [List.getElem_take] at e
      exact eq_of_beq e)), fun j t _ _ hl => (by rw [getD_replicate_false] at hl; cases hl)⟩
  rw [hsz] at key
  exact wp_region_any hm key
end
end Go.Proofs.YtellemlhhlafcaaGreatDoor
end
section
namespace Go.Proofs.YtellemlhhlafcaaGreatDoor
open Go Go.RowKit Go.Deep Go.Sort
def SlNew (W : World) (t : TypeId) (xs : List Value) (w : World) (v : Value) : Prop := ∃ g, v = .slice (some ⟨g, 0, none⟩) 1 1 ∧ W.heap.size ≤ g ∧ Row w g t xs
theorem SlNew.below {W : World} {t : TypeId} {xs : List Value} {w w' : World} {v : Value} (hb : Below w.heap.size w w') (h : SlNew W t xs w v) : SlNew W t xs w' v := by
  obtain ⟨g, e, h1, h2⟩ := h
  exact ⟨g, e, h1, h2.below' hb⟩
theorem SlNew.new {W w' : World} {t : TypeId} {xs : List Value} (hb : Below W.heap.size W w') : SlNew W t xs (w'.alloc (.cells xs.toArray t (0, 0))) (.slice (some ⟨w'.heap.size, 0, none⟩) 1 1) := ⟨_, rfl, hb.size, rnw⟩
theorem srcK_row {w : World} {g : Nat} {d : M.Dk} (h : Row w g 127 [.string (bs (M.R d.x)), .string (bs (M.R d.y)), .string (bs (M.R d.s))]) (j : Nat) (u : Value) (hu : (csK [d])[j]? = some u) : w.cell? ((⟨g, 0, none⟩ : Addr).add j) = some u := by
  have hadd : (⟨g, 0, none⟩ : Addr).add j = ⟨g, j, none⟩ := by unfold Addr.add; split <;> simp_all
  rw [hadd]
  exact h.cell (by simpa [csK] using hu)
namespace W
open M
attribute [local go_sem] bs_size bs_toList bs_get bs_extract bs_append bs_lit0 bs_lit1 lit1_bs
set_option maxHeartbeats 1000000
set_option maxRecDepth 20000
theorem tzones (vt vc : Value) (ts : List To) (cs : List Cc) (w : World) (hg : Glob w) (ht : RdTL w vt ts) (hc : RdC w vc cs) (h : RtR ts cs) :
    Calls Tryz.prog 295 #[trV vt vc] w (fun e w' => ∃ v, e = .returned (.tuple #[v, .int .i64 0]) ∧ OwnK w' w.heap.size v ((ts.zip cs).map dkT) ∧ Below w.heap.size w w') := by
  have hlen := h.len
  have HP := Lib.hid (fun i (hi : i < ts.length) (hj : i < cs.length) W => tplay ts[i] cs[i] W (h.ok i hi hj))
  have HO := Lib.hid (fun i (hi : i < ts.length) (hj : i < cs.length) W (hW : Below w.heap.size w W) => show Calls Tryz.prog 91 #[.int .i64 (plyT (ts[i], cs[i]) * plyT (ts[i], cs[i])), .int .i64 4] W (Ret W (.tuple #[.string (bs (R (dkT (ts[i], cs[i])).s)), .int .i64 0])) from by
    have hr := ply_sq (h.ok i hi hj).ply
    have := ratOf (plyT (ts[i], cs[i]) * plyT (ts[i], cs[i])) 4 W (hg.of hW) (by omega) (by decide) (by decide)
    rw [Rat.divInt_eq_div, show ((4 : Int) : Rat) = 4 from rfl] at this
    exact this)
  have HX := Lib.hid (fun i (hi : i < ts.length) (hj : i < cs.length) W (hW : Below w.heap.size w W) => show Calls Tryz.prog 93 #[.int .i64 (ts[i].x - cs[i].x)] W (Ret W (.string (bs (R (dkT (ts[i], cs[i])).x)))) from by
    have hr := h.ok i hi hj
    have q1 := hr.x
    have q3 := hr.c.x
    simp only at q1 q3
    exact ratWhole _ W (hg.of hW) (by omega) (by omega))
  have HY := Lib.hid (fun i (hi : i < ts.length) (hj : i < cs.length) W (hW : Below w.heap.size w W) => show Calls Tryz.prog 93 #[.int .i64 (ts[i].y - cs[i].y)] W (Ret W (.string (bs (R (dkT (ts[i], cs[i])).y)))) from by
    have hr := h.ok i hi hj
    have q1 := hr.y
    have q3 := hr.c.y
    simp only at q1 q3
    exact ratWhole _ W (hg.of hW) (by omega) (by omega))
  have HXY := Lib.hid (fun i (hi : i < ts.length) (hj : i < cs.length) => show wrap64 (ts[i].x - cs[i].x) = ts[i].x - cs[i].x ∧ wrap64 (ts[i].y - cs[i].y) = ts[i].y - cs[i].y ∧ wrap64 (plyT (ts[i], cs[i]) * plyT (ts[i], cs[i])) = plyT (ts[i], cs[i]) * plyT (ts[i], cs[i]) from by
    have hr := h.ok i hi hj
    have q1 := hr.x
    have q2 := hr.y
    have q3 := hr.c.x
    have q4 := hr.c.y
    have q5 := ply_sq hr.ply
    simp only at q1 q2 q3 q4
    exact ⟨IntWalk.wrap64_in _ (by omega), IntWalk.wrap64_in _ (by omega), IntWalk.wrap64_in _ (by omega)⟩)
  have HTK := Lib.hid (fun i (hi : i < ts.length) (hj : i < cs.length) => show ((ts.zip cs).map dkT).take (i + 1) = ((ts.zip cs).map dkT).take i ++ [dkT (ts[i], cs[i])] from by
    rw [List.take_succ_eq_append_getElem (by rw [List.length_map, List.length_zip]; omega)]
    simp)
  have HFU : Hid (((ts.zip cs).map dkT).take ts.length = (ts.zip cs).map dkT) := Lib.hid (List.take_of_length_le (by rw [List.length_map, List.length_zip]; omega))
  have HLT := Lib.hid (fun i (hi : i ≤ ts.length) => show (((ts.zip cs).map dkT).take i).length ≤ 16 from by rw [List.length_take]; have := h.h1; omega)
  have h16 := h.h1
  obtain ⟨At, ct, rfl⟩ := ht.len
  obtain ⟨Ac, cc, rfl⟩ := hc.len
  have hb0 := bel_al w (.cells #[.bool false, .slice At ts.length ct, .slice Ac cs.length cc] 171 (0, 0))
  have HR := Lib.hid (And.intro (rnw (w := w) (t := 171) (xs := [.bool false, .slice At ts.length ct, .slice Ac cs.length cc])) hb0)
  have HT := Lib.hid (And.intro ht hc)
  have HLN := Lib.hid hlen
  have b1 := HR.out.1.cell (i := 1) rfl
  clear ht hc h hb0 hlen hg
  generalize (ts.zip cs).map dkT = dl at *
  unfold trV
  go_enter Tryz.func295, Tryz.ntmps295
  go_wp2
  go_loopw [4, 15] (fun ov iv wr => ∃ (i : Nat) (vo : Value), iv = .int .i64 (i : Int) ∧ ov = vo ∧ i ≤ ts.length ∧ Hid (Row wr w.heap.size 171 [.bool false, .slice At ts.length ct, .slice Ac cs.length cc] ∧ OwnK wr (w.heap.size + 1) vo (dl.take i) ∧ Below w.heap.size w wr)) (fun _ iv _ => ts.length - (intOf iv).toNat)
  case atStart => exact ⟨0, _, rfl, rfl, by omega, Lib.hid ⟨HR.out.1, by rw [List.take_zero]; exact OwnK.nil _ _, HR.out.2⟩⟩
  case round =>
    clear b1 HR
    obtain ⟨i, vo, rfl, e4, hi, hk⟩ := hrel
    obtain ⟨VA, vn, vc, hv⟩ := hk.out.2.1.shape
    subst hv
    subst e4
    by_cases hlt : i < ts.length
    · have hj : i < cs.length := by have := HLN.out; omega
      obtain ⟨bt, ot, rfl, hst⟩ := RdTL.row (n := ts.length) (HT.out.1.below hk.out.2.2) i hlt
      obtain ⟨bc, oc, rfl, hsc⟩ := RdC.row (n := cs.length) (HT.out.2.below hk.out.2.2) i hj
      obtain ⟨t0, t1, t2, t3⟩ := hst.val i hlt
      have hi0 : (0 : Int) ≤ (i : Int) := by omega
      have hi1 : (i : Int) < (ts.length : Int) := by omega
      have hi2 : (i : Int) < (cs.length : Int) := by have := HLN.out; omega
      have HI := Lib.hid (HP.out i hlt hj)
      have HO1 := Lib.hid (HO.out i hlt hj)
      have HX1 := Lib.hid (HX.out i hlt hj)
      have HY1 := Lib.hid (HY.out i hlt hj)
      obtain ⟨hx1, hx2, hx3⟩ := HXY.out i hlt hj
      have hy1 := (IntWalk.i64_left _).trans hx1
      have hy2 := (IntWalk.i64_left _).trans hx2
      have HTK1 := Lib.hid (HTK.out i hlt hj)
      have HLT1 := Lib.hid (HLT.out i (by omega))
      have HCC := Lib.hid (fun W (hW : Below wr.heap.size wr W) => (hsc.below' hW).val i hj)
      clear hst hsc
      unfold toV ccV at HI
      generalize dkT (ts[i], cs[i]) = dd at *
      generalize plyT (ts[i], cs[i]) = pl at *
      generalize ts[i].x = tx at *
      generalize ts[i].y = ty at *
      generalize ts[i].hole = th at *
      generalize ts[i].n = tn at *
      generalize cs[i].x = cx at *
      generalize cs[i].y = cy at *
      generalize cs[i].d = cd at *
      have hal := bel_al wr (.cells #[.int .i64 tx, .int .i64 ty, .bool th, .int .i64 tn] 67 (0, 0))
      have hrt : Row (wr.alloc (.cells #[.int .i64 tx, .int .i64 ty, .bool th, .int .i64 tn] 67 (0, 0))) wr.heap.size 67 [.int .i64 tx, .int .i64 ty, .bool th, .int .i64 tn] := rnw
      have H1 := Lib.hid (And.intro (hk.out.1.below' hal) (And.intro (hk.out.2.1.below hal) (And.intro (bel_to hk.out.2.2 hal) hrt)))
      have HC1 := Lib.hid (fun W (hW : Below (wr.alloc (.cells #[.int .i64 tx, .int .i64 ty, .bool th, .int .i64 tn] 67 (0, 0))).heap.size (wr.alloc (.cells #[.int .i64 tx, .int .i64 ty, .bool th, .int .i64 tn] 67 (0, 0))) W) => HCC.out W (bel_to hal hW))
      clear hal hrt hk HCC HP HO HX HY HXY HTK HLT
      have e1 : ∀ args w, (callFunc 291 args).run Tryz.prog w = .ok (.enter 291 args) w := enters_of Tryz.func291 (by kernel_rfl) rfl
      have e2 : ∀ args w, (callFunc 93 args).run Tryz.prog w = .ok (.enter 93 args) w := enters_of Tryz.func93 (by kernel_rfl) rfl
      go_wp2_with fail
      clear t0 t1 t2 t3
      generalize wr.alloc (.cells #[.int .i64 tx, .int .i64 ty, .bool th, .int .i64 tn] 67 (0, 0)) = W at *
      generalize wr.heap.size = gt at *
      have HCL := Lib.hid (fun V (hV : Below W.heap.size W V) => And.intro ((H1.out.1.below' hV).cell (i := 2) rfl) (And.intro ((H1.out.2.2.2.below' hV).cell (i := 0) rfl) (And.intro ((H1.out.2.2.2.below' hV).cell (i := 1) rfl) (And.intro ((H1.out.2.2.2.below' hV).cell (i := 2) rfl) (And.intro ((H1.out.2.2.2.below' hV).cell (i := 3) rfl) (HC1.out V hV))))))
      refine region_grow_tail (ψ := psi [(0, .agg #[.bool false, .slice (some ⟨bt, ot, none⟩) ts.length ct, .slice (some ⟨bc, oc, none⟩) cs.length cc]), (1, .pointer (some ⟨w.heap.size, 0, none⟩)), (4, .slice VA vn vc), (5, .int .i64 (i : Int)), (6, .pointer (some ⟨gt, 0, none⟩)), (11, .pointer (some ⟨w.heap.size, 0, none⟩)), (12, .pointer (some ⟨w.heap.size, 1, none⟩)), (13, .slice (some ⟨bt, ot, none⟩) ts.length ct), (14, .int .i64 (ts.length : Int)), (15, .int .i64 (i : Int)), (67, undef), (7, .int .i64 pl), (20, .agg #[.int .i64 tx, .int .i64 ty, .bool th, .int .i64 tn]), (21, .pointer (some ⟨w.heap.size, 0, none⟩)), (22, .pointer (some ⟨w.heap.size, 2, none⟩)), (23, .slice (some ⟨bc, oc, none⟩) cs.length cc), (24, .int .i64 (i : Int)), (25, .pointer (some ⟨bc, oc + i * 3, none⟩)), (26, .agg #[.int .i64 cx, .int .i64 cy, .int .i64 cd]), (27, .int .i64 pl), (28, .pointer (some ⟨w.heap.size, 0, none⟩)), (29, .pointer (some ⟨w.heap.size, 2, none⟩)), (30, .slice (some ⟨bc, oc, none⟩) cs.length cc), (31, .int .i64 (i : Int)), (32, .pointer (some ⟨bc, oc + i * 3, none⟩)), (33, .agg #[.int .i64 cx, .int .i64 cy, .int .i64 cd])] [(8, AtNew W 30 [.int .i64 0, .int .i64 0, .int .i64 0])]) 68 16 (by kernel_rfl) (by kernel_rfl) (by kernel_rfl) (by kernel_rfl) (by decide) (by kernel_rfl) (psi_st ?_) rfl ?_ ?_ ?_
      · intro p hp w w' v hb h
        simp only [List.mem_cons, List.not_mem_nil, or_false] at hp
        rcases hp with rfl
        all_goals exact AtNew.below hb h
      · intro t ht hno
        unfold psi
        split
        · rename_i c hc
          have hm := lookup_mem hc
          simp only [List.mem_cons, List.not_mem_nil, or_false, Prod.mk.injEq] at hm
          repeat' (rcases hm with ⟨rfl, rfl⟩ | hm)
          all_goals first
            | rfl
            | exact Bool.noConfusion (show true = false from hno)
            | (obtain ⟨rfl, rfl⟩ := hm; first | rfl | exact Bool.noConfusion (show true = false from hno))
        · split
          · rename_i p hp
            have hm := lookup_mem hp
            simp only [List.mem_cons, List.not_mem_nil, or_false, Prod.mk.injEq] at hm
            repeat' (rcases hm with ⟨rfl, rfl⟩ | hm)
            all_goals first
              | exact Bool.noConfusion (show true = false from hno)
              | (obtain ⟨rfl, rfl⟩ := hm; exact Bool.noConfusion (show true = false from hno))
          · trivial
      · simp only [List.take_succ_cons, List.take_zero]
        repeat' (first | exact List.forall_mem_nil _ | refine List.forall_mem_cons.2 ⟨?_, ?_⟩)
        · intro a w' hb hN hpre
          have h6 : a.tmps.getD 6 undef = (.pointer (some ⟨gt, 0, none⟩) : Value) := hpre 6 (by simp [Op.operands])
          obtain ⟨b2, x0, x1, x2, x3, c0, c1, c2⟩ := HCL.out w' hb
          exact step_val (v := .agg #[.int .i64 tx, .int .i64 ty, .bool th, .int .i64 tn]) rfl (by simp only [execOp, Act.eval, h6]; go_simp) rfl
        · intro a w' hb hN hpre
          have h1 : a.tmps.getD 1 undef = (.pointer (some ⟨w.heap.size, 0, none⟩) : Value) := hpre 1 (by simp [Op.operands])
          exact step_val (v := .pointer (some ⟨w.heap.size, 0, none⟩)) rfl (by simp only [execOp, Act.eval, h1]; go_simp) rfl
        · intro a w' hb hN hpre
          have h21 : a.tmps.getD 21 undef = (.pointer (some ⟨w.heap.size, 0, none⟩) : Value) := hpre 21 (by simp [Op.operands])
          exact step_val (v := .pointer (some ⟨w.heap.size, 2, none⟩)) rfl (by simp only [execOp, Act.eval, h21]; go_simp) rfl
        · intro a w' hb hN hpre
          have h22 : a.tmps.getD 22 undef = (.pointer (some ⟨w.heap.size, 2, none⟩) : Value) := hpre 22 (by simp [Op.operands])
          obtain ⟨b2, x0, x1, x2, x3, c0, c1, c2⟩ := HCL.out w' hb
          exact step_val (v := .slice (some ⟨bc, oc, none⟩) cs.length cc) rfl (by simp only [execOp, Act.eval, h22]; go_simp) rfl
        · intro a w' hb hN hpre
          have h5 : a.tmps.getD 5 undef = (.int .i64 (i : Int) : Value) := hpre 5 (by simp [Op.operands])
          exact step_val (v := .int .i64 (i : Int)) rfl (by rw [← h5]; rfl) rfl
        · intro a w' hb hN hpre
          have h23 : a.tmps.getD 23 undef = (.slice (some ⟨bc, oc, none⟩) cs.length cc : Value) := hpre 23 (by simp [Op.operands])
          have h24 : a.tmps.getD 24 undef = (.int .i64 (i : Int) : Value) := hpre 24 (by simp [Op.operands])
          exact step_val (v := .pointer (some ⟨bc, oc + i * 3, none⟩)) rfl (by simp only [execOp, Act.eval, h23, h24]; go_simp) rfl
        · intro a w' hb hN hpre
          have h25 : a.tmps.getD 25 undef = (.pointer (some ⟨bc, oc + i * 3, none⟩) : Value) := hpre 25 (by simp [Op.operands])
          obtain ⟨b2, x0, x1, x2, x3, c0, c1, c2⟩ := HCL.out w' hb
          exact step_val (v := .agg #[.int .i64 cx, .int .i64 cy, .int .i64 cd]) rfl (by simp only [execOp, Act.eval, h25]; go_simp) rfl
        · intro a w' hb hN hpre
          have h20 : a.tmps.getD 20 undef = (.agg #[.int .i64 tx, .int .i64 ty, .bool th, .int .i64 tn] : Value) := hpre 20 (by simp [Op.operands, Call.operands])
          have h26 : a.tmps.getD 26 undef = (.agg #[.int .i64 cx, .int .i64 cy, .int .i64 cd] : Value) := hpre 26 (by simp [Op.operands, Call.operands])
          exact step_call (f := 291) rfl (by simp only [execOp]; go_simp) (psi_ret (HI.out w') (fun _ => rfl))
        · intro a w' hb hN hpre
          have h1 : a.tmps.getD 1 undef = (.pointer (some ⟨w.heap.size, 0, none⟩) : Value) := hpre 1 (by simp [Op.operands])
          exact step_val (v := .pointer (some ⟨w.heap.size, 0, none⟩)) rfl (by simp only [execOp, Act.eval, h1]; go_simp) rfl
        · intro a w' hb hN hpre
          have h28 : a.tmps.getD 28 undef = (.pointer (some ⟨w.heap.size, 0, none⟩) : Value) := hpre 28 (by simp [Op.operands])
          exact step_val (v := .pointer (some ⟨w.heap.size, 2, none⟩)) rfl (by simp only [execOp, Act.eval, h28]; go_simp) rfl
        · intro a w' hb hN hpre
          have h29 : a.tmps.getD 29 undef = (.pointer (some ⟨w.heap.size, 2, none⟩) : Value) := hpre 29 (by simp [Op.operands])
          obtain ⟨b2, x0, x1, x2, x3, c0, c1, c2⟩ := HCL.out w' hb
          exact step_val (v := .slice (some ⟨bc, oc, none⟩) cs.length cc) rfl (by simp only [execOp, Act.eval, h29]; go_simp) rfl
        · intro a w' hb hN hpre
          have h5 : a.tmps.getD 5 undef = (.int .i64 (i : Int) : Value) := hpre 5 (by simp [Op.operands])
          exact step_val (v := .int .i64 (i : Int)) rfl (by rw [← h5]; rfl) rfl
        · intro a w' hb hN hpre
          have h30 : a.tmps.getD 30 undef = (.slice (some ⟨bc, oc, none⟩) cs.length cc : Value) := hpre 30 (by simp [Op.operands])
          have h31 : a.tmps.getD 31 undef = (.int .i64 (i : Int) : Value) := hpre 31 (by simp [Op.operands])
          exact step_val (v := .pointer (some ⟨bc, oc + i * 3, none⟩)) rfl (by simp only [execOp, Act.eval, h30, h31]; go_simp) rfl
        · intro a w' hb hN hpre
          have h32 : a.tmps.getD 32 undef = (.pointer (some ⟨bc, oc + i * 3, none⟩) : Value) := hpre 32 (by simp [Op.operands])
          obtain ⟨b2, x0, x1, x2, x3, c0, c1, c2⟩ := HCL.out w' hb
          exact step_val (v := .agg #[.int .i64 cx, .int .i64 cy, .int .i64 cd]) rfl (by simp only [execOp, Act.eval, h32]; go_simp) rfl
        · intro a w' hb hN hpre
          exact step_grow (w1 := w'.alloc (.cells #[.int .i64 0, .int .i64 0, .int .i64 0] 30 (0, 0))) (v := .pointer (some ⟨w'.heap.size, 0, none⟩)) rfl (by go_simp) (bel_al _ _) (AtNew.new hb)
        · intro a w' hb hN hpre
          have h27 : a.tmps.getD 27 undef = (.int .i64 pl : Value) := hpre 27 (by simp [Op.operands])
          exact step_val (v := .int .i64 pl) rfl (by rw [← h27]; rfl) rfl
      · intro a' w' hb hd hN hpre
        have h0 : a'.tmps.getD 0 undef = (.agg #[.bool false, .slice (some ⟨bt, ot, none⟩) ts.length ct, .slice (some ⟨bc, oc, none⟩) cs.length cc] : Value) := hpre 0 (by decide)
        have h1 : a'.tmps.getD 1 undef = (.pointer (some ⟨w.heap.size, 0, none⟩) : Value) := hpre 1 (by decide)
        have h4 : a'.tmps.getD 4 undef = (.slice VA vn vc : Value) := hpre 4 (by decide)
        have h5 : a'.tmps.getD 5 undef = (.int .i64 (i : Int) : Value) := hpre 5 (by decide)
        have h6 : a'.tmps.getD 6 undef = (.pointer (some ⟨gt, 0, none⟩) : Value) := hpre 6 (by decide)
        have h7 : a'.tmps.getD 7 undef = (.int .i64 pl : Value) := hpre 7 (by decide)
        have h11 : a'.tmps.getD 11 undef = (.pointer (some ⟨w.heap.size, 0, none⟩) : Value) := hpre 11 (by decide)
        have h12 : a'.tmps.getD 12 undef = (.pointer (some ⟨w.heap.size, 1, none⟩) : Value) := hpre 12 (by decide)
        have h13 : a'.tmps.getD 13 undef = (.slice (some ⟨bt, ot, none⟩) ts.length ct : Value) := hpre 13 (by decide)
        have h14 : a'.tmps.getD 14 undef = (.int .i64 (ts.length : Int) : Value) := hpre 14 (by decide)
        have h15 : a'.tmps.getD 15 undef = (.int .i64 (i : Int) : Value) := hpre 15 (by decide)
        have h20 : a'.tmps.getD 20 undef = (.agg #[.int .i64 tx, .int .i64 ty, .bool th, .int .i64 tn] : Value) := hpre 20 (by decide)
        have h21 : a'.tmps.getD 21 undef = (.pointer (some ⟨w.heap.size, 0, none⟩) : Value) := hpre 21 (by decide)
        have h22 : a'.tmps.getD 22 undef = (.pointer (some ⟨w.heap.size, 2, none⟩) : Value) := hpre 22 (by decide)
        have h23 : a'.tmps.getD 23 undef = (.slice (some ⟨bc, oc, none⟩) cs.length cc : Value) := hpre 23 (by decide)
        have h24 : a'.tmps.getD 24 undef = (.int .i64 (i : Int) : Value) := hpre 24 (by decide)
        have h25 : a'.tmps.getD 25 undef = (.pointer (some ⟨bc, oc + i * 3, none⟩) : Value) := hpre 25 (by decide)
        have h26 : a'.tmps.getD 26 undef = (.agg #[.int .i64 cx, .int .i64 cy, .int .i64 cd] : Value) := hpre 26 (by decide)
        have h27 : a'.tmps.getD 27 undef = (.int .i64 pl : Value) := hpre 27 (by decide)
        have h28 : a'.tmps.getD 28 undef = (.pointer (some ⟨w.heap.size, 0, none⟩) : Value) := hpre 28 (by decide)
        have h29 : a'.tmps.getD 29 undef = (.pointer (some ⟨w.heap.size, 2, none⟩) : Value) := hpre 29 (by decide)
        have h30 : a'.tmps.getD 30 undef = (.slice (some ⟨bc, oc, none⟩) cs.length cc : Value) := hpre 30 (by decide)
        have h31 : a'.tmps.getD 31 undef = (.int .i64 (i : Int) : Value) := hpre 31 (by decide)
        have h32 : a'.tmps.getD 32 undef = (.pointer (some ⟨bc, oc + i * 3, none⟩) : Value) := hpre 32 (by decide)
        have h33 : a'.tmps.getD 33 undef = (.agg #[.int .i64 cx, .int .i64 cy, .int .i64 cd] : Value) := hpre 33 (by decide)
        have h67 : a'.tmps.getD 67 undef = (undef : Value) := hpre 67 (by decide)
        obtain ⟨g8, h8, hge8, hrow8⟩ : (AtNew W 30 [.int .i64 0, .int .i64 0, .int .i64 0]) w' (a'.tmps.getD 8 undef) := hpre 8 (by decide)
        obtain ⟨⟨f0, m0⟩, ⟨f1, m1⟩, ⟨f2, m2⟩, hrow⟩ := three_store (.int .i64 cx) (.int .i64 cy) (.int .i64 cd) hrow8
        have hb2 := three_below (.int .i64 cx) (.int .i64 cy) (.int .i64 cd) hb hge8
        simp only [List.drop_succ_cons, List.drop_zero]
        refine wpList_store (w1 := ((w'.setCell ⟨g8, 0, none⟩ (.int .i64 cx)).setCell ⟨g8, 1, none⟩ (.int .i64 cy)).setCell ⟨g8, 2, none⟩ (.int .i64 cd)) rfl rfl (by simp only [execOp, Act.eval, h8, h33]; go_simp) ?_
        obtain ⟨tm, df⟩ := a'
        simp only at hd hN hpre h0 h1 h4 h5 h6 h7 h8 h11 h12 h13 h14 h15 h20 h21 h22 h23 h24 h25 h26 h27 h28 h29 h30 h31 h32 h33 h67
        subst hd
        have htm : tm = #[tm.getD 0 undef, tm.getD 1 undef, tm.getD 2 undef, tm.getD 3 undef, tm.getD 4 undef, tm.getD 5 undef, tm.getD 6 undef, tm.getD 7 undef, tm.getD 8 undef, tm.getD 9 undef, tm.getD 10 undef, tm.getD 11 undef, tm.getD 12 undef, tm.getD 13 undef, tm.getD 14 undef, tm.getD 15 undef, tm.getD 16 undef, tm.getD 17 undef, tm.getD 18 undef, tm.getD 19 undef, tm.getD 20 undef, tm.getD 21 undef, tm.getD 22 undef, tm.getD 23 undef, tm.getD 24 undef, tm.getD 25 undef, tm.getD 26 undef, tm.getD 27 undef, tm.getD 28 undef, tm.getD 29 undef, tm.getD 30 undef, tm.getD 31 undef, tm.getD 32 undef, tm.getD 33 undef, tm.getD 34 undef, tm.getD 35 undef, tm.getD 36 undef, tm.getD 37 undef, tm.getD 38 undef, tm.getD 39 undef, tm.getD 40 undef, tm.getD 41 undef, tm.getD 42 undef, tm.getD 43 undef, tm.getD 44 undef, tm.getD 45 undef, tm.getD 46 undef, tm.getD 47 undef, tm.getD 48 undef, tm.getD 49 undef, tm.getD 50 undef, tm.getD 51 undef, tm.getD 52 undef, tm.getD 53 undef, tm.getD 54 undef, tm.getD 55 undef, tm.getD 56 undef, tm.getD 57 undef, tm.getD 58 undef, tm.getD 59 undef, tm.getD 60 undef, tm.getD 61 undef, tm.getD 62 undef, tm.getD 63 undef, tm.getD 64 undef, tm.getD 65 undef, tm.getD 66 undef, tm.getD 67 undef] := (tmps_lit hN).trans (by kernel_rfl)
        simp only [h0, h1, h4, h5, h6, h7, h8, h11, h12, h13, h14, h15, h20, h21, h22, h23, h24, h25, h26, h27, h28, h29, h30, h31, h32, h33, h67] at htm
        clear hpre hN h0 h1 h4 h5 h6 h7 h8 h11 h12 h13 h14 h15 h20 h21 h22 h23 h24 h25 h26 h27 h28 h29 h30 h31 h32 h33 h67
        generalize tm.getD 2 undef = u2 at htm
        generalize tm.getD 3 undef = u3 at htm
        generalize tm.getD 9 undef = u9 at htm
        generalize tm.getD 10 undef = u10 at htm
        generalize tm.getD 16 undef = u16 at htm
        generalize tm.getD 17 undef = u17 at htm
        generalize tm.getD 18 undef = u18 at htm
        generalize tm.getD 19 undef = u19 at htm
        generalize tm.getD 34 undef = u34 at htm
        generalize tm.getD 35 undef = u35 at htm
        generalize tm.getD 36 undef = u36 at htm
        generalize tm.getD 37 undef = u37 at htm
        generalize tm.getD 38 undef = u38 at htm
        generalize tm.getD 39 undef = u39 at htm
        generalize tm.getD 40 undef = u40 at htm
        generalize tm.getD 41 undef = u41 at htm
        generalize tm.getD 42 undef = u42 at htm
        generalize tm.getD 43 undef = u43 at htm
        generalize tm.getD 44 undef = u44 at htm
        generalize tm.getD 45 undef = u45 at htm
        generalize tm.getD 46 undef = u46 at htm
        generalize tm.getD 47 undef = u47 at htm
        generalize tm.getD 48 undef = u48 at htm
        generalize tm.getD 49 undef = u49 at htm
        generalize tm.getD 50 undef = u50 at htm
        generalize tm.getD 51 undef = u51 at htm
        generalize tm.getD 52 undef = u52 at htm
        generalize tm.getD 53 undef = u53 at htm
        generalize tm.getD 54 undef = u54 at htm
        generalize tm.getD 55 undef = u55 at htm
        generalize tm.getD 56 undef = u56 at htm
        generalize tm.getD 57 undef = u57 at htm
        generalize tm.getD 58 undef = u58 at htm
        generalize tm.getD 59 undef = u59 at htm
        generalize tm.getD 60 undef = u60 at htm
        generalize tm.getD 61 undef = u61 at htm
        generalize tm.getD 62 undef = u62 at htm
        generalize tm.getD 63 undef = u63 at htm
        generalize tm.getD 64 undef = u64 at htm
        generalize tm.getD 65 undef = u65 at htm
        generalize tm.getD 66 undef = u66 at htm
        subst htm
        have H2 := Lib.hid (And.intro (H1.out.1.below' hb2) (And.intro (H1.out.2.1.below hb2) (And.intro (bel_to H1.out.2.2.1 hb2) (And.intro (H1.out.2.2.2.below' hb2) hrow))))
        clear hb hb2 hrow hrow8 f0 m0 f1 m1 f2 m2 HCL HC1 H1 HI hge8 e1
        generalize ((w'.setCell ⟨g8, 0, none⟩ (.int .i64 cx)).setCell ⟨g8, 1, none⟩ (.int .i64 cy)).setCell ⟨g8, 2, none⟩ (.int .i64 cd) = W2 at *
        clear w'
        go_wp2_with fail
        refine (HO1.out _ H2.out.2.2.1).mono ?_
        rintro e w3 ⟨rfl, hb3⟩
        have H3 := Lib.hid (And.intro (H2.out.1.below' hb3) (And.intro (H2.out.2.1.below hb3) (And.intro (bel_to H2.out.2.2.1 hb3) (And.intro (H2.out.2.2.2.1.below' hb3) (H2.out.2.2.2.2.below' hb3)))))
        clear hb3 H2 HO1
        go_wp2_with fail
        generalize w3 = W at *
        have HCL := Lib.hid (fun V (hV : Below W.heap.size W V) => And.intro ((H3.out.2.2.2.1.below' hV).cell (i := 0) rfl) (And.intro ((H3.out.2.2.2.1.below' hV).cell (i := 1) rfl) (And.intro ((H3.out.2.2.2.2.below' hV).cell (i := 0) rfl) ((H3.out.2.2.2.2.below' hV).cell (i := 1) rfl))))
        refine region_grow_tailC (ψ := psi [(0, .agg #[.bool false, .slice (some ⟨bt, ot, none⟩) ts.length ct, .slice (some ⟨bc, oc, none⟩) cs.length cc]), (1, .pointer (some ⟨w.heap.size, 0, none⟩)), (4, .slice VA vn vc), (5, .int .i64 (i : Int)), (6, .pointer (some ⟨gt, 0, none⟩)), (7, .int .i64 pl), (8, .pointer (some ⟨g8, 0, none⟩)), (9, .string (bs (R dd.s))), (10, .int .i64 0), (11, .pointer (some ⟨w.heap.size, 0, none⟩)), (12, .pointer (some ⟨w.heap.size, 1, none⟩)), (13, .slice (some ⟨bt, ot, none⟩) ts.length ct), (14, .int .i64 (ts.length : Int)), (15, .int .i64 (i : Int)), (67, undef), (44, .slice VA vn vc), (45, .pointer (some ⟨gt, 0, none⟩)), (46, .pointer (some ⟨gt, 0, none⟩)), (47, .int .i64 tx), (48, .pointer (some ⟨g8, 0, none⟩)), (49, .pointer (some ⟨g8, 0, none⟩)), (50, .int .i64 cx), (51, .int .i64 (tx - cx)), (52, .string (bs (R dd.x))), (53, .pointer (some ⟨gt, 0, none⟩)), (54, .pointer (some ⟨gt, 1, none⟩)), (55, .int .i64 ty), (56, .pointer (some ⟨g8, 0, none⟩)), (57, .pointer (some ⟨g8, 1, none⟩)), (58, .int .i64 cy), (59, .int .i64 (ty - cy)), (60, .string (bs (R dd.y))), (61, .agg #[.string (bs (R dd.x)), .string (bs (R dd.y))]), (62, .string (bs (R dd.s))), (63, .agg #[.string (bs (R dd.x)), .string (bs (R dd.y)), .string (bs (R dd.s))])] [(64, SlNew W 127 [.string (bs (R dd.x)), .string (bs (R dd.y)), .string (bs (R dd.s))])]) 68 21 (by kernel_rfl) (by kernel_rfl) (by kernel_rfl) (by kernel_rfl) (by decide) (by kernel_rfl) (psi_st ?_) rfl ?_ ?_ ?_
        · intro p hp w w' v hb h
          simp only [List.mem_cons, List.not_mem_nil, or_false] at hp
          rcases hp with rfl
          all_goals first | exact AtNew.below hb h | exact SlNew.below hb h
        · intro t ht hno
          unfold psi
          split
          · rename_i c hc
            have hm := lookup_mem hc
            simp only [List.mem_cons, List.not_mem_nil, or_false, Prod.mk.injEq] at hm
            repeat' (rcases hm with ⟨rfl, rfl⟩ | hm)
            all_goals first
              | rfl
              | exact Bool.noConfusion (show true = false from hno)
              | (obtain ⟨rfl, rfl⟩ := hm; first | rfl | exact Bool.noConfusion (show true = false from hno))
          · split
            · rename_i p hp
              have hm := lookup_mem hp
              simp only [List.mem_cons, List.not_mem_nil, or_false, Prod.mk.injEq] at hm
              repeat' (rcases hm with ⟨rfl, rfl⟩ | hm)
              all_goals first
                | exact Bool.noConfusion (show true = false from hno)
                | (obtain ⟨rfl, rfl⟩ := hm; exact Bool.noConfusion (show true = false from hno))
            · trivial
        · simp only [List.take_succ_cons, List.take_zero]
          repeat' (first | exact List.forall_mem_nil _ | refine List.forall_mem_cons.2 ⟨?_, ?_⟩)
          · intro a w' hb hN hpre
            have h4 : a.tmps.getD 4 undef = (.slice VA vn vc : Value) := hpre 4 (by simp [Op.operands])
            exact step_val (v := .slice VA vn vc) rfl (by rw [← h4]; rfl) rfl
          · intro a w' hb hN hpre
            have h6 : a.tmps.getD 6 undef = (.pointer (some ⟨gt, 0, none⟩) : Value) := hpre 6 (by simp [Op.operands])
            exact step_val (v := .pointer (some ⟨gt, 0, none⟩)) rfl (by simp only [execOp, Act.eval, h6]; go_simp) rfl
          · intro a w' hb hN hpre
            have h45 : a.tmps.getD 45 undef = (.pointer (some ⟨gt, 0, none⟩) : Value) := hpre 45 (by simp [Op.operands])
            exact step_val (v := .pointer (some ⟨gt, 0, none⟩)) rfl (by simp only [execOp, Act.eval, h45]; go_simp) rfl
          · intro a w' hb hN hpre
            have h46 : a.tmps.getD 46 undef = (.pointer (some ⟨gt, 0, none⟩) : Value) := hpre 46 (by simp [Op.operands])
            obtain ⟨x0, x1, y0, y1⟩ := HCL.out w' hb
            exact step_val (v := .int .i64 tx) rfl (by simp only [execOp, Act.eval, h46]; go_simp) rfl
          · intro a w' hb hN hpre
            have h8 : a.tmps.getD 8 undef = (.pointer (some ⟨g8, 0, none⟩) : Value) := hpre 8 (by simp [Op.operands])
            exact step_val (v := .pointer (some ⟨g8, 0, none⟩)) rfl (by simp only [execOp, Act.eval, h8]; go_simp) rfl
          · intro a w' hb hN hpre
            have h48 : a.tmps.getD 48 undef = (.pointer (some ⟨g8, 0, none⟩) : Value) := hpre 48 (by simp [Op.operands])
            exact step_val (v := .pointer (some ⟨g8, 0, none⟩)) rfl (by simp only [execOp, Act.eval, h48]; go_simp) rfl
          · intro a w' hb hN hpre
            have h49 : a.tmps.getD 49 undef = (.pointer (some ⟨g8, 0, none⟩) : Value) := hpre 49 (by simp [Op.operands])
            obtain ⟨x0, x1, y0, y1⟩ := HCL.out w' hb
            exact step_val (v := .int .i64 cx) rfl (by simp only [execOp, Act.eval, h49]; go_simp) rfl
          · intro a w' hb hN hpre
            have h47 : a.tmps.getD 47 undef = (.int .i64 tx : Value) := hpre 47 (by simp [Op.operands])
            have h50 : a.tmps.getD 50 undef = (.int .i64 cx : Value) := hpre 50 (by simp [Op.operands])
            exact step_val (v := .int .i64 (tx - cx)) rfl (by simp only [execOp, Act.eval, h47, h50]; go_simp) rfl
          · intro a w' hb hN hpre
            have h51 : a.tmps.getD 51 undef = (.int .i64 (tx - cx) : Value) := hpre 51 (by simp [Op.operands, Call.operands])
            exact step_call (f := 93) rfl (by simp only [execOp]; go_simp) (psi_ret (HX1.out w' (bel_to H3.out.2.2.1 hb)) (fun _ => rfl))
          · intro a w' hb hN hpre
            have h6 : a.tmps.getD 6 undef = (.pointer (some ⟨gt, 0, none⟩) : Value) := hpre 6 (by simp [Op.operands])
            exact step_val (v := .pointer (some ⟨gt, 0, none⟩)) rfl (by simp only [execOp, Act.eval, h6]; go_simp) rfl
          · intro a w' hb hN hpre
            have h53 : a.tmps.getD 53 undef = (.pointer (some ⟨gt, 0, none⟩) : Value) := hpre 53 (by simp [Op.operands])
            exact step_val (v := .pointer (some ⟨gt, 1, none⟩)) rfl (by simp only [execOp, Act.eval, h53]; go_simp) rfl
          · intro a w' hb hN hpre
            have h54 : a.tmps.getD 54 undef = (.pointer (some ⟨gt, 1, none⟩) : Value) := hpre 54 (by simp [Op.operands])
            obtain ⟨x0, x1, y0, y1⟩ := HCL.out w' hb
            exact step_val (v := .int .i64 ty) rfl (by simp only [execOp, Act.eval, h54]; go_simp) rfl
          · intro a w' hb hN hpre
            have h8 : a.tmps.getD 8 undef = (.pointer (some ⟨g8, 0, none⟩) : Value) := hpre 8 (by simp [Op.operands])
            exact step_val (v := .pointer (some ⟨g8, 0, none⟩)) rfl (by simp only [execOp, Act.eval, h8]; go_simp) rfl
          · intro a w' hb hN hpre
            have h56 : a.tmps.getD 56 undef = (.pointer (some ⟨g8, 0, none⟩) : Value) := hpre 56 (by simp [Op.operands])
            exact step_val (v := .pointer (some ⟨g8, 1, none⟩)) rfl (by simp only [execOp, Act.eval, h56]; go_simp) rfl
          · intro a w' hb hN hpre
            have h57 : a.tmps.getD 57 undef = (.pointer (some ⟨g8, 1, none⟩) : Value) := hpre 57 (by simp [Op.operands])
            obtain ⟨x0, x1, y0, y1⟩ := HCL.out w' hb
            exact step_val (v := .int .i64 cy) rfl (by simp only [execOp, Act.eval, h57]; go_simp) rfl
          · intro a w' hb hN hpre
            have h55 : a.tmps.getD 55 undef = (.int .i64 ty : Value) := hpre 55 (by simp [Op.operands])
            have h58 : a.tmps.getD 58 undef = (.int .i64 cy : Value) := hpre 58 (by simp [Op.operands])
            exact step_val (v := .int .i64 (ty - cy)) rfl (by simp only [execOp, Act.eval, h55, h58]; go_simp) rfl
          · intro a w' hb hN hpre
            have h59 : a.tmps.getD 59 undef = (.int .i64 (ty - cy) : Value) := hpre 59 (by simp [Op.operands, Call.operands])
            exact step_call (f := 93) rfl (by simp only [execOp]; go_simp) (psi_ret (HY1.out w' (bel_to H3.out.2.2.1 hb)) (fun _ => rfl))
          · intro a w' hb hN hpre
            have h52 : a.tmps.getD 52 undef = (.string (bs (R dd.x)) : Value) := hpre 52 (by simp [Op.operands])
            have h60 : a.tmps.getD 60 undef = (.string (bs (R dd.y)) : Value) := hpre 60 (by simp [Op.operands])
            exact step_val (v := .agg #[.string (bs (R dd.x)), .string (bs (R dd.y))]) rfl (by simp only [execOp, List.map_toArray, List.map_cons, List.map_nil, Act.eval, h52, h60]; go_simp) rfl
          · intro a w' hb hN hpre
            have h9 : a.tmps.getD 9 undef = (.string (bs (R dd.s)) : Value) := hpre 9 (by simp [Op.operands])
            exact step_val (v := .string (bs (R dd.s))) rfl (by rw [← h9]; rfl) rfl
          · intro a w' hb hN hpre
            have h61 : a.tmps.getD 61 undef = (.agg #[.string (bs (R dd.x)), .string (bs (R dd.y))] : Value) := hpre 61 (by simp [Op.operands])
            have h62 : a.tmps.getD 62 undef = (.string (bs (R dd.s)) : Value) := hpre 62 (by simp [Op.operands])
            exact step_val (v := .agg #[.string (bs (R dd.x)), .string (bs (R dd.y)), .string (bs (R dd.s))]) rfl (by simp only [execOp, List.map_toArray, List.map_cons, List.map_nil, Act.eval, h61, h62]; go_simp) rfl
          · intro a w' hb hN hpre
            have h63 : a.tmps.getD 63 undef = (.agg #[.string (bs (R dd.x)), .string (bs (R dd.y)), .string (bs (R dd.s))] : Value) := hpre 63 (by simp [Op.operands])
            exact step_grow (w1 := w'.alloc (.cells #[.string (bs (R dd.x)), .string (bs (R dd.y)), .string (bs (R dd.s))] 127 (0, 0))) (v := .slice (some ⟨w'.heap.size, 0, none⟩) 1 1) rfl (by simp only [execOp, List.map_toArray, List.map_cons, List.map_nil, Act.eval, h63]; go_simp) (bel_al _ _) (SlNew.new hb)
        · intro a' w' hb hd hN hpre
          have h0 : a'.tmps.getD 0 undef = (.agg #[.bool false, .slice (some ⟨bt, ot, none⟩) ts.length ct, .slice (some ⟨bc, oc, none⟩) cs.length cc] : Value) := hpre 0 (by decide)
          have h1 : a'.tmps.getD 1 undef = (.pointer (some ⟨w.heap.size, 0, none⟩) : Value) := hpre 1 (by decide)
          have h4 : a'.tmps.getD 4 undef = (.slice VA vn vc : Value) := hpre 4 (by decide)
          have h5 : a'.tmps.getD 5 undef = (.int .i64 (i : Int) : Value) := hpre 5 (by decide)
          have h6 : a'.tmps.getD 6 undef = (.pointer (some ⟨gt, 0, none⟩) : Value) := hpre 6 (by decide)
          have h7 : a'.tmps.getD 7 undef = (.int .i64 pl : Value) := hpre 7 (by decide)
          have h8 : a'.tmps.getD 8 undef = (.pointer (some ⟨g8, 0, none⟩) : Value) := hpre 8 (by decide)
          have h9 : a'.tmps.getD 9 undef = (.string (bs (R dd.s)) : Value) := hpre 9 (by decide)
          have h10 : a'.tmps.getD 10 undef = (.int .i64 0 : Value) := hpre 10 (by decide)
          have h11 : a'.tmps.getD 11 undef = (.pointer (some ⟨w.heap.size, 0, none⟩) : Value) := hpre 11 (by decide)
          have h12 : a'.tmps.getD 12 undef = (.pointer (some ⟨w.heap.size, 1, none⟩) : Value) := hpre 12 (by decide)
          have h13 : a'.tmps.getD 13 undef = (.slice (some ⟨bt, ot, none⟩) ts.length ct : Value) := hpre 13 (by decide)
          have h14 : a'.tmps.getD 14 undef = (.int .i64 (ts.length : Int) : Value) := hpre 14 (by decide)
          have h15 : a'.tmps.getD 15 undef = (.int .i64 (i : Int) : Value) := hpre 15 (by decide)
          have h44 : a'.tmps.getD 44 undef = (.slice VA vn vc : Value) := hpre 44 (by decide)
          have h45 : a'.tmps.getD 45 undef = (.pointer (some ⟨gt, 0, none⟩) : Value) := hpre 45 (by decide)
          have h46 : a'.tmps.getD 46 undef = (.pointer (some ⟨gt, 0, none⟩) : Value) := hpre 46 (by decide)
          have h47 : a'.tmps.getD 47 undef = (.int .i64 tx : Value) := hpre 47 (by decide)
          have h48 : a'.tmps.getD 48 undef = (.pointer (some ⟨g8, 0, none⟩) : Value) := hpre 48 (by decide)
          have h49 : a'.tmps.getD 49 undef = (.pointer (some ⟨g8, 0, none⟩) : Value) := hpre 49 (by decide)
          have h50 : a'.tmps.getD 50 undef = (.int .i64 cx : Value) := hpre 50 (by decide)
          have h51 : a'.tmps.getD 51 undef = (.int .i64 (tx - cx) : Value) := hpre 51 (by decide)
          have h52 : a'.tmps.getD 52 undef = (.string (bs (R dd.x)) : Value) := hpre 52 (by decide)
          have h53 : a'.tmps.getD 53 undef = (.pointer (some ⟨gt, 0, none⟩) : Value) := hpre 53 (by decide)
          have h54 : a'.tmps.getD 54 undef = (.pointer (some ⟨gt, 1, none⟩) : Value) := hpre 54 (by decide)
          have h55 : a'.tmps.getD 55 undef = (.int .i64 ty : Value) := hpre 55 (by decide)
          have h56 : a'.tmps.getD 56 undef = (.pointer (some ⟨g8, 0, none⟩) : Value) := hpre 56 (by decide)
          have h57 : a'.tmps.getD 57 undef = (.pointer (some ⟨g8, 1, none⟩) : Value) := hpre 57 (by decide)
          have h58 : a'.tmps.getD 58 undef = (.int .i64 cy : Value) := hpre 58 (by decide)
          have h59 : a'.tmps.getD 59 undef = (.int .i64 (ty - cy) : Value) := hpre 59 (by decide)
          have h60 : a'.tmps.getD 60 undef = (.string (bs (R dd.y)) : Value) := hpre 60 (by decide)
          have h61 : a'.tmps.getD 61 undef = (.agg #[.string (bs (R dd.x)), .string (bs (R dd.y))] : Value) := hpre 61 (by decide)
          have h62 : a'.tmps.getD 62 undef = (.string (bs (R dd.s)) : Value) := hpre 62 (by decide)
          have h63 : a'.tmps.getD 63 undef = (.agg #[.string (bs (R dd.x)), .string (bs (R dd.y)), .string (bs (R dd.s))] : Value) := hpre 63 (by decide)
          have h67 : a'.tmps.getD 67 undef = (undef : Value) := hpre 67 (by decide)
          obtain ⟨g64, h64, hge64, hrow64⟩ : (SlNew W 127 [.string (bs (R dd.x)), .string (bs (R dd.y)), .string (bs (R dd.s))]) w' (a'.tmps.getD 64 undef) := hpre 64 (by decide)
          obtain ⟨tm, df⟩ := a'
          simp only at hd hN hpre h0 h1 h4 h5 h6 h7 h8 h9 h10 h11 h12 h13 h14 h15 h44 h45 h46 h47 h48 h49 h50 h51 h52 h53 h54 h55 h56 h57 h58 h59 h60 h61 h62 h63 h64 h67
          subst hd
          have htm : tm = #[tm.getD 0 undef, tm.getD 1 undef, tm.getD 2 undef, tm.getD 3 undef, tm.getD 4 undef, tm.getD 5 undef, tm.getD 6 undef, tm.getD 7 undef, tm.getD 8 undef, tm.getD 9 undef, tm.getD 10 undef, tm.getD 11 undef, tm.getD 12 undef, tm.getD 13 undef, tm.getD 14 undef, tm.getD 15 undef, tm.getD 16 undef, tm.getD 17 undef, tm.getD 18 undef, tm.getD 19 undef, tm.getD 20 undef, tm.getD 21 undef, tm.getD 22 undef, tm.getD 23 undef, tm.getD 24 undef, tm.getD 25 undef, tm.getD 26 undef, tm.getD 27 undef, tm.getD 28 undef, tm.getD 29 undef, tm.getD 30 undef, tm.getD 31 undef, tm.getD 32 undef, tm.getD 33 undef, tm.getD 34 undef, tm.getD 35 undef, tm.getD 36 undef, tm.getD 37 undef, tm.getD 38 undef, tm.getD 39 undef, tm.getD 40 undef, tm.getD 41 undef, tm.getD 42 undef, tm.getD 43 undef, tm.getD 44 undef, tm.getD 45 undef, tm.getD 46 undef, tm.getD 47 undef, tm.getD 48 undef, tm.getD 49 undef, tm.getD 50 undef, tm.getD 51 undef, tm.getD 52 undef, tm.getD 53 undef, tm.getD 54 undef, tm.getD 55 undef, tm.getD 56 undef, tm.getD 57 undef, tm.getD 58 undef, tm.getD 59 undef, tm.getD 60 undef, tm.getD 61 undef, tm.getD 62 undef, tm.getD 63 undef, tm.getD 64 undef, tm.getD 65 undef, tm.getD 66 undef, tm.getD 67 undef] := (tmps_lit hN).trans (by kernel_rfl)
          simp only [h0, h1, h4, h5, h6, h7, h8, h9, h10, h11, h12, h13, h14, h15, h44, h45, h46, h47, h48, h49, h50, h51, h52, h53, h54, h55, h56, h57, h58, h59, h60, h61, h62, h63, h64, h67] at htm
          clear hpre hN h0 h1 h4 h5 h6 h7 h8 h9 h10 h11 h12 h13 h14 h15 h44 h45 h46 h47 h48 h49 h50 h51 h52 h53 h54 h55 h56 h57 h58 h59 h60 h61 h62 h63 h64 h67
          generalize tm.getD 2 undef = u2 at htm
          generalize tm.getD 3 undef = u3 at htm
          generalize tm.getD 16 undef = u16 at htm
          generalize tm.getD 17 undef = u17 at htm
          generalize tm.getD 18 undef = u18 at htm
          generalize tm.getD 19 undef = u19 at htm
          generalize tm.getD 20 undef = u20 at htm
          generalize tm.getD 21 undef = u21 at htm
          generalize tm.getD 22 undef = u22 at htm
          generalize tm.getD 23 undef = u23 at htm
          generalize tm.getD 24 undef = u24 at htm
          generalize tm.getD 25 undef = u25 at htm
          generalize tm.getD 26 undef = u26 at htm
          generalize tm.getD 27 undef = u27 at htm
          generalize tm.getD 28 undef = u28 at htm
          generalize tm.getD 29 undef = u29 at htm
          generalize tm.getD 30 undef = u30 at htm
          generalize tm.getD 31 undef = u31 at htm
          generalize tm.getD 32 undef = u32 at htm
          generalize tm.getD 33 undef = u33 at htm
          generalize tm.getD 34 undef = u34 at htm
          generalize tm.getD 35 undef = u35 at htm
          generalize tm.getD 36 undef = u36 at htm
          generalize tm.getD 37 undef = u37 at htm
          generalize tm.getD 38 undef = u38 at htm
          generalize tm.getD 39 undef = u39 at htm
          generalize tm.getD 40 undef = u40 at htm
          generalize tm.getD 41 undef = u41 at htm
          generalize tm.getD 42 undef = u42 at htm
          generalize tm.getD 43 undef = u43 at htm
          generalize tm.getD 65 undef = u65 at htm
          generalize tm.getD 66 undef = u66 at htm
          subst htm
          simp only [List.drop_succ_cons, List.drop_zero]
          have H5 := Lib.hid (And.intro (H3.out.1.below' hb) (And.intro (H3.out.2.1.below hb) (bel_to H3.out.2.2.1 hb)))
          have HC := Lib.hid (fun j u hu => srcK_row hrow64 j u hu)
          have HSZ := Lib.hid (show w.heap.size + 1 ≤ w'.heap.size from Nat.lt_of_lt_of_le (Row.lt H3.out.1) hb.size)
          clear hb hge64 hrow64 H3 HCL HX1 HY1 e2 hx1 hx2 hx3 hy1 hy2
          go_wp2_with (at_builtin; refine wpList_app_OwnK (m := [dd]) rfl _ _ rfl rfl rfl rfl H5.out.2.1 HC.out HSZ.out (by have := HLT1.out; simp only [List.length_cons, List.length_nil]; omega) ?_; intro v2 w4 ho2 hg2)
          have HN := Lib.hid (And.intro (row_grownK H5.out.1 H5.out.2.1 hg2 (by omega)) (And.intro (by rw [HTK1.out]; exact ho2 : OwnK w4 (w.heap.size + 1) v2 (dl.take (i + 1))) (app_belOwnK H5.out.2.1 H5.out.2.2 (by omega) hg2)))
          clear ho2 hg2 H5 HC HSZ
          go_wp2
          go_roundw
          case rel => exact ⟨i + 1, _, by go_num, rfl, by omega, HN⟩
          case measure => simp [intOf]; omega
    · obtain rfl : ts.length = i := by omega
      have hk2 := hk.out
      rw [HFU.out] at hk2
      have HK := Lib.hid hk2
      clear hk hk2
      go_wp2
      refine bodyPost_ret (v := .tuple #[.slice VA vn vc, .int .i64 0]) (by simp [results, Tryz.results295, go_sem]) rfl ⟨_, rfl, HK.out.2.1.base (by omega), HK.out.2.2⟩
end W
end Go.Proofs.YtellemlhhlafcaaGreatDoor
end
