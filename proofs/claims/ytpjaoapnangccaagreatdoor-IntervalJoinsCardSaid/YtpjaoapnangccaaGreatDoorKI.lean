/-
  The reference of layer 2: 'Add', 'Sub' and 'Mul' where no number is too long.
  Chapter 3: 'Check' of both sides, for spans with short ends.
  Chapter 3 of the program: 'checks', and what the methods of 'sums' do where there is no error.
  Chapter 3 of the program: 'ratio.Parts' and 'ratio.Sign'; what lies in a result that is a span.
  Chapter 3 of the program: 'Of', 'Width', 'Middle', 'Add', 'Sub' and 'Scale'.
-/
import Derived.Test.YtpjaoapnangccaaGreatDoorKH
import Derived.Test.YtpjaoapnangccaaGreatDoorKF
import Derived.Lib.QuietBelow
import Derived.Laws.ResultCell
namespace Go.Proofs.YtpjaoapnangccaaGreatDoor
open Go Go.RowKit Go.Deep
namespace W
open M
attribute [local go_sem] bs_size bs_toList bs_get bs_extract bs_append bs_lit0 bs_lit1 lit1_bs
set_option maxHeartbeats 1000000
set_option maxRecDepth 20000
theorem pair_ok (a b : Rat) (j k : Nat) (w : World) (ha : Bq j a) (hb : Bq k b) (hj : j ≤ 1024) (hk : k ≤ 1024) :
    Calls Tryz.prog 85 #[.string (bs (R a)), .string (bs (R b))] w (Ret w (.int .i64 0)) := by
  have h1 := fun wx => check2_any (R a) wx (by have := ha.R_len hj; omega)
  have h2 := fun wx => check2_any (R b) wx (by have := hb.R_len hk; omega)
  rw [ha.chk hj] at h1
  rw [hb.chk hk] at h2
  have H1 := Lib.hid h1
  have H2 := Lib.hid h2
  clear h1 h2 ha hb
  go_enter Tryz.func85, Tryz.ntmps85
  go_wp2_with fail
  refine (H1.out _).mono ?_
  rintro e w1 ⟨rfl, hb1⟩
  go_wp2_with fail
  refine (H2.out _).mono ?_
  rintro e w2 ⟨rfl, hb2⟩
  go_wp2
  go_ret
  exact Ret.of rfl (Below.then hb1 hb2)
theorem long_ok (zs : List Int) (b o cap : Nat) (w : World) (hl : zs.length ≤ 100) (hc : ∀ i (h : i < zs.length), w.cell? ⟨b, o + i, none⟩ = some (.string (bs (I zs[i])))) (hz : ∀ z ∈ zs, Ok z) :
    Calls Tryz.prog 87 #[.slice (some ⟨b, o, none⟩) zs.length cap] w (fun e w' => e = .returned (.bool false) ∧ w = w') := by
  have HC := Lib.hid hc
  have HZ := Lib.hid hz
  clear hc hz
  go_enter Tryz.func87, Tryz.ntmps87
  go_wp2
  go_loopw [3] (fun iv wr => ∃ i : Nat, iv = .int .i64 (i : Int) ∧ i ≤ zs.length ∧ wr = w) (fun iv _ => zs.length - (intOf iv).toNat)
  case atStart => exact ⟨0, rfl, by omega, rfl⟩
  case round =>
    obtain ⟨i, rfl, hi, rfl⟩ := hrel
    by_cases hlt : i < zs.length
    · have c1 := HC.out i hlt
      have hok := HZ.out _ (List.getElem_mem hlt)
      have hlen := hok.len
      have HV := Lib.hid (chk_I0 hok ▸ check_any (I zs[i]))
      clear hok
      generalize I zs[i] = s at *
      go_wp2_with fail
      refine (HV.out _ (by omega)).mono ?_
      rintro e w' ⟨rfl, rfl⟩
      go_wp2
      go_roundw
      case rel => exact ⟨i + 1, by go_num, by omega, trivial⟩
      case measure => simp [intOf]; omega
    · obtain rfl : i = zs.length := by omega
      go_wp2
      go_ret
      exact ⟨rfl, rfl⟩
theorem radd (a b : Rat) (j k : Nat) (w : World) (ha : Bq j a) (hb : Bq k b) (hj : 1 ≤ j) (hk : 1 ≤ k) (hjk : j + k + 1 ≤ 1024) :
    Calls Tryz.prog 49 #[.string (bs (R a)), .string (bs (R b))] w (Ret w (.tuple #[.string (bs (R (a + b))), .int .i64 0])) := by
  have sa := ha.sh hj (by omega)
  have sb := hb.sh hk (by omega)
  have HPR := Lib.hid (fun wx => pair_ok a b j k wx ha hb (by omega) (by omega))
  have HC := Lib.hid (fun wx => crossed_R a b wx sa sb)
  have HS := Lib.hid (fun wx => plus_R a b wx sa sb)
  have o1 : (a.num * (b.den : Int)).natAbs < 10 ^ (j + k) := mul_pow ha.1 (den_abs hb)
  have o2 : (b.num * (a.den : Int)).natAbs < 10 ^ (j + k) := by rw [Nat.add_comm]; exact mul_pow hb.1 (den_abs ha)
  have o3 : ((a.den : Int) * (b.den : Int)).natAbs < 10 ^ (j + k) := mul_pow (den_abs ha) (den_abs hb)
  have o4 : (a.num * (b.den : Int) + b.num * (a.den : Int)).natAbs < 10 ^ (j + k + 1) := add_pow o1 o2
  have HL := Lib.hid (fun bl wx (hc : Row wx bl 67 (CrossL a b)) => long_ok [a.num * (b.den : Int), b.num * (a.den : Int), (a.den : Int) * (b.den : Int)] bl 0 5 wx (by simp)
    (fun i h => by
      have h3 : i < 3 := h
      rw [Nat.zero_add]
      rcases (by omega : i = 0 ∨ i = 1 ∨ i = 2) with rfl | rfl | rfl
      · exact hc.cell rfl
      · exact hc.cell rfl
      · exact hc.cell rfl)
    (fun z hz => by
      simp only [List.mem_cons, List.not_mem_nil, or_false] at hz
      rcases hz with rfl | rfl | rfl
      · exact ok_pow o1 (by omega)
      · exact ok_pow o2 (by omega)
      · exact ok_pow o3 (by omega)))
  have HL2 := Lib.hid (fun bl wx (hc : wx.cell? ⟨bl, 0, none⟩ = some (.string (bs (I (a.num * (b.den : Int) + b.num * (a.den : Int)))))) => long_ok [a.num * (b.den : Int) + b.num * (a.den : Int)] bl 0 1 wx (by simp)
    (fun i h => by
      have h1 : i < 1 := h
      obtain rfl : i = 0 := by omega
      exact hc)
    (fun z hz => by rw [List.mem_singleton.1 hz]; exact ok_pow o4 hjk))
  have l1 := I_mul_len sa.1 sb.2
  have l2 := I_mul_len sb.1 sa.2
  have HP := Lib.hid (fun w' => plus_I (a.num * (b.den : Int)) (b.num * (a.den : Int)) w' (by omega) (by omega))
  clear sa sb l1 l2 o1 o2 o3 o4 ha hb hj hk hjk
  simp only [List.length_cons, List.length_nil, Nat.zero_add, Nat.reduceAdd] at HL HL2
  unfold CrossP at HC
  go_enter Tryz.func49, Tryz.ntmps49
  go_wp2_with fail
  refine (HPR.out _).mono ?_
  rintro e w1 ⟨rfl, hb1⟩
  go_wp2_with fail
  refine (HC.out _).mono ?_
  rintro e w2 ⟨bl, hbl, rfl, hrow, hb2⟩
  have hlt := hrow.lt
  have hb2 := Below.then hb1 hb2
  have HROW := Lib.hid hrow.drew
  unfold CrossL at hrow
  have c0 := hrow.cell (i := 0) rfl
  have c1 := hrow.cell (i := 1) rfl
  have HBZ := Lib.hid hb2
  clear hrow hb1
  generalize hz0 : I (a.num * (b.den : Int) + b.num * (a.den : Int)) = z0 at *
  generalize hz1 : I (a.num * (b.den : Int)) = z1 at *
  generalize hz2 : I (b.num * (a.den : Int)) = z2 at *
  generalize hz3 : I ((a.den : Int) * (b.den : Int)) = z3 at *
  generalize hz4 : I (a.num * b.num) = z4 at *
  generalize hz5 : I ((a.den : Int) * b.num) = z5 at *
  clear hz0 hz1 hz2 hz3 hz4 hz5
  go_wp2
  go_region_with (first | (go_at_call 87; first | (refine (HL2.out w3.heap.size _ hn3).mono ?_; rintro e w' ⟨rfl, rfl⟩) | (refine (HL.out bl _ HROW.out).mono ?_; rintro e w' ⟨rfl, rfl⟩)) | (go_at_call 88; refine (HP.out _).mono ?_; rintro e w3 ⟨rfl, hb3⟩; have hn3 := (Row.new w3 67 [.string (bs z0)]).cell (i := 0) rfl))
  all_goals
    have hb4 := HBZ.out.trans (((RowKit.Below.drew (Below.refl w2.heap.size w2)).trans hb3).mono HBZ.out.size)
    have hb5 := hb4.alloc hb4.size (.cells #[.string (bs z0)] 67 (0, 0))
    go_wp2_with fail
    refine (HS.out _).mono ?_
    rintro e w6 ⟨rfl, hb6⟩
    go_wp2
    go_ret2
    exact Ret.of rfl (Below.then hb5 hb6)
theorem rsub (a b : Rat) (j k : Nat) (w : World) (ha : Bq j a) (hb : Bq k b) (hj : 1 ≤ j) (hk : 1 ≤ k) (hjk : j + k + 1 ≤ 1024) :
    Calls Tryz.prog 52 #[.string (bs (R a)), .string (bs (R b))] w (Ret w (.tuple #[.string (bs (R (a - b))), .int .i64 0])) := by
  have sa := ha.sh hj (by omega)
  have sb := hb.sh hk (by omega)
  have HPR := Lib.hid (fun wx => pair_ok a b j k wx ha hb (by omega) (by omega))
  have HC := Lib.hid (fun wx => crossed_R a b wx sa sb)
  have HS := Lib.hid (fun wx => minus_R a b wx sa sb)
  have o1 : (a.num * (b.den : Int)).natAbs < 10 ^ (j + k) := mul_pow ha.1 (den_abs hb)
  have o2 : (b.num * (a.den : Int)).natAbs < 10 ^ (j + k) := by rw [Nat.add_comm]; exact mul_pow hb.1 (den_abs ha)
  have o3 : ((a.den : Int) * (b.den : Int)).natAbs < 10 ^ (j + k) := mul_pow (den_abs ha) (den_abs hb)
  have o4 : (a.num * (b.den : Int) - b.num * (a.den : Int)).natAbs < 10 ^ (j + k + 1) := sub_pow o1 o2
  have HL := Lib.hid (fun bl wx (hc : Row wx bl 67 (CrossL a b)) => long_ok [a.num * (b.den : Int), b.num * (a.den : Int), (a.den : Int) * (b.den : Int)] bl 0 5 wx (by simp)
    (fun i h => by
      have h3 : i < 3 := h
      rw [Nat.zero_add]
      rcases (by omega : i = 0 ∨ i = 1 ∨ i = 2) with rfl | rfl | rfl
      · exact hc.cell rfl
      · exact hc.cell rfl
      · exact hc.cell rfl)
    (fun z hz => by
      simp only [List.mem_cons, List.not_mem_nil, or_false] at hz
      rcases hz with rfl | rfl | rfl
      · exact ok_pow o1 (by omega)
      · exact ok_pow o2 (by omega)
      · exact ok_pow o3 (by omega)))
  have HL2 := Lib.hid (fun bl wx (hc : wx.cell? ⟨bl, 0, none⟩ = some (.string (bs (I (a.num * (b.den : Int) - b.num * (a.den : Int)))))) => long_ok [a.num * (b.den : Int) - b.num * (a.den : Int)] bl 0 1 wx (by simp)
    (fun i h => by
      have h1 : i < 1 := h
      obtain rfl : i = 0 := by omega
      exact hc)
    (fun z hz => by rw [List.mem_singleton.1 hz]; exact ok_pow o4 hjk))
  have l1 := I_mul_len sa.1 sb.2
  have l2 := I_mul_len sb.1 sa.2
  have HP := Lib.hid (fun w' => minus_I (a.num * (b.den : Int)) (b.num * (a.den : Int)) w' (by omega) (by omega))
  clear sa sb l1 l2 o1 o2 o3 o4 ha hb hj hk hjk
  simp only [List.length_cons, List.length_nil, Nat.zero_add, Nat.reduceAdd] at HL HL2
  unfold CrossP at HC
  go_enter Tryz.func52, Tryz.ntmps52
  go_wp2_with fail
  refine (HPR.out _).mono ?_
  rintro e w1 ⟨rfl, hb1⟩
  go_wp2_with fail
  refine (HC.out _).mono ?_
  rintro e w2 ⟨bl, hbl, rfl, hrow, hb2⟩
  have hlt := hrow.lt
  have hb2 := Below.then hb1 hb2
  have HROW := Lib.hid hrow.drew
  unfold CrossL at hrow
  have c0 := hrow.cell (i := 0) rfl
  have c1 := hrow.cell (i := 1) rfl
  have HBZ := Lib.hid hb2
  clear hrow hb1
  generalize hz0 : I (a.num * (b.den : Int) - b.num * (a.den : Int)) = z0 at *
  generalize hz1 : I (a.num * (b.den : Int)) = z1 at *
  generalize hz2 : I (b.num * (a.den : Int)) = z2 at *
  generalize hz3 : I ((a.den : Int) * (b.den : Int)) = z3 at *
  generalize hz4 : I (a.num * b.num) = z4 at *
  generalize hz5 : I ((a.den : Int) * b.num) = z5 at *
  clear hz0 hz1 hz2 hz3 hz4 hz5
  go_wp2
  go_region_with (first | (go_at_call 87; first | (refine (HL2.out w3.heap.size _ hn3).mono ?_; rintro e w' ⟨rfl, rfl⟩) | (refine (HL.out bl _ HROW.out).mono ?_; rintro e w' ⟨rfl, rfl⟩)) | (go_at_call 91; refine (HP.out _).mono ?_; rintro e w3 ⟨rfl, hb3⟩; have hn3 := (Row.new w3 67 [.string (bs z0)]).cell (i := 0) rfl))
  all_goals
    have hb4 := HBZ.out.trans (((RowKit.Below.drew (Below.refl w2.heap.size w2)).trans hb3).mono HBZ.out.size)
    have hb5 := hb4.alloc hb4.size (.cells #[.string (bs z0)] 67 (0, 0))
    go_wp2_with fail
    refine (HS.out _).mono ?_
    rintro e w6 ⟨rfl, hb6⟩
    go_wp2
    go_ret2
    exact Ret.of rfl (Below.then hb5 hb6)
theorem rmul (a b : Rat) (j k : Nat) (w : World) (ha : Bq j a) (hb : Bq k b) (hj : 1 ≤ j) (hk : 1 ≤ k) (hjk : j + k ≤ 1024) :
    Calls Tryz.prog 55 #[.string (bs (R a)), .string (bs (R b))] w (Ret w (.tuple #[.string (bs (R (a * b))), .int .i64 0])) := by
  have sa := ha.sh hj (by omega)
  have sb := hb.sh hk (by omega)
  have HPR := Lib.hid (fun wx => pair_ok a b j k wx ha hb (by omega) (by omega))
  have HC := Lib.hid (fun wx => crossed_R a b wx sa sb)
  have HS := Lib.hid (fun wx => timesR a b wx sa sb)
  have o3 : ((a.den : Int) * (b.den : Int)).natAbs < 10 ^ (j + k) := mul_pow (den_abs ha) (den_abs hb)
  have o5 : (a.num * b.num).natAbs < 10 ^ (j + k) := mul_pow ha.1 hb.1
  have HL := Lib.hid (fun bl wx (hc : Row wx bl 67 (CrossL a b)) => long_ok [(a.den : Int) * (b.den : Int), a.num * b.num] bl 2 3 wx (by simp)
    (fun i h => by
      have h3 : i < 2 := h
      rcases (by omega : i = 0 ∨ i = 1) with rfl | rfl
      · exact hc.cell (i := 2) rfl
      · exact hc.cell (i := 3) rfl)
    (fun z hz => by
      simp only [List.mem_cons, List.not_mem_nil, or_false] at hz
      rcases hz with rfl | rfl
      · exact ok_pow o3 (by omega)
      · exact ok_pow o5 (by omega)))
  clear sa sb o3 o5 ha hb hj hk hjk
  simp only [List.length_cons, List.length_nil, Nat.zero_add, Nat.reduceAdd] at HL
  unfold CrossP at HC
  go_enter Tryz.func55, Tryz.ntmps55
  go_wp2_with fail
  refine (HPR.out _).mono ?_
  rintro e w1 ⟨rfl, hb1⟩
  go_wp2_with fail
  refine (HC.out _).mono ?_
  rintro e w2 ⟨bl, hbl, rfl, hrow, hb2⟩
  have hlt := hrow.lt
  have hb2 := Below.then hb1 hb2
  go_wp2_with fail
  refine (HL.out bl _ hrow).mono ?_
  rintro e w' ⟨rfl, rfl⟩
  go_wp2_with fail
  refine (HS.out _).mono ?_
  rintro e w6 ⟨rfl, hb6⟩
  go_wp2
  go_ret2
  exact Ret.of rfl (Below.then hb2 hb6)
end W
end Go.Proofs.YtpjaoapnangccaaGreatDoor
namespace Go.Proofs.YtpjaoapnangccaaGreatDoor
open Go Go.RowKit Go.Deep
namespace M
/-- A short text: if it is a number, then one with few digits. -/
def Sht (l : List UInt8) : Prop := l.length ≤ 2100 ∧ (chkR l = 0 → ∃ q, l = R q ∧ Bq 30 q)
theorem Sht.of {l : List UInt8} (h : shortB l = true) : Sht l := ⟨by have := short_num h; omega, short_R h⟩
theorem Sht.R {q : Rat} (h : Bq 30 q) : Sht (M.R q) := ⟨by have := h.R_len (by decide); omega, fun _ => ⟨q, rfl, h⟩⟩
/-- The number of the error of a span. -/
noncomputable def chkP (p : PT) : Nat := if chkR p.1 ≠ 0 then chkR p.1 else if chkR p.2 ≠ 0 then chkR p.2 else if qval p.2 < qval p.1 then 9 else 0
/-- A right span with short ends. -/
def SpB (k : Nat) (a : SQ) : Prop := a.1 ≤ a.2 ∧ Bq k a.1 ∧ Bq k a.2
theorem chkP_right {p : PT} (h1 : Sht p.1) (h2 : Sht p.2) (h : chkP p = 0) : ∃ a : SQ, p = (R a.1, R a.2) ∧ SpB 30 a := by
  unfold chkP at h
  by_cases c1 : chkR p.1 = 0
  · rw [if_neg (by simp [c1])] at h
    by_cases c2 : chkR p.2 = 0
    · rw [if_neg (by simp [c2])] at h
      obtain ⟨q1, e1, b1⟩ := h1.2 c1
      obtain ⟨q2, e2, b2⟩ := h2.2 c2
      rw [e1, e2, qval_R, qval_R] at h
      by_cases hlt : q2 < q1
      · rw [if_pos hlt] at h; cases h
      · exact ⟨(q1, q2), Prod.ext e1 e2, Rat.not_lt.1 hlt, b1, b2⟩
    · rw [if_pos c2] at h; exact absurd h c2
  · rw [if_pos c1] at h; exact absurd h c1
theorem chkP_sp {a : SQ} {k : Nat} (hk : k ≤ 1024) (h : SpB k a) : chkP (R a.1, R a.2) = 0 := by
  unfold chkP
  simp only
  rw [h.2.1.chk hk, h.2.2.chk hk, if_neg (by decide), if_neg (by decide), qval_R, qval_R, if_neg (Rat.not_lt.2 h.1)]
end M
namespace W
open M
attribute [local go_sem] bs_size bs_toList bs_get bs_extract bs_append bs_lit0 bs_lit1 lit1_bs
set_option maxHeartbeats 1000000
set_option maxRecDepth 20000
theorem idx0 (x y : List UInt8) (w : World) : (Instr.index 98 (.agg #[.string (bs x), .string (bs y)]) (.int .i64 0)).run Tryz.prog w = .ok (.string (bs x)) w := by kernel_rfl
theorem idx1 (x y : List UInt8) (w : World) : (Instr.index 98 (.agg #[.string (bs x), .string (bs y)]) (.int .i64 1)).run Tryz.prog w = .ok (.string (bs y)) w := by kernel_rfl
theorem pcheck (p : PT) (w : World) (hg : Glob w) (h1 : Sht p.1) (h2 : Sht p.2) :
    Calls Tryz.prog 34 #[.agg #[.string (bs p.1), .string (bs p.2)]] w (Ret w (.int .i64 ((chkP p : Nat) : Int))) := by
  have H1 := Lib.hid (fun wx hgx => vcheckR p.1 wx hgx (by have := h1.1; omega))
  have H2 := Lib.hid (fun wx hgx => vcheckR p.2 wx hgx (by have := h2.1; omega))
  have hrow := Row.new w 24 [.string (bs p.1), .string (bs p.2)]
  have hga := hg.of ((Below.refl w.heap.size w).alloc (Nat.le_refl _) (.cells #[.string (bs p.1), .string (bs p.2)] 24 (0, 0)))
  have HRW := Lib.hid (And.intro hrow hga)
  clear hrow hga
  unfold chkP
  by_cases c1 : chkR p.1 = 0
  · rw [if_neg (by simp [c1])]
    rw [c1] at H1
    by_cases c2 : chkR p.2 = 0
    · rw [if_neg (by simp [c2])]
      rw [c2] at H2
      obtain ⟨q1, e1, b1⟩ := h1.2 c1
      obtain ⟨q2, e2, b2⟩ := h2.2 c2
      rw [e1] at H1 HRW ⊢
      rw [e2] at H2 HRW ⊢
      rw [qval_R, qval_R]
      have HC := Lib.hid (fun wx hgx => ratCompare q1 q2 30 30 wx hgx b1 b2 (by decide))
      have hcm : decide (0 < cmpQ q1 q2) = decide (q2 < q1) := by rw [decide_eq_decide]; exact cmpQ_gt
      clear h1 h2 c1 c2 e1 e2 b1 b2
      generalize cmpQ q1 q2 = cm at *
      generalize R q1 = s1 at *
      generalize R q2 = s2 at *
      by_cases hlt : q2 < q1
      · rw [if_pos hlt]
        rw [decide_eq_true hlt] at hcm
        clear hlt
        have i0 := idx0 s1 s2
        have i1 := idx1 s1 s2
        go_enter Tryz.func34, Tryz.ntmps34
        go_wp2
        refine wp_loop_rounds 3 ?_
        rw [rounds_succ]
        go_wp2_with fail
        refine (H1.out _ HRW.out.2).mono ?_
        rintro e w1 ⟨rfl, hb1⟩
        have hg1 := HRW.out.2.of hb1
        go_wp2
        rw [rounds_succ]
        go_wp2_with fail
        refine (H2.out _ hg1).mono ?_
        rintro e w2 ⟨rfl, hb2⟩
        have hb2 := hb1.trans (hb2.mono hb1.size)
        have hrw2 := HRW.out.1.below' hb2
        have d0 := hrw2.cell (i := 0) rfl
        have d1 := hrw2.cell (i := 1) rfl
        go_wp2
        rw [rounds_succ]
        go_wp2_with fail
        refine (HC.out _ (HRW.out.2.of hb2)).mono ?_
        rintro e w3 ⟨rfl, hb3⟩
        go_wp2
        go_ret
        exact Ret.of rfl (alloc_then (hb2.trans (hb3.mono hb2.size)))
      · rw [if_neg hlt]
        rw [decide_eq_false hlt] at hcm
        clear hlt
        have i0 := idx0 s1 s2
        have i1 := idx1 s1 s2
        go_enter Tryz.func34, Tryz.ntmps34
        go_wp2
        refine wp_loop_rounds 3 ?_
        rw [rounds_succ]
        go_wp2_with fail
        refine (H1.out _ HRW.out.2).mono ?_
        rintro e w1 ⟨rfl, hb1⟩
        have hg1 := HRW.out.2.of hb1
        go_wp2
        rw [rounds_succ]
        go_wp2_with fail
        refine (H2.out _ hg1).mono ?_
        rintro e w2 ⟨rfl, hb2⟩
        have hb2 := hb1.trans (hb2.mono hb1.size)
        have hrw2 := HRW.out.1.below' hb2
        have d0 := hrw2.cell (i := 0) rfl
        have d1 := hrw2.cell (i := 1) rfl
        go_wp2
        rw [rounds_succ]
        go_wp2_with fail
        refine (HC.out _ (HRW.out.2.of hb2)).mono ?_
        rintro e w3 ⟨rfl, hb3⟩
        go_wp2
        go_ret
        exact Ret.of rfl (alloc_then (hb2.trans (hb3.mono hb2.size)))
    · have hz : (((chkR p.2 : Nat) : Int) != 0) = true := by simp; exact c2
      rw [if_pos c2]
      clear h1 h2 c1 c2
      generalize chkR p.2 = c at *
      generalize p.1 = s1 at *
      generalize p.2 = s2 at *
      have i0 := idx0 s1 s2
      have i1 := idx1 s1 s2
      go_enter Tryz.func34, Tryz.ntmps34
      go_wp2
      refine wp_loop_rounds 3 ?_
      rw [rounds_succ]
      go_wp2_with fail
      refine (H1.out _ HRW.out.2).mono ?_
      rintro e w1 ⟨rfl, hb1⟩
      have hg1 := HRW.out.2.of hb1
      go_wp2
      rw [rounds_succ]
      go_wp2_with fail
      refine (H2.out _ hg1).mono ?_
      rintro e w2 ⟨rfl, hb2⟩
      have hb2 := hb1.trans (hb2.mono hb1.size)
      go_wp2
      go_ret
      exact Ret.of rfl (alloc_then hb2)
  · have hz : (((chkR p.1 : Nat) : Int) != 0) = true := by simp; exact c1
    rw [if_pos c1]
    clear h1 h2 c1
    generalize chkR p.1 = c at *
    generalize p.1 = s1 at *
    generalize p.2 = s2 at *
    have i0 := idx0 s1 s2
    have i1 := idx1 s1 s2
    go_enter Tryz.func34, Tryz.ntmps34
    go_wp2
    refine wp_loop_rounds 3 ?_
    rw [rounds_succ]
    go_wp2_with fail
    refine (H1.out _ HRW.out.2).mono ?_
    rintro e w1 ⟨rfl, hb1⟩
    go_wp2
    go_ret
    exact Ret.of rfl (alloc_then hb1)
theorem order_cmp (a b : Rat) : Int.sign (a.num * (b.den : Int) - b.num * (a.den : Int)) = cmpQ a b := rfl
theorem rcheck (p : PT) (w : World) (h1 : Sht p.1) (h2 : Sht p.2) :
    Calls Tryz.prog 35 #[.agg #[.string (bs p.1), .string (bs p.2)]] w (Ret w (.int .i64 ((chkP p : Nat) : Int))) := by
  have H1 := Lib.hid (fun wx => check2_any p.1 wx (by have := h1.1; omega))
  have H2 := Lib.hid (fun wx => check2_any p.2 wx (by have := h2.1; omega))
  have hrow := Row.new w 24 [.string (bs p.1), .string (bs p.2)]
  have HRW := Lib.hid hrow
  clear hrow
  unfold chkP
  by_cases c1 : chkR p.1 = 0
  · rw [if_neg (by simp [c1])]
    rw [c1] at H1
    by_cases c2 : chkR p.2 = 0
    · rw [if_neg (by simp [c2])]
      rw [c2] at H2
      obtain ⟨q1, e1, b1⟩ := h1.2 c1
      obtain ⟨q2, e2, b2⟩ := h2.2 c2
      rw [e1] at H1 HRW ⊢
      rw [e2] at H2 HRW ⊢
      rw [qval_R, qval_R]
      have HC := Lib.hid (fun wx => order_R q1 q2 wx (b1.sh (by decide) (by decide)) (b2.sh (by decide) (by decide)))
      rw [order_cmp] at HC
      have hcm : decide (0 < cmpQ q1 q2) = decide (q2 < q1) := by rw [decide_eq_decide]; exact cmpQ_gt
      clear h1 h2 c1 c2 e1 e2 b1 b2
      generalize cmpQ q1 q2 = cm at *
      generalize R q1 = s1 at *
      generalize R q2 = s2 at *
      by_cases hlt : q2 < q1
      · rw [if_pos hlt]
        rw [decide_eq_true hlt] at hcm
        clear hlt
        go_enter Tryz.func35, Tryz.ntmps35
        go_wp2_with fail
        refine (H1.out _).mono ?_
        rintro e w1 ⟨rfl, hb1⟩
        have hrw1 := HRW.out.below' hb1
        have c0 := hrw1.cell (i := 0) rfl
        have c1 := hrw1.cell (i := 1) rfl
        go_wp2_with fail
        refine (H2.out _).mono ?_
        rintro e w2 ⟨rfl, hb2⟩
        have hb2 := hb1.trans (hb2.mono hb1.size)
        have hrw2 := HRW.out.below' hb2
        have d0 := hrw2.cell (i := 0) rfl
        have d1 := hrw2.cell (i := 1) rfl
        clear c0 c1 hb1 hrw1 hrw2
        go_wp2_with fail
        refine (HC.out _).mono ?_
        rintro e w3 ⟨rfl, hb3⟩
        go_wp2
        go_ret
        exact Ret.of rfl (alloc_then (hb2.trans (hb3.mono hb2.size)))
      · rw [if_neg hlt]
        rw [decide_eq_false hlt] at hcm
        clear hlt
        go_enter Tryz.func35, Tryz.ntmps35
        go_wp2_with fail
        refine (H1.out _).mono ?_
        rintro e w1 ⟨rfl, hb1⟩
        have hrw1 := HRW.out.below' hb1
        have c0 := hrw1.cell (i := 0) rfl
        have c1 := hrw1.cell (i := 1) rfl
        go_wp2_with fail
        refine (H2.out _).mono ?_
        rintro e w2 ⟨rfl, hb2⟩
        have hb2 := hb1.trans (hb2.mono hb1.size)
        have hrw2 := HRW.out.below' hb2
        have d0 := hrw2.cell (i := 0) rfl
        have d1 := hrw2.cell (i := 1) rfl
        clear c0 c1 hb1 hrw1 hrw2
        go_wp2_with fail
        refine (HC.out _).mono ?_
        rintro e w3 ⟨rfl, hb3⟩
        go_wp2
        go_ret
        exact Ret.of rfl (alloc_then (hb2.trans (hb3.mono hb2.size)))
    · have hz : (((chkR p.2 : Nat) : Int) != 0) = true := by simp; exact c2
      rw [if_pos c2]
      clear h1 h2 c1 c2
      generalize chkR p.2 = c at *
      generalize p.1 = s1 at *
      generalize p.2 = s2 at *
      go_enter Tryz.func35, Tryz.ntmps35
      go_wp2_with fail
      refine (H1.out _).mono ?_
      rintro e w1 ⟨rfl, hb1⟩
      have hrw1 := HRW.out.below' hb1
      have c0 := hrw1.cell (i := 0) rfl
      have c1 := hrw1.cell (i := 1) rfl
      go_wp2_with fail
      refine (H2.out _).mono ?_
      rintro e w2 ⟨rfl, hb2⟩
      have hb2 := hb1.trans (hb2.mono hb1.size)
      go_wp2
      go_ret
      exact Ret.of rfl (alloc_then hb2)
  · have hz : (((chkR p.1 : Nat) : Int) != 0) = true := by simp; exact c1
    rw [if_pos c1]
    clear h1 h2 c1
    generalize chkR p.1 = c at *
    generalize p.1 = s1 at *
    generalize p.2 = s2 at *
    go_enter Tryz.func35, Tryz.ntmps35
    go_wp2_with fail
    refine (H1.out _).mono ?_
    rintro e w1 ⟨rfl, hb1⟩
    go_wp2
    go_ret
    exact Ret.of rfl (alloc_then hb1)
end W
end Go.Proofs.YtpjaoapnangccaaGreatDoor
namespace Go.Proofs.YtpjaoapnangccaaGreatDoor
open Go Go.RowKit Go.Deep Go.Sort
namespace M
/-- The first error of spans. -/
noncomputable def chkL : List PT → Nat
  | [] => 0
  | p :: t => if chkP p = 0 then chkL t else chkP p
theorem chkL_drop (l : List PT) (i : Nat) (h : i < l.length) : chkL (l.drop i) = if chkP l[i] = 0 then chkL (l.drop (i + 1)) else chkP l[i] := by
  rw [List.drop_eq_getElem_cons h, chkL]
/-- Spans with short ends. -/
def ShtL (l : List PT) : Prop := ∀ p ∈ l, Sht p.1 ∧ Sht p.2
theorem chkL_right : ∀ {l : List PT}, ShtL l → chkL l = 0 → ∃ zl : List SQ, l = sx zl ∧ ∀ a ∈ zl, SpB 30 a
  | [], _, _ => ⟨[], rfl, fun a h => by cases h⟩
  | p :: t, hs, h => by
    rw [chkL] at h
    by_cases hp : chkP p = 0
    · rw [if_pos hp] at h
      obtain ⟨h1, h2⟩ := hs p List.mem_cons_self
      obtain ⟨a, e, ha⟩ := chkP_right h1 h2 hp
      obtain ⟨zl, e2, hz⟩ := chkL_right (fun q hq => hs q (List.mem_cons_of_mem _ hq)) h
      refine ⟨a :: zl, by rw [e, e2]; rfl, fun b hb => ?_⟩
      rcases List.mem_cons.1 hb with rfl | hb
      · exact ha
      · exact hz b hb
    · rw [if_neg hp] at h; exact absurd h hp
theorem chkL_sx : ∀ {zl : List SQ}, (∀ a ∈ zl, SpB 30 a) → chkL (sx zl) = 0
  | [], _ => rfl
  | a :: t, h => by
    show chkL ((R a.1, R a.2) :: sx t) = 0
    rw [chkL, if_pos (chkP_sp (by decide) (h a List.mem_cons_self))]
    exact chkL_sx fun b hb => h b (List.mem_cons_of_mem _ hb)
end M
/-- The sums of intervals in block b have no error. -/
def NoErI (w : World) (b : Nat) : Prop := Row w b 74 [.int .i64 0]
theorem NoErI.below' {b : Nat} {w w' : World} (h : NoErI w b) (hb : Below w.heap.size w w') : NoErI w' b := Row.below' h hb
theorem NoErI.cell {w : World} {b : Nat} (h : NoErI w b) : w.cell? ⟨b, 0, none⟩ = some (.int .i64 0) := Row.cell h rfl
theorem NoErI.free {w : World} {b : Nat} (h : NoErI w b) : w.frozen? ⟨b, 0, none⟩ = false := Row.free h 0
theorem Below.sameI {B : Nat} {a w : World} (h : Below B a w) {b : Nat} (hn : NoErI w b) : Below B a (w.setCell ⟨b, 0, none⟩ (.int .i64 0)) := by
  have hr := Row.set hn 0 (.int .i64 0)
  refine h.trans ⟨rfl, rfl, rfl, ?_, fun k hk => ?_⟩
  · show _ ≤ (w.heap.modify _ _).size; simp
  · by_cases hkb : k = b
    · subst hkb
      exact hr.trans (Eq.symm hn)
    · exact Below.heap_setCell _ _ _ _ hkb
/-- A span as a value. -/
abbrev spV (p : M.PT) : Value := .agg #[.string (bs p.1), .string (bs p.2)]
/-- A contract in every world that a region which only reads comes to. -/
theorem reg_of {f : Nat} {args : Array Value} {v : Value} {w : World} (h : ∀ W, Below w.heap.size w W → Calls Tryz.prog f args W (Ret W v)) :
    ∀ d os, Calls Tryz.prog f args (grow (redrawn w d) os) fun e w'' => e = .returned v ∧ ∃ p : Regrown, w'' = grow (redrawn w p.d) p.os := fun d os => Calls.regrown_of (h _ (below_regrown w d os))
namespace W
open M
attribute [local go_sem] bs_size bs_toList bs_get bs_extract bs_append bs_lit0 bs_lit1 lit1_bs
set_option maxHeartbeats 1000000
set_option maxRecDepth 20000
theorem pchecks_nil (A : Option Addr) (cap : Nat) (w : World) : Calls Tryz.prog 45 #[.slice A 0 cap] w (Ret w (.int .i64 0)) := by
  go_enter Tryz.func45, Tryz.ntmps45
  go_wp2
  refine wp_loop_rounds 1 ?_
  rw [rounds_succ]
  go_wp2
  go_ret
  exact Ret.of rfl (Below.refl _ _)
theorem pchecks (pl : List PT) (b o cap : Nat) (w : World) (hg : Glob w) (hw : PSl w b o pl) (hs : ShtL pl) (hl : pl.length ≤ 1000) :
    Calls Tryz.prog 45 #[.slice (some ⟨b, o, none⟩) pl.length cap] w (Ret w (.int .i64 ((chkL pl : Nat) : Int))) := by
  have HW := Lib.hid hw
  have HPC := Lib.hid (fun i (hi : i < pl.length) wx hgx => pcheck pl[i] wx hgx (hs _ (List.getElem_mem hi)).1 (hs _ (List.getElem_mem hi)).2)
  generalize hch : ((chkL pl : Nat) : Int) = ch
  have HCH := Lib.hid hch
  clear hw hs hch
  go_enter Tryz.func45, Tryz.ntmps45
  go_wp2
  go_loopw [8] (fun iv wr => ∃ i : Nat, iv = .int .i64 (i : Int) ∧ i ≤ pl.length ∧ Hid (chkL pl = chkL (pl.drop i)) ∧ Below w.heap.size w wr) (fun iv _ => pl.length - (intOf iv).toNat)
  case atStart => exact ⟨0, rfl, by omega, (rfl : chkL pl = chkL (pl.drop 0)), Below.refl _ _⟩
  case round =>
    obtain ⟨i, rfl, hi, hk, hbw⟩ := hrel
    by_cases hlt : i < pl.length
    · have hwr := HW.out.below' hbw
      have cv := hwr.val i hlt
      have cw := hwr.wt i hlt
      have hk2 := hk.out
      rw [chkL_drop pl i hlt] at hk2
      have HP := Lib.hid (HPC.out i hlt)
      have hgw := hg.of hbw
      clear hk hwr
      generalize hx : pl[i] = x at *
      clear hx
      obtain ⟨s, t⟩ := x
      simp only at cv cw
      have hga := hgw.of ((Below.refl wr.heap.size wr).alloc (Nat.le_refl _) (.cells #[.string (bs s), .string (bs t)] 24 (0, 0)))
      have HGA := Lib.hid hga
      clear hga hgw
      by_cases hc : chkP (s, t) = 0
      · rw [if_pos hc] at hk2
        rw [hc] at HP
        have HK := Lib.hid hk2
        clear hk2 hc
        go_wp2_with fail
        refine (HP.out _ HGA.out).mono ?_
        rintro e w1 ⟨rfl, hb1⟩
        have hb1' := alloc_then hb1
        go_wp2
        go_roundw
        case rel => exact ⟨i + 1, by go_num, by omega, HK, hbw.trans (hb1'.mono hbw.size)⟩
        case measure => simp [intOf]; omega
      · rw [if_neg hc] at hk2
        have hz : (((chkP (s, t) : Nat) : Int) != 0) = true := by simp; exact hc
        have HK := Lib.hid hk2
        clear hk2 hc
        generalize hcc : ((chkP (s, t) : Nat) : Int) = c at *
        have HC := Lib.hid hcc
        clear hcc
        go_wp2_with fail
        refine (HP.out _ HGA.out).mono ?_
        rintro e w1 ⟨rfl, hb1⟩
        have hb1' := alloc_then hb1
        go_wp2
        go_ret
        exact Ret.of (by rw [← HCH.out, HK.out, HC.out]; rfl) (hbw.trans (hb1'.mono hbw.size))
    · obtain rfl : i = pl.length := by omega
      have hk2 := hk.out
      rw [List.drop_length] at hk2
      have HK := Lib.hid hk2
      clear hk2 hk
      go_wp2
      go_ret
      exact Ret.of (by rw [← HCH.out, HK.out]; rfl) hbw
theorem sof_ok (b : Nat) (s : List UInt8) (w : World) (hs : NoErI w b) :
    Calls Tryz.prog 46 #[.pointer (some ⟨b, 0, none⟩), .string (bs s), .int .i64 0] w (Ret w (.string (bs s))) := by
  have hc := hs.cell
  have hf := hs.free
  have HS := Lib.hid hs
  clear hs
  go_enter Tryz.func46, Tryz.ntmps46
  go_wp2
  go_ret
  exact Ret.of rfl (Below.sameI (Below.refl _ _) HS.out)
theorem sspan_ok (b : Nat) (p : PT) (w : World) (hs : NoErI w b) :
    Calls Tryz.prog 47 #[.pointer (some ⟨b, 0, none⟩), .string (bs p.1), .string (bs p.2)] w (Ret w (.tuple #[spV p, .int .i64 0])) := by
  have hc := hs.cell
  have hc2 := (hs.below' ((Below.refl w.heap.size w).alloc (Nat.le_refl _) (.cells #[.string ⟨#[]⟩, .string ⟨#[]⟩] 24 (0, 0)))).cell
  have hr := Row.new w 24 [.string (bs p.1), .string (bs p.2)]
  have q0 := hr.cell (i := 0) rfl
  have q1 := hr.cell (i := 1) rfl
  clear hs hr
  go_enter Tryz.func47, Tryz.ntmps47
  go_wp2
  refine bodyPost_ret (v := .tuple #[spV p, .int .i64 0]) (by simp [results, Tryz.results47, go_sem, q0, q1]) rfl ⟨rfl, (Below.refl _ _).alloc (Nat.le_refl _) _⟩
end W
end Go.Proofs.YtpjaoapnangccaaGreatDoor
namespace Go.Proofs.YtpjaoapnangccaaGreatDoor
open Go Go.RowKit Go.Deep Go.Sort
/-- A span is stored into a row of two cells. -/
theorem span_store {w0 w : World} {A : Nat} {x0 y0 : Value} (x y : Value) (hr : Row w A 24 [x0, y0]) (hA : w0.heap.size ≤ A) (hb : Below w0.heap.size w0 w) :
    ((w.setCell ⟨A, 0, none⟩ x).setCell ⟨A, 1, none⟩ y).cell? ⟨A, 0, none⟩ = some x ∧ ((w.setCell ⟨A, 0, none⟩ x).setCell ⟨A, 1, none⟩ y).cell? ⟨A, 1, none⟩ = some y ∧
      Below w0.heap.size w0 ((w.setCell ⟨A, 0, none⟩ x).setCell ⟨A, 1, none⟩ y) := by
  have h2 := (hr.set 0 x).set 1 y
  exact ⟨h2.cell rfl, h2.cell rfl, (hb.setCell (p := ⟨A, 0, none⟩) hA x).setCell (p := ⟨A, 1, none⟩) hA y⟩
namespace W
open M
attribute [local go_sem] bs_size bs_toList bs_get bs_extract bs_append bs_lit0 bs_lit1 lit1_bs
set_option maxHeartbeats 1000000
set_option maxRecDepth 20000
theorem rparts_bad (p : List UInt8) (w : World) (hg : Glob w) (hl : p.length ≤ 90000) (h : chkR p ≠ 0) :
    Calls Tryz.prog 92 #[.string (bs p)] w (Ret w (.tuple #[.string (bs []), .string (bs []), .int .i64 ((chkR p : Nat) : Int)])) := by
  have HC := Lib.hid (vcheckR p w hg hl)
  have hz : (((chkR p : Nat) : Int) != 0) = true := by simp; exact h
  clear h
  generalize chkR p = c at *
  go_enter Tryz.func92, Tryz.ntmps92
  go_wp2_with fail
  refine (HC.out).mono ?_
  rintro e w1 ⟨rfl, hb1⟩
  go_wp2
  refine bodyPost_ret (v := .tuple #[.string (bs []), .string (bs []), .int .i64 (c : Int)]) (by simp [results, Tryz.results92, go_sem]; rfl) rfl ⟨rfl, hb1⟩
theorem rparts_ok (q : Rat) (k : Nat) (w : World) (hg : Glob w) (hq : Bq k q) (hk : k ≤ 1024) :
    Calls Tryz.prog 92 #[.string (bs (R q))] w (Ret w (.tuple #[.string (bs (I q.num)), .string (bs (I (q.den : Int))), .int .i64 0])) := by
  have hlen := hq.R_len hk
  have hc := vcheckR (R q) w hg (by omega)
  rw [hq.chk hk] at hc
  have HC := Lib.hid hc
  have HU := Lib.hid (fun wx hgx => cut_any (R q) wx hgx (by omega))
  rw [R_cutN, R_cutD] at HU
  clear hc hlen hq hk
  generalize I q.num = a at *
  generalize I (q.den : Int) = b at *
  generalize R q = s at *
  go_enter Tryz.func92, Tryz.ntmps92
  go_wp2_with fail
  refine (HC.out).mono ?_
  rintro e w1 ⟨rfl, hb1⟩
  go_wp2_with fail
  refine (HU.out _ (hg.of hb1)).mono ?_
  rintro e w2 ⟨rfl, hb2⟩
  go_wp2
  go_ret3
  exact Ret.of rfl (Below.then hb1 hb2)
theorem rsign_bad (p : List UInt8) (w : World) (hg : Glob w) (hl : p.length ≤ 90000) (h : chkR p ≠ 0) :
    Calls Tryz.prog 53 #[.string (bs p)] w (Ret w (.tuple #[.int .i64 0, .int .i64 ((chkR p : Nat) : Int)])) := by
  have HC := Lib.hid (rparts_bad p w hg hl h)
  have hz : (((chkR p : Nat) : Int) != 0) = true := by simp; exact h
  clear h
  generalize ((chkR p : Nat) : Int) = c at *
  go_enter Tryz.func53, Tryz.ntmps53
  go_wp2_with fail
  refine (HC.out).mono ?_
  rintro e w1 ⟨rfl, hb1⟩
  go_wp2
  go_ret2
  exact Ret.of rfl hb1
theorem rsign_ok (q : Rat) (k : Nat) (w : World) (hg : Glob w) (hq : Bq k q) (hk : k ≤ 1024) :
    Calls Tryz.prog 53 #[.string (bs (R q))] w (Ret w (.tuple #[.int .i64 (Int.sign q.num), .int .i64 0])) := by
  have HC := Lib.hid (rparts_ok q k w hg hq hk)
  have HS := Lib.hid (fun wx => vSign_I q.num wx (hq.num hk))
  clear hq hk
  generalize Int.sign q.num = sg at *
  generalize I q.num = a at *
  generalize I (q.den : Int) = b at *
  generalize R q = s at *
  go_enter Tryz.func53, Tryz.ntmps53
  go_wp2_with fail
  refine (HC.out).mono ?_
  rintro e w1 ⟨rfl, hb1⟩
  go_wp2_with fail
  refine (HS.out _).mono ?_
  rintro e w2 ⟨rfl, hb2⟩
  go_wp2
  go_ret2
  exact Ret.of rfl (Below.then hb1 hb2)
end W
end Go.Proofs.YtpjaoapnangccaaGreatDoor
namespace Go.Proofs.YtpjaoapnangccaaGreatDoor
open Go Go.RowKit Go.Deep Go.Sort
namespace M
theorem half_R : R (Rat.divInt 1 2) = [49, 47, 50] := by
  rw [R_frac (by decide) (by decide), I_one, show (2 : Int) = ((2 : Nat) : Int) from rfl, I_dig (by decide)]; rfl
theorem half_b : Bq 1 (Rat.divInt 1 2) := Bq_div (by decide) (by decide) (by decide)
end M
namespace W
open M
attribute [local go_sem] bs_size bs_toList bs_get bs_extract bs_append bs_lit0 bs_lit1 lit1_bs
set_option maxHeartbeats 2000000
set_option maxRecDepth 20000
/-- The result of an operation on spans. -/
abbrev spR (p : PT) (c : Int) : Value := .tuple #[spV p, .int .i64 c]
theorem pof_bad (lo hi : Int) (w : World) (h : hi < lo) : Calls Tryz.prog 30 #[.int .i64 lo, .int .i64 hi] w (Ret w (spR ([], []) 9)) := by
  have hd : decide (hi < lo) = true := decide_eq_true h
  have hr := Row.new w 24 [.string ⟨#[]⟩, .string ⟨#[]⟩]
  have hx := span_store (w0 := w) (.string ⟨#[]⟩) (.string ⟨#[]⟩) hr (Nat.le_refl _) ((Below.refl _ _).alloc (Nat.le_refl _) _)
  have HX := Lib.hid hx
  have f0 := hr.free 0
  have f1 := (hr.set 0 (.string ⟨#[]⟩)).free 1
  have c0 := hr.cell (i := 0) rfl
  have c1 := (hr.set 0 (.string ⟨#[]⟩)).cell (i := 1) rfl
  clear hx hr
  go_enter Tryz.func30, Tryz.ntmps30
  go_wp2
  refine bodyPost_ret (v := spR ([], []) 9) (by simp [results, Tryz.results30, go_sem, c0]; rfl) rfl ⟨rfl, (Below.refl _ _).alloc (Nat.le_refl _) _⟩
theorem pof_ok (lo hi : Int) (w : World) (hg : Glob w) (h : lo ≤ hi) (hl : -9223372036854775808 ≤ lo ∧ lo ≤ 9223372036854775807) (hh : -9223372036854775808 ≤ hi ∧ hi ≤ 9223372036854775807) :
    Calls Tryz.prog 30 #[.int .i64 lo, .int .i64 hi] w (Ret w (spR (R (lo : Rat), R (hi : Rat)) 0)) := by
  have hd : decide (hi < lo) = false := decide_eq_false (by omega)
  have H1 := Lib.hid (fun wx hgx => ratWhole lo wx hgx hl.1 hl.2)
  have H2 := Lib.hid (fun wx hgx => ratWhole hi wx hgx hh.1 hh.2)
  have hba := (Below.refl w.heap.size w).alloc (Nat.le_refl _) (.cells #[.string ⟨#[]⟩, .string ⟨#[]⟩] 24 (0, 0))
  have HG := Lib.hid (And.intro (hg.of hba) (And.intro hba (Row.new w 24 [.string ⟨#[]⟩, .string ⟨#[]⟩])))
  clear hba h hl hh
  generalize R (lo : Rat) = r1 at *
  generalize R (hi : Rat) = r2 at *
  go_enter Tryz.func30, Tryz.ntmps30
  go_wp2_with fail
  refine (H1.out _ HG.out.1).mono ?_
  rintro e w1 ⟨rfl, hb1⟩
  have hbz1 := HG.out.2.1.trans (hb1.mono HG.out.2.1.size)
  go_wp2_with fail
  refine (H2.out _ (hg.of hbz1)).mono ?_
  rintro e w2 ⟨rfl, hb2⟩
  have hb3 := hb1.trans (hb2.mono hb1.size)
  have hbz := HG.out.2.1.trans (hb3.mono HG.out.2.1.size)
  have hr := HG.out.2.2.below' hb3
  have f0 := hr.free 0
  have f1 := (hr.set 0 (.string (bs r1))).free 1
  have c0 := hr.cell (i := 0) rfl
  have c1 := (hr.set 0 (.string (bs r1))).cell (i := 1) rfl
  obtain ⟨q0, q1, q2⟩ := span_store (w0 := w) (.string (bs r1)) (.string (bs r2)) hr (Nat.le_refl _) hbz
  have HQ := Lib.hid q2
  clear hb1 hb2 hb3 hbz hbz1 hr q2
  go_wp2
  refine bodyPost_ret (v := spR (r1, r2) 0) (by simp [results, Tryz.results30, go_sem, q0, q1]) rfl ⟨rfl, HQ.out⟩
theorem pwidth_bad (p : PT) (w : World) (hg : Glob w) (h1 : Sht p.1) (h2 : Sht p.2) (h : chkP p ≠ 0) :
    Calls Tryz.prog 32 #[spV p] w (Ret w (.tuple #[.string (bs []), .int .i64 ((chkP p : Nat) : Int)])) := by
  have HC := Lib.hid (fun wx hgx => pcheck p wx hgx h1 h2)
  have HG := Lib.hid (hg.of ((Below.refl w.heap.size w).alloc (Nat.le_refl _) (.cells #[.string (bs p.1), .string (bs p.2)] 24 (0, 0))))
  have hz : (((chkP p : Nat) : Int) != 0) = true := by simp; exact h
  clear h h1 h2
  generalize ((chkP p : Nat) : Int) = c at *
  go_enter Tryz.func32, Tryz.ntmps32
  go_wp2_with fail
  refine (HC.out _ HG.out).mono ?_
  rintro e w1 ⟨rfl, hb1⟩
  go_wp2
  go_ret2
  exact Ret.of rfl (alloc_then hb1)
theorem pwidth_ok (a : SQ) (w : World) (hg : Glob w) (h : SpB 30 a) :
    Calls Tryz.prog 32 #[spV (R a.1, R a.2)] w (Ret w (.tuple #[.string (bs (R (a.2 - a.1))), .int .i64 0])) := by
  have hc := fun wx hgx => pcheck (R a.1, R a.2) wx hgx (Sht.R h.2.1) (Sht.R h.2.2)
  rw [chkP_sp (by decide) h] at hc
  have HC := Lib.hid hc
  have HS := Lib.hid (fun wx hgx => ratSub a.2 a.1 30 30 wx hgx h.2.2 h.2.1 (by decide))
  have HR := Lib.hid (Row.new w 24 [.string (bs (R a.1)), .string (bs (R a.2))])
  have HG := Lib.hid (hg.of ((Below.refl w.heap.size w).alloc (Nat.le_refl _) (.cells #[.string (bs (R a.1)), .string (bs (R a.2))] 24 (0, 0))))
  clear hc h
  generalize R (a.2 - a.1) = r at *
  generalize R a.1 = x at *
  generalize R a.2 = y at *
  go_enter Tryz.func32, Tryz.ntmps32
  go_wp2_with fail
  refine (HC.out _ HG.out).mono ?_
  rintro e w1 ⟨rfl, hb1⟩
  have hr := HR.out.below' hb1
  have c0 := hr.cell (i := 0) rfl
  have c1 := hr.cell (i := 1) rfl
  have hb1' := alloc_then hb1
  clear hr
  go_wp2_with fail
  refine (HS.out _ (hg.of hb1')).mono ?_
  rintro e w2 ⟨rfl, hb2⟩
  go_wp2
  go_ret2
  exact Ret.of rfl (Below.then hb1' hb2)
theorem pmiddle_bad (p : PT) (w : World) (hg : Glob w) (h1 : Sht p.1) (h2 : Sht p.2) (h : chkP p ≠ 0) :
    Calls Tryz.prog 36 #[spV p] w (Ret w (.tuple #[.string (bs []), .int .i64 ((chkP p : Nat) : Int)])) := by
  have HC := Lib.hid (fun wx hgx => pcheck p wx hgx h1 h2)
  have HG := Lib.hid (hg.of ((Below.refl w.heap.size w).alloc (Nat.le_refl _) (.cells #[.string (bs p.1), .string (bs p.2)] 24 (0, 0))))
  have hz : (((chkP p : Nat) : Int) != 0) = true := by simp; exact h
  clear h h1 h2
  generalize ((chkP p : Nat) : Int) = c at *
  go_enter Tryz.func36, Tryz.ntmps36
  go_wp2_with fail
  refine (HC.out _ HG.out).mono ?_
  rintro e w1 ⟨rfl, hb1⟩
  go_wp2
  go_ret2
  exact Ret.of rfl (alloc_then hb1)
theorem pmiddle_ok (a : SQ) (w : World) (hg : Glob w) (h : SpB 30 a) :
    Calls Tryz.prog 36 #[spV (R a.1, R a.2)] w (Ret w (.tuple #[.string (bs (R (midQ a.1 a.2))), .int .i64 0])) := by
  have hc := fun wx hgx => pcheck (R a.1, R a.2) wx hgx (Sht.R h.2.1) (Sht.R h.2.2)
  rw [chkP_sp (by decide) h] at hc
  have HC := Lib.hid hc
  have HS := Lib.hid (fun wx hgx => ratAdd a.1 a.2 30 30 wx hgx h.2.1 h.2.2 (by decide))
  have HM := Lib.hid (fun wx hgx => ratMul (a.1 + a.2) (Rat.divInt 1 2) 61 1 wx hgx (h.2.1.add h.2.2) half_b (by decide))
  have HR := Lib.hid (Row.new w 24 [.string (bs (R a.1)), .string (bs (R a.2))])
  have HG := Lib.hid (hg.of ((Below.refl w.heap.size w).alloc (Nat.le_refl _) (.cells #[.string (bs (R a.1)), .string (bs (R a.2))] 24 (0, 0))))
  rw [half_R] at HM
  unfold midQ
  clear hc h
  generalize R ((a.1 + a.2) * Rat.divInt 1 2) = r at *
  generalize R (a.1 + a.2) = z at *
  generalize R a.1 = x at *
  generalize R a.2 = y at *
  go_enter Tryz.func36, Tryz.ntmps36
  go_wp2_with fail
  refine (HC.out _ HG.out).mono ?_
  rintro e w1 ⟨rfl, hb1⟩
  have hr := HR.out.below' hb1
  have c0 := hr.cell (i := 0) rfl
  have c1 := hr.cell (i := 1) rfl
  have hb1' := alloc_then hb1
  clear hr
  go_wp2_with fail
  refine (HS.out _ (hg.of hb1')).mono ?_
  rintro e w2 ⟨rfl, hb2⟩
  have hb2' := Below.then hb1' hb2
  go_wp2_with fail
  refine (HM.out _ (hg.of hb2')).mono ?_
  rintro e w3 ⟨rfl, hb3⟩
  go_wp2
  go_ret2
  exact Ret.of rfl (Below.then hb2' hb3)
end W
end Go.Proofs.YtpjaoapnangccaaGreatDoor
