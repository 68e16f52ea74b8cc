/-
  Chapter 26 of the reference: 'Within', 'Total', 'Mean', 'Variance', 'Probability'.
  Chapter 26: 'Unit' of the reference, and what a quantile is.
  Chapter 26: 'Quantile' of the program and of the reference.
  Lists that a call makes by 'append': of texts, and of values with weights; and lists that are read.
  'slices.Reverse' of values with weights.
-/
import Derived.Test.YtgjfiaadnecilaaGreatDoorKH
import Derived.Laws.OwnMore
import Derived.Laws.StructEq
import Derived.RegionTactic
import Derived.ChangeAlike
import Derived.BigRegion
namespace Go.Proofs.YtgjfiaadnecilaaGreatDoor
open Go Go.RowKit Go.Deep
namespace M
theorem inn_in {lo hi : Int} {x : ZT} (h : lo ≤ x.1 ∧ x.1 ≤ hi) : inn lo hi x = x.2 := by unfold inn; rw [if_neg (by omega)]
theorem inn_out {lo hi : Int} {x : ZT} (h : ¬ (lo ≤ x.1 ∧ x.1 ≤ hi)) : inn lo hi x = 0 := by unfold inn; rw [if_pos (by omega)]
theorem GoodL.inn_bd {zl : List ZT} (h : GoodL zl) (lo hi : Int) : ∀ x ∈ zl, (inn lo hi x).natAbs < 10 ^ 40 := fun x hx => Nat.lt_of_le_of_lt (inn_abs lo hi x) (h.2.2.2 x hx)
theorem parQ_in {zl : List ZT} {lo hi : Int} {i : Nat} (hlt : i < zl.length) (h : lo ≤ zl[i].1 ∧ zl[i].1 ≤ hi) : parQ (inn lo hi) zl (i + 1) = parQ (inn lo hi) zl i + chQ zl zl[i].2 := by
  rw [parQ_succ _ _ _ hlt, inn_in h]; rfl
theorem parQ_out {zl : List ZT} {lo hi : Int} {i : Nat} (hlt : i < zl.length) (h : ¬ (lo ≤ zl[i].1 ∧ zl[i].1 ≤ hi)) : parQ (inn lo hi) zl (i + 1) = parQ (inn lo hi) zl i := by
  rw [parQ_succ _ _ _ hlt, inn_out h, Rat.zero_divInt, Rat.add_zero]
theorem parQ_inn (zl : List ZT) (lo hi : Int) : parQ (inn lo hi) zl zl.length = probQ zl lo hi := by unfold parQ; rw [psm_all]; rfl
end M
namespace W
open M
attribute [local go_sem] bs_size bs_toList bs_get bs_extract bs_append bs_lit0 bs_lit1 lit1_bs
set_option maxHeartbeats 1000000
set_option maxRecDepth 20000
theorem rwithin_ok (zl : List ZT) (b o cap : Nat) (lo hi : Int) (w : World) (hw : WSl w b o (tx zl)) (h : GoodL zl) :
    Calls Tryz.prog 53 #[.slice (some ⟨b, o, none⟩) zl.length cap, .int .i64 lo, .int .i64 hi] w (Ret w (.string (bs (R (probQ zl lo hi))))) := by
  have HW := Lib.hid hw
  have hl := h.2.2.1
  have hblt := hw.lt
  have HT := Lib.hid (parQ_inn zl lo hi)
  rw [← HT.out]
  have HZ := Lib.hid (parQ_zero (inn lo hi) zl)
  have H0 := Lib.hid R_zero
  have HCH := Lib.hid (fun i (hlt : i < zl.length) wx (hb : Below w.heap.size w wx) => chance_ok zl b o cap i wx (hw.below' hb) h hlt)
  have HPL := Lib.hid (fun i (hlt : i < zl.length) wx => plus_R (parQ (inn lo hi) zl i) (chQ zl zl[i].2) wx ((h.par_bq (inn lo hi) 40 (by decide) (h.inn_bd lo hi) i (Nat.le_of_lt hlt)).sh (by decide) (by decide)) ((h.ch_bq _ (List.getElem_mem hlt)).sh (by decide) (by decide)))
  clear hw h
  go_enter Tryz.func53, Tryz.ntmps53
  go_wp2
  go_loopw [7, 8] (fun ov iv wr => ∃ i : Nat, iv = .int .i64 (i : Int) ∧ i ≤ zl.length ∧ ov = .string (bs (R (parQ (inn lo hi) zl i))) ∧ Below w.heap.size w wr) (fun _ iv _ => zl.length - (intOf iv).toNat)
  case atStart =>
    refine ⟨0, rfl, by omega, ?_, Below.refl _ _⟩
    rw [HZ.out, H0.out]; rfl
  case round =>
    obtain ⟨i, rfl, hil, rfl, hbw⟩ := hrel
    by_cases hlt : i < zl.length
    · have hwr := HW.out.below' hbw
      have hlt' : i < (tx zl).length := by rw [tx_len]; exact hlt
      have cv := hwr.val i hlt'
      rw [tx_get zl i hlt] at cv
      simp only at cv
      have HC := Lib.hid (HCH.out i hlt)
      have hp := HPL.out i hlt
      by_cases h1 : lo ≤ zl[i].1
      · by_cases h2 : zl[i].1 ≤ hi
        · rw [← parQ_in hlt ⟨h1, h2⟩] at hp
          have HP := Lib.hid hp
          clear hwr hlt' hp
          generalize hq1 : parQ (inn lo hi) zl (i + 1) = q1 at *
          have HQ1 := Lib.hid hq1
          clear hq1
          generalize parQ (inn lo hi) zl i = q0 at *
          generalize chQ zl zl[i].2 = c at *
          generalize zl[i].1 = v at *
          go_wp2_with fail
          refine (HC.out _ hbw).mono ?_
          rintro e w1 ⟨rfl, hb1⟩
          go_wp2_with fail
          refine (HP.out _).mono ?_
          rintro e w2 ⟨rfl, hb2⟩
          have hb3 := hbw.trans ((Below.then hb1 hb2).mono hbw.size)
          go_wp2
          go_roundw
          case rel => exact ⟨i + 1, by go_num, by omega, by rw [HQ1.out], hb3⟩
          case measure => simp [intOf]; omega
        · have HQ := Lib.hid (parQ_out (lo := lo) hlt (fun h => h2 h.2))
          have hd : decide (zl[i].1 ≤ hi) = false := decide_eq_false h2
          clear hwr hlt' hp
          go_wp2
          go_roundw
          case rel => exact ⟨i + 1, by go_num, by omega, by rw [HQ.out], hbw⟩
          case measure => simp [intOf]; omega
      · have HQ := Lib.hid (parQ_out (hi := hi) hlt (fun h => h1 h.1))
        have hd : decide (lo ≤ zl[i].1) = false := decide_eq_false h1
        clear hwr hlt' hp
        go_wp2
        go_roundw
        case rel => exact ⟨i + 1, by go_num, by omega, by rw [HQ.out], hbw⟩
        case measure => simp [intOf]; omega
    · obtain rfl : i = zl.length := by omega
      go_wp2
      go_ret
      exact Ret.of rfl hbw
/-- What the reference's 'Check' says at a list, wherever it is asked. -/
def ChkE (v : Value) (c : Nat) (w : World) : Prop := ∀ wx, Below w.heap.size w wx → Calls Tryz.prog 25 #[v] wx (Ret wx (.int .i64 (c : Int)))
theorem ChkE.below {v : Value} {c : Nat} {w w' : World} (h : ChkE v c w) (hb : Below w.heap.size w w') : ChkE v c w' := fun wx hx => h wx (Below.then hb hx)
theorem chke_good {zl : List ZT} (b o cap : Nat) (w : World) (hw : WSl w b o (tx zl)) (h : GoodL zl) : ChkE (.slice (some ⟨b, o, none⟩) zl.length cap) 0 w := by
  intro wx hx
  have := rcheck_some (tx zl) b o cap wx (hw.below' hx) h.ne (by rw [M.tx_len]; exact h.tx_len) h.slen
  rw [h.chkW, M.tx_len] at this
  exact this
theorem rtotal_bad (v : Value) (c : Nat) (w : World) (hc : ChkE v c w) (h0 : c ≠ 0) : Calls Tryz.prog 19 #[v] w (Ret w (.tuple #[.string (bs []), .int .i64 (c : Int)])) := by
  have HC := Lib.hid hc
  have hz : ((c : Int) == 0) = false := by simp; exact h0
  clear hc h0
  go_enter Tryz.func19, Tryz.ntmps19
  go_wp2_with fail
  refine (HC.out _ (Below.refl _ _)).mono ?_
  rintro e w1 ⟨rfl, hb1⟩
  go_wp2
  go_ret2
  exact Ret.of rfl hb1
theorem rmean_bad (v : Value) (c : Nat) (w : World) (hc : ChkE v c w) (h0 : c ≠ 0) : Calls Tryz.prog 21 #[v] w (Ret w (.tuple #[.string (bs []), .int .i64 (c : Int)])) := by
  have HC := Lib.hid hc
  have hz : ((c : Int) == 0) = false := by simp; exact h0
  clear hc h0
  go_enter Tryz.func21, Tryz.ntmps21
  go_wp2_with fail
  refine (HC.out _ (Below.refl _ _)).mono ?_
  rintro e w1 ⟨rfl, hb1⟩
  go_wp2
  go_ret2
  exact Ret.of rfl hb1
theorem rvariance_bad (v : Value) (c : Nat) (w : World) (hc : ChkE v c w) (h0 : c ≠ 0) : Calls Tryz.prog 23 #[v] w (Ret w (.tuple #[.string (bs []), .int .i64 (c : Int)])) := by
  have HC := Lib.hid hc
  have hz : ((c : Int) == 0) = false := by simp; exact h0
  clear hc h0
  go_enter Tryz.func23, Tryz.ntmps23
  go_wp2_with fail
  refine (HC.out _ (Below.refl _ _)).mono ?_
  rintro e w1 ⟨rfl, hb1⟩
  go_wp2
  go_ret2
  exact Ret.of rfl hb1
theorem rprobability_bad (v : Value) (c : Nat) (lo hi : Int) (w : World) (hc : ChkE v c w) (h0 : c ≠ 0) : Calls Tryz.prog 15 #[v, .agg #[.int .i64 lo, .int .i64 hi]] w (Ret w (.tuple #[.string (bs []), .int .i64 (c : Int)])) := by
  have HC := Lib.hid hc
  have hz : ((c : Int) == 0) = false := by simp; exact h0
  clear hc h0
  go_enter Tryz.func15, Tryz.ntmps15
  go_wp2_with fail
  refine (HC.out _ ((Below.refl _ _).alloc (Nat.le_refl _) _)).mono ?_
  rintro e w1 ⟨rfl, hb1⟩
  have hb1' := alloc_then hb1
  go_wp2
  go_ret2
  exact Ret.of rfl hb1'
theorem rtotal_ok (zl : List ZT) (b o cap : Nat) (w : World) (hw : WSl w b o (tx zl)) (h : GoodL zl) :
    Calls Tryz.prog 19 #[.slice (some ⟨b, o, none⟩) zl.length cap] w (Ret w (.tuple #[.string (bs (I (tot zl))), .int .i64 0])) := by
  have HC := Lib.hid (chke_good b o cap w hw h)
  have HS := Lib.hid (fun wx (hb : Below w.heap.size w wx) => rwhole_ok zl b o cap wx (hw.below' hb) h)
  clear hw h
  generalize tot zl = t at *
  go_enter Tryz.func19, Tryz.ntmps19
  go_wp2_with fail
  refine (HC.out _ (Below.refl _ _)).mono ?_
  rintro e w1 ⟨rfl, hb1⟩
  go_wp2_with fail
  refine (HS.out _ hb1).mono ?_
  rintro e w2 ⟨rfl, hb2⟩
  go_wp2
  go_ret2
  exact Ret.of rfl (Below.then hb1 hb2)
theorem rmean_ok (zl : List ZT) (b o cap : Nat) (w : World) (hw : WSl w b o (tx zl)) (h : GoodL zl) :
    Calls Tryz.prog 21 #[.slice (some ⟨b, o, none⟩) zl.length cap] w (Ret w (.tuple #[.string (bs (R (meanQ zl))), .int .i64 0])) := by
  have HC := Lib.hid (chke_good b o cap w hw h)
  have HS := Lib.hid (fun wx (hb : Below w.heap.size w wx) => rcenter_ok zl b o cap wx (hw.below' hb) h)
  clear hw h
  generalize meanQ zl = t at *
  go_enter Tryz.func21, Tryz.ntmps21
  go_wp2_with fail
  refine (HC.out _ (Below.refl _ _)).mono ?_
  rintro e w1 ⟨rfl, hb1⟩
  go_wp2_with fail
  refine (HS.out _ hb1).mono ?_
  rintro e w2 ⟨rfl, hb2⟩
  go_wp2
  go_ret2
  exact Ret.of rfl (Below.then hb1 hb2)
theorem rvariance_ok (zl : List ZT) (b o cap : Nat) (w : World) (hw : WSl w b o (tx zl)) (h : GoodL zl) :
    Calls Tryz.prog 23 #[.slice (some ⟨b, o, none⟩) zl.length cap] w (Ret w (.tuple #[.string (bs (R (varQ zl))), .int .i64 0])) := by
  have HC := Lib.hid (chke_good b o cap w hw h)
  have HS := Lib.hid (fun wx (hb : Below w.heap.size w wx) => rspread_ok zl b o cap wx (hw.below' hb) h)
  clear hw h
  generalize varQ zl = t at *
  go_enter Tryz.func23, Tryz.ntmps23
  go_wp2_with fail
  refine (HC.out _ (Below.refl _ _)).mono ?_
  rintro e w1 ⟨rfl, hb1⟩
  go_wp2_with fail
  refine (HS.out _ hb1).mono ?_
  rintro e w2 ⟨rfl, hb2⟩
  go_wp2
  go_ret2
  exact Ret.of rfl (Below.then hb1 hb2)
theorem rprobability_ok (zl : List ZT) (b o cap : Nat) (lo hi : Int) (w : World) (hw : WSl w b o (tx zl)) (h : GoodL zl) (hle : lo ≤ hi) :
    Calls Tryz.prog 15 #[.slice (some ⟨b, o, none⟩) zl.length cap, .agg #[.int .i64 lo, .int .i64 hi]] w (Ret w (.tuple #[.string (bs (R (probQ zl lo hi))), .int .i64 0])) := by
  have HC := Lib.hid (chke_good b o cap w hw h)
  have HS := Lib.hid (fun wx (hb : Below w.heap.size w wx) => rwithin_ok zl b o cap lo hi wx (hw.below' hb) h)
  clear hw h
  generalize probQ zl lo hi = q at *
  go_enter Tryz.func15, Tryz.ntmps15
  go_wp2_with fail
  refine (HC.out _ ((Below.refl _ _).alloc (Nat.le_refl _) _)).mono ?_
  rintro e w1 ⟨rfl, hb1⟩
  have hr := (Row.new w 24 [.int .i64 lo, .int .i64 hi]).below' hb1
  have c0 := hr.cell (i := 0) rfl
  have c1 := hr.cell (i := 1) rfl
  have hb1' := alloc_then hb1
  clear hr hb1
  go_wp2_with fail
  refine (HS.out _ hb1').mono ?_
  rintro e w3 ⟨rfl, hb3⟩
  go_wp2
  go_ret2
  exact Ret.of rfl (Below.then hb1' hb3)
theorem rprobability_order (v : Value) (lo hi : Int) (w : World) (hc : ChkE v 0 w) (hle : hi < lo) :
    Calls Tryz.prog 15 #[v, .agg #[.int .i64 lo, .int .i64 hi]] w (Ret w (.tuple #[.string (bs []), .int .i64 9])) := by
  have HC := Lib.hid hc
  clear hc
  go_enter Tryz.func15, Tryz.ntmps15
  go_wp2_with fail
  refine (HC.out _ ((Below.refl _ _).alloc (Nat.le_refl _) _)).mono ?_
  rintro e w1 ⟨rfl, hb1⟩
  have hr := (Row.new w 24 [.int .i64 lo, .int .i64 hi]).below' hb1
  have c0 := hr.cell (i := 0) rfl
  have c1 := hr.cell (i := 1) rfl
  have hb1' := alloc_then hb1
  clear hr hb1
  go_wp2
  go_ret2
  exact Ret.of rfl hb1'
end W
end Go.Proofs.YtgjfiaadnecilaaGreatDoor
namespace Go.Proofs.YtgjfiaadnecilaaGreatDoor
open Go Go.RowKit Go.Deep
namespace M
theorem RightZ.above : ∀ {l : List ZT} {u : Int}, RightZ (some u) l → ∀ y ∈ l, u < y.1
  | [], _, _, y, hy => by cases hy
  | x :: t, u, h, y, hy => by
    have hx := h.2.2.2.1 u rfl
    rcases List.mem_cons.1 hy with rfl | hy
    · exact hx
    · have := RightZ.above h.2.2.2.2 y hy; omega
theorem sm_zero : ∀ {l : List ZT} {g : ZT → Int}, (∀ x ∈ l, g x = 0) → sm (l.map g) = 0
  | [], _, _ => rfl
  | x :: t, g, h => by
    rw [List.map_cons, sm, h x (by simp), sm_zero (fun y hy => h y (by simp [hy]))]; rfl
theorem inw_cum : ∀ {zl : List ZT} {p : Option Int} {lo : Int}, RightZ p zl → (∀ x ∈ zl, lo ≤ x.1) → ∀ (i : Nat) (h : i < zl.length), sm (zl.map (inn lo zl[i].1)) = sm ((zl.take (i + 1)).map (·.2))
  | [], _, _, _, _, i, h => by cases h
  | x :: t, p, lo, hr, hlo, i, h => by
    rcases i with _ | j
    · simp only [List.getElem_cons_zero, List.map_cons, sm, List.take_succ_cons, List.take_zero, List.map_nil]
      rw [inn_in ⟨hlo x (by simp), Int.le_refl _⟩, sm_zero (fun y hy => inn_out (fun hc => by have := RightZ.above hr.2.2.2.2 y hy; omega))]
    · have hj : j < t.length := by simpa using h
      simp only [List.getElem_cons_succ, List.map_cons, sm, List.take_succ_cons]
      rw [inw_cum hr.2.2.2.2 (fun y hy => hlo y (by simp [hy])) j hj, inn_in ⟨hlo x (by simp), by have := RightZ.above hr.2.2.2.2 t[j] (List.getElem_mem hj); omega⟩]
/-- The probability of the first i + 1 values. -/
def cumQ (zl : List ZT) (i : Nat) : Rat := parQ (·.2) zl (i + 1)
theorem prob_cum {zl : List ZT} {lo : Int} (h : GoodL zl) (hlo : ∀ x ∈ zl, lo ≤ x.1) (i : Nat) (hi : i < zl.length) : probQ zl lo zl[i].1 = cumQ zl i := by
  unfold probQ cumQ parQ inw psm
  rw [inw_cum h.1 hlo i hi]
theorem GoodL.first {zl : List ZT} (h : GoodL zl) (h0 : 0 < zl.length) : ∀ x ∈ zl, zl[0].1 ≤ x.1 := by
  obtain ⟨hr, hn, _⟩ := h
  match zl, hn, hr with
  | y :: t, _, hr =>
    intro x hx
    rcases List.mem_cons.1 hx with rfl | hx
    · exact Int.le_refl _
    · exact Int.le_of_lt (RightZ.above hr.2.2.2.2 x hx)
theorem GoodL.least {zl : List ZT} (h : GoodL zl) : ∀ x ∈ zl, -1048576 ≤ x.1 := fun x hx => (h.1.mem x hx).2.2.1
/-- The first value from place i on up to which the probabilities add up to p. -/
def qfrom (zl : List ZT) (p : Rat) : Nat → Nat → Int
  | 0, _ => 0
  | f + 1, i => if p ≤ cumQ zl i then (zl.getD i (0, 0)).1 else qfrom zl p f (i + 1)
def quanV (zl : List ZT) (p : Rat) : Int := qfrom zl p zl.length 0
theorem qfrom_here {zl : List ZT} {p : Rat} {i : Nat} (hi : i < zl.length) (h : p ≤ cumQ zl i) : qfrom zl p (zl.length - i) i = zl[i].1 := by
  obtain ⟨f, hf⟩ : ∃ f, zl.length - i = f + 1 := ⟨zl.length - i - 1, by omega⟩
  rw [hf, qfrom, if_pos h]; simp [List.getD, hi]
theorem qfrom_next {zl : List ZT} {p : Rat} {i : Nat} (hi : i < zl.length) (h : ¬ p ≤ cumQ zl i) : qfrom zl p (zl.length - i) i = qfrom zl p (zl.length - (i + 1)) (i + 1) := by
  obtain ⟨f, hf⟩ : ∃ f, zl.length - i = f + 1 := ⟨zl.length - i - 1, by omega⟩
  rw [hf, qfrom, if_neg h, show zl.length - (i + 1) = f by omega]
theorem cum_last {zl : List ZT} (h : GoodL zl) (i : Nat) (hi : i + 1 = zl.length) : cumQ zl i = 1 := by
  unfold cumQ; rw [hi, parQ_w h]
theorem GoodL.cum_bq {zl : List ZT} (h : GoodL zl) (i : Nat) (hi : i < zl.length) : Bq 43 (cumQ zl i) := h.par_bq (·.2) 40 (by decide) h.2.2.2 (i + 1) hi
theorem cmpQ_ge {a b : Rat} : 0 ≤ cmpQ a b ↔ b ≤ a := by
  rcases cmpQ_cases a b with ⟨h, e⟩ | ⟨h, e⟩ | ⟨h, e⟩
  · rw [e]; constructor
    · intro h2; omega
    · intro h2; exact absurd h2 (Rat.not_le.2 h)
  · rw [e]; constructor
    · intro _; rw [h]; exact Rat.le_refl
    · intro _; omega
  · rw [e]; constructor
    · intro _; exact Rat.le_of_lt h
    · intro _; omega
theorem cmpQ_gt {a b : Rat} : 0 < cmpQ a b ↔ b < a := by
  rcases cmpQ_cases a b with ⟨h, e⟩ | ⟨h, e⟩ | ⟨h, e⟩
  · rw [e]; constructor
    · intro h2; omega
    · intro h2; exact absurd (Rat.le_of_lt h2) (Rat.not_le.2 h)
  · rw [e]; constructor
    · intro h2; omega
    · intro h2; rw [h] at h2; exact absurd h2 (Rat.lt_irrefl)
  · rw [e]; constructor
    · intro _; exact h
    · intro _; omega
theorem cmpQ_lt {a b : Rat} : cmpQ a b < 0 ↔ a < b := by
  rcases cmpQ_cases a b with ⟨h, e⟩ | ⟨h, e⟩ | ⟨h, e⟩
  · rw [e]; constructor
    · intro _; exact h
    · intro _; omega
  · rw [e]; constructor
    · intro h2; omega
    · intro h2; rw [h] at h2; exact absurd h2 (Rat.lt_irrefl)
  · rw [e]; constructor
    · intro h2; omega
    · intro h2; exact absurd (Rat.le_of_lt h2) (Rat.not_le.2 h)
theorem cmpQ_bd (a b : Rat) : -1 ≤ cmpQ a b ∧ cmpQ a b ≤ 1 := by
  rcases cmpQ_cases a b with ⟨_, e⟩ | ⟨_, e⟩ | ⟨_, e⟩ <;> omega
/-- The numbers from 0 to 1. -/
def Un (q : Rat) : Prop := 0 ≤ q ∧ q ≤ 1
def unE (q : Rat) : Int := if 0 ≤ q ∧ q ≤ 1 then 0 else 2
theorem unE_yes {q : Rat} (h : Un q) : unE q = 0 := if_pos h
theorem unE_no {q : Rat} (h : ¬ Un q) : unE q = 2 := if_neg h
theorem num_sign (q : Rat) : Int.sign q.num = cmpQ q 0 := by
  unfold cmpQ
  have h1 : (0 : Rat).num = 0 := rfl
  have h2 : (0 : Rat).den = 1 := rfl
  rw [h1, h2]; simp
theorem R_one : R 1 = [49] := by
  have : ((1 : Int) : Rat) = 1 := rfl
  rw [← this, W.R_int, I_one]
theorem Bq_zero : Bq 1 (0 : Rat) := by
  have : ((0 : Int) : Rat) = 0 := rfl
  rw [← this]; exact Bq_int (by decide) (by decide)
theorem Bq_one : Bq 1 (1 : Rat) := by
  have : ((1 : Int) : Rat) = 1 := rfl
  rw [← this]; exact Bq_int (by decide) (by decide)
end M
namespace W
open M
attribute [local go_sem] bs_size bs_toList bs_get bs_extract bs_append bs_lit0 bs_lit1 lit1_bs
set_option maxHeartbeats 1000000
set_option maxRecDepth 20000
theorem unit_bad (p : List UInt8) (w : World) (hl : p.length ≤ 90000) (h : chkR p ≠ 0) :
    Calls Tryz.prog 46 #[.string (bs p)] w (Ret w (.int .i64 ((chkR p : Nat) : Int))) := by
  have HC := Lib.hid (check2_any p w hl)
  have hz : (((chkR p : Nat) : Int) == 0) = false := by simp; exact h
  clear h
  generalize chkR p = c at *
  go_enter Tryz.func46, Tryz.ntmps46
  go_wp2_with fail
  refine (HC.out).mono ?_
  rintro e w1 ⟨rfl, hb1⟩
  go_wp2
  go_ret
  exact Ret.of rfl hb1
theorem unit_R (q : Rat) (w : World) (h : Bq 30 q) :
    Calls Tryz.prog 46 #[.string (bs (R q))] w (Ret w (.int .i64 (unE q))) := by
  have hc := check2_any (R q) w (by have := h.R_len (by decide); omega)
  rw [h.chk (by decide)] at hc
  have HC := Lib.hid hc
  have HS := Lib.hid (fun wx => signum_R q wx (h.sh (by decide) (by decide)))
  rw [num_sign] at HS
  have HO := Lib.hid (fun wx => order_R q 1 wx (h.sh (by decide) (by decide)) (Bq_one.sh (by decide) (by decide)))
  have HE := Lib.hid (show Int.sign (q.num * ((1 : Rat).den : Int) - (1 : Rat).num * (q.den : Int)) = cmpQ q 1 from rfl)
  rw [HE.out] at HO
  have H1 := Lib.hid R_one
  clear hc HE
  by_cases h0 : q < 0
  · have e : ¬ Un q := fun hu => absurd hu.1 (Rat.not_le.2 h0)
    rw [unE_no e]
    have hl := cmpQ_lt.2 h0
    clear h e h0
    generalize cmpQ q 0 = c0 at *
    generalize cmpQ q 1 = c1 at *
    generalize R q = s at *
    go_enter Tryz.func46, Tryz.ntmps46
    go_wp2_with fail
    refine (HC.out).mono ?_
    rintro e w1 ⟨rfl, hb1⟩
    go_wp2_with fail
    refine (HS.out _).mono ?_
    rintro e w2 ⟨rfl, hb2⟩
    go_wp2
    go_ret
    exact Ret.of rfl (Below.then hb1 hb2)
  · have hl : 0 ≤ cmpQ q 0 := cmpQ_ge.2 (Rat.not_lt.1 h0)
    by_cases h2 : 1 < q
    · have e : ¬ Un q := fun hu => absurd hu.2 (Rat.not_le.2 h2)
      rw [unE_no e]
      have hg1 := cmpQ_gt.2 h2
      clear h e h0 h2
      generalize cmpQ q 0 = c0 at *
      generalize cmpQ q 1 = c1 at *
      generalize R q = s at *
      go_enter Tryz.func46, Tryz.ntmps46
      go_wp2_with fail
      refine (HC.out).mono ?_
      rintro e w1 ⟨rfl, hb1⟩
      go_wp2_with fail
      refine (HS.out _).mono ?_
      rintro e w2 ⟨rfl, hb2⟩
      go_wp2_with fail
      rw [show (Value.string ⟨#[49]⟩) = Value.string (bs (R 1)) by rw [H1.out]; rfl]
      refine (HO.out _).mono ?_
      rintro e w3 ⟨rfl, hb3⟩
      go_wp2
      go_ret
      exact Ret.of rfl (Below.then (Below.then hb1 hb2) hb3)
    · have e : Un q := ⟨Rat.not_lt.1 h0, Rat.not_lt.1 h2⟩
      rw [unE_yes e]
      have hg1 : cmpQ q 1 ≤ 0 := by
        rcases Int.lt_or_le 0 (cmpQ q 1) with hh | hh
        · exact absurd (cmpQ_gt.1 hh) h2
        · exact hh
      clear h e h0 h2
      generalize cmpQ q 0 = c0 at *
      generalize cmpQ q 1 = c1 at *
      generalize R q = s at *
      go_enter Tryz.func46, Tryz.ntmps46
      go_wp2_with fail
      refine (HC.out).mono ?_
      rintro e w1 ⟨rfl, hb1⟩
      go_wp2_with fail
      refine (HS.out _).mono ?_
      rintro e w2 ⟨rfl, hb2⟩
      go_wp2_with fail
      rw [show (Value.string ⟨#[49]⟩) = Value.string (bs (R 1)) by rw [H1.out]; rfl]
      refine (HO.out _).mono ?_
      rintro e w3 ⟨rfl, hb3⟩
      go_wp2
      go_ret
      exact Ret.of rfl (Below.then (Below.then hb1 hb2) hb3)
end W
end Go.Proofs.YtgjfiaadnecilaaGreatDoor
namespace Go.Proofs.YtgjfiaadnecilaaGreatDoor
open Go Go.RowKit Go.Deep
namespace W
open M
attribute [local go_sem] bs_size bs_toList bs_get bs_extract bs_append bs_lit0 bs_lit1 lit1_bs
set_option maxHeartbeats 1000000
set_option maxRecDepth 20000
theorem quantile_bad (v : Value) (s : List UInt8) (c : Nat) (w : World) (hc : ChkD v c w) (h0 : c ≠ 0) : Calls Tryz.prog 16 #[v, .string (bs s)] w (Ret w (.tuple #[.int .i64 0, .int .i64 (c : Int)])) := by
  have HC := Lib.hid hc
  have hz : ((c : Int) == 0) = false := by simp; exact h0
  clear hc h0
  go_enter Tryz.func16, Tryz.ntmps16
  go_wp2_with fail
  refine (HC.out _ (Below.refl _ _)).mono ?_
  rintro e w1 ⟨rfl, hb1⟩
  go_wp2
  go_ret2
  exact Ret.of rfl hb1
theorem quantile_form (v : Value) (s : List UInt8) (w : World) (hg : Glob w) (hc : ChkD v 0 w) (hl : s.length ≤ 90000) (h0 : chkR s ≠ 0) : Calls Tryz.prog 16 #[v, .string (bs s)] w (Ret w (.tuple #[.int .i64 0, .int .i64 ((chkR s : Nat) : Int)])) := by
  have HC := Lib.hid hc
  have HS := Lib.hid (fun wx hgx => vcheckR s wx hgx hl)
  have hz : (((chkR s : Nat) : Int) == 0) = false := by simp; exact h0
  clear hc h0
  generalize chkR s = c at *
  go_enter Tryz.func16, Tryz.ntmps16
  go_wp2_with fail
  refine (HC.out _ (Below.refl _ _)).mono ?_
  rintro e w1 ⟨rfl, hb1⟩
  go_wp2_with fail
  refine (HS.out _ (hg.of hb1)).mono ?_
  rintro e w2 ⟨rfl, hb2⟩
  go_wp2
  go_ret2
  exact Ret.of rfl (Below.then hb1 hb2)
theorem quantile_range (v : Value) (q : Rat) (w : World) (hg : Glob w) (hc : ChkD v 0 w) (hq : Bq 30 q) (h0 : ¬ Un q) : Calls Tryz.prog 16 #[v, .string (bs (R q))] w (Ret w (.tuple #[.int .i64 0, .int .i64 2])) := by
  have HC := Lib.hid hc
  have hs := fun wx hgx => vcheckR (R q) wx hgx (by have := hq.R_len (by decide); omega)
  rw [hq.chk (by decide)] at hs
  have HS := Lib.hid hs
  have HL := Lib.hid (fun wx hgx => ratCompare q 0 30 1 wx hgx hq Bq_zero (by decide))
  have HH := Lib.hid (fun wx hgx => ratCompare q 1 30 1 wx hgx hq Bq_one (by decide))
  have HZ := Lib.hid R_zero
  have H1 := Lib.hid R_one
  clear hc hs
  by_cases hlt : q < 0
  · have hl := cmpQ_lt.2 hlt
    clear hq h0 hlt
    generalize cmpQ q 0 = c0 at *
    generalize cmpQ q 1 = c1 at *
    generalize R q = s at *
    go_enter Tryz.func16, Tryz.ntmps16
    go_wp2_with fail
    refine (HC.out _ (Below.refl _ _)).mono ?_
    rintro e w1 ⟨rfl, hb1⟩
    go_wp2_with fail
    refine (HS.out _ (hg.of hb1)).mono ?_
    rintro e w2 ⟨rfl, hb2⟩
    have hb2 := Below.then hb1 hb2
    go_wp2_with fail
    rw [show (Value.string ⟨#[48]⟩) = Value.string (bs (R 0)) by rw [HZ.out]; rfl]
    refine (HL.out _ (hg.of hb2)).mono ?_
    rintro e w3 ⟨rfl, hb3⟩
    have hb3 := Below.then hb2 hb3
    go_wp2_with fail
    rw [show (Value.string ⟨#[49]⟩) = Value.string (bs (R 1)) by rw [H1.out]; rfl]
    refine (HH.out _ (hg.of hb3)).mono ?_
    rintro e w4 ⟨rfl, hb4⟩
    have hb4 := Below.then hb3 hb4
    go_wp2
    go_ret2
    exact Ret.of rfl hb4
  · have hl := cmpQ_ge.2 (Rat.not_lt.1 hlt)
    have hh := cmpQ_gt.2 (Rat.not_le.1 (fun h => h0 ⟨Rat.not_lt.1 hlt, h⟩))
    have hd : decide (cmpQ q 0 < 0) = false := decide_eq_false (by omega)
    clear hq h0 hlt
    generalize cmpQ q 0 = c0 at *
    generalize cmpQ q 1 = c1 at *
    generalize R q = s at *
    go_enter Tryz.func16, Tryz.ntmps16
    go_wp2_with fail
    refine (HC.out _ (Below.refl _ _)).mono ?_
    rintro e w1 ⟨rfl, hb1⟩
    go_wp2_with fail
    refine (HS.out _ (hg.of hb1)).mono ?_
    rintro e w2 ⟨rfl, hb2⟩
    have hb2 := Below.then hb1 hb2
    go_wp2_with fail
    rw [show (Value.string ⟨#[48]⟩) = Value.string (bs (R 0)) by rw [HZ.out]; rfl]
    refine (HL.out _ (hg.of hb2)).mono ?_
    rintro e w3 ⟨rfl, hb3⟩
    have hb3 := Below.then hb2 hb3
    go_wp2_with fail
    rw [show (Value.string ⟨#[49]⟩) = Value.string (bs (R 1)) by rw [H1.out]; rfl]
    refine (HH.out _ (hg.of hb3)).mono ?_
    rintro e w4 ⟨rfl, hb4⟩
    have hb4 := Below.then hb3 hb4
    go_wp2
    go_ret2
    exact Ret.of rfl hb4
theorem quantile_ok (zl : List ZT) (b o cap : Nat) (q : Rat) (w : World) (hg : Glob w) (hw : WSl w b o (tx zl)) (h : GoodL zl) (hq : Bq 30 q) (hu : Un q) :
    Calls Tryz.prog 16 #[.slice (some ⟨b, o, none⟩) zl.length cap, .string (bs (R q))] w (Ret w (.tuple #[.int .i64 (quanV zl q), .int .i64 0])) := by
  have HC := Lib.hid (chk_good b o cap w hg hw h)
  have hs := fun wx hgx => vcheckR (R q) wx hgx (by have := hq.R_len (by decide); omega)
  rw [hq.chk (by decide)] at hs
  have HS := Lib.hid hs
  have HL := Lib.hid (fun wx hgx => ratCompare q 0 30 1 wx hgx hq Bq_zero (by decide))
  have HH := Lib.hid (fun wx hgx => ratCompare q 1 30 1 wx hgx hq Bq_one (by decide))
  have HZ := Lib.hid R_zero
  have H1 := Lib.hid R_one
  have HW := Lib.hid hw
  have hl := h.2.2.1
  have hnl : 0 < zl.length := List.length_pos_iff.2 h.2.1
  have hblt := hw.lt
  have HP := Lib.hid (fun i (hlt : i < zl.length) wx (hb : Below w.heap.size w wx) => (by
    have := probability_ok zl b o cap (-1048576) zl[i].1 wx (hg.of hb) (hw.below' hb) h (h.least _ (List.getElem_mem hlt))
    rw [prob_cum h h.least i hlt] at this
    exact this : Calls Tryz.prog 14 #[.slice (some ⟨b, o, none⟩) zl.length cap, .agg #[.int .i64 (-1048576), .int .i64 zl[i].1]] wx (Ret wx (.tuple #[.string (bs (R (cumQ zl i))), .int .i64 0]))))
  have HK := Lib.hid (fun i (hlt : i < zl.length) wx hgx => ratCompare (cumQ zl i) q 43 30 wx hgx (h.cum_bq i hlt) hq (by decide))
  have HLA := Lib.hid (cum_last h)
  have hl0 := cmpQ_ge.2 hu.1
  have hh : cmpQ q 1 ≤ 0 := by
    rcases Int.lt_or_le 0 (cmpQ q 1) with hh | hh
    · exact absurd (cmpQ_gt.1 hh) (Rat.not_lt.2 hu.2)
    · exact hh
  have hd : decide (cmpQ q 0 < 0) = false := decide_eq_false (by omega)
  have HU := Lib.hid hu.2
  generalize hqv : quanV zl q = qv
  have HQV := Lib.hid hqv
  clear hs hq hu hw h hqv
  generalize cmpQ q 0 = c0 at *
  generalize cmpQ q 1 = c1 at *
  generalize R q = s at *
  go_enter Tryz.func16, Tryz.ntmps16
  go_wp2_with fail
  refine (HC.out _ (Below.refl _ _)).mono ?_
  rintro e w1 ⟨rfl, hb1⟩
  go_wp2_with fail
  refine (HS.out _ (hg.of hb1)).mono ?_
  rintro e w2 ⟨rfl, hb2⟩
  have hb2 := Below.then hb1 hb2
  go_wp2_with fail
  rw [show (Value.string ⟨#[48]⟩) = Value.string (bs (R 0)) by rw [HZ.out]; rfl]
  refine (HL.out _ (hg.of hb2)).mono ?_
  rintro e w3 ⟨rfl, hb3⟩
  have hb3 := Below.then hb2 hb3
  go_wp2_with fail
  rw [show (Value.string ⟨#[49]⟩) = Value.string (bs (R 1)) by rw [H1.out]; rfl]
  refine (HH.out _ (hg.of hb3)).mono ?_
  rintro e w4 ⟨rfl, hb4⟩
  have hb4 := Below.then hb3 hb4
  clear hb1 hb2 hb3
  go_wp2
  go_loopw [46] (fun iv wr => ∃ i : Nat, iv = .int .i64 (i : Int) ∧ i < zl.length ∧ Hid (quanV zl q = qfrom zl q (zl.length - i) i) ∧ Below w.heap.size w wr) (fun iv _ => zl.length - (intOf iv).toNat)
  case atStart => exact ⟨0, rfl, hnl, (rfl : quanV zl q = qfrom zl q zl.length 0), hb4⟩
  case round =>
    clear hb4
    obtain ⟨i, rfl, hlt, hk, hbw⟩ := hrel
    have hwr := HW.out.below' hbw
    have hlt' : i < (tx zl).length := by rw [tx_len]; exact hlt
    have cv := hwr.val i hlt'
    have cw := hwr.wt i hlt'
    rw [tx_get zl i hlt] at cv cw
    simp only at cv cw
    have HPi := Lib.hid (HP.out i hlt)
    have HKi := Lib.hid (HK.out i hlt)
    have hab : Below w.heap.size w (wr.alloc (.cells #[.int .i64 zl[i].1, .string (bs (I zl[i].2))] 61)) := hbw.alloc hbw.size _
    by_cases hle : q ≤ cumQ zl i
    · have hcm := cmpQ_ge.2 hle
      have HV := Lib.hid (hk.out.trans (qfrom_here hlt hle))
      have hnw : wr.heap.size < (wr.alloc (.cells #[.int .i64 zl[i].1, .string (bs (I zl[i].2))] 61)).heap.size := by simp
      clear hk hle hwr
      generalize cmpQ (cumQ zl i) q = cc at *
      generalize R (cumQ zl i) = rc at *
      go_wp2_with fail
      refine (HPi.out _ hab).mono ?_
      rintro e w5 ⟨rfl, hb5⟩
      have hb5' := hab.trans (hb5.mono hab.size)
      have hrow := (Row.new wr 61 [.int .i64 zl[i].1, .string (bs (I zl[i].2))]).below' hb5
      clear hb5 cv cw hab
      go_wp2_with fail
      refine (HKi.out _ (hg.of hb5')).mono ?_
      rintro e w6 ⟨rfl, hb6⟩
      have c0 := (hrow.below' hb6).cell (i := 0) rfl
      have hb6' := hb5'.trans (hb6.mono hb5'.size)
      clear hrow hb6 hb5'
      go_wp2
      go_ret2
      exact Ret.of (by rw [← HQV.out, HV.out]; rfl) hb6'
    · have hcm : cmpQ (cumQ zl i) q < 0 := cmpQ_lt.2 (Rat.not_le.1 hle)
      have hd2 : decide (0 ≤ cmpQ (cumQ zl i) q) = false := decide_eq_false (by omega)
      have HV := Lib.hid (hk.out.trans (qfrom_next hlt hle))
      have hnx : i + 1 < zl.length := by
        rcases Nat.lt_or_ge (i + 1) zl.length with hh | hh
        · exact hh
        · exfalso
          apply hle
          rw [HLA.out i (by omega)]
          exact HU.out
      clear hk hle hwr
      generalize cmpQ (cumQ zl i) q = cc at *
      generalize R (cumQ zl i) = rc at *
      go_wp2_with fail
      refine (HPi.out _ hab).mono ?_
      rintro e w5 ⟨rfl, hb5⟩
      have hb5' := hab.trans (hb5.mono hab.size)
      clear hb5 cv cw hab
      go_wp2_with fail
      refine (HKi.out _ (hg.of hb5')).mono ?_
      rintro e w6 ⟨rfl, hb6⟩
      have hb6' := hb5'.trans (hb6.mono hb5'.size)
      clear hb6 hb5'
      go_wp2
      go_roundw
      case rel => exact ⟨i + 1, by go_num, hnx, HV, hb6'⟩
      case measure => simp [intOf]; omega
theorem rquantile_bad (v : Value) (s : List UInt8) (c : Nat) (w : World) (hc : ChkE v c w) (h0 : c ≠ 0) : Calls Tryz.prog 17 #[v, .string (bs s)] w (Ret w (.tuple #[.int .i64 0, .int .i64 (c : Int)])) := by
  have HC := Lib.hid hc
  have hz : ((c : Int) == 0) = false := by simp; exact h0
  clear hc h0
  go_enter Tryz.func17, Tryz.ntmps17
  go_wp2_with fail
  refine (HC.out _ (Below.refl _ _)).mono ?_
  rintro e w1 ⟨rfl, hb1⟩
  go_wp2
  go_ret2
  exact Ret.of rfl hb1
theorem rquantile_form (v : Value) (s : List UInt8) (w : World) (hc : ChkE v 0 w) (hl : s.length ≤ 90000) (h0 : chkR s ≠ 0) : Calls Tryz.prog 17 #[v, .string (bs s)] w (Ret w (.tuple #[.int .i64 0, .int .i64 ((chkR s : Nat) : Int)])) := by
  have HC := Lib.hid hc
  have HS := Lib.hid (fun wx => unit_bad s wx hl h0)
  have hz : (((chkR s : Nat) : Int) == 0) = false := by simp; exact h0
  clear hc h0
  generalize chkR s = c at *
  go_enter Tryz.func17, Tryz.ntmps17
  go_wp2_with fail
  refine (HC.out _ (Below.refl _ _)).mono ?_
  rintro e w1 ⟨rfl, hb1⟩
  go_wp2_with fail
  refine (HS.out _).mono ?_
  rintro e w2 ⟨rfl, hb2⟩
  go_wp2
  go_ret2
  exact Ret.of rfl (Below.then hb1 hb2)
theorem rquantile_range (v : Value) (q : Rat) (w : World) (hc : ChkE v 0 w) (hq : Bq 30 q) (h0 : ¬ Un q) : Calls Tryz.prog 17 #[v, .string (bs (R q))] w (Ret w (.tuple #[.int .i64 0, .int .i64 2])) := by
  have HC := Lib.hid hc
  have hs := fun wx => unit_R q wx hq
  rw [unE_no h0] at hs
  have HS := Lib.hid hs
  clear hc hs hq h0
  generalize R q = s at *
  go_enter Tryz.func17, Tryz.ntmps17
  go_wp2_with fail
  refine (HC.out _ (Below.refl _ _)).mono ?_
  rintro e w1 ⟨rfl, hb1⟩
  go_wp2_with fail
  refine (HS.out _).mono ?_
  rintro e w2 ⟨rfl, hb2⟩
  go_wp2
  go_ret2
  exact Ret.of rfl (Below.then hb1 hb2)
theorem rquantile_ok (zl : List ZT) (b o cap : Nat) (q : Rat) (w : World) (hw : WSl w b o (tx zl)) (h : GoodL zl) (hq : Bq 30 q) (hu : Un q) :
    Calls Tryz.prog 17 #[.slice (some ⟨b, o, none⟩) zl.length cap, .string (bs (R q))] w (Ret w (.tuple #[.int .i64 (quanV zl q), .int .i64 0])) := by
  have HC := Lib.hid (chke_good b o cap w hw h)
  have hs := fun wx => unit_R q wx hq
  rw [unE_yes hu] at hs
  have HS := Lib.hid hs
  have HW := Lib.hid hw
  have hl := h.2.2.1
  have hnl : 0 < zl.length := List.length_pos_iff.2 h.2.1
  have hblt := hw.lt
  have HP := Lib.hid (fun i (hlt : i < zl.length) wx (hb : Below w.heap.size w wx) => (by
    have := rwithin_ok zl b o cap zl[0].1 zl[i].1 wx (hw.below' hb) h
    rw [prob_cum h (h.first hnl) i hlt] at this
    exact this : Calls Tryz.prog 53 #[.slice (some ⟨b, o, none⟩) zl.length cap, .int .i64 zl[0].1, .int .i64 zl[i].1] wx (Ret wx (.string (bs (R (cumQ zl i)))))))
  have HK := Lib.hid (show ∀ i, i < zl.length → ∀ wx, Calls Tryz.prog 55 #[.string (bs (R (cumQ zl i))), .string (bs (R q))] wx (Ret wx (.int .i64 (cmpQ (cumQ zl i) q))) from fun i hlt wx => order_R (cumQ zl i) q wx ((h.cum_bq i hlt).sh (by decide) (by decide)) (hq.sh (by decide) (by decide)))
  have HLA := Lib.hid (cum_last h)
  have HU := Lib.hid hu.2
  generalize hqv : quanV zl q = qv
  have HQV := Lib.hid hqv
  clear hs hq hu hw h hqv
  generalize R q = s at *
  go_enter Tryz.func17, Tryz.ntmps17
  go_wp2_with fail
  refine (HC.out _ (Below.refl _ _)).mono ?_
  rintro e w1 ⟨rfl, hb1⟩
  go_wp2_with fail
  refine (HS.out _).mono ?_
  rintro e w2 ⟨rfl, hb2⟩
  have hb4 := Below.then hb1 hb2
  clear hb1 hb2
  go_wp2
  go_loopw [8] (fun iv wr => ∃ i : Nat, iv = .int .i64 (i : Int) ∧ i < zl.length ∧ Hid (quanV zl q = qfrom zl q (zl.length - i) i) ∧ Below w.heap.size w wr) (fun iv _ => zl.length - (intOf iv).toNat)
  case atStart => exact ⟨0, rfl, hnl, (rfl : quanV zl q = qfrom zl q zl.length 0), hb4⟩
  case round =>
    clear hb4
    obtain ⟨i, rfl, hlt, hk, hbw⟩ := hrel
    have hwr := HW.out.below' hbw
    have hlt' : i < (tx zl).length := by rw [tx_len]; exact hlt
    have cv := hwr.val i hlt'
    have cf := hwr.val 0 (by omega)
    rw [tx_get zl i hlt] at cv
    rw [tx_get zl 0 hnl, Nat.zero_mul, Nat.add_zero] at cf
    simp only at cv cf
    have HPi := Lib.hid (HP.out i hlt)
    have HKi := Lib.hid (HK.out i hlt)
    have hi0 : (0 : Int) ≤ (i : Int) := by omega
    have hi1 : (i : Int) < (zl.length : Int) := by omega
    have hz1 : (0 : Int) < (zl.length : Int) := by omega
    have hbd : Below w.heap.size w wr.drew := hbw.trans ((RowKit.Below.drew (Below.refl _ wr)).mono hbw.size)
    have hbwlt : b < wr.heap.size := Nat.lt_of_lt_of_le hblt hbw.size
    by_cases hle : q ≤ cumQ zl i
    · have hcm := cmpQ_ge.2 hle
      have HV := Lib.hid (hk.out.trans (qfrom_here hlt hle))
      clear hk hle hwr
      generalize cmpQ (cumQ zl i) q = cc at *
      generalize R (cumQ zl i) = rc at *
      generalize hv1 : zl[i].1 = v1 at *
      have HV1 := Lib.hid hv1
      generalize zl[0].1 = v0 at *
      clear hv1
      go_wp2
      go_region_with (first | (go_at_call 53; refine (HPi.out _ hbd).mono ?_; rintro e w5 ⟨rfl, hb5⟩) | (go_at_call 55; refine (HKi.out _).mono ?_; rintro e w6 ⟨rfl, hb6⟩))
      all_goals
        have hb9 := Below.then (Below.then hbd hb5) hb6
        have c0 := (hb6.cell (p := ⟨b, o + i * 2, none⟩) (Nat.lt_of_lt_of_le hbwlt hb5.size)).trans ((hb5.cell (p := ⟨b, o + i * 2, none⟩) hbwlt).trans cv)
        clear cv cf
        go_wp2
        go_ret2
        exact Ret.of (by rw [← HQV.out, HV.out]; rfl) hb9
    · have hcm : cmpQ (cumQ zl i) q < 0 := cmpQ_lt.2 (Rat.not_le.1 hle)
      have hd2 : decide (0 ≤ cmpQ (cumQ zl i) q) = false := decide_eq_false (by omega)
      have HV := Lib.hid (hk.out.trans (qfrom_next hlt hle))
      have hnx : i + 1 < zl.length := by
        rcases Nat.lt_or_ge (i + 1) zl.length with hh | hh
        · exact hh
        · exfalso
          apply hle
          rw [HLA.out i (by omega)]
          exact HU.out
      clear hk hle hwr
      generalize cmpQ (cumQ zl i) q = cc at *
      generalize R (cumQ zl i) = rc at *
      generalize zl[i].1 = v1 at *
      generalize zl[0].1 = v0 at *
      go_wp2
      go_region_with (first | (go_at_call 53; refine (HPi.out _ hbd).mono ?_; rintro e w5 ⟨rfl, hb5⟩) | (go_at_call 55; refine (HKi.out _).mono ?_; rintro e w6 ⟨rfl, hb6⟩))
      all_goals
        have hb9 := Below.then (Below.then hbd hb5) hb6
        go_wp2
        go_roundw
        case rel => exact ⟨i + 1, by go_num, hnx, HV, hb9⟩
        case measure => simp [intOf]; omega
end W
end Go.Proofs.YtgjfiaadnecilaaGreatDoor
namespace Go.Proofs.YtgjfiaadnecilaaGreatDoor
open Go Go.RowKit Go.Deep
/-- Whatever was there below block B is as it was. -/
def Keeps (B : Nat) (w w' : World) : Prop := ∀ (C : Nat) (a : World), C ≤ B → Below C a w → Below C a w'
theorem Keeps.refl (B : Nat) (w : World) : Keeps B w w := fun _ _ _ h => h
theorem Keeps.trans {B : Nat} {a b c : World} (h1 : Keeps B a b) (h2 : Keeps B b c) : Keeps B a c := fun C x hC h => h2 C x hC (h1 C x hC h)
theorem Keeps.set {B : Nat} {w w' : World} (h : Keeps B w w') {g j : Nat} (hg : B ≤ g) (v : Value) : Keeps B w (w'.setCell ⟨g, j, none⟩ v) :=
  fun C x hC hb => (h C x hC hb).setCell (Nat.le_trans hC hg) v
theorem Keeps.drew {B : Nat} {w w' : World} (h : Keeps B w w') : Keeps B w w'.drew := fun C x hC hb => RowKit.Below.drew (h C x hC hb)
/-- The law of 'out = append(out, x)', out a row of the call's own. -/
theorem wpList_app_one {ops : Array Oper} {rest : List Oper} {o : Oper} {a : Act} {Q : Exit → Act → World → Prop} {t e : TypeId} {i : TypeInfo} {z : Value} {size bytes : Nat}
    (ht : Tryz.prog.underlying t = some (.slice e)) (hi : Tryz.prog.info? e = some i) (hz : i.zero = some z) (hsize : i.size = size) (hby : i.bytes = bytes) (hzs : z.cells.size = size) (hsz : 0 < size)
    {w : World} {B A : Nat} {v : Value} {n : Nat} {xs : List Value} (hgd : o.guard = none) (s x : Operand) (ho : o.op = .call { callee := .builtin .append, args := #[s, x], argTypes := #[t, t] })
    (hs : a.eval s = v) (hx : a.eval x = .slice (some ⟨A, 0, none⟩) 1 1) (hA : A = w.heap.size)
    (hown : w.ownsRow B e size v n xs) (hB : B ≤ w.heap.size) (cs : List Value) (hl : cs.length = size) (h1 : ∀ u ∈ cs, u.oneCell' = true) (hn : n ≤ 1000000000) (hb : bytes ≤ 1000)
    (h : ∀ v' w', w'.ownsRow B e size v' (n + 1) (xs ++ cs) → Keeps B w w' → wpList Tryz.prog ops Q rest (a.put o.dst v') w') : wpList Tryz.prog ops Q (o :: rest) a (w.alloc (.cells cs.toArray e (0, 0))) := by
  subst hA
  have hr := Row.new w e cs
  refine wpList_append_own (w.alloc (.cells cs.toArray e (0, 0))) hgd s x t ho B e i z size bytes ht hi hz hsize hby hzs hsz v n xs hs (hown.alloc _) ⟨w.heap.size, 0, none⟩ 1 1 cs hx (by rw [hl, Nat.one_mul])
    (fun j u hj => by
      have hadd : (⟨w.heap.size, 0, none⟩ : Addr).add j = ⟨w.heap.size, j, none⟩ := by unfold Addr.add; split <;> simp_all
      rw [hadd]
      exact hr.cell hj) h1 (by unfold maxLen; omega) (by
      have : (n + 1) * bytes ≤ (n + 1) * 1000 := Nat.mul_le_mul_left _ hb
      omega) (by show B ≤ (w.heap.push _).size; simp; omega) ?_
  intro v' w' h3 h4 _
  refine h v' w' h3 (fun C a2 hC hbl => ?_)
  have hC' : C ≤ w.heap.size := Nat.le_trans hC hB
  have hbl2 : Below C a2 (w.alloc (.cells cs.toArray e (0, 0))) := hbl.alloc hC' _
  refine hbl2.grown h4 (by show C ≤ (w.heap.push _).size; simp; omega) (fun k hk => ?_)
  have := (hown.lt k hk).1
  omega
/-- The cells of a right list. -/
def wcs (l : List M.WT) : List Value := l.flatMap fun x => [.int .i64 x.1, .string (bs x.2)]
theorem wcs_append (a b : List M.WT) : wcs (a ++ b) = wcs a ++ wcs b := by simp [wcs]
theorem wcs_len (l : List M.WT) : (wcs l).length = l.length * 2 := by
  induction l with
  | nil => rfl
  | cons x t ih => simp only [wcs, List.flatMap_cons, List.length_append, List.length_cons, List.length_nil] at *; omega
theorem wcs_get (l : List M.WT) (i : Nat) (h : i < l.length) : (wcs l)[i * 2]? = some (.int .i64 l[i].1) ∧ (wcs l)[i * 2 + 1]? = some (.string (bs l[i].2)) := by
  induction l generalizing i with
  | nil => cases h
  | cons x t ih =>
    rcases i with _ | j
    · exact ⟨rfl, rfl⟩
    · have hj : j < t.length := by simpa using h
      have e1 : wcs (x :: t) = .int .i64 x.1 :: .string (bs x.2) :: wcs t := rfl
      have k := ih j hj
      rw [e1, show (j + 1) * 2 = (j * 2 + 1) + 1 by omega, show (j * 2 + 1) + 1 + 1 = (j * 2 + 1 + 1) + 1 by omega]
      exact k
/-- A value that reads as a list. -/
def RdW (w : World) (v : Value) (l : List M.WT) : Prop := ∃ A cap, v = .slice A l.length cap ∧ (l = [] ∨ ∃ b o, A = some ⟨b, o, none⟩ ∧ WSl w b o l)
theorem RdW.below {w w' : World} {v : Value} {l : List M.WT} (h : RdW w v l) (hb : Below w.heap.size w w') : RdW w' v l := by
  obtain ⟨A, cap, h1, h2⟩ := h
  refine ⟨A, cap, h1, ?_⟩
  rcases h2 with h2 | ⟨b, o, h3, h4⟩
  · exact Or.inl h2
  · exact Or.inr ⟨b, o, h3, h4.below' hb⟩
/-- A row of the call's own that holds the list. -/
def OwnW (w : World) (B : Nat) (v : Value) (l : List M.WT) : Prop := w.ownsRow B 61 2 v l.length (wcs l)
theorem OwnW.nil (w : World) (B : Nat) : OwnW w B (.slice none 0 0) [] := World.ownsRow_nil _ _ _ _
theorem OwnW.rd {w : World} {B : Nat} {v : Value} {l : List M.WT} (h : OwnW w B v l) : RdW w v l := by
  obtain ⟨h1, h2⟩ := h
  rcases h2 with ⟨hv, hn⟩ | ⟨g, cap, cur, hv, hB, hh, hn, hm, hs, ht⟩
  · refine ⟨none, 0, ?_, Or.inl (List.length_eq_zero_iff.1 hn)⟩
    rw [hv, hn]
  · refine ⟨some ⟨g, 0, none⟩, cap, hv, ?_⟩
    by_cases hl : l = []
    · exact Or.inl hl
    · refine Or.inr ⟨g, 0, rfl, lt_of_block hh, fun i hi => ?_, fun i hi => ?_⟩
      · have := (wcs_get l i hi).1
        rw [← ht, List.getElem?_take] at this
        split at this
        · simp [World.cell?, hh]; simpa using this
        · cases this
      · have := (wcs_get l i hi).2
        rw [← ht, List.getElem?_take] at this
        split at this
        · simp [World.cell?, hh]; simpa using this
        · cases this
theorem OwnW.below {w w' : World} {B : Nat} {v : Value} {l : List M.WT} (h : OwnW w B v l) (hb : Below w.heap.size w w') : OwnW w' B v l :=
  World.ownsRow.kept (row := none) h ⟨hb.os, hb.tape, hb.output, hb.size, fun k hk _ => hb.block k hk⟩ (Classical.em _)
theorem ownsRow_base {w : World} {B B' e size : Nat} {v : Value} {n : Nat} {xs : List Value} (h : w.ownsRow B e size v n xs) (hB : B' ≤ B) : w.ownsRow B' e size v n xs := by
  obtain ⟨h1, h2⟩ := h
  refine ⟨h1, ?_⟩
  rcases h2 with h2 | ⟨g, cap, cur, a, b, c⟩
  · exact Or.inl h2
  · exact Or.inr ⟨g, cap, cur, a, Nat.le_trans hB b, c⟩
theorem infoWt : (Tryz.prog.info? 61).map (fun i => (i.zero, i.size, i.bytes)) = some (some (.agg #[.int .i64 0, .string ⟨#[]⟩]), 2, 24) := by kernel_rfl
theorem wpList_app_w {ops : Array Oper} {rest : List Oper} {o : Oper} {a : Act} {Q : Exit → Act → World → Prop} {w : World} {B A : Nat} {v : Value} {l : List M.WT} {p : Int} {q : List UInt8}
    (hgd : o.guard = none) (s x : Operand) (ho : o.op = .call { callee := .builtin .append, args := #[s, x], argTypes := #[22, 22] })
    (hs : a.eval s = v) (hx : a.eval x = .slice (some ⟨A, 0, none⟩) 1 1) (hA : A = w.heap.size) (h : OwnW w B v l) (hB : B ≤ w.heap.size) (hn : l.length ≤ 1000000000)
    (hK : ∀ v' w', OwnW w' B v' (l ++ [(p, q)]) → Keeps B w w' → wpList Tryz.prog ops Q rest (a.put o.dst v') w') : wpList Tryz.prog ops Q (o :: rest) a (w.alloc (.cells #[.int .i64 p, .string (bs q)] 61 (0, 0))) := by
  obtain ⟨i, h1, h2, h3, h4⟩ := info_parts infoWt
  refine wpList_app_one Tryz.underlying22 h1 h2 h3 h4 rfl (by decide) hgd s x ho hs hx hA h hB [.int .i64 p, .string (bs q)] rfl (fun u hu => by simp at hu; rcases hu with rfl | rfl <;> rfl) hn (by decide) (fun v' w' k2 k3 => hK v' w' ?_ k3)
  unfold OwnW
  rw [wcs_append, List.length_append]
  exact k2
/-- A row of the call's own that holds texts. -/
def OwnS (w : World) (B : Nat) (v : Value) (l : List (List UInt8)) : Prop := w.ownsRow B 39 1 v l.length (Strs l)
theorem infoIt : (Tryz.prog.info? 39).map (fun i => (i.zero, i.size, i.bytes)) = some (some (.string ⟨#[]⟩), 1, 16) := by kernel_rfl
theorem OwnS.below {w w' : World} {B : Nat} {v : Value} {l : List (List UInt8)} (h : OwnS w B v l) (hb : Below w.heap.size w w') : OwnS w' B v l :=
  World.ownsRow.kept (row := none) h ⟨hb.os, hb.tape, hb.output, hb.size, fun k hk _ => hb.block k hk⟩ (Classical.em _)
theorem wpList_app_s {ops : Array Oper} {rest : List Oper} {o : Oper} {a : Act} {Q : Exit → Act → World → Prop} {w : World} {B A : Nat} {v : Value} {l : List (List UInt8)} {q : List UInt8}
    (hgd : o.guard = none) (s x : Operand) (ho : o.op = .call { callee := .builtin .append, args := #[s, x], argTypes := #[92, 92] })
    (hs : a.eval s = v) (hx : a.eval x = .slice (some ⟨A, 0, none⟩) 1 1) (hA : A = w.heap.size) (h : OwnS w B v l) (hB : B ≤ w.heap.size) (hn : l.length ≤ 1000000000)
    (hK : ∀ v' w', OwnS w' B v' (l ++ [q]) → Keeps B w w' → wpList Tryz.prog ops Q rest (a.put o.dst v') w') : wpList Tryz.prog ops Q (o :: rest) a (w.alloc (.cells #[.string (bs q)] 39 (0, 0))) := by
  obtain ⟨i, h1, h2, h3, h4⟩ := info_parts infoIt
  refine wpList_app_one Tryz.underlying92 h1 h2 h3 h4 rfl (by decide) hgd s x ho hs hx hA h hB [.string (bs q)] rfl (fun u hu => by simp at hu; subst hu; rfl) hn (by decide) (fun v' w' k2 k3 => hK v' w' ?_ k3)
  unfold OwnS
  rw [List.length_append]
  have : Strs (l ++ [q]) = Strs l ++ [.string (bs q)] := by simp [Strs]
  rw [this]
  exact k2
/-- Where a row of texts lies. -/
theorem OwnS.form {w : World} {B : Nat} {v : Value} {l : List (List UInt8)} (h : OwnS w B v l) (hn : l ≠ []) :
    ∃ g cap, v = .slice (some ⟨g, 0, none⟩) l.length cap ∧ B ≤ g ∧ g < w.heap.size ∧ ∀ i (hi : i < l.length), w.cell? ⟨g, i, none⟩ = some (.string (bs l[i])) := by
  obtain ⟨h1, h2⟩ := h
  rcases h2 with ⟨_, hn2⟩ | ⟨g, cap, cur, hv, hB, hh, _, _, _, ht⟩
  · exact absurd (List.length_eq_zero_iff.1 hn2) hn
  · refine ⟨g, cap, hv, hB, lt_of_block hh, fun i hi => ?_⟩
    have : (Strs l)[i]? = some (.string (bs l[i])) := by simp [Strs, hi]
    rw [← ht, List.getElem?_take] at this
    split at this
    · simp [World.cell?, hh]; simpa using this
    · cases this
namespace W
open M
attribute [local go_sem] bs_size bs_toList bs_get bs_extract bs_append bs_lit0 bs_lit1 lit1_bs
set_option maxHeartbeats 1000000
set_option maxRecDepth 20000
theorem neq_wt (a b : Int) (s t : List UInt8) (w : World) : (binOp .neq 61 (.agg #[.int .i64 a, .string (bs s)]) (.agg #[.int .i64 b, .string (bs t)])).run Tryz.prog w = .ok (.bool (!(a == b && s == t))) w := by
  have hf : Tryz.prog.underlying 61 = some (.struct (Tryz.prog.fieldsOf 61)) := by unfold Program.fieldsOf; rw [Tryz.underlying61]
  rw [run_neq_struct, show (10000 : Nat) = 9999 + 1 from rfl, run_equalIn_agg w 9999 61 _ _ hf (by kernel_rfl)]
  unfold Program.fieldsOf
  rw [Tryz.underlying61]
  go_simp
  by_cases h1 : a = b <;> by_cases h2 : s = t <;> simp [h1, h2]
/-- The call returns v; memory is only read. -/
def Quie (w : World) (v : Value) (e : Ending) (w' : World) : Prop := e = .returned v ∧ ∃ n, w' = w.drewN n
theorem Quie.below {w w' : World} {v : Value} {e : Ending} (h : Quie w v e w') : Ret w v e w' := by
  obtain ⟨h1, n, rfl⟩ := h
  exact ⟨h1, Below.drewN (Below.refl _ _) n⟩
theorem same_any (va vb : Value) (la lb : List WT) (w : World) (ha : RdW w va la) (hb : RdW w vb lb) (hl : la.length ≤ 100000) (hl2 : lb.length ≤ 100000) :
    Calls Tryz.prog 30 #[va, vb] w (Quie w (.bool (decide (la = lb)))) := by
  obtain ⟨A, ca, rfl, ha⟩ := ha
  obtain ⟨B, cb, rfl, hb⟩ := hb
  by_cases hn : la.length = lb.length
  · rcases ha with rfl | ⟨ba, oa, rfl, hwa⟩
    · have hb0 : lb = [] := List.length_eq_zero_iff.1 hn.symm
      subst hb0
      go_enter Tryz.func30, Tryz.ntmps30
      go_wp2
      refine wp_loop_rounds 1 ?_
      rw [rounds_succ]
      go_wp2
      go_ret
      exact ⟨rfl, 0, rfl⟩
    · rcases hb with rfl | ⟨bb, ob, rfl, hwb⟩
      · have ha0 : la = [] := List.length_eq_zero_iff.1 hn
        subst ha0
        go_enter Tryz.func30, Tryz.ntmps30
        go_wp2
        refine wp_loop_rounds 1 ?_
        rw [rounds_succ]
        go_wp2
        go_ret
        exact ⟨rfl, 0, rfl⟩
      · have hb1 : ((la.length : Int) != (lb.length : Int)) = false := by rw [hn]; simp
        have HA := Lib.hid hwa
        have HB := Lib.hid hwb
        have HN := Lib.hid hn
        rw [← hn]
        have hb2 : ((la.length : Int) != (la.length : Int)) = false := by simp
        generalize hdd : decide (la = lb) = dd
        have HDD := Lib.hid hdd
        clear hwa hwb hn hdd hb1
        go_enter Tryz.func30, Tryz.ntmps30
        go_wp2
        go_loopw [5] (fun iv wr => ∃ i q : Nat, iv = .int .i64 (i : Int) ∧ i ≤ la.length ∧ Hid (la.take i = lb.take i) ∧ wr = w.drewN q) (fun iv _ => la.length - (intOf iv).toNat)
        case atStart => exact ⟨0, 0, rfl, by omega, (by rw [List.take_zero, List.take_zero]; exact rfl), rfl⟩
        case round =>
          obtain ⟨i, q, rfl, hi, hk, rfl⟩ := hrel
          by_cases hlt : i < la.length
          · have hlt2 : i < lb.length := by have := HN.out; omega
            have a0 := HA.out.val i hlt
            have a1 := HA.out.wt i hlt
            have b0 := HB.out.val i hlt2
            have b1 := HB.out.wt i hlt2
            have hi0 : (0 : Int) ≤ (i : Int) := by omega
            have hi1 : (i : Int) < (la.length : Int) := by omega
            have hq := fun wx => neq_wt la[i].1 lb[i].1 la[i].2 lb[i].2 wx
            by_cases he : la[i] = lb[i]
            · have hk2 : Hid (la.take (i + 1) = lb.take (i + 1)) := by
                rw [List.take_succ_eq_append_getElem hlt, List.take_succ_eq_append_getElem hlt2, hk.out, he]; exact rfl
              have e1 : (!(la[i].1 == lb[i].1 && la[i].2 == lb[i].2)) = false := by rw [he]; simp
              rw [e1] at hq
              clear hk he e1
              generalize la[i].1 = v1 at *
              generalize la[i].2 = v2 at *
              generalize lb[i].1 = v3 at *
              generalize lb[i].2 = v4 at *
              go_wp2
              go_quiet (fail)
              go_wp2
              go_roundw
              case rel => exact ⟨i + 1, _, by go_num, by omega, hk2, rfl⟩
              case measure => simp [intOf]; omega
            · have e1 : (!(la[i].1 == lb[i].1 && la[i].2 == lb[i].2)) = true := by
                rw [Bool.not_eq_true', Bool.eq_false_iff]
                intro h
                rw [Bool.and_eq_true, beq_iff_eq, beq_iff_eq] at h
                exact he (Prod.ext h.1 h.2)
              have hfin : dd = false := by
                rw [← HDD.out]
                refine decide_eq_false (fun h => he ?_)
                subst h; rfl
              have HF := Lib.hid hfin
              rw [e1] at hq
              clear hk he e1 hfin
              generalize la[i].1 = v1 at *
              generalize la[i].2 = v2 at *
              generalize lb[i].1 = v3 at *
              generalize lb[i].2 = v4 at *
              go_wp2
              go_quiet (fail)
              go_wp2
              go_ret
              exact ⟨by rw [HF.out]; rfl, _, drewN_two _ _ _⟩
          · obtain rfl : i = la.length := by omega
            have hfin : dd = true := by
              rw [← HDD.out]
              refine decide_eq_true ?_
              have h1 := hk.out
              rw [List.take_length, HN.out, List.take_length] at h1
              exact h1
            have HF := Lib.hid hfin
            clear hk hfin
            go_wp2
            go_ret
            exact ⟨by rw [HF.out]; rfl, _, rfl⟩
  · have hd : decide (la = lb) = false := decide_eq_false (fun h => hn (by rw [h]))
    rw [hd]
    have hb1 : ((la.length : Int) != (lb.length : Int)) = true := by simp; omega
    clear hd hn
    go_enter Tryz.func30, Tryz.ntmps30
    go_wp2
    go_ret
    exact ⟨rfl, 0, rfl⟩
end W
end Go.Proofs.YtgjfiaadnecilaaGreatDoor
namespace Go.Proofs.YtgjfiaadnecilaaGreatDoor
open Go Go.RowKit Go.Deep
theorem wcs_set (l : List M.WT) (i : Nat) (h : i < l.length) (x : M.WT) : ((wcs l).set (i * 2) (.int .i64 x.1)).set (i * 2 + 1) (.string (bs x.2)) = wcs (l.set i x) := by
  induction l generalizing i with
  | nil => cases h
  | cons y t ih =>
    rcases i with _ | j
    · rfl
    · have hj : j < t.length := by simpa using h
      have e1 : wcs (y :: t) = .int .i64 y.1 :: .string (bs y.2) :: wcs t := rfl
      have e2 : wcs ((y :: t).set (j + 1) x) = .int .i64 y.1 :: .string (bs y.2) :: wcs (t.set j x) := rfl
      rw [e1, e2, ← ih j hj, show (j + 1) * 2 = (j * 2 + 1) + 1 by omega, show (j * 2 + 1) + 1 + 1 = (j * 2 + 1 + 1) + 1 by omega]
      rfl
namespace M
/-- After k exchanges of a reversal. -/
def RevK (l m : List WT) (k : Nat) : Prop := m.length = l.length ∧ ∀ i (h : i < m.length) (h2 : l.length - 1 - i < l.length) (h3 : i < l.length), m[i] = if i < k ∨ l.length - 1 - i < k then l[l.length - 1 - i] else l[i]
theorem RevK.start (l : List WT) : RevK l l 0 := ⟨rfl, fun i h h2 h3 => by rw [if_neg (by omega)]⟩
theorem RevK.done {l m : List WT} {k : Nat} (h : RevK l m k) (hk : l.length ≤ 2 * k + 1) : m = l.reverse := by
  obtain ⟨h1, h2⟩ := h
  apply List.ext_getElem (by simp [h1])
  intro i hi hi2
  rw [h2 i hi (by omega) (by omega), List.getElem_reverse]
  by_cases hc : i < k ∨ l.length - 1 - i < k
  · rw [if_pos hc]
  · rw [if_neg hc]; congr 1; omega
theorem RevK.step {l m : List WT} {k : Nat} (h : RevK l m k) (hk : 2 * k + 1 < l.length) (ha : k < m.length) (hb : l.length - 1 - k < m.length) :
    RevK l ((m.set k m[l.length - 1 - k]).set (l.length - 1 - k) m[k]) (k + 1) := by
  obtain ⟨h1, h2⟩ := h
  refine ⟨by simp [h1], fun i hi hj hl => ?_⟩
  have ea := h2 k ha (by omega) (by omega)
  have eb := h2 (l.length - 1 - k) hb (by omega) (by omega)
  rw [if_neg (by omega)] at ea eb
  by_cases e1 : i = l.length - 1 - k
  · subst e1
    rw [List.getElem_set_self, if_pos (by omega), ea]
    congr 1; omega
  · rw [List.getElem_set_ne (by omega)]
    by_cases e2 : i = k
    · subst e2
      rw [List.getElem_set_self, if_pos (by omega), eb]
    · rw [List.getElem_set_ne (by omega), h2 i (by simpa using hi) hj hl]
      by_cases hc : i < k ∨ l.length - 1 - i < k
      · rw [if_pos hc, if_pos (by omega)]
      · rw [if_neg hc, if_neg (by omega)]
end M
namespace W
open M
attribute [local go_sem] bs_size bs_toList bs_get bs_extract bs_append bs_lit0 bs_lit1 lit1_bs
set_option maxHeartbeats 1000000
set_option maxRecDepth 20000
theorem reverse_some (g cap B : Nat) (l : List WT) (w : World) (h : OwnW w B (.slice (some ⟨g, 0, none⟩) l.length cap) l) (hl : l.length ≤ 100000) (hn : l ≠ []) (hg : B ≤ g) :
    Calls Tryz.prog 74 #[.slice (some ⟨g, 0, none⟩) l.length cap] w (fun e w' => e = .returned (.tuple #[]) ∧ OwnW w' B (.slice (some ⟨g, 0, none⟩) l.length cap) l.reverse ∧ Keeps B w w') := by
  have HH := Lib.hid h
  have hpos := List.length_pos_iff.2 hn
  clear h hn
  have hwr : IntKind.i64.wrap ((l.length : Int) - 1) = (l.length : Int) - 1 := IntWalk.i64_in _ (by omega)
  go_enter Tryz.func74, Tryz.ntmps74
  go_wp2
  go_loopw [2, 3] (fun iv jv wr => ∃ (k j : Nat) (m : List WT), iv = .int .i64 (k : Int) ∧ jv = .int .i64 (j : Int) ∧ j + k + 1 = l.length ∧ Hid (RevK l m k) ∧ Hid (OwnW wr B (.slice (some ⟨g, 0, none⟩) l.length cap) m) ∧ Keeps B w wr) (fun iv _ _ => l.length - (intOf iv).toNat)
  case atStart => exact ⟨0, l.length - 1, l, rfl, by congr 1; omega, by omega, RevK.start l, HH.out, Keeps.refl _ _⟩
  case round =>
    clear HH
    obtain ⟨k, j, m, rfl, rfl, hjk, hr, ho, hkp⟩ := hrel
    by_cases hlt : k < j
    · have hml := hr.out.1
      have hkm : k < m.length := by omega
      have hjm : j < m.length := by omega
      have hrd := ho.out
      unfold OwnW at hrd
      rw [hml] at hrd
      have c1 := hrd.cellAt (k * 2) (by omega)
      have c2 := hrd.cellAt (k * 2 + 1) (by omega)
      have c3 := hrd.cellAt (j * 2) (by omega)
      have c4 := hrd.cellAt (j * 2 + 1) (by omega)
      have f1 := hrd.frozenAt (k * 2)
      have f2 := hrd.frozenAt (k * 2 + 1)
      have f3 := hrd.frozenAt (j * 2)
      have f4 := hrd.frozenAt (j * 2 + 1)
      rw [(wcs_get m k hkm).1] at c1
      rw [(wcs_get m k hkm).2] at c2
      rw [(wcs_get m j hjm).1] at c3
      rw [(wcs_get m j hjm).2] at c4
      have hi0 : (0 : Int) ≤ (k : Int) := by omega
      have hi1 : (k : Int) < (l.length : Int) := by omega
      have hj0 : (0 : Int) ≤ (j : Int) := by omega
      have hj1 : (j : Int) < (l.length : Int) := by omega
      have hst := ((((hrd.stored (k * 2) (.int .i64 m[j].1)).1.stored (k * 2 + 1) (.string (bs m[j].2))).1.stored (j * 2) (.int .i64 m[k].1)).1.stored (j * 2 + 1) (.string (bs m[k].2))).1
      rw [wcs_set m k hkm m[j], wcs_set (m.set k m[j]) j (by simpa using hjm) m[k]] at hst
      have hkp2 := ((((hkp.set (j := k * 2) hg (.int .i64 m[j].1)).set (j := k * 2 + 1) hg (.string (bs m[j].2))).set (j := j * 2) hg (.int .i64 m[k].1)).set (j := j * 2 + 1) hg (.string (bs m[k].2))).drew
      have hr2 := hr.out.step (by omega) hkm (by omega)
      have ej : l.length - 1 - k = j := by omega
      have hr3 : Hid (RevK l ((m.set k m[j]).set j m[k]) (k + 1)) := by
        simp only [ej] at hr2
        exact hr2
      have hst2 : OwnW ((((wr.setCell ⟨g, k * 2, none⟩ (.int .i64 m[j].1)).setCell ⟨g, k * 2 + 1, none⟩ (.string (bs m[j].2))).setCell ⟨g, j * 2, none⟩ (.int .i64 m[k].1)).setCell ⟨g, j * 2 + 1, none⟩ (.string (bs m[k].2))).drew B (.slice (some ⟨g, 0, none⟩) l.length cap) ((m.set k m[j]).set j m[k]) := by
        unfold OwnW
        rw [List.length_set, List.length_set, hml]
        exact hst
      have HST := Lib.hid hst2
      have HKP := Lib.hid hkp2
      generalize hm2 : (m.set k m[j]).set j m[k] = m2 at *
      clear hrd hst hr2 hst2 hkp2 hr hm2 ej
      have hjc : ((j : Int) - 1) = ((j - 1 : Nat) : Int) := by omega
      have HJC := Lib.hid hjc
      have hwj : IntKind.i64.wrap ((j : Int) - 1) = (j : Int) - 1 := IntWalk.i64_in _ (by omega)
      clear hjc
      go_wp2
      go_region
      generalize ((((wr.setCell ⟨g, k * 2, none⟩ (.int .i64 m[j].1)).setCell ⟨g, k * 2 + 1, none⟩ (.string (bs m[j].2))).setCell ⟨g, j * 2, none⟩ (.int .i64 m[k].1)).setCell ⟨g, j * 2 + 1, none⟩ (.string (bs m[k].2))).drew = w2 at *
      clear c1 c2 c3 c4 f1 f2 f3 f4
      go_wp2
      go_roundw
      case rel => exact ⟨k + 1, j - 1, m2, by go_num, by rw [HJC.out], by omega, hr3, HST, HKP.out⟩
      case measure => simp [intOf]; omega
    · have hm := hr.out.done (by omega)
      have HM := Lib.hid hm
      clear hr hm
      go_wp2
      go_end0
      exact ⟨rfl, by rw [← HM.out]; exact ho.out, hkp⟩
end W
end Go.Proofs.YtgjfiaadnecilaaGreatDoor
