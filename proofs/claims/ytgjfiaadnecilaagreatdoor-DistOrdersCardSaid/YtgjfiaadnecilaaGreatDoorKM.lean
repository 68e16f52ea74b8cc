/-
  Chapter 26: 'Reduce' of the program and of the reference.
  Chapter 26: 'Uniform' of the program and of the reference.
  Lists: 'append(a, b...)', in plain regions and in regions that draw their order; an element of a list of the call's own is written.
  Chapter 26, the reference: 'Gathered' (insertion, equal values put together, no weight left out).
-/
import Derived.Test.YtgjfiaadnecilaaGreatDoorKJ
import Derived.Deep.RegionLaw
import Derived.BigRegion
namespace Go.Proofs.YtgjfiaadnecilaaGreatDoor
open Go Go.RowKit Go.Deep
namespace M
/-- The greatest common divisor of the first i weights. -/
def gpre (zl : List ZT) : Nat → Int
  | 0 => 0
  | i + 1 => ((Int.gcd (gpre zl i) (zl.getD i (0, 0)).2 : Nat) : Int)
def gall (zl : List ZT) : Int := gpre zl zl.length
theorem gpre_succ (zl : List ZT) (i : Nat) (h : i < zl.length) : gpre zl (i + 1) = ((Int.gcd (gpre zl i) zl[i].2 : Nat) : Int) := by
  rw [gpre]; simp [List.getD, h]
theorem gpre_bd {zl : List ZT} (h : GoodL zl) (i : Nat) (hi : i ≤ zl.length) : (gpre zl i).natAbs < 10 ^ 40 := by
  rcases i with _ | j
  · show (0 : Int).natAbs < _; exact Nat.pow_pos (by decide)
  · have hj : j < zl.length := hi
    rw [gpre_succ zl j hj, Int.natAbs_natCast]
    have hm := List.getElem_mem hj
    have h1 := (h.1.mem _ hm).1
    exact Nat.lt_of_le_of_lt (Int.gcd_le_natAbs_right _ (by omega)) (h.2.2.2 _ hm)
theorem gpre_pos {zl : List ZT} (h : GoodL zl) (i : Nat) (hi : i < zl.length) : 0 < gpre zl (i + 1) := by
  rw [gpre_succ zl i hi]
  have h1 := (h.1.mem _ (List.getElem_mem hi)).1
  have : 0 < Int.gcd (gpre zl i) zl[i].2 := Int.gcd_pos_of_ne_zero_right _ (by omega)
  omega
theorem gall_pos {zl : List ZT} (h : GoodL zl) : 0 < gall zl := by
  have hp := List.length_pos_iff.2 h.2.1
  obtain ⟨k, hk⟩ : ∃ k, zl.length = k + 1 := ⟨zl.length - 1, by omega⟩
  unfold gall; rw [hk]; exact gpre_pos h k (by omega)
/-- The list with its weights divided. -/
def redZ (g : Int) (zl : List ZT) : List ZT := zl.map fun x => (x.1, x.2.fdiv g)
theorem redZ_take (g : Int) (zl : List ZT) (i : Nat) (h : i < zl.length) : tx (redZ g (zl.take (i + 1))) = tx (redZ g (zl.take i)) ++ [(zl[i].1, I (zl[i].2.fdiv g))] := by
  unfold redZ; rw [List.take_succ_eq_append_getElem h, List.map_append, tx_append]; rfl
theorem redZ_len (g : Int) (zl : List ZT) : (tx (redZ g zl)).length = zl.length := by simp [tx, redZ]
end M
namespace W
open M
attribute [local go_sem] bs_size bs_toList bs_get bs_extract bs_append bs_lit0 bs_lit1 lit1_bs
set_option maxHeartbeats 1000000
set_option maxRecDepth 20000
theorem reduce_bad (v : Value) (c : Nat) (w : World) (hc : ChkD v c w) (h0 : c ≠ 0) : Calls Tryz.prog 33 #[v] w (Ret w (.tuple #[.slice none 0 0, .int .i64 (c : Int)])) := by
  have HC := Lib.hid hc
  have hz : ((c : Int) == 0) = false := by simp; exact h0
  clear hc h0
  go_enter Tryz.func33, Tryz.ntmps33
  go_wp2_with fail
  refine (HC.out _ (Below.refl _ _)).mono ?_
  rintro e w1 ⟨rfl, hb1⟩
  go_wp2
  go_ret2
  exact Ret.of rfl hb1
theorem rreduce_bad (v : Value) (c : Nat) (w : World) (hc : ChkE v c w) (h0 : c ≠ 0) : Calls Tryz.prog 34 #[v] w (Ret w (.tuple #[.slice none 0 0, .int .i64 (c : Int)])) := by
  have HC := Lib.hid hc
  have hz : ((c : Int) == 0) = false := by simp; exact h0
  clear hc h0
  go_enter Tryz.func34, Tryz.ntmps34
  go_wp2_with fail
  refine (HC.out _ (Below.refl _ _)).mono ?_
  rintro e w1 ⟨rfl, hb1⟩
  go_wp2
  go_ret2
  exact Ret.of rfl hb1
theorem reduce_ok (zl : List ZT) (b o cap : Nat) (w : World) (hg : Glob w) (hw : WSl w b o (tx zl)) (h : GoodL zl) :
    Calls Tryz.prog 33 #[.slice (some ⟨b, o, none⟩) zl.length cap] w (ListP true (tx (redZ (gall zl) zl)) 0 w) := by
  have HC := Lib.hid (chk_good b o cap w hg hw h)
  have HW := Lib.hid hw
  have hl := h.2.2.1
  have H0 := Lib.hid I_zero
  have HG := Lib.hid (fun i (hlt : i < zl.length) wx hgx => gcd_I (gpre zl i) zl[i].2 wx hgx (ok_pow (gpre_bd h i (Nat.le_of_lt hlt)) (by decide)) (h.1.mem _ (List.getElem_mem hlt)).2.1)
  have HGS := Lib.hid (fun i hlt => gpre_succ zl i hlt)
  have hgo : Ok (gall zl) := ok_pow (gpre_bd h zl.length (Nat.le_refl _)) (by decide)
  have HQ := Lib.hid (fun i (hlt : i < zl.length) wx hgx => quo_I zl[i].2 (gall zl) wx hgx (h.1.mem _ (List.getElem_mem hlt)).2.1 hgo (by have := gall_pos h; omega))
  have HTK := Lib.hid (fun i hlt => redZ_take (gall zl) zl i hlt)
  have HGA : Hid (gpre zl zl.length = gall zl) := rfl
  have HRL := Lib.hid (fun i => redZ_len (gall zl) (zl.take i))
  clear hw h hgo
  generalize gall zl = ga at *
  go_enter Tryz.func33, Tryz.ntmps33
  go_wp2_with fail
  refine (HC.out _ (Below.refl _ _)).mono ?_
  rintro e w1 ⟨rfl, hb1⟩
  go_wp2
  go_loopw [5, 21] (fun ov iv wr => ∃ i : Nat, iv = .int .i64 (i : Int) ∧ i ≤ zl.length ∧ ov = .string (bs (I (gpre zl i))) ∧ Below w.heap.size w wr) (fun _ iv _ => zl.length - (intOf iv).toNat)
  case atStart =>
    refine ⟨0, rfl, by omega, ?_, hb1⟩
    rw [gpre, H0.out]; rfl
  case round =>
    clear hb1
    obtain ⟨i, rfl, hil, rfl, hbw⟩ := hrel
    by_cases hlt : i < zl.length
    · have hwr := HW.out.below' hbw
      have hlt' : i < (tx zl).length := by rw [tx_len]; exact hlt
      have cv := hwr.val i hlt'
      have cw := hwr.wt i hlt'
      rw [tx_get zl i hlt] at cv cw
      simp only at cv cw
      have hm := fun wx hgx => HG.out i hlt wx hgx
      rw [← HGS.out i hlt] at hm
      have HM := Lib.hid hm
      generalize hx : gpre zl (i + 1) = x at *
      have HX := Lib.hid hx
      have hab : Below w.heap.size w (wr.alloc (.cells #[.int .i64 zl[i].1, .string (bs (I zl[i].2))] 61)) := hbw.alloc hbw.size _
      clear hwr hm hx
      go_wp2_with fail
      refine (HM.out _ (hg.of hab)).mono ?_
      rintro e w3 ⟨rfl, hb3⟩
      have hb3' := hab.trans (hb3.mono hab.size)
      go_wp2
      go_roundw
      case rel => exact ⟨i + 1, by go_num, by omega, by rw [HX.out], hb3'⟩
      case measure => simp [intOf]; omega
    · obtain rfl : i = zl.length := by omega
      rw [HGA.out]
      go_wp2
      go_loopw [9, 38] (fun ov iv wr => ∃ (j : Nat) (vo : Value), iv = .int .i64 (j : Int) ∧ ov = vo ∧ j ≤ zl.length ∧ Hid (OwnW wr w.heap.size vo (tx (redZ ga (zl.take j)))) ∧ Below w.heap.size w wr) (fun _ iv _ => zl.length - (intOf iv).toNat)
      case atStart => exact ⟨0, _, rfl, rfl, by omega, OwnW.nil _ _, hbw⟩
      case round =>
        clear hbw
        obtain ⟨j, ov, rfl, hvo, hjl, hown, hby⟩ := hrel
        have hvo := hvo.symm
        subst hvo
        by_cases hlj : j < zl.length
        · have hwr := HW.out.below' hby
          have hlt' : j < (tx zl).length := by rw [tx_len]; exact hlj
          have cv := hwr.val j hlt'
          have cw := hwr.wt j hlt'
          rw [tx_get zl j hlj] at cv cw
          simp only at cv cw
          have HM := Lib.hid (HQ.out j hlj)
          have HTJ := Lib.hid (HTK.out j hlj)
          have hlen := HRL.out j
          rw [List.length_take] at hlen
          have hab := hby.alloc hby.size (.cells #[.int .i64 zl[j].1, .string (bs (I zl[j].2))] 61)
          have hown1 : OwnW (wr.alloc (.cells #[.int .i64 zl[j].1, .string (bs (I zl[j].2))] 61)) w.heap.size ov (tx (redZ ga (zl.take j))) := World.ownsRow.alloc hown.out _
          have HO1 := Lib.hid (And.intro hown1 (show (tx (redZ ga (zl.take j))).length ≤ 1000000000 by omega))
          clear hwr hlen hown1 hown hlt'
          generalize I (zl[j].2.fdiv ga) = qs at *
          go_wp2_with fail
          refine (HM.out _ (hg.of hab)).mono ?_
          rintro e w4 ⟨rfl, hb4⟩
          have hb4' := hab.trans (hb4.mono hab.size)
          have hrow := (Row.new wr 61 [.int .i64 zl[j].1, .string (bs (I zl[j].2))]).below' hb4
          have c0 := hrow.cell (i := 0) rfl
          have HO4 := Lib.hid (And.intro (OwnW.below HO1.out.1 hb4) hb4')
          clear hrow hb4 hb4' hab cv cw
          go_wp2_with (at_builtin; refine wpList_app_w rfl _ _ rfl rfl rfl rfl HO4.out.1 HO4.out.2.size HO1.out.2 ?_; intro v' w' ho' hk')
          have hbk := hk' _ _ (Nat.le_refl _) HO4.out.2
          go_roundw
          case rel => exact ⟨j + 1, _, by go_num, rfl, by omega, by rw [HTJ.out]; exact ho', hbk⟩
          case measure => simp [intOf]; omega
        · obtain rfl : j = zl.length := by omega
          have ho := hown.out
          rw [List.take_length] at ho
          have HO := Lib.hid ho
          clear ho hown
          go_wp2
          go_ret2
          exact ListP.yes HO.out hby
theorem rreduce_ok (zl : List ZT) (b o cap : Nat) (w : World) (hw : WSl w b o (tx zl)) (h : GoodL zl) :
    Calls Tryz.prog 34 #[.slice (some ⟨b, o, none⟩) zl.length cap] w (ListP true (tx (redZ (gall zl) zl)) 0 w) := by
  have HC := Lib.hid (chke_good b o cap w hw h)
  have HW := Lib.hid hw
  have hl := h.2.2.1
  have H0 := Lib.hid I_zero
  have HG := Lib.hid (fun i (hlt : i < zl.length) wx => shared_I (gpre zl i) zl[i].2 wx (Nat.le_trans (I_le (gpre_bd h i (Nat.le_of_lt hlt)) (by decide)) (by decide)) (Nat.le_trans (I_le (h.2.2.2 _ (List.getElem_mem hlt)) (by decide)) (by decide)))
  have HGS := Lib.hid (fun i hlt => gpre_succ zl i hlt)
  have HQ := Lib.hid (fun i (hlt : i < zl.length) wx => parted_I zl[i].2 (gall zl) wx (by have := gall_pos h; omega) (Nat.le_trans (I_le (h.2.2.2 _ (List.getElem_mem hlt)) (by decide)) (by decide)) (Nat.le_trans (I_le (gpre_bd h zl.length (Nat.le_refl _)) (by decide)) (by decide)))
  have HTK := Lib.hid (fun i hlt => redZ_take (gall zl) zl i hlt)
  have HGA : Hid (gpre zl zl.length = gall zl) := rfl
  have HRL := Lib.hid (fun i => redZ_len (gall zl) (zl.take i))
  have hblt := hw.lt
  clear hw h
  generalize gall zl = ga at *
  go_enter Tryz.func34, Tryz.ntmps34
  go_wp2_with fail
  refine (HC.out _ (Below.refl _ _)).mono ?_
  rintro e w1 ⟨rfl, hb1⟩
  go_wp2
  go_loopw [5, 6] (fun ov iv wr => ∃ i : Nat, iv = .int .i64 (i : Int) ∧ i ≤ zl.length ∧ ov = .string (bs (I (gpre zl i))) ∧ Below w.heap.size w wr) (fun _ iv _ => zl.length - (intOf iv).toNat)
  case atStart =>
    refine ⟨0, rfl, by omega, ?_, hb1⟩
    rw [gpre, H0.out]; rfl
  case round =>
    clear hb1
    obtain ⟨i, rfl, hil, rfl, hbw⟩ := hrel
    by_cases hlt : i < zl.length
    · have hwr := HW.out.below' hbw
      have hlt' : i < (tx zl).length := by rw [tx_len]; exact hlt
      have cw := hwr.wt i hlt'
      rw [tx_get zl i hlt] at cw
      simp only at cw
      have hm := fun wx => HG.out i hlt wx
      rw [← HGS.out i hlt] at hm
      have HM := Lib.hid hm
      generalize hx : gpre zl (i + 1) = x at *
      have HX := Lib.hid hx
      clear hwr hm hx
      go_wp2_with fail
      refine (HM.out _).mono ?_
      rintro e w3 ⟨rfl, hb3⟩
      have hb3' := hbw.trans (hb3.mono hbw.size)
      go_wp2
      go_roundw
      case rel => exact ⟨i + 1, by go_num, by omega, by rw [HX.out], hb3'⟩
      case measure => simp [intOf]; omega
    · obtain rfl : i = zl.length := by omega
      rw [HGA.out]
      go_wp2
      go_loopw [7, 8] (fun ov iv wr => ∃ (j : Nat) (vo : Value), iv = .int .i64 (j : Int) ∧ ov = vo ∧ j ≤ zl.length ∧ Hid (OwnW wr w.heap.size vo (tx (redZ ga (zl.take j)))) ∧ Below w.heap.size w wr) (fun _ iv _ => zl.length - (intOf iv).toNat)
      case atStart => exact ⟨0, _, rfl, rfl, by omega, OwnW.nil _ _, hbw⟩
      case round =>
        clear hbw
        obtain ⟨j, ov, rfl, hvo, hjl, hown, hby⟩ := hrel
        have hvo := hvo.symm
        subst hvo
        by_cases hlj : j < zl.length
        · have hwr := HW.out.below' hby
          have hlt' : j < (tx zl).length := by rw [tx_len]; exact hlj
          have cv := hwr.val j hlt'
          have cw := hwr.wt j hlt'
          rw [tx_get zl j hlj] at cv cw
          simp only at cv cw
          have HM := Lib.hid (HQ.out j hlj)
          have HTJ := Lib.hid (HTK.out j hlj)
          have hlen := HRL.out j
          rw [List.length_take] at hlen
          have HO1 := Lib.hid (And.intro hown.out (show (tx (redZ ga (zl.take j))).length ≤ 1000000000 by omega))
          have hbl2 : b < wr.heap.size := Nat.lt_of_lt_of_le hblt hby.size
          clear hwr hlen hown hlt'
          generalize I (zl[j].2.fdiv ga) = qs at *
          generalize I (zl[j].2.fmod ga) = ms at *
          go_wp2_with fail
          refine (HM.out _).mono ?_
          rintro e w4 ⟨rfl, hb4⟩
          have hb4' := hby.trans (hb4.mono hby.size)
          have c0 := (hb4.cell (p := ⟨b, o + j * 2, none⟩) hbl2).trans cv
          have HO4 := Lib.hid (And.intro (OwnW.below HO1.out.1 hb4) hb4')
          clear hb4 hb4' cv cw
          go_wp2_with (at_builtin; refine wpList_app_w rfl _ _ rfl rfl rfl rfl HO4.out.1 HO4.out.2.size HO1.out.2 ?_; intro v' w' ho' hk')
          have hbk := hk' _ _ (Nat.le_refl _) HO4.out.2
          go_roundw
          case rel => exact ⟨j + 1, _, by go_num, rfl, by omega, by rw [HTJ.out]; exact ho', hbk⟩
          case measure => simp [intOf]; omega
        · obtain rfl : j = zl.length := by omega
          have ho := hown.out
          rw [List.take_length] at ho
          have HO := Lib.hid ho
          clear ho hown
          go_wp2
          go_ret2
          exact ListP.yes HO.out hby
end W
end Go.Proofs.YtgjfiaadnecilaaGreatDoor
namespace Go.Proofs.YtgjfiaadnecilaaGreatDoor
open Go Go.RowKit Go.Deep
namespace M
/-- k values in steps. -/
def uniZ (lo st : Int) (k : Nat) : List ZT := (List.range k).map fun (i : Nat) => (lo + st * (i : Int), 1)
theorem uniZ_succ (lo st : Int) (k : Nat) : tx (uniZ lo st (k + 1)) = tx (uniZ lo st k) ++ [(lo + st * (k : Int), I 1)] := by
  unfold uniZ; rw [List.range_succ, List.map_append, tx_append]; rfl
theorem uniZ_len (lo st : Int) (k : Nat) : (tx (uniZ lo st k)).length = k := by simp [uniZ, tx]
theorem uni_q {d st : Int} (hd : 0 ≤ d) (hs : 1 ≤ st) : 0 ≤ d / st ∧ d / st ≤ d :=
  ⟨Int.ediv_nonneg hd (by omega), Int.ediv_le_self _ hd⟩
theorem uni_le {lo hi st : Int} {k : Nat} (hs : 1 ≤ st) : lo + st * (k : Int) ≤ hi ↔ (k : Int) ≤ (hi - lo) / st := by
  rw [Int.le_ediv_iff_mul_le (by omega), Int.mul_comm (k : Int) st]
  constructor <;> intro h <;> omega
end M
namespace W
open M
attribute [local go_sem] bs_size bs_toList bs_get bs_extract bs_append bs_lit0 bs_lit1 lit1_bs
set_option maxHeartbeats 1000000
set_option maxRecDepth 20000
theorem uni_range (lo hi st : Int) (w : World) (h : ¬ (okv lo = true ∧ okv hi = true ∧ 1 ≤ st ∧ st ≤ 1048576)) :
    Calls Tryz.prog 26 #[.int .i64 lo, .int .i64 hi, .int .i64 st] w (Ret w (.tuple #[.slice none 0 0, .int .i64 2])) := by
  have HL := Lib.hid (fun w' => within_any lo w')
  have HH := Lib.hid (fun w' => within_any hi w')
  by_cases h1 : okv lo = true
  · rw [h1] at HL
    by_cases h2 : okv hi = true
    · rw [h2] at HH
      by_cases h3 : st < 1
      · clear h h1 h2
        go_enter Tryz.func26, Tryz.ntmps26
        go_wp2_with fail
        refine (HL.out _).mono ?_
        rintro e w' ⟨rfl, rfl⟩
        go_wp2_with fail
        refine (HH.out _).mono ?_
        rintro e w' ⟨rfl, rfl⟩
        go_wp2
        go_ret2
        exact Ret.of rfl (Below.refl _ _)
      · have d3 : decide (st < 1) = false := decide_eq_false h3
        have h4 : 1048576 < st := by
          rcases Int.lt_or_le 1048576 st with h4 | h4
          · exact h4
          · exact absurd ⟨h1, h2, by omega, h4⟩ h
        clear h h1 h2
        go_enter Tryz.func26, Tryz.ntmps26
        go_wp2_with fail
        refine (HL.out _).mono ?_
        rintro e w' ⟨rfl, rfl⟩
        go_wp2_with fail
        refine (HH.out _).mono ?_
        rintro e w' ⟨rfl, rfl⟩
        go_wp2
        go_ret2
        exact Ret.of rfl (Below.refl _ _)
    · rw [Bool.eq_false_iff.2 h2] at HH
      clear h h1 h2
      go_enter Tryz.func26, Tryz.ntmps26
      go_wp2_with fail
      refine (HL.out _).mono ?_
      rintro e w' ⟨rfl, rfl⟩
      go_wp2_with fail
      refine (HH.out _).mono ?_
      rintro e w' ⟨rfl, rfl⟩
      go_wp2
      go_ret2
      exact Ret.of rfl (Below.refl _ _)
  · rw [Bool.eq_false_iff.2 h1] at HL
    clear h h1
    go_enter Tryz.func26, Tryz.ntmps26
    go_wp2_with fail
    refine (HL.out _).mono ?_
    rintro e w' ⟨rfl, rfl⟩
    go_wp2
    go_ret2
    exact Ret.of rfl (Below.refl _ _)
theorem uni_order (lo hi st : Int) (w : World) (h1 : okv lo = true) (h2 : okv hi = true) (h3 : 1 ≤ st) (h4 : st ≤ 1048576) (h5 : hi < lo) :
    Calls Tryz.prog 26 #[.int .i64 lo, .int .i64 hi, .int .i64 st] w (Ret w (.tuple #[.slice none 0 0, .int .i64 9])) := by
  have HL := Lib.hid (fun w' => within_any lo w')
  have HH := Lib.hid (fun w' => within_any hi w')
  rw [h1] at HL
  rw [h2] at HH
  have d3 : decide (st < 1) = false := decide_eq_false (by omega)
  have d4 : decide (1048576 < st) = false := decide_eq_false (by omega)
  clear h1 h2
  go_enter Tryz.func26, Tryz.ntmps26
  go_wp2_with fail
  refine (HL.out _).mono ?_
  rintro e w' ⟨rfl, rfl⟩
  go_wp2_with fail
  refine (HH.out _).mono ?_
  rintro e w' ⟨rfl, rfl⟩
  go_wp2
  go_ret2
  exact Ret.of rfl (Below.refl _ _)
theorem uni_many (lo hi st : Int) (w : World) (h1 : okv lo = true) (h2 : okv hi = true) (h3 : 1 ≤ st) (h4 : st ≤ 1048576) (h5 : lo ≤ hi) (h6 : 4096 < (hi - lo) / st + 1) :
    Calls Tryz.prog 26 #[.int .i64 lo, .int .i64 hi, .int .i64 st] w (Ret w (.tuple #[.slice none 0 0, .int .i64 5])) := by
  have HL := Lib.hid (fun w' => within_any lo w')
  have HH := Lib.hid (fun w' => within_any hi w')
  obtain ⟨r1, r2⟩ := okv_true.1 h1
  obtain ⟨r3, r4⟩ := okv_true.1 h2
  rw [h1] at HL
  rw [h2] at HH
  have d3 : decide (st < 1) = false := decide_eq_false (by omega)
  have d4 : decide (1048576 < st) = false := decide_eq_false (by omega)
  have d5 : decide (hi < lo) = false := decide_eq_false (by omega)
  have hd0 : 0 ≤ hi - lo := by omega
  have hq := uni_q hd0 h3
  clear h1 h2
  go_enter Tryz.func26, Tryz.ntmps26
  go_wp2_with fail
  refine (HL.out _).mono ?_
  rintro e w' ⟨rfl, rfl⟩
  go_wp2_with fail
  refine (HH.out _).mono ?_
  rintro e w' ⟨rfl, rfl⟩
  go_wp2
  go_ret2
  exact Ret.of rfl (Below.refl _ _)
theorem uni_ok (lo hi st : Int) (w : World) (h1 : okv lo = true) (h2 : okv hi = true) (h3 : 1 ≤ st) (h4 : st ≤ 1048576) (h5 : lo ≤ hi) (h6 : (hi - lo) / st + 1 ≤ 4096) :
    Calls Tryz.prog 26 #[.int .i64 lo, .int .i64 hi, .int .i64 st] w (ListP true (tx (uniZ lo st ((hi - lo) / st + 1).toNat)) 0 w) := by
  have HL := Lib.hid (fun w' => within_any lo w')
  have HH := Lib.hid (fun w' => within_any hi w')
  obtain ⟨r1, r2⟩ := okv_true.1 h1
  obtain ⟨r3, r4⟩ := okv_true.1 h2
  rw [h1] at HL
  rw [h2] at HH
  have d3 : decide (st < 1) = false := decide_eq_false (by omega)
  have d4 : decide (1048576 < st) = false := decide_eq_false (by omega)
  have d5 : decide (hi < lo) = false := decide_eq_false (by omega)
  have hd0 : 0 ≤ hi - lo := by omega
  have hq := uni_q hd0 h3
  have HTK := Lib.hid (fun k => uniZ_succ lo st k)
  have HLN := Lib.hid (fun k => uniZ_len lo st k)
  have HST := Lib.hid (fun (k : Nat) => uni_le (lo := lo) (hi := hi) (st := st) (k := k) h3)
  have H1 := Lib.hid I_one
  obtain ⟨N, hN⟩ : ∃ N : Nat, (hi - lo) / st + 1 = (N : Int) := ⟨((hi - lo) / st + 1).toNat, by omega⟩
  have HN := Lib.hid hN
  rw [hN, Int.toNat_natCast]
  have d6 : decide (4096 < (hi - lo) / st + 1) = false := decide_eq_false (by omega)
  clear h1 h2
  go_enter Tryz.func26, Tryz.ntmps26
  go_wp2_with fail
  refine (HL.out _).mono ?_
  rintro e w' ⟨rfl, rfl⟩
  go_wp2_with fail
  refine (HH.out _).mono ?_
  rintro e w' ⟨rfl, rfl⟩
  go_wp2
  go_loopw [8, 9] (fun ov iv wr => ∃ (k : Nat) (vo : Value), iv = .int .i64 (lo + st * (k : Int)) ∧ ov = vo ∧ k ≤ N ∧ Hid (OwnW wr w.heap.size vo (tx (uniZ lo st k))) ∧ Below w.heap.size w wr) (fun _ iv _ => (hi + 1 - intOf iv).toNat)
  case atStart => exact ⟨0, _, by congr 1; omega, rfl, by omega, by have h0 : tx (uniZ lo st 0) = [] := rfl; rw [h0]; exact OwnW.nil _ _, Below.refl _ _⟩
  case round =>
    obtain ⟨k, ov, rfl, hvo, hk, hown, hbw⟩ := hrel
    have hvo := hvo.symm
    subst hvo
    have hiff := HST.out k
    by_cases hlt : k < N
    · have hle : lo + st * (k : Int) ≤ hi := hiff.2 (by have := HN.out; omega)
      have HTJ := Lib.hid (HTK.out k)
      have hlen := HLN.out k
      have hk2 : (k : Int) ≤ 4096 := by have := HN.out; omega
      have hmul : st * ((k : Int) + 1) = st * (k : Int) + st := by rw [Int.mul_add, Int.mul_one]
      have HMU := Lib.hid hmul
      have HO1 := Lib.hid (And.intro hown.out (And.intro hbw (show (tx (uniZ lo st k)).length ≤ 1000000000 by omega)))
      have hgo : lo ≤ lo + st * (k : Int) := by
        have : 0 ≤ st * (k : Int) := Int.mul_nonneg (by omega) (by omega)
        omega
      clear hiff hmul hlen hown hq d6
      generalize hv : lo + st * (k : Int) = v at *
      have HV := Lib.hid hv
      clear hv
      have hw1 : wrap64 (v + st) = v + st := IntWalk.wrap64_in _ (by omega)
      go_wp2_with (at_builtin; refine wpList_app_w rfl _ _ rfl rfl rfl rfl HO1.out.1 HO1.out.2.1.size HO1.out.2.2 ?_; intro v' w' ho' hk')
      have hbk := hk' _ _ (Nat.le_refl _) HO1.out.2.1
      go_roundw
      case rel => exact ⟨k + 1, _, by rw [Int.natCast_add, Int.natCast_one, HMU.out, ← HV.out, Int.add_assoc], rfl, by omega, by rw [HTJ.out, H1.out]; exact ho', hbk⟩
      case measure => simp [intOf]; omega
    · obtain rfl : k = N := by omega
      have hgt : ¬ lo + st * (k : Int) ≤ hi := fun hle => by have := hiff.1 hle; have := HN.out; omega
      have hd : decide (lo + st * (k : Int) ≤ hi) = false := decide_eq_false hgt
      clear hiff hgt hq d6
      go_wp2
      go_ret2
      exact ListP.yes hown.out hbw
theorem runi_range (lo hi st : Int) (w : World) (h : ¬ (okv lo = true ∧ okv hi = true ∧ 1 ≤ st ∧ st ≤ 1048576)) :
    Calls Tryz.prog 27 #[.int .i64 lo, .int .i64 hi, .int .i64 st] w (Ret w (.tuple #[.slice none 0 0, .int .i64 2])) := by
  have HL := Lib.hid (fun w' => value_any lo w')
  have HH := Lib.hid (fun w' => value_any hi w')
  by_cases h1 : okv lo = true
  · rw [h1] at HL
    by_cases h2 : okv hi = true
    · rw [h2] at HH
      by_cases h3 : st < 1
      · clear h h1 h2
        go_enter Tryz.func27, Tryz.ntmps27
        go_wp2_with fail
        refine (HL.out _).mono ?_
        rintro e w' ⟨rfl, rfl⟩
        go_wp2_with fail
        refine (HH.out _).mono ?_
        rintro e w' ⟨rfl, rfl⟩
        go_wp2
        go_ret2
        exact Ret.of rfl (Below.refl _ _)
      · have d3 : decide (st < 1) = false := decide_eq_false h3
        have h4 : 1048576 < st := by
          rcases Int.lt_or_le 1048576 st with h4 | h4
          · exact h4
          · exact absurd ⟨h1, h2, by omega, h4⟩ h
        clear h h1 h2
        go_enter Tryz.func27, Tryz.ntmps27
        go_wp2_with fail
        refine (HL.out _).mono ?_
        rintro e w' ⟨rfl, rfl⟩
        go_wp2_with fail
        refine (HH.out _).mono ?_
        rintro e w' ⟨rfl, rfl⟩
        go_wp2
        go_ret2
        exact Ret.of rfl (Below.refl _ _)
    · rw [Bool.eq_false_iff.2 h2] at HH
      clear h h1 h2
      go_enter Tryz.func27, Tryz.ntmps27
      go_wp2_with fail
      refine (HL.out _).mono ?_
      rintro e w' ⟨rfl, rfl⟩
      go_wp2_with fail
      refine (HH.out _).mono ?_
      rintro e w' ⟨rfl, rfl⟩
      go_wp2
      go_ret2
      exact Ret.of rfl (Below.refl _ _)
  · rw [Bool.eq_false_iff.2 h1] at HL
    clear h h1
    go_enter Tryz.func27, Tryz.ntmps27
    go_wp2_with fail
    refine (HL.out _).mono ?_
    rintro e w' ⟨rfl, rfl⟩
    go_wp2
    go_ret2
    exact Ret.of rfl (Below.refl _ _)
theorem runi_order (lo hi st : Int) (w : World) (h1 : okv lo = true) (h2 : okv hi = true) (h3 : 1 ≤ st) (h4 : st ≤ 1048576) (h5 : hi < lo) :
    Calls Tryz.prog 27 #[.int .i64 lo, .int .i64 hi, .int .i64 st] w (Ret w (.tuple #[.slice none 0 0, .int .i64 9])) := by
  have HL := Lib.hid (fun w' => value_any lo w')
  have HH := Lib.hid (fun w' => value_any hi w')
  rw [h1] at HL
  rw [h2] at HH
  have d3 : decide (st < 1) = false := decide_eq_false (by omega)
  have d4 : decide (1048576 < st) = false := decide_eq_false (by omega)
  clear h1 h2
  go_enter Tryz.func27, Tryz.ntmps27
  go_wp2_with fail
  refine (HL.out _).mono ?_
  rintro e w' ⟨rfl, rfl⟩
  go_wp2_with fail
  refine (HH.out _).mono ?_
  rintro e w' ⟨rfl, rfl⟩
  go_wp2
  go_ret2
  exact Ret.of rfl (Below.refl _ _)
theorem runi_many (lo hi st : Int) (w : World) (h1 : okv lo = true) (h2 : okv hi = true) (h3 : 1 ≤ st) (h4 : st ≤ 1048576) (h5 : lo ≤ hi) (h6 : 4096 < (hi - lo) / st + 1) :
    Calls Tryz.prog 27 #[.int .i64 lo, .int .i64 hi, .int .i64 st] w (Ret w (.tuple #[.slice none 0 0, .int .i64 5])) := by
  have HL := Lib.hid (fun w' => value_any lo w')
  have HH := Lib.hid (fun w' => value_any hi w')
  obtain ⟨r1, r2⟩ := okv_true.1 h1
  obtain ⟨r3, r4⟩ := okv_true.1 h2
  rw [h1] at HL
  rw [h2] at HH
  have d3 : decide (st < 1) = false := decide_eq_false (by omega)
  have d4 : decide (1048576 < st) = false := decide_eq_false (by omega)
  have d5 : decide (hi < lo) = false := decide_eq_false (by omega)
  have hd0 : 0 ≤ hi - lo := by omega
  have hq := uni_q hd0 h3
  clear h1 h2
  go_enter Tryz.func27, Tryz.ntmps27
  go_wp2_with fail
  refine (HL.out _).mono ?_
  rintro e w' ⟨rfl, rfl⟩
  go_wp2_with fail
  refine (HH.out _).mono ?_
  rintro e w' ⟨rfl, rfl⟩
  go_wp2
  go_ret2
  exact Ret.of rfl (Below.refl _ _)
theorem runi_ok (lo hi st : Int) (w : World) (h1 : okv lo = true) (h2 : okv hi = true) (h3 : 1 ≤ st) (h4 : st ≤ 1048576) (h5 : lo ≤ hi) (h6 : (hi - lo) / st + 1 ≤ 4096) :
    Calls Tryz.prog 27 #[.int .i64 lo, .int .i64 hi, .int .i64 st] w (ListP true (tx (uniZ lo st ((hi - lo) / st + 1).toNat)) 0 w) := by
  have HL := Lib.hid (fun w' => value_any lo w')
  have HH := Lib.hid (fun w' => value_any hi w')
  obtain ⟨r1, r2⟩ := okv_true.1 h1
  obtain ⟨r3, r4⟩ := okv_true.1 h2
  rw [h1] at HL
  rw [h2] at HH
  have d3 : decide (st < 1) = false := decide_eq_false (by omega)
  have d4 : decide (1048576 < st) = false := decide_eq_false (by omega)
  have d5 : decide (hi < lo) = false := decide_eq_false (by omega)
  have hd0 : 0 ≤ hi - lo := by omega
  have hq := uni_q hd0 h3
  have HTK := Lib.hid (fun k => uniZ_succ lo st k)
  have HLN := Lib.hid (fun k => uniZ_len lo st k)
  have HST := Lib.hid (fun (k : Nat) => uni_le (lo := lo) (hi := hi) (st := st) (k := k) h3)
  have H1 := Lib.hid I_one
  obtain ⟨N, hN⟩ : ∃ N : Nat, (hi - lo) / st + 1 = (N : Int) := ⟨((hi - lo) / st + 1).toNat, by omega⟩
  have HN := Lib.hid hN
  rw [hN, Int.toNat_natCast]
  have d6 : decide (4096 < (hi - lo) / st + 1) = false := decide_eq_false (by omega)
  clear h1 h2
  go_enter Tryz.func27, Tryz.ntmps27
  go_wp2_with fail
  refine (HL.out _).mono ?_
  rintro e w' ⟨rfl, rfl⟩
  go_wp2_with fail
  refine (HH.out _).mono ?_
  rintro e w' ⟨rfl, rfl⟩
  go_wp2
  go_loopw [8, 9] (fun ov iv wr => ∃ (k : Nat) (vo : Value), iv = .int .i64 (lo + st * (k : Int)) ∧ ov = vo ∧ k ≤ N ∧ Hid (OwnW wr w.heap.size vo (tx (uniZ lo st k))) ∧ Below w.heap.size w wr) (fun _ iv _ => (hi + 1 - intOf iv).toNat)
  case atStart => exact ⟨0, _, by congr 1; omega, rfl, by omega, by have h0 : tx (uniZ lo st 0) = [] := rfl; rw [h0]; exact OwnW.nil _ _, Below.refl _ _⟩
  case round =>
    obtain ⟨k, ov, rfl, hvo, hk, hown, hbw⟩ := hrel
    have hvo := hvo.symm
    subst hvo
    have hiff := HST.out k
    by_cases hlt : k < N
    · have hle : lo + st * (k : Int) ≤ hi := hiff.2 (by have := HN.out; omega)
      have HTJ := Lib.hid (HTK.out k)
      have hlen := HLN.out k
      have hk2 : (k : Int) ≤ 4096 := by have := HN.out; omega
      have hmul : st * ((k : Int) + 1) = st * (k : Int) + st := by rw [Int.mul_add, Int.mul_one]
      have HMU := Lib.hid hmul
      have HO1 := Lib.hid (And.intro hown.out (And.intro hbw (show (tx (uniZ lo st k)).length ≤ 1000000000 by omega)))
      have hgo : lo ≤ lo + st * (k : Int) := by
        have : 0 ≤ st * (k : Int) := Int.mul_nonneg (by omega) (by omega)
        omega
      clear hiff hmul hlen hown hq d6
      generalize hv : lo + st * (k : Int) = v at *
      have HV := Lib.hid hv
      clear hv
      have hw1 : wrap64 (v + st) = v + st := IntWalk.wrap64_in _ (by omega)
      go_wp2_with (at_builtin; refine wpList_app_w rfl _ _ rfl rfl rfl rfl HO1.out.1 HO1.out.2.1.size HO1.out.2.2 ?_; intro v' w' ho' hk')
      have hbk := hk' _ _ (Nat.le_refl _) HO1.out.2.1
      go_roundw
      case rel => exact ⟨k + 1, _, by rw [Int.natCast_add, Int.natCast_one, HMU.out, ← HV.out, Int.add_assoc], rfl, by omega, by rw [HTJ.out, H1.out]; exact ho', hbk⟩
      case measure => simp [intOf]; omega
    · obtain rfl : k = N := by omega
      have hgt : ¬ lo + st * (k : Int) ≤ hi := fun hle => by have := hiff.1 hle; have := HN.out; omega
      have hd : decide (lo + st * (k : Int) ≤ hi) = false := decide_eq_false hgt
      clear hiff hgt hq d6
      go_wp2
      go_ret2
      exact ListP.yes hown.out hbw
end W
end Go.Proofs.YtgjfiaadnecilaaGreatDoor
namespace Go.Proofs.YtgjfiaadnecilaaGreatDoor
open Go Go.RowKit Go.Deep
/-- A slice that is nil, or lies in a block. -/
def SrcW (w : World) (v : Value) (l : List M.WT) : Prop :=
  (v = .slice none 0 0 ∧ l = []) ∨ ∃ b o cap, v = .slice (some ⟨b, o, none⟩) l.length cap ∧ ∀ j u, (wcs l)[j]? = some u → w.cell? ⟨b, o + j, none⟩ = some u
theorem wcs_cells {w : World} {b o : Nat} {l : List M.WT} (h : WSl w b o l) : ∀ j u, (wcs l)[j]? = some u → w.cell? ⟨b, o + j, none⟩ = some u := by
  intro j u hu
  have hj : j < l.length * 2 := by
    rcases Nat.lt_or_ge j (l.length * 2) with h1 | h1
    · exact h1
    · rw [List.getElem?_eq_none (by rw [wcs_len]; exact h1)] at hu; cases hu
  have hi : j / 2 < l.length := by omega
  have k := wcs_get l (j / 2) hi
  rcases Nat.mod_two_eq_zero_or_one j with h2 | h2
  · have e : j / 2 * 2 = j := by omega
    rw [e] at k
    rw [k.1] at hu
    have := h.val (j / 2) hi
    rw [e] at this
    rw [this, Option.some.inj hu]
  · have e : j / 2 * 2 + 1 = j := by omega
    rw [e] at k
    rw [k.2] at hu
    have := h.wt (j / 2) hi
    rw [show o + j / 2 * 2 + 1 = o + j by omega] at this
    rw [this, Option.some.inj hu]
theorem WSl.take {w : World} {b o : Nat} {l : List M.WT} (h : WSl w b o l) (k : Nat) : WSl w b o (l.take k) :=
  ⟨h.lt, fun i hi => by
    have h2 : i < l.length := by rw [List.length_take] at hi; omega
    rw [h.val i h2, List.getElem_take], fun i hi => by
    have h2 : i < l.length := by rw [List.length_take] at hi; omega
    rw [h.wt i h2, List.getElem_take]⟩
theorem WSl.drop {w : World} {b o : Nat} {l : List M.WT} (h : WSl w b o l) (k : Nat) : WSl w b (o + k * 2) (l.drop k) :=
  ⟨h.lt, fun i hi => by
    have h2 : k + i < l.length := by rw [List.length_drop] at hi; omega
    rw [List.getElem_drop, ← h.val (k + i) h2]
    congr 2; omega, fun i hi => by
    have h2 : k + i < l.length := by rw [List.length_drop] at hi; omega
    rw [List.getElem_drop, ← h.wt (k + i) h2]
    congr 2; omega⟩
theorem wcs_one (l : List M.WT) : ∀ u ∈ wcs l, u.oneCell' = true := by
  intro u hu
  simp only [wcs, List.mem_flatMap] at hu
  obtain ⟨x, _, hx⟩ := hu
  simp at hx
  rcases hx with rfl | rfl <;> rfl
theorem SrcW.of {w : World} {b o cap n : Nat} {l : List M.WT} (h : WSl w b o l) (hn : n = l.length) : SrcW w (.slice (some ⟨b, o, none⟩) n cap) l :=
  Or.inr ⟨b, o, cap, by rw [hn], wcs_cells h⟩
theorem SrcW.empty (w : World) (b o cap : Nat) : SrcW w (.slice (some ⟨b, o, none⟩) 0 cap) [] := Or.inr ⟨b, o, cap, rfl, fun j u h => by simp [wcs] at h⟩
theorem SrcW.nil (w : World) : SrcW w (.slice none 0 0) [] := Or.inl ⟨rfl, rfl⟩
theorem SrcW.new (w : World) (l : List M.WT) (cs : Array Value) (n A : Nat) (h : cs = (wcs l).toArray) (hn : n = l.length) (hA : A = w.heap.size) : SrcW (w.alloc (.cells cs 61 (0, 0))) (.slice (some ⟨A, 0, none⟩) n n) l := by
  subst hA h
  refine SrcW.of (WSl.new w l _ rfl) hn
theorem run_app_rd {w : World} {B : Nat} {v x : Value} {l m : List M.WT} (ty : TypeId) (h : OwnW w B v l) (hx : SrcW w x m) (hB : B ≤ w.heap.size) (hn : l.length + m.length ≤ 1000000000) :
    ∃ v' w', (Builtin.append_ #[22, 22] ty #[v, x]).run Tryz.prog w = .ok v' w' ∧ OwnW w' B v' (l ++ m) ∧ Keeps B w w' := by
  obtain ⟨i, h1, h2, h3, h4⟩ := info_parts infoWt
  rcases hx with ⟨rfl, rfl⟩ | ⟨b, o, cap, rfl, hc⟩
  · refine ⟨v, w, run_append_owned_none (P := Tryz.prog) (w := w) B _ ty _ i 2 Tryz.underlying22 h1 v l.length (wcs l) h, ?_, Keeps.refl _ _⟩
    rw [List.append_nil]; exact h
  · have hadd : ∀ j, (⟨b, o, none⟩ : Addr).add j = ⟨b, o + j, none⟩ := fun j => by unfold Addr.add; split <;> simp_all
    obtain ⟨v', w', k1, k2, k3, _⟩ := run_append_own (P := Tryz.prog) w B _ ty _ i _ 2 24 Tryz.underlying22 h1 h2 h3 h4 rfl (by decide) v l.length (wcs l) h ⟨b, o, none⟩ m.length cap (wcs m) (wcs_len m)
      (fun j u hj => by rw [hadd]; exact hc j u hj) (wcs_one m) (by unfold maxLen; omega) (by omega) hB
    refine ⟨v', w', k1, ?_, fun C a2 hC hbl => ?_⟩
    · unfold OwnW
      rw [wcs_append, List.length_append]
      exact k2
    · refine hbl.grown k3 (Nat.le_trans hC hB) (fun k hk => ?_)
      have := (h.lt k hk).1
      omega
theorem wp_app_rd {o : Oper} {a : Act} {K : Act → World → Prop} {Q : Exit → Act → World → Prop} {w : World} {B : Nat} {v xv : Value} {l m : List M.WT} (s x : Operand)
    (ho : o.op = .call { callee := .builtin .append, args := #[s, x], argTypes := #[22, 22] }) (hs : a.eval s = v) (hx : a.eval x = xv)
    (h : OwnW w B v l) (hsrc : SrcW w xv m) (hB : B ≤ w.heap.size) (hn : l.length + m.length ≤ 1000000000)
    (hK : ∀ v' w', OwnW w' B v' (l ++ m) → Keeps B w w' → K (a.put o.dst v') w') : o.wp Tryz.prog a w K Q := by
  obtain ⟨v', w', hr, h2, h3⟩ := run_app_rd o.type h hsrc hB hn
  unfold Oper.wp execOp
  simp only [ho, resolve, invoke, builtin, Sem.run_bind, Sem.run_pure, Result.andThen_ok, List.map_toArray, List.map_cons, List.map_nil, hs, hx, hr]
  exact hK v' w' h2 h3
theorem wpList_app_rd {ops : Array Oper} {rest : List Oper} {o : Oper} {a : Act} {Q : Exit → Act → World → Prop} {w : World} {B : Nat} {v xv : Value} {l m : List M.WT} (hgd : o.guard = none) (s x : Operand)
    (ho : o.op = .call { callee := .builtin .append, args := #[s, x], argTypes := #[22, 22] }) (hs : a.eval s = v) (hx : a.eval x = xv)
    (h : OwnW w B v l) (hsrc : SrcW w xv m) (hB : B ≤ w.heap.size) (hn : l.length + m.length ≤ 1000000000)
    (hK : ∀ v' w', OwnW w' B v' (l ++ m) → Keeps B w w' → wpList Tryz.prog ops Q rest (a.put o.dst v') w') : wpList Tryz.prog ops Q (o :: rest) a w :=
  wpList_plain hgd fun _ hK2 => wp_app_rd s x ho hs hx h hsrc hB hn fun v' w' h2 h3 => hK2 _ _ (hK v' w' h2 h3)
theorem step_app_rd {ops : Array Oper} {o : Oper} {a : Act} {K : Act → World → Prop} {Q : Exit → Act → World → Prop} {E : Prop} {w : World} {B : Nat} {v xv : Value} {l m : List M.WT} (hgd : o.guard = none) (s x : Operand)
    (ho : o.op = .call { callee := .builtin .append, args := #[s, x], argTypes := #[22, 22] }) (hs : a.eval s = v) (hx : a.eval x = xv)
    (h : OwnW w B v l) (hsrc : SrcW w xv m) (hB : B ≤ w.heap.size) (hn : l.length + m.length ≤ 1000000000)
    (hK : ∀ v' w', OwnW w' B v' (l ++ m) → Keeps B w w' → K (a.put o.dst v') w') : if Region.wanted o (yielded ops a.tmps) = true then Oper.wp Tryz.prog o a w K Q else E := by
  have hw : Region.wanted o (yielded ops a.tmps) = true := by simp [Region.wanted, hgd]
  rw [if_pos hw]
  exact wp_app_rd s x ho hs hx h hsrc hB hn hK
theorem OwnW.alloc {w : World} {B : Nat} {v : Value} {l : List M.WT} (h : OwnW w B v l) (o : Obj) : OwnW (w.alloc o) B v l := World.ownsRow.alloc h o
theorem OwnW.drew {w : World} {B : Nat} {v : Value} {l : List M.WT} (h : OwnW w B v l) : OwnW w.drew B v l := h.below (RowKit.Below.drew (Below.refl _ _))
/-- A fresh empty slice. -/
theorem OwnW.fresh (w : World) (B A : Nat) (hA : A = w.heap.size) (hB : B ≤ A) : OwnW (w.alloc (.cells #[] 61 (0, 0))) B (.slice (some ⟨A, 0, none⟩) 0 0) [] := by
  subst hA
  refine ⟨rfl, Or.inr ⟨w.heap.size, 0, #[], rfl, hB, ?_, Nat.le_refl _, by unfold maxLen; omega, rfl, rfl⟩⟩
  show (w.heap.push _)[w.heap.size]? = _
  simp
theorem OwnW.form {w : World} {B : Nat} {v : Value} {l : List M.WT} (h : OwnW w B v l) (hn : l ≠ []) : ∃ g cap, v = .slice (some ⟨g, 0, none⟩) l.length cap ∧ B ≤ g ∧ l.length ≤ cap ∧ cap ≤ maxLen ∧ WSl w g 0 l := by
  have hr := h.rd
  obtain ⟨h1, h2⟩ := h
  rcases h2 with ⟨_, hn2⟩ | ⟨g, cap, cur, hv, hB, hh, hc, hm, _, ht⟩
  · exact absurd (List.length_eq_zero_iff.1 hn2) hn
  · obtain ⟨A, cap2, e, h3⟩ := hr
    rw [hv] at e
    injection e with e1 e2 e3
    rcases h3 with h3 | ⟨b, o, h4, h5⟩
    · exact absurd h3 hn
    · rw [h4] at e1
      injection e1 with e1
      injection e1 with e1 e4
      subst e1 e4
      exact ⟨g, cap, hv, hB, hc, hm, h5⟩
/-- The weight of an element is written. -/
theorem OwnW.set {w : World} {B g cap : Nat} {l : List M.WT} (h : OwnW w B (.slice (some ⟨g, 0, none⟩) l.length cap) l) (k : Nat) (hk : k < l.length) (q : List UInt8) :
    OwnW (w.setCell ⟨g, k * 2 + 1, none⟩ (.string (bs q))) B (.slice (some ⟨g, 0, none⟩) l.length cap) (l.set k (l[k].1, q)) := by
  obtain ⟨h1, h2⟩ := h
  have hlen : (l.set k (l[k].1, q)).length = l.length := List.length_set
  refine ⟨by rw [wcs_len], ?_⟩
  rcases h2 with ⟨hv, _⟩ | ⟨g', cap', cur, hv, hB, hh, hc, hm, hs, ht⟩
  · cases hv
  · injection hv with e1 e2 e3
    injection e1 with e1
    injection e1 with e1
    subst e1 e3
    refine Or.inr ⟨g, cap, cur.setIfInBounds (k * 2 + 1) (.string (bs q)), by rw [hlen], hB, heap_setCell_same w g _ cur _ _ hh, by rw [hlen]; exact hc, hm, by rw [Array.size_setIfInBounds]; exact hs, ?_⟩
    rw [hlen]
    have hl : ∀ (l : List M.WT) (k : Nat) (hk : k < l.length), wcs (l.set k (l[k].1, q)) = (wcs l).set (k * 2 + 1) (.string (bs q)) := by
      intro l
      induction l with
      | nil => intro k hk; cases hk
      | cons x t ih =>
        intro k hk
        rcases k with _ | j
        · rfl
        · have hj : j < t.length := by simpa using hk
          have e1 : wcs (x :: t) = .int .i64 x.1 :: .string (bs x.2) :: wcs t := rfl
          have e2 := ih j hj
          rw [e1, show (j + 1) * 2 + 1 = (j * 2 + 1) + 1 + 1 by omega, List.set_cons_succ, List.set_cons_succ, List.set_cons_succ, ← e2]
          rfl
    rw [hl l k hk, ← ht, Array.toList_setIfInBounds, List.take_set]
theorem SrcW.cut {w : World} {g k n gc : Nat} {l : List M.WT} (hl : l.length = n - k) (h : WSl w g (0 + k * 2) l) (hn : n ≤ gc) :
    SrcW w (.slice (if gc = k then some ⟨g, 0, none⟩ else some ⟨g, k * 2, none⟩) (n - k) (gc - k)) l := by
  rw [Nat.zero_add] at h
  split
  · have h0 : l = [] := List.length_eq_zero_iff.1 (by omega)
    subst h0
    rw [← hl]
    exact SrcW.empty w g 0 _
  · exact SrcW.of h hl.symm
theorem OwnW.unfrozen {w : World} {B g n cap : Nat} {l : List M.WT} (h : OwnW w B (.slice (some ⟨g, 0, none⟩) n cap) l) (j : Nat) : w.frozen? ⟨g, j, none⟩ = false := by
  obtain ⟨h1, h2⟩ := h
  rcases h2 with ⟨hv, _⟩ | ⟨g', cap', cur, hv, hB, hh, _⟩
  · cases hv
  · injection hv with e1 e2 e3
    injection e1 with e1
    injection e1 with e1
    subst e1
    exact frozen_of_row w g j cur _ hh
theorem OwnW.setz {w : World} {B g cap : Nat} {lo : List M.ZT} (h : OwnW w B (.slice (some ⟨g, 0, none⟩) lo.length cap) (M.tx lo)) (k : Nat) (hk : k < lo.length) (z : Int) :
    OwnW (w.setCell ⟨g, k * 2 + 1, none⟩ (.string (bs (M.I z)))) B (.slice (some ⟨g, 0, none⟩) lo.length cap) (M.tx (lo.set k (lo[k].1, z))) := by
  have hk2 : k < (M.tx lo).length := by rw [M.tx_len]; exact hk
  have e : M.tx (lo.set k (lo[k].1, z)) = (M.tx lo).set k ((M.tx lo)[k].1, M.I z) := by
    rw [M.tx_get lo k hk]; unfold M.tx; rw [List.map_set]
  rw [e]
  rw [← M.tx_len] at h ⊢
  exact OwnW.set h k hk2 _
theorem M.tx_ins (lo : List M.ZT) (x : M.ZT) (k : Nat) : M.tx (lo.take k ++ [x] ++ lo.drop k) = [] ++ (M.tx lo).take k ++ [(x.1, M.I x.2)] ++ (M.tx lo).drop k := by
  simp [M.tx, List.map_take, List.map_drop]
end Go.Proofs.YtgjfiaadnecilaaGreatDoor
namespace Go.Proofs.YtgjfiaadnecilaaGreatDoor
open Go Go.RowKit Go.Deep
namespace M
/-- How many elements lead with a lesser value. -/
def cntLt : List ZT → Int → Nat
  | [], _ => 0
  | y :: t, v => if y.1 < v then cntLt t v + 1 else 0
/-- An element put in its place. -/
def insZ : List ZT → ZT → List ZT
  | [], x => [x]
  | y :: t, x => if y.1 < x.1 then y :: insZ t x else if y.1 = x.1 then (y.1, y.2 + x.2) :: t else x :: y :: t
def gathZ (l : List ZT) : List ZT := l.foldl insZ []
def nzF (l : List ZT) : List ZT := l.filter fun x => !(x.2 == 0)
def gathF (l : List ZT) : List ZT := nzF (gathZ l)
theorem nzF_no {l : List ZT} {j : Nat} (h : j < l.length) (h0 : l[j].2 = 0) : nzF (l.take (j + 1)) = nzF (l.take j) := by
  unfold nzF; rw [List.take_succ_eq_append_getElem h, List.filter_append, List.filter_cons]; simp [h0]
theorem nzF_yes {l : List ZT} {j : Nat} (h : j < l.length) (h0 : l[j].2 ≠ 0) : tx (nzF (l.take (j + 1))) = tx (nzF (l.take j)) ++ [(l[j].1, I l[j].2)] := by
  unfold nzF; rw [List.take_succ_eq_append_getElem h, List.filter_append, List.filter_cons, tx_append]; simp [h0, tx]
theorem nzF_len (l : List ZT) (j : Nat) (h : j ≤ l.length) : (tx (nzF (l.take j))).length ≤ j := by
  rw [tx_len]
  have := List.length_filter_le (fun x : ZT => !(x.2 == 0)) (l.take j)
  rw [List.length_take] at this
  unfold nzF
  omega
theorem gathZ_succ (l : List ZT) (i : Nat) (h : i < l.length) : gathZ (l.take (i + 1)) = insZ (gathZ (l.take i)) l[i] := by
  unfold gathZ; rw [List.take_succ_eq_append_getElem h, List.foldl_append]; rfl
theorem cnt_le : ∀ (l : List ZT) (v : Int), cntLt l v ≤ l.length
  | [], _ => Nat.le_refl _
  | y :: t, v => by
    unfold cntLt
    have := cnt_le t v
    split
    · simpa using this
    · omega
theorem cnt_lt : ∀ (l : List ZT) (v : Int) (k : Nat) (h : k < l.length), k < cntLt l v → l[k].1 < v
  | [], _, _, h, _ => by cases h
  | y :: t, v, k, h, hk => by
    unfold cntLt at hk
    split at hk
    · rename_i hy
      rcases k with _ | k
      · exact hy
      · exact cnt_lt t v k (by simpa using h) (by omega)
    · omega
theorem cnt_stop : ∀ (l : List ZT) (v : Int) (h : cntLt l v < l.length), ¬ l[cntLt l v].1 < v
  | [], _, h => by cases h
  | y :: t, v, h => by
    by_cases hy : y.1 < v
    · have e : cntLt (y :: t) v = cntLt t v + 1 := by rw [cntLt, if_pos hy]
      have h2 : cntLt t v < t.length := by rw [e] at h; simpa using h
      have := cnt_stop t v h2
      simp only [e, List.getElem_cons_succ]
      exact this
    · have e : cntLt (y :: t) v = 0 := by rw [cntLt, if_neg hy]
      simp only [e, List.getElem_cons_zero]
      exact hy
theorem insZ_ne : ∀ (l : List ZT) (x : ZT), (∀ h : cntLt l x.1 < l.length, l[cntLt l x.1].1 ≠ x.1) → insZ l x = l.take (cntLt l x.1) ++ [x] ++ l.drop (cntLt l x.1)
  | [], x, _ => rfl
  | y :: t, x, h => by
    by_cases hy : y.1 < x.1
    · have e : cntLt (y :: t) x.1 = cntLt t x.1 + 1 := by rw [cntLt, if_pos hy]
      simp only [e] at h ⊢
      rw [insZ, if_pos hy, insZ_ne t x (fun h2 => by have := h (by simpa using h2); simpa using this)]
      rfl
    · have e : cntLt (y :: t) x.1 = 0 := by rw [cntLt, if_neg hy]
      simp only [e] at h ⊢
      have h3 : y.1 ≠ x.1 := h (by simp)
      rw [insZ, if_neg hy, if_neg h3]
      rfl
theorem insZ_eq : ∀ (l : List ZT) (x : ZT) (h : cntLt l x.1 < l.length), l[cntLt l x.1].1 = x.1 → insZ l x = l.set (cntLt l x.1) (l[cntLt l x.1].1, l[cntLt l x.1].2 + x.2)
  | [], x, h, _ => by cases h
  | y :: t, x, h, he => by
    by_cases hy : y.1 < x.1
    · have e : cntLt (y :: t) x.1 = cntLt t x.1 + 1 := by rw [cntLt, if_pos hy]
      simp only [e] at h he ⊢
      rw [insZ, if_pos hy, insZ_eq t x (by simpa using h) (by simpa using he)]
      rfl
    · have e : cntLt (y :: t) x.1 = 0 := by rw [cntLt, if_neg hy]
      simp only [e] at h he ⊢
      have h3 : y.1 = x.1 := he
      rw [insZ, if_neg hy, if_pos h3]
      rfl
theorem insZ_len : ∀ (l : List ZT) (x : ZT), (insZ l x).length ≤ l.length + 1
  | [], x => Nat.le_refl _
  | y :: t, x => by
    unfold insZ
    have := insZ_len t x
    split
    · simpa using this
    · split <;> simp
theorem insZ_some (l : List ZT) (x : ZT) : insZ l x ≠ [] := by
  cases l with
  | nil => intro h; cases h
  | cons y t => unfold insZ; split <;> (try split) <;> intro h <;> cases h
theorem gathZ_some (l : List ZT) (h : l ≠ []) : gathZ l ≠ [] := by
  have e := gathZ_succ l (l.length - 1) (by have := List.length_pos_iff.2 h; omega)
  rw [show l.length - 1 + 1 = l.length by have := List.length_pos_iff.2 h; omega, List.take_length] at e
  rw [e]; exact insZ_some _ _
theorem take_ne {l : List ZT} {i : Nat} (h0 : i ≠ 0) (h : i ≤ l.length) : l.take i ≠ [] := by
  intro h2
  have h1 : (l.take i).length = i := by rw [List.length_take]; omega
  rw [h2] at h1
  exact h0 h1.symm
theorem gathZ_len (l : List ZT) : ∀ i, i ≤ l.length → (gathZ (l.take i)).length ≤ i := by
  intro i
  induction i with
  | zero => intro _; rw [List.take_zero]; exact Nat.le_refl _
  | succ i ih =>
    intro h
    have h1 := ih (by omega)
    rw [gathZ_succ l i (by omega)]
    have := insZ_len (gathZ (l.take i)) (l[i]'(by omega))
    omega
/-- The weights' sizes, added up. -/
def sab (l : List ZT) : Nat := (l.map fun x => x.2.natAbs).sum
theorem sab_mem : ∀ (l : List ZT) (x : ZT), x ∈ l → x.2.natAbs ≤ sab l
  | [], _, h => by cases h
  | y :: t, x, h => by
    have e : sab (y :: t) = y.2.natAbs + sab t := by simp [sab]
    rw [e]
    rcases List.mem_cons.1 h with rfl | h
    · omega
    · have := sab_mem t x h; omega
theorem insZ_sab : ∀ (l : List ZT) (x : ZT), sab (insZ l x) ≤ sab l + x.2.natAbs
  | [], x => by simp [insZ, sab]
  | y :: t, x => by
    have e : ∀ y t, sab (y :: t) = y.2.natAbs + sab t := fun y t => by simp [sab]
    unfold insZ
    have := insZ_sab t x
    split
    · rw [e, e]; omega
    · split
      · rw [e, e]
        simp only
        have := Int.natAbs_add_le y.2 x.2
        omega
      · rw [e, e]; omega
theorem gathZ_sab (l : List ZT) (K : Nat) (hz : ∀ x ∈ l, x.2.natAbs < K) : ∀ i, i ≤ l.length → sab (gathZ (l.take i)) ≤ i * K := by
  intro i
  induction i with
  | zero => intro _; rw [List.take_zero]; exact Nat.le_of_eq (by simp [gathZ, sab])
  | succ i ih =>
    intro h
    have h1 := ih (by omega)
    rw [gathZ_succ l i (by omega)]
    have h2 := insZ_sab (gathZ (l.take i)) (l[i]'(by omega))
    have h3 := hz _ (List.getElem_mem (show i < l.length by omega))
    rw [Nat.succ_mul]
    omega
theorem gathZ_bd {l : List ZT} (hz : ∀ x ∈ l, x.2.natAbs < 10 ^ 40) (hl : l.length ≤ 100) {i : Nat} (hi : i ≤ l.length) : ∀ x ∈ gathZ (l.take i), x.2.natAbs < 10 ^ 43 := by
  intro x hx
  have h1 := sab_mem _ x hx
  have h2 := gathZ_sab l (10 ^ 40) hz i hi
  have h3 : i * 10 ^ 40 ≤ 100 * 10 ^ 40 := Nat.mul_le_mul_right _ (by omega)
  have h4 : 100 * 10 ^ 40 < 10 ^ 43 := by decide
  omega
theorem gathZ_ok {l : List ZT} (hz : ∀ x ∈ l, x.2.natAbs < 10 ^ 40) (hl : l.length ≤ 100) {i : Nat} (hi : i ≤ l.length) (j : Nat) (hj : j < (gathZ (l.take i)).length) : (I (gathZ (l.take i))[j].2).length ≤ 999999 :=
  Nat.le_trans (I_le (gathZ_bd hz hl hi _ (List.getElem_mem hj)) (by decide)) (by decide)
end M
/-- The call returns a list of its own. -/
def GathP (l : List M.WT) (w : World) (e : Ending) (w' : World) : Prop := ∃ v, e = .returned v ∧ OwnW w' w.heap.size v l ∧ Below w.heap.size w w'
namespace W
open M
attribute [local go_sem] bs_size bs_toList bs_get bs_extract bs_append bs_lit0 bs_lit1 lit1_bs
set_option maxHeartbeats 1000000
set_option maxRecDepth 20000
theorem gathered_ok (zl : List ZT) (b o cap : Nat) (w : World) (hw : WSl w b o (tx zl)) (hl : zl.length ≤ 100) (hz : ∀ x ∈ zl, x.2.natAbs < 10 ^ 40) :
    Calls Tryz.prog 99 #[.slice (some ⟨b, o, none⟩) zl.length cap] w (GathP (tx (gathF zl)) w) := by
  have HW := Lib.hid hw
  have hblt := hw.lt
  have HP := Lib.hid (fun i (hlt : i < zl.length) j (hj : j < (gathZ (zl.take i)).length) wx => plus_I (gathZ (zl.take i))[j].2 zl[i].2 wx (gathZ_ok hz hl (Nat.le_of_lt hlt) j hj) (Nat.le_trans (I_le (hz _ (List.getElem_mem hlt)) (by decide)) (by decide)))
  have HN := Lib.hid (fun i (hi : i ≤ zl.length) => gathZ_len zl i hi)
  have HS := Lib.hid (fun i (hlt : i < zl.length) => gathZ_succ zl i hlt)
  clear hw hz
  go_enter Tryz.func99, Tryz.ntmps99
  go_wp2
  go_loopw [3, 4] (fun ov iv wr => ∃ (i : Nat) (vo : Value), iv = .int .i64 (i : Int) ∧ ov = vo ∧ i ≤ zl.length ∧ (i = 0 → vo = .slice none 0 0) ∧ Hid (OwnW wr w.heap.size vo (tx (gathZ (zl.take i)))) ∧ Below w.heap.size w wr) (fun _ iv _ => zl.length - (intOf iv).toNat)
  case atStart => exact ⟨0, _, rfl, rfl, by omega, fun _ => rfl, OwnW.nil _ _, Below.refl _ _⟩
  case round =>
    obtain ⟨i, ov, rfl, hvo, hi, h0, hown, hbw⟩ := hrel
    have hvo := hvo.symm
    subst hvo
    by_cases hlt : i < zl.length
    · have hwr := HW.out.below' hbw
      have hlt' : i < (tx zl).length := by rw [tx_len]; exact hlt
      have cv := hwr.val i hlt'
      have cw := hwr.wt i hlt'
      rw [tx_get zl i hlt] at cv cw
      simp only at cv cw
      have hbwlt := hwr.lt
      have hsz := hbw.size
      by_cases hi0 : i = 0
      · subst hi0
        have hov := h0 rfl
        have HX : Hid (tx (gathZ (zl.take 1)) = [(zl[0].1, I zl[0].2)]) := by rw [HS.out 0 hlt]; rfl
        rw [Nat.zero_mul, Nat.add_zero] at cv cw
        clear h0 hown
        subst hov
        have hln : ((zl.length : Int)) = ((zl.length : Nat) : Int) := rfl
        clear hwr hln
        go_wp2
        refine wp_loop_rounds 1 ?_
        rw [rounds_succ]
        go_wp2
        go_quiet (fail)
        go_wp2
        go_quiet (fail)
        go_wp2_with (at_builtin; refine wpList_app_rd rfl _ _ rfl rfl rfl (OwnW.fresh _ wr.heap.size _ rfl (by simp)) (SrcW.nil _) (by simp) (by decide) ?_; intro v1 w1 ho1 hk1)
        have hb1 := hk1 wr.heap.size wr (Nat.le_refl _) (Below.alloc (Below.drewN (Below.refl _ _) _) (by simp) _)
        have cv1 := (hb1.cell (p := ⟨b, o, none⟩) hbwlt).trans cv
        have cw1 := (hb1.cell (p := ⟨b, o + 1, none⟩) hbwlt).trans cw
        have HO1 := Lib.hid (And.intro (OwnW.drew ho1) (And.intro hb1 hb1.size))
        clear cv cw hb1 ho1 hk1
        generalize zl[0].1 = xv at *
        generalize I zl[0].2 = xw at *
        go_region_law (first
          | (refine step_app_rd rfl (.tmp 71) (.tmp 76) rfl rfl rfl (OwnW.alloc HO1.out.1 _) (SrcW.new _ [(xv, xw)] _ _ _ rfl rfl rfl) (by have := HO1.out.2.2; simp; omega) (by simp) ?_; intro v2 w2 ho2 hk2; have hb2 := hk2 wr.heap.size wr (Nat.le_refl _) (Below.alloc (RowKit.Below.drew HO1.out.2.1) HO1.out.2.2 _))
          | (refine step_app_rd rfl (.tmp 77) (.tmp 80) rfl rfl rfl ho2 (SrcW.nil _) hb2.size (by simp) ?_; intro v3 w3 ho3 hk3; have hb3 := hk3 wr.heap.size wr (Nat.le_refl _) hb2))
        go_wp2
        go_roundw
        case rel => exact ⟨1, _, rfl, rfl, by omega, (fun h => absurd h (by decide)), by rw [HX.out]; exact ownsRow_base ho3 hbw.size, hbw.trans (hb3.mono hbw.size)⟩
        case measure => simp [intOf]; omega
      · have hsome : gathZ (zl.take i) ≠ [] := gathZ_some _ (take_ne hi0 hi)
        have hln := HN.out i hi
        have HSI := Lib.hid (HS.out i hlt)
        have HPI := Lib.hid (fun j hj wx => HP.out i hlt j hj wx)
        clear h0 hwr
        generalize gathZ (zl.take i) = lo at *
        obtain ⟨g, gc, rfl, hgB, hgc, hgm, hws⟩ := OwnW.form hown.out (by intro h; exact hsome (List.map_eq_nil_iff.1 h))
        rw [tx_len] at hgc hown ⊢
        have HWS := Lib.hid hws
        have hglt := hws.lt
        have HCL := Lib.hid (cnt_le lo zl[i].1)
        have HC1 := Lib.hid (fun k h => cnt_lt lo zl[i].1 k h)
        have HC2 := Lib.hid (cnt_stop lo zl[i].1)
        have HIE := Lib.hid (insZ_eq lo zl[i])
        have HIN := Lib.hid (insZ_ne lo zl[i])
        have hgc' : (lo.length : Int) ≤ (gc : Int) := by omega
        clear hws hsome
        generalize hxv : zl[i].1 = xv at *
        generalize hxw : I zl[i].2 = xw at *
        have HXV := Lib.hid (And.intro hxv hxw)
        clear hxv hxw
        generalize cntLt lo xv = K at *
        obtain ⟨W0, hW0⟩ : ∃ x, x = wr := ⟨wr, rfl⟩
        subst hW0
        go_wp2
        go_loopw [5] (fun kv wr2 => ∃ k : Nat, kv = .int .i64 (k : Int) ∧ k ≤ K ∧ Below W0.heap.size W0 wr2) (fun kv _ => lo.length - (intOf kv).toNat)
        case atStart => exact ⟨0, rfl, by omega, Below.refl _ _⟩
        case round =>
          obtain ⟨k, rfl, hk, hb2⟩ := hrel
          have hws2 := HWS.out.below' hb2
          have hbl2 : b < wr.heap.size := Nat.lt_of_lt_of_le hbwlt hb2.size
          have cv2 := (hb2.cell (p := ⟨b, o + i * 2, none⟩) hbwlt).trans cv
          have cw2 := (hb2.cell (p := ⟨b, o + i * 2 + 1, none⟩) hbwlt).trans cw
          by_cases hkn : k < lo.length
          · have hkn' : k < (tx lo).length := by rw [tx_len]; exact hkn
            have dv := hws2.val k hkn'
            have dw := hws2.wt k hkn'
            rw [tx_get lo k hkn, Nat.zero_add] at dv dw
            simp only at dv dw
            have hks : (k : Int) < (lo.length : Int) := by omega
            have hk0 : (0 : Int) ≤ (k : Int) := by omega
            have hi0' : (0 : Int) ≤ (i : Int) := by omega
            have his : (i : Int) < (zl.length : Int) := by omega
            by_cases hlk : lo[k].1 < xv
            · have hk1 : k + 1 ≤ K := by
                rcases Nat.lt_or_ge k K with h | h
                · exact h
                · obtain rfl : k = K := by omega
                  have := HC2.out hkn; omega
              generalize hyv : lo[k].1 = yv at *
              clear hyv
              generalize I lo[k].2 = yw at *
              clear hws2 hlt' hkn'
              go_wp2
              go_quiet (fail)
              go_wp2
              go_roundw
              case rel => exact ⟨k + 1, by go_num, hk1, Below.drewN hb2 _⟩
              case measure => simp [intOf]; omega
            · obtain rfl : k = K := by
                rcases Nat.lt_or_ge k K with h | h
                · exact absurd (HC1.out k hkn h) hlk
                · omega
              by_cases he : lo[k].1 = xv
              · have HM := Lib.hid (HPI.out k hkn)
                have HS9 := Lib.hid (fun (w' : World) (h : OwnW w' w.heap.size (.slice (some ⟨g, 0, none⟩) lo.length gc) (tx lo)) => (by rw [HIE.out hkn he]; exact OwnW.setz h k hkn _ : OwnW (w'.setCell ⟨g, k * 2 + 1, none⟩ (.string (bs (I (lo[k].2 + zl[i].2))))) w.heap.size (.slice (some ⟨g, 0, none⟩) lo.length gc) (tx (insZ lo zl[i]))))
                have HO9 := Lib.hid (fun (w' : World) (hb : Below wr.heap.size wr w') => OwnW.below hown.out (hb2.trans (hb.mono hb2.size)))
                have dz := (HO9.out wr (Below.refl _ _)).unfrozen (k * 2 + 1)
                have hgl := hws2.lt
                clear hws2
                generalize I (lo[k].2 + zl[i].2) = qs at *
                generalize hyv : lo[k].1 = yv at *
                subst he
                clear hyv hlk
                generalize I lo[k].2 = yw at *
                go_wp2
                go_quiet (fail)
                go_wp2
                go_quiet (fail)
                go_wp2
                go_region_with (go_at_call 103; refine (HM.out _).mono ?_; rintro e w3 ⟨rfl, hb3⟩; have hbz := Below.trans (RowKit.Below.drew (Below.drewN (Below.refl wr.heap.size wr) _)) (hb3.mono (by simp)); have dw3 := (hbz.cell (p := ⟨g, k * 2 + 1, none⟩) hgl).trans dw; have dz3 := (hbz.frozen (p := ⟨g, k * 2 + 1, none⟩) hgl).trans dz)
                all_goals
                  go_wp2
                  have hbe := hbw.trans ((hb2.trans (hbz.mono hb2.size)).mono hbw.size)
                  go_roundw
                  case rel => exact ⟨i + 1, _, by go_num, rfl, hlt, (fun h => absurd h (Nat.succ_ne_zero i)), by rw [HSI.out]; exact HS9.out w3 (HO9.out w3 hbz), hbe.setCell hgB _⟩
                  case measure => simp [intOf]; omega
              · have HR := Lib.hid (HIN.out (fun _ => he))
                clear HIE
                generalize hyv : lo[k].1 = yv at *
                clear hyv
                generalize I lo[k].2 = yw at *
                have hne : (yv == xv) = false := by simpa using he
                have HT1 := Lib.hid (fun (q : Nat) => SrcW.of (cap := gc) (n := k) (WSl.below' (hws2.take k) (Below.alloc (Below.drewN (Below.refl _ _) q) (by simp) (.cells #[] 61))) (by rw [List.length_take, tx_len]; omega))
                have HT2 := Lib.hid (WSl.drop hws2 k)
                have HL1 := Lib.hid (show ((tx lo).take k).length ≤ 100 by rw [List.length_take, tx_len]; omega)
                have HL2 := Lib.hid (show ((tx lo).drop k).length ≤ 100 ∧ ((tx lo).drop k).length = lo.length - k by rw [List.length_drop, tx_len]; omega)
                have hkc : (k : Int) ≤ (gc : Int) := by omega
                have hkl : k ≤ lo.length := by omega
                have hk0 : (0 : Int) ≤ (k : Int) := by omega
                clear hws2
                go_wp2
                go_quiet (fail)
                go_wp2
                go_quiet (fail)
                go_wp2_with (at_builtin; refine wpList_app_rd rfl _ _ rfl rfl rfl (OwnW.fresh _ wr.heap.size _ rfl (by simp)) (HT1.out _) (by simp) (by have := HL1.out; simp; omega) ?_; intro v1 w1 ho1 hk1)
                have hb1 := hk1 wr.heap.size wr (Nat.le_refl _) (Below.alloc (Below.drewN (Below.refl _ _) _) (by simp) _)
                have cv1 := (hb1.cell (p := ⟨b, o + i * 2, none⟩) hbl2).trans cv2
                have cw1 := (hb1.cell (p := ⟨b, o + i * 2 + 1, none⟩) hbl2).trans cw2
                have HO1 := Lib.hid (And.intro (OwnW.drew ho1) (And.intro hb1 hb1.size))
                have HT3 := Lib.hid (fun w' (hb : Below wr.heap.size wr w') => WSl.below' HT2.out hb)
                clear cv cw cv2 cw2 dv dw hb1 ho1 hk1
                go_region_law (first
                  | (refine step_app_rd rfl (.tmp 71) (.tmp 76) rfl rfl rfl (OwnW.alloc HO1.out.1 _) (SrcW.new _ [(xv, xw)] _ _ _ rfl rfl rfl) (by have := HO1.out.2.2; simp; omega) (by have := HL1.out; simp; omega) ?_; intro v2 w2 ho2 hk2; have hb2' := hk2 wr.heap.size wr (Nat.le_refl _) (Below.alloc (RowKit.Below.drew HO1.out.2.1) HO1.out.2.2 _))
                  | (refine step_app_rd rfl (.tmp 77) (.tmp 80) rfl rfl rfl ho2 (SrcW.cut HL2.out.2 (HT3.out _ hb2') hgc) hb2'.size (by have h8 := HL1.out; have h9 := HL2.out.1; rw [List.length_append, List.length_append]; simp only [List.length_nil, List.length_cons]; omega) ?_; intro v3 w3 ho3 hk3; have hb3 := hk3 wr.heap.size wr (Nat.le_refl _) hb2'))
                go_wp2
                have hbe := hbw.trans ((hb2.trans (hb3.mono hb2.size)).mono hbw.size)
                have hbo := hbw.trans (hb2.mono hbw.size)
                go_roundw
                case rel => exact ⟨i + 1, _, by go_num, rfl, hlt, (fun h => absurd h (Nat.succ_ne_zero i)), by rw [HSI.out, HR.out, M.tx_ins, HXV.out.1, HXV.out.2]; exact ownsRow_base ho3 hbo.size, hbe⟩
                case measure => simp [intOf]; omega
          · obtain rfl : k = K := by have := HCL.out; omega
            have hkl : k = lo.length := by have := HCL.out; omega
            have HR := Lib.hid (HIN.out (fun h => absurd h hkn))
            have hi0' : (0 : Int) ≤ (i : Int) := by omega
            have his : (i : Int) < (zl.length : Int) := by omega
            have hks : decide ((k : Int) < (lo.length : Int)) = false := decide_eq_false (by omega)
            have hkl2 : k ≤ lo.length := by omega
            have HT1 := Lib.hid (fun (q : Nat) => SrcW.of (cap := gc) (n := k) (WSl.below' (hws2.take k) (Below.alloc (Below.drewN (Below.refl _ _) q) (by simp) (.cells #[] 61))) (by rw [List.length_take, tx_len]; omega))
            have HT2 := Lib.hid (WSl.drop hws2 k)
            have HL1 := Lib.hid (show ((tx lo).take k).length ≤ 100 by rw [List.length_take, tx_len]; omega)
            have HL2 := Lib.hid (show ((tx lo).drop k).length ≤ 100 ∧ ((tx lo).drop k).length = lo.length - k by rw [List.length_drop, tx_len]; omega)
            have hkc : (k : Int) ≤ (gc : Int) := by omega
            have hk0 : (0 : Int) ≤ (k : Int) := by omega
            clear hws2 hkl
            go_wp2
            go_quiet (fail)
            go_wp2
            go_quiet (fail)
            go_wp2_with (at_builtin; refine wpList_app_rd rfl _ _ rfl rfl rfl (OwnW.fresh _ wr.heap.size _ rfl (by simp)) (HT1.out _) (by simp) (by have := HL1.out; simp; omega) ?_; intro v1 w1 ho1 hk1)
            have hb1 := hk1 wr.heap.size wr (Nat.le_refl _) (Below.alloc (Below.drewN (Below.refl _ _) _) (by simp) _)
            have cv1 := (hb1.cell (p := ⟨b, o + i * 2, none⟩) hbl2).trans cv2
            have cw1 := (hb1.cell (p := ⟨b, o + i * 2 + 1, none⟩) hbl2).trans cw2
            have HO1 := Lib.hid (And.intro (OwnW.drew ho1) (And.intro hb1 hb1.size))
            have HT3 := Lib.hid (fun w' (hb : Below wr.heap.size wr w') => WSl.below' HT2.out hb)
            clear cv cw cv2 cw2 hb1 ho1 hk1
            go_region_law (first
              | (refine step_app_rd rfl (.tmp 71) (.tmp 76) rfl rfl rfl (OwnW.alloc HO1.out.1 _) (SrcW.new _ [(xv, xw)] _ _ _ rfl rfl rfl) (by have := HO1.out.2.2; simp; omega) (by have := HL1.out; simp; omega) ?_; intro v2 w2 ho2 hk2; have hb2' := hk2 wr.heap.size wr (Nat.le_refl _) (Below.alloc (RowKit.Below.drew HO1.out.2.1) HO1.out.2.2 _))
              | (refine step_app_rd rfl (.tmp 77) (.tmp 80) rfl rfl rfl ho2 (SrcW.cut HL2.out.2 (HT3.out _ hb2') hgc) hb2'.size (by have h8 := HL1.out; have h9 := HL2.out.1; rw [List.length_append, List.length_append]; simp only [List.length_nil, List.length_cons]; omega) ?_; intro v3 w3 ho3 hk3; have hb3 := hk3 wr.heap.size wr (Nat.le_refl _) hb2'))
            go_wp2
            have hbe := hbw.trans ((hb2.trans (hb3.mono hb2.size)).mono hbw.size)
            have hbo := hbw.trans (hb2.mono hbw.size)
            go_roundw
            case rel => exact ⟨i + 1, _, by go_num, rfl, hlt, (fun h => absurd h (Nat.succ_ne_zero i)), by rw [HSI.out, HR.out, M.tx_ins, HXV.out.1, HXV.out.2]; exact ownsRow_base ho3 hbo.size, hbe⟩
            case measure => simp [intOf]; omega
    · obtain rfl : i = zl.length := by omega
      have HNL := HN.out zl.length (Nat.le_refl _)
      have hgf : nzF (gathZ zl) = gathF zl := rfl
      rw [List.take_length] at hown HNL
      clear HP HN HS
      by_cases hz0 : zl.length = 0
      · have hov := h0 hz0
        subst hov
        obtain rfl : zl = [] := List.length_eq_zero_iff.1 hz0
        clear h0 hown hgf
        go_wp2
        refine wp_loop_rounds 1 ?_
        rw [rounds_succ]
        go_wp2
        go_ret
        exact ⟨_, rfl, OwnW.nil _ _, hbw⟩
      · have hsome : gathZ zl ≠ [] := gathZ_some _ (fun h => hz0 (by rw [h]; rfl))
        clear h0 hz0
        have HGF := Lib.hid hgf
        clear hgf
        generalize gathZ zl = lo at *
        obtain ⟨g, gc, rfl, hgB, hgc, hgm, hws⟩ := OwnW.form hown.out (by intro h; exact hsome (List.map_eq_nil_iff.1 h))
        rw [tx_len] at hgc ⊢
        have HWS := Lib.hid hws
        have HNY := Lib.hid (fun j h h0 => @nzF_yes lo j h h0)
        have HNN := Lib.hid (fun j h h0 => @nzF_no lo j h h0)
        have HNE := Lib.hid (fun j h => nzF_len lo j h)
        clear hws hsome hown
        obtain ⟨W0, hW0⟩ : ∃ x, x = wr := ⟨wr, rfl⟩
        subst hW0
        have hsz2 := hbw.size
        go_wp2
        go_loopw [7, 8] (fun ov iv wr => ∃ (j : Nat) (vo : Value), iv = .int .i64 (j : Int) ∧ ov = vo ∧ j ≤ lo.length ∧ Hid (OwnW wr W0.heap.size vo (tx (nzF (lo.take j)))) ∧ Below W0.heap.size W0 wr) (fun _ iv _ => lo.length - (intOf iv).toNat)
        case atStart => exact ⟨0, _, rfl, rfl, by omega, OwnW.nil _ _, Below.refl _ _⟩
        case round =>
          obtain ⟨j, ov, rfl, hvo, hj, hown, hby⟩ := hrel
          have hvo := hvo.symm
          subst hvo
          by_cases hlj : j < lo.length
          · have hwr := HWS.out.below' hby
            have hlj' : j < (tx lo).length := by rw [tx_len]; exact hlj
            have dv := hwr.val j hlj'
            have dw := hwr.wt j hlj'
            rw [tx_get lo j hlj, Nat.zero_add] at dv dw
            simp only at dv dw
            have hlen := HNE.out j hj
            by_cases h0 : lo[j].2 = 0
            · have hz : (I lo[j].2 == [48]) = true := by rw [beq_iff_eq]; exact I_eq_zero.2 h0
              have HT := Lib.hid (HNN.out j hlj h0)
              clear hwr hlj' h0
              generalize I lo[j].2 = yw at *
              go_wp2
              go_roundw
              case rel => exact ⟨j + 1, _, by go_num, rfl, by omega, by rw [HT.out]; exact hown, hby⟩
              case measure => simp [intOf]; omega
            · have hz : (I lo[j].2 == [48]) = false := by
                rw [Bool.eq_false_iff]; intro h; exact h0 (I_eq_zero.1 (beq_iff_eq.1 h))
              have HT := Lib.hid (HNY.out j hlj h0)
              have HO1 := Lib.hid (And.intro hown.out (And.intro hby (show (tx (nzF (lo.take j))).length ≤ 1000000000 by omega)))
              clear hwr hlj' h0 hown hlen
              generalize lo[j].1 = yv at *
              generalize I lo[j].2 = yw at *
              go_wp2_with (at_builtin; refine wpList_app_w rfl _ _ rfl rfl rfl rfl HO1.out.1 HO1.out.2.1.size HO1.out.2.2 ?_; intro v' w' ho' hk')
              have hbk := hk' _ _ (Nat.le_refl _) HO1.out.2.1
              go_roundw
              case rel => exact ⟨j + 1, _, by go_num, rfl, by omega, by rw [HT.out]; exact ho', hbk⟩
              case measure => simp [intOf]; omega
          · obtain rfl : j = lo.length := by omega
            have ho := hown.out
            rw [List.take_length] at ho
            have HO := Lib.hid ho
            clear ho hown
            go_wp2
            go_ret
            exact ⟨ov, rfl, by rw [← HGF.out]; exact ownsRow_base HO.out hsz2, hbw.trans (hby.mono hsz2)⟩
end W
end Go.Proofs.YtgjfiaadnecilaaGreatDoor
