/-
  Chapter 5: 'Refute' on both sides.
  Chapter 5: equal lists of numbers, on both sides.
  Chapter 5: the program's 'VerifyMost'.
  Chapter 5: the reference's 'VerifyMost' (printed by wip/vmost.py).
  Chapter 5's laws: 'Few' of the reference.
  Chapter 5's laws: a call of the program and one of the reference return the same number.
  Chapter 5's laws: the examples ('awake').
  Sums of rational numbers, plain.
  Tables of equations, plain: what a pivot keeps; a table is determined by its basis.
  Bland's rule, plain: a climb that always takes the first column and, among the rows with the least quotient, that of the least column, never comes back to a basis.
-/
import Derived.Test.YtnaikafamjebdaaGreatDoorKJO
import Derived.Test.YtnaikafamjebdaaGreatDoorKJK
section
namespace Go.Proofs.YtnaikafamjebdaaGreatDoor
open Go Go.RowKit Go.Deep Go.Sort Go.Shelf
namespace M
def isZ (f : Nat → Rat) (n : Nat) : Bool := (List.range n).all fun k => decide (f k = 0)
theorem isZ_hit {f : Nat → Rat} {n k : Nat} (hk : k < n) (h : f k ≠ 0) : isZ f n = false := by
  unfold isZ
  rw [List.all_eq_false]
  exact ⟨k, List.mem_range.2 hk, by simp [h]⟩
theorem isZ_all {f : Nat → Rat} {n : Nat} (h : ∀ k, k < n → f k = 0) : isZ f n = true := by
  unfold isZ
  rw [List.all_eq_true]
  exact fun k hk => decide_eq_true (h k (List.mem_range.1 hk))
def rfV (l : List BQ) (q : List Rat) (n : Nat) : Int := if wok q l.length = true ∧ isZ (wrow l q l.length) n = true ∧ wmost l q l.length < 0 then 0 else 15
theorem R_head (q : Rat) : ∃ c t, R q = c :: t ∧ (c == 45) = decide (q < 0) := by
  obtain ⟨c, t, h1, h2⟩ := I_cons q.num
  have h3 : decide (q.num < 0) = decide (q < 0) := by
    rw [decide_eq_decide, ← Int.not_le, Rat.num_nonneg, Rat.not_le]
  unfold R
  split
  · exact ⟨c, t, h1, by rw [h2, h3]⟩
  · exact ⟨c, t ++ 47 :: I (q.den : Int), by rw [h1]; rfl, by rw [h2, h3]⟩
end M
namespace W
open M
attribute [local go_sem] bs_size bs_toList bs_get bs_extract bs_append bs_lit0 bs_lit1 lit1_bs
set_option maxHeartbeats 2000000
set_option maxRecDepth 20000
theorem pcontains (g n : Nat) (f : Nat → Rat) (w : World) (hn : n ≤ 1000) (h : ∀ k, k < n → w.cell? ⟨g, k, none⟩ = some (.string (bs (R (f k))))) :
    Calls Tryz.prog 87 #[.slice (some ⟨g, 0, none⟩) n n, .func (.func 88) #[] #[]] w (Ret w (.bool (!(isZ f n)))) := by
  have hpred : ∀ s W, Calls Tryz.prog 88 #[.string (bs s)] W (fun e w' => e = .returned (.bool (!(s == [48]))) ∧ W = w') := fun s W => by
    go_enter Tryz.func88, Tryz.ntmps88
    go_wp2
    go_ret
    exact ⟨rfl, rfl⟩
  have hidx : Calls Tryz.prog 126 #[.slice (some ⟨g, 0, none⟩) n n, .func (.func 88) #[] #[]] w fun e w' => (∃ k : Int, e = .returned (.int .i64 k) ∧ decide (0 ≤ k) = !(isZ f n)) ∧ w' = w := by
    have HP := Lib.hid hpred
    have HH := Lib.hid h
    clear hpred h
    go_enter Tryz.func126, Tryz.ntmps126
    go_wp2
    go_loopw [8] (fun iv wr => ∃ i : Nat, iv = .int .i64 (i : Int) ∧ i ≤ n ∧ Hid (∀ j, j < i → f j = 0) ∧ wr = w) (fun iv _ => n - (intOf iv).toNat)
    case atStart => exact ⟨0, rfl, by omega, Lib.hid (fun j hj => by omega), rfl⟩
    case round =>
      obtain ⟨i, rfl, hi, hno, rfl⟩ := hrel
      by_cases hlt : i < n
      · have c1 := HH.out i hlt
        have hi0 : (0 : Int) ≤ (i : Int) := by omega
        have his : (i : Int) < (n : Int) := by omega
        by_cases hz : f i = 0
        · have hz1 : R (f i) = [48] := R_is0.2 hz
          rw [hz1] at c1
          have HN : Hid (∀ j, j < i + 1 → f j = 0) := Lib.hid (fun j hj => by
            by_cases e : j = i
            · subst e; exact hz
            · exact hno.out j (by omega))
          have HC := Lib.hid (HP.out [48] wr)
          clear hno hz hz1 HP
          go_wp2_with fail
          refine (HC.out).mono ?_
          rintro e w' ⟨rfl, rfl⟩
          go_wp2
          go_roundw
          case rel => exact ⟨i + 1, by go_num, hlt, HN, trivial⟩
          case measure => simp [intOf]; omega
        · have hz1 : (R (f i) == [48]) = false := by rw [beq_eq_false_iff_ne]; exact fun e => hz (R_is0.1 e)
          have HE := Lib.hid (isZ_hit hlt hz)
          have HC := Lib.hid (HP.out (R (f i)) wr)
          rw [hz1] at HC
          clear hno hz hz1 HP
          go_wp2_with fail
          refine (HC.out).mono ?_
          rintro e w' ⟨rfl, rfl⟩
          go_wp2
          go_ret
          exact ⟨⟨_, rfl, by rw [HE.out]; simp⟩, rfl⟩
      · obtain rfl : n = i := by omega
        have HE := Lib.hid (isZ_all hno.out)
        clear hno
        go_wp2
        go_ret
        exact ⟨⟨_, rfl, by rw [HE.out]; decide⟩, rfl⟩
  have HI := Lib.hid hidx
  clear hidx hpred h
  generalize isZ f n = z at *
  go_enter Tryz.func87, Tryz.ntmps87
  go_wp2_with fail
  refine HI.out.mono ?_
  rintro e w1 ⟨⟨k, rfl, hk⟩, rfl⟩
  have HK := Lib.hid hk
  clear hk
  go_wp2
  go_ret
  exact Ret.of (by rw [← HK.out]; rfl) (Below.refl _ _)
theorem rzero (g n cap : Nat) (f : Nat → Rat) (w : World) (hn : n ≤ 1000) (h : ∀ k, k < n → w.cell? ⟨g, k, none⟩ = some (.string (bs (R (f k))))) :
    Calls Tryz.prog 75 #[.slice (some ⟨g, 0, none⟩) n cap] w (Ret w (.bool (isZ f n))) := by
  have HH := Lib.hid h
  obtain ⟨z, hz⟩ : ∃ z, z = isZ f n := ⟨_, rfl⟩
  rw [← hz]
  have HZ := Lib.hid hz
  clear h hz
  go_enter Tryz.func75, Tryz.ntmps75
  go_wp2
  go_loopw [3] (fun iv wr => ∃ i : Nat, iv = .int .i64 (i : Int) ∧ i ≤ n ∧ Hid (∀ j, j < i → f j = 0) ∧ wr = w) (fun iv _ => n - (intOf iv).toNat)
  case atStart => exact ⟨0, rfl, by omega, Lib.hid (fun j hj => by omega), rfl⟩
  case round =>
    obtain ⟨i, rfl, hi, hno, rfl⟩ := hrel
    by_cases hlt : i < n
    · have c1 := HH.out i hlt
      have hi0 : (0 : Int) ≤ (i : Int) := by omega
      have his : (i : Int) < (n : Int) := by omega
      by_cases hz : f i = 0
      · have hz1 : R (f i) = [48] := R_is0.2 hz
        rw [hz1] at c1
        have HN : Hid (∀ j, j < i + 1 → f j = 0) := Lib.hid (fun j hj => by
          by_cases e : j = i
          · subst e; exact hz
          · exact hno.out j (by omega))
        clear hno hz hz1
        go_wp2
        go_roundw
        case rel => exact ⟨i + 1, by go_num, hlt, HN, trivial⟩
        case measure => simp [intOf]; omega
      · have hz1 : (R (f i) == [48]) = false := by rw [beq_eq_false_iff_ne]; exact fun e => hz (R_is0.1 e)
        have HE : Hid (z = false) := Lib.hid (by rw [HZ.out, isZ_hit hlt hz])
        clear hno hz HZ
        go_wp2
        go_ret
        exact Ret.of (by rw [HE.out]; rfl) (Below.refl _ _)
    · obtain rfl : n = i := by omega
      have HE : Hid (z = true) := Lib.hid (by rw [HZ.out, isZ_all hno.out])
      clear hno HZ
      go_wp2
      go_ret
      exact Ret.of (by rw [HE.out]; rfl) (Below.refl _ _)
theorem prefute_bad2 (n : Int) (vl vp : Value) (l : List BT) (p : List (List UInt8)) (w : World) (hg : Glob w) (hl : RdB w vl l) (hw : Wire l) (h0 : chk5 n l = 0) (hp : RdT w vp p) (sp : ∀ q ∈ p, q.length ≤ 90000) (np : p.length ≤ 1000000) (hc : chkPt (l.length : Int) p ≠ 0) :
    Calls Tryz.prog 49 #[.int .i64 n, vl, vp] w (Ret w (.int .i64 ((chkPt (l.length : Int) p : Nat) : Int))) := by
  have hk := pcheck5 n vl l w hg hl hw.1 (fun h b hb => ⟨by have := (hw.2 h b hb).1; omega, (hw.2 h b hb).2.1, (hw.2 h b hb).2.2⟩)
  rw [h0] at hk
  have HC := Lib.hid hk
  have HN := Lib.hid (fun W (hW : Below w.heap.size w W) => pnum1 vp p W (hg.of hW) (hp.below hW) sp np)
  obtain ⟨A, cap, rfl⟩ := hp.len
  obtain ⟨A2, cap2, rfl⟩ := hl.len
  unfold chkPt at *
  clear hl hw h0 hp sp hk
  by_cases hn : (p.length : Int) ≠ (l.length : Int)
  · rw [if_pos hn] at hc ⊢
    have hd : ((p.length : Int) != (l.length : Int)) = true := by simp at hn ⊢; exact hn
    clear HN hn hc
    go_enter Tryz.func49, Tryz.ntmps49
    go_wp2_with fail
    refine (HC.out).mono ?_
    rintro e w1 ⟨rfl, hb1⟩
    go_wp2
    go_ret
    exact Ret.of rfl hb1
  · rw [if_neg hn] at hc ⊢
    have hd : ((p.length : Int) != (l.length : Int)) = false := by simpa using hn
    have hz : (((chkRs p : Nat) : Int) != 0) = true := by simp; exact hc
    clear hn hc
    generalize ((chkRs p : Nat) : Int) = c at *
    go_enter Tryz.func49, Tryz.ntmps49
    go_wp2_with fail
    refine (HC.out).mono ?_
    rintro e w1 ⟨rfl, hb1⟩
    have HB1 := Lib.hid hb1
    go_wp2_with fail
    refine (HN.out _ HB1.out).mono ?_
    rintro e w2 ⟨rfl, hb2⟩
    go_wp2
    go_ret
    exact Ret.of rfl (Below.then HB1.out hb2)
theorem prefute_ok (n : Nat) (vl vp : Value) (l : List BQ) (p : List Rat) (w : World) (hg : Glob w) (hl : RdB w vl (bx l)) (hw : Wire (bx l)) (h0 : chk5 (n : Int) (bx l) = 0) (hp : RdT w vp (rx p)) (hn1 : 1 ≤ n) (hn : n ≤ 8) (hr : RightB n l) (h4 : p.length = l.length) (h5 : ∀ x ∈ p, Bq 30 x) (hll : l.length ≤ 20) :
    Calls Tryz.prog 49 #[.int .i64 (n : Int), vl, vp] w (Ret w (.int .i64 (rfV l p n))) := by
  have hk := pcheck5 n vl (bx l) w hg hl hw.1 (fun h b hb => ⟨by have := (hw.2 h b hb).1; omega, (hw.2 h b hb).2.1, (hw.2 h b hb).2.2⟩)
  rw [h0] at hk
  have HC := Lib.hid hk
  have hm := fun W (hW : Below w.heap.size w W) => pnum1 vp (rx p) W (hg.of hW) (hp.below hW) (rx_small30 h5) (by rw [rx_len]; omega)
  rw [chk_rx30 h5] at hm
  have HN := Lib.hid hm
  have HWE := Lib.hid (fun W (hW : Below w.heap.size w W) => pweighed vl vp l p n W (hg.of hW) (hl.below hW) (hp.below hW) hn1 hn hr h4 h5 hll)
  have hd : ((p.length : Int) != (l.length : Int)) = false := by simp; omega
  have HCT := Lib.hid (fun g W h => pcontains g n (wrow l p l.length) W (by omega) h)
  obtain ⟨A, cap, rfl⟩ := hp.len
  obtain ⟨A2, cap2, rfl⟩ := hl.len
  rw [rx_len p] at HN HWE ⊢
  rw [bx_len l] at HC HWE ⊢
  obtain ⟨rv, hrv⟩ : ∃ rv, rv = rfV l p n := ⟨_, rfl⟩
  rw [← hrv]
  have HRF := Lib.hid (show rv = if wok p l.length = true ∧ isZ (wrow l p l.length) n = true ∧ wmost l p l.length < 0 then 0 else 15 from hrv)
  clear hl hw h0 hp hr h5 hk hm h4 hrv
  go_enter Tryz.func49, Tryz.ntmps49
  go_wp2_with fail
  refine (HC.out).mono ?_
  rintro e w1 ⟨rfl, hb1⟩
  have HB1 := Lib.hid hb1
  go_wp2_with fail
  refine (HN.out _ HB1.out).mono ?_
  rintro e w2 ⟨rfl, hb2⟩
  have HB2 := Lib.hid (Below.then HB1.out hb2)
  clear hb1 hb2
  go_wp2_with fail
  refine (HWE.out _ HB2.out).mono ?_
  rintro e w3 ⟨hb3, hpost⟩
  have HB3 := Lib.hid (bel_to HB2.out hb3)
  have HRE := HRF.out
  cases hwk : wok p l.length with
  | false =>
    rw [hwk, if_neg (by decide)] at hpost
    rw [hwk, if_neg (by simp)] at HRE
    obtain rfl := hpost
    subst HRE
    clear HWE HCT HRF hwk hb3
    go_wp2
    go_ret
    exact Ret.of rfl HB3.out
  | true =>
    rw [hwk, if_pos rfl] at hpost
    obtain ⟨g, rfl, hpre⟩ := hpost
    have HC3 := Lib.hid (HCT.out g w3 (fun k hk => hpre.cell (strs_get hk)))
    rw [hwk] at HRE
    simp only [true_and] at HRE
    obtain ⟨c, t, hh1, hh2⟩ := R_head (wmost l p l.length)
    rw [hh1]
    have HH2 := Lib.hid hh2
    have HR2 := Lib.hid HRE
    clear HWE HCT HRF hwk hb3 HRE hpre hh1 hh2
    cases hz : isZ (wrow l p l.length) n with
    | false =>
      rw [hz] at HC3 HR2
      obtain rfl : rv = 15 := by rw [HR2.out, if_neg (by simp)]
      clear hz
      go_wp2_with fail
      refine (HC3.out).mono ?_
      rintro e w4 ⟨rfl, hb4⟩
      go_wp2
      go_ret
      exact Ret.of rfl (bel_to HB3.out hb4)
    | true =>
      rw [hz] at HC3 HR2
      clear hz
      by_cases hlt : wmost l p l.length < 0
      · obtain rfl : rv = 0 := by rw [HR2.out, if_pos ⟨rfl, hlt⟩]
        have hc45 : c = 45 := by have := HH2.out; rw [decide_eq_true hlt, beq_iff_eq] at this; exact this
        subst hc45
        clear hlt HR2 HH2
        go_wp2_with fail
        refine (HC3.out).mono ?_
        rintro e w4 ⟨rfl, hb4⟩
        go_wp2
        go_ret
        exact Ret.of rfl (bel_to HB3.out hb4)
      · obtain rfl : rv = 15 := by rw [HR2.out, if_neg (fun e => hlt e.2)]
        have hc45 : c ≠ 45 := by have := HH2.out; rw [decide_eq_false hlt, beq_eq_false_iff_ne] at this; exact this
        have hcd : ((c.toNat : Int) != 45) = true := by
          have h1 : c.toNat ≠ 45 := fun e => hc45 (UInt8.toNat_inj.1 (by rw [e]; rfl))
          simp; omega
        clear hlt HR2 HH2 hc45
        go_wp2_with fail
        refine (HC3.out).mono ?_
        rintro e w4 ⟨rfl, hb4⟩
        go_wp2
        go_ret
        exact Ret.of rfl (bel_to HB3.out hb4)
theorem rrefute_ok (n : Nat) (vl vp : Value) (l : List BQ) (p : List Rat) (w : World) (hl : RdB w vl (bx l)) (hw : Wire (bx l)) (h0 : chk5 (n : Int) (bx l) = 0) (hp : RdT w vp (rx p)) (hn1 : 1 ≤ n) (hn : n ≤ 8) (hr : RightB n l) (h4 : p.length = l.length) (h5 : ∀ x ∈ p, Bq 30 x) (hll : l.length ≤ 20) :
    Calls Tryz.prog 39 #[.int .i64 (n : Int), vl, vp] w (Ret w (.int .i64 (rfV l p n))) := by
  have hk := rcheck5 n vl (bx l) w hl hw.1 hw.2
  rw [h0] at hk
  have HC := Lib.hid hk
  have hm := fun W (hW : Below w.heap.size w W) => rlist vp (rx p) (l.length : Int) W (hp.below hW) (rx_small30 h5) (by rw [rx_len]; omega)
  rw [chk_rx30 h5, if_neg (by rw [rx_len]; simp; omega)] at hm
  have HN := Lib.hid hm
  have HWE := Lib.hid (fun W (hW : Below w.heap.size w W) => rweighted vl vp l p n W (hl.below hW) (hp.below hW) hn1 hn hr h4 h5 hll)
  have HZE := Lib.hid (fun g cap W h => rzero g n cap (wrow l p l.length) W (by omega) h)
  have HOR := Lib.hid (fun W => (by
    have h := order_R (wmost l p l.length) 0 W ((wmost_bq hr h5 l.length (Nat.le_refl _) (by omega)).sh (by omega) (by omega)) (Bq_nil.sh (by decide) (by decide))
    rw [R_nil] at h
    exact h : Calls Tryz.prog 67 #[.string (bs (R (wmost l p l.length))), .string (bs [48])] W (Ret W (.int .i64 (cmpQ (wmost l p l.length) 0)))))
  have hge : 0 ≤ cmpQ (wmost l p l.length) 0 ↔ 0 ≤ wmost l p l.length := cmpQ_ge
  obtain ⟨A2, cap2, rfl⟩ := hl.len
  rw [bx_len l] at HC HWE ⊢
  obtain ⟨rv, hrv⟩ : ∃ rv, rv = rfV l p n := ⟨_, rfl⟩
  rw [← hrv]
  have HRF := Lib.hid (show rv = if wok p l.length = true ∧ isZ (wrow l p l.length) n = true ∧ wmost l p l.length < 0 then 0 else 15 from hrv)
  have HGE := Lib.hid hge
  clear hl hw h0 hp hr h5 hk hm h4 hrv hge
  generalize cmpQ (wmost l p l.length) 0 = cm at *
  go_enter Tryz.func39, Tryz.ntmps39
  go_wp2_with fail
  refine (HC.out).mono ?_
  rintro e w1 ⟨rfl, hb1⟩
  have HB1 := Lib.hid hb1
  go_wp2_with fail
  refine (HN.out _ HB1.out).mono ?_
  rintro e w2 ⟨rfl, hb2⟩
  have HB2 := Lib.hid (Below.then HB1.out hb2)
  clear hb1 hb2
  go_wp2_with fail
  refine (HWE.out _ HB2.out).mono ?_
  rintro e w3 ⟨g, cap, rfl, hst⟩
  have HB3 := Lib.hid (bel_to HB2.out hst.bel)
  have HZ3 := Lib.hid (HZE.out g cap w3 (fun k hk => hst.cell k hk))
  have HRE := Lib.hid HRF.out
  clear hst HWE HZE HRF
  generalize R (wmost l p l.length) = rm at *
  cases hwk : wok p l.length with
  | false =>
    rw [hwk] at HRE
    obtain rfl : rv = 15 := by rw [HRE.out, if_neg (by simp)]
    clear hwk HRE
    go_wp2
    go_ret
    exact Ret.of rfl HB3.out
  | true =>
    rw [hwk] at HRE
    clear hwk
    cases hz : isZ (wrow l p l.length) n with
    | false =>
      rw [hz] at HZ3 HRE
      obtain rfl : rv = 15 := by rw [HRE.out, if_neg (by simp)]
      clear hz HRE
      go_wp2_with fail
      refine (HZ3.out).mono ?_
      rintro e w4 ⟨rfl, hb4⟩
      go_wp2
      go_ret
      exact Ret.of rfl (bel_to HB3.out hb4)
    | true =>
      rw [hz] at HZ3 HRE
      clear hz
      by_cases hlt : wmost l p l.length < 0
      · obtain rfl : rv = 0 := by rw [HRE.out, if_pos ⟨rfl, rfl, hlt⟩]
        have hcm : ¬ 0 ≤ cm := fun e => by have := HGE.out.1 e; grind
        have hcd : decide (0 ≤ cm) = false := decide_eq_false hcm
        clear hlt HRE HGE hcm
        go_wp2_with fail
        refine (HZ3.out).mono ?_
        rintro e w4 ⟨rfl, hb4⟩
        go_wp2_with fail
        refine (HOR.out _).mono ?_
        rintro e w5 ⟨rfl, hb5⟩
        go_wp2
        go_ret
        exact Ret.of rfl (bel_to (bel_to HB3.out hb4) hb5)
      · obtain rfl : rv = 15 := by rw [HRE.out, if_neg (fun e => hlt e.2.2)]
        have hcm : 0 ≤ cm := HGE.out.2 (by grind)
        have hcd : decide (0 ≤ cm) = true := decide_eq_true hcm
        clear hlt HRE HGE
        go_wp2_with fail
        refine (HZ3.out).mono ?_
        rintro e w4 ⟨rfl, hb4⟩
        go_wp2_with fail
        refine (HOR.out _).mono ?_
        rintro e w5 ⟨rfl, hb5⟩
        go_wp2
        go_ret
        exact Ret.of rfl (bel_to (bel_to HB3.out hb4) hb5)
end W
end Go.Proofs.YtnaikafamjebdaaGreatDoor
end
section
namespace Go.Proofs.YtnaikafamjebdaaGreatDoor
open Go Go.RowKit Go.Deep Go.Sort Go.Shelf
namespace M
end M
namespace W
open M
attribute [local go_sem] bs_size bs_toList bs_get bs_extract bs_append bs_lit0 bs_lit1 lit1_bs
set_option maxHeartbeats 2000000
set_option maxRecDepth 20000
end W
end Go.Proofs.YtnaikafamjebdaaGreatDoor
end
section
namespace Go.Proofs.YtnaikafamjebdaaGreatDoor
open Go Go.RowKit Go.Deep Go.Sort Go.Shelf
namespace M
end M
namespace W
open M
attribute [local go_sem] bs_size bs_toList bs_get bs_extract bs_append bs_lit0 bs_lit1 lit1_bs
set_option maxHeartbeats 4000000
set_option maxRecDepth 20000
end W
end Go.Proofs.YtnaikafamjebdaaGreatDoor
end
section
namespace Go.Proofs.YtnaikafamjebdaaGreatDoor
open Go Go.RowKit Go.Deep Go.Sort Go.Shelf
namespace W
open M
attribute [local go_sem] bs_size bs_toList bs_get bs_extract bs_append bs_lit0 bs_lit1 lit1_bs
set_option maxHeartbeats 4000000
set_option maxRecDepth 20000
end W
end Go.Proofs.YtnaikafamjebdaaGreatDoor
end
section
namespace Go.Proofs.YtnaikafamjebdaaGreatDoor
open Go Go.RowKit Go.Deep Go.Sort
namespace W
open M
attribute [local go_sem] bs_size bs_toList bs_get bs_extract bs_append bs_lit0 bs_lit1 lit1_bs
set_option maxHeartbeats 1000000
set_option maxRecDepth 20000
end W
end Go.Proofs.YtnaikafamjebdaaGreatDoor
end
section
namespace Go.Proofs.YtnaikafamjebdaaGreatDoor
open Go Go.RowKit Go.Deep Go.Sort
namespace W
open M
end W
end Go.Proofs.YtnaikafamjebdaaGreatDoor
end
section
namespace Go.Proofs.YtnaikafamjebdaaGreatDoor
open Go Go.RowKit Go.Deep Go.Sort
namespace M
theorem t0 : R 0 = [48] := by decide +kernel
theorem t1 : R 1 = [49] := by decide +kernel
theorem t2 : R 2 = [50] := by decide +kernel
theorem t3 : R 3 = [51] := by decide +kernel
theorem t4 : R 4 = [52] := by decide +kernel
instance (k : Nat) (q : Rat) : Decidable (Bq k q) := by unfold Bq; exact inferInstance
end M
namespace W
open M
attribute [local go_sem] bs_size bs_toList bs_get bs_extract bs_append bs_lit0 bs_lit1 lit1_bs
set_option maxHeartbeats 1000000
set_option maxRecDepth 20000
theorem bel_alloc {W W' : World} (h : Below W.heap.size W W') (o : Obj) : Below W.heap.size W (W'.alloc o) := h.alloc h.size o
end W
end Go.Proofs.YtnaikafamjebdaaGreatDoor
end
section
namespace Go.Proofs.YtnaikafamjebdaaGreatDoor
open Go
namespace Sx
open M
def sm : Nat → (Nat → Rat) → Rat
  | 0, _ => 0
  | n + 1, f => sm n f + f n
theorem sm_congr {n : Nat} {f g : Nat → Rat} (h : ∀ k, k < n → f k = g k) : sm n f = sm n g := by
  induction n with
  | zero => rfl
  | succ n ih => rw [sm, sm, ih fun k hk => h k (by omega), h n (by omega)]
theorem sm_zero {n : Nat} {f : Nat → Rat} (h : ∀ k, k < n → f k = 0) : sm n f = 0 := by
  induction n with
  | zero => rfl
  | succ n ih => rw [sm, ih fun k hk => h k (by omega), h n (by omega)]; grind
theorem sm_add (n : Nat) (f g : Nat → Rat) : sm n (fun k => f k + g k) = sm n f + sm n g := by
  induction n with
  | zero => simp only [sm]; grind
  | succ n ih => rw [sm, sm, sm, ih]; grind
theorem sm_sub (n : Nat) (f g : Nat → Rat) : sm n (fun k => f k - g k) = sm n f - sm n g := by
  induction n with
  | zero => simp only [sm]; grind
  | succ n ih => rw [sm, sm, sm, ih]; grind
theorem sm_mul (n : Nat) (c : Rat) (f : Nat → Rat) : sm n (fun k => c * f k) = c * sm n f := by
  induction n with
  | zero => rw [sm, sm, Rat.mul_zero]
  | succ n ih => rw [sm, sm, ih]; grind
theorem sm_mul_right (n : Nat) (c : Rat) (f : Nat → Rat) : sm n (fun k => f k * c) = sm n f * c := by
  induction n with
  | zero => rw [sm, sm, Rat.zero_mul]
  | succ n ih => rw [sm, sm, ih]; grind
theorem sm_neg (n : Nat) (f : Nat → Rat) : sm n (fun k => - f k) = - sm n f := by
  induction n with
  | zero => simp only [sm]; grind
  | succ n ih => rw [sm, sm, ih]; grind
theorem sm_one {n k : Nat} {f : Nat → Rat} (hk : k < n) (h : ∀ j, j < n → j ≠ k → f j = 0) : sm n f = f k := by
  induction n with
  | zero => omega
  | succ n ih =>
    rw [sm]
    by_cases e : k = n
    · subst e
      rw [sm_zero fun j hj => h j (by omega) (by omega)]; grind
    · rw [ih (by omega) fun j hj => h j (by omega), h n (by omega) (by omega)]; grind
theorem sm_swap (n m : Nat) (f : Nat → Nat → Rat) : sm n (fun i => sm m fun j => f i j) = sm m (fun j => sm n fun i => f i j) := by
  induction n with
  | zero =>
    rw [sm]
    exact (sm_zero fun k _ => rfl).symm
  | succ n ih =>
    rw [sm, ih, ← sm_add]
    exact sm_congr fun k _ => rfl
theorem sm_le {n : Nat} {f g : Nat → Rat} (h : ∀ k, k < n → f k ≤ g k) : sm n f ≤ sm n g := by
  induction n with
  | zero => exact Rat.le_refl
  | succ n ih =>
    have h1 := ih fun k hk => h k (by omega)
    have h2 := h n (by omega)
    rw [sm, sm]; grind
theorem sm_nonneg {n : Nat} {f : Nat → Rat} (h : ∀ k, k < n → 0 ≤ f k) : 0 ≤ sm n f := by
  induction n with
  | zero => exact Rat.le_refl
  | succ n ih =>
    have h1 := ih fun k hk => h k (by omega)
    have h2 := h n (by omega)
    rw [sm]; grind
theorem sm_nonpos {n : Nat} {f : Nat → Rat} (h : ∀ k, k < n → f k ≤ 0) : sm n f ≤ 0 := by
  induction n with
  | zero => exact Rat.le_refl
  | succ n ih =>
    have h1 := ih fun k hk => h k (by omega)
    have h2 := h n (by omega)
    rw [sm]; grind
theorem sm_neg_ex {n : Nat} {f : Nat → Rat} (h : sm n f < 0) : ∃ k, k < n ∧ f k < 0 := by
  induction n with
  | zero => simp only [sm] at h; exact absurd h Rat.lt_irrefl
  | succ n ih =>
    rw [sm] at h
    by_cases h1 : sm n f < 0
    · obtain ⟨k, hk, hf⟩ := ih h1
      exact ⟨k, by omega, hf⟩
    · exact ⟨n, by omega, by grind⟩
theorem sm_split (a b : Nat) (f : Nat → Rat) : sm (a + b) f = sm a f + sm b (fun k => f (a + k)) := by
  induction b with
  | zero => rw [sm]; show sm a f = _; grind
  | succ b ih => rw [← Nat.add_assoc, sm, ih, sm]; grind
end Sx
end Go.Proofs.YtnaikafamjebdaaGreatDoor
end
section
namespace Go.Proofs.YtnaikafamjebdaaGreatDoor
open Go
namespace Sx
open M
def Sol (m D : Nat) (A : Mx) (t : Rat) (x : Nat → Rat) : Prop := ∀ i, i < m → sm D (fun k => A i k * x k) = A i D * t
def Zv (m D : Nat) (A : Mx) (t : Rat) (x : Nat → Rat) : Rat := sm D (fun k => A m k * x k) - A m D * t
structure Bas (m D : Nat) (A : Mx) (b : Nat → Nat) : Prop where
  lt : ∀ i, i < m → b i < D
  one : ∀ i, i < m → A i (b i) = 1
  zer : ∀ i j, i < m → j ≤ m → j ≠ i → A j (b i) = 0
theorem Bas.inj {m D : Nat} {A : Mx} {b : Nat → Nat} (h : Bas m D A b) {i j : Nat} (hi : i < m) (hj : j < m) (e : b i = b j) : i = j := by
  by_cases h1 : i = j
  · exact h1
  · have h2 := h.zer j i hj (by omega) h1
    rw [← e, h.one i hi] at h2
    exact absurd h2 (by decide +kernel)
section
variable {m D : Nat} {A A' : Mx} {b : Nat → Nat} {r c : Nat}
theorem piv_row {i k : Nat} (h : i ≠ r) : pivA A r c i k = A i k - A i c * (A r k / A r c) := by unfold pivA; rw [if_neg h]
theorem piv_r (k : Nat) : pivA A r c r k = A r k / A r c := by unfold pivA; rw [if_pos rfl]
theorem piv_sum_r (x : Nat → Rat) : sm D (fun k => pivA A r c r k * x k) = sm D (fun k => A r k * x k) / A r c := by
  rw [Rat.div_def, ← sm_mul_right]
  exact sm_congr fun k _ => by rw [piv_r]; grind
theorem piv_sum {i : Nat} (h : i ≠ r) (x : Nat → Rat) : sm D (fun k => pivA A r c i k * x k) = sm D (fun k => A i k * x k) - A i c * (sm D (fun k => A r k * x k) / A r c) := by
  rw [← piv_sum_r, ← sm_mul, ← sm_sub]
  exact sm_congr fun k _ => by rw [piv_row h, piv_r]; grind
theorem piv_sol (hr : r < m) (h0 : A r c ≠ 0) {t : Rat} {x : Nat → Rat} : Sol m D (pivA A r c) t x ↔ Sol m D A t x := by
  constructor
  · intro h i hi
    have h1 := h r hr
    rw [piv_sum_r, piv_r] at h1
    have h2 : sm D (fun k => A r k * x k) = A r D * t := by grind
    by_cases e : i = r
    · subst e; exact h2
    · have h3 := h i hi
      rw [piv_sum e, piv_row e] at h3
      grind
  · intro h i hi
    have h2 := h r hr
    by_cases e : i = r
    · subst e
      rw [piv_sum_r, piv_r, h2]; grind
    · rw [piv_sum e, piv_row e, h i hi, h2]; grind
theorem piv_zv (hr : r < m) {t : Rat} {x : Nat → Rat} (h : Sol m D A t x) : Zv m D (pivA A r c) t x = Zv m D A t x := by
  unfold Zv
  rw [piv_sum (by omega), piv_row (by omega), h r hr]; grind
theorem piv_bas (h : Bas m D A b) (hr : r < m) (hc : c < D) (h0 : A r c ≠ 0) : Bas m D (pivA A r c) (upd b r c) := by
  refine ⟨fun i hi => ?_, fun i hi => ?_, fun i j hi hj hij => ?_⟩
  · by_cases e : i = r
    · subst e; rw [upd_same]; exact hc
    · rw [upd_other _ e]; exact h.lt i hi
  · by_cases e : i = r
    · subst e; rw [upd_same, piv_r]; grind
    · rw [upd_other _ e, piv_row e, h.one i hi, h.zer i r hi (by omega) (by omega)]; grind
  · by_cases e : i = r
    · subst e
      rw [upd_same, piv_row hij]; grind
    · rw [upd_other _ e]
      have h1 := h.zer i r hi (by omega) (by omega)
      by_cases e2 : j = r
      · subst e2; rw [piv_r, h1]; grind
      · rw [piv_row e2, h1, h.zer i j hi hj hij]; grind
def bv (m : Nat) (b : Nat → Nat) (y : Nat → Rat) : Nat → Rat := fun k => sm m fun i => if b i = k then y i else 0
theorem bv_at (h : Bas m D A b) (y : Nat → Rat) {i : Nat} (hi : i < m) : bv m b y (b i) = y i := by
  unfold bv
  rw [sm_one hi fun j hj e => ?_, if_pos rfl]
  rw [if_neg fun e2 => e (h.inj hj hi e2)]
theorem bv_off (y : Nat → Rat) {k : Nat} (hk : ∀ i, i < m → b i ≠ k) : bv m b y k = 0 := sm_zero fun i hi => if_neg (hk i hi)
theorem bv_sum (hb : ∀ i, i < m → b i < D) (f y : Nat → Rat) : sm D (fun k => f k * bv m b y k) = sm m fun i => f (b i) * y i := by
  have e : sm D (fun k => f k * bv m b y k) = sm D (fun k => sm m fun i => if b i = k then f k * y i else 0) :=
    sm_congr fun k _ => by
      unfold bv
      rw [← sm_mul]
      exact sm_congr fun i _ => by split <;> grind
  rw [e, sm_swap]
  refine sm_congr fun i hi => ?_
  rw [sm_one (hb i hi) fun j _ e => if_neg fun e2 => e e2.symm, if_pos rfl]
theorem bv_row (h : Bas m D A b) (y : Nat → Rat) {i : Nat} (hi : i < m) : sm D (fun k => A i k * bv m b y k) = y i := by
  rw [bv_sum h.lt, sm_one hi fun j hj e => by rw [h.zer j i hj (by omega) (by omega)]; grind, h.one i hi]; grind
theorem bv_goal (h : Bas m D A b) (y : Nat → Rat) : sm D (fun k => A m k * bv m b y k) = 0 := by
  rw [bv_sum h.lt]
  exact sm_zero fun i hi => by rw [h.zer i m hi (Nat.le_refl _) (by omega)]; grind
theorem bas_sol (h : Bas m D A b) : Sol m D A 1 (bv m b fun i => A i D) := fun i hi => by rw [bv_row h _ hi]; grind
theorem bas_zv (h : Bas m D A b) : Zv m D A 1 (bv m b fun i => A i D) = - A m D := by unfold Zv; rw [bv_goal h]; grind
def dirV (m : Nat) (A : Mx) (b : Nat → Nat) (s : Nat) : Nat → Rat := fun k => (if k = s then 1 else 0) - bv m b (fun i => A i s) k
theorem dir_sum {s : Nat} (hs : s < D) (f : Nat → Rat) : sm D (fun k => f k * dirV m A b s k) = f s - sm D (fun k => f k * bv m b (fun i => A i s) k) := by
  have e : sm D (fun k => f k * dirV m A b s k) = sm D (fun k => (if k = s then f k else 0) - f k * bv m b (fun i => A i s) k) :=
    sm_congr fun k _ => by unfold dirV; split <;> grind
  rw [e, sm_sub, sm_one hs fun j _ e => if_neg e, if_pos rfl]
theorem dir_sol (h : Bas m D A b) {s : Nat} (hs : s < D) : Sol m D A 0 (dirV m A b s) := fun i hi => by
  rw [dir_sum hs, bv_row h _ hi]; grind
theorem dir_zv (h : Bas m D A b) {s : Nat} (hs : s < D) : Zv m D A 0 (dirV m A b s) = A m s := by
  unfold Zv
  rw [dir_sum hs, bv_goal h]; grind
structure Eqv (m D : Nat) (A A' : Mx) : Prop where
  sol : ∀ t x, Sol m D A t x ↔ Sol m D A' t x
  zv : ∀ t x, Sol m D A t x → Zv m D A t x = Zv m D A' t x
theorem Eqv.refl (m D : Nat) (A : Mx) : Eqv m D A A := ⟨fun _ _ => Iff.rfl, fun _ _ _ => rfl⟩
theorem Eqv.symm (h : Eqv m D A A') : Eqv m D A' A := ⟨fun t x => (h.sol t x).symm, fun t x hs => (h.zv t x ((h.sol t x).2 hs)).symm⟩
theorem Eqv.trans {A'' : Mx} (h : Eqv m D A A') (h2 : Eqv m D A' A'') : Eqv m D A A'' :=
  ⟨fun t x => (h.sol t x).trans (h2.sol t x), fun t x hs => (h.zv t x hs).trans (h2.zv t x ((h.sol t x).1 hs))⟩
theorem eqv_piv (hr : r < m) (h0 : A r c ≠ 0) : Eqv m D A (pivA A r c) := ⟨fun _ _ => (piv_sol hr h0).symm, fun _ _ h => (piv_zv hr h).symm⟩
theorem Eqv.col (e : Eqv m D A A') (h : Bas m D A b) (h' : Bas m D A' b) {s : Nat} (hs : s < D) : (∀ i, i < m → A i s = A' i s) ∧ A m s = A' m s := by
  have hd := dir_sol h hs
  have hz := e.zv 0 _ hd
  rw [dir_zv h hs] at hz
  have hd' := (e.sol 0 _).1 hd
  refine ⟨fun i hi => ?_, ?_⟩
  · have h1 := hd' i hi
    rw [dir_sum hs, bv_row h' _ hi] at h1
    grind
  · rw [hz]; unfold Zv
    rw [dir_sum hs, bv_goal h']; grind
theorem Eqv.rhs (e : Eqv m D A A') (h : Bas m D A b) (h' : Bas m D A' b) : (∀ i, i < m → A i D = A' i D) ∧ A m D = A' m D := by
  have hd := bas_sol h
  have hz := e.zv 1 _ hd
  rw [bas_zv h] at hz
  have hd' := (e.sol 1 _).1 hd
  refine ⟨fun i hi => ?_, ?_⟩
  · have h1 := hd' i hi
    rw [bv_row h' _ hi] at h1
    grind
  · unfold Zv at hz
    rw [bv_goal h'] at hz
    grind
end
end Sx
end Go.Proofs.YtnaikafamjebdaaGreatDoor
end
section
namespace Go.Proofs.YtnaikafamjebdaaGreatDoor
open Go
namespace Sx
open M
structure Stp (m D : Nat) (ban : Option Nat) (A : Mx) (b : Nat → Nat) (r c : Nat) (A' : Mx) (b' : Nat → Nat) : Prop where
  cD : c < D
  cb : some c ≠ ban
  cp : 0 < A m c
  cf : ∀ k, k < c → some k ≠ ban → A m k ≤ 0
  rm : r < m
  rp : 0 < A r c
  rr : ∀ i, i < m → 0 < A i c → A r D / A r c ≤ A i D / A i c
  rt : ∀ i, i < m → 0 < A i c → A r D / A r c = A i D / A i c → b r ≤ b i
  pA : ∀ j, j ≤ m → ∀ k, k ≤ D → A' j k = pivA A r c j k
  pb : ∀ i, i < m → b' i = upd b r c i
theorem Bas.congr {m D : Nat} {A A' : Mx} {b b' : Nat → Nat} (h : Bas m D A b) (hA : ∀ j, j ≤ m → ∀ k, k ≤ D → A' j k = A j k) (hb : ∀ i, i < m → b' i = b i) : Bas m D A' b' := by
  refine ⟨fun i hi => ?_, fun i hi => ?_, fun i j hi hj e => ?_⟩
  · rw [hb i hi]; exact h.lt i hi
  · have := h.lt i hi
    rw [hb i hi, hA i (by omega) _ (by omega)]; exact h.one i hi
  · have := h.lt i hi
    rw [hb i hi, hA j hj _ (by omega)]; exact h.zer i j hi hj e
theorem Eqv.congr {m D : Nat} {A A' : Mx} (hA : ∀ j, j ≤ m → ∀ k, k ≤ D → A' j k = A j k) : Eqv m D A A' := by
  have e : ∀ j, j ≤ m → ∀ x : Nat → Rat, sm D (fun k => A' j k * x k) = sm D (fun k => A j k * x k) := fun j hj x => sm_congr fun k hk => by rw [hA j hj k (by omega)]
  refine ⟨fun t x => ⟨fun h i hi => ?_, fun h i hi => ?_⟩, fun t x _ => ?_⟩
  · rw [e i (by omega), hA i (by omega) D (Nat.le_refl _)]; exact h i hi
  · have := h i hi
    rwa [e i (by omega), hA i (by omega) D (Nat.le_refl _)] at this
  · unfold Zv; rw [e m (Nat.le_refl _), hA m (Nat.le_refl _) D (Nat.le_refl _)]
section
variable {m D : Nat} {ban : Option Nat} {A A' : Mx} {b b' : Nat → Nat} {r c : Nat}
theorem Stp.bas (s : Stp m D ban A b r c A' b') (h : Bas m D A b) : Bas m D A' b' :=
  (piv_bas h s.rm s.cD (fun e => by have := s.rp; rw [e] at this; exact Rat.lt_irrefl this)).congr s.pA s.pb
theorem Stp.eqv (s : Stp m D ban A b r c A' b') : Eqv m D A A' :=
  (eqv_piv s.rm (fun e => by have := s.rp; rw [e] at this; exact Rat.lt_irrefl this)).trans (Eqv.congr s.pA)
theorem div_nonneg' {a b : Rat} (ha : 0 ≤ a) (hb : 0 < b) : 0 ≤ a / b := by
  rw [Rat.div_def]; exact Rat.mul_nonneg ha (Rat.le_of_lt (Rat.inv_pos.2 hb))
theorem Stp.ratio (s : Stp m D ban A b r c A' b') (hf : ∀ i, i < m → 0 ≤ A i D) : 0 ≤ A r D / A r c := div_nonneg' (hf r s.rm) s.rp
theorem Stp.feas (s : Stp m D ban A b r c A' b') (hf : ∀ i, i < m → 0 ≤ A i D) : ∀ i, i < m → 0 ≤ A' i D := fun i hi => by
  rw [s.pA i (by omega) D (Nat.le_refl _)]
  have h0 := s.ratio hf
  by_cases e : i = r
  · subst e; rw [piv_r]; exact h0
  · rw [piv_row e]
    by_cases hp : 0 < A i c
    · have h1 := Rat.mul_le_mul_of_nonneg_left (s.rr i hi hp) (Rat.le_of_lt hp)
      have h2 : A i c * (A i D / A i c) = A i D := by grind
      grind
    · have h1 := Rat.mul_nonneg (show 0 ≤ - A i c by grind) h0
      have h2 := hf i hi
      grind
theorem Stp.goal (s : Stp m D ban A b r c A' b') (hf : ∀ i, i < m → 0 ≤ A i D) : A' m D ≤ A m D := by
  rw [s.pA m (Nat.le_refl _) D (Nat.le_refl _), piv_row (by have := s.rm; omega)]
  have h1 := Rat.mul_nonneg (Rat.le_of_lt s.cp) (s.ratio hf)
  grind
theorem Stp.still (s : Stp m D ban A b r c A' b') (e : A' m D = A m D) : A r D = 0 := by
  rw [s.pA m (Nat.le_refl _) D (Nat.le_refl _), piv_row (by have := s.rm; omega)] at e
  have h1 : A m c * (A r D / A r c) = 0 := by grind
  rcases Rat.mul_eq_zero.1 h1 with h | h
  · have := s.cp; rw [h] at this; exact absurd this Rat.lt_irrefl
  · have := s.rp
    have h2 : A r D = A r D / A r c * A r c := by grind
    rw [h2, h]; grind
theorem Stp.stay (s : Stp m D ban A b r c A' b') (e : A r D = 0) : ∀ i, i < m → A' i D = A i D := fun i hi => by
  rw [s.pA i (by omega) D (Nat.le_refl _)]
  have h0 : A r D / A r c = 0 := by rw [e]; grind
  by_cases h : i = r
  · subst h; rw [piv_r, h0, e]
  · rw [piv_row h, h0]; grind
theorem Stp.new (s : Stp m D ban A b r c A' b') (h : Bas m D A b) {i : Nat} (hi : i < m) : b i ≠ c := fun e => by
  have h1 := h.zer i m hi (Nat.le_refl _) (by omega)
  have := s.cp
  rw [← e, h1] at this
  exact Rat.lt_irrefl this
end
def Runs (m D : Nat) (ban : Option Nat) (T : Nat → Mx) (b : Nat → Nat → Nat) (r c : Nat → Nat) (N : Nat) : Prop := ∀ x, x < N → Stp m D ban (T x) (b x) (r x) (c x) (T (x + 1)) (b (x + 1))
section
variable {m D : Nat} {ban : Option Nat} {T : Nat → Mx} {b : Nat → Nat → Nat} {r c : Nat → Nat} {N : Nat}
theorem Runs.bas (h : Runs m D ban T b r c N) (h0 : Bas m D (T 0) (b 0)) : ∀ x, x ≤ N → Bas m D (T x) (b x)
  | 0, _ => h0
  | x + 1, hx => (h x (by omega)).bas (Runs.bas h h0 x (by omega))
theorem Runs.feas (h : Runs m D ban T b r c N) (h0 : ∀ i, i < m → 0 ≤ T 0 i D) : ∀ x, x ≤ N → ∀ i, i < m → 0 ≤ T x i D
  | 0, _ => h0
  | x + 1, hx => (h x (by omega)).feas (Runs.feas h h0 x (by omega))
theorem Runs.eqv (h : Runs m D ban T b r c N) {x : Nat} : ∀ d, x + d ≤ N → Eqv m D (T x) (T (x + d))
  | 0, _ => Eqv.refl _ _ _
  | d + 1, hx => (Runs.eqv h d (by omega)).trans (h (x + d) (by omega)).eqv
theorem Runs.goal (h : Runs m D ban T b r c N) (h0 : ∀ i, i < m → 0 ≤ T 0 i D) {x : Nat} : ∀ d, x + d ≤ N → T (x + d) m D ≤ T x m D
  | 0, _ => Rat.le_refl
  | d + 1, hx => Rat.le_trans ((h (x + d) (by omega)).goal (h.feas h0 _ (by omega))) (Runs.goal h h0 d (by omega))
theorem Runs.took (h : Runs m D ban T b r c N) {i k : Nat} (hi : i < m) {x : Nat} (hx : b x i ≠ k) : ∀ d, x + d ≤ N → b (x + d) i = k → ∃ w, x ≤ w ∧ w < x + d ∧ r w = i ∧ c w = k
  | 0, _, e => absurd e hx
  | d + 1, hd, e => by
    by_cases h1 : b (x + d) i = k
    · obtain ⟨w, a1, a2, a3⟩ := Runs.took h hi hx d (by omega) h1
      exact ⟨w, a1, by omega, a3⟩
    · have s := h (x + d) (by omega)
      rw [show x + (d + 1) = x + d + 1 by omega, s.pb i hi] at e
      by_cases h2 : i = r (x + d)
      · rw [h2, upd_same] at e
        exact ⟨x + d, by omega, by omega, h2.symm, e⟩
      · rw [upd_other _ h2] at e; exact absurd e h1
theorem Runs.gave (h : Runs m D ban T b r c N) {i k : Nat} (hi : i < m) {x : Nat} (hx : b x i = k) : ∀ d, x + d ≤ N → b (x + d) i ≠ k → ∃ w, x ≤ w ∧ w < x + d ∧ r w = i ∧ b w i = k
  | 0, _, e => absurd hx e
  | d + 1, hd, e => by
    by_cases h1 : b (x + d) i = k
    · have s := h (x + d) (by omega)
      rw [show x + (d + 1) = x + d + 1 by omega, s.pb i hi] at e
      by_cases h2 : i = r (x + d)
      · exact ⟨x + d, by omega, by omega, h2.symm, h1⟩
      · rw [upd_other _ h2] at e; exact absurd h1 e
    · obtain ⟨w, a1, a2, a3⟩ := Runs.gave h hi hx d (by omega) h1
      exact ⟨w, a1, by omega, a3⟩
theorem max_of (f : Nat → Nat) (p : Nat) : ∀ d, 0 < d → ∃ u, p ≤ u ∧ u < p + d ∧ ∀ w, p ≤ w → w < p + d → f w ≤ f u
  | 0, h => absurd h (by omega)
  | 1, _ => ⟨p, by omega, by omega, fun w h1 h2 => by rw [show w = p by omega]; exact Nat.le_refl _⟩
  | d + 2, _ => by
    obtain ⟨u, h1, h2, h3⟩ := max_of f p (d + 1) (by omega)
    by_cases h : f u ≤ f (p + d + 1)
    · exact ⟨p + d + 1, by omega, by omega, fun w hw1 hw2 => by
        by_cases e : w < p + (d + 1)
        · exact Nat.le_trans (h3 w hw1 e) h
        · rw [show w = p + d + 1 by omega]; exact Nat.le_refl _⟩
    · exact ⟨u, h1, by omega, fun w hw1 hw2 => by
        by_cases e : w < p + (d + 1)
        · exact h3 w hw1 e
        · rw [show w = p + d + 1 by omega]; omega⟩
theorem Runs.once (h : Runs m D ban T b r c N) (h0 : Bas m D (T 0) (b 0)) (hf : ∀ i, i < m → 0 ≤ T 0 i D) {p d : Nat} (hd : 0 < d) (hq : p + d ≤ N) (he : ∀ i, i < m → b p i = b (p + d) i) : False := by
  have hB := h.bas h0
  have hF := h.feas hf
  -- the goal's right side does not change from p to p + d
  have hpq : T p m D = T (p + d) m D := by
    have e := h.eqv (x := p) d hq
    exact (Eqv.rhs e (hB p (by omega)) ((hB (p + d) hq).congr (fun _ _ _ _ => rfl) he)).2
  have hg : ∀ w, p ≤ w → w < p + d → T (w + 1) m D = T w m D := fun w h1 h2 => by
    have a1 := h.goal hf (x := p) (w - p) (by omega)
    have a2 := h.goal hf (x := w + 1) (p + d - (w + 1)) (by omega)
    have a3 := h.goal hf (x := w) 1 (by omega)
    rw [show p + (w - p) = w by omega] at a1
    rw [show w + 1 + (p + d - (w + 1)) = p + d by omega] at a2
    exact Rat.le_antisymm a3 (by rw [← hpq] at a2; exact Rat.le_trans a1 a2)
  have hz : ∀ w, p ≤ w → w < p + d → T w (r w) D = 0 := fun w h1 h2 => (h w (by omega)).still (hg w h1 h2)
  have hs : ∀ i, i < m → ∀ k, k ≤ d → T (p + k) i D = T p i D := fun i hi k => by
    induction k with
    | zero => intro _; rfl
    | succ k ih => intro hk; rw [← ih (by omega)]; exact (h (p + k) (by omega)).stay (hz _ (by omega) (by omega)) i hi
  have hs2 : ∀ i, i < m → ∀ w, p ≤ w → w ≤ p + d → T w i D = T p i D := fun i hi w h1 h2 => by
    have := hs i hi (w - p) (by omega)
    rwa [show p + (w - p) = w by omega] at this
  -- the greatest column that comes in
  obtain ⟨u, u1, u2, umax⟩ := max_of c p d hd
  have su := h u (by omega)
  have bu := hB u (by omega)
  -- it goes out at some step v
  obtain ⟨v, v1, v2, vt⟩ : ∃ v, p ≤ v ∧ v < p + d ∧ b v (r v) = c u := by
    have hru := su.rm
    have e1 : b (u + 1) (r u) = c u := by rw [su.pb _ hru, upd_same]
    by_cases h1 : b (p + d) (r u) = c u
    · have h2 : b p (r u) = c u := by rw [he _ hru]; exact h1
      obtain ⟨w, a1, a2, a3, a4⟩ := h.gave hru h2 (u - p) (by omega) (by rw [show p + (u - p) = u by omega]; exact su.new bu hru)
      exact ⟨w, a1, by omega, by rw [a3]; exact a4⟩
    · obtain ⟨w, a1, a2, a3, a4⟩ := h.gave hru e1 (p + d - (u + 1)) (by omega) (by rw [show u + 1 + (p + d - (u + 1)) = p + d by omega]; exact h1)
      exact ⟨w, by omega, by omega, by rw [a3]; exact a4⟩
  have sv := h v (by omega)
  have bvv := hB v (by omega)
  have hsl : c v < c u := by
    have h1 := umax v v1 v2
    have h2 := sv.new bvv sv.rm
    rw [vt] at h2
    omega
  -- the direction of the column that comes in at v, valued by the goal of u
  have hE : Eqv m D (T u) (T v) := by
    rcases Nat.le_total u v with h1 | h1
    · have := h.eqv (x := u) (v - u) (by omega)
      rwa [show u + (v - u) = v by omega] at this
    · have := (h.eqv (x := v) (u - v) (by omega)).symm
      rwa [show v + (u - v) = u by omega] at this
  have hd2 := dir_sol bvv sv.cD
  have hd1 := (hE.sol 0 _).2 hd2
  have hzv := hE.zv 0 _ hd1
  rw [dir_zv bvv sv.cD] at hzv
  unfold Zv at hzv
  rw [dir_sum sv.cD, bv_sum bvv.lt] at hzv
  have hcs := su.cf _ hsl sv.cb
  have hcp := sv.cp
  have hneg : sm m (fun i => T u m (b v i) * T v i (c v)) < 0 := by grind
  obtain ⟨i, hi, hti⟩ := sm_neg_ex hneg
  -- the row's column is not in the basis at u
  have hku : ∀ j, j < m → b u j ≠ b v i := fun j hj e => by
    have h1 := bu.zer j m hj (Nat.le_refl _) (by omega)
    rw [e] at h1
    rw [h1, Rat.zero_mul] at hti
    exact Rat.lt_irrefl hti
  -- so it comes in at some step, and its row has right side 0
  have hk : ∃ w, p ≤ w ∧ w < p + d ∧ r w = i ∧ c w = b v i := by
    by_cases h1 : u < v
    · obtain ⟨w, a1, a2, a3, a4⟩ := h.took hi (hku i hi) (v - u) (by omega) (by rw [show u + (v - u) = v by omega])
      exact ⟨w, by omega, by omega, a3, a4⟩
    · by_cases h2 : b (p + d) i = b v i
      · obtain ⟨w, a1, a2, a3, a4⟩ := h.took hi (hku i hi) (p + d - u) (by omega) (by rw [show u + (p + d - u) = p + d by omega]; exact h2)
        exact ⟨w, by omega, by omega, a3, a4⟩
      · obtain ⟨w, a1, a2, a3, a4⟩ := h.took hi (x := p) (by rw [he i hi]; exact h2) (v - p) (by omega) (by rw [show p + (v - p) = v by omega])
        exact ⟨w, by omega, by omega, a3, a4⟩
  obtain ⟨w, w1, w2, w3, w4⟩ := hk
  have hr0 : T v i D = 0 := by
    have h1 := hz w w1 w2
    rw [w3, hs2 i hi w w1 (by omega), ← hs2 i hi v v1 (by omega)] at h1
    exact h1
  have hle := umax w w1 w2
  rw [w4] at hle
  rcases Nat.lt_or_eq_of_le hle with hlt | heq
  · have h1 := su.cf _ hlt (by rw [← w4]; exact (h w (by omega)).cb)
    have h2 : 0 < T v i (c v) := by
      rcases Rat.lt_iff_le_and_ne.1 hti with ⟨h3, h4⟩
      by_cases h5 : 0 < T v i (c v)
      · exact h5
      · have h6 := Rat.mul_nonneg (show 0 ≤ - T u m (b v i) by grind) (show 0 ≤ - T v i (c v) by grind)
        grind
    have h3 := sv.rt i hi h2 (by rw [hz v v1 v2, hr0]; grind)
    rw [vt] at h3
    omega
  · have h1 : i = r v := bvv.inj hi sv.rm (by rw [vt]; exact heq)
    subst h1
    rw [heq] at hti
    have h2 := Rat.mul_pos su.cp sv.rp
    grind
end
theorem alike : ∀ (M : Nat) (f : Nat → Nat) (N : Nat), (∀ x, x ≤ N → f x < M) → M ≤ N → ∃ x y, x < y ∧ y ≤ N ∧ f x = f y
  | 0, f, N, h, _ => absurd (h 0 (by omega)) (by omega)
  | M + 1, f, N, h, hN => by
    by_cases h1 : ∃ x y, x < y ∧ y ≤ N ∧ f x = f y
    · exact h1
    · exfalso
      -- take out the number that has the last value
      obtain ⟨N', rfl⟩ : ∃ N', N = N' + 1 := ⟨N - 1, by omega⟩
      have hne : ∀ x, x < N' + 1 → f x ≠ f (N' + 1) := fun x hx e => h1 ⟨x, _, hx, Nat.le_refl _, e⟩
      have hg : ∀ x, x ≤ N' → (if f x = M then f (N' + 1) else f x) < M := fun x hx => by
        have a := h x (by omega)
        have a2 := h (N' + 1) (Nat.le_refl _)
        have a3 := hne x (by omega)
        split <;> omega
      obtain ⟨x, y, hxy, hy, e⟩ := alike M (fun x => if f x = M then f (N' + 1) else f x) N' hg (by omega)
      have h2 : f x ≠ f y := fun e2 => h1 ⟨x, y, hxy, by omega, e2⟩
      have h3 := hne x (by omega)
      have h4 := hne y (by omega)
      split at e <;> split at e <;> omega
def codeB (D : Nat) (b : Nat → Nat) : Nat → Nat
  | 0 => 0
  | m + 1 => codeB D b m * D + b m
theorem codeB_lt {D : Nat} {b : Nat → Nat} : ∀ {m : Nat}, (∀ i, i < m → b i < D) → codeB D b m < D ^ m
  | 0, _ => by simp [codeB]
  | m + 1, h => by
    have h1 := codeB_lt (m := m) fun i hi => h i (by omega)
    have h2 := h m (by omega)
    rw [codeB, Nat.pow_succ]
    have h3 : (codeB D b m + 1) * D ≤ D ^ m * D := Nat.mul_le_mul_right _ h1
    rw [Nat.add_mul] at h3
    omega
theorem codeB_inj {D : Nat} {b b' : Nat → Nat} : ∀ {m : Nat}, (∀ i, i < m → b i < D) → (∀ i, i < m → b' i < D) → codeB D b m = codeB D b' m → ∀ i, i < m → b i = b' i
  | 0, _, _, _, i, hi => absurd hi (by omega)
  | m + 1, h, h', e, i, hi => by
    rw [codeB, codeB] at e
    have h1 := h m (by omega)
    have h2 := h' m (by omega)
    have e1 : b m = b' m := by
      have := congrArg (· % D) e
      simp only [Nat.mul_comm _ D, Nat.mul_add_mod, Nat.mod_eq_of_lt h1, Nat.mod_eq_of_lt h2] at this
      exact this
    have e2 : codeB D b m = codeB D b' m := by
      rw [e1] at e
      exact Nat.eq_of_mul_eq_mul_right (by omega) (Nat.add_right_cancel e)
    by_cases hm : i = m
    · subst hm; exact e1
    · exact codeB_inj (fun j hj => h j (by omega)) (fun j hj => h' j (by omega)) e2 i (by omega)
theorem bland {m D : Nat} {ban : Option Nat} {T : Nat → Mx} {b : Nat → Nat → Nat} {r c : Nat → Nat} {N : Nat} (h : Runs m D ban T b r c N) (h0 : Bas m D (T 0) (b 0)) (hf : ∀ i, i < m → 0 ≤ T 0 i D) : N < D ^ m := by
  rcases Nat.lt_or_ge N (D ^ m) with h1 | h1
  · exact h1
  · exfalso
    have hB := h.bas h0
    obtain ⟨x, y, hxy, hy, e⟩ := alike (D ^ m) (fun x => codeB D (b x) m) N (fun x hx => codeB_lt (hB x hx).lt) h1
    have e2 := codeB_inj (hB x (by omega)).lt (hB y hy).lt e
    exact h.once h0 hf (p := x) (d := y - x) (by omega) (by omega) (fun i hi => by rw [show x + (y - x) = y by omega]; exact e2 i hi)
end Sx
end Go.Proofs.YtnaikafamjebdaaGreatDoor
end
