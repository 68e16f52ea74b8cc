/-
  Chapter 5: 'Refute' on both sides.
  Chapter 5: equal lists of numbers, on both sides.
  Chapter 5: the program's 'VerifyMost'.
  Chapter 5: the reference's 'VerifyMost' (printed by wip/vmost.py).
  Chapter 5's laws: 'Few' of the reference.
  Chapter 5's laws: a call of the program and one of the reference return the same number.
-/
import Derived.Test.YtijpgddpejiohaaGreatDoorLP
section
namespace Go.Proofs.YtijpgddpejiohaaGreatDoor
open Go Go.RowKit Go.Deep Go.Sort Go.Shelf
namespace M
def isZ (f : Nat → Rat) (n : Nat) : Bool := (List.range n).all fun k => decide (f k = 0)
theorem isZ_hit {f : Nat → Rat} {n k : Nat} (hk : k < n) (h : f k ≠ 0) : isZ f n = false := by
  unfold isZ
  rw [List.all_eq_false]
  exact ⟨k, List.mem_range.2 hk, by simp [h]⟩
theorem isZ_all {f : Nat → Rat} {n : Nat} (h : ∀ k, k < n → f k = 0) : isZ f n = true := by
  unfold isZ
  rw [List.all_eq_true]
  exact fun k hk => decide_eq_true (h k (List.mem_range.1 hk))
/-- The error of weights that are right in form. -/
def rfV (l : List BQ) (q : List Rat) (n : Nat) : Int := if wok q l.length = true ∧ isZ (wrow l q l.length) n = true ∧ wmost l q l.length < 0 then 0 else 15
theorem R_head (q : Rat) : ∃ c t, R q = c :: t ∧ (c == 45) = decide (q < 0) := by
  obtain ⟨c, t, h1, h2⟩ := I_cons q.num
  have h3 : decide (q.num < 0) = decide (q < 0) := by
    rw [decide_eq_decide, ← Int.not_le, Rat.num_nonneg, Rat.not_le]
  unfold R
  split
  · exact ⟨c, t, h1, by rw [h2, h3]⟩
  · exact ⟨c, t ++ 47 :: I (q.den : Int), by rw [h1]; rfl, by rw [h2, h3]⟩
end M
namespace W
open M
attribute [local go_sem] bs_size bs_toList bs_get bs_extract bs_append bs_lit0 bs_lit1 lit1_bs
set_option maxHeartbeats 2000000
set_option maxRecDepth 20000
theorem pcontains (g n : Nat) (f : Nat → Rat) (w : World) (hn : n ≤ 1000) (h : ∀ k, k < n → w.cell? ⟨g, k, none⟩ = some (.string (bs (R (f k))))) :
    Calls Tryz.prog 30 #[.slice (some ⟨g, 0, none⟩) n n, .func (.func 116) #[] #[]] w (Ret w (.bool (!(isZ f n)))) := by
  have hpred : ∀ s W, Calls Tryz.prog 116 #[.string (bs s)] W (fun e w' => e = .returned (.bool (!(s == [48]))) ∧ W = w') := fun s W => by
    go_enter Tryz.func116, Tryz.ntmps116
    go_wp2
    go_ret
    exact ⟨rfl, rfl⟩
  have hidx : Calls Tryz.prog 89 #[.slice (some ⟨g, 0, none⟩) n n, .func (.func 116) #[] #[]] w fun e w' => (∃ k : Int, e = .returned (.int .i64 k) ∧ decide (0 ≤ k) = !(isZ f n)) ∧ w' = w := by
    have HP := Lib.hid hpred
    have HH := Lib.hid h
    clear hpred h
    go_enter Tryz.func89, Tryz.ntmps89
    go_wp2
    go_loopw [8] (fun iv wr => ∃ i : Nat, iv = .int .i64 (i : Int) ∧ i ≤ n ∧ Hid (∀ j, j < i → f j = 0) ∧ wr = w) (fun iv _ => n - (intOf iv).toNat)
    case atStart => exact ⟨0, rfl, by omega, Lib.hid (fun j hj => by omega), rfl⟩
    case round =>
      obtain ⟨i, rfl, hi, hno, rfl⟩ := hrel
      by_cases hlt : i < n
      · have c1 := HH.out i hlt
        have hi0 : (0 : Int) ≤ (i : Int) := by omega
        have his : (i : Int) < (n : Int) := by omega
        by_cases hz : f i = 0
        · have hz1 : R (f i) = [48] := R_is0.2 hz
          rw [hz1] at c1
          have HN : Hid (∀ j, j < i + 1 → f j = 0) := Lib.hid (fun j hj => by
            by_cases e : j = i
            · subst e; exact hz
            · exact hno.out j (by omega))
          have HC := Lib.hid (HP.out [48] wr)
          clear hno hz hz1 HP
          go_wp2_with fail
          refine (HC.out).mono ?_
          rintro e w' ⟨rfl, rfl⟩
          go_wp2
          go_roundw
          case rel => exact ⟨i + 1, by go_num, hlt, HN, trivial⟩
          case measure => simp [intOf]; omega
        · have hz1 : (R (f i) == [48]) = false := by rw [beq_eq_false_iff_ne]; exact fun e => hz (R_is0.1 e)
          have HE := Lib.hid (isZ_hit hlt hz)
          have HC := Lib.hid (HP.out (R (f i)) wr)
          rw [hz1] at HC
          clear hno hz hz1 HP
          go_wp2_with fail
          refine (HC.out).mono ?_
          rintro e w' ⟨rfl, rfl⟩
          go_wp2
          go_ret
          exact ⟨⟨_, rfl, by rw [HE.out]; simp⟩, rfl⟩
      · obtain rfl : n = i := by omega
        have HE := Lib.hid (isZ_all hno.out)
        clear hno
        go_wp2
        go_ret
        exact ⟨⟨_, rfl, by rw [HE.out]; decide⟩, rfl⟩
  have HI := Lib.hid hidx
  clear hidx hpred h
  generalize isZ f n = z at *
  go_enter Tryz.func30, Tryz.ntmps30
  go_wp2_with fail
  refine HI.out.mono ?_
  rintro e w1 ⟨⟨k, rfl, hk⟩, rfl⟩
  have HK := Lib.hid hk
  clear hk
  go_wp2
  go_ret
  exact Ret.of (by rw [← HK.out]; rfl) (Below.refl _ _)
theorem prefute_bad1 (n : Int) (vl vp : Value) (l : List BT) (w : World) (hg : Glob w) (hl : RdB w vl l) (hw : Wire l) (hc : chk5 n l ≠ 0) :
    Calls Tryz.prog 54 #[.int .i64 n, vl, vp] w (Ret w (.int .i64 ((chk5 n l : Nat) : Int))) := by
  have HC := Lib.hid (pcheck5 n vl l w hg hl hw.1 (fun h b hb => ⟨by have := (hw.2 h b hb).1; omega, (hw.2 h b hb).2.1, (hw.2 h b hb).2.2⟩))
  have hz : (((chk5 n l : Nat) : Int) != 0) = true := by simp; exact hc
  clear hl hw hc
  generalize ((chk5 n l : Nat) : Int) = c at *
  go_enter Tryz.func54, Tryz.ntmps54
  go_wp2_with fail
  refine (HC.out).mono ?_
  rintro e w1 ⟨rfl, hb1⟩
  go_wp2
  go_ret
  exact Ret.of rfl hb1
theorem prefute_bad2 (n : Int) (vl vp : Value) (l : List BT) (p : List (List UInt8)) (w : World) (hg : Glob w) (hl : RdB w vl l) (hw : Wire l) (h0 : chk5 n l = 0) (hp : RdT w vp p) (sp : ∀ q ∈ p, q.length ≤ 90000) (np : p.length ≤ 1000000) (hc : chkPt (l.length : Int) p ≠ 0) :
    Calls Tryz.prog 54 #[.int .i64 n, vl, vp] w (Ret w (.int .i64 ((chkPt (l.length : Int) p : Nat) : Int))) := by
  have hk := pcheck5 n vl l w hg hl hw.1 (fun h b hb => ⟨by have := (hw.2 h b hb).1; omega, (hw.2 h b hb).2.1, (hw.2 h b hb).2.2⟩)
  rw [h0] at hk
  have HC := Lib.hid hk
  have HN := Lib.hid (fun W (hW : Below w.heap.size w W) => pnum1 vp p W (hg.of hW) (hp.below hW) sp np)
  obtain ⟨A, cap, rfl⟩ := hp.len
  obtain ⟨A2, cap2, rfl⟩ := hl.len
  unfold chkPt at *
  clear hl hw h0 hp sp hk
  by_cases hn : (p.length : Int) ≠ (l.length : Int)
  · rw [if_pos hn] at hc ⊢
    have hd : ((p.length : Int) != (l.length : Int)) = true := by simp at hn ⊢; exact hn
    clear HN hn hc
    go_enter Tryz.func54, Tryz.ntmps54
    go_wp2_with fail
    refine (HC.out).mono ?_
    rintro e w1 ⟨rfl, hb1⟩
    go_wp2
    go_ret
    exact Ret.of rfl hb1
  · rw [if_neg hn] at hc ⊢
    have hd : ((p.length : Int) != (l.length : Int)) = false := by simpa using hn
    have hz : (((chkRs p : Nat) : Int) != 0) = true := by simp; exact hc
    clear hn hc
    generalize ((chkRs p : Nat) : Int) = c at *
    go_enter Tryz.func54, Tryz.ntmps54
    go_wp2_with fail
    refine (HC.out).mono ?_
    rintro e w1 ⟨rfl, hb1⟩
    have HB1 := Lib.hid hb1
    go_wp2_with fail
    refine (HN.out _ HB1.out).mono ?_
    rintro e w2 ⟨rfl, hb2⟩
    go_wp2
    go_ret
    exact Ret.of rfl (Below.then HB1.out hb2)
theorem prefute_ok (n : Nat) (vl vp : Value) (l : List BQ) (p : List Rat) (w : World) (hg : Glob w) (hl : RdB w vl (bx l)) (hw : Wire (bx l)) (h0 : chk5 (n : Int) (bx l) = 0) (hp : RdT w vp (rx p)) (hn1 : 1 ≤ n) (hn : n ≤ 8) (hr : RightB n l) (h4 : p.length = l.length) (h5 : ∀ x ∈ p, Bq 30 x) (hll : l.length ≤ 20) :
    Calls Tryz.prog 54 #[.int .i64 (n : Int), vl, vp] w (Ret w (.int .i64 (rfV l p n))) := by
  have hk := pcheck5 n vl (bx l) w hg hl hw.1 (fun h b hb => ⟨by have := (hw.2 h b hb).1; omega, (hw.2 h b hb).2.1, (hw.2 h b hb).2.2⟩)
  rw [h0] at hk
  have HC := Lib.hid hk
  have hm := fun W (hW : Below w.heap.size w W) => pnum1 vp (rx p) W (hg.of hW) (hp.below hW) (rx_small30 h5) (by rw [rx_len]; omega)
  rw [chk_rx30 h5] at hm
  have HN := Lib.hid hm
  have HWE := Lib.hid (fun W (hW : Below w.heap.size w W) => pweighed vl vp l p n W (hg.of hW) (hl.below hW) (hp.below hW) hn1 hn hr h4 h5 hll)
  have hd : ((p.length : Int) != (l.length : Int)) = false := by simp; omega
  have HCT := Lib.hid (fun g W h => pcontains g n (wrow l p l.length) W (by omega) h)
  obtain ⟨A, cap, rfl⟩ := hp.len
  obtain ⟨A2, cap2, rfl⟩ := hl.len
  rw [rx_len p] at HN HWE ⊢
  rw [bx_len l] at HC HWE ⊢
  obtain ⟨rv, hrv⟩ : ∃ rv, rv = rfV l p n := ⟨_, rfl⟩
  rw [← hrv]
  have HRF := Lib.hid (show rv = if wok p l.length = true ∧ isZ (wrow l p l.length) n = true ∧ wmost l p l.length < 0 then 0 else 15 from hrv)
  clear hl hw h0 hp hr h5 hk hm h4 hrv
  go_enter Tryz.func54, Tryz.ntmps54
  go_wp2_with fail
  refine (HC.out).mono ?_
  rintro e w1 ⟨rfl, hb1⟩
  have HB1 := Lib.hid hb1
  go_wp2_with fail
  refine (HN.out _ HB1.out).mono ?_
  rintro e w2 ⟨rfl, hb2⟩
  have HB2 := Lib.hid (Below.then HB1.out hb2)
  clear hb1 hb2
  go_wp2_with fail
  refine (HWE.out _ HB2.out).mono ?_
  rintro e w3 ⟨hb3, hpost⟩
  have HB3 := Lib.hid (bel_to HB2.out hb3)
  have HRE := HRF.out
  cases hwk : wok p l.length with
  | false =>
    rw [hwk, if_neg (by decide)] at hpost
    rw [hwk, if_neg (by simp)] at HRE
    obtain rfl := hpost
    subst HRE
    clear HWE HCT HRF hwk hb3
    go_wp2
    go_ret
    exact Ret.of rfl HB3.out
  | true =>
    rw [hwk, if_pos rfl] at hpost
    obtain ⟨g, rfl, hpre⟩ := hpost
    have HC3 := Lib.hid (HCT.out g w3 (fun k hk => hpre.cell (strs_get hk)))
    rw [hwk] at HRE
    simp only [true_and] at HRE
    obtain ⟨c, t, hh1, hh2⟩ := R_head (wmost l p l.length)
    rw [hh1]
    have HH2 := Lib.hid hh2
    have HR2 := Lib.hid HRE
    clear HWE HCT HRF hwk hb3 HRE hpre hh1 hh2
    cases hz : isZ (wrow l p l.length) n with
    | false =>
      rw [hz] at HC3 HR2
      obtain rfl : rv = 15 := by rw [HR2.out, if_neg (by simp)]
      clear hz
      go_wp2_with fail
      refine (HC3.out).mono ?_
      rintro e w4 ⟨rfl, hb4⟩
      go_wp2
      go_ret
      exact Ret.of rfl (bel_to HB3.out hb4)
    | true =>
      rw [hz] at HC3 HR2
      clear hz
      by_cases hlt : wmost l p l.length < 0
      · obtain rfl : rv = 0 := by rw [HR2.out, if_pos ⟨rfl, hlt⟩]
        have hc45 : c = 45 := by have := HH2.out; rw [decide_eq_true hlt, beq_iff_eq] at this; exact this
        subst hc45
        clear hlt HR2 HH2
        go_wp2_with fail
        refine (HC3.out).mono ?_
        rintro e w4 ⟨rfl, hb4⟩
        go_wp2
        go_ret
        exact Ret.of rfl (bel_to HB3.out hb4)
      · obtain rfl : rv = 15 := by rw [HR2.out, if_neg (fun e => hlt e.2)]
        have hc45 : c ≠ 45 := by have := HH2.out; rw [decide_eq_false hlt, beq_eq_false_iff_ne] at this; exact this
        have hcd : ((c.toNat : Int) != 45) = true := by
          have h1 : c.toNat ≠ 45 := fun e => hc45 (UInt8.toNat_inj.1 (by rw [e]; rfl))
          simp; omega
        clear hlt HR2 HH2 hc45
        go_wp2_with fail
        refine (HC3.out).mono ?_
        rintro e w4 ⟨rfl, hb4⟩
        go_wp2
        go_ret
        exact Ret.of rfl (bel_to HB3.out hb4)
end W
end Go.Proofs.YtijpgddpejiohaaGreatDoor
end
section
namespace Go.Proofs.YtijpgddpejiohaaGreatDoor
open Go Go.RowKit Go.Deep Go.Sort Go.Shelf
open M in
theorem pre_rd {w : World} {g n cap : Nat} {f : Nat → Rat} (h : Pre w g 29 (Strs (mapR f n))) : RdT w (.slice (some ⟨g, 0, none⟩) n cap) (rx ((List.range n).map f)) := by
  refine ⟨some ⟨g, 0, none⟩, cap, by rw [rx_len]; simp, .inr ⟨g, 0, rfl, h.lt, fun i hi => ?_⟩⟩
  rw [rx_len] at hi
  have hi2 : i < n := by simpa using hi
  rw [Nat.zero_add, h.cell (strs_get hi2), rx_get _ i hi]
  simp
namespace M
theorem same_drop {a b : List Rat} {i : Nat} (h1 : i < a.length) (h2 : i < b.length) : (a.drop i = b.drop i) ↔ (a[i] = b[i] ∧ a.drop (i + 1) = b.drop (i + 1)) := by
  rw [List.drop_eq_getElem_cons h1, List.drop_eq_getElem_cons h2, List.cons.injEq]
end M
namespace W
open M
attribute [local go_sem] bs_size bs_toList bs_get bs_extract bs_append bs_lit0 bs_lit1 lit1_bs
set_option maxHeartbeats 2000000
set_option maxRecDepth 20000
theorem pequal (va vb : Value) (a b : List Rat) (w : World) (ha : RdT w va (rx a)) (hb : RdT w vb (rx b)) (hn : a.length ≤ 1000) :
    Calls Tryz.prog 52 #[va, vb] w (Ret w (.bool (decide (a = b)))) := by
  obtain ⟨A1, c1, rfl⟩ := ha.len
  obtain ⟨A2, c2, rfl⟩ := hb.len
  have H1 := Lib.hid ha
  have H2 := Lib.hid hb
  obtain ⟨z, hz⟩ : ∃ z, z = decide (a = b) := ⟨_, rfl⟩
  rw [← hz]
  rw [rx_len] at H1 H2
  rw [rx_len, rx_len]
  by_cases hl : a.length = b.length
  · have HL := Lib.hid hl
    rw [← hl] at H2 ⊢
    have HZ : Hid (z = decide (a.drop 0 = b.drop 0)) := Lib.hid (by rw [hz]; rfl)
    clear ha hb hz hl
    go_enter Tryz.func52, Tryz.ntmps52
    go_wp2
    go_loopw [13] (fun iv wr => ∃ i : Nat, iv = .int .i64 (i : Int) ∧ i ≤ a.length ∧ Hid (z = decide (a.drop i = b.drop i)) ∧ Below w.heap.size w wr) (fun iv _ => a.length - (intOf iv).toNat)
    case atStart => exact ⟨0, rfl, by omega, HZ, Below.refl _ _⟩
    case round =>
      clear HZ
      obtain ⟨i, rfl, hi, hzi, hbw⟩ := hrel
      by_cases hlt : i < a.length
      · obtain ⟨b1, o1, rfl, t1⟩ := RdT.row (n := a.length) (H1.out.below hbw) i (by rw [rx_len]; exact hlt)
        obtain ⟨b2, o2, rfl, t2⟩ := RdT.row (n := a.length) (H2.out.below hbw) i (by rw [rx_len, ← HL.out]; exact hlt)
        have hlb : i < b.length := by rw [← HL.out]; exact hlt
        have d1 := t1.val i (by rw [rx_len]; exact hlt)
        have d2 := t2.val i (by rw [rx_len]; exact hlb)
        rw [rx_get a i hlt] at d1
        rw [rx_get b i hlb] at d2
        have hi0 : (0 : Int) ≤ (i : Int) := by omega
        have his : (i : Int) < (a.length : Int) := by omega
        have hzi2 := hzi.out
        by_cases he : a[i] = b[i]
        · have HN : Hid (z = decide (a.drop (i + 1) = b.drop (i + 1))) := Lib.hid (by rw [hzi2, decide_eq_decide, same_drop hlt hlb]; exact ⟨fun h => h.2, fun h => ⟨he, h⟩⟩)
          rw [← he] at d2
          clear hzi hzi2 he t1 t2
          generalize R a[i] = s at *
          go_wp2_with fail
          refine wp_region_quiet_lit (by kernel_rfl) (by kernel_rfl) ?_
          repeat (go_big_quiet_step (fail))
          refine wpQuiet_nil ?_
          intro _ hw'
          obtain ⟨n1, hw''⟩ := hw'
          subst hw''
          have HB := Lib.hid (Below.drewN hbw n1)
          go_wp2
          go_roundw
          case rel => exact ⟨i + 1, by go_num, hlt, HN, HB.out⟩
          case measure => simp [intOf]; omega
        · have HN : Hid (z = false) := Lib.hid (by rw [hzi2, decide_eq_false]; rw [same_drop hlt hlb]; exact fun h => he h.1)
          have hne : (R a[i] == R b[i]) = false := by rw [beq_eq_false_iff_ne]; exact fun e => he (R_inj e)
          clear hzi hzi2 he t1 t2
          generalize R a[i] = s at *
          generalize R b[i] = s2 at *
          go_wp2_with fail
          refine wp_region_quiet_lit (by kernel_rfl) (by kernel_rfl) ?_
          repeat (go_big_quiet_step (fail))
          refine wpQuiet_nil ?_
          intro _ hw'
          obtain ⟨n1, hw''⟩ := hw'
          subst hw''
          have HB := Lib.hid (Below.drewN hbw n1)
          go_wp2
          go_ret
          exact Ret.of (by rw [HN.out]; rfl) HB.out
      · have e1 : i = a.length := by omega
        have HN : Hid (z = true) := Lib.hid (by rw [hzi.out, e1, List.drop_length, HL.out, List.drop_length]; simp)
        subst e1
        clear hzi
        go_wp2
        go_ret
        exact Ret.of (by rw [HN.out]; rfl) hbw
  · have HZ : Hid (z = false) := Lib.hid (by rw [hz, decide_eq_false]; intro e; exact hl (by rw [e]))
    have hd : ((a.length : Int) != (b.length : Int)) = true := by simp; omega
    clear ha hb hz hl H1 H2
    go_enter Tryz.func52, Tryz.ntmps52
    go_wp2
    go_ret
    exact Ret.of (by rw [HZ.out]; rfl) (Below.refl _ _)
end W
end Go.Proofs.YtijpgddpejiohaaGreatDoor
end
section
namespace Go.Proofs.YtijpgddpejiohaaGreatDoor
open Go Go.RowKit Go.Deep Go.Sort Go.Shelf
namespace M
/-- The number of the error of an optimum's form. -/
noncomputable def chkOp (n : Int) (m : Nat) (G : List (List UInt8)) (V : List UInt8) (P Q : List (List UInt8)) : Nat :=
  if (G.length : Int) ≠ n then 8 else if (P.length : Int) ≠ n then 8 else if (Q.length : Int) ≠ (m : Int) then 8 else chkRs (G ++ [V] ++ P ++ Q)
/-- The error of an optimum that is right in form. -/
def vmV (l : List BQ) (n : Nat) (goal : List Rat) (v : Rat) (pt q : List Rat) : Int :=
  if (l.all fun b => keepsB b pt) = true ∧ wok q l.length = true ∧ dotP goal pt n = v ∧ wmost l q l.length = v ∧ (List.range n).map (wrow l q l.length) = goal then 0 else 15
end M
namespace W
open M
attribute [local go_sem] bs_size bs_toList bs_get bs_extract bs_append bs_lit0 bs_lit1 lit1_bs
set_option maxHeartbeats 4000000
set_option maxRecDepth 20000
theorem chkLs_four (a b c d : List (List UInt8)) : chkLs [a, b, c, d] = chkRs (a ++ b ++ c ++ d) := by
  rw [chkRs_append, chkRs_append, chkRs_append]
  simp only [chkLs]
  by_cases ha : chkRs a = 0
  · simp only [ha, if_true]
    by_cases hb : chkRs b = 0
    · simp only [hb, if_true]
      by_cases hc : chkRs c = 0
      · simp only [hc, if_true]
        by_cases hd : chkRs d = 0
        · simp [hd]
        · simp [hd]
      · simp [hc]
    · simp [hb]
  · simp [ha]
theorem pnum4 (vg vp vq : Value) (G P Q : List (List UInt8)) (V : List UInt8) (w : World) (hg : Glob w) (h1 : RdT w vg G) (h2 : RdT w vp P) (h3 : RdT w vq Q)
    (s1 : ∀ q ∈ G, q.length ≤ 90000) (s2 : ∀ q ∈ P, q.length ≤ 90000) (s3 : ∀ q ∈ Q, q.length ≤ 90000) (s4 : V.length ≤ 90000) (n1 : G.length ≤ 1000000) (n2 : P.length ≤ 1000000) (n3 : Q.length ≤ 1000000) :
    Calls Tryz.prog 62 #[.slice (some ⟨w.heap.size + 1, 0, none⟩) 4 4] ((w.alloc (.cells #[.string (bs V)] 29)).alloc (.cells #[vg, .slice (some ⟨w.heap.size, 0, none⟩) 1 1, vp, vq] 23)) (Ret w (.int .i64 ((chkRs (G ++ [V] ++ P ++ Q) : Nat) : Int))) := by
  have b1 : Below w.heap.size w (w.alloc (.cells #[.string (bs V)] 29)) := (Below.refl _ _).alloc (Nat.le_refl _) _
  have b2 : Below w.heap.size w ((w.alloc (.cells #[.string (bs V)] 29)).alloc (.cells #[vg, .slice (some ⟨w.heap.size, 0, none⟩) 1 1, vp, vq] 23)) := b1.alloc b1.size _
  have b3 := (Below.refl (w.alloc (.cells #[.string (bs V)] 29)).heap.size (w.alloc (.cells #[.string (bs V)] 29))).alloc (Nat.le_refl _) (.cells #[vg, .slice (some ⟨w.heap.size, 0, none⟩) 1 1, vp, vq] 23)
  have hr : Row ((w.alloc (.cells #[.string (bs V)] 29)).alloc (.cells #[vg, .slice (some ⟨w.heap.size, 0, none⟩) 1 1, vp, vq] 23)) (w.heap.size + 1) 23 [vg, .slice (some ⟨w.heap.size, 0, none⟩) 1 1, vp, vq] := rnew0 (World.size_alloc _ _).symm
  have h := pnumbers [(vg, G), (.slice (some ⟨w.heap.size, 0, none⟩) 1 1, [V]), (vp, P), (vq, Q)] (w.heap.size + 1) _ (hg.of b2) hr (fun x hx => by
    simp only [List.mem_cons, List.not_mem_nil, or_false] at hx
    rcases hx with rfl | rfl | rfl | rfl
    · exact ⟨h1.below b2, n1, s1⟩
    · exact ⟨(tnew).below b3, by simp, fun p hp => by rw [List.mem_singleton.1 hp]; exact s4⟩
    · exact ⟨h2.below b2, n2, s2⟩
    · exact ⟨h3.below b2, n3, s3⟩) (by simp)
  refine h.mono fun e w' hr2 => ?_
  obtain ⟨rfl, hb⟩ := hr2
  refine ⟨?_, b2.trans (hb.mono b2.size)⟩
  rw [show ([(vg, G), (Value.slice (some ⟨w.heap.size, 0, none⟩) 1 1, [V]), (vp, P), (vq, Q)].map (·.2)) = [G, [V], P, Q] from rfl, chkLs_four]
theorem pvm_bad1 (n : Int) (vl vg vp vq : Value) (V : List UInt8) (l : List BT) (w : World) (hg : Glob w) (hl : RdB w vl l) (hw : Wire l) (hc : chk5 n l ≠ 0) :
    Calls Tryz.prog 53 #[.int .i64 n, vl, .agg #[vg, .string (bs V), vp, vq]] w (Ret w (.int .i64 ((chk5 n l : Nat) : Int))) := by
  have hb : Below w.heap.size w (w.alloc (.cells #[vg, .string (bs V), vp, vq] 89 (0, 0))) := (Below.refl _ _).alloc (Nat.le_refl _) _
  have HC := Lib.hid (pcheck5 n vl l _ (hg.of hb) (hl.below hb) hw.1 (fun h b hb => ⟨by have := (hw.2 h b hb).1; omega, (hw.2 h b hb).2.1, (hw.2 h b hb).2.2⟩))
  have HB := Lib.hid hb
  have hz : (((chk5 n l : Nat) : Int) != 0) = true := by simp; exact hc
  clear hl hw hc hb
  generalize ((chk5 n l : Nat) : Int) = c at *
  go_enter Tryz.func53, Tryz.ntmps53
  go_wp2_with fail
  refine (HC.out).mono ?_
  rintro e w1 ⟨rfl, hb1⟩
  go_wp2
  go_ret
  exact Ret.of rfl (bel_to HB.out hb1)
theorem pvm_bad2 (n : Int) (vl vg vp vq : Value) (V : List UInt8) (G P Q : List (List UInt8)) (l : List BT) (w : World) (hg : Glob w) (hl : RdB w vl l) (hw : Wire l) (h0 : chk5 n l = 0)
    (h1 : RdT w vg G) (h2 : RdT w vp P) (h3 : RdT w vq Q) (s1 : ∀ q ∈ G, q.length ≤ 90000) (s2 : ∀ q ∈ P, q.length ≤ 90000) (s3 : ∀ q ∈ Q, q.length ≤ 90000) (s4 : V.length ≤ 90000) (n1 : G.length ≤ 1000000) (n2 : P.length ≤ 1000000) (n3 : Q.length ≤ 1000000) (hc : chkOp n l.length G V P Q ≠ 0) :
    Calls Tryz.prog 53 #[.int .i64 n, vl, .agg #[vg, .string (bs V), vp, vq]] w (Ret w (.int .i64 ((chkOp n l.length G V P Q : Nat) : Int))) := by
  have hb : Below w.heap.size w (w.alloc (.cells #[vg, .string (bs V), vp, vq] 89 (0, 0))) := (Below.refl _ _).alloc (Nat.le_refl _) _
  have hr : Row (w.alloc (.cells #[vg, .string (bs V), vp, vq] 89 (0, 0))) w.heap.size 89 [vg, .string (bs V), vp, vq] := rnw
  have hk := pcheck5 n vl l _ (hg.of hb) (hl.below hb) hw.1 (fun h b hb => ⟨by have := (hw.2 h b hb).1; omega, (hw.2 h b hb).2.1, (hw.2 h b hb).2.2⟩)
  rw [h0] at hk
  have HC := Lib.hid hk
  have HN := Lib.hid (fun W (hW : Below w.heap.size w W) => pnum4 vg vp vq G P Q V W (hg.of hW) (h1.below hW) (h2.below hW) (h3.below hW) s1 s2 s3 s4 n1 n2 n3)
  have HB := Lib.hid hb
  obtain ⟨A, cap, rfl⟩ := hl.len
  obtain ⟨A1, c1, rfl⟩ := h1.len
  obtain ⟨A2, c2, rfl⟩ := h2.len
  obtain ⟨A3, c3, rfl⟩ := h3.len
  have HRW := Lib.hid hr
  unfold chkOp at *
  clear hl hw h0 h1 h2 h3 s1 s2 s3 hk hb hr
  by_cases ha : (G.length : Int) ≠ n
  · rw [if_pos ha] at hc ⊢
    have hd : ((G.length : Int) != n) = true := by simp; exact ha
    clear HN ha hc
    go_enter Tryz.func53, Tryz.ntmps53
    go_wp2_with fail
    refine (HC.out).mono ?_
    rintro e w1 ⟨rfl, hb1⟩
    have hr1 := HRW.out.below' hb1
    have q0 := hr1.cell (i := 0) rfl
    have q2 := hr1.cell (i := 2) rfl
    have q3 := hr1.cell (i := 3) rfl
    clear hr1
    go_wp2
    go_ret
    exact Ret.of rfl (bel_to HB.out hb1)
  · rw [if_neg ha] at hc ⊢
    have hd : ((G.length : Int) != n) = false := by simpa using ha
    by_cases hp : (P.length : Int) ≠ n
    · rw [if_pos hp] at hc ⊢
      have he : ((P.length : Int) != n) = true := by simp; exact hp
      clear HN ha hc hp
      go_enter Tryz.func53, Tryz.ntmps53
      go_wp2_with fail
      refine (HC.out).mono ?_
      rintro e w1 ⟨rfl, hb1⟩
      have hr1 := HRW.out.below' hb1
      have q0 := hr1.cell (i := 0) rfl
      have q2 := hr1.cell (i := 2) rfl
      have q3 := hr1.cell (i := 3) rfl
      clear hr1
      go_wp2
      go_ret
      exact Ret.of rfl (bel_to HB.out hb1)
    · rw [if_neg hp] at hc ⊢
      have he : ((P.length : Int) != n) = false := by simpa using hp
      by_cases hq : (Q.length : Int) ≠ (l.length : Int)
      · rw [if_pos hq] at hc ⊢
        have hf : ((Q.length : Int) != (l.length : Int)) = true := by simp at hq ⊢; exact hq
        clear HN ha hc hp hq
        go_enter Tryz.func53, Tryz.ntmps53
        go_wp2_with fail
        refine (HC.out).mono ?_
        rintro e w1 ⟨rfl, hb1⟩
        have hr1 := HRW.out.below' hb1
        have q0 := hr1.cell (i := 0) rfl
        have q2 := hr1.cell (i := 2) rfl
        have q3 := hr1.cell (i := 3) rfl
        clear hr1
        go_wp2
        go_ret
        exact Ret.of rfl (bel_to HB.out hb1)
      · rw [if_neg hq] at hc ⊢
        have hf : ((Q.length : Int) != (l.length : Int)) = false := by simpa using hq
        have hz : (((chkRs (G ++ [V] ++ P ++ Q) : Nat) : Int) != 0) = true := by simp only [bne_iff_ne, ne_eq]; omega
        clear ha hc hp hq
        generalize ((chkRs (G ++ [V] ++ P ++ Q) : Nat) : Int) = c at *
        go_enter Tryz.func53, Tryz.ntmps53
        go_wp2_with fail
        refine (HC.out).mono ?_
        rintro e w1 ⟨rfl, hb1⟩
        have HB1 := Lib.hid (bel_to HB.out hb1)
        have hr1 := HRW.out.below' hb1
        have q0 := hr1.cell (i := 0) rfl
        have q1 := hr1.cell (i := 1) rfl
        have q2 := hr1.cell (i := 2) rfl
        have q3 := hr1.cell (i := 3) rfl
        have hlt := hr1.lt
        clear hr1 hb1
        go_wp2_with fail
        refine (HN.out _ HB1.out).mono ?_
        rintro e w2 ⟨rfl, hb2⟩
        go_wp2
        go_ret
        exact Ret.of rfl (bel_to HB1.out hb2)
theorem R_beq (a b : Rat) : (R a == R b) = decide (a = b) := by
  by_cases h : a = b
  · rw [h, beq_self_eq_true, decide_eq_true rfl]
  · rw [decide_eq_false h, beq_eq_false_iff_ne]; exact fun e => h (R_inj e)
theorem pvm_ok (n : Nat) (vl vg vp vq : Value) (l : List BQ) (goal pt q : List Rat) (v : Rat) (w : World) (hg : Glob w) (hl : RdB w vl (bx l)) (hw : Wire (bx l)) (h0 : chk5 (n : Int) (bx l) = 0) (h1 : RdT w vg (rx goal)) (h2 : RdT w vp (rx pt)) (h3 : RdT w vq (rx q))
    (hn1 : 1 ≤ n) (hn : n ≤ 8) (hr : RightB n l) (l1 : goal.length = n) (l2 : pt.length = n) (l3 : q.length = l.length) (b1 : ∀ x ∈ goal, Bq 8 x) (b2 : ∀ x ∈ pt, Bq 8 x) (b3 : ∀ x ∈ q, Bq 8 x) (bv : Bq 24 v) (hll : l.length ≤ 20) :
    Calls Tryz.prog 53 #[.int .i64 (n : Int), vl, .agg #[vg, .string (bs (R v)), vp, vq]] w (Ret w (.int .i64 (vmV l n goal v pt q))) := by
  have hb : Below w.heap.size w (w.alloc (.cells #[vg, .string (bs (R v)), vp, vq] 89 (0, 0))) := (Below.refl _ _).alloc (Nat.le_refl _) _
  have hrw : Row (w.alloc (.cells #[vg, .string (bs (R v)), vp, vq] 89 (0, 0))) w.heap.size 89 [vg, .string (bs (R v)), vp, vq] := rnw
  have hk := pcheck5 n vl (bx l) _ (hg.of hb) (hl.below hb) hw.1 (fun h b hb => ⟨by have := (hw.2 h b hb).1; omega, (hw.2 h b hb).2.1, (hw.2 h b hb).2.2⟩)
  rw [h0] at hk
  have HC := Lib.hid hk
  have hvl : (R v).length ≤ 90000 := by have := bv.R_len (by decide); omega
  have hnum := fun W (hW : Below w.heap.size w W) => pnum4 vg vp vq (rx goal) (rx pt) (rx q) (R v) W (hg.of hW) (h1.below hW) (h2.below hW) (h3.below hW) (rx_small b1) (rx_small b2) (rx_small b3) hvl (by rw [rx_len]; omega) (by rw [rx_len]; omega) (by rw [rx_len]; omega)
  have hz0 : chkRs (rx goal ++ [R v] ++ rx pt ++ rx q) = 0 := by
    rw [chkRs_append, chkRs_append, chkRs_append, chk_rx b1, if_pos rfl, chkRs, bv.chk (by decide), if_pos rfl, chkRs, if_pos rfl, chk_rx b2, if_pos rfl, chk_rx b3]
  rw [hz0] at hnum
  have HN := Lib.hid hnum
  have HKP := Lib.hid (fun W (hW : Below w.heap.size w W) => pkeeps vl vp l pt n W (hg.of hW) (hl.below hW) (h2.below hW) hn hr l2 (fun x hx => (b2 x hx).mono (by decide)) (by omega))
  have HDT := Lib.hid (fun S W (hW : Below w.heap.size w W) (hs : NoErP W S) => pdot S vg vp goal pt 8 8 W (hg.of hW) hs (h1.below hW) (h2.below hW) (by omega) (by omega) b1 b2 (by decide))
  have HWE := Lib.hid (fun W (hW : Below w.heap.size w W) => pweighed vl vq l q n W (hg.of hW) (hl.below hW) (h3.below hW) hn1 hn hr l3 (fun x hx => (b3 x hx).mono (by decide)) hll)
  have HEQ := Lib.hid (fun g W (hW : Below w.heap.size w W) (hp : Pre W g 29 (Strs (mapR (wrow l q l.length) n))) => pequal (.slice (some ⟨g, 0, none⟩) n n) vg ((List.range n).map (wrow l q l.length)) goal W (pre_rd hp) (h1.below hW) (by simp; omega))
  rw [l1] at HDT
  have HB := Lib.hid hb
  have HRW := Lib.hid hrw
  have hrv2 := R_beq (dotP goal pt n) v
  have hrv3 := R_beq (wmost l q l.length) v
  obtain ⟨A, cap, rfl⟩ := hl.len
  obtain ⟨A1, c1, rfl⟩ := h1.len
  obtain ⟨A2, c2, rfl⟩ := h2.len
  obtain ⟨A3, c3, rfl⟩ := h3.len
  rw [rx_len, rx_len, rx_len, bx_len] at *
  rw [l1, l2, l3] at *
  obtain ⟨rv, hrv⟩ : ∃ rv, rv = vmV l n goal v pt q := ⟨_, rfl⟩
  rw [← hrv]
  have HRV := Lib.hid (show rv = if (l.all fun b => keepsB b pt) = true ∧ wok q l.length = true ∧ dotP goal pt n = v ∧ wmost l q l.length = v ∧ (List.range n).map (wrow l q l.length) = goal then 0 else 15 from hrv)
  have HR2 := Lib.hid hrv2
  have HR3 := Lib.hid hrv3
  clear hl hw h0 h1 h2 h3 hr b1 b2 b3 bv hk hb hrw hvl hnum hz0 hrv hrv2 hrv3 l1 l2 l3
  go_enter Tryz.func53, Tryz.ntmps53
  go_wp2_with fail
  refine (HC.out).mono ?_
  rintro e w1 ⟨rfl, hb1⟩
  have HB1 := Lib.hid (bel_to HB.out hb1)
  have hr1 := HRW.out.below' hb1
  have HR1 := Lib.hid hr1
  have q0 := hr1.cell (i := 0) rfl
  have q1 := hr1.cell (i := 1) rfl
  have q2 := hr1.cell (i := 2) rfl
  have q3 := hr1.cell (i := 3) rfl
  have hlt := hr1.lt
  clear hr1 hb1
  go_wp2_with fail
  refine (HN.out _ HB1.out).mono ?_
  rintro e w2 ⟨rfl, hb2⟩
  have HB2 := Lib.hid (bel_to HB1.out hb2)
  have hr2 := HR1.out.below' hb2
  have HRW2 := Lib.hid hr2
  clear q0 q1 q2 q3 hlt hb2 HR1 HB1 HN HC
  have q2 := hr2.cell (i := 2) rfl
  clear hr2
  go_wp2_with fail
  refine (HKP.out _ HB2.out).mono ?_
  rintro e w3 ⟨rfl, hb3⟩
  have HB3 := Lib.hid (bel_to HB2.out hb3)
  have hr3 := HRW2.out.below' hb3
  have HRW3 := Lib.hid hr3
  clear hb3 HKP q2
  cases hke : (l.all fun b => keepsB b pt) with
  | false =>
    rw [hke] at HRV
    obtain rfl : rv = 15 := by rw [HRV.out, if_neg (by simp)]
    rw [if_neg (by decide)]
    clear hke HRV hr3
    go_wp2
    go_ret
    exact Ret.of rfl HB3.out
  | true =>
    rw [hke] at HRV
    rw [if_pos rfl]
    have hb4 : Below w3.heap.size w3 (w3.alloc (.cells #[.int .i64 0] 110 (0, 0))) := (Below.refl _ _).alloc (Nat.le_refl _) _
    have hs4 : NoErP (w3.alloc (.cells #[.int .i64 0] 110 (0, 0))) w3.heap.size := rnw
    have hr4 := hr3.below' hb4
    have q0 := hr3.cell (i := 0) rfl
    have q2 := hr3.cell (i := 2) rfl
    have hlt := hr3.lt
    have HD := Lib.hid (HDT.out w3.heap.size _ (bel_to HB3.out hb4) hs4)
    have HS4 := Lib.hid (And.intro hs4 (And.intro hr4 (bel_to HB3.out hb4)))
    clear hke hb4 hs4 hr4 hr3 HDT
    obtain ⟨S, hS⟩ : ∃ S, S = w3.heap.size := ⟨_, rfl⟩
    go_wp2_with fail
    refine HD.out.mono ?_
    rintro e w5 ⟨rfl, hb5⟩
    rw [← hS] at HS4 ⊢
    have HS5 := Lib.hid (And.intro (HS4.out.1.below' hb5) (And.intro (HS4.out.2.1.below' hb5) (bel_to HS4.out.2.2 hb5)))
    clear hb5 HS4 HD q0 q2 hlt hS
    have q3 := HS5.out.2.1.cell (i := 3) rfl
    have HW5 := Lib.hid (HWE.out w5 HS5.out.2.2)
    clear HWE
    go_wp2_with fail
    refine HW5.out.mono ?_
    rintro e w6 ⟨hb6, hpost⟩
    have HS6 := Lib.hid (And.intro (HS5.out.1.below' hb6) (And.intro (HS5.out.2.1.below' hb6) (bel_to HS5.out.2.2 hb6)))
    have e0 := HS6.out.1.cell
    have q0 := HS6.out.2.1.cell (i := 0) rfl
    have q1 := HS6.out.2.1.cell (i := 1) rfl
    clear hb6 HS5 q3 HW5
    cases hwk : wok q l.length with
    | false =>
      rw [hwk] at hpost HRV
      rw [if_neg (by decide)] at hpost
      obtain rfl := hpost
      obtain rfl : rv = 15 := by rw [HRV.out, if_neg (by simp)]
      clear HEQ HRV hwk
      go_wp2
      go_ret
      exact Ret.of rfl HS6.out.2.2
    | true =>
      rw [hwk] at hpost HRV
      rw [if_pos rfl] at hpost
      obtain ⟨g, rfl, hpre⟩ := hpost
      have HE := Lib.hid (HEQ.out g w6 HS6.out.2.2 hpre)
      clear HEQ hwk hpre
      have hA := HR2.out
      have hB := HR3.out
      clear HR2 HR3
      by_cases h1 : dotP goal pt n = v
      · rw [decide_eq_true h1] at hA
        by_cases h2 : wmost l q l.length = v
        · rw [decide_eq_true h2] at hB
          by_cases h3 : (List.range n).map (wrow l q l.length) = goal
          · rw [decide_eq_true h3] at HE
            obtain rfl : rv = 0 := by rw [HRV.out, if_pos (by simp [h1, h2, h3])]
            clear h1 h2 h3 HRV
            generalize R (dotP goal pt n) = sa at *
            generalize R (wmost l q l.length) = sb at *
            generalize R v = sv at *
            go_wp2_with fail
            refine (HE.out).mono ?_
            rintro e w7 ⟨rfl, hb7⟩
            go_wp2
            go_ret
            exact Ret.of rfl (bel_to HS6.out.2.2 hb7)
          · rw [decide_eq_false h3] at HE
            obtain rfl : rv = 15 := by rw [HRV.out, if_neg (fun e => h3 e.2.2.2.2)]
            clear h1 h2 h3 HRV
            generalize R (dotP goal pt n) = sa at *
            generalize R (wmost l q l.length) = sb at *
            generalize R v = sv at *
            go_wp2_with fail
            refine (HE.out).mono ?_
            rintro e w7 ⟨rfl, hb7⟩
            go_wp2
            go_ret
            exact Ret.of rfl (bel_to HS6.out.2.2 hb7)
        · rw [decide_eq_false h2] at hB
          obtain rfl : rv = 15 := by rw [HRV.out, if_neg (fun e => h2 e.2.2.2.1)]
          clear h1 h2 HRV HE
          generalize R (dotP goal pt n) = sa at *
          generalize R (wmost l q l.length) = sb at *
          generalize R v = sv at *
          go_wp2
          go_ret
          exact Ret.of rfl HS6.out.2.2
      · rw [decide_eq_false h1] at hA
        obtain rfl : rv = 15 := by rw [HRV.out, if_neg (fun e => h1 e.2.2.1)]
        clear h1 HRV HE hB
        generalize R (dotP goal pt n) = sa at *
        generalize R (wmost l q l.length) = sb at *
        generalize R v = sv at *
        go_wp2
        go_ret
        exact Ret.of rfl HS6.out.2.2
end W
end Go.Proofs.YtijpgddpejiohaaGreatDoor
end
section
namespace Go.Proofs.YtijpgddpejiohaaGreatDoor
open Go Go.RowKit Go.Deep Go.Sort Go.Shelf
namespace W
open M
attribute [local go_sem] bs_size bs_toList bs_get bs_extract bs_append bs_lit0 bs_lit1 lit1_bs
set_option maxHeartbeats 4000000
set_option maxRecDepth 20000
end W
end Go.Proofs.YtijpgddpejiohaaGreatDoor
end
section
namespace Go.Proofs.YtijpgddpejiohaaGreatDoor
open Go Go.RowKit Go.Deep Go.Sort
namespace W
open M
def fewOne (b : BT) : Bool := decide (b.1.length ≤ 20) && short5 b.1 && short5 [b.2]
def fewN (n : Int) (m : Nat) : Bool := decide (n < 1 ∨ 8 < n ∨ n = 2 ∨ (m ≤ 7 ∧ n ≤ 3) ∨ m ≤ 1)
def few5 (n : Int) (l : List BT) : Bool := if 9 < l.length then decide (64 < l.length ∧ l.length ≤ 100) else (l.all fewOne && fewN n l.length)
attribute [local go_sem] bs_size bs_toList bs_get bs_extract bs_append bs_lit0 bs_lit1 lit1_bs
set_option maxHeartbeats 1000000
set_option maxRecDepth 20000
theorem rfew (n : Int) (vl : Value) (l : List BT) (w : World) (hl : RdB w vl l) (_ : l.length ≤ maxLen) (hs : ∀ b ∈ l, b.1.length ≤ maxLen ∧ (∀ p ∈ b.1, p.length ≤ maxLen) ∧ b.2.length ≤ maxLen) :
    Calls Tryz.prog 17 #[.int .i64 n, vl] w (Ret w (.bool (few5 n l))) := by
  obtain ⟨A, cap, rfl⟩ := hl.len
  unfold few5
  by_cases h9 : 9 < l.length
  · rw [if_pos h9]
    have hd : decide (9 < (l.length : Int)) = true := by simp; omega
    clear hl hs
    by_cases h64 : 64 < l.length
    · have he : decide (64 < (l.length : Int)) = true := by simp; omega
      by_cases h100 : l.length ≤ 100
      · have hf : decide ((l.length : Int) ≤ 100) = true := by simp; omega
        rw [decide_eq_true ⟨h64, h100⟩]
        go_enter Tryz.func17, Tryz.ntmps17
        go_wp2
        go_ret
        exact Ret.of rfl (Below.refl _ _)
      · have hf : decide ((l.length : Int) ≤ 100) = false := by simp; omega
        rw [decide_eq_false (fun h => h100 h.2)]
        go_enter Tryz.func17, Tryz.ntmps17
        go_wp2
        go_ret
        exact Ret.of rfl (Below.refl _ _)
    · have he : decide (64 < (l.length : Int)) = false := by simp; omega
      rw [decide_eq_false (fun h => h64 h.1)]
      go_enter Tryz.func17, Tryz.ntmps17
      go_wp2
      go_ret
      exact Ret.of rfl (Below.refl _ _)
  · rw [if_neg h9]
    have hd : decide (9 < (l.length : Int)) = false := by simp; omega
    have HW := Lib.hid hl
    have HM := Lib.hid (fun i (hi : i < l.length) => hs _ (List.getElem_mem hi))
    generalize hch : l.all fewOne = ch
    have HCH := Lib.hid hch
    clear hl hs hch
    go_enter Tryz.func17, Tryz.ntmps17
    go_wp2
    go_loopw [5] (fun iv wr => ∃ i : Nat, iv = .int .i64 (i : Int) ∧ i ≤ l.length ∧ Hid (l.all fewOne = (l.drop i).all fewOne) ∧ Below w.heap.size w wr) (fun iv _ => l.length - (intOf iv).toNat)
    case atStart => exact ⟨0, rfl, by omega, (rfl : l.all fewOne = (l.drop 0).all fewOne), Below.refl _ _⟩
    case round =>
      obtain ⟨i, rfl, hi, hk, hbw⟩ := hrel
      by_cases hlt : i < l.length
      · obtain ⟨b1, o1, rfl, hw⟩ := HW.out.row i hlt
        have hw2 := hw.below' hbw
        obtain ⟨u, cu, hu, _⟩ := hw2.row i hlt
        have cm := hw2.most i hlt
        have hk2 := hk.out
        rw [List.drop_eq_getElem_cons hlt, List.all_cons] at hk2
        have hlm := HM.out i hlt
        have hc1 := block_lt_of_cell cm
        clear hk hw hw2
        generalize l[i] = x at *
        obtain ⟨r, p⟩ := x
        simp only at hu cm hlm
        have HS1 := Lib.hid (fun W (hW : Below wr.heap.size wr W) => rshort5 u r W (hu.below hW) hlm.2.1 hlm.1)
        have HS2 := Lib.hid (fun W => rshort5 _ [p] _ (tnew (w := W) (p := p)) (fun q hq => by rw [List.mem_singleton.1 hq]; exact hlm.2.2) (by show (1 : Nat) ≤ maxLen; unfold maxLen; decide))
        obtain ⟨Au, cu2, rfl⟩ := hu.len
        have hf1 : fewOne (r, p) = (decide (r.length ≤ 20) && short5 r && short5 [p]) := rfl
        rw [hf1] at hk2
        clear hu hlm hf1
        by_cases h20 : r.length ≤ 20
        · rw [decide_eq_true h20, Bool.true_and] at hk2
          have he : decide (20 < (r.length : Int)) = false := by simp; omega
          cases hs1 : short5 r with
          | false =>
            rw [hs1] at hk2 HS1
            have HK := Lib.hid hk2
            clear hk2 hs1
            go_wp2_with fail
            refine (HS1.out _ (Below.refl _ _)).mono ?_
            rintro e w1 ⟨rfl, hb1⟩
            have hb1' := bel_to hbw hb1
            go_wp2
            go_ret
            exact Ret.of (by rw [← HCH.out, HK.out]; rfl) hb1'
          | true =>
            rw [hs1, Bool.true_and] at hk2
            rw [hs1] at HS1
            cases hs2 : short5 [p] with
            | false =>
              rw [hs2] at hk2 HS2
              have HK := Lib.hid hk2
              clear hk2 hs1 hs2
              go_wp2_with fail
              refine (HS1.out _ (Below.refl _ _)).mono ?_
              rintro e w1 ⟨rfl, hb1⟩
              have hb1' := bel_to hbw hb1
              have cm := (hb1.cell hc1).trans cm
              go_wp2_with fail
              refine (HS2.out _).mono ?_
              rintro e w2 ⟨rfl, hb2⟩
              have hb2' := Below.then hb1' (((Below.refl w1.heap.size w1).alloc (Nat.le_refl _) _).trans (hb2.mono (by rw [World.size_alloc]; omega)))
              go_wp2
              go_ret
              exact Ret.of (by rw [← HCH.out, HK.out]; rfl) hb2'
            | true =>
              rw [hs2, Bool.true_and] at hk2
              rw [hs2] at HS2
              have HK := Lib.hid hk2
              clear hk2 hs1 hs2
              go_wp2_with fail
              refine (HS1.out _ (Below.refl _ _)).mono ?_
              rintro e w1 ⟨rfl, hb1⟩
              have hb1' := bel_to hbw hb1
              have cm := (hb1.cell hc1).trans cm
              go_wp2_with fail
              refine (HS2.out _).mono ?_
              rintro e w2 ⟨rfl, hb2⟩
              have hb2' := Below.then hb1' (((Below.refl w1.heap.size w1).alloc (Nat.le_refl _) _).trans (hb2.mono (by rw [World.size_alloc]; omega)))
              go_wp2
              go_roundw
              case rel => exact ⟨i + 1, by go_num, by omega, HK, hb2'⟩
              case measure => simp [intOf]; omega
        · rw [decide_eq_false h20, Bool.false_and, Bool.false_and] at hk2
          have he : decide (20 < (r.length : Int)) = true := by simp; omega
          have HK := Lib.hid hk2
          clear hk2
          go_wp2
          go_ret
          exact Ret.of (by rw [← HCH.out, HK.out]; rfl) hbw
      · obtain rfl : i = l.length := by omega
        have hk2 := hk.out
        rw [List.drop_length] at hk2
        have HK := Lib.hid (show ch = true by rw [← HCH.out, hk2]; rfl)
        clear hk2 hk HW HM HCH
        have hfn : fewN n l.length = decide (n < 1 ∨ 8 < n ∨ n = 2 ∨ (l.length ≤ 7 ∧ n ≤ 3) ∨ l.length ≤ 1) := rfl
        have HF := Lib.hid hfn
        clear hfn
        generalize fewN n l.length = fn at *
        generalize l.length = m at *
        by_cases h1 : n < 1
        · have e1 : fn = true := by rw [HF.out]; exact decide_eq_true (by omega)
          subst e1
          go_wp2
          go_ret
          exact Ret.of (by first | rfl | (rw [HK.out]; rfl)) hbw
        · by_cases h8 : 8 < n
          · have e1 : fn = true := by rw [HF.out]; exact decide_eq_true (by omega)
            subst e1
            go_wp2
            go_ret
            exact Ret.of (by first | rfl | (rw [HK.out]; rfl)) hbw
          · by_cases h2 : n = 2
            · have e1 : fn = true := by rw [HF.out]; exact decide_eq_true (by omega)
              subst e1
              subst h2
              go_wp2
              go_ret
              exact Ret.of (by first | rfl | (rw [HK.out]; rfl)) hbw
            · have hn2 : (n == 2) = false := by simpa using h2
              by_cases h7 : m ≤ 7
              · have d7 : decide ((m : Int) ≤ 7) = true := by simp; omega
                by_cases h3 : n ≤ 3
                · have e1 : fn = true := by rw [HF.out]; exact decide_eq_true (by omega)
                  subst e1
                  go_wp2
                  go_ret
                  exact Ret.of (by first | rfl | (rw [HK.out]; rfl)) hbw
                · by_cases h11 : m ≤ 1
                  · have e1 : fn = true := by rw [HF.out]; exact decide_eq_true (by omega)
                    have d1 : decide ((m : Int) ≤ 1) = true := by simp; omega
                    subst e1
                    go_wp2
                    go_ret
                    exact Ret.of (by first | rfl | (rw [HK.out]; rfl)) hbw
                  · have e1 : fn = false := by rw [HF.out]; exact decide_eq_false (by omega)
                    have d1 : decide ((m : Int) ≤ 1) = false := by simp; omega
                    subst e1
                    go_wp2
                    go_ret
                    exact Ret.of (by first | rfl | (rw [HK.out]; rfl)) hbw
              · have d7 : decide ((m : Int) ≤ 7) = false := by simp; omega
                have e1 : fn = false := by rw [HF.out]; exact decide_eq_false (by omega)
                have d1 : decide ((m : Int) ≤ 1) = false := by simp; omega
                subst e1
                go_wp2
                go_ret
                exact Ret.of (by first | rfl | (rw [HK.out]; rfl)) hbw
end W
end Go.Proofs.YtijpgddpejiohaaGreatDoor
end
section
namespace Go.Proofs.YtijpgddpejiohaaGreatDoor
open Go Go.RowKit Go.Deep Go.Sort
namespace W
open M
theorem short5_len {l : List (List UInt8)} (h : short5 l = true) : (∀ p ∈ l, p.length ≤ 8) ∧ l.length ≤ 30 := by
  unfold short5 at h
  rw [Bool.and_eq_true, List.all_eq_true, decide_eq_true_eq] at h
  exact ⟨fun p hp => of_decide_eq_true (h.1 p hp), h.2⟩
theorem fewOne_len {b : BT} (h : fewOne b = true) : b.1.length ≤ 20 ∧ (∀ p ∈ b.1, p.length ≤ 8) ∧ b.2.length ≤ 8 := by
  unfold fewOne at h
  rw [Bool.and_eq_true, Bool.and_eq_true, decide_eq_true_eq] at h
  exact ⟨h.1.1, (short5_len h.1.2).1, (short5_len h.2).1 _ List.mem_cons_self⟩
theorem few_wire {n : Int} {l : List BT} (h : few5 n l = true) : Wire l := by
  unfold few5 at h
  unfold Wire
  by_cases h9 : 9 < l.length
  · rw [if_pos h9, decide_eq_true_eq] at h
    exact ⟨by unfold maxLen; omega, fun h2 => by omega⟩
  · rw [if_neg h9, Bool.and_eq_true, List.all_eq_true] at h
    refine ⟨by unfold maxLen; omega, fun _ b hb => ?_⟩
    have h1 := fewOne_len (h.1 b hb)
    exact ⟨by omega, fun q hq => by have := h1.2.1 q hq; omega, by omega⟩
theorem few_right {n : Int} {l : List BT} (h : few5 n l = true) (h0 : chk5 n l = 0) : ∃ (k : Nat) (zl : List BQ), n = (k : Int) ∧ 1 ≤ k ∧ k ≤ 8 ∧ l = bx zl ∧ RightB k zl ∧ zl.length ≤ 9 := by
  unfold chk5 at h0
  by_cases h1 : n < 1 ∨ 8 < n
  · rw [if_pos h1] at h0; cases h0
  · rw [if_neg h1] at h0
    by_cases h2 : 64 < l.length
    · rw [if_pos h2] at h0; cases h0
    · rw [if_neg h2] at h0
      unfold few5 at h
      by_cases h9 : 9 < l.length
      · rw [if_pos h9, decide_eq_true_eq] at h; omega
      · rw [if_neg h9, Bool.and_eq_true, List.all_eq_true] at h
        obtain ⟨k, rfl⟩ : ∃ k : Nat, n = (k : Int) := ⟨n.toNat, by omega⟩
        obtain ⟨zl, e, hz⟩ := bounds8 (fun b hb => (fewOne_len (h.1 b hb)).2) h0
        exact ⟨k, zl, rfl, by omega, by omega, e, hz, by rw [← bx_len zl, ← e]; omega⟩
theorem pt_right {m : Nat} {p : List (List UInt8)} (hs : short5 p = true) (h0 : chkPt (m : Int) p = 0) : ∃ zp : List Rat, p = rx zp ∧ zp.length = m ∧ (∀ x ∈ zp, Bq 8 x) ∧ chkRs p = 0 := by
  unfold chkPt at h0
  by_cases h1 : (p.length : Int) ≠ (m : Int)
  · rw [if_pos h1] at h0; cases h0
  · rw [if_neg h1] at h0
    obtain ⟨zp, e, hz⟩ := texts8 (short5_len hs).1 h0
    exact ⟨zp, e, by rw [← rx_len zp, ← e]; omega, hz, h0⟩
theorem text24 {p : List UInt8} (h8 : p.length ≤ 24) (h0 : chkR p = 0) : ∃ q, p = R q ∧ Bq 24 q := by
  have h1 := cutN_len p
  have h2 := cutD_len p
  have hs : shortB p = true := by
    unfold shortB
    rw [Bool.and_eq_true, decide_eq_true_iff, decide_eq_true_iff]
    exact ⟨by omega, by omega⟩
  obtain ⟨q, rfl, _⟩ := short_R hs h0
  clear h1 h2 hs h0
  unfold R at h8
  split at h8
  · rename_i e
    exact ⟨q, rfl, I_short h8 (by decide), by rw [e]; decide⟩
  · rw [List.length_append, List.length_cons] at h8
    refine ⟨q, rfl, I_short (by omega) (by decide), ?_⟩
    have := I_short (z := (q.den : Int)) (k := 24) (by omega) (by decide)
    rwa [Int.natAbs_natCast] at this
theorem op_right {n m : Nat} {G : List (List UInt8)} {V : List UInt8} {P Q : List (List UInt8)} (s1 : short5 G = true) (s2 : short5 P = true) (s3 : short5 Q = true) (s4 : V.length ≤ 24) (h0 : chkOp (n : Int) m G V P Q = 0) :
    ∃ (goal pt q : List Rat) (v : Rat), G = rx goal ∧ V = R v ∧ P = rx pt ∧ Q = rx q ∧ goal.length = n ∧ pt.length = n ∧ q.length = m ∧ (∀ x ∈ goal, Bq 8 x) ∧ (∀ x ∈ pt, Bq 8 x) ∧ (∀ x ∈ q, Bq 8 x) ∧ Bq 24 v := by
  unfold chkOp at h0
  by_cases h1 : (G.length : Int) ≠ (n : Int)
  · rw [if_pos h1] at h0; cases h0
  · rw [if_neg h1] at h0
    by_cases h2 : (P.length : Int) ≠ (n : Int)
    · rw [if_pos h2] at h0; cases h0
    · rw [if_neg h2] at h0
      by_cases h3 : (Q.length : Int) ≠ (m : Int)
      · rw [if_pos h3] at h0; cases h0
      · rw [if_neg h3, chkRs_append, chkRs_append, chkRs_append] at h0
        have c1 : chkRs G = 0 := by
          by_cases h : chkRs G = 0
          · exact h
          · simp only [h, if_false] at h0
        simp only [c1, if_true] at h0
        have c2 : chkR V = 0 := by
          by_cases h : chkR V = 0
          · exact h
          · simp only [chkRs, h, if_false] at h0
        simp only [chkRs, c2, if_true] at h0
        have c3 : chkRs P = 0 := by
          by_cases h : chkRs P = 0
          · exact h
          · simp only [h, if_false] at h0
        simp only [c3, if_true] at h0
        obtain ⟨g, e1, b1⟩ := texts8 (short5_len s1).1 c1
        obtain ⟨v, e2, b2⟩ := text24 s4 c2
        obtain ⟨p, e3, b3⟩ := texts8 (short5_len s2).1 c3
        obtain ⟨q, e4, b4⟩ := texts8 (short5_len s3).1 h0
        exact ⟨g, p, q, v, e1, e2, e3, e4, by rw [← rx_len g, ← e1]; omega, by rw [← rx_len p, ← e3]; omega, by rw [← rx_len q, ← e4]; omega, b1, b3, b4, b2⟩
/-- Two calls return the same number. -/
def Same5 (f g : Nat) (args : Array Value) (w : World) : Prop :=
  ∃ c : Int, (∀ W, Below w.heap.size w W → Calls Tryz.prog f args W (Ret W (.int .i64 c))) ∧ ∀ W, Below w.heap.size w W → Calls Tryz.prog g args W (Ret W (.int .i64 c))
theorem check_pair (n : Int) (vl : Value) (l : List BT) (w : World) (hg : Glob w) (hl : RdB w vl l) (hw : Wire l) : Same5 61 48 #[.int .i64 n, vl] w :=
  ⟨_, fun W hW => pcheck5 n vl l W (hg.of hW) (hl.below hW) hw.1 (fun h b hb => ⟨by have := (hw.2 h b hb).1; omega, (hw.2 h b hb).2.1, (hw.2 h b hb).2.2⟩), fun W hW => rcheck5 n vl l W (hl.below hW) hw.1 hw.2⟩
theorem small5 {l : List (List UInt8)} (h : short5 l = true) : ∀ q ∈ l, q.length ≤ 90000 := fun q hq => by have := (short5_len h).1 q hq; omega
end W
end Go.Proofs.YtijpgddpejiohaaGreatDoor
end
