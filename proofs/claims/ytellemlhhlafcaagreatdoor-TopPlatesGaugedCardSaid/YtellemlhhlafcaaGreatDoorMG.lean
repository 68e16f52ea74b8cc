/-
  Layer 2 of the program: 'cut', 'joined'.
  Layer 2 of the program: 'Check', 'joined'.
  Layer 2 of the program: 'checks', 'joined'.
  Layer 2 of the program: the operations of 'sums' where no result is too long.
  Layer 2 of the program: 'add', 'sub', 'mul' of the sums where no result is too long.
  Layer 2 of the program: 'lowest', the closures of 'Add', 'Sub', 'Mul', 'Div', and 'made', where no result is too long.
  Layer 2 of the program: 'Add', 'Sub', 'Mul', 'Div', 'Make', 'Compare' at valid numbers, where no result is too long.
  Layer 2 of the program: 'Add', 'Sub', 'Mul', 'Make', 'Compare' at valid numbers, where no result is too long.
  Layer 2 of the program: 'Compare' at valid numbers.
-/
import Derived.Test.YtellemlhhlafcaaGreatDoorME
import Derived.Test.YtellemlhhlafcaaGreatDoorMF
import Derived.RegionTactic
import Derived.ChangeAlike
import Derived.BigRegion
section
namespace Go.Proofs.YtellemlhhlafcaaGreatDoor
open Go Go.RowKit Go.Deep
namespace M
theorem slashV_cons (c : UInt8) (t : List UInt8) : slashV (c :: t) = if c = 47 then 0 else if slashV t = -1 then -1 else slashV t + 1 := by
  by_cases hc : c = 47
  · subst hc
    rw [if_pos rfl]
    exact slash_at (l := 47 :: t) (k := 0) (by simp) (by simp) rfl
  · rw [if_neg hc]
    have h2 : (c != 47) = true := by simpa using hc
    have e : (c :: t).contains 47 = t.contains 47 := by simp [Ne.symm hc]
    unfold slashV
    rw [e]
    split
    · rw [if_neg (by omega)]
      unfold cutN
      rw [List.takeWhile_cons, if_pos h2, List.length_cons]; omega
    · rw [if_pos rfl]
theorem index_slash (l : List UInt8) : Lib.index l [47] = slashV l := by
  induction l with
  | nil => rfl
  | cons c t ih =>
    rw [slashV_cons, Lib.index, ih]
    by_cases hc : c = 47
    · subst hc; simp [List.isPrefixOf]
    · have h3 : ([47] : List UInt8).isPrefixOf (c :: t) = false := by simp [List.isPrefixOf, Ne.symm hc]
      rw [h3, if_neg hc]
      by_cases h4 : slashV t = -1
      · rw [h4]; rfl
      · rw [if_neg Bool.false_ne_true, if_neg (show ¬ (slashV t == -1) = true by rw [beq_iff_eq]; exact h4), if_neg h4]
theorem lib_cut (l : List UInt8) : Lib.cut l [47] = (cutN l, if l.contains 47 = true then cutD l else [], l.contains 47) := by
  unfold Lib.cut
  rw [index_slash]
  by_cases h : l.contains 47 = true
  · have e := cut_back h
    have hv : slashV l = ((cutN l).length : Int) := by unfold slashV; rw [if_pos h]
    have et : l.take (cutN l).length = cutN l := by
      have := congrArg (List.take (cutN l).length) e
      rw [List.take_left' rfl] at this; exact this
    have ed : l.drop ((cutN l).length + 1) = cutD l := by
      have := congrArg (List.drop ((cutN l).length + 1)) e
      rw [List.drop_append, List.drop_eq_nil_of_le (show (cutN l).length ≤ (cutN l).length + 1 by omega), show (cutN l).length + 1 - (cutN l).length = 1 by omega] at this; exact this
    rw [if_pos (by rw [hv]; omega), if_pos h, h, hv, Int.toNat_natCast, et]
    show (_, l.drop ((cutN l).length + 1), _) = _
    rw [ed]
  · have hn : ∀ c ∈ l, c ≠ (47 : UInt8) := fun c hm e => h (by rw [e] at hm; simpa using hm)
    rw [slash_none hn, if_neg (by decide), if_neg h, cutN_none hn, Bool.eq_false_iff.2 h]
end M
namespace W
open M
attribute [local go_sem] bs_size bs_toList bs_get bs_extract bs_append bs_lit0 bs_lit1 lit1_bs
set_option maxHeartbeats 1000000
set_option maxRecDepth 20000
theorem strcut (l : List UInt8) (w : World) (hg : Glob w) (hl : l.length ≤ 1000000000) :
    Calls Tryz.prog 135 #[.string (bs l), .string ⟨#[47]⟩] w (Ret w (.tuple #[.string (bs (cutN l)), .string (bs (if l.contains 47 = true then cutD l else [])), .bool (l.contains 47)])) := by
  obtain ⟨m, hm⟩ := hg.1
  refine (Tryz.strings_Cut (bs l) ⟨#[47]⟩ m w (by rw [bs_size]; omega) hm).mono ?_
  rintro e w' ⟨rfl, n, rfl⟩
  refine Ret.of ?_ (Below.drewN (Below.refl _ _) _)
  have e1 : (bs l).data.toList = l := by simp [bs_data]
  rw [e1, show (#[47] : Array UInt8).toList = [47] from rfl, lib_cut]
  rfl
theorem cut_any (l : List UInt8) (w : World) (hg : Glob w) (hl : l.length ≤ 1000000000) :
    Calls Tryz.prog 94 #[.string (bs l)] w (Ret w (.tuple #[.string (bs (cutN l)), .string (bs (cutD l)), .bool (l.contains 47)])) := by
  have HC := Lib.hid (strcut l w hg hl)
  by_cases h : l.contains 47 = true
  · rw [if_pos h, h] at HC
    rw [h]
    generalize cutN l = a at *
    generalize cutD l = b at *
    clear h
    go_enter Tryz.func94, Tryz.ntmps94
    go_wp2_with fail
    refine (HC.out).mono ?_
    rintro e w1 ⟨rfl, hb1⟩
    go_wp2
    go_ret3
    exact Ret.of rfl hb1
  · have h2 := Bool.eq_false_iff.2 h
    have hn : ∀ c ∈ l, c ≠ (47 : UInt8) := fun c hm e => h (by rw [e] at hm; simpa using hm)
    rw [if_neg h, h2] at HC
    rw [h2, cutD_none hn]
    generalize cutN l = a at *
    clear h h2 hn
    go_enter Tryz.func94, Tryz.ntmps94
    go_wp2_with fail
    refine (HC.out).mono ?_
    rintro e w1 ⟨rfl, hb1⟩
    go_wp2
    go_ret3
    exact Ret.of rfl hb1
end W
end Go.Proofs.YtellemlhhlafcaaGreatDoor
end
section
namespace Go.Proofs.YtellemlhhlafcaaGreatDoor
open Go Go.RowKit Go.Deep
namespace W
open M
attribute [local go_sem] bs_size bs_toList bs_get bs_extract bs_append bs_lit0 bs_lit1 lit1_bs
set_option maxHeartbeats 1000000
set_option maxRecDepth 20000
theorem vcheckR (l : List UInt8) (w : World) (hg : Glob w) (hl : l.length ≤ 90000) :
    Calls Tryz.prog 56 #[.string (bs l)] w (Ret w (.int .i64 ((chkR l : Nat) : Int))) := by
  have hn := cutN_len l
  have hd := cutD_len l
  have HS := Lib.hid (cut_any l w hg (by omega))
  have HN := Lib.hid (fun w' => vcheck_any (cutN l) w' (by omega))
  have HD := Lib.hid (fun w' => vcheck_any (cutD l) w' (by omega))
  obtain ⟨r, hr⟩ : ∃ r, chkR l = r := ⟨_, rfl⟩
  rw [hr]
  unfold chkR at hr
  by_cases h1 : chk (cutN l) = 3
  · rw [if_pos (Or.inl h1)] at hr
    subst hr
    rw [h1] at HN
    clear h1
    generalize chk (cutD l) = c2 at *
    generalize cutN l = a at *
    generalize cutD l = b at *
    generalize l.contains 47 = cc at *
    go_enter Tryz.func56, Tryz.ntmps56
    go_wp2_with fail
    refine (HS.out).mono ?_
    rintro e w1 ⟨rfl, hb1⟩
    go_wp2_with fail
    refine (HN.out _).mono ?_
    rintro e w2 ⟨rfl, hb2⟩
    go_wp2_with fail
    refine (HD.out _).mono ?_
    rintro e w3 ⟨rfl, hb3⟩
    go_wp2
    go_ret
    exact Ret.of rfl (Below.then (Below.then hb1 hb2) hb3)
  · by_cases h2 : chk (cutD l) = 3
    · rw [if_pos (Or.inr h2)] at hr
      subst hr
      have hb2 : (((chk (cutN l) : Nat) : Int) == 3) = false := by simp; omega
      rw [h2] at HD
      clear h1 h2
      generalize chk (cutN l) = c at *
      generalize cutN l = a at *
      generalize cutD l = b at *
      generalize l.contains 47 = cc at *
      go_enter Tryz.func56, Tryz.ntmps56
      go_wp2_with fail
      refine (HS.out).mono ?_
      rintro e w1 ⟨rfl, hb1⟩
      go_wp2_with fail
      refine (HN.out _).mono ?_
      rintro e w2 ⟨rfl, hb2⟩
      go_wp2_with fail
      refine (HD.out _).mono ?_
      rintro e w3 ⟨rfl, hb3⟩
      go_wp2
      go_ret
      exact Ret.of rfl (Below.then (Below.then hb1 hb2) hb3)
    · rw [if_neg (fun h => h.elim h1 h2)] at hr
      by_cases h3 : chk (cutN l) = 0
      · by_cases h4 : chk (cutD l) = 0
        · rw [if_neg (fun h => h.elim (fun h => h h3) (fun h => h h4))] at hr
          obtain ⟨z, hz⟩ := chk_form (l := cutN l) h1
          obtain ⟨d, hd2⟩ := chk_form (l := cutD l) h2
          have o1 : Ok z := by
            rw [hz, chk_I] at h3
            exact Decidable.byContradiction fun h => by rw [if_neg h] at h3; cases h3
          have o2 : Ok d := by
            rw [hd2, chk_I] at h4
            exact Decidable.byContradiction fun h => by rw [if_neg h] at h4; cases h4
          rw [h3] at HN
          rw [h4] at HD
          rw [hz] at HN HS hn hr
          rw [hd2] at HD HS hd hr
          rw [zv_I, zv_I] at hr
          have HO := Lib.hid (fun w' => vcompare_I d 1 w' o2 (ok_of (by decide)))
          have HG := Lib.hid (fun w' hg => gcd_I z d w' hg o1 o2)
          have H1 := Lib.hid I_one
          clear h1 h2 h3 h4 hz hd2 o1 o2
          by_cases hc : l.contains 47 = true
          · by_cases h5 : d ≤ 1
            · rw [if_pos ⟨hc, Or.inl h5⟩] at hr
              subst hr
              have hs : Int.sign (d - 1) ≤ 0 := by
                rcases Int.lt_trichotomy (d - 1) 0 with h | h | h
                · rw [Int.sign_eq_neg_one_of_neg h]; decide
                · rw [h]; decide
                · omega
              rw [hc] at HS
              clear hc h5
              generalize Int.sign (d - 1) = sv at *
              go_enter Tryz.func56, Tryz.ntmps56
              go_wp2_with fail
              refine (HS.out).mono ?_
              rintro e w1 ⟨rfl, hb1⟩
              go_wp2_with fail
              refine (HN.out _).mono ?_
              rintro e w2 ⟨rfl, hb2⟩
              go_wp2_with fail
              refine (HD.out _).mono ?_
              rintro e w3 ⟨rfl, hb3⟩
              go_wp2_with fail
              rw [show (Value.string ⟨#[49]⟩) = Value.string (bs (I 1)) by rw [H1.out]; rfl]
              refine (HO.out _).mono ?_
              rintro e w4 ⟨rfl, hb4⟩
              have hb5 := Below.then (Below.then (Below.then hb1 hb2) hb3) hb4
              go_wp2_with fail
              refine (HG.out _ (hg.of hb5)).mono ?_
              rintro e w7 ⟨rfl, hb7⟩
              go_wp2
              go_ret
              exact Ret.of rfl (Below.then hb5 hb7)
            · have hs : Int.sign (d - 1) = 1 := Int.sign_eq_one_of_pos (by omega)
              by_cases h6 : Int.gcd z d ≠ 1
              · rw [if_pos ⟨hc, Or.inr h6⟩] at hr
                subst hr
                have hb6 : (I ((Int.gcd z d : Nat) : Int) == [49]) = false := by
                  rw [beq_eq_false_iff_ne, ← I_one]
                  intro e
                  have := I_inj e
                  omega
                rw [hc] at HS
                rw [hs] at HO
                clear hc h5 h6 hs
                generalize I ((Int.gcd z d : Nat) : Int) = gs at *
                generalize I z = zs at *
                go_enter Tryz.func56, Tryz.ntmps56
                go_wp2_with fail
                refine (HS.out).mono ?_
                rintro e w1 ⟨rfl, hb1⟩
                go_wp2_with fail
                refine (HN.out _).mono ?_
                rintro e w2 ⟨rfl, hb2⟩
                go_wp2_with fail
                refine (HD.out _).mono ?_
                rintro e w3 ⟨rfl, hb3⟩
                go_wp2_with fail
                rw [show (Value.string ⟨#[49]⟩) = Value.string (bs (I 1)) by rw [H1.out]; rfl]
                refine (HO.out _).mono ?_
                rintro e w4 ⟨rfl, hb4⟩
                have hb5 := Below.then (Below.then (Below.then hb1 hb2) hb3) hb4
                go_wp2_with fail
                refine (HG.out _ (hg.of hb5)).mono ?_
                rintro e w7 ⟨rfl, hb7⟩
                go_wp2
                go_ret
                exact Ret.of rfl (Below.then hb5 hb7)
              · rw [if_neg (fun h => h.2.elim h5 h6)] at hr
                subst hr
                have hb6 : (I ((Int.gcd z d : Nat) : Int) == [49]) = true := by
                  rw [show Int.gcd z d = 1 by omega, show (((1 : Nat) : Int)) = 1 from rfl, I_one]; rfl
                rw [hc] at HS
                rw [hs] at HO
                clear hc h5 h6 hs
                generalize I ((Int.gcd z d : Nat) : Int) = gs at *
                generalize I z = zs at *
                go_enter Tryz.func56, Tryz.ntmps56
                go_wp2_with fail
                refine (HS.out).mono ?_
                rintro e w1 ⟨rfl, hb1⟩
                go_wp2_with fail
                refine (HN.out _).mono ?_
                rintro e w2 ⟨rfl, hb2⟩
                go_wp2_with fail
                refine (HD.out _).mono ?_
                rintro e w3 ⟨rfl, hb3⟩
                go_wp2_with fail
                rw [show (Value.string ⟨#[49]⟩) = Value.string (bs (I 1)) by rw [H1.out]; rfl]
                refine (HO.out _).mono ?_
                rintro e w4 ⟨rfl, hb4⟩
                have hb5 := Below.then (Below.then (Below.then hb1 hb2) hb3) hb4
                go_wp2_with fail
                refine (HG.out _ (hg.of hb5)).mono ?_
                rintro e w7 ⟨rfl, hb7⟩
                go_wp2
                go_ret
                exact Ret.of rfl (Below.then hb5 hb7)
          · rw [if_neg (fun h => hc h.1)] at hr
            subst hr
            rw [Bool.eq_false_iff.2 hc] at HS
            clear hc
            go_enter Tryz.func56, Tryz.ntmps56
            go_wp2_with fail
            refine (HS.out).mono ?_
            rintro e w1 ⟨rfl, hb1⟩
            go_wp2_with fail
            refine (HN.out _).mono ?_
            rintro e w2 ⟨rfl, hb2⟩
            go_wp2_with fail
            refine (HD.out _).mono ?_
            rintro e w3 ⟨rfl, hb3⟩
            go_wp2
            go_ret
            exact Ret.of rfl (Below.then (Below.then hb1 hb2) hb3)
        · rw [if_pos (Or.inr h4)] at hr
          subst hr
          have e4 : chk (cutD l) = 11 := by rcases chk_cases (cutD l) with h | h | h <;> omega
          rw [h3] at HN
          rw [e4] at HD
          clear h1 h2 h3 h4 e4
          generalize cutN l = a at *
          generalize cutD l = b at *
          generalize l.contains 47 = cc at *
          go_enter Tryz.func56, Tryz.ntmps56
          go_wp2_with fail
          refine (HS.out).mono ?_
          rintro e w1 ⟨rfl, hb1⟩
          go_wp2_with fail
          refine (HN.out _).mono ?_
          rintro e w2 ⟨rfl, hb2⟩
          go_wp2_with fail
          refine (HD.out _).mono ?_
          rintro e w3 ⟨rfl, hb3⟩
          go_wp2
          go_ret
          exact Ret.of rfl (Below.then (Below.then hb1 hb2) hb3)
      · rw [if_pos (Or.inl h3)] at hr
        subst hr
        have e3 : chk (cutN l) = 11 := by rcases chk_cases (cutN l) with h | h | h <;> omega
        rw [e3] at HN
        have e4 : chk (cutD l) = 0 ∨ chk (cutD l) = 11 := by rcases chk_cases (cutD l) with h | h | h <;> omega
        clear h1 h2 h3 e3
        generalize cutN l = a at *
        generalize cutD l = b at *
        generalize l.contains 47 = cc at *
        rcases e4 with e4 | e4
        all_goals
          rw [e4] at HD
          clear e4
          go_enter Tryz.func56, Tryz.ntmps56
          go_wp2_with fail
          refine (HS.out).mono ?_
          rintro e w1 ⟨rfl, hb1⟩
          go_wp2_with fail
          refine (HN.out _).mono ?_
          rintro e w2 ⟨rfl, hb2⟩
          go_wp2_with fail
          refine (HD.out _).mono ?_
          rintro e w3 ⟨rfl, hb3⟩
          go_wp2
          go_ret
          exact Ret.of rfl (Below.then (Below.then hb1 hb2) hb3)
end W
end Go.Proofs.YtellemlhhlafcaaGreatDoor
end
section
namespace Go.Proofs.YtellemlhhlafcaaGreatDoor
open Go Go.RowKit Go.Deep
namespace M
noncomputable def chkRs : List (List UInt8) → Nat
  | [] => 0
  | l :: t => if chkR l = 0 then chkRs t else chkR l
end M
namespace W
open M
attribute [local go_sem] bs_size bs_toList bs_get bs_extract bs_append bs_lit0 bs_lit1 lit1_bs
set_option maxHeartbeats 1000000
set_option maxRecDepth 20000
theorem checks_any (ls : List (List UInt8)) (b off cap : Nat) (w : World) (hg : Glob w) (hl : ∀ l ∈ ls, l.length ≤ 90000) (hn : ls.length ≤ 1000000000) (hb : b < w.heap.size)
    (hc : ∀ i (h : i < ls.length), w.cell? ⟨b, off + i, none⟩ = some (.string (bs ls[i]))) :
    Calls Tryz.prog 169 #[.slice (some ⟨b, off, none⟩) ls.length cap] w (Ret w (.int .i64 ((chkRs ls : Nat) : Int))) := by
  have HC := Lib.hid hc
  have HL := Lib.hid hl
  clear hc hl
  generalize hch : ((chkRs ls : Nat) : Int) = ch
  have HCH := Lib.hid hch
  clear hch
  go_enter Tryz.func169, Tryz.ntmps169
  go_wp2
  go_loopw [8] (fun iv wr => ∃ i : Nat, iv = .int .i64 (i : Int) ∧ i ≤ ls.length ∧ Hid (chkRs ls = chkRs (ls.drop i)) ∧ Below w.heap.size w wr) (fun iv _ => ls.length - (intOf iv).toNat)
  case atStart => exact ⟨0, rfl, by omega, (rfl : chkRs ls = chkRs (ls.drop 0)), Below.refl _ _⟩
  case round =>
    obtain ⟨i, rfl, hi, hk, hbw⟩ := hrel
    by_cases hlt : i < ls.length
    · have hcell : wr.cell? ⟨b, off + i, none⟩ = some (.string (bs ls[i])) := (hbw.cell (by exact hb)).trans (HC.out i hlt)
      have hll := HL.out ls[i] (List.getElem_mem hlt)
      have hk2 := hk.out
      rw [List.drop_eq_getElem_cons hlt, chkRs] at hk2
      by_cases h0 : chkR ls[i] = 0
      · rw [if_pos h0] at hk2
        have HK := Lib.hid hk2
        have hv := vcheckR ls[i]
        rw [h0] at hv
        have HV := Lib.hid hv
        clear hk hk2 hv h0
        go_wp2_with fail
        refine (HV.out _ (hg.of hbw) hll).mono ?_
        rintro e w1 ⟨rfl, hb1⟩
        go_wp2
        go_roundw
        case rel => exact ⟨i + 1, by go_num, by omega, HK, hbw.trans (hb1.mono hbw.size)⟩
        case measure => simp [intOf]; omega
      · rw [if_neg h0] at hk2
        have HK := Lib.hid hk2
        have hv := vcheckR ls[i]
        have hz : ((((chkR ls[i] : Nat)) : Int) == 0) = false := by simp; exact h0
        generalize chkR ls[i] = q at *
        have HV := Lib.hid hv
        clear hk hk2 hv h0
        go_wp2_with fail
        refine (HV.out _ (hg.of hbw) hll).mono ?_
        rintro e w1 ⟨rfl, hb1⟩
        go_wp2
        go_ret
        exact Ret.of (by rw [← HCH.out, HK.out]; rfl) (hbw.trans (hb1.mono hbw.size))
    · obtain rfl : i = ls.length := by omega
      have hk2 := hk.out
      rw [List.drop_length] at hk2
      have HK := Lib.hid hk2
      clear hk hk2
      go_wp2
      go_ret
      exact Ret.of (by rw [← HCH.out, HK.out]; rfl) hbw
theorem checks_two (x y : List UInt8) (w : World) (hg : Glob w) (hx : x.length ≤ 90000) (hy : y.length ≤ 90000) :
    Calls Tryz.prog 169 #[.slice (some ⟨w.heap.size, 0, none⟩) 2 2] (w.alloc (.cells #[.string (bs x), .string (bs y)] 86)) (Ret (w.alloc (.cells #[.string (bs x), .string (bs y)] 86)) (.int .i64 ((chkRs [x, y] : Nat) : Int))) := by
  have hr := Row.new w 86 (Strs [x, y])
  refine checks_any [x, y] w.heap.size 0 2 _ (hg.of (RowKit.Below.alloc (RowKit.Below.refl _ _) (Nat.le_refl _) _)) (fun l hl => ?_) (by simp) (by simp) (fun i hi => ?_)
  · simp at hl; rcases hl with rfl | rfl <;> assumption
  · rw [Nat.zero_add]
    match i, hi with
    | 0, _ => exact hr.cell rfl
    | 1, _ => exact hr.cell rfl
theorem joined_R (q : Rat) (w : World) (h1 : (I q.num).length ≤ 90000) (h2 : (I (q.den : Int)).length ≤ 90000) :
    Calls Tryz.prog 116 #[.string (bs (I q.num)), .string (bs (I (q.den : Int)))] w fun e w' => e = .returned (.string (bs (R q))) ∧ w = w' := by
  by_cases h : q.den = 1
  · have hb2 : (I (q.den : Int) == [49]) = true := by rw [h, show (((1 : Nat) : Int)) = 1 from rfl, I_one]; rfl
    have hR : R q = I q.num := by unfold R; rw [if_pos h]
    rw [hR]
    clear h hR
    generalize I (q.den : Int) = b at *
    generalize I q.num = a at *
    go_enter Tryz.func116, Tryz.ntmps116
    go_wp2
    go_ret
    exact ⟨rfl, rfl⟩
  · have hb2 : (I (q.den : Int) == [49]) = false := den_ne h
    have hR : R q = I q.num ++ 47 :: I (q.den : Int) := by unfold R; rw [if_neg h]
    rw [hR]
    clear h hR
    generalize I (q.den : Int) = b at *
    generalize I q.num = a at *
    go_enter Tryz.func116, Tryz.ntmps116
    go_wp2
    go_ret
    exact ⟨by simp, rfl⟩
end W
end Go.Proofs.YtellemlhhlafcaaGreatDoor
end
section
namespace Go.Proofs.YtellemlhhlafcaaGreatDoor
open Go Go.RowKit Go.Deep
def NoErr (w : World) (b : Nat) : Prop := Row w b 278 [.int .i64 0]
theorem NoErr.below {B b : Nat} {w w' : World} (h : NoErr w b) (hb : Below B w w') (hB : b < B) : NoErr w' b := Row.below h hb hB
theorem NoErr.below' {b : Nat} {w w' : World} (h : NoErr w b) (hb : Below w.heap.size w w') : NoErr w' b := Row.below' h hb
theorem NoErr.cell {w : World} {b : Nat} (h : NoErr w b) : w.cell? ⟨b, 0, none⟩ = some (.int .i64 0) := Row.cell h rfl
theorem NoErr.free {w : World} {b : Nat} (h : NoErr w b) : w.frozen? ⟨b, 0, none⟩ = false := Row.free h 0
theorem Below.same {B : Nat} {a w : World} (h : Below B a w) {b : Nat} (hn : NoErr w b) : Below B a (w.setCell ⟨b, 0, none⟩ (.int .i64 0)) := by
  have hr := Row.set hn 0 (.int .i64 0)
  refine h.trans ⟨rfl, rfl, rfl, ?_, fun k hk => ?_⟩
  · show _ ≤ (w.heap.modify _ _).size; simp
  · by_cases hkb : k = b
    · subst hkb
      exact hr.trans (Eq.symm hn)
    · exact Below.heap_setCell _ _ _ _ hkb
namespace W
open M
attribute [local go_sem] bs_size bs_toList bs_get bs_extract bs_append bs_lit0 bs_lit1 lit1_bs
set_option maxHeartbeats 1000000
set_option maxRecDepth 20000
theorem do_ok (f b : Nat) (x y r : List UInt8) (w : World) (hf : Enters Tryz.prog f) (hs : NoErr w b) (hop : Calls Tryz.prog f #[.string (bs x), .string (bs y)] w (Ret w (.tuple #[.string (bs r), .int .i64 0]))) :
    Calls Tryz.prog 170 #[.pointer (some ⟨b, 0, none⟩), .func (.func f) #[] #[], .string (bs x), .string (bs y)] w (Ret w (.string (bs r))) := by
  have hc := hs.cell
  have HOP := Lib.hid hop
  have HS := Lib.hid hs
  clear hop hs
  unfold Enters at hf
  go_enter Tryz.func170, Tryz.ntmps170
  go_wp2_with fail
  refine HOP.out.mono ?_
  rintro e w1 ⟨rfl, hb1⟩
  have hs1 := HS.out.below' hb1
  have hc1 := hs1.cell
  have hf1 := hs1.free
  have HS1 := Lib.hid hs1
  clear hs1 hc
  go_wp2
  go_ret
  exact Ret.of rfl (Below.same hb1 HS1.out)
end W
end Go.Proofs.YtellemlhhlafcaaGreatDoor
end
section
namespace Go.Proofs.YtellemlhhlafcaaGreatDoor
open Go Go.RowKit Go.Deep
namespace M
def pr : List Int → Int
  | [] => 1
  | z :: t => z * pr t
theorem pr_append (a b : List Int) : pr (a ++ b) = pr a * pr b := by
  induction a with
  | nil => simp [pr]
  | cons z t ih => simp only [List.cons_append, pr, ih, Int.mul_assoc]
theorem pr_take (l : List Int) (i : Nat) (h : i < l.length) : pr (l.take (i + 1)) = pr (l.take i) * l[i] := by
  rw [List.take_succ_eq_append_getElem h, pr_append]; simp [pr]
end M
namespace W
open M
attribute [local go_sem] bs_size bs_toList bs_get bs_extract bs_append bs_lit0 bs_lit1 lit1_bs
set_option maxHeartbeats 1000000
set_option maxRecDepth 20000
theorem ent_add : Enters Tryz.prog 229 := enters_of Tryz.func229 (by kernel_rfl) rfl
theorem ent_sub : Enters Tryz.prog 228 := enters_of Tryz.func228 (by kernel_rfl) rfl
theorem ent_mul : Enters Tryz.prog 171 := enters_of Tryz.func171 (by kernel_rfl) rfl
theorem ent_gcd : Enters Tryz.prog 97 := enters_of Tryz.func97 (by kernel_rfl) rfl
theorem ent_quo : Enters Tryz.prog 206 := enters_of Tryz.func206 (by kernel_rfl) rfl
theorem do_add (b : Nat) (x y : Int) (w : World) (hg : Glob w) (hs : NoErr w b) (hx : Ok x) (hy : Ok y) (hz : Ok (x + y)) :
    Calls Tryz.prog 170 #[.pointer (some ⟨b, 0, none⟩), .func (.func 229) #[] #[], .string (bs (I x)), .string (bs (I y))] w (Ret w (.string (bs (I (x + y))))) :=
  do_ok _ b _ _ _ w ent_add hs (by rw [← resV_ok hz]; exact add_I x y w hg hx hy)
theorem do_sub (b : Nat) (x y : Int) (w : World) (hg : Glob w) (hs : NoErr w b) (hx : Ok x) (hy : Ok y) (hz : Ok (x - y)) :
    Calls Tryz.prog 170 #[.pointer (some ⟨b, 0, none⟩), .func (.func 228) #[] #[], .string (bs (I x)), .string (bs (I y))] w (Ret w (.string (bs (I (x - y))))) :=
  do_ok _ b _ _ _ w ent_sub hs (by rw [← resV_ok hz]; exact sub_I x y w hg hx hy)
theorem do_mul (b : Nat) (x y : Int) (w : World) (hg : Glob w) (hs : NoErr w b) (hx : Ok x) (hy : Ok y) (hz : Ok (x * y)) :
    Calls Tryz.prog 170 #[.pointer (some ⟨b, 0, none⟩), .func (.func 171) #[] #[], .string (bs (I x)), .string (bs (I y))] w (Ret w (.string (bs (I (x * y))))) :=
  do_ok _ b _ _ _ w ent_mul hs (by rw [← resV_ok hz]; exact mul_I x y w hg hx hy)
theorem do_gcd (b : Nat) (x y : Int) (w : World) (hg : Glob w) (hs : NoErr w b) (hx : Ok x) (hy : Ok y) :
    Calls Tryz.prog 170 #[.pointer (some ⟨b, 0, none⟩), .func (.func 97) #[] #[], .string (bs (I x)), .string (bs (I y))] w (Ret w (.string (bs (I ((Int.gcd x y : Nat) : Int))))) :=
  do_ok _ b _ _ _ w ent_gcd hs (gcd_I x y w hg hx hy)
theorem do_quo (b : Nat) (x y : Int) (w : World) (hg : Glob w) (hs : NoErr w b) (hx : Ok x) (hy : Ok y) (h0 : y ≠ 0) :
    Calls Tryz.prog 170 #[.pointer (some ⟨b, 0, none⟩), .func (.func 206) #[] #[], .string (bs (I x)), .string (bs (I y))] w (Ret w (.string (bs (I (x.fdiv y))))) :=
  do_ok _ b _ _ _ w ent_quo hs (quo_I x y w hg hx hy h0)
theorem sadd_ok (b : Nat) (x y : Int) (w : World) (hg : Glob w) (hs : NoErr w b) (hx : Ok x) (hy : Ok y) (hz : Ok (x + y)) :
    Calls Tryz.prog 203 #[.pointer (some ⟨b, 0, none⟩), .string (bs (I x)), .string (bs (I y))] w (Ret w (.string (bs (I (x + y))))) := by
  have HD := Lib.hid (do_add b x y w hg hs hx hy hz)
  clear hs hx hy hz
  go_enter Tryz.func203, Tryz.ntmps203
  go_wp2_with fail
  refine (HD.out).mono ?_
  rintro e w1 ⟨rfl, hb1⟩
  go_wp2
  go_ret
  exact Ret.of rfl hb1
theorem ssub_ok (b : Nat) (x y : Int) (w : World) (hg : Glob w) (hs : NoErr w b) (hx : Ok x) (hy : Ok y) (hz : Ok (x - y)) :
    Calls Tryz.prog 201 #[.pointer (some ⟨b, 0, none⟩), .string (bs (I x)), .string (bs (I y))] w (Ret w (.string (bs (I (x - y))))) := by
  have HD := Lib.hid (do_sub b x y w hg hs hx hy hz)
  clear hs hx hy hz
  go_enter Tryz.func201, Tryz.ntmps201
  go_wp2_with fail
  refine (HD.out).mono ?_
  rintro e w1 ⟨rfl, hb1⟩
  go_wp2
  go_ret
  exact Ret.of rfl hb1
theorem smul_ok (b : Nat) (zs : List Int) (bl cap : Nat) (w : World) (hg : Glob w) (hs : NoErr w b) (hz : ∀ z ∈ zs, Ok z) (hp : ∀ k, k ≤ zs.length → Ok (pr (zs.take k))) (hn : zs.length ≤ 1000) (hbl : bl < w.heap.size)
    (hc : ∀ i (h : i < zs.length), w.cell? ⟨bl, i, none⟩ = some (.string (bs (I zs[i])))) :
    Calls Tryz.prog 134 #[.pointer (some ⟨b, 0, none⟩), .slice (some ⟨bl, 0, none⟩) zs.length cap] w (Ret w (.string (bs (I (pr zs))))) := by
  have HC := Lib.hid hc
  have HZ := Lib.hid hz
  have HP := Lib.hid hp
  have HS := Lib.hid hs
  have H1 := Lib.hid I_one
  have HPR : Hid (pr zs = pr (zs.take zs.length)) := by rw [List.take_length]; exact rfl
  have hbs : b < w.heap.size := hs.lt
  clear hc hz hp hs
  go_enter Tryz.func134, Tryz.ntmps134
  go_wp2
  go_loopw [5, 13] (fun ov iv wr => ∃ i : Nat, iv = .int .i64 (i : Int) ∧ i ≤ zs.length ∧ ov = .string (bs (I (pr (zs.take i)))) ∧ Below w.heap.size w wr) (fun _ iv _ => zs.length - (intOf iv).toNat)
  case atStart =>
    refine ⟨0, rfl, by omega, ?_, Below.refl _ _⟩
    rw [List.take_zero, pr, H1.out]; rfl
  case round =>
    obtain ⟨i, rfl, hi, rfl, hbw⟩ := hrel
    by_cases hlt : i < zs.length
    · have hcell : wr.cell? ⟨bl, i, none⟩ = some (.string (bs (I zs[i]))) := (hbw.cell (by exact hbl)).trans (HC.out i hlt)
      have hq := pr_take zs i hlt
      have HD := Lib.hid (do_mul b (pr (zs.take i)) zs[i] wr (hg.of hbw) (HS.out.below hbw hbs) (HP.out i hi) (HZ.out _ (List.getElem_mem hlt)) (by rw [← hq]; exact HP.out (i + 1) hlt))
      rw [← hq] at HD
      clear hq
      go_wp2_with fail
      refine (HD.out).mono ?_
      rintro e w1 ⟨rfl, hb1⟩
      go_wp2
      go_roundw
      case rel => exact ⟨i + 1, by go_num, by omega, rfl, hbw.trans (hb1.mono hbw.size)⟩
      case measure => simp [intOf]; omega
    · obtain rfl : i = zs.length := by omega
      go_wp2
      go_ret
      exact Ret.of (by rw [HPR.out]; rfl) hbw
end W
end Go.Proofs.YtellemlhhlafcaaGreatDoor
end
section
namespace Go.Proofs.YtellemlhhlafcaaGreatDoor
open Go Go.RowKit Go.Deep
theorem NoErr.new (w : World) : NoErr (w.alloc (.cells #[.int .i64 0] 278 (0, 0))) w.heap.size := Row.new w 278 [.int .i64 0]
theorem NoErr.alloc {w : World} {b : Nat} (h : NoErr w b) (o : Obj) : NoErr (w.alloc o) b := Row.alloc h o
namespace W
open M
attribute [local go_sem] bs_size bs_toList bs_get bs_extract bs_append bs_lit0 bs_lit1 lit1_bs
set_option maxHeartbeats 1000000
set_option maxRecDepth 20000
theorem smul_two (b : Nat) (x y : Int) (w : World) (hg : Glob w) (hs : NoErr w b) (hx : Ok x) (hy : Ok y) (hz : Ok (x * y)) :
    Calls Tryz.prog 134 #[.pointer (some ⟨b, 0, none⟩), .slice (some ⟨w.heap.size, 0, none⟩) 2 2] (w.alloc (.cells #[.string (bs (I x)), .string (bs (I y))] 185)) (Ret (w.alloc (.cells #[.string (bs (I x)), .string (bs (I y))] 185)) (.string (bs (I (x * y))))) := by
  have hr := Row.new w 185 [.string (bs (I x)), .string (bs (I y))]
  have := smul_ok b [x, y] w.heap.size 2 _ (alloc_glob hg _) (hs.alloc _) (fun z hz => by simp at hz; rcases hz with rfl | rfl <;> assumption)
    (fun k hk => by
      match k, hk with
      | 0, _ => exact ok_of (by simp [pr])
      | 1, _ => simpa [pr] using hx
      | 2, _ => simpa [pr] using hz) (by simp) hr.lt (fun i hi => by
      match i, hi with
      | 0, _ => exact hr.cell rfl
      | 1, _ => exact hr.cell rfl)
  simp only [pr, Int.mul_one, Nat.zero_add, List.length_cons, List.length_nil] at this
  exact this
theorem add_c (b : Nat) (n p m q : Int) (w : World) (hg : Glob w) (hs : NoErr w b) (hn : Ok n) (hp : Ok p) (hm : Ok m) (hq : Ok q) (h1 : Ok (n * q)) (h2 : Ok (m * p)) (h3 : Ok (n * q + m * p)) (h4 : Ok (p * q)) :
    Calls Tryz.prog 202 #[.pointer (some ⟨b, 0, none⟩), .string (bs (I n)), .string (bs (I p)), .string (bs (I m)), .string (bs (I q))] w (Ret w (.tuple #[.string (bs (I (n * q + m * p))), .string (bs (I (p * q)))])) := by
  have H1 := Lib.hid (fun w' hg hs => smul_two b n q w' hg hs hn hq h1)
  have H2 := Lib.hid (fun w' hg hs => smul_two b m p w' hg hs hm hp h2)
  have H3 := Lib.hid (fun w' hg hs => sadd_ok b (n * q) (m * p) w' hg hs h1 h2 h3)
  have H4 := Lib.hid (fun w' hg hs => smul_two b p q w' hg hs hp hq h4)
  have HS := Lib.hid hs
  have hbl := hs.lt
  clear hs hn hp hm hq h1 h2 h3 h4
  go_enter Tryz.func202, Tryz.ntmps202
  go_wp2_with fail
  refine (H1.out _ hg HS.out).mono ?_
  rintro e w1 ⟨rfl, hb1⟩
  have hb1 := alloc_then hb1
  go_wp2_with fail
  refine (H2.out _ (hg.of hb1) (HS.out.below' hb1)).mono ?_
  rintro e w2 ⟨rfl, hb2⟩
  have hb2 := Below.then hb1 (alloc_then hb2)
  go_wp2_with fail
  refine (H3.out _ (hg.of hb2) (HS.out.below' hb2)).mono ?_
  rintro e w3 ⟨rfl, hb3⟩
  have hb3 := Below.then hb2 hb3
  go_wp2_with fail
  refine (H4.out _ (hg.of hb3) (HS.out.below' hb3)).mono ?_
  rintro e w4 ⟨rfl, hb4⟩
  have hb4 := Below.then hb3 (alloc_then hb4)
  go_wp2
  go_ret2
  exact Ret.of rfl hb4
theorem sub_c (b : Nat) (n p m q : Int) (w : World) (hg : Glob w) (hs : NoErr w b) (hn : Ok n) (hp : Ok p) (hm : Ok m) (hq : Ok q) (h1 : Ok (n * q)) (h2 : Ok (m * p)) (h3 : Ok (n * q - m * p)) (h4 : Ok (p * q)) :
    Calls Tryz.prog 200 #[.pointer (some ⟨b, 0, none⟩), .string (bs (I n)), .string (bs (I p)), .string (bs (I m)), .string (bs (I q))] w (Ret w (.tuple #[.string (bs (I (n * q - m * p))), .string (bs (I (p * q)))])) := by
  have H1 := Lib.hid (fun w' hg hs => smul_two b n q w' hg hs hn hq h1)
  have H2 := Lib.hid (fun w' hg hs => smul_two b m p w' hg hs hm hp h2)
  have H3 := Lib.hid (fun w' hg hs => ssub_ok b (n * q) (m * p) w' hg hs h1 h2 h3)
  have H4 := Lib.hid (fun w' hg hs => smul_two b p q w' hg hs hp hq h4)
  have HS := Lib.hid hs
  have hbl := hs.lt
  clear hs hn hp hm hq h1 h2 h3 h4
  go_enter Tryz.func200, Tryz.ntmps200
  go_wp2_with fail
  refine (H1.out _ hg HS.out).mono ?_
  rintro e w1 ⟨rfl, hb1⟩
  have hb1 := alloc_then hb1
  go_wp2_with fail
  refine (H2.out _ (hg.of hb1) (HS.out.below' hb1)).mono ?_
  rintro e w2 ⟨rfl, hb2⟩
  have hb2 := Below.then hb1 (alloc_then hb2)
  go_wp2_with fail
  refine (H3.out _ (hg.of hb2) (HS.out.below' hb2)).mono ?_
  rintro e w3 ⟨rfl, hb3⟩
  have hb3 := Below.then hb2 hb3
  go_wp2_with fail
  refine (H4.out _ (hg.of hb3) (HS.out.below' hb3)).mono ?_
  rintro e w4 ⟨rfl, hb4⟩
  have hb4 := Below.then hb3 (alloc_then hb4)
  go_wp2
  go_ret2
  exact Ret.of rfl hb4
theorem mul_c (b : Nat) (n p m q : Int) (w : World) (hg : Glob w) (hs : NoErr w b) (hn : Ok n) (hp : Ok p) (hm : Ok m) (hq : Ok q) (h1 : Ok (n * m)) (h4 : Ok (p * q)) :
    Calls Tryz.prog 133 #[.pointer (some ⟨b, 0, none⟩), .string (bs (I n)), .string (bs (I p)), .string (bs (I m)), .string (bs (I q))] w (Ret w (.tuple #[.string (bs (I (n * m))), .string (bs (I (p * q)))])) := by
  have H1 := Lib.hid (fun w' hg hs => smul_two b n m w' hg hs hn hm h1)
  have H4 := Lib.hid (fun w' hg hs => smul_two b p q w' hg hs hp hq h4)
  have HS := Lib.hid hs
  have hbl := hs.lt
  clear hs hn hp hm hq h1 h4
  go_enter Tryz.func133, Tryz.ntmps133
  go_wp2_with fail
  refine (H1.out _ hg HS.out).mono ?_
  rintro e w1 ⟨rfl, hb1⟩
  have hb1 := alloc_then hb1
  go_wp2_with fail
  refine (H4.out _ (hg.of hb1) (HS.out.below' hb1)).mono ?_
  rintro e w4 ⟨rfl, hb4⟩
  have hb4 := Below.then hb1 (alloc_then hb4)
  go_wp2
  go_ret2
  exact Ret.of rfl hb4
theorem lowest_ok (b : Nat) (n d : Int) (w : World) (hg : Glob w) (hs : NoErr w b) (hn : Ok n) (hd : Ok d) (h0 : d ≠ 0) :
    Calls Tryz.prog 167 #[.pointer (some ⟨b, 0, none⟩), .string (bs (I n)), .string (bs (I d))] w (Ret w (.string (bs (R (Rat.divInt n d))))) := by
  have hlow := low_num n d h0
  have hk : Ok ((Int.gcd n d : Nat) : Int) := by
    have h1 : Int.gcd n d ≤ d.natAbs := Int.gcd_le_natAbs_right _ h0
    unfold Ok at *
    rw [Int.natAbs_natCast]; omega
  have HG := Lib.hid (do_gcd b n d w hg hs hn hd)
  have HB := Lib.hid (fun w' => hasPrefix_minus (I d) w')
  have HS := Lib.hid hs
  have hbl := hs.lt
  obtain ⟨g, hgd⟩ : ∃ g : Int, g = if d < 0 then -((Int.gcd n d : Nat) : Int) else ((Int.gcd n d : Nat) : Int) := ⟨_, rfl⟩
  obtain ⟨l1, l2, l3⟩ := hlow g hgd
  have hog : Ok g := by
    unfold Ok at *
    rw [hgd]
    split
    · rw [Int.natAbs_neg]; exact hk
    · exact hk
  have HQ1 := Lib.hid (fun w' hg hs => do_quo b n g w' hg hs hn hog l3)
  have HQ2 := Lib.hid (fun w' hg hs => do_quo b d g w' hg hs hd hog l3)
  rw [l1] at HQ1
  rw [l2] at HQ2
  have e1 : Ok (Rat.divInt n d).num := by rw [← l1]; unfold Ok at *; exact Nat.lt_of_le_of_lt (Int.natAbs_fdiv_le_natAbs _ _) hn
  have e2 : Ok (((Rat.divInt n d).den : Nat) : Int) := by rw [← l2]; unfold Ok at *; exact Nat.lt_of_le_of_lt (Int.natAbs_fdiv_le_natAbs _ _) hd
  have e3 := e1.len
  have e4 := e2.len
  have HJ := Lib.hid (fun w' => joined_R (Rat.divInt n d) w' (by omega) (by omega))
  clear hlow l1 l2 e1 e2 e3 e4 hs
  generalize Rat.divInt n d = q at *
  obtain ⟨c, t, hct, hc45⟩ := I_cons d
  have hh : ((I d).head? == some 45) = decide (d < 0) := by rw [hct, ← hc45]; simp
  rw [hh] at HB
  clear hct hc45 hh
  by_cases hneg : d < 0
  · have hdt : decide (d < 0) = true := decide_eq_true hneg
    rw [if_pos hneg] at hgd
    rw [hdt] at HB
    have hz : Ok (0 : Int) := ok_of (by decide)
    have HSU := Lib.hid (fun w' hg hs => ssub_ok b 0 ((Int.gcd n d : Nat) : Int) w' hg hs hz hk (by rw [Int.zero_sub, ← hgd]; exact hog))
    rw [Int.zero_sub, ← hgd] at HSU
    have H0 := Lib.hid I_zero
    clear hneg hgd hdt hz hk hn hd h0 hog l3
    generalize ((Int.gcd n d : Nat) : Int) = k at *
    go_enter Tryz.func167, Tryz.ntmps167
    go_wp2_with fail
    refine (HG.out).mono ?_
    rintro e w1 ⟨rfl, hb1⟩
    go_wp2_with fail
    refine (HB.out _).mono ?_
    rintro e w' ⟨rfl, rfl⟩
    go_wp2_with fail
    rw [show (Value.string ⟨#[48]⟩) = Value.string (bs (I 0)) by rw [H0.out]; rfl]
    refine (HSU.out _ (hg.of hb1) (HS.out.below' hb1)).mono ?_
    rintro e w2 ⟨rfl, hb2⟩
    have hb2 := Below.then hb1 hb2
    have hc2 := (HS.out.below' hb2).cell
    go_wp2_with fail
    refine (HQ1.out _ (hg.of hb2) (HS.out.below' hb2)).mono ?_
    rintro e w3 ⟨rfl, hb3⟩
    have hb3 := Below.then hb2 hb3
    go_wp2_with fail
    refine (HQ2.out _ (hg.of hb3) (HS.out.below' hb3)).mono ?_
    rintro e w4 ⟨rfl, hb4⟩
    have hb4 := Below.then hb3 hb4
    go_wp2_with fail
    refine (HJ.out _).mono ?_
    rintro e w' ⟨rfl, rfl⟩
    go_wp2
    go_ret
    exact Ret.of rfl hb4
  · have hdt : decide (d < 0) = false := decide_eq_false hneg
    rw [if_neg hneg] at hgd
    rw [hdt] at HB
    rw [← hgd] at HG
    clear hneg hgd hdt hk hn hd h0 hog l3
    go_enter Tryz.func167, Tryz.ntmps167
    go_wp2_with fail
    refine (HG.out).mono ?_
    rintro e w1 ⟨rfl, hb1⟩
    go_wp2_with fail
    refine (HB.out _).mono ?_
    rintro e w' ⟨rfl, rfl⟩
    have hc2 := (HS.out.below' hb1).cell
    go_wp2_with fail
    refine (HQ1.out _ (hg.of hb1) (HS.out.below' hb1)).mono ?_
    rintro e w3 ⟨rfl, hb3⟩
    have hb3 := Below.then hb1 hb3
    go_wp2_with fail
    refine (HQ2.out _ (hg.of hb3) (HS.out.below' hb3)).mono ?_
    rintro e w4 ⟨rfl, hb4⟩
    have hb4 := Below.then hb3 hb4
    go_wp2_with fail
    refine (HJ.out _).mono ?_
    rintro e w' ⟨rfl, rfl⟩
    go_wp2
    go_ret
    exact Ret.of rfl hb4
end W
end Go.Proofs.YtellemlhhlafcaaGreatDoor
end
section
namespace Go.Proofs.YtellemlhhlafcaaGreatDoor
open Go Go.RowKit Go.Deep
namespace M
def Bq (k : Nat) (q : Rat) : Prop := q.num.natAbs < 10 ^ k ∧ q.den < 10 ^ k
theorem Bq.mono {k j : Nat} {q : Rat} (h : Bq k q) (hk : k ≤ j) : Bq j q :=
  ⟨Nat.lt_of_lt_of_le h.1 (Nat.pow_le_pow_right (by decide) hk), Nat.lt_of_lt_of_le h.2 (Nat.pow_le_pow_right (by decide) hk)⟩
theorem pw_le {k j : Nat} (h : k ≤ j) : 10 ^ k ≤ pw j := Nat.pow_le_pow_right (by decide) h
theorem ok_pow {z : Int} {k : Nat} (h : z.natAbs < 10 ^ k) (hk : k ≤ 1024) : Ok z := Nat.lt_of_lt_of_le h (pw_le hk)
theorem Bq.num {k : Nat} {q : Rat} (h : Bq k q) (hk : k ≤ 1024) : Ok q.num := ok_pow h.1 hk
theorem Bq.den {k : Nat} {q : Rat} (h : Bq k q) (hk : k ≤ 1024) : Ok (q.den : Int) := ok_pow (by rw [Int.natAbs_natCast]; exact h.2) hk
theorem mul_pow {x y : Int} {j k : Nat} (hx : x.natAbs < 10 ^ j) (hy : y.natAbs < 10 ^ k) : (x * y).natAbs < 10 ^ (j + k) := by
  rw [Int.natAbs_mul, Nat.pow_add]; exact Nat.mul_lt_mul'' hx hy
theorem add_pow {x y : Int} {k : Nat} (hx : x.natAbs < 10 ^ k) (hy : y.natAbs < 10 ^ k) : (x + y).natAbs < 10 ^ (k + 1) := by
  rw [Nat.pow_succ]; omega
theorem sub_pow {x y : Int} {k : Nat} (hx : x.natAbs < 10 ^ k) (hy : y.natAbs < 10 ^ k) : (x - y).natAbs < 10 ^ (k + 1) := by
  rw [Nat.pow_succ]; omega
theorem divInt_le (n d : Int) (h : d ≠ 0) : (Rat.divInt n d).num.natAbs ≤ n.natAbs ∧ (Rat.divInt n d).den ≤ d.natAbs := by
  obtain ⟨l1, l2, _⟩ := low_num n d h _ rfl
  have k1 := Int.natAbs_fdiv_le_natAbs n (if d < 0 then -((Int.gcd n d : Nat) : Int) else ((Int.gcd n d : Nat) : Int))
  have k2 := Int.natAbs_fdiv_le_natAbs d (if d < 0 then -((Int.gcd n d : Nat) : Int) else ((Int.gcd n d : Nat) : Int))
  rw [l1] at k1
  rw [l2, Int.natAbs_natCast] at k2
  exact ⟨k1, k2⟩
theorem Bq_div {n d : Int} {k : Nat} (h : d ≠ 0) (hn : n.natAbs < 10 ^ k) (hd : d.natAbs < 10 ^ k) : Bq k (Rat.divInt n d) := by
  have := divInt_le n d h
  exact ⟨by omega, by omega⟩
theorem den_abs {q : Rat} {k : Nat} (h : Bq k q) : ((q.den : Nat) : Int).natAbs < 10 ^ k := by rw [Int.natAbs_natCast]; exact h.2
theorem dd_ne (a b : Rat) : (a.den : Int) * (b.den : Int) ≠ 0 := Int.mul_ne_zero (den_pos a) (den_pos b)
theorem up1 {x k : Nat} (h : x < 10 ^ k) : x < 10 ^ (k + 1) := Nat.lt_of_lt_of_le h (Nat.pow_le_pow_right (by decide) (Nat.le_succ _))
theorem Bq.add {a b : Rat} {j k : Nat} (ha : Bq j a) (hb : Bq k b) : Bq (j + k + 1) (a + b) := by
  rw [← add_div]
  exact Bq_div (dd_ne a b) (add_pow (mul_pow ha.1 (den_abs hb)) (by have := mul_pow hb.1 (den_abs ha); rwa [Nat.add_comm] at this)) (up1 (mul_pow (den_abs ha) (den_abs hb)))
theorem Bq.sub {a b : Rat} {j k : Nat} (ha : Bq j a) (hb : Bq k b) : Bq (j + k + 1) (a - b) := by
  rw [← sub_div]
  exact Bq_div (dd_ne a b) (sub_pow (mul_pow ha.1 (den_abs hb)) (by have := mul_pow hb.1 (den_abs ha); rwa [Nat.add_comm] at this)) (up1 (mul_pow (den_abs ha) (den_abs hb)))
theorem Bq.mul {a b : Rat} {j k : Nat} (ha : Bq j a) (hb : Bq k b) : Bq (j + k) (a * b) := by
  rw [← mul_div]
  exact Bq_div (dd_ne a b) (mul_pow ha.1 hb.1) (mul_pow (den_abs ha) (den_abs hb))
theorem Bq.R_len {q : Rat} {k : Nat} (h : Bq k q) (hk : k ≤ 1024) : (R q).length ≤ 2051 := by
  have h1 := (h.num hk).len
  have h2 := (h.den hk).len
  unfold R
  split
  · omega
  · simp; omega
theorem Bq.chk {q : Rat} {k : Nat} (h : Bq k q) (hk : k ≤ 1024) : chkR (R q) = 0 :=
  chkR_R q (h.num hk) (by have := h.den hk; unfold Ok at this; rwa [Int.natAbs_natCast] at this)
theorem chkRs_two {a b : Rat} {j k : Nat} (ha : Bq j a) (hb : Bq k b) (hj : j ≤ 1024) (hk : k ≤ 1024) : chkRs [R a, R b] = 0 := by
  simp [chkRs, ha.chk hj, hb.chk hk]
end M
namespace W
open M
attribute [local go_sem] bs_size bs_toList bs_get bs_extract bs_append bs_lit0 bs_lit1 lit1_bs
set_option maxHeartbeats 1000000
set_option maxRecDepth 20000
theorem cut_R (q : Rat) (w : World) (hg : Glob w) (hl : (R q).length ≤ 90000) :
    ∃ c, Calls Tryz.prog 94 #[.string (bs (R q))] w (Ret w (.tuple #[.string (bs (I q.num)), .string (bs (I (q.den : Int))), .bool c])) := by
  have := cut_any (R q) w hg (by omega)
  rw [R_cutN, R_cutD] at this
  exact ⟨_, this⟩
theorem made_ok (f : Nat) (a b : Rat) (n d : Int) (j k : Nat) (w : World) (hf : Enters Tryz.prog f) (hg : Glob w) (ha : Bq j a) (hb : Bq k b) (hj : j ≤ 1024) (hk : k ≤ 1024) (hn : Ok n) (hd : Ok d) (h0 : d ≠ 0)
    (hof : ∀ wx bx, Glob wx → NoErr wx bx → Calls Tryz.prog f #[.pointer (some ⟨bx, 0, none⟩), .string (bs (I a.num)), .string (bs (I (a.den : Int))), .string (bs (I b.num)), .string (bs (I (b.den : Int)))] wx (Ret wx (.tuple #[.string (bs (I n)), .string (bs (I d))]))) :
    Calls Tryz.prog 132 #[.string (bs (R a)), .string (bs (R b)), .func (.func f) #[] #[]] w (Ret w (.tuple #[.string (bs (R (Rat.divInt n d))), .int .i64 0])) := by
  have la := ha.R_len hj
  have lb := hb.R_len hk
  have hch := fun w' hg => checks_two (R a) (R b) w' hg (by omega) (by omega)
  rw [chkRs_two ha hb hj hk] at hch
  have HCH := Lib.hid hch
  have HCA := Lib.hid (fun w' hg => cut_R a w' hg (by omega))
  have HCB := Lib.hid (fun w' hg => cut_R b w' hg (by omega))
  have HOF := Lib.hid hof
  have HLO := Lib.hid (fun bx w' hg hs => lowest_ok bx n d w' hg hs hn hd h0)
  have hb0 : (I d == [48]) = false := by
    rw [beq_eq_false_iff_ne]
    intro e
    exact h0 (I_eq_zero.1 e)
  unfold Enters at hf
  clear hch hof ha hb hn hd h0
  generalize Rat.divInt n d = q at *
  go_enter Tryz.func132, Tryz.ntmps132
  go_wp2_with fail
  refine (HCH.out _ hg).mono ?_
  rintro e w1 ⟨rfl, hb1⟩
  have hb1 := alloc_then hb1
  obtain ⟨ca, hca⟩ := HCA.out _ (hg.of hb1)
  have HA := Lib.hid hca
  clear hca
  go_wp2_with fail
  refine (HA.out).mono ?_
  rintro e w2 ⟨rfl, hb2⟩
  have hb2 := Below.then hb1 hb2
  obtain ⟨cb, hcb⟩ := HCB.out _ (hg.of hb2)
  have HB := Lib.hid hcb
  clear hcb
  go_wp2_with fail
  refine (HB.out).mono ?_
  rintro e w3 ⟨rfl, hb3⟩
  have hb3 := Below.then hb2 hb3
  have hs4 := NoErr.new w3
  have hb4 : Below w.heap.size w (w3.alloc (.cells #[.int .i64 0] 278 (0, 0))) := hb3.alloc hb3.size _
  have HS4 := Lib.hid hs4
  have HB4 := Lib.hid hb4
  clear hs4 hb4
  go_wp2_with fail
  refine (HOF.out _ _ (hg.of HB4.out) HS4.out).mono ?_
  rintro e w5 ⟨rfl, hb5⟩
  have hb5' := Below.then HB4.out hb5
  have hs5 := HS4.out.below' hb5
  have hc5 := hs5.cell
  have HS5 := Lib.hid hs5
  clear hs5 hb5
  go_wp2_with fail
  refine (HLO.out _ _ (hg.of hb5') HS5.out).mono ?_
  rintro e w6 ⟨rfl, hb6⟩
  have hs6 := HS5.out.below' hb6
  have hc6 := hs6.cell
  have hb6' := Below.then hb5' hb6
  clear hs6 hb6 hc5
  go_wp2
  go_quiet (fail)
  go_wp2
  go_ret2
  exact Ret.of rfl (Below.drewN hb6' _)
end W
end Go.Proofs.YtellemlhhlafcaaGreatDoor
end
section
namespace Go.Proofs.YtellemlhhlafcaaGreatDoor
open Go Go.RowKit Go.Deep
namespace W
open M
attribute [local go_sem] bs_size bs_toList bs_get bs_extract bs_append bs_lit0 bs_lit1 lit1_bs
set_option maxHeartbeats 1000000
set_option maxRecDepth 20000
theorem ent_addc : Enters Tryz.prog 202 := enters_of Tryz.func202 (by kernel_rfl) rfl
theorem ent_subc : Enters Tryz.prog 200 := enters_of Tryz.func200 (by kernel_rfl) rfl
theorem ent_mulc : Enters Tryz.prog 133 := enters_of Tryz.func133 (by kernel_rfl) rfl
theorem ratAdd (a b : Rat) (j k : Nat) (w : World) (hg : Glob w) (ha : Bq j a) (hb : Bq k b) (hjk : j + k + 1 ≤ 1024) :
    Calls Tryz.prog 159 #[.string (bs (R a)), .string (bs (R b))] w (Ret w (.tuple #[.string (bs (R (a + b))), .int .i64 0])) := by
  have h1 := mul_pow ha.1 (den_abs hb)
  have h2 := mul_pow hb.1 (den_abs ha)
  have h4 := mul_pow (den_abs ha) (den_abs hb)
  rw [Nat.add_comm k j] at h2
  have h3 := add_pow h1 h2
  have HM := Lib.hid (made_ok 202 a b (a.num * (b.den : Int) + b.num * (a.den : Int)) ((a.den : Int) * (b.den : Int)) j k w ent_addc hg ha hb (by omega) (by omega) (ok_pow h3 (by omega)) (ok_pow h4 (by omega)) (dd_ne a b)
    (fun wx bx hgx hsx => add_c bx _ _ _ _ wx hgx hsx (ha.num (by omega)) (ha.den (by omega)) (hb.num (by omega)) (hb.den (by omega)) (ok_pow h1 (by omega)) (ok_pow h2 (by omega)) (ok_pow h3 (by omega)) (ok_pow h4 (by omega))))
  rw [add_div] at HM
  clear h1 h2 h3 h4 ha hb
  go_enter Tryz.func159, Tryz.ntmps159
  go_wp2_with fail
  refine (HM.out).mono ?_
  rintro e w1 ⟨rfl, hb1⟩
  go_wp2
  go_ret2
  exact Ret.of rfl hb1
theorem ratSub (a b : Rat) (j k : Nat) (w : World) (hg : Glob w) (ha : Bq j a) (hb : Bq k b) (hjk : j + k + 1 ≤ 1024) :
    Calls Tryz.prog 158 #[.string (bs (R a)), .string (bs (R b))] w (Ret w (.tuple #[.string (bs (R (a - b))), .int .i64 0])) := by
  have h1 := mul_pow ha.1 (den_abs hb)
  have h2 := mul_pow hb.1 (den_abs ha)
  have h4 := mul_pow (den_abs ha) (den_abs hb)
  rw [Nat.add_comm k j] at h2
  have h3 := sub_pow h1 h2
  have HM := Lib.hid (made_ok 200 a b (a.num * (b.den : Int) - b.num * (a.den : Int)) ((a.den : Int) * (b.den : Int)) j k w ent_subc hg ha hb (by omega) (by omega) (ok_pow h3 (by omega)) (ok_pow h4 (by omega)) (dd_ne a b)
    (fun wx bx hgx hsx => sub_c bx _ _ _ _ wx hgx hsx (ha.num (by omega)) (ha.den (by omega)) (hb.num (by omega)) (hb.den (by omega)) (ok_pow h1 (by omega)) (ok_pow h2 (by omega)) (ok_pow h3 (by omega)) (ok_pow h4 (by omega))))
  rw [sub_div] at HM
  clear h1 h2 h3 h4 ha hb
  go_enter Tryz.func158, Tryz.ntmps158
  go_wp2_with fail
  refine (HM.out).mono ?_
  rintro e w1 ⟨rfl, hb1⟩
  go_wp2
  go_ret2
  exact Ret.of rfl hb1
theorem ratMul (a b : Rat) (j k : Nat) (w : World) (hg : Glob w) (ha : Bq j a) (hb : Bq k b) (hjk : j + k ≤ 1024) :
    Calls Tryz.prog 92 #[.string (bs (R a)), .string (bs (R b))] w (Ret w (.tuple #[.string (bs (R (a * b))), .int .i64 0])) := by
  have h1 := mul_pow ha.1 hb.1
  have h4 := mul_pow (den_abs ha) (den_abs hb)
  have HM := Lib.hid (made_ok 133 a b (a.num * b.num) ((a.den : Int) * (b.den : Int)) j k w ent_mulc hg ha hb (by omega) (by omega) (ok_pow h1 (by omega)) (ok_pow h4 (by omega)) (dd_ne a b)
    (fun wx bx hgx hsx => mul_c bx _ _ _ _ wx hgx hsx (ha.num (by omega)) (ha.den (by omega)) (hb.num (by omega)) (hb.den (by omega)) (ok_pow h1 (by omega)) (ok_pow h4 (by omega))))
  rw [mul_div] at HM
  clear h1 h4 ha hb
  go_enter Tryz.func92, Tryz.ntmps92
  go_wp2_with fail
  refine (HM.out).mono ?_
  rintro e w1 ⟨rfl, hb1⟩
  go_wp2
  go_ret2
  exact Ret.of rfl hb1
theorem ratMake (n d : Int) (w : World) (hg : Glob w) (hn : Ok n) (hd : Ok d) (h0 : d ≠ 0) :
    Calls Tryz.prog 130 #[.string (bs (I n)), .string (bs (I d))] w (Ret w (.tuple #[.string (bs (R (Rat.divInt n d))), .int .i64 0])) := by
  have ln := hn.len
  have ld := hd.len
  have hc1 := fun w' => vcheck_any (I n) w' (by omega)
  have hc2 := fun w' => vcheck_any (I d) w' (by omega)
  rw [chk_I0 hn] at hc1
  rw [chk_I0 hd] at hc2
  have HC1 := Lib.hid hc1
  have HC2 := Lib.hid hc2
  have HLO := Lib.hid (fun bx w' hg hs => lowest_ok bx n d w' hg hs hn hd h0)
  have hb0 : (I d == [48]) = false := by
    rw [beq_eq_false_iff_ne]
    intro e
    exact h0 (I_eq_zero.1 e)
  clear hc1 hc2 hn hd h0
  generalize Rat.divInt n d = q at *
  generalize I n = sn at *
  generalize I d = sd at *
  go_enter Tryz.func130, Tryz.ntmps130
  go_wp2
  refine wp_loop_rounds 3 ?_
  rw [rounds_succ]
  go_wp2_with fail
  refine (HC1.out _).mono ?_
  rintro e w1 ⟨rfl, hb1⟩
  have hr1 := (Row.new w 185 [.string (bs sn), .string (bs sd)]).below' hb1
  have hb1 := alloc_then hb1
  have hcell : w1.cell? ⟨w.heap.size, 1, none⟩ = some (.string (bs sd)) := hr1.cell rfl
  clear hr1
  go_wp2
  rw [rounds_succ]
  go_wp2_with fail
  refine (HC2.out _).mono ?_
  rintro e w2 ⟨rfl, hb2⟩
  have hb2 := Below.then hb1 hb2
  clear hcell
  go_wp2
  rw [rounds_succ]
  have hs4 := NoErr.new w2
  have hb4 : Below w.heap.size w (w2.alloc (.cells #[.int .i64 0] 278 (0, 0))) := hb2.alloc hb2.size _
  have HS4 := Lib.hid hs4
  have HB4 := Lib.hid hb4
  clear hs4 hb4
  go_wp2_with fail
  refine (HLO.out _ _ (hg.of HB4.out) HS4.out).mono ?_
  rintro e w6 ⟨rfl, hb6⟩
  have hs6 := HS4.out.below' hb6
  have hc6 := hs6.cell
  have hb6' := Below.then HB4.out hb6
  clear hs6 hb6
  go_wp2
  go_ret2
  exact Ret.of rfl hb6'
end W
end Go.Proofs.YtellemlhhlafcaaGreatDoor
end
section
namespace Go.Proofs.YtellemlhhlafcaaGreatDoor
open Go Go.RowKit Go.Deep
namespace M
end M
namespace W
open M
attribute [local go_sem] bs_size bs_toList bs_get bs_extract bs_append bs_lit0 bs_lit1 lit1_bs
set_option maxHeartbeats 1000000
set_option maxRecDepth 20000
theorem R_int (z : Int) : R (z : Rat) = I z := by
  unfold R
  rw [Rat.den_intCast, if_pos rfl, Rat.num_intCast]
end W
end Go.Proofs.YtellemlhhlafcaaGreatDoor
end
