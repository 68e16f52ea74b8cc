/-
  The checks of the references of layer 1 and of chapter 26 at texts of whatever length (printed by wip/long.py).
  Chapter 26: 'right' of the laws.
  Chapter 26: the law 'DistUnits', walked.
  Chapter 26: the law 'DistUnits' for every list.
-/
import Derived.Test.YtgjfiaadnecilaaGreatDoorKQ
namespace Go.Proofs.YtgjfiaadnecilaaGreatDoor
open Go Go.RowKit Go.Deep
namespace W
open M
attribute [local go_sem] bs_size bs_toList bs_get bs_extract bs_append bs_lit0 bs_lit1 lit1_bs
set_option maxHeartbeats 1000000
set_option maxRecDepth 20000
theorem size_long (l : List UInt8) (w : World) (hs : l.length ≤ 9223372036854775807) :
    Calls Tryz.prog 87 #[.string (bs l)] w fun e w' => e = .returned (.string (bs (sz l))) ∧ w = w' := by
  rcases l with _ | ⟨c, t⟩
  · rw [sz_nil]
    go_enter Tryz.func87, Tryz.ntmps87
    go_wp2
    go_ret
    exact ⟨rfl, rfl⟩
  · by_cases hc : c = 45
    · subst hc
      rw [sz_minus]
      go_enter Tryz.func87, Tryz.ntmps87
      go_wp2
      go_ret
      exact ⟨by simp, rfl⟩
    · rw [sz_plain t hc]
      have h1 : ((c.toNat : Int) == 45) = false := by rw [b45]; simpa using hc
      go_enter Tryz.func87, Tryz.ntmps87
      go_wp2
      go_ret
      exact ⟨rfl, rfl⟩
theorem check_long (l : List UInt8) (w : World) (hl : l.length ≤ 9223372036854775807) :
    Calls Tryz.prog 67 #[.string (bs l)] w fun e w' => e = .returned (.int .i64 ((chk l : Nat) : Int)) ∧ w = w' := by
  have hsl := sz_len l
  have HC := Lib.hid (size_long l w (by omega))
  rcases hs : sz l with _ | ⟨c, t⟩
  · have hk := chk_a hs
    rw [hk]
    clear hk
    rw [hs] at HC
    go_enter Tryz.func67, Tryz.ntmps67
    go_wp2_with fail
    refine (HC.out).mono ?_
    rintro e w' ⟨rfl, rfl⟩
    go_wp2
    go_ret
    exact ⟨rfl, rfl⟩
  · by_cases hb : c = 48 ∧ (1 < (sz l).length ∨ 1 < l.length)
    · obtain ⟨rfl, hb⟩ := hb
      have hk := chk_b hs hb
      rw [hk]
      clear hk
      rw [hs] at HC hb hsl
      clear hs
      by_cases h1 : 1 < (48 :: t : List UInt8).length
      · simp only [List.length_cons] at h1 hsl
        clear hb
        go_enter Tryz.func67, Tryz.ntmps67
        go_wp2_with fail
        refine (HC.out).mono ?_
        rintro e w' ⟨rfl, rfl⟩
        go_wp2
        all_goals go_ret
        all_goals exact ⟨rfl, rfl⟩
      · have h2 : 1 < l.length := by omega
        simp only [List.length_cons] at h1 hsl
        clear hb
        go_enter Tryz.func67, Tryz.ntmps67
        go_wp2_with fail
        refine (HC.out).mono ?_
        rintro e w' ⟨rfl, rfl⟩
        go_wp2
        all_goals go_ret
        all_goals exact ⟨rfl, rfl⟩
    · have hnot : ¬ (sz l = [] ∨ ((sz l).head? = some 48 ∧ (1 < (sz l).length ∨ 1 < l.length))) := by
        rintro (h | ⟨h, h'⟩)
        · rw [hs] at h; cases h
        · rw [hs] at h; exact hb ⟨Option.some.inj h, h'⟩
      have HD := Lib.hid (chk_d hnot)
      have HX := Lib.hid (fun (i : Nat) (hi : i < (sz l).length) => chk_c (l := l) hi)
      have hcase : (((c.toNat : Nat) : Int) == 48) = false ∨ (c = 48 ∧ t = [] ∧ l.length ≤ 1) := by
        by_cases hc : c = 48
        · right
          have h3 : ¬ (1 < (sz l).length ∨ 1 < l.length) := fun h => hb ⟨hc, h⟩
          rw [hs] at h3
          simp only [List.length_cons] at h3
          exact ⟨hc, List.length_eq_zero_iff.1 (by omega), by omega⟩
        · left; rw [b48]; simpa using hc
      have hlen : 1 ≤ (sz l).length := by rw [hs]; simp
      generalize hch : ((chk l : Nat) : Int) = ch at *
      have HCH := Lib.hid hch
      clear hb hnot hch
      rcases hcase with hc0 | ⟨rfl, rfl, hll⟩
      all_goals
        rw [hs] at HC
        go_enter Tryz.func67, Tryz.ntmps67
        go_wp2_with fail
        refine (HC.out).mono ?_
        rintro e w' ⟨rfl, rfl⟩
        go_wp2
        rw [← hs]
        generalize sz l = s at *
        clear hs
        go_loop [4] (fun iv => ∃ i : Nat, iv = .int .i64 (i : Int) ∧ i ≤ s.length ∧ Hid (∀ c ∈ s.take i, 48 ≤ c.toNat ∧ c.toNat ≤ 57)) (fun iv => s.length - (intOf iv).toNat)
        case atStart => exact ⟨0, rfl, by omega, fun c h => by simp at h⟩
        case round =>
          obtain ⟨i, rfl, hi, hdi⟩ := hrel
          by_cases hlt : i < s.length
          · by_cases hd : 48 ≤ (s[i].toNat : Int) ∧ (s[i].toNat : Int) ≤ 57
            · go_wp2
              go_round
              case rel =>
                refine ⟨i + 1, by go_num, by omega, fun c hc => ?_⟩
                rw [List.take_succ_eq_append_getElem hlt] at hc
                rcases List.mem_append.1 hc with h | h
                · exact hdi.out c h
                · rw [List.mem_singleton] at h; subst h; omega
              case measure => simp [intOf]; omega
            · have HK := Lib.hid (HX.out i hlt hd)
              rcases (by omega : (s[i].toNat : Int) < 48 ∨ 57 < (s[i].toNat : Int)) with h | h
              all_goals
                clear hd
                go_wp2
                go_ret
                exact ⟨ret_int (by rw [← HCH.out, HK.out]; rfl), rfl⟩
          · obtain rfl : i = s.length := by omega
            have hds : Digs s := by
              have := hdi.out
              rwa [List.take_length] at this
            have HK := Lib.hid (HD.out hds)
            by_cases h : 1024 < s.length
            all_goals try (exfalso; omega)
            all_goals
              go_wp2
              go_ret
              refine ⟨ret_int ?_, rfl⟩
              rw [← HCH.out, HK.out]
              first | rw [if_pos h] | rw [if_neg h]
              rfl
theorem rcheck_long (l : List WT) (b o cap : Nat) (w : World) (hw : WSl w b o l) (hn : l ≠ []) (hl : l.length ≤ 4096) (hs : ∀ x ∈ l, x.2.length ≤ 9223372036854775807) :
    Calls Tryz.prog 25 #[.slice (some ⟨b, o, none⟩) l.length cap] w (Ret w (.int .i64 ((chkW none l : Nat) : Int))) := by
  have h0 : ((l.length : Int) == 0) = false := by
    have := List.length_pos_iff.2 hn
    simp; omega
  have h1 : decide ((l.length : Int) > 4096) = false := by simp; omega
  have HW := Lib.hid hw
  have HS := Lib.hid hs
  have H0 := Lib.hid I_zero
  generalize hch : ((chkW none l : Nat) : Int) = ch
  have HCH := Lib.hid hch
  clear hw hn hs hch
  go_enter Tryz.func25, Tryz.ntmps25
  go_wp2
  go_loopw [3] (fun iv wr => ∃ i : Nat, iv = .int .i64 (i : Int) ∧ i ≤ l.length ∧ Hid (chkW none l = chkW (prevW l i) (l.drop i)) ∧ Below w.heap.size w wr) (fun iv _ => l.length - (intOf iv).toNat)
  case atStart => exact ⟨0, rfl, by omega, (rfl : chkW none l = chkW (prevW l 0) (l.drop 0)), Below.refl _ _⟩
  case round =>
    obtain ⟨i, rfl, hi, hk, hbw⟩ := hrel
    by_cases hlt : i < l.length
    · have hwr := HW.out.below' hbw
      have cv := hwr.val i hlt
      have cw := hwr.wt i hlt
      have hk2 := hk.out
      rw [chkW_drop l i hlt] at hk2
      have hlen := HS.out _ (List.getElem_mem hlt)
      have hwlt := hwr.lt
      clear hk hwr
      obtain ⟨x, hx⟩ : ∃ x, l[i] = x := ⟨_, rfl⟩
      rw [hx] at cv cw hk2 hlen
      obtain ⟨v, s⟩ := x
      simp only at cv cw hlen
      have HX := Lib.hid hx
      clear hx
      by_cases hc : chk s = 0
      · obtain ⟨z, rfl, hz⟩ := ok_of_chk hc
        have hv := check_long (I z)
        rw [hc] at hv
        have HV := Lib.hid hv
        have hzl := hz.len
        have hso := fun w' => order_I z 0 w' (by omega) (by rw [I_zero]; decide)
        rw [Int.sub_zero] at hso
        have HSG := Lib.hid hso
        clear hzl hso
        by_cases hz0 : z ≤ 0
        · have hb : badW (prevW l i) (v, I z) = 2 := by
            unfold badW; simp only; rw [hc, if_neg (by decide), zv_I, if_pos (Or.inl hz0)]
          rw [hb] at hk2
          have HK := Lib.hid hk2
          have hsg : Int.sign z ≤ 0 := by rcases sign_cases z with ⟨_, h⟩ | ⟨_, h⟩ | ⟨_, h⟩ <;> omega
          clear hk2 hb hv hc hz hz0
          generalize Int.sign z = sg at *
          go_wp2_with fail
          refine (HV.out _ (by omega)).mono ?_
          rintro e w' ⟨rfl, rfl⟩
          go_wp2_with fail
          rw [show (Value.string ⟨#[48]⟩) = Value.string (bs (I 0)) by rw [H0.out]; rfl]
          refine (HSG.out _).mono ?_
          rintro e w2 ⟨rfl, hb2⟩
          go_wp2
          go_ret
          exact Ret.of (by rw [← HCH.out, HK.out]; rfl) (hbw.trans (hb2.mono hbw.size))
        · have hsg : 0 < Int.sign z := by rcases sign_cases z with ⟨_, h⟩ | ⟨_, h⟩ | ⟨_, h⟩ <;> omega
          by_cases hov : okv v = true
          · have HOV := Lib.hid (fun w' => value_any v w')
            rw [hov] at HOV
            rcases i with _ | j
            · have hb : badW (prevW l 0) (v, I z) = 0 := by
                unfold badW; simp only; rw [hc, if_neg (by decide), zv_I, if_neg (by rw [hov]; simp; omega), prevW_zero]
              rw [hb, if_neg (by decide)] at hk2
              have HK := Lib.hid hk2
              clear hk2 hb hv hc hz hz0 hov
              generalize Int.sign z = sg at *
              have e0 : (((0 : Nat)) : Int) = 0 := rfl
              rw [e0]
              clear e0
              rw [Nat.zero_mul, Nat.add_zero] at cv cw
              go_wp2_with fail
              refine (HV.out _ (by omega)).mono ?_
              rintro e w' ⟨rfl, rfl⟩
              go_wp2_with fail
              rw [show (Value.string ⟨#[48]⟩) = Value.string (bs (I 0)) by rw [H0.out]; rfl]
              refine (HSG.out _).mono ?_
              rintro e w2 ⟨rfl, hb2⟩
              have c2 := (hb2.cell (p := ⟨b, o, none⟩) hwlt).trans cv
              go_wp2_with fail
              refine (HOV.out _).mono ?_
              rintro e w' ⟨rfl, rfl⟩
              go_wp2
              go_quiet (fail)
              go_wp2
              go_roundw
              case rel => exact ⟨1, rfl, by omega, HK, hbw.trans (Below.drewN (hb2.mono hbw.size) _)⟩
              case measure => simp [intOf]; omega
            · have hlj : j < l.length := by omega
              have cp := (HW.out.below' hbw).val j hlj
              have hpv : prevW l (j + 1) = some l[j].1 := prevW_succ l j hlj
              obtain ⟨u, hu⟩ : ∃ u, l[j].1 = u := ⟨_, rfl⟩
              rw [hu] at cp hpv
              have hjb : j < 4096 := by omega
              clear hu
              by_cases hle : v ≤ u
              · have hb : badW (prevW l (j + 1)) (v, I z) = 9 := by
                  unfold badW; simp only; rw [hc, if_neg (by decide), zv_I, if_neg (by rw [hov]; simp; omega), hpv]
                  exact if_pos hle
                rw [hb, if_pos (by decide)] at hk2
                have HK := Lib.hid hk2
                clear hk2 hb hv hc hz hz0 hov hpv
                generalize Int.sign z = sg at *
                rw [show ((j + 1 : Nat) : Int) = (j : Int) + 1 by omega]
                have j0 : (0 : Int) ≤ (j : Int) := by omega
                have hwr2 : IntKind.i64.wrap ((j : Int) + 1 - 1) = (j : Int) := by rw [show (j : Int) + 1 - 1 = (j : Int) by omega]; exact IntWalk.i64_in _ (by omega)
                go_wp2_with fail
                refine (HV.out _ (by omega)).mono ?_
                rintro e w' ⟨rfl, rfl⟩
                go_wp2_with fail
                rw [show (Value.string ⟨#[48]⟩) = Value.string (bs (I 0)) by rw [H0.out]; rfl]
                refine (HSG.out _).mono ?_
                rintro e w2 ⟨rfl, hb2⟩
                have c2 := (hb2.cell (p := ⟨b, o + (j + 1) * 2, none⟩) hwlt).trans cv
                have cp2 := (hb2.cell (p := ⟨b, o + j * 2, none⟩) hwlt).trans cp
                clear cp cv cw
                go_wp2_with fail
                refine (HOV.out _).mono ?_
                rintro e w' ⟨rfl, rfl⟩
                go_wp2
                go_quiet (fail)
                go_wp2
                go_ret
                exact Ret.of (by rw [← HCH.out, HK.out]; rfl) (hbw.trans (Below.drewN (hb2.mono hbw.size) _))
              · have hb : badW (prevW l (j + 1)) (v, I z) = 0 := by
                  unfold badW; simp only; rw [hc, if_neg (by decide), zv_I, if_neg (by rw [hov]; simp; omega), hpv]
                  exact if_neg hle
                rw [hb, if_neg (by decide)] at hk2
                have HK := Lib.hid hk2
                clear hk2 hb hv hc hz hz0 hov hpv
                generalize Int.sign z = sg at *
                rw [show ((j + 1 : Nat) : Int) = (j : Int) + 1 by omega]
                have j0 : (0 : Int) ≤ (j : Int) := by omega
                have hwr2 : IntKind.i64.wrap ((j : Int) + 1 - 1) = (j : Int) := by rw [show (j : Int) + 1 - 1 = (j : Int) by omega]; exact IntWalk.i64_in _ (by omega)
                go_wp2_with fail
                refine (HV.out _ (by omega)).mono ?_
                rintro e w' ⟨rfl, rfl⟩
                go_wp2_with fail
                rw [show (Value.string ⟨#[48]⟩) = Value.string (bs (I 0)) by rw [H0.out]; rfl]
                refine (HSG.out _).mono ?_
                rintro e w2 ⟨rfl, hb2⟩
                have c2 := (hb2.cell (p := ⟨b, o + (j + 1) * 2, none⟩) hwlt).trans cv
                have cp2 := (hb2.cell (p := ⟨b, o + j * 2, none⟩) hwlt).trans cp
                clear cp cv cw
                go_wp2_with fail
                refine (HOV.out _).mono ?_
                rintro e w' ⟨rfl, rfl⟩
                go_wp2
                go_quiet (fail)
                go_wp2
                go_roundw
                case rel => exact ⟨j + 2, by go_num, by omega, HK, hbw.trans (Below.drewN (hb2.mono hbw.size) _)⟩
                case measure => simp [intOf]; omega
          · have hb : badW (prevW l i) (v, I z) = 2 := by
              unfold badW; simp only; rw [hc, if_neg (by decide), zv_I, if_pos (Or.inr (Bool.eq_false_iff.2 hov))]
            rw [hb] at hk2
            have HK := Lib.hid hk2
            have HOV := Lib.hid (fun w' => value_any v w')
            rw [Bool.eq_false_iff.2 hov] at HOV
            clear hk2 hb hv hc hz hz0 hov
            generalize Int.sign z = sg at *
            go_wp2_with fail
            refine (HV.out _ (by omega)).mono ?_
            rintro e w' ⟨rfl, rfl⟩
            go_wp2_with fail
            rw [show (Value.string ⟨#[48]⟩) = Value.string (bs (I 0)) by rw [H0.out]; rfl]
            refine (HSG.out _).mono ?_
            rintro e w2 ⟨rfl, hb2⟩
            have c2 := (hb2.cell (p := ⟨b, o + i * 2, none⟩) hwlt).trans cv
            clear cv cw
            go_wp2_with fail
            refine (HOV.out _).mono ?_
            rintro e w' ⟨rfl, rfl⟩
            go_wp2
            go_ret
            exact Ret.of (by rw [← HCH.out, HK.out]; rfl) (hbw.trans (hb2.mono hbw.size))
      · have hb : badW (prevW l i) (v, s) = chk s := by unfold badW; rw [if_pos hc]
        rw [hb, if_pos hc] at hk2
        have HK := Lib.hid hk2
        have hv := check_long s
        have hz : (((chk s : Nat) : Int) == 0) = false := by simp; exact hc
        generalize chk s = q at *
        have HV := Lib.hid hv
        clear hk2 hb hv hc
        go_wp2_with fail
        refine (HV.out _ (by omega)).mono ?_
        rintro e w' ⟨rfl, rfl⟩
        go_wp2
        go_ret
        exact Ret.of (by rw [← HCH.out, HK.out]; rfl) hbw
    · obtain rfl : i = l.length := by omega
      have hk2 := hk.out
      rw [List.drop_length] at hk2
      have HK := Lib.hid hk2
      clear hk hk2
      go_wp2
      go_ret
      exact Ret.of (by rw [← HCH.out, HK.out]; rfl) hbw
end W
end Go.Proofs.YtgjfiaadnecilaaGreatDoor
namespace Go.Proofs.YtgjfiaadnecilaaGreatDoor
open Go Go.RowKit Go.Deep
namespace W
open M
attribute [local go_sem] bs_size bs_toList bs_get bs_extract bs_append bs_lit0 bs_lit1 lit1_bs
set_option maxHeartbeats 1000000
set_option maxRecDepth 20000
theorem right_many (A : Option Addr) (n cap : Nat) (w : World) (h : 12 < n) (hn : n ≤ maxLen) :
    Calls Tryz.prog 38 #[.slice A n cap] w (Ret w (.bool false)) := by
  unfold maxLen at hn
  have d : decide ((n : Int) ≤ 12) = false := by simp; omega
  go_enter Tryz.func38, Tryz.ntmps38
  go_wp2
  go_ret
  exact Ret.of rfl (Below.refl _ _)
theorem right_bad (A : Option Addr) (n cap : Nat) (c : Nat) (w : World) (h : n ≤ 12) (hc : Calls Tryz.prog 25 #[.slice A n cap] w (Ret w (.int .i64 (c : Int)))) (h0 : c ≠ 0) :
    Calls Tryz.prog 38 #[.slice A n cap] w (Ret w (.bool false)) := by
  have d : decide ((n : Int) ≤ 12) = true := by simp; omega
  have hz : ((c : Int) == 0) = false := by simp; exact h0
  have HC := Lib.hid hc
  clear hc h0
  go_enter Tryz.func38, Tryz.ntmps38
  go_wp2_with fail
  refine (HC.out).mono ?_
  rintro e w1 ⟨rfl, hb1⟩
  go_wp2
  go_ret
  exact Ret.of rfl hb1
theorem right_good (zl : List ZT) (b o cap : Nat) (w : World) (hw : WSl w b o (tx zl)) (h : zl.length ≤ 12) (hc : ∀ wx, Below w.heap.size w wx → Calls Tryz.prog 25 #[.slice (some ⟨b, o, none⟩) zl.length cap] wx (Ret wx (.int .i64 0))) :
    Calls Tryz.prog 38 #[.slice (some ⟨b, o, none⟩) zl.length cap] w (Ret w (.bool (!(zl.any fun x => decide (15 < (I x.2).length))))) := by
  have d : decide ((zl.length : Int) ≤ 12) = true := by simp; omega
  have HC := Lib.hid hc
  have HX := Lib.hid (fun wx (hb : Below w.heap.size w wx) => contains_any 82 (fun x => decide (15 < (I x.2).length)) zl b o cap wx ent_rig (hw.below' hb) (by omega) (fun wy _ x _ => rig_pred x wy))
  clear hc hw
  generalize zl.any (fun x => decide (15 < (I x.2).length)) = a at *
  go_enter Tryz.func38, Tryz.ntmps38
  go_wp2_with fail
  refine (HC.out _ (Below.refl _ _)).mono ?_
  rintro e w1 ⟨rfl, hb1⟩
  go_wp2_with fail
  refine (HX.out _ hb1).mono ?_
  rintro e w2 ⟨rfl, hb2⟩
  go_wp2
  go_ret
  exact Ret.of rfl (Below.then hb1 hb2)
/-- What 'right' reports, and what a right list is. -/
theorem right_any (v : Value) (l : List WT) (w : World) (hv : RdW w v l) (hn : l.length ≤ maxLen) (hs : ∀ x ∈ l, x.2.length ≤ maxLen) :
    ∃ r : Bool, (∀ wx, Below w.heap.size w wx → Calls Tryz.prog 38 #[v] wx (Ret wx (.bool r))) ∧
      (r = true → ∃ zl b o cap, v = .slice (some ⟨b, o, none⟩) zl.length cap ∧ WSl w b o (tx zl) ∧ GoodL zl ∧ zl.length ≤ 12 ∧ ∀ x ∈ zl, x.2.natAbs < 10 ^ 15) := by
  obtain ⟨A, cap, rfl, h⟩ := hv
  by_cases h12 : l.length ≤ 12
  · rcases h with rfl | ⟨b, o, rfl, hw⟩
    · exact ⟨false, fun wx _ => right_bad A 0 cap 13 wx (by decide) (rcheck_len A 0 cap wx (Or.inl rfl) (Nat.zero_le _)) (by decide), fun h => by cases h⟩
    · by_cases hne : l = []
      · subst hne
        exact ⟨false, fun wx _ => right_bad _ 0 cap 13 wx (by decide) (rcheck_len _ 0 cap wx (Or.inl rfl) (Nat.zero_le _)) (by decide), fun h => by cases h⟩
      · have hck := fun wx (hb : Below w.heap.size w wx) => rcheck_long l b o cap wx (hw.below' hb) hne (by omega) (fun x hx => hs x hx)
        by_cases hc : chkW none l = 0
        · obtain ⟨zl, rfl, hr⟩ := chkW_right l none hc
          rw [M.tx_len] at h12 hn
          rw [hc, M.tx_len] at hck
          refine ⟨!(zl.any fun x => decide (15 < (I x.2).length)), fun wx hx => ?_, fun hr2 => ?_⟩
          · rw [M.tx_len]
            exact right_good zl b o cap wx (hw.below' hx) h12 (fun wy hy => hck wy (Below.then hx hy))
          · have hz : ∀ x ∈ zl, x.2.natAbs < 10 ^ 15 := by
              intro x hx
              refine I_short ?_ (by decide)
              refine Nat.le_of_not_lt fun hlt => ?_
              have : (zl.any fun x => decide (15 < (I x.2).length)) = true := List.any_eq_true.2 ⟨x, hx, by simpa using hlt⟩
              rw [this] at hr2; cases hr2
            rw [M.tx_len]
            exact ⟨zl, b, o, cap, rfl, hw, ⟨hr, fun e => hne (by rw [e]; rfl), by omega, fun x hx => pow_up (hz x hx) (by decide)⟩, h12, hz⟩
        · refine ⟨false, fun wx hx => right_bad _ l.length cap _ wx h12 (hck wx hx) hc, fun h => by cases h⟩
  · exact ⟨false, fun wx _ => right_many A l.length cap wx (by omega) hn, fun h => by cases h⟩
end W
end Go.Proofs.YtgjfiaadnecilaaGreatDoor
namespace Go.Proofs.YtgjfiaadnecilaaGreatDoor
open Go Go.RowKit Go.Deep
namespace M
theorem Bq_one30 : Bq 30 (1 : Rat) := by
  have : ((1 : Int) : Rat) = 1 := rfl
  rw [← this]; exact Bq_int (by decide) (by decide)
theorem Un_zero : Un 0 := by unfold Un; constructor <;> grind
theorem Un_one : Un 1 := by unfold Un; constructor <;> grind
theorem kmu_txlen (k : Int) (zl : List ZT) : (tx (kmu k zl)).length = zl.length := by rw [tx_len, kmu_len]
theorem kmu_ne {k : Int} {zl : List ZT} (h : zl ≠ []) : tx (kmu k zl) ≠ [] := by
  intro e; exact h (List.map_eq_nil_iff.1 (List.map_eq_nil_iff.1 e))
end M
theorem grown_cell {a b : World} {row : Option Nat} (h : a.grownBy b row) {p : Addr} (hlt : p.block < a.heap.size) (hne : some p.block ≠ row) : b.cell? p = a.cell? p := by
  unfold World.cell?; rw [h.block p.block hlt hne]
theorem OwnW.off {w : World} {B : Nat} {v : Value} {l : List M.WT} (h : OwnW w B v l) {A : Nat} (hA : w.heap.size ≤ A) : some A ≠ v.ownBlock := fun e => by
  have := (World.ownsRow.lt h A e.symm).2; omega
theorem run_app_rdg {w : World} {B : Nat} {v x : Value} {l m : List M.WT} (ty : TypeId) (h : OwnW w B v l) (hx : SrcW w x m) (hB : B ≤ w.heap.size) (hn : l.length + m.length ≤ 1000000000) :
    ∃ v' w', (Builtin.append_ #[22, 22] ty #[v, x]).run Tryz.prog w = .ok v' w' ∧ OwnW w' B v' (l ++ m) ∧ w.grownBy w' v.ownBlock := by
  obtain ⟨i, h1, h2, h3, h4⟩ := info_parts infoWt
  rcases hx with ⟨rfl, rfl⟩ | ⟨b, o, cap, rfl, hc⟩
  · refine ⟨v, w, run_append_owned_none (P := Tryz.prog) (w := w) B _ ty _ i 2 Tryz.underlying22 h1 v l.length (wcs l) h, ?_, ⟨rfl, rfl, rfl, Nat.le_refl _, fun _ _ _ => rfl⟩⟩
    rw [List.append_nil]; exact h
  · have hadd : ∀ j, (⟨b, o, none⟩ : Addr).add j = ⟨b, o + j, none⟩ := fun j => by unfold Addr.add; split <;> simp_all
    obtain ⟨v', w', k1, k2, k3, _⟩ := run_append_own (P := Tryz.prog) w B _ ty _ i _ 2 24 Tryz.underlying22 h1 h2 h3 h4 rfl (by decide) v l.length (wcs l) h ⟨b, o, none⟩ m.length cap (wcs m) (wcs_len m)
      (fun j u hj => by rw [hadd]; exact hc j u hj) (wcs_one m) (by unfold maxLen; omega) (by omega) hB
    refine ⟨v', w', k1, ?_, k3⟩
    unfold OwnW
    rw [wcs_append, List.length_append]
    exact k2
/-- 'append' in a region that draws its order: what else there is stays. -/
theorem step_app_rdg {ops : Array Oper} {o : Oper} {a : Act} {K : Act → World → Prop} {Q : Exit → Act → World → Prop} {E : Prop} {w : World} {B : Nat} {v xv : Value} {l m : List M.WT} (hgd : o.guard = none) (s x : Operand)
    (ho : o.op = .call { callee := .builtin .append, args := #[s, x], argTypes := #[22, 22] }) (hs : a.eval s = v) (hx : a.eval x = xv)
    (h : OwnW w B v l) (hsrc : SrcW w xv m) (hB : B ≤ w.heap.size) (hn : l.length + m.length ≤ 1000000000)
    (hK : ∀ v' w', OwnW w' B v' (l ++ m) → w.grownBy w' v.ownBlock → K (a.put o.dst v') w') : if Region.wanted o (yielded ops a.tmps) = true then Oper.wp Tryz.prog o a w K Q else E := by
  have hw : Region.wanted o (yielded ops a.tmps) = true := by simp [Region.wanted, hgd]
  rw [if_pos hw]
  obtain ⟨v', w', hr, h2, h3⟩ := run_app_rdg o.type h hsrc hB hn
  unfold Oper.wp execOp
  simp only [ho, resolve, invoke, builtin, Sem.run_bind, Sem.run_pure, Result.andThen_ok, List.map_toArray, List.map_cons, List.map_nil, hs, hx, hr]
  exact hK v' w' h2 h3
namespace W
open M
attribute [local go_sem] bs_size bs_toList bs_get bs_extract bs_append bs_lit0 bs_lit1 lit1_bs
set_option maxHeartbeats 2000000
set_option maxRecDepth 20000
theorem units_good (zl : List ZT) (b o cap : Nat) (n : Int) (w : World) (hg : Glob w) (hw : WSl w b o (tx zl)) (h : GoodL zl) (h12 : zl.length ≤ 12) (h15 : ∀ x ∈ zl, x.2.natAbs < 10 ^ 15) (hu : 0 ≤ n ∧ n ≤ 255)
    (hr : Calls Tryz.prog 38 #[.slice (some ⟨b, o, none⟩) zl.length cap] w (Ret w (.bool true))) :
    Calls Tryz.prog 8 #[.slice (some ⟨b, o, none⟩) zl.length cap, .int .u8 n] w (Ret w (.bool true)) := by
  have hpos := List.length_pos_iff.2 h.2.1
  have hlast : zl.length - 1 < zl.length := by omega
  obtain ⟨k, hk⟩ : ∃ k, k = 1 + n := ⟨_, rfl⟩
  have hk1 : 1 ≤ k := by omega
  have hk2 : k ≤ 256 := by omega
  have hgk := kmu_good h hk1 hk2 h15
  have HR := Lib.hid hr
  have HW := Lib.hid hw
  have HAW := Lib.hid (fun wx hgx => awake_ok wx hgx)
  have HOF := Lib.hid (fun wx => of_any (1 + n) wx (by omega) (by omega))
  rw [show I (1 + n) = I k by rw [hk]] at HOF
  have HTI := Lib.hid (fun i (hi : i < zl.length) wx => times_I zl[i].2 k wx (Nat.le_trans (I_le (h15 _ (List.getElem_mem hi)) (by decide)) (by decide)) (Nat.le_trans (I_le (k := 3) (by rw [show (10 : Nat) ^ 3 = 1000 by decide]; omega) (by decide)) (by decide)))
  have HPR := Lib.hid (fun i (hi : i < zl.length) wx (hb : Below w.heap.size w wx) => probability_ok zl b o cap zl[i].1 zl[i].1 wx (hg.of hb) (hw.below' hb) h (Int.le_refl _))
  have HAD := Lib.hid (fun i (hi : i < zl.length) wx hgx => ratAdd (parQ (·.2) zl i) (probQ zl zl[i].1 zl[i].1) 43 43 wx hgx (h.par_bq (·.2) 40 (by decide) h.2.2.2 i (Nat.le_of_lt hi)) (h.prob_bq _ _) (by decide))
  have HAD2 := Lib.hid (fun i hi wx hgx => (prob_one h i hi) ▸ HAD.out i hi wx hgx)
  have HALL := Lib.hid (fun wx (hb : Below w.heap.size w wx) => probability_ok zl b o cap zl[0].1 zl[zl.length - 1].1 wx (hg.of hb) (hw.below' hb) h (RightZ.last h.1 hlast _ (List.getElem_mem hpos)))
  rw [prob_all h hpos hlast, R_one] at HALL
  have HM := Lib.hid (fun wx (hb : Below w.heap.size w wx) => mean_ok zl b o cap wx (hg.of hb) (hw.below' hb) h)
  have HMK := Lib.hid (fun g gc wx hgx hwx => mean_ok (kmu k zl) g 0 gc wx hgx hwx hgk)
  rw [kmu_mean h (by omega), kmu_len] at HMK
  have HV := Lib.hid (fun wx (hb : Below w.heap.size w wx) => variance_ok zl b o cap wx (hg.of hb) (hw.below' hb) h)
  have HVK := Lib.hid (fun g gc wx hgx hwx => variance_ok (kmu k zl) g 0 gc wx hgx hwx hgk)
  rw [kmu_var h (by omega), kmu_len] at HVK
  have HRD := Lib.hid (fun wx (hb : Below w.heap.size w wx) => reduce_ok zl b o cap wx (hg.of hb) (hw.below' hb) h)
  have HRK := Lib.hid (fun g gc wx hgx hwx => reduce_ok (kmu k zl) g 0 gc wx hgx hwx hgk)
  rw [kmu_red h hk1, kmu_len] at HRK
  have HQ0 := Lib.hid (fun wx (hb : Below w.heap.size w wx) => quantile_ok zl b o cap 0 wx (hg.of hb) (hw.below' hb) h (Bq_zero.mono (by decide)) Un_zero)
  rw [R_zero, quan_zero h hpos] at HQ0
  have HQ1 := Lib.hid (fun wx (hb : Below w.heap.size w wx) => quantile_ok zl b o cap 1 wx (hg.of hb) (hw.below' hb) h Bq_one30 Un_one)
  rw [R_one, quan_one h hlast] at HQ1
  have hredl := redZ_len (gall zl) zl
  have HSA := Lib.hid (fun va vb wx ha hb => same_ret va vb (tx (redZ (gall zl) zl)) wx ha hb (by omega))
  have hv0 := (h.1.mem _ (List.getElem_mem hpos)).2.2
  have hv1 := (h.1.mem _ (List.getElem_mem hlast)).2.2
  have HW0 := Lib.hid (fun wx => whole_R zl[0].1 wx (by omega) (by omega))
  have HW1 := Lib.hid (fun wx => whole_R zl[zl.length - 1].1 wx (by omega) (by omega))
  have HC0 := Lib.hid (fun wx hgx => ratCompare (zl[0].1 : Rat) (meanQ zl) 8 113 wx hgx (Bq_val hv0) h.mean_bq (by decide))
  have HC1 := Lib.hid (fun wx hgx => ratCompare (meanQ zl) (zl[zl.length - 1].1 : Rat) 113 8 wx hgx h.mean_bq (Bq_val hv1) (by decide))
  have hle0 : cmpQ (zl[0].1 : Rat) (meanQ zl) ≤ 0 := Int.not_lt.1 fun hc => Rat.not_lt.2 (mean_low h hpos) (cmpQ_gt.1 hc)
  have hle1 : cmpQ (meanQ zl) (zl[zl.length - 1].1 : Rat) ≤ 0 := Int.not_lt.1 fun hc => Rat.not_lt.2 (mean_high h hlast) (cmpQ_gt.1 hc)
  have HIS := Lib.hid (R_is0 h)
  have HSTEP := Lib.hid (fun i (hi : i < zl.length) => kmu_take k zl i hi)
  have HLEN := Lib.hid (fun i => kmu_txlen k (zl.take i))
  have HFULL := Lib.hid (And.intro (kmu_txlen k zl) (kmu_ne (k := k) h.2.1))
  have HP0 : Hid (parQ (·.2) zl 0 = 0) := Lib.hid (parQ_zero (·.2) zl)
  have HPW : Hid (parQ (·.2) zl zl.length = 1) := Lib.hid (parQ_w h)
  have H1 := Lib.hid R_one
  have H0 := Lib.hid R_zero
  have hblt := hw.lt
  have hwn : wrap64 (1 + n) = 1 + n := IntWalk.wrap64_in _ (by omega)
  have hwu : IntKind.i64.wrap n = n := IntWalk.i64_in _ (by omega)
  clear hr hw h h15 HAD hgk hredl hv0 hv1
  clear hk
  go_enter Tryz.func8, Tryz.ntmps8
  go_wp2_with fail
  refine (HR.out).mono ?_
  rintro e w1 ⟨rfl, hb1⟩
  go_wp2_with fail
  refine (HOF.out _).mono ?_
  rintro e w2 ⟨rfl, hb2⟩
  have hb2 := hb1.trans (hb2.mono hb1.size)
  clear hb1
  go_wp2
  go_loopw [6, 7, 44] (fun ov sv iv wr => ∃ (i : Nat) (vo : Value), iv = .int .i64 (i : Int) ∧ ov = vo ∧ i ≤ zl.length ∧ sv = .string (bs (R (parQ (·.2) zl i))) ∧ Hid (OwnW wr w.heap.size vo (tx (kmu k (zl.take i)))) ∧ Below w.heap.size w wr) (fun _ _ iv _ => zl.length - (intOf iv).toNat)
  case atStart => exact ⟨0, _, rfl, rfl, by omega, by rw [HP0.out, H0.out]; rfl, OwnW.nil _ _, hb2⟩
  case round =>
    clear hb2
    obtain ⟨i, vo, rfl, hvo, hi, rfl, hown, hbw⟩ := hrel
    have hvo := hvo.symm
    subst hvo
    by_cases hlt : i < zl.length
    · have hwr := HW.out.below' hbw
      have hlt' : i < (tx zl).length := by rw [tx_len]; exact hlt
      have cv := hwr.val i hlt'
      have cw := hwr.wt i hlt'
      rw [tx_get zl i hlt] at cv cw
      simp only at cv cw
      have HTA := Lib.hid (HTI.out i hlt)
      have HPA := Lib.hid (HPR.out i hlt)
      have HAA := Lib.hid (HAD2.out i hlt)
      have HTK := Lib.hid (HSTEP.out i hlt)
      have hlen : (tx (kmu k (zl.take i))).length ≤ 12 := by rw [HLEN.out i, List.length_take]; omega
      have HO1 := Lib.hid (And.intro hown.out (And.intro hbw (And.intro hbw.size hlen)))
      clear hwr hown hlen hlt'
      clear HTI HPR HAD2 HSTEP HALL HM HMK HV HVK HRD HRK HQ0 HQ1 HSA HW0 HW1 HC0 HC1 HIS HFULL HP0 HPW H1 H0 hle0 hle1
      generalize I (zl[i].2 * k) = yw at *
      generalize I zl[i].2 = xw at *
      generalize zl[i].1 = xv at *
      have hrow := Row.new wr 61 [.int .i64 xv, .string (bs xw)]
      have HRW := Lib.hid (And.intro (hrow.cell (i := 0) rfl) (hrow.cell (i := 1) rfl))
      clear hrow
      go_wp2
      obtain ⟨W1, hW1⟩ : ∃ x, x = wr.alloc (.cells #[.int .i64 xv, .string (bs xw)] 61 (0, 0)) := ⟨_, rfl⟩
      have hs1 : wr.heap.size < W1.heap.size := by rw [hW1]; simp
      have hO1 : OwnW W1 w.heap.size vo (tx (kmu k (zl.take i))) := by rw [hW1]; exact OwnW.alloc HO1.out.1 _
      have hB1 : Below w.heap.size w W1 := by rw [hW1]; exact HO1.out.2.1.alloc HO1.out.2.2.1 _
      have hc1 : W1.cell? ⟨wr.heap.size, 0, none⟩ = some (.int .i64 xv) := by rw [hW1]; exact HRW.out.1
      have hc2 : W1.cell? ⟨wr.heap.size, 1, none⟩ = some (.string (bs xw)) := by rw [hW1]; exact HRW.out.2
      rw [← hW1]
      have HO2 := Lib.hid (And.intro hO1 (And.intro hB1 HO1.out.2.2.2))
      clear hW1 HRW hO1 hB1
      have hoff : some wr.heap.size ≠ vo.ownBlock := OwnW.off HO1.out.1 (Nat.le_refl _)
      generalize wr.heap.size = A at *
      have HOFF := Lib.hid hoff
      clear hoff
      go_region_law (first
        | (refine step_app_rdg rfl (.tmp 48) (.tmp 56) rfl rfl rfl (OwnW.alloc hown3 _) (SrcW.new _ [(xv, yw)] _ _ _ rfl rfl rfl) (by have h1 := hB3.size; simp; omega) (by have := HO2.out.2.2; simp; omega) ?_; intro v2 w4 ho2 hgr; have hb4 := RowKit.Below.grown (Below.alloc hB3 hB3.size _) hgr (by have h1 := hB3.size; simp; omega) (fun j hj => (World.ownsRow.lt hown3 j hj).1); have hc4 := (grown_cell hgr (p := ⟨A, 0, none⟩) (by simp; omega) HOFF.out).trans ((World.cell?_alloc_lt _ _ _ hlt3).trans hc3))
        | (go_simp; go_at_call 40; refine (HTA.out _).mono ?_; rintro e w3 ⟨rfl, hb3⟩; have hbz := Below.trans (RowKit.Below.drew (Below.refl W1.heap.size W1)) (hb3.mono (by simp)); have hown3 := OwnW.below HO2.out.1 hbz; have hB3 := HO2.out.2.1.trans (hbz.mono HO2.out.2.1.size); have hc3 := (hbz.cell (p := ⟨A, 0, none⟩) hs1).trans hc1; have hlt3 : A < w3.heap.size := Nat.lt_of_lt_of_le hs1 hbz.size))
      all_goals
        clear hb3 hbz hown3 hB3 hc3 hlt3 hgr hc1 hc2 hs1
        go_wp2_with fail
        refine (HPA.out _ hb4).mono ?_
        rintro e w5 ⟨rfl, hb5⟩
        have hb5' := Below.then hb4 hb5
        have ho5 := OwnW.below ho2 hb5
        have HO5 := Lib.hid ho5
        clear hb5 ho5 ho2 hb4 hc4
        go_wp2_with fail
        refine (HAA.out _ (hg.of hb5')).mono ?_
        rintro e w6 ⟨rfl, hb6⟩
        have hb6' := Below.then hb5' hb6
        have ho6 := OwnW.below HO5.out hb6
        have HO6 := Lib.hid ho6
        clear hb6 ho6 hb5'
        go_wp2
        go_roundw
        case rel => exact ⟨i + 1, _, by go_num, rfl, by omega, rfl, by rw [HTK.out]; exact HO6, hb6'⟩
        case measure => simp [intOf]; omega
    · obtain rfl : i = zl.length := by omega
      have ho := hown.out
      rw [List.take_length] at ho
      obtain ⟨g, gc, rfl, hgB, hgc, hgm, hws⟩ := OwnW.form ho HFULL.out.2
      rw [HFULL.out.1] at hgc ⊢
      rw [HPW.out, H1.out]
      have HWS := Lib.hid hws
      have hwr := HW.out.below' hbw
      have c0 := hwr.val 0 (by rw [tx_len]; exact hpos)
      have cN := hwr.val (zl.length - 1) (by rw [tx_len]; exact hlast)
      rw [tx_get zl _ hpos, Nat.zero_mul] at c0
      rw [tx_get zl _ hlast] at cN
      simp only at c0 cN
      clear ho hown hws hwr HTI HPR HAD2 HSTEP HLEN HOF HR
      rw [Nat.add_zero] at c0
      have HIS2 : Hid (∀ (h1 : zl.length = 1), (R (varQ zl) == [48]) = true) := Lib.hid (fun h1 => by rw [HIS.out, h1]; rfl)
      have HIS3 : Hid (∀ (h1 : ¬ zl.length = 1), (R (varQ zl) == [48]) = false) := Lib.hid (fun h1 => by rw [HIS.out]; exact decide_eq_false h1)
      have d0 : decide (cmpQ (zl[0].1 : Rat) (meanQ zl) ≤ 0) = true := decide_eq_true hle0
      have d1 : decide (cmpQ (meanQ zl) (zl[zl.length - 1].1 : Rat) ≤ 0) = true := decide_eq_true hle1
      have HDD := Lib.hid (And.intro d0 d1)
      have HCE := Lib.hid (fun wx (hb : Below w.heap.size w wx) => show wx.cell? ⟨b, o, none⟩ = some (.int .i64 zl[0].1) ∧ wx.cell? ⟨b, o + (zl.length - 1) * 2, none⟩ = some (.int .i64 zl[zl.length - 1].1) from by
        have f0 := (HW.out.below' hb).val 0 (by rw [tx_len]; exact hpos)
        have fN := (HW.out.below' hb).val (zl.length - 1) (by rw [tx_len]; exact hlast)
        rw [tx_get zl _ hpos, Nat.zero_mul] at f0
        rw [tx_get zl _ hlast] at fN
        exact ⟨f0, fN⟩)
      clear HIS hle0 hle1 d0 d1 HP0 HPW H1 H0 HFULL hi hlt hwn hwu hu hk1 hk2 hb2 HW hgB hgc hgm
      generalize R (varQ zl) = rv at *
      generalize cmpQ (zl[0].1 : Rat) (meanQ zl) = e0 at *
      generalize cmpQ (meanQ zl) (zl[zl.length - 1].1 : Rat) = e1 at *
      generalize R (meanQ zl) = rm at *
      generalize R (zl[0].1 : Rat) = r0 at *
      generalize R (zl[zl.length - 1].1 : Rat) = r1 at *
      generalize zl[0].1 = x0 at *
      generalize zl[zl.length - 1].1 = xN at *
      obtain ⟨N, hN⟩ : ∃ N, zl.length - 1 = N := ⟨_, rfl⟩
      rw [hN] at cN HCE
      have hN1 : IntKind.i64.wrap ((zl.length : Int) - 1) = (N : Int) := by rw [show (zl.length : Int) - 1 = (N : Int) by omega]; exact IntWalk.i64_in _ (by omega)
      have hN5 : wrap64 ((zl.length : Int) - 1) = (N : Int) := by rw [show (zl.length : Int) - 1 = (N : Int) by omega]; exact IntWalk.wrap64_in _ (by omega)
      have hN0 : (0 : Int) ≤ (N : Int) := by omega
      have hN2 : (N : Int) < (zl.length : Int) := by omega
      have hN4 : (0 : Int) < (zl.length : Int) := by omega
      have HNN := Lib.hid hN
      clear hN hlast hpos
      have HBD := Lib.hid (RowKit.Below.drew hbw)
      have hblr : b < wr.heap.size := Nat.lt_of_lt_of_le hblt hbw.size
      go_wp2
      go_region_with (go_at_call 14; refine (HALL.out _ HBD.out).mono ?_; rintro e w3 ⟨rfl, hb3⟩)
      all_goals
        have HWS3 := Lib.hid (HWS.out.below' ((RowKit.Below.drew (Below.refl _ wr)).trans (hb3.mono (Nat.le_refl _))))
        have hb3 := HBD.out.trans (hb3.mono HBD.out.size)
        clear HBD c0 cN HWS HALL hbw hN1
        go_wp2_with fail
        refine (HM.out _ hb3).mono ?_
        rintro e w4 ⟨rfl, hb4⟩
        have HWS4 := Lib.hid (HWS3.out.below' hb4)
        have hb4 := Below.then hb3 hb4
        go_wp2_with fail
        refine (HMK.out g gc _ (hg.of hb4) HWS4.out).mono ?_
        rintro e w5 ⟨rfl, hb5⟩
        have HWS5 := Lib.hid (HWS4.out.below' hb5)
        have hb5 := Below.then hb4 hb5
        clear HWS3 HWS4 hb3 hb4 HM HMK
        go_wp2_with fail
        refine (HV.out _ hb5).mono ?_
        rintro e w6 ⟨rfl, hb6⟩
        have HWS6 := Lib.hid (HWS5.out.below' hb6)
        have hb6 := Below.then hb5 hb6
        go_wp2_with fail
        refine (HVK.out g gc _ (hg.of hb6) HWS6.out).mono ?_
        rintro e w7 ⟨rfl, hb7⟩
        have HWS7 := Lib.hid (HWS6.out.below' hb7)
        have hb7 := Below.then hb6 hb7
        clear HWS5 HWS6 hb5 hb6 HV HVK
        go_wp2_with fail
        refine (HRD.out _ hb7).mono ?_
        intro e w8 hlp
        obtain ⟨va, rfl, hoa, hb8⟩ := hlp.open
        have HWS8 := Lib.hid (HWS7.out.below' hb8)
        have hb8 := Below.then hb7 hb8
        have HRA := Lib.hid hoa.rd
        clear hlp hoa HWS7 hb7
        go_wp2_with fail
        refine (HRK.out g gc _ (hg.of hb8) HWS8.out).mono ?_
        intro e w9 hlp
        obtain ⟨vb, rfl, hob, hb9⟩ := hlp.open
        have HRA9 := Lib.hid (HRA.out.below hb9)
        have HRB9 := Lib.hid hob.rd
        have hb9 := Below.then hb8 hb9
        clear hlp hob hb8 HWS8 HRA HRD HRK
        go_wp2_with fail
        refine (HQ0.out _ hb9).mono ?_
        rintro e w10 ⟨rfl, hb10⟩
        have HRA10 := Lib.hid (HRA9.out.below hb10)
        have HRB10 := Lib.hid (HRB9.out.below hb10)
        have hb10 := Below.then hb9 hb10
        clear HRA9 HRB9 hb9 HQ0
        go_wp2_with fail
        refine (HQ1.out _ hb10).mono ?_
        rintro e w11 ⟨rfl, hb11⟩
        have HRA11 := Lib.hid (HRA10.out.below hb11)
        have HRB11 := Lib.hid (HRB10.out.below hb11)
        have hb11 := Below.then hb10 hb11
        clear HRA10 HRB10 hb10 HQ1
        go_wp2_with fail
        refine (HSA.out _ _ _ HRA11.out HRB11.out).mono ?_
        rintro e w12 ⟨rfl, hb12⟩
        have hb12 := Below.then hb11 hb12
        obtain ⟨c0, cN⟩ := HCE.out _ hb12
        rw [← HNN.out] at cN
        clear HRA11 HRB11 hb11 HSA HCE
        go_wp2_with fail
        refine (HW0.out _).mono ?_
        rintro e w13 ⟨rfl, hb13⟩
        have hb13 := Below.then hb12 hb13
        clear hb12 c0 cN
        go_wp2_with fail
        refine (HC0.out _ (hg.of hb13)).mono ?_
        rintro e w14 ⟨rfl, hb14⟩
        have hb14 := Below.then hb13 hb14
        go_wp2_with fail
        refine (HW1.out _).mono ?_
        rintro e w15 ⟨rfl, hb15⟩
        have hb15 := Below.then hb14 hb15
        go_wp2_with fail
        refine (HC1.out _ (hg.of hb15)).mono ?_
        rintro e w16 ⟨rfl, hb16⟩
        have hb16 := Below.then hb15 hb16
        clear hb13 hb14 hb15 HW0 HW1 HC0 HC1
        have d0 := HDD.out.1
        have d1 := HDD.out.2
        by_cases hM : zl.length = 1
        · have hv := HIS2.out hM
          have hm : (((zl.length : Nat) : Int) == 1) = true := by rw [hM]; rfl
          clear hM
          go_wp2_with fail
          refine (HAW.out _ (hg.of hb16)).mono ?_
          rintro e w17 ⟨rfl, hb17⟩
          go_wp2
          go_ret
          exact Ret.of rfl (Below.then hb16 hb17)
        · have hv := HIS3.out hM
          have hm : (((zl.length : Nat) : Int) == 1) = false := by rw [beq_eq_false_iff_ne]; omega
          clear hM
          go_wp2_with fail
          refine (HAW.out _ (hg.of hb16)).mono ?_
          rintro e w17 ⟨rfl, hb17⟩
          go_wp2
          go_ret
          exact Ret.of rfl (Below.then hb16 hb17)
end W
end Go.Proofs.YtgjfiaadnecilaaGreatDoor
namespace Go.Proofs.YtgjfiaadnecilaaGreatDoor
open Go Go.RowKit Go.Deep
namespace W
open M
attribute [local go_sem] bs_size bs_toList bs_get bs_extract bs_append bs_lit0 bs_lit1 lit1_bs
set_option maxHeartbeats 2000000
set_option maxRecDepth 20000
theorem units_law (v : Value) (l : List WT) (n : Int) (w : World) (hg : Glob w) (hv : RdW w v l) (hn : l.length ≤ maxLen) (hs : ∀ x ∈ l, x.2.length ≤ maxLen) (hu : 0 ≤ n ∧ n ≤ 255) :
    Calls Tryz.prog 8 #[v, .int .u8 n] w (Ret w (.bool true)) := by
  have HAW := Lib.hid (fun wx hgx => awake_ok wx hgx)
  obtain ⟨r, hr, hgood⟩ := right_any v l w hv hn hs
  cases r with
  | false =>
    have HR := Lib.hid hr
    clear hgood hr hv hs
    go_enter Tryz.func8, Tryz.ntmps8
    go_wp2_with fail
    refine (HR.out _ (Below.refl _ _)).mono ?_
    rintro e w1 ⟨rfl, hb1⟩
    go_wp2_with fail
    refine (HAW.out _ (hg.of hb1)).mono ?_
    rintro e w2 ⟨rfl, hb2⟩
    go_wp2
    go_ret
    exact Ret.of rfl (Below.then hb1 hb2)
  | true =>
    obtain ⟨zl, b, o, cap, rfl, hw, hgd, h12, h15⟩ := hgood rfl
    exact units_good zl b o cap n w hg hw hgd h12 h15 hu (hr w (Below.refl _ _))
end W
end Go.Proofs.YtgjfiaadnecilaaGreatDoor
