/-
  Chapter 26, the reference: 'Collect'.
  Chapter 26: the law 'DistCollects', walked.
-/
import Derived.Test.YtgjfiaadnecilaaGreatDoorKT
namespace Go.Proofs.YtgjfiaadnecilaaGreatDoor
open Go Go.RowKit Go.Deep
namespace M
theorem gathF_len (l : List ZT) (h : l.length ≤ 100) : (gathF l).length ≤ 100 := by
  have h1 := gathZ_len l l.length (Nat.le_refl _)
  rw [List.take_length] at h1
  have h2 := List.length_filter_le (fun x : ZT => !(x.2 == 0)) (gathZ l)
  unfold gathF nzF
  omega
theorem gathF_okI (l : List ZT) (hl : l.length ≤ 100) (hz : ∀ x ∈ l, x.2.natAbs < 10 ^ 40) (x : ZT) (hx : x ∈ gathF l) : Ok x.2 := by
  have h1 := gathZ_bd hz hl (Nat.le_refl l.length)
  rw [List.take_length] at h1
  exact ok_pow (h1 x (List.mem_filter.1 hx).1) (by decide)
end M
namespace W
open M
attribute [local go_sem] bs_size bs_toList bs_get bs_extract bs_append bs_lit0 bs_lit1 lit1_bs
set_option maxHeartbeats 1000000
set_option maxRecDepth 20000
theorem rcollect_many (A : Option Addr) (n cap : Nat) (w : World) (h : 4096 < n) (hn : n ≤ maxLen) :
    Calls Tryz.prog 45 #[.slice A n cap] w (Ret w (.tuple #[.slice none 0 0, .int .i64 5])) := by
  unfold maxLen at hn
  have h1 : decide ((n : Int) > 4096) = true := by simp; omega
  go_enter Tryz.func45, Tryz.ntmps45
  go_wp2
  go_ret2
  exact Ret.of rfl (Below.refl _ _)
theorem rcollect_bad (l : List WT) (b o cap : Nat) (w : World) (hw : WSl w b o l) (hl : l.length ≤ 4096) (hs : ∀ x ∈ l, x.2.length ≤ 90000) (h0 : chkC l ≠ 0) :
    Calls Tryz.prog 45 #[.slice (some ⟨b, o, none⟩) l.length cap] w (Ret w (.tuple #[.slice none 0 0, .int .i64 ((chkC l : Nat) : Int)])) := by
  have h1 : decide ((l.length : Int) > 4096) = false := by simp; omega
  have HW := Lib.hid hw
  have HS := Lib.hid hs
  have H0 := Lib.hid h0
  generalize hch : ((chkC l : Nat) : Int) = ch
  have HCH := Lib.hid hch
  clear hw hs hch h0
  go_enter Tryz.func45, Tryz.ntmps45
  go_wp2
  go_loopw [4] (fun iv wr => ∃ i : Nat, iv = .int .i64 (i : Int) ∧ i ≤ l.length ∧ Hid (chkC l = chkC (l.drop i)) ∧ Below w.heap.size w wr) (fun iv _ => l.length - (intOf iv).toNat)
  case atStart => exact ⟨0, rfl, by omega, (rfl : chkC l = chkC (l.drop 0)), Below.refl _ _⟩
  case round =>
    obtain ⟨i, rfl, hi, hk, hbw⟩ := hrel
    by_cases hlt : i < l.length
    · have hwr := HW.out.below' hbw
      have cv := hwr.val i hlt
      have cw := hwr.wt i hlt
      have hk2 := hk.out
      rw [chkC_drop l i hlt] at hk2
      have hlen := HS.out _ (List.getElem_mem hlt)
      clear hk hwr
      obtain ⟨x, hx⟩ : ∃ x, l[i] = x := ⟨_, rfl⟩
      rw [hx] at cv cw hk2 hlen
      obtain ⟨v, s⟩ := x
      simp only at cv cw hlen
      have HX := Lib.hid hx
      clear hx
      by_cases hc : chk s = 0
      · obtain ⟨z, rfl, hz⟩ := ok_of_chk hc
        have hv := check_any (I z)
        rw [hc] at hv
        have HV := Lib.hid hv
        have HSG := Lib.hid (fun w' => below_I z w')
        by_cases hz0 : z < 0
        · have hb : badC (v, I z) = 2 := by
            unfold badC; simp only; rw [hc, if_neg (by decide), zv_I, if_pos (Or.inl hz0)]
          rw [hb, if_neg (by decide)] at hk2
          rw [decide_eq_true hz0] at HSG
          have HK := Lib.hid hk2
          clear hk2 hb hv hc hz hz0
          go_wp2_with fail
          refine (HV.out _ (by omega)).mono ?_
          rintro e w' ⟨rfl, rfl⟩
          go_wp2_with fail
          refine (HSG.out _).mono ?_
          rintro e w' ⟨rfl, rfl⟩
          go_wp2
          go_ret2
          exact Ret.of (by rw [← HCH.out, HK.out]; rfl) hbw
        · rw [decide_eq_false hz0] at HSG
          have HOV := Lib.hid (fun w' => value_any v w')
          by_cases hov : okv v = true
          · have hb : badC (v, I z) = 0 := by
              unfold badC; simp only; rw [hc, if_neg (by decide), zv_I, if_neg (by rw [hov]; simp; omega)]
            rw [hb, if_pos rfl] at hk2
            rw [hov] at HOV
            have HK := Lib.hid hk2
            clear hk2 hb hv hc hz hz0 hov
            go_wp2_with fail
            refine (HV.out _ (by omega)).mono ?_
            rintro e w' ⟨rfl, rfl⟩
            go_wp2_with fail
            refine (HSG.out _).mono ?_
            rintro e w' ⟨rfl, rfl⟩
            go_wp2_with fail
            refine (HOV.out _).mono ?_
            rintro e w' ⟨rfl, rfl⟩
            go_wp2
            go_roundw
            case rel => exact ⟨i + 1, by go_num, by omega, HK, hbw⟩
            case measure => simp [intOf]; omega
          · have hb : badC (v, I z) = 2 := by
              unfold badC; simp only; rw [hc, if_neg (by decide), zv_I, if_pos (Or.inr hov)]
            rw [hb, if_neg (by decide)] at hk2
            rw [Bool.eq_false_iff.2 hov] at HOV
            have HK := Lib.hid hk2
            clear hk2 hb hv hc hz hz0 hov
            go_wp2_with fail
            refine (HV.out _ (by omega)).mono ?_
            rintro e w' ⟨rfl, rfl⟩
            go_wp2_with fail
            refine (HSG.out _).mono ?_
            rintro e w' ⟨rfl, rfl⟩
            go_wp2_with fail
            refine (HOV.out _).mono ?_
            rintro e w' ⟨rfl, rfl⟩
            go_wp2
            go_ret2
            exact Ret.of (by rw [← HCH.out, HK.out]; rfl) hbw
      · have hb : badC (v, s) = chk s := by
          unfold badC; simp only; rw [if_pos hc]
        rw [hb, if_neg hc] at hk2
        have HK := Lib.hid hk2
        have HV := Lib.hid (check_any s)
        have hcz : (((chk s : Nat) : Int) == 0) = false := by rw [beq_eq_false_iff_ne]; omega
        clear hk2 hb hc
        generalize hcs : ((chk s : Nat) : Int) = cs at *
        have HCS := Lib.hid hcs
        clear hcs
        go_wp2_with fail
        refine (HV.out _ (by omega)).mono ?_
        rintro e w' ⟨rfl, rfl⟩
        go_wp2
        go_ret2
        exact Ret.of (by rw [← HCH.out, HK.out, HCS.out]; rfl) hbw
    · obtain rfl : i = l.length := by omega
      have := hk.out
      rw [List.drop_length] at this
      exact absurd (this.trans rfl) H0.out
theorem gathered_none (A : Option Addr) (cap : Nat) (w : World) : Calls Tryz.prog 99 #[.slice A 0 cap] w (GathP [] w) := by
  go_enter Tryz.func99, Tryz.ntmps99
  go_wp2
  refine wp_loop_rounds 1 ?_
  rw [rounds_succ]
  go_wp2
  refine wp_loop_rounds 1 ?_
  rw [rounds_succ]
  go_wp2
  go_ret
  exact ⟨_, rfl, OwnW.nil _ _, Below.refl _ _⟩
theorem rcollect_ok (zl : List ZT) (A : Option Addr) (cap : Nat) (w : World) (hw : zl ≠ [] → ∃ b o, A = some ⟨b, o, none⟩ ∧ WSl w b o (tx zl)) (hl : zl.length ≤ 100) (hz : ∀ x ∈ zl, 0 ≤ x.2 ∧ x.2.natAbs < 10 ^ 40 ∧ okv x.1 = true) :
    Calls Tryz.prog 45 #[.slice A zl.length cap] w (ColP (gathF zl) w) := by
  have h1 : decide ((zl.length : Int) > 4096) = false := by simp; omega
  have hga : ∀ wx, Below w.heap.size w wx → Calls Tryz.prog 99 #[.slice A zl.length cap] wx (GathP (tx (gathF zl)) wx) := by
    intro wx hx
    by_cases hne : zl = []
    · subst hne
      exact gathered_none A cap wx
    · obtain ⟨b, o, rfl, hw2⟩ := hw hne
      exact gathered_ok zl b o cap wx (hw2.below' hx) hl (fun x hx => (hz x hx).2.1)
  have HG := Lib.hid hga
  have HL := Lib.hid (gathF_len zl hl)
  have HO := Lib.hid (gathF_okI zl hl (fun x hx => (hz x hx).2.1))
  have HW := Lib.hid hw
  have HZ := Lib.hid hz
  clear hw hz hga
  generalize gathF zl = gl at *
  go_enter Tryz.func45, Tryz.ntmps45
  go_wp2
  go_loopw [4] (fun iv wr => ∃ i : Nat, iv = .int .i64 (i : Int) ∧ i ≤ zl.length ∧ Below w.heap.size w wr) (fun iv _ => zl.length - (intOf iv).toNat)
  case atStart => exact ⟨0, rfl, by omega, Below.refl _ _⟩
  case round =>
    obtain ⟨i, rfl, hi, hbw⟩ := hrel
    by_cases hlt : i < zl.length
    · obtain ⟨b, o, rfl, hwb⟩ := HW.out (by intro e; rw [e] at hlt; exact absurd hlt (by simp))
      have hwr := hwb.below' hbw
      have hlt' : i < (tx zl).length := by rw [tx_len]; exact hlt
      have cv := hwr.val i hlt'
      have cw := hwr.wt i hlt'
      rw [tx_get zl i hlt] at cv cw
      simp only at cv cw
      obtain ⟨z1, z2, z3⟩ := HZ.out _ (List.getElem_mem hlt)
      have hzo : Ok zl[i].2 := ok_pow z2 (by decide)
      have hlen := hzo.len
      have hv := check_any (I zl[i].2)
      rw [chk_I0 hzo] at hv
      have HV := Lib.hid hv
      have HSG := Lib.hid (fun w' => below_I zl[i].2 w')
      have HOV := Lib.hid (fun w' => value_any zl[i].1 w')
      rw [z3] at HOV
      rw [decide_eq_false (by omega : ¬ zl[i].2 < 0)] at HSG
      clear hv hwr hwb z1 z2 z3 hzo
      generalize zl[i].1 = xv at *
      generalize zl[i].2 = xz at *
      go_wp2_with fail
      refine (HV.out _ (by omega)).mono ?_
      rintro e w' ⟨rfl, rfl⟩
      go_wp2_with fail
      refine (HSG.out _).mono ?_
      rintro e w' ⟨rfl, rfl⟩
      go_wp2_with fail
      refine (HOV.out _).mono ?_
      rintro e w' ⟨rfl, rfl⟩
      go_wp2
      go_roundw
      case rel => exact ⟨i + 1, by go_num, by omega, hbw⟩
      case measure => simp [intOf]; omega
    · obtain rfl : i = zl.length := by omega
      have hbw' := hbw
      go_wp2_with fail
      refine (HG.out _ hbw).mono ?_
      rintro e w2 ⟨v, rfl, ho2, hb2⟩
      have hb2' := hbw.trans (hb2.mono hbw.size)
      have ho3 := ownsRow_base ho2 hbw.size
      by_cases hge : gl = []
      · subst hge
        obtain ⟨A2, cap2, rfl, _⟩ := OwnW.rd ho2
        have HB := Lib.hid hb2'
        clear ho2 ho3 hb2 hb2' hbw hbw'
        go_wp2
        refine wp_loop_rounds 1 ?_
        rw [rounds_succ]
        go_wp2
        go_ret2
        unfold ColP
        rw [if_pos rfl]
        exact Ret.of rfl HB.out
      · have hne : tx gl ≠ [] := by intro e; apply hge; rw [← List.length_eq_zero_iff, ← tx_len, e]; rfl
        obtain ⟨g, gc, rfl, hgB, hgc, hgm, hws⟩ := OwnW.form ho2 hne
        rw [tx_len] at hgc ho2 ⊢
        have HWS := Lib.hid hws
        have HB := Lib.hid hb2'
        have HO3 := Lib.hid ho3
        have HFIN : Hid (∀ wr, Below w2.heap.size w2 wr → ColP gl w (.returned (.tuple #[.slice (some ⟨g, 0, none⟩) gl.length gc, .int .i64 0])) wr) := Lib.hid (fun wr hr => by
          unfold ColP
          rw [if_neg hge]
          have h3 := OwnW.below HO3.out hr
          rw [tx_len] at h3
          exact ListP.yes h3 (HB.out.trans (hr.mono HB.out.size)))
        have hgl : 0 < gl.length := List.length_pos_iff.2 hge
        have hgl2 := HL.out
        have hg0 : ((gl.length : Int) == 0) = false := by simp; omega
        clear ho2 ho3 hb2 hb2' hbw hbw' hws hne
        go_wp2
        go_loopw [7] (fun iv wr => ∃ (i : Nat), iv = .int .i64 (i : Int) ∧ i ≤ gl.length ∧ Below w2.heap.size w2 wr) (fun iv _ => gl.length - (intOf iv).toNat)
        case atStart => exact ⟨0, rfl, by omega, Below.refl _ _⟩
        case round =>
          obtain ⟨i, rfl, hil, hbx⟩ := hrel
          by_cases hlt : i < gl.length
          · have hwr := HWS.out.below' hbx
            have hlt' : i < (tx gl).length := by rw [tx_len]; exact hlt
            have cv := hwr.val i hlt'
            have cw := hwr.wt i hlt'
            rw [tx_get gl i hlt] at cv cw
            rw [Nat.zero_add] at cv cw
            simp only at cv cw
            have hok := HO.out _ (List.getElem_mem hlt)
            have hlen := hok.len
            have hv := check_any (I gl[i].2)
            rw [chk_I0 hok] at hv
            have HV := Lib.hid hv
            clear hv hwr hok
            generalize gl[i].1 = xv at *
            generalize gl[i].2 = xz at *
            go_wp2_with fail
            refine (HV.out _ (by omega)).mono ?_
            rintro e w' ⟨rfl, rfl⟩
            go_wp2
            go_roundw
            case rel => exact ⟨i + 1, by go_num, by omega, hbx⟩
            case measure => simp [intOf]; omega
          · obtain rfl : i = gl.length := by omega
            go_wp2
            go_ret2
            exact HFIN.out _ hbx
end W
end Go.Proofs.YtgjfiaadnecilaaGreatDoor
namespace Go.Proofs.YtgjfiaadnecilaaGreatDoor
open Go Go.RowKit Go.Deep
namespace W
open M
attribute [local go_sem] bs_size bs_toList bs_get bs_extract bs_append bs_lit0 bs_lit1 lit1_bs
set_option maxHeartbeats 1000000
set_option maxRecDepth 20000
theorem LP.col {r : List ZT} {w : World} {e : Ending} {w' : World} (h : ColP r w e w') : LP (tx r) (if r = [] then 13 else 0) w e w' := by
  unfold ColP at h
  by_cases hr : r = []
  · rw [if_pos hr] at h
    rw [if_pos hr, hr]
    exact LP.ret h
  · rw [if_neg hr] at h
    rw [if_neg hr]
    have := LP.of h
    rwa [if_pos rfl, if_pos rfl] at this
theorem collect_pair (v : Value) (l : List WT) (w : World) (hg : Glob w) (hv : RdW w v l) (hn : l.length ≤ maxLen) (hf : fewB l = true) :
    ∃ (m : List WT) (c : Int), m.length ≤ 100 ∧ BothL 44 45 #[v] m c w := by
  obtain ⟨A, cap, rfl, h⟩ := hv
  rcases fewB_true hf with ⟨h12, hs⟩ | hbig
  · have hA : l ≠ [] → ∃ b o, A = some ⟨b, o, none⟩ ∧ WSl w b o l := fun hne => h.resolve_left hne
    clear h
    by_cases hc : chkC l = 0
    · obtain ⟨zl, rfl, hz⟩ := chkC_right hc
      rw [tx_len] at h12 hn ⊢
      have hz2 : ∀ x ∈ zl, 0 ≤ x.2 ∧ x.2.natAbs < 10 ^ 40 ∧ okv x.1 = true := fun x hx => by
        obtain ⟨h1, h2, h3⟩ := hz x hx
        have h4 := hs (x.1, I x.2) (by unfold tx; exact List.mem_map.2 ⟨x, hx, rfl⟩)
        exact ⟨h1, pow_up (I_short h4 (by decide)) (by decide), h3⟩
      have hA2 : ∀ wx, Below w.heap.size w wx → zl ≠ [] → ∃ b o, A = some ⟨b, o, none⟩ ∧ WSl wx b o (tx zl) := fun wx hx hne => by
        obtain ⟨b, o, e, h⟩ := hA (fun e => hne (by rw [← List.length_eq_zero_iff, ← tx_len, e]; rfl))
        exact ⟨b, o, e, h.below' hx⟩
      exact ⟨tx (gathF zl), if gathF zl = [] then 13 else 0, by rw [tx_len]; exact gathF_len zl (by omega),
        fun wx hx => (collect_ok zl A cap wx (hg.of hx) (hA2 wx hx) (by omega) hz2).mono fun e w' h => LP.col h,
        fun wx hx => (rcollect_ok zl A cap wx (hA2 wx hx) (by omega) hz2).mono fun e w' h => LP.col h⟩
    · have hne : l ≠ [] := fun e => hc (by rw [e]; rfl)
      obtain ⟨b, o, rfl, hw⟩ := hA hne
      have hs2 : ∀ x ∈ l, x.2.length ≤ 90000 := fun x hx => by have := hs x hx; omega
      exact ⟨[], ((chkC l : Nat) : Int), by simp, fun wx hx => (collect_bad l b o cap wx (hw.below' hx) (by omega) hs2 hc).mono fun e w' h => LP.ret h,
        fun wx hx => (rcollect_bad l b o cap wx (hw.below' hx) (by omega) hs2 hc).mono fun e w' h => LP.ret h⟩
  · exact ⟨[], 5, by simp, fun wx _ => (collect_many A l.length cap wx hbig hn).mono fun e w' h => LP.ret h,
      fun wx _ => (rcollect_many A l.length cap wx hbig hn).mono fun e w' h => LP.ret h⟩
theorem collects_law (v : Value) (l : List WT) (w : World) (hg : Glob w) (hv : RdW w v l) (hn : l.length ≤ maxLen) (hs : ∀ x ∈ l, x.2.length ≤ maxLen) :
    Calls Tryz.prog 9 #[v] w (Ret w (.bool true)) := by
  have HF := Lib.hid (few_any v l w hv hn hs)
  have HAW := Lib.hid (fun wx hgx => awake_ok wx hgx)
  by_cases hf : fewB l = true
  · obtain ⟨m, c, hm, ⟨s1, s2⟩⟩ := collect_pair v l w hg hv hn hf
    rw [hf] at HF
    have S1 := Lib.hid s1
    have S2 := Lib.hid s2
    clear s1 s2 hv hn hs hf
    go_enter Tryz.func9, Tryz.ntmps9
    go_wp2_with fail
    refine (HF.out).mono ?_
    rintro e w' ⟨rfl, rfl⟩
    go_wp2_with fail
    refine (S1.out _ (Below.refl _ _)).mono ?_
    rintro e w1 ⟨v1, rfl, d1, hb1⟩
    go_wp2_with fail
    refine (S2.out _ hb1).mono ?_
    rintro e w2 ⟨v2, rfl, d2, hb2⟩
    have d1 := d1.below hb2
    have hb2 := Below.then hb1 hb2
    go_wp2_with fail
    refine (HAW.out _ (hg.of hb2)).mono ?_
    rintro e w5 ⟨rfl, hb5⟩
    have d1 := d1.below hb5
    have d2 := d2.below hb5
    have hb5 := Below.then hb2 hb5
    go_wp2_with fail
    refine (same_ret v1 v2 m _ d1 d2 hm).mono ?_
    rintro e w6 ⟨rfl, hb6⟩
    have hb6 := Below.then hb5 hb6
    go_wp2
    go_ret
    exact Ret.of (by simp) hb6
  · rw [Bool.eq_false_iff.2 hf] at HF
    clear hv hn hs hf
    go_enter Tryz.func9, Tryz.ntmps9
    go_wp2_with fail
    refine (HF.out).mono ?_
    rintro e w' ⟨rfl, rfl⟩
    go_wp2_with fail
    refine (HAW.out _ hg).mono ?_
    rintro e w1 ⟨rfl, hb1⟩
    go_wp2
    go_ret
    exact Ret.of rfl hb1
end W
end Go.Proofs.YtgjfiaadnecilaaGreatDoor
