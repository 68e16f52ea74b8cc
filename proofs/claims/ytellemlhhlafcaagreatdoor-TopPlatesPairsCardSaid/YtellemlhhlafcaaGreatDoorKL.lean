/-
  Chapter 5: 'ready' makes all right sides not negative.
  XBt's law where the region's first operation is a move that only the tail waits for ('out = append(out, f(..))'): it is taken first.
  Chapter 5: 'point' and 'weights'.
-/
import Derived.Test.YtellemlhhlafcaaGreatDoorKK
import Derived.Test.YtellemlhhlafcaaGreatDoorKI
section
namespace Go.Proofs.YtellemlhhlafcaaGreatDoor
open Go Go.RowKit Go.Deep Go.Sort Go.Shelf
namespace M
theorem outT_none {n m : Nat} {T : Tbl} (h : (List.range m).find? (fun i => decide (T.b i = wdt n m - 1)) = none) : outT n m T = T := by unfold outT; rw [h]
theorem outT_some {n m r : Nat} {T : Tbl} (h : (List.range m).find? (fun i => decide (T.b i = wdt n m - 1)) = some r) :
    outT n m T = match (List.range (wdt n m - 1)).find? fun c => decide (T.A r c ≠ 0) with | none => T | some c => pivT n m T r c := by
  unfold outT
  simp only [h]
  cases (List.range (wdt n m - 1)).find? fun c => decide (T.A r c ≠ 0) <;> rfl
theorem piv_bq {n m r c e : Nat} {T : Tbl} (hr : r ≤ m) (hc : c ≤ wdt n m) (h0 : T.A r c ≠ 0) (hA : ∀ j, j ≤ m → ∀ k, k ≤ wdt n m → Bq e (T.A j k)) {j k : Nat} (hj : j ≤ m) (hk : k ≤ wdt n m) :
    Bq (4 * e + 1) ((pivT n m T r c).A j k) := by
  unfold pivT
  rw [tab_A _ _ hj hk]
  unfold pivA
  have hq := Bq.div (hA r hr k hk) (hA r hr c hc) h0
  split
  · exact hq.mono (by omega)
  · exact ((hA j hj k hk).sub ((hA j hj c hc).mul hq)).mono (by omega)
theorem readyC_some {ez n m f : Nat} {T : Tbl} {r : Bool × Tbl} (h : readyC ez n m f T = some r) :
    smallT ez n m T = true ∧ ((wsS T.A (wdt n m) m = none ∧ r = (true, T)) ∨ ∃ q, wsS T.A (wdt n m) m = some q ∧ T.A q (wdt n m - 1) ≠ 0 ∧
      ∃ ok T1, climbT ez n m none f (tab n m (pivA (upd T.A m (upd (T.A m) (wdt n m - 1) (-1))) q (wdt n m - 1)) (upd T.b q (wdt n m - 1))) = some (ok, T1) ∧
        ((T1.A m (wdt n m) ≠ 0 ∧ r = (false, T1)) ∨ (T1.A m (wdt n m) = 0 ∧ r = (true, outT n m T1)))) := by
  unfold readyC at h
  by_cases hs : smallT ez n m T = false
  · rw [if_pos hs] at h; cases h
  · rw [if_neg hs] at h
    refine ⟨by simpa using hs, ?_⟩
    cases hw : wsS T.A (wdt n m) m with
    | none => rw [hw] at h; exact .inl ⟨rfl, (Option.some.inj h).symm⟩
    | some q =>
      rw [hw] at h
      simp only at h
      by_cases h0 : T.A q (wdt n m - 1) = 0
      · rw [if_pos h0] at h; cases h
      · rw [if_neg h0] at h
        refine .inr ⟨q, rfl, h0, ?_⟩
        cases hc : climbT ez n m none f (tab n m (pivA (upd T.A m (upd (T.A m) (wdt n m - 1) (-1))) q (wdt n m - 1)) (upd T.b q (wdt n m - 1))) with
        | none => rw [hc] at h; cases h
        | some s =>
          obtain ⟨ok, T1⟩ := s
          rw [hc] at h
          simp only at h
          refine ⟨ok, T1, rfl, ?_⟩
          by_cases h1 : T1.A m (wdt n m) ≠ 0
          · rw [if_pos h1] at h; exact .inl ⟨h1, (Option.some.inj h).symm⟩
          · rw [if_neg h1] at h; exact .inr ⟨by simpa using h1, (Option.some.inj h).symm⟩
end M
namespace W
open M
attribute [local go_sem] bs_size bs_toList bs_get bs_extract bs_append bs_lit0 bs_lit1 lit1_bs
set_option maxHeartbeats 4000000
set_option maxRecDepth 20000
theorem R_neg1 : R (-1) = [45, 49] := by
  have e : (((-1 : Int) : Rat)) = -1 := rfl
  rw [← e, W.R_int]
  have h := I_one
  unfold I Lib.itoa at h ⊢
  rw [if_neg (by decide)] at h
  rw [if_pos (by decide)]
  exact congrArg (45 :: ·) h
theorem Bq_neg1 : Bq 1 (-1) := by unfold Bq; decide +kernel
theorem sign_nonneg {q : Rat} : 0 ≤ Int.sign q.num ↔ 0 ≤ q := by
  rw [← Int.not_lt, Int.sign_neg_iff, Int.not_lt, Rat.num_nonneg]
section
variable {w : World} {B p S gr gb cr cb : Nat} {h : Nat → Nat} {n m : Nat}
theorem preadyC (ez f : Nat) (hez : ez ≤ 210) (hez1 : 1 ≤ ez) (T T' : Tbl) (ok : Bool) (hr : readyC ez n m f T = some (ok, T')) (t : TabS w B p S gr gb cr cb h n m T.A T.b) :
    Calls Tryz.prog 106 #[.pointer (some ⟨p, 0, none⟩)] w fun e w' =>
      e = .returned (.bool ok) ∧ ((∀ j, j ≤ m → ∀ k, k ≤ wdt n m → Bq (4 * ez + 1) (T'.A j k)) ∧ TabS w' B p S gr gb cr cb h n m T'.A T'.b) ∧ Below B w w' := by
  obtain ⟨hsm, hcase⟩ := readyC_some hr
  have hA : ∀ j, j ≤ m → ∀ k, k ≤ wdt n m → Bq ez (T.A j k) := fun j hj k hk => smallT_bq hsm hj hk
  obtain ⟨L, hL⟩ : ∃ L, L = wdt n m + 1 := ⟨_, rfl⟩
  obtain ⟨D, hD⟩ : ∃ D, D = wdt n m := ⟨_, rfl⟩
  have hLs : L ≤ 100000 := by have := t.hn; have := t.hm; rw [hL]; unfold wdt; omega
  have hms := t.hm
  have HB := Lib.hid (TabS.size t)
  have HT := Lib.hid (fun W (hW : Below w.heap.size w W) => t.below' hW)
  have HAA := Lib.hid hA
  have HLT := Lib.hid (fun i k (h : wsS T.A D i = some k) => wsS_lt T.A D i k h)
  have HLQ := Lib.hid (fun k (h : wsS T.A D m = some k) => wsS_lt T.A D m k h)
  have HC := Lib.hid (fun W i (hi : i < m) (hW : Below w.heap.size w W) => (by
    have hT := t.below' hW
    have e2 := hT.ce (show i ≤ m by omega) (Nat.le_refl (wdt n m))
    have e3 := hT.crow hi
    rw [← hL] at e3
    rw [← hD] at e2
    exact ⟨hT.c0, hT.c3, e3, e2⟩ : W.cell? ⟨p, 0, none⟩ = some (.pointer (some ⟨S, 0, none⟩)) ∧ W.cell? ⟨p, 3, none⟩ = some (.slice (some ⟨gr, 0, none⟩) m cr) ∧ W.cell? ⟨gr, i, none⟩ = some (.slice (some ⟨h i, 0, none⟩) L L) ∧ W.cell? ⟨h i, D, none⟩ = some (.string (bs (R (T.A i D))))))
  have HSG := Lib.hid (fun W i (hi : i < m) (hW : Below w.heap.size w W) => pssign S (T.A i D) ez W ((t.below' hW).gl) ((t.below' hW).err) (by rw [hD]; exact hA i (by omega) _ (Nat.le_refl _)) (by omega))
  have HWD := Lib.hid (fun W (hW : Below w.heap.size w W) => pwidth (t.below' hW))
  have HCM := Lib.hid (fun W i k (hi : i < m) (hk : k < m) (hW : Below w.heap.size w W) => ratCompare (T.A i D) (T.A k D) ez ez W ((t.below' hW).gl) (by rw [hD]; exact hA i (by omega) _ (Nat.le_refl _)) (by rw [hD]; exact hA k (by omega) _ (Nat.le_refl _)) (by omega))
  rw [← hD] at HWD hcase ⊢
  have c3 := t.c3
  have hd0 : (0 : Int) ≤ (D : Int) := by omega
  have hdL : (D : Int) < (L : Int) := by omega
  have hd1 : 1 ≤ D := by rw [hD]; unfold wdt; omega
  obtain ⟨d, hd⟩ : ∃ d, D = d + 1 := ⟨D - 1, by omega⟩
  have hdd : D - 1 = d := by omega
  rw [hdd] at hcase
  have hw1 : IntKind.i64.wrap ((D : Int) - 1) = (d : Int) := by rw [IntWalk.i64_in _ (by omega)]; omega
  have HDD := Lib.hid hd
  have hdn0 : (0 : Int) ≤ (d : Int) := by omega
  have hdnL : (d : Int) < (L : Int) := by omega
  have hdl : d ≤ wdt n m := by omega
  have hdw : d < wdt n m := by omega
  have HDE : Hid (D = wdt n m ∧ L = wdt n m + 1) := Lib.hid ⟨hD, hL⟩
  have HW1 := Lib.hid (HWD.out w (Below.refl _ _))
  clear t hA hL hr hd hdd hD
  go_enter Tryz.func106, Tryz.ntmps106
  go_wp2_with fail
  refine (HW1.out).mono ?_
  rintro e wa ⟨rfl, hba⟩
  have HBA := Lib.hid hba
  have c3 := (HT.out wa hba).c3
  clear hba HW1
  go_wp2_with fail
  go_loopw [4, 19] (fun bv iv wr => ∃ (i : Nat) (o : Option Nat) (z : Int), iv = .int .i64 (i : Int) ∧ i ≤ m ∧ bv = .int .i64 z ∧ Hid (z = plV o) ∧ Hid (wsS T.A D i = o) ∧ Hid (Below w.heap.size w wr)) (fun _ iv _ => m - (intOf iv).toNat)
  case atStart => exact ⟨0, none, -1, rfl, by omega, rfl, Lib.hid rfl, Lib.hid rfl, HBA⟩
  case round =>
    clear HBA
    obtain ⟨i, o, z, rfl, hi, rfl, hz, hs, hbw⟩ := hrel
    by_cases hlt : i < m
    · obtain ⟨c0, c3, c5, c7⟩ := HC.out wr i hlt hbw.out
      have hi0 : (0 : Int) ≤ (i : Int) := by omega
      have his : (i : Int) < (m : Int) := by omega
      have HSN := Lib.hid (wsS_succ T.A D i)
      rw [hs.out] at HSN
      have k1 := reg_of (w := wr) (fun W hW => HWD.out W (bel_to hbw.out hW))
      have k2 := reg_of (w := wr) (fun W hW => HSG.out W i hlt (bel_to hbw.out hW))
      have m0 := cell_regrown c0
      have m7 := cell_regrown c7
      have e1 : ∀ args w, (callFunc 110 args).run Tryz.prog w = .ok (.enter 110 args) w := enters_of Tryz.func110 (by kernel_rfl) rfl
      have e2 : ∀ args w, (callFunc 151 args).run Tryz.prog w = .ok (.enter 151 args) w := enters_of Tryz.func151 (by kernel_rfl) rfl
      have HSD := Lib.hid (sign_nonneg (q := T.A i D))
      clear c0 c7
      generalize Int.sign (T.A i D).num = sg at *
      go_wp2_with fail
      refine wp_region_quiet_below (by kernel_rfl) (by kernel_rfl) ?_
      repeat (go_big_quiet_step (fail))
      go_big_quiet_step (exact k1 _ _)
      repeat (go_big_quiet_step (fail))
      go_big_quiet_step (exact k2 _ _)
      repeat (go_big_quiet_step (fail))
      refine wpQuiet_nil ?_
      intro W6 hw'
      have hb6 : Below wr.heap.size wr W6 := by obtain ⟨p, e⟩ := hw'; rw [e]; exact below_regrown wr p.d p.os
      clear hw'
      have HB6 := Lib.hid (bel_to hbw.out hb6)
      clear k1 k2 m0 m7 e1 e2 hb6 c5 c3
      by_cases hge : 0 ≤ sg
      · have hgq := HSD.out.1 hge
        have HN : Hid (wsS T.A D (i + 1) = o) := Lib.hid (by
          rw [HSN.out]
          cases o with
          | none => rw [wsOne_none, if_pos hgq]
          | some k => rw [wsOne_some, if_pos hgq])
        clear HSN hgq HSD
        go_wp2
        go_roundw
        case rel => exact ⟨i + 1, o, z, by go_num, hlt, rfl, hz, HN, HB6⟩
        case measure => simp [intOf]; omega
      · have hgq : ¬ 0 ≤ T.A i D := fun e => hge (HSD.out.2 e)
        cases o with
        | none =>
          have hz2 : z = -1 := hz.out
          have hzd : ¬ (0 ≤ z) := by omega
          have HN : Hid (wsS T.A D (i + 1) = some i) := Lib.hid (by rw [HSN.out, wsOne_none, if_neg hgq])
          clear HSN hgq HSD hz2
          go_wp2
          go_roundw
          case rel => exact ⟨i + 1, some i, _, by go_num, hlt, rfl, Lib.hid rfl, HN, HB6⟩
          case measure => simp [intOf]; omega
        | some k =>
          have hz2 : z = (k : Int) := hz.out
          have hkm : k < m := by have := HLT.out i k hs.out; omega
          obtain ⟨c0, c3, c5, c7⟩ := HC.out W6 i hlt HB6.out
          obtain ⟨_, _, d5, d7⟩ := HC.out W6 k hkm HB6.out
          have hzk : k = z.toNat := by omega
          have hz0 : 0 ≤ z := by omega
          have hzm : z < (m : Int) := by omega
          have HSN2 : Hid (wsS T.A D (i + 1) = if T.A k D ≤ T.A i D then some k else some i) := Lib.hid (by rw [HSN.out, wsOne_some, if_neg hgq])
          have k1 := reg_of (w := W6) (fun W hW => HWD.out W (bel_to HB6.out hW))
          have k3 := reg_of (w := W6) (fun W hW => HCM.out W i k hlt hkm (bel_to HB6.out hW))
          have hca : 0 ≤ cmpQ (T.A i D) (T.A k D) ↔ T.A k D ≤ T.A i D := cmpQ_ge
          have HCA := Lib.hid hca
          generalize cmpQ (T.A i D) (T.A k D) = cm at *
          clear hca
          have m7 := cell_regrown c7
          have n3 := cell_regrown c3
          have n5 := cell_regrown d5
          have n7 := cell_regrown d7
          have e1 : ∀ args w, (callFunc 110 args).run Tryz.prog w = .ok (.enter 110 args) w := enters_of Tryz.func110 (by kernel_rfl) rfl
          have e3 : ∀ args w, (callFunc 152 args).run Tryz.prog w = .ok (.enter 152 args) w := enters_of Tryz.func152 (by kernel_rfl) rfl
          obtain ⟨hkk, hhk⟩ : ∃ y, y = h k := ⟨_, rfl⟩
          rw [← hhk] at n5 n7
          obtain ⟨sk, hsk⟩ : ∃ y, y = R (T.A k D) := ⟨_, rfl⟩
          rw [← hsk] at n7 k3
          rw [hzk] at n5
          clear c0 c3 c5 c7 d5 d7 HSN hgq HSD hz2 hzk hhk hsk
          obtain ⟨W7, hW7⟩ : ∃ W7, W7 = W6 := ⟨_, rfl⟩
          rw [← hW7] at k1 k3 m7 n3 n5 n7 HB6 ⊢
          clear hW7
          go_wp2_with fail
          refine wp_region_quiet_below (by kernel_rfl) (by kernel_rfl) ?_
          repeat (go_big_quiet_step (fail))
          go_big_quiet_step (exact k1 _ _)
          repeat (go_big_quiet_step (fail))
          go_big_quiet_step (exact k1 _ _)
          repeat (go_big_quiet_step (fail))
          go_big_quiet_step (exact k3 _ _)
          repeat (go_big_quiet_step (fail))
          refine wpQuiet_nil ?_
          intro W6 hw'
          have hb6 : Below W7.heap.size W7 W6 := by obtain ⟨p, e⟩ := hw'; rw [e]; exact below_regrown W7 p.d p.os
          clear hw'
          have HB8 := Lib.hid (bel_to HB6.out hb6)
          clear k1 k3 m7 n3 n5 n7 e1 e3 hb6 HB6
          by_cases hcg : 0 ≤ cm
          · have HN : Hid (wsS T.A D (i + 1) = some k) := Lib.hid (by rw [HSN2.out, if_pos (HCA.out.1 hcg)])
            clear HCA HSN2
            go_wp2
            go_roundw
            case rel => exact ⟨i + 1, some k, z, by go_num, hlt, rfl, hz, HN, HB8⟩
            case measure => simp [intOf]; omega
          · have HN : Hid (wsS T.A D (i + 1) = some i) := Lib.hid (by rw [HSN2.out, if_neg (fun e => hcg (HCA.out.2 e))])
            clear HCA HSN2
            go_wp2
            go_roundw
            case rel => exact ⟨i + 1, some i, _, by go_num, hlt, rfl, Lib.hid rfl, HN, HB8⟩
            case measure => simp [intOf]; omega
    · obtain rfl : m = i := by omega
      clear HC HSG HWD HCM HLT
      have hs2 := hs.out
      have hz2 := hz.out
      have HTW := Lib.hid (HT.out wr hbw.out)
      have HBW := Lib.hid (hbw.out.mono HB.out)
      clear HT hs hz hbw HB
      rcases hcase with ⟨hc, hres⟩ | ⟨q, hc, hq0, ok1, T1, hcl, hcase⟩
      · have hzn : z < 0 := by rw [hz2, ← hs2, hc]; decide
        obtain ⟨rfl, rfl⟩ := Prod.mk.inj hres
        clear hz2 hs2 hc hres
        go_wp2
        go_ret
        exact ⟨rfl, ⟨fun j hj k hk => (HAA.out j hj k (by have := HDE.out.1; omega)).mono (by omega), HTW.out⟩, HBW.out⟩
      · have hzq : z = (q : Int) := by rw [hz2, ← hs2, hc]; rfl
        have hqm : q < m := by rw [← hs2] at hz2; exact HLQ.out q hc
        subst hzq
        have hqn : ¬ ((q : Int) < 0) := by omega
        have hqz : ¬ ((q : Int) ≤ -1) := by omega
        have HCL := Lib.hid hcl
        have HCS := Lib.hid hcase
        have HA1 : Hid (∀ j, j ≤ m → ∀ k, k ≤ wdt n m → Bq ez (upd T.A m (upd (T.A m) d (-1)) j k)) := Lib.hid fun j hj k hk => by
          by_cases e : j = m
          · subst e
            rw [upd_same]
            by_cases e2 : k = d
            · subst e2; rw [upd_same]; exact Bq_neg1.mono hez1
            · rw [upd_other _ e2]; exact HAA.out _ hj k hk
          · rw [upd_other _ e]; exact HAA.out j hj k hk
        have hq1 : upd T.A m (upd (T.A m) d (-1)) q d ≠ 0 := by rw [upd_other _ (by omega)]; exact hq0
        have HST := Lib.hid (HTW.out.setA (Nat.le_refl m) hdl (-1))
        have HSB := Lib.hid (HTW.out.belowA HBW.out (Nat.le_refl m) d (.string (bs (R (-1)))))
        have c5 := HTW.out.c5
        rw [← HDE.out.2] at c5
        have fz := HTW.out.fe (Nat.le_refl m) d
        have fc := HTW.out.ce (Nat.le_refl m) hdl
        rw [R_neg1] at HST HSB
        have HPV := Lib.hid (ppivot HST.out q d ez hqm hdw HA1.out hez hq1)
        clear hz2 hs2 hc hcl hcase hq1 HTW HBW HA1 HAA HLQ
        go_wp2_with fail
        refine HPV.out.mono ?_
        rintro e wb ⟨rfl, hT, hbb⟩
        have HTP := Lib.hid (And.intro hT.piv (HSB.out.trans hbb))
        clear hT hbb HPV HST HSB c5 fz fc
        have HCB := Lib.hid (pclimb ez f hez hez1 _ T1 ok1 none HCL.out HTP.out.1)
        clear HCL
        go_wp2_with fail
        refine HCB.out.mono ?_
        rintro e wc ⟨rfl, ⟨hsm1, hT1⟩, hbc⟩
        have HA1 : Hid (∀ j, j ≤ m → ∀ k, k ≤ wdt n m → Bq ez (T1.A j k)) := Lib.hid (fun j hj k hk => smallT_bq hsm1 hj hk)
        have HT1 := Lib.hid (And.intro hT1 (HTP.out.2.trans hbc))
        clear hT1 hbc hsm1 HTP HCB
        have c0 := HT1.out.1.c0
        have e0 := HT1.out.1.err.cell
        have c5 := HT1.out.1.c5
        rw [← HDE.out.2] at c5
        have c7 := HT1.out.1.ce (Nat.le_refl m) (Nat.le_refl (wdt n m))
        rw [← HDE.out.1] at c7
        have k1 := reg_of (w := wc) (fun W hW => pwidth (HT1.out.1.below' hW))
        rw [← HDE.out.1] at k1
        have m0 := cell_regrown c0
        have m1 := cell_regrown e0
        have m5 := cell_regrown c5
        have m7 := cell_regrown c7
        have e1 : ∀ args w, (callFunc 110 args).run Tryz.prog w = .ok (.enter 110 args) w := enters_of Tryz.func110 (by kernel_rfl) rfl
        clear c0 e0 c5 c7
        go_wp2_with fail
        refine wp_region_quiet_below (by kernel_rfl) (by kernel_rfl) ?_
        repeat (go_big_quiet_step (fail))
        go_big_quiet_step (exact k1 _ _)
        repeat (go_big_quiet_step (fail))
        refine wpQuiet_nil ?_
        intro W6 hw'
        have hb6 : Below wc.heap.size wc W6 := by obtain ⟨p, e⟩ := hw'; rw [e]; exact below_regrown wc p.d p.os
        clear hw'
        have HT2 := Lib.hid (And.intro (HT1.out.1.below' hb6) (HT1.out.2.trans (hb6.mono (TabS.size HT1.out.1))))
        clear k1 m0 m1 m5 m7 e1 hb6 HT1
        rcases HCS.out with ⟨hg1, hres⟩ | ⟨hg1, hres⟩
        · have hz1 : (R (T1.A m D) == [48]) = false := by rw [beq_eq_false_iff_ne]; exact fun e => hg1 (R_is0.1 e)
          rw [hz1]
          obtain ⟨rfl, rfl⟩ := Prod.mk.inj hres
          clear hg1 hres HCS hz1
          go_wp2
          go_ret
          exact ⟨rfl, ⟨fun j hj k hk => (HA1.out j hj k (by have := HDE.out.1; omega)).mono (by omega), HT2.out.1⟩, HT2.out.2⟩
        · have hz1 : R (T1.A m D) = [48] := R_is0.2 hg1
          rw [hz1]
          have c4 := HT2.out.1.c4
          have HIX := Lib.hid (pindex HT2.out.1 d)
          have HRS := Lib.hid hres
          have HO1 := Lib.hid (outT_none (n := n) (m := m) (T := T1))
          have HO2 := Lib.hid (fun r => outT_some (n := n) (m := m) (r := r) (T := T1))
          rw [← HDE.out.1, show D - 1 = d by have := HDD.out; omega] at HO1 HO2
          clear hg1 hres HCS hz1
          cases hix : (List.range m).find? fun i => decide (T1.b i = d) with
          | none =>
            rw [hix] at HIX
            have HI2 : Hid (Calls Tryz.prog 154 #[.slice (some ⟨gb, 0, none⟩) m cb, .int .i64 (d : Int)] W6 (Ret W6 (.int .i64 (-1)))) := HIX
            have he := HRS.out
            rw [HO1.out hix] at he
            obtain ⟨rfl, rfl⟩ := Prod.mk.inj he
            clear HIX hix HRS HO1 HO2 he
            go_wp2_with fail
            refine (HI2.out).mono ?_
            rintro e wd ⟨rfl, hbd⟩
            have HT3 := Lib.hid (And.intro (HT2.out.1.below' hbd) (HT2.out.2.trans (hbd.mono (TabS.size HT2.out.1))))
            clear hbd HT2
            go_wp2
            go_ret
            exact ⟨rfl, ⟨fun j hj k hk => (HA1.out j hj k (by have := HDE.out.1; omega)).mono (by omega), HT3.out.1⟩, HT3.out.2⟩
          | some r =>
            rw [hix] at HIX
            have HI2 : Hid (Calls Tryz.prog 154 #[.slice (some ⟨gb, 0, none⟩) m cb, .int .i64 (d : Int)] W6 (Ret W6 (.int .i64 (r : Int)))) := HIX
            have he := HRS.out
            rw [HO2.out r hix] at he
            have hrm : r < m := List.mem_range.1 (List.mem_of_find?_eq_some hix)
            have HRE := Lib.hid he
            clear HIX hix HRS HO1 HO2 he
            go_wp2_with fail
            refine (HI2.out).mono ?_
            rintro e wd ⟨rfl, hbd⟩
            have HT3 := Lib.hid (And.intro (HT2.out.1.below' hbd) (HT2.out.2.trans (hbd.mono (TabS.size HT2.out.1))))
            clear hbd HT2 HI2 c4
            have hr0 : (0 : Int) ≤ (r : Int) := by omega
            have hrs : (r : Int) < (m : Int) := by omega
            have HRC := Lib.hid (fun W c (hc : c < d) (hW : TabS W B p S gr gb cr cb h n m T1.A T1.b) => (by
              have e3 := hW.crow hrm
              rw [← HDE.out.2] at e3
              exact ⟨hW.c3, e3, hW.ce (show r ≤ m by omega) (show c ≤ wdt n m by omega)⟩ : W.cell? ⟨p, 3, none⟩ = some (.slice (some ⟨gr, 0, none⟩) m cr) ∧ W.cell? ⟨gr, r, none⟩ = some (.slice (some ⟨h r, 0, none⟩) L L) ∧ W.cell? ⟨h r, c, none⟩ = some (.string (bs (R (T1.A r c))))))
            obtain ⟨W0, hW0⟩ : ∃ W0, W0 = wd := ⟨_, rfl⟩
            rw [← hW0] at HT3 ⊢
            clear hW0
            go_wp2_with fail
            go_loopw [103] (fun iv wr => ∃ c : Nat, iv = .int .i64 (c : Int) ∧ c ≤ d ∧ Hid (∀ j, j < c → decide (T1.A r j ≠ 0) = false) ∧ wr = W0) (fun iv _ => d - (intOf iv).toNat)
            case atStart => exact ⟨0, rfl, by omega, Lib.hid (fun j hj => by omega), rfl⟩
            case round =>
              obtain ⟨c, rfl, hc, hno, rfl⟩ := hrel
              by_cases hlc : c < d
              · obtain ⟨c3, c4, c5⟩ := HRC.out wr c hlc HT3.out.1
                have hc0 : (0 : Int) ≤ (c : Int) := by omega
                have hcs : (c : Int) < (L : Int) := by omega
                by_cases hz : T1.A r c = 0
                · have hz1 : R (T1.A r c) = [48] := R_is0.2 hz
                  rw [hz1] at c5
                  have HN : Hid (∀ j, j < c + 1 → decide (T1.A r j ≠ 0) = false) := Lib.hid (fun j hj => by
                    by_cases e : j = c
                    · subst e; simp [hz]
                    · exact hno.out j (by omega))
                  clear hno hz hz1
                  go_wp2
                  go_roundw
                  case rel => exact ⟨c + 1, by go_num, hlc, HN, trivial⟩
                  case measure => simp [intOf]; omega
                · have hz1 : (R (T1.A r c) == [48]) = false := by rw [beq_eq_false_iff_ne]; exact fun e => hz (R_is0.1 e)
                  have he := HRE.out
                  rw [find_hit hno.out hlc (by simp [hz])] at he
                  obtain ⟨rfl, rfl⟩ := Prod.mk.inj he
                  have HPV := Lib.hid (ppivot HT3.out.1 r c ez hrm (by omega) HA1.out hez hz)
                  have HBQ : Hid (∀ j, j ≤ m → ∀ k, k ≤ wdt n m → Bq (4 * ez + 1) ((pivT n m T1 r c).A j k)) := Lib.hid (fun j hj k hk => (piv_bq (by omega) (by omega) hz HA1.out hj hk).mono (by omega))
                  clear hno hz he HRE HRC
                  go_wp2_with fail
                  refine HPV.out.mono ?_
                  rintro e we ⟨rfl, hT, hbe⟩
                  have HTP := Lib.hid (And.intro hT.piv (HT3.out.2.trans hbe))
                  clear hT hbe HPV HT3
                  go_wp2
                  go_ret
                  exact ⟨rfl, ⟨fun j hj k hk => HBQ.out j hj k (by have := HDE.out.1; omega), HTP.out.1⟩, HTP.out.2⟩
              · obtain rfl : d = c := by omega
                have he := HRE.out
                rw [find_miss hno.out] at he
                obtain ⟨rfl, rfl⟩ := Prod.mk.inj he
                clear hno he HRE HRC
                go_wp2
                go_ret
                exact ⟨rfl, ⟨fun j hj k hk => (HA1.out j hj k (by have := HDE.out.1; omega)).mono (by omega), HT3.out.1⟩, HT3.out.2⟩
theorem pready (ez f : Nat) (hez : ez ≤ 210) (hez1 : 1 ≤ ez) (T T' : Tbl) (ok : Bool) (hr : readyT ez n m f T = some (ok, T')) (t : TabS w B p S gr gb cr cb h n m T.A T.b) :
    Calls Tryz.prog 106 #[.pointer (some ⟨p, 0, none⟩)] w fun e w' =>
      e = .returned (.bool ok) ∧ ((∀ j, j ≤ m → ∀ k, k ≤ wdt n m → Bq ez (T'.A j k)) ∧ TabS w' B p S gr gb cr cb h n m T'.A T'.b) ∧ Below B w w' := by
  unfold readyT at hr
  cases hc : readyC ez n m f T with
  | none => rw [hc] at hr; cases hr
  | some s =>
    rw [hc] at hr
    simp only at hr
    by_cases hs : smallT ez n m s.2 = true
    · rw [if_pos hs] at hr
      obtain rfl := Option.some.inj hr
      refine (preadyC ez f hez hez1 T T' ok hc t).mono ?_
      rintro e w' ⟨h1, ⟨_, h3⟩, h4⟩
      exact ⟨h1, ⟨fun j hj k hk => smallT_bq hs hj hk, h3⟩, h4⟩
    · rw [if_neg hs] at hr; cases hr
end
end W
end Go.Proofs.YtellemlhhlafcaaGreatDoor
end
section
namespace Go.Proofs.YtellemlhhlafcaaGreatDoor
open Go Go.Sort Go.RowKit
section
variable {P : Program} {ops : Array Oper} {md : Region.Mode} {C : World → Prop}
def sink1B (md : Region.Mode) (ops : Array Oper) (n : Nat) : Bool :=
  (List.range n).all fun i => decide (i = 0) || (List.range (n + 1)).any fun j => decide (i < j) && Region.waitsFor md ops j i
theorem tail_waits1 {n : Nat} {listed : Array Bool} (hs : sink1B md ops n = true) (hc : Region.chainB md ops n = true) (hn : n < ops.size) (inv : HeadInv md ops n listed) :
    ∀ (d i : Nat), n - i = d → 1 ≤ i → i < n → listed.getD i true = false → ∀ t, n ≤ t → t ∉ Region.ready md ops listed := by
  intro d
  induction d using Nat.strongRecOn with
  | _ d ih =>
    intro i hd h1i hi hun t ht hr
    obtain ⟨_, ot, hot, hall⟩ := mem_ready.1 hr
    have htlt : t < ops.size := (Array.getElem?_eq_some_iff.1 hot).1
    by_cases htn : t = n
    · subst htn
      have h1 := List.all_eq_true.1 hs i (List.mem_range.2 hi)
      rw [Bool.or_eq_true] at h1
      have h1 := h1.resolve_left (by simp; omega)
      obtain ⟨j, hj, hj2⟩ := List.any_eq_true.1 h1
      simp only [Bool.and_eq_true, decide_eq_true_eq] at hj2
      obtain ⟨oj, hoj, e, he, hb, hon⟩ := Region.waitsFor_spec hj2.2
      have hjle : j ≤ t := by have := List.mem_range.1 hj; omega
      by_cases hjt : j = t
      · subst hjt
        have : oj = ot := Option.some.inj (hoj.symm.trans hot)
        subst this
        have h2 := hall e he hb
        rw [hon, getD_both hun] at h2
        cases h2
      · cases hl : listed.getD j false with
        | true =>
          have h2 := inv.closed j oj hoj hl e he hb
          rw [hon, getD_both hun] at h2
          cases h2
        | false =>
          have hjs : j < listed.size := by rw [inv.size]; omega
          exact ih (t - j) (by omega) j rfl (by omega) (by omega) (getD_in hjs hl) t (Nat.le_refl _) hr
    · have h1 := List.all_eq_true.1 hc t (List.mem_range.2 htlt)
      simp only [Bool.or_eq_true, decide_eq_true_eq] at h1
      rcases h1 with h1 | h1
      · omega
      · obtain ⟨o', ho', e, he, hb, hon⟩ := Region.waitsFor_spec h1
        have : o' = ot := Option.some.inj (ho'.symm.trans hot)
        subst this
        have h2 := hall e he hb
        rw [hon, getD_both (inv.tail (t - 1) (by omega) (by omega))] at h2
        cases h2
theorem anyT_first1 {n i : Nat} {oi : Oper} {v : Value} {L : Array Bool → Act → Prop} (hi : ops[i]? = some oi) (hsel : ∀ (j : Nat) (o : Oper) cs b, ops[j]? = some o → o.op ≠ .select cs b)
    (hs : sink1B md ops n = true) (hc : Region.chainB md ops n = true) (hn : n < ops.size) (hi1 : 1 ≤ i) (hin : i < n) (hdone : ∀ ls a, L ls a → ∀ j ∈ Region.ready md ops ls, n ≤ j) :
    ∀ (f : Nat) (ls : Array Bool) (a : Act), HeadInv md ops n ls →
      (∀ j oj, ops[j]? = some oj → j ≠ i → ls.getD j true = false → (∀ e ∈ oj.after, Region.binds md e = true → e.on ≠ i) → oi.apart ops oj = true) →
      i ∈ Region.ready md ops ls → YieldsIn P ops C oi v a → anyT P md ops C n L f (ls.setIfInBounds i true) (a.put oi.dst v) → anyT P md ops C n L (f + 1) ls a := by
  intro f
  induction f with
  | zero =>
    intro ls a inv _ hr hy H
    refine ⟨List.ne_nil_of_mem hr, fun j hj => ?_⟩
    have hjn : j < n := Nat.lt_of_not_le fun h => tail_waits1 hs hc hn inv _ i rfl hi1 hin (mem_ready.1 hr).1 j h hj
    refine ⟨hjn, ?_⟩
    by_cases e : j = i
    · subst e; exact hy.qOp hi H
    · exact absurd (hdone _ _ H j (ready_mono hj e)) (by omega)
  | succ f ih =>
    intro ls a inv hfree hr hy H
    refine ⟨List.ne_nil_of_mem hr, fun j hj => ?_⟩
    have hjn : j < n := Nat.lt_of_not_le fun h => tail_waits1 hs hc hn inv _ i rfl hi1 hin (mem_ready.1 hr).1 j h hj
    refine ⟨hjn, ?_⟩
    by_cases e : j = i
    · subst e; exact hy.qOp hi H
    · obtain ⟨hju, oj, hoj, hall⟩ := mem_ready.1 hj
      have hno : ∀ e ∈ oj.after, Region.binds md e = true → e.on ≠ i := fun e he hb heq => by
        have h2 := hall e he hb
        rw [heq, getD_both (mem_ready.1 hr).1] at h2
        cases h2
      refine qOp_mono (fun a' h3 => ih (ls.setIfInBounds j true) a' (inv.set hj hjn) (fun k ok hk hki hun h4 => ?_) (ready_mono hr (Ne.symm e)) h3.1 (by rw [Array.setIfInBounds_comm _ _ e]; exact h3.2))
        (qOp_put hoj (hfree j oj hoj e hju hno) (fun cs b => hsel i oi cs b hi) (fun cs b => hsel j oj cs b hoj) hy (H.2 j (ready_mono hj e)).2)
      refine hfree k ok hk hki ?_ h4
      by_cases ek : j = k
      · subst ek; exact hju
      · rwa [getD_set_ne true ek] at hun
theorem anyT_lex1 {n g : Nat} {Lq : Act → Prop} (hsel : Region.noSelect ops = true) (hs : sink1B md ops n = true) (hc : Region.chainB md ops n = true) (hn : n < ops.size) :
    ∀ (l : List Oper) (k : Nat) (ls : Array Bool) (a : Act), 1 ≤ k → (∀ j, j < l.length → l[j]? = ops[k + j]?) → k + l.length = n → HeadInv md ops n ls → Region.lexHead md ops g l.length k ls = true → wpQuiet P ops C Lq l a →
      anyT P md ops C n (fun ls' a' => Region.seqB md ops g n ls' = true ∧ Lq a') l.length ls a := by
  intro l
  induction l with
  | nil =>
    intro k ls a _ _ hk _ hB h
    have e : k = n := by simpa using hk
    subst e
    exact ⟨by simpa [Region.lexHead] using hB, h⟩
  | cons o l ih =>
    intro k ls a h1 hl hk inv hB h
    have h0 : ops[k]? = some o := by simpa using (hl 0 (by simp)).symm
    simp only [List.length_cons, Region.lexHead, Bool.and_eq_true] at hB
    have hkn : k < n := by simp only [List.length_cons] at hk; omega
    have hr : k ∈ Region.ready md ops ls := by simpa using hB.1.1
    obtain ⟨v, hy, hK⟩ := yieldsIn_of_qOp h0 (show qOp P ops C k (wpQuiet P ops C Lq l) a by unfold qOp; simp only [h0]; exact h)
    exact anyT_first1 h0 (Region.noSelect_spec hsel) hs hc hn h1 hkn (fun ls' a' hL => seqB_ready hL.1) l.length ls a inv (Region.free_spec h0 hB.1.2) hr hy
      (ih (k + 1) _ _ (by omega) (fun j hj => by have := hl (j + 1) (by simp; omega); simpa [Nat.add_assoc, Nat.add_comm 1 j] using this) (by simp only [List.length_cons] at hk; omega) (inv.set hr hkn) hB.2 hK)
def lexTail1B (md : Region.Mode) (ops : Array Oper) (n : Nat) : Bool :=
  Region.noSelect ops && decide (n < ops.size) && sink1B md ops n && Region.chainB md ops n && (Region.ready md ops (Array.replicate ops.size false)).contains 0 && Region.free md ops (Array.replicate ops.size false) 0 &&
    Region.lexHead md ops (ops.size - n) (n - 1) 1 ((Array.replicate ops.size false).setIfInBounds 0 true)
theorem region_quiet_tail1 {id : Nat} {Q : Exit → Act → World → Prop} {a : Act} {w : World} {o0 : Oper} {l : List Oper} {v : Value} (n : Nat) (hm : P.follows .mixedOrders = true) (hB : lexTail1B .any (o0 :: l).toArray (n + 1) = true)
    (hQ : ∀ c a w, Q (.panic c) (a.put o0.dst v) w → Q (.panic c) a w) (hy : Yields P (o0 :: l).toArray o0 v a) (hC : C { w with drawn := w.drawn + 1 })
    (h : wpQuiet P (o0 :: l).toArray C (fun a' => ∀ w', C w' → wpList P (o0 :: l).toArray Q (l.drop n) a' w') (l.take n) (a.put o0.dst v)) : (Code.region id (o0 :: l).toArray true).wp P Q a w := by
  simp only [lexTail1B, Bool.and_eq_true, decide_eq_true_eq] at hB
  obtain ⟨⟨⟨⟨⟨⟨hsel, hn⟩, hs⟩, hc⟩, hr0⟩, hf0⟩, hlex⟩ := hB
  have hn2 : n < l.length := by simpa using hn
  have ht : (l.take n).length = n := by simp; omega
  have hd : (l.drop n).length = (o0 :: l).toArray.size - (n + 1) := by simp
  have inv0 : HeadInv .any (o0 :: l).toArray (n + 1) (Array.replicate (o0 :: l).toArray.size false) :=
    ⟨by simp, fun j oj _ h2 => (by rw [getD_replicate_false] at h2; cases h2), fun t _ h2 => getD_in (by simpa using h2) (getD_replicate_false _ _)⟩
  have inv := inv0.set (i := 0) (by simpa using hr0) (by omega)
  have H := anyT_lex1 (md := .any) (g := (o0 :: l).toArray.size - (n + 1)) hsel hs hc hn (l.take n) 1 _ (a.put o0.dst v) (Nat.le_refl _) (fun j hj => by rw [ht] at hj; simp [hj, Nat.add_comm 1 j]) (by rw [ht]; omega) inv (by rw [ht]; exact hlex) h
  refine wp_region_any hm ?_
  have h2 := wpAny_of_anyT (Q := Q) (g := (o0 :: l).toArray.size - (n + 1)) (fun ls a' w' hw' hL => by
    have h3 := wpAny_of_seq (md := .any) (Q' := Q) (l.drop n) (n + 1) ls a' w' (fun j => by simp [List.getElem?_drop, Nat.add_right_comm]) (by rw [hd]; exact hL.1) (hL.2 w' hw')
    rwa [hd] at h3) _ _ _ _ hC H
  have h4 := wpAny_take (i := 0) (oi := o0) (by simp) hsel hf0 hr0 hQ hy h2
  rw [ht, show n + ((o0 :: l).toArray.size - (n + 1)) + 1 = (o0 :: l).toArray.size by omega] at h4
  exact h4
theorem region_below_tail1 {id : Nat} {Q : Exit → Act → World → Prop} {a : Act} {w : World} {o0 : Oper} {l : List Oper} {v : Value} (n : Nat) (hm : P.follows .mixedOrders = true) (hB : lexTail1B .any (o0 :: l).toArray (n + 1) = true)
    (hQ : ∀ c a w, Q (.panic c) (a.put o0.dst v) w → Q (.panic c) a w) (hy : Yields P (o0 :: l).toArray o0 v a)
    (h : wpQuiet P (o0 :: l).toArray (fun w' => ∃ p : Regrown, w' = grow (redrawn w p.d) p.os) (fun a' => ∀ w', (∃ p : Regrown, w' = grow (redrawn w p.d) p.os) → wpList P (o0 :: l).toArray Q (l.drop n) a' w') (l.take n) (a.put o0.dst v)) : (Code.region id (o0 :: l).toArray true).wp P Q a w :=
  region_quiet_tail1 n hm hB hQ hy ⟨⟨w.drawn + 1, #[]⟩, by rw [grow_empty]; rfl⟩ h
end
end Go.Proofs.YtellemlhhlafcaaGreatDoor
end
section
namespace Go.Proofs.YtellemlhhlafcaaGreatDoor
open Go Go.RowKit Go.Deep Go.Sort Go.Shelf
theorem part0_map (n : Nat) : Part0 n n = Strs (M.mapR (fun _ => 0) n) := by
  unfold Part0 M.mapR
  rw [Nat.sub_self, List.replicate_zero, List.append_nil]
  congr 1
  have e : (fun k => M.R ((fun (_ : Nat) => (0 : Rat)) k)) = fun _ => [48] := by funext _; exact W.R_nil
  rw [e, List.map_const', List.length_range]
namespace M
theorem mapR_snoc (f : Nat → Rat) (k : Nat) : mapR f (k + 1) = mapR f k ++ [R (f k)] := by
  unfold mapR; rw [List.range_succ, List.map_append]; rfl
theorem allS_bq {n m e : Nat} {A : Mx} (b : Nat → Nat) (hA : ∀ j, j ≤ m → ∀ k, k ≤ wdt n m → Bq e (A j k)) (he : 1 ≤ e) : ∀ i, i ≤ m → ∀ k, Bq e (allS A b (wdt n m) i k)
  | 0, _, _ => Bq_nil.mono he
  | i + 1, hi, k => by
    show Bq e (upd (allS A b (wdt n m) i) (b i) (A i (wdt n m)) k)
    unfold upd
    split
    · exact hA i (by omega) _ (Nat.le_refl _)
    · exact allS_bq b hA he i (by omega) k
end M
theorem strs_set (f : Nat → Rat) (n k : Nat) (q : Rat) : (Strs (M.mapR f n)).set k (.string (bs (M.R q))) = Strs (M.mapR (M.upd f k q) n) := by
  rw [M.mapR_upd]; simp [Strs, List.map_set]
theorem strs_get {f : Nat → Rat} {n k : Nat} (h : k < n) : (Strs (M.mapR f n))[k]? = some (.string (bs (M.R (f k)))) := by simp [Strs, M.mapR, h]
namespace W
open M
attribute [local go_sem] bs_size bs_toList bs_get bs_extract bs_append bs_lit0 bs_lit1 lit1_bs
set_option maxHeartbeats 2000000
set_option maxRecDepth 20000
section
variable {w : World} {B p S gr gb cr cb : Nat} {h : Nat → Nat} {n m : Nat} {A : Mx} {b : Nat → Nat}
theorem pweights (t : TabS w B p S gr gb cr cb h n m A b) (e : Nat) (hA : ∀ j, j ≤ m → ∀ k, k ≤ wdt n m → Bq e (A j k)) (he : e ≤ 210) :
    Calls Tryz.prog 112 #[.pointer (some ⟨p, 0, none⟩)] w fun ee w' => ∃ v, ee = .returned v ∧ OwnS w' w.heap.size v (mapR (weightF n m A) m) ∧ Below w.heap.size w w' := by
  obtain ⟨L, hL⟩ : ∃ L, L = wdt n m + 1 := ⟨_, rfl⟩
  have hms := t.hm
  have hns := t.hn
  have hLn : 2 * n + m < L := by rw [hL]; unfold wdt; omega
  have HC := Lib.hid (fun W i (hi : i < m) (hW : Below w.heap.size w W) => (by
    have hT := t.below' hW
    have e1 := hT.ce (Nat.le_refl m) (show 2 * n + i ≤ wdt n m by omega)
    have e3 := hT.c5
    rw [← hL] at e3
    exact ⟨hT.c0, hT.c1, e3, e1⟩ : W.cell? ⟨p, 0, none⟩ = some (.pointer (some ⟨S, 0, none⟩)) ∧ W.cell? ⟨p, 1, none⟩ = some (.int .i64 (n : Int)) ∧ W.cell? ⟨p, 5, none⟩ = some (.slice (some ⟨h m, 0, none⟩) L L) ∧ W.cell? ⟨h m, 2 * n + i, none⟩ = some (.string (bs (R (A m (2 * n + i)))))))
  have HNG := Lib.hid (fun W i (hi : i < m) (hW : Below w.heap.size w W) => ratNeg (A m (2 * n + i)) e W ((t.below' hW).gl) (hA m (Nat.le_refl _) _ (by omega)) (by omega))
  have HOF := Lib.hid (fun s W (hW : Below w.heap.size w W) => psof S s W ((t.below' hW).err))
  have c2 := t.c2
  clear t hA hL
  go_enter Tryz.func112, Tryz.ntmps112
  go_wp2
  go_loopw [3, 9] (fun ov iv wr => ∃ (i : Nat) (vo : Value), iv = .int .i64 (i : Int) ∧ ov = vo ∧ i ≤ m ∧ Hid (OwnS wr w.heap.size vo (mapR (weightF n m A) i) ∧ Below w.heap.size w wr)) (fun _ iv _ => m - (intOf iv).toNat)
  case atStart => exact ⟨0, _, rfl, rfl, by omega, Lib.hid ⟨World.ownsRow_nil _ _ _ _, Below.refl _ _⟩⟩
  case round =>
    clear c2
    obtain ⟨i, vo, rfl, hvo, hi, hin⟩ := hrel
    have hvo := hvo.symm
    subst hvo
    by_cases hlt : i < m
    · obtain ⟨c0, c1, c3, c4⟩ := HC.out wr i hlt hin.out.2
      have k1 := reg_of (w := wr) (fun W hW => HNG.out W i hlt (bel_to hin.out.2 hW))
      have k2 := reg_of (w := wr) (fun W hW => HOF.out (R (-A m (2 * n + i))) W (bel_to hin.out.2 hW))
      have hw1 : IntKind.i64.wrap (2 * (n : Int)) = 2 * (n : Int) := IntWalk.i64_in _ (by omega)
      have hw2 : IntKind.i64.wrap (2 * (n : Int) + (i : Int)) = ((2 * n + i : Nat) : Int) := by rw [IntWalk.i64_in _ (by omega)]; omega
      obtain ⟨x, hx⟩ : ∃ x, x = 2 * n + i := ⟨_, rfl⟩
      have hxL : (x : Int) < (L : Int) := by omega
      have hx0 : (0 : Int) ≤ (x : Int) := by omega
      rw [← hx] at c4 k1 k2 hw2
      have hwf : weightF n m A i = -A m x := by rw [hx]; rfl
      have HWF := Lib.hid hwf
      have m0 := cell_regrown c0
      have m1 := cell_regrown c1
      have m3 := cell_regrown c3
      have m4 := cell_regrown c4
      have e1 : ∀ args w, (callFunc 62 args).run Tryz.prog w = .ok (.enter 62 args) w := enters_of Tryz.func62 (by kernel_rfl) rfl
      have e2 : ∀ args w, (callFunc 150 args).run Tryz.prog w = .ok (.enter 150 args) w := enters_of Tryz.func150 (by kernel_rfl) rfl
      clear c0 c1 c3 c4 hx hwf
      go_wp2_with fail
      refine region_below_tail1 (v := vo) 21 (by kernel_rfl) (by kernel_rfl) (fun _ _ _ h => h) (Or.inl ⟨by rfl, fun wz => by go_simp⟩) ?_
      simp only [List.take_succ_cons, List.take_zero, List.drop_succ_cons, List.drop_zero, Act.put, List.setIfInBounds_toArray, List.set_cons_zero, List.set_cons_succ]
      repeat (go_big_quiet_step (fail))
      go_big_quiet_step (exact k1 _ _)
      repeat (go_big_quiet_step (fail))
      go_big_quiet_step (exact k2 _ _)
      repeat (go_big_quiet_step (fail))
      refine wpQuiet_nil ?_
      intro W6 hw'
      have hb6 : Below wr.heap.size wr W6 := by obtain ⟨p, e⟩ := hw'; rw [e]; exact below_regrown wr p.d p.os
      clear hw'
      have HT6 : Hid (OwnS W6 w.heap.size vo (mapR (weightF n m A) i) ∧ Below w.heap.size w W6) := Lib.hid ⟨hin.out.1.below hb6, bel_to hin.out.2 hb6⟩
      clear k1 k2 m0 m1 m3 m4 e1 e2 hb6 hin hw1 hw2
      go_wp2_with (at_builtin; refine wpList_app_s (q := R (-A m x)) rfl _ _ rfl rfl rfl rfl HT6.out.1 HT6.out.2.size (by rw [mapR_len]; omega) ?_; intro v2 w2 ho2 hk2)
      have HFI : Hid (OwnS w2 w.heap.size v2 (mapR (weightF n m A) (i + 1)) ∧ Below w.heap.size w w2) := Lib.hid ⟨by
        rw [mapR_snoc, HWF.out]; exact ho2, hk2 _ _ (Nat.le_refl _) HT6.out.2⟩
      clear ho2 hk2 HT6
      go_wp2
      go_roundw
      case rel => exact ⟨i + 1, _, by go_num, rfl, hlt, HFI⟩
      case measure => simp [intOf]; omega
    · obtain rfl : m = i := by omega
      clear HC HNG HOF
      go_wp2
      go_ret
      exact ⟨_, rfl, hin.out.1, hin.out.2⟩
theorem ppoint (t : TabS w B p S gr gb cr cb h n m A b) (e : Nat) (hA : ∀ j, j ≤ m → ∀ k, k ≤ wdt n m → Bq e (A j k)) (he : e ≤ 210) (he1 : 1 ≤ e) :
    Calls Tryz.prog 111 #[.pointer (some ⟨p, 0, none⟩)] w fun ee w' => ∃ v, ee = .returned v ∧ OwnS w' w.heap.size v (mapR (pointF n m A b) n) ∧ Below w.heap.size w w' := by
  obtain ⟨L, hL⟩ : ∃ L, L = wdt n m + 1 := ⟨_, rfl⟩
  obtain ⟨D, hD⟩ : ∃ D, D = wdt n m := ⟨_, rfl⟩
  have hms := t.hm
  have hns := t.hn
  have hDn : 2 * n + m < D := by rw [hD]; unfold wdt; omega
  have hDs : D ≤ 10000 := by rw [hD]; unfold wdt; omega
  have HC := Lib.hid (fun W i (hi : i < m) (hW : Below w.heap.size w W) => (by
    have hT := t.below' hW
    have e1 := hT.ce (show i ≤ m by omega) (Nat.le_refl (wdt n m))
    have e3 := hT.crow hi
    rw [← hL] at e3
    rw [← hD] at e1
    exact ⟨hT.c3, e3, e1, hT.cbas hi⟩ : W.cell? ⟨p, 3, none⟩ = some (.slice (some ⟨gr, 0, none⟩) m cr) ∧ W.cell? ⟨gr, i, none⟩ = some (.slice (some ⟨h i, 0, none⟩) L L) ∧ W.cell? ⟨h i, D, none⟩ = some (.string (bs (R (A i D)))) ∧ W.cell? ⟨gb, i, none⟩ = some (.int .i64 (b i : Int))))
  have HC0 := Lib.hid (fun W (hW : Below w.heap.size w W) => (by
    have hT := t.below' hW
    exact ⟨hT.c0, hT.c1, hT.c4⟩ : W.cell? ⟨p, 0, none⟩ = some (.pointer (some ⟨S, 0, none⟩)) ∧ W.cell? ⟨p, 1, none⟩ = some (.int .i64 (n : Int)) ∧ W.cell? ⟨p, 4, none⟩ = some (.slice (some ⟨gb, 0, none⟩) m cb)))
  have HBL := Lib.hid (fun i (hi : i < m) => t.blt i hi)
  have HWD := Lib.hid (fun W (hW : Below w.heap.size w W) => pwidth (t.below' hW))
  have HOF := Lib.hid (fun s W (hW : Below w.heap.size w W) => psof S s W ((t.below' hW).err))
  have HSB := Lib.hid (fun W k (hW : Below w.heap.size w W) => ratSub (allS A b (wdt n m) m k) (allS A b (wdt n m) m (n + k)) e e W ((t.below' hW).gl) (allS_bq b hA he1 m (Nat.le_refl _) _) (allS_bq b hA he1 m (Nat.le_refl _) _) (by omega))
  have HPF : Hid (∀ k, pointF n m A b k = allS A b D m k - allS A b D m (n + k)) := Lib.hid (fun k => by rw [hD]; rfl)
  rw [← hD] at HBL HWD HSB
  have hDL : D < L := by omega
  clear t hA hL hD
  -- the list [0]
  have hb0 : Below w.heap.size w (w.alloc (.cells #[.string (bs [48])] 86 (0, 0))) := (Below.refl _ _).alloc (Nat.le_refl _) _
  have HW1 := Lib.hid (HWD.out _ hb0)
  have hr0 : (w.alloc (.cells #[.string (bs [48])] 86 (0, 0))).cell? ⟨w.heap.size, 0, none⟩ = some (.string (bs [48])) := (Row.new w 86 [.string (bs [48])]).cell rfl
  have HB0 := Lib.hid (And.intro hb0 hr0)
  clear hb0 hr0
  go_enter Tryz.func111, Tryz.ntmps111
  go_wp2_with fail
  refine (HW1.out).mono ?_
  rintro e wa ⟨rfl, hba⟩
  have hx1 : wa.cell? ⟨w.heap.size, 0, none⟩ = some (.string (bs [48])) := (hba.cell (p := ⟨w.heap.size, 0, none⟩) (block_lt_of_cell HB0.out.2)).trans HB0.out.2
  have HBA := Lib.hid (bel_to HB0.out.1 hba)
  have HRP := Lib.hid (prepeat w.heap.size 1 D wa hx1 (by omega) (by omega))
  clear hba hx1 HB0 HW1
  go_wp2_with fail
  refine HRP.out.mono ?_
  rintro e1 w1 ⟨ga, rfl, hga, hrow, hb1⟩
  have HAL : Hid (Pre w1 ga 86 (Strs (mapR (allS A b D 0) D)) ∧ Below w.heap.size w w1 ∧ w.heap.size ≤ ga) := Lib.hid ⟨by rw [part0_map] at hrow; exact Pre.of hrow, bel_to HBA.out hb1, Nat.le_trans HBA.out.size hga⟩
  clear hga hrow hb1 HRP HBA
  obtain ⟨c0, c1, c4⟩ := HC0.out w1 HAL.out.2.1
  clear c0 c1
  go_wp2_with fail
  go_loopw [17] (fun iv wr => ∃ i : Nat, iv = .int .i64 (i : Int) ∧ i ≤ m ∧ Hid (Pre wr ga 86 (Strs (mapR (allS A b D i) D)) ∧ Below w.heap.size w wr ∧ w.heap.size ≤ ga)) (fun iv _ => m - (intOf iv).toNat)
  case atStart => exact ⟨0, rfl, by omega, HAL⟩
  case round =>
    clear HAL c4
    obtain ⟨i, rfl, hi, hin⟩ := hrel
    by_cases hlt : i < m
    · obtain ⟨c3, c4, c5, c6⟩ := HC.out wr i hlt hin.out.2.1
      have k1 := reg_of (w := wr) (fun W hW => HWD.out W (bel_to hin.out.2.1 hW))
      have m3 := cell_regrown c3
      have m4 := cell_regrown c4
      have m5 := cell_regrown c5
      have e1 : ∀ args w, (callFunc 110 args).run Tryz.prog w = .ok (.enter 110 args) w := enters_of Tryz.func110 (by kernel_rfl) rfl
      have hi0 : (0 : Int) ≤ (i : Int) := by omega
      have his : (i : Int) < (m : Int) := by omega
      have hd0 : (0 : Int) ≤ (D : Int) := by omega
      have hdL : (D : Int) < (L : Int) := by omega
      have hbi := HBL.out i hlt
      have hb0 : (0 : Int) ≤ (b i : Int) := by omega
      have hbD : (b i : Int) < (D : Int) := by omega
      clear c3 c4 c5
      go_wp2_with fail
      refine region_below_tail 13 (by kernel_rfl) (by kernel_rfl) ?_
      simp only [List.take_succ_cons, List.take_zero, List.drop_succ_cons, List.drop_zero]
      repeat (go_big_quiet_step (fail))
      go_big_quiet_step (exact k1 _ _)
      repeat (go_big_quiet_step (fail))
      refine wpQuiet_nil ?_
      intro W6 hw'
      have hb6 : Below wr.heap.size wr W6 := by obtain ⟨p, e⟩ := hw'; rw [e]; exact below_regrown wr p.d p.os
      clear hw'
      have HT6 : Hid (Pre W6 ga 86 (Strs (mapR (allS A b D i) D)) ∧ Below w.heap.size w W6 ∧ w.heap.size ≤ ga) := Lib.hid ⟨hin.out.1.below' hb6, bel_to hin.out.2.1 hb6, hin.out.2.2⟩
      clear k1 m3 m4 m5 e1 hb6 hin c6
      have fz := HT6.out.1.free (b i)
      have fc := HT6.out.1.cell (strs_get hbi)
      have HN : Hid (Pre (W6.setCell ⟨ga, b i, none⟩ (.string (bs (R (A i D))))) ga 86 (Strs (mapR (allS A b D (i + 1)) D)) ∧ Below w.heap.size w (W6.setCell ⟨ga, b i, none⟩ (.string (bs (R (A i D))))) ∧ w.heap.size ≤ ga) := Lib.hid ⟨by
        have h2 := HT6.out.1.set (i := b i) (by simp [Strs, mapR_len]; exact hbi) (.string (bs (R (A i D))))
        rw [strs_set] at h2
        exact h2, HT6.out.2.1.setCell (p := ⟨ga, b i, none⟩) HT6.out.2.2 _, HT6.out.2.2⟩
      clear HT6
      go_wp2
      go_roundw
      case rel => exact ⟨i + 1, by go_num, hlt, HN⟩
      case measure => simp [intOf]; omega
    · obtain rfl : m = i := by omega
      obtain ⟨c0, c1, c4⟩ := HC0.out wr hin.out.2.1
      obtain ⟨W0, hW0⟩ : ∃ W0, W0 = wr := ⟨_, rfl⟩
      rw [← hW0] at hin c1 ⊢
      clear hW0 c0 c4 HC HBL HWD
      have HAL := hin
      clear hin
      go_wp2_with fail
      go_loopw [6, 41] (fun ov iv wr => ∃ (k : Nat) (vo : Value), iv = .int .i64 (k : Int) ∧ ov = vo ∧ k ≤ n ∧ Hid (OwnS wr W0.heap.size vo (mapR (pointF n m A b) k) ∧ Below W0.heap.size W0 wr)) (fun _ iv _ => n - (intOf iv).toNat)
      case atStart => exact ⟨0, _, rfl, rfl, by omega, Lib.hid ⟨World.ownsRow_nil _ _ _ _, Below.refl _ _⟩⟩
      case round =>
        clear c1
        obtain ⟨k, vo, rfl, hvo, hk, hin⟩ := hrel
        have hvo := hvo.symm
        subst hvo
        by_cases hlt : k < n
        · have hbw := bel_to HAL.out.2.1 hin.out.2
          obtain ⟨c0, c1, c4⟩ := HC0.out wr hbw
          have hpa := HAL.out.1.below' hin.out.2
          have c5 := hpa.cell (strs_get (show k < D by omega))
          have c6 := hpa.cell (strs_get (show n + k < D by omega))
          have k1 := reg_of (w := wr) (fun W hW => HSB.out W k (bel_to hbw hW))
          have k2 := reg_of (w := wr) (fun W hW => HOF.out (R (allS A b D m k - allS A b D m (n + k))) W (bel_to hbw hW))
          have hw2 : IntKind.i64.wrap ((n : Int) + (k : Int)) = ((n + k : Nat) : Int) := by rw [IntWalk.i64_in _ (by omega)]; omega
          obtain ⟨x, hx⟩ : ∃ x, x = n + k := ⟨_, rfl⟩
          have hxD : (x : Int) < (D : Int) := by omega
          have hx0 : (0 : Int) ≤ (x : Int) := by omega
          have hkD : (k : Int) < (D : Int) := by omega
          have hk0 : (0 : Int) ≤ (k : Int) := by omega
          rw [← hx] at c6 k1 k2 hw2
          have HWF : Hid (pointF n m A b k = allS A b D m k - allS A b D m x) := Lib.hid (by rw [HPF.out, hx])
          have m0 := cell_regrown c0
          have m1 := cell_regrown c1
          have m5 := cell_regrown c5
          have m6 := cell_regrown c6
          have e1 : ∀ args w, (callFunc 158 args).run Tryz.prog w = .ok (.enter 158 args) w := enters_of Tryz.func158 (by kernel_rfl) rfl
          have e2 : ∀ args w, (callFunc 150 args).run Tryz.prog w = .ok (.enter 150 args) w := enters_of Tryz.func150 (by kernel_rfl) rfl
          clear c0 c1 c4 c5 c6 hx hpa hbw
          generalize allS A b D m k - allS A b D m x = q1 at *
          generalize allS A b D m k = q2 at *
          generalize allS A b D m x = q3 at *
          go_wp2_with fail
          refine region_below_tail1 (v := vo) 21 (by kernel_rfl) (by kernel_rfl) (fun _ _ _ h => h) (Or.inl ⟨by rfl, fun wz => by go_simp⟩) ?_
          simp only [List.take_succ_cons, List.take_zero, List.drop_succ_cons, List.drop_zero, Act.put, List.setIfInBounds_toArray, List.set_cons_zero, List.set_cons_succ]
          repeat (go_big_quiet_step (fail))
          go_big_quiet_step (exact k1 _ _)
          repeat (go_big_quiet_step (fail))
          go_big_quiet_step (exact k2 _ _)
          repeat (go_big_quiet_step (fail))
          refine wpQuiet_nil ?_
          intro W6 hw'
          have hb6 : Below wr.heap.size wr W6 := by obtain ⟨p, e⟩ := hw'; rw [e]; exact below_regrown wr p.d p.os
          clear hw'
          have HT6 : Hid (OwnS W6 W0.heap.size vo (mapR (pointF n m A b) k) ∧ Below W0.heap.size W0 W6) := Lib.hid ⟨hin.out.1.below hb6, bel_to hin.out.2 hb6⟩
          clear k1 k2 m0 m1 m5 m6 e1 e2 hb6 hin hw2
          go_wp2_with (at_builtin; refine wpList_app_s (q := R q1) rfl _ _ rfl rfl rfl rfl HT6.out.1 HT6.out.2.size (by rw [mapR_len]; omega) ?_; intro v2 w2 ho2 hk2)
          have HFI : Hid (OwnS w2 W0.heap.size v2 (mapR (pointF n m A b) (k + 1)) ∧ Below W0.heap.size W0 w2) := Lib.hid ⟨by
            rw [mapR_snoc, HWF.out]; exact ho2, hk2 _ _ (Nat.le_refl _) HT6.out.2⟩
          clear ho2 hk2 HT6
          go_wp2
          go_roundw
          case rel => exact ⟨k + 1, _, by go_num, rfl, hlt, HFI⟩
          case measure => simp [intOf]; omega
        · obtain rfl : n = k := by omega
          clear HC0 HSB HOF HPF
          have HX := Lib.hid (And.intro (ownsRow_base hin.out.1 HAL.out.2.1.size) (bel_to HAL.out.2.1 hin.out.2))
          clear hin
          go_wp2
          go_ret
          exact ⟨_, rfl, HX.out.1, HX.out.2⟩
end
end W
end Go.Proofs.YtellemlhhlafcaaGreatDoor
end
