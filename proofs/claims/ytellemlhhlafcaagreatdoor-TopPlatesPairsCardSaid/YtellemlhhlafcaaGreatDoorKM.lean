/-
  Chapter 5: 'aim' sets the goal.
  Chapter 5: the table of bounds while it is laid: laws.
-/
import Derived.Test.YtellemlhhlafcaaGreatDoorKL
section
namespace Go.Proofs.YtellemlhhlafcaaGreatDoor
open Go Go.RowKit Go.Deep Go.Sort Go.Shelf
namespace M
def goalP (n : Nat) (goal : List Rat) (k : Nat) : Nat → Rat := fun j => if j < k then nth goal j else if n ≤ j ∧ j < n + k then - nth goal (j - n) else 0
theorem goalP_zero (n : Nat) (goal : List Rat) : goalP n goal 0 = fun _ => 0 := by
  funext j; unfold goalP; rw [if_neg (by omega), if_neg (by omega)]
theorem goalP_step (n : Nat) (goal : List Rat) (k : Nat) (hk : k < n) : upd (upd (goalP n goal k) k (nth goal k)) (n + k) (- nth goal k) = goalP n goal (k + 1) := by
  funext j
  unfold upd goalP
  by_cases h1 : j = n + k
  · subst h1
    rw [if_pos rfl, if_neg (by omega), if_pos (by omega), show n + k - n = k by omega]
  · rw [if_neg h1]
    by_cases h2 : j = k
    · subst h2; rw [if_pos rfl, if_pos (by omega)]
    · rw [if_neg h2]
      by_cases h3 : j < k
      · rw [if_pos h3, if_pos (by omega)]
      · rw [if_neg h3, if_neg (show ¬ j < k + 1 by omega)]
        by_cases h4 : n ≤ j ∧ j < n + k
        · rw [if_pos h4, if_pos (by omega)]
        · rw [if_neg h4, if_neg (by omega)]
theorem goalP_end (n : Nat) (goal : List Rat) : goalP n goal n = goalF n goal := by
  funext j
  unfold goalP goalF
  by_cases h1 : j < n
  · rw [if_pos h1, if_pos h1]
  · rw [if_neg h1, if_neg h1]
    by_cases h2 : j < 2 * n
    · rw [if_pos (by omega), if_pos h2]
    · rw [if_neg (by omega), if_neg h2]
def aimG (n m : Nat) (A : Mx) (b : Nat → Nat) (g : List Rat) (i : Nat) : List Rat := (List.range (wdt n m + 1)).map fun k => nth g k - nth g (b i) * A i k
theorem aimT_back {ez n m : Nat} {A : Mx} {b : Nat → Nat} {goal : List Rat} {i : Nat} {g2 : List Rat} (h : aimT ez n m A b goal (i + 1) = some g2) :
    ∃ g, aimT ez n m A b goal i = some g ∧ smallL ez g = true ∧ g2 = aimG n m A b g i := by
  unfold aimT at h
  cases hg : aimT ez n m A b goal i with
  | none => rw [hg] at h; cases h
  | some g =>
    rw [hg] at h
    simp only at h
    by_cases hs : smallL ez g = true
    · rw [if_pos hs] at h; exact ⟨g, rfl, hs, (Option.some.inj h).symm⟩
    · rw [if_neg hs] at h; cases h
theorem aimT_le {ez n m : Nat} {A : Mx} {b : Nat → Nat} {goal : List Rat} : ∀ (d i : Nat) (g2 : List Rat), aimT ez n m A b goal (i + d) = some g2 → ∃ g, aimT ez n m A b goal i = some g
  | 0, i, g2, h => ⟨g2, h⟩
  | d + 1, i, g2, h => by
    obtain ⟨g, hg, _, _⟩ := aimT_back (i := i + d) h
    exact aimT_le d i g hg
theorem aimT_fwd {ez n m : Nat} {A : Mx} {b : Nat → Nat} {goal : List Rat} {gm : List Rat} (h : aimT ez n m A b goal m = some gm) {i : Nat} (hi : i < m) {g : List Rat} (hg : aimT ez n m A b goal i = some g) :
    smallL ez g = true ∧ aimT ez n m A b goal (i + 1) = some (aimG n m A b g i) := by
  obtain ⟨d, rfl⟩ := Nat.exists_eq_add_of_le (show i + 1 ≤ m by omega)
  obtain ⟨g2, hg2⟩ := aimT_le d (i + 1) gm h
  obtain ⟨g3, h3, hs, he⟩ := aimT_back hg2
  rw [hg] at h3
  obtain rfl := Option.some.inj h3
  exact ⟨hs, by rw [hg2, he]⟩
theorem nth_small {ez : Nat} {g : List Rat} (h : smallL ez g = true) (hez1 : 1 ≤ ez) (k : Nat) : Bq ez (nth g k) := by
  unfold nth
  by_cases hk : k < g.length
  · rw [show g.getD k 0 = g[k] by simp [hk]]; exact smallL_bq h _ (List.getElem_mem hk)
  · rw [show g.getD k 0 = 0 by simp [Nat.not_lt.1 hk]]; exact Bq_nil.mono hez1
theorem upd_row (A : Mx) (f : Nat → Rat) (j k : Nat) (q : Rat) : upd (upd A j f) j (upd ((upd A j f) j) k q) = upd A j (upd f k q) := by
  funext i
  by_cases e : i = j
  · subst e; rw [upd_same, upd_same, upd_same]
  · rw [upd_other _ e, upd_other _ e, upd_other _ e]
theorem rowsV_congr {f g : Nat → Nat} {m L : Nat} (h : ∀ k, k < m → f k = g k) : rowsV f m L = rowsV g m L := by
  unfold rowsV
  apply List.map_congr_left
  intro k hk
  rw [h k (List.mem_range.1 hk)]
end M
open M in
theorem TabS.goal {w : World} {B p S gr gb cr cb : Nat} {h : Nat → Nat} {n m : Nat} {A : Mx} {b : Nat → Nat} (t : TabS w B p S gr gb cr cb h n m A b) {g : Nat} {f : Nat → Rat}
    (hg : Pre w g 86 (Strs (mapR f (wdt n m + 1)))) (hB : B ≤ g) (hj : ∀ j, j ≤ m → g ≠ h j) (hne : g ≠ p ∧ g ≠ S ∧ g ≠ gr ∧ g ≠ gb) :
    TabS (w.setCell ⟨p, 5, none⟩ (.slice (some ⟨g, 0, none⟩) (wdt n m + 1) (wdt n m + 1))) B p S gr gb cr cb (upd h m g) n m (upd A m f) b := by
  obtain ⟨q1, q2, q3, _, _, _⟩ := t.pne
  have h5 := t.tab.set (i := 5) (by simp) (.slice (some ⟨g, 0, none⟩) (wdt n m + 1) (wdt n m + 1))
  refine { t with gl := t.gl.below ((Below.refl B w).setCell (p := ⟨p, 5, none⟩) t.lowp _) t.hB, tab := ?_, err := Row.other t.err (fun e => q1 e.symm) _, rows := ?_, bas := t.bas.other (fun e => q3 e.symm) _, mat := fun j hjm => ?_, lowh := fun j hjm => ?_, inj := fun i j hi hjm e => ?_, hne := fun j hjm => ?_ }
  · rw [upd_same]; exact h5
  · rw [rowsV_congr (g := h) (fun k hk => upd_other _ (by omega) _)]
    exact t.rows.other (fun e => q2 e.symm) _
  · by_cases e : j = m
    · subst e
      rw [upd_same, upd_same]
      exact hg.other (fun e => hne.1 e) _
    · rw [upd_other _ e, upd_other _ e]
      exact (t.mat j hjm).other (fun e => (t.hne j hjm).1 e) _
  · by_cases e : j = m
    · subst e; rw [upd_same]; exact hB
    · rw [upd_other _ e]; exact t.lowh j hjm
  · by_cases e1 : i = m
    · by_cases e2 : j = m
      · rw [e1, e2]
      · rw [e1, upd_same, upd_other _ e2] at e
        exact absurd e (hj j hjm)
    · by_cases e2 : j = m
      · rw [e2, upd_same, upd_other _ e1] at e
        exact absurd e.symm (hj i hi)
      · rw [upd_other _ e1, upd_other _ e2] at e
        exact t.inj i j hi hjm e
  · by_cases e : j = m
    · subst e; rw [upd_same]; exact hne
    · rw [upd_other _ e]; exact t.hne j hjm
namespace W
open M
attribute [local go_sem] bs_size bs_toList bs_get bs_extract bs_append bs_lit0 bs_lit1 lit1_bs
set_option maxHeartbeats 2000000
set_option maxRecDepth 20000
section
variable {w : World} {B p S gr gb cr cb : Nat} {h : Nat → Nat} {n m : Nat} {A : Mx} {b : Nat → Nat}
theorem paim (t : TabS w B p S gr gb cr cb h n m A b) (vg : Value) (goal gm : List Rat) (ez e : Nat) (hez : ez ≤ 210) (hez1 : 1 ≤ ez) (hg : ∀ W, Below B w W → RdT W vg (rx goal)) (hgl : goal.length = n) (hgq : ∀ x ∈ goal, Bq 20 x)
    (hA : ∀ j, j ≤ m → ∀ k, k ≤ wdt n m → Bq e (A j k)) (he : e ≤ 210) (haim : aimT ez n m A b goal m = some gm) :
    Calls Tryz.prog 107 #[.pointer (some ⟨p, 0, none⟩), vg] w fun ee w' =>
      ee = .returned (.tuple #[]) ∧ (∃ gx, TabS w' B p S gr gb cr cb (upd h m gx) n m (upd A m (nth gm)) b) ∧ Below B w w' := by
  obtain ⟨L, hL⟩ : ∃ L, L = wdt n m + 1 := ⟨_, rfl⟩
  obtain ⟨D, hD⟩ : ∃ D, D = wdt n m := ⟨_, rfl⟩
  have hms := t.hm
  have hns := t.hn
  have hDn : 2 * n + m < D := by rw [hD]; unfold wdt; omega
  have hDs : D ≤ 10000 := by rw [hD]; unfold wdt; omega
  have hLD : L = D + 1 := by rw [hL, hD]
  have HLD := Lib.hid hLD
  have hLs : L ≤ 20000 := by omega
  have hL1 : IntKind.i64.wrap ((D : Int) + 1) = (L : Int) := by rw [IntWalk.i64_in _ (by omega)]; omega
  have HT := Lib.hid t
  have HBS := Lib.hid (TabS.size t)
  have HDE : Hid (D = wdt n m ∧ L = wdt n m + 1) := Lib.hid ⟨hD, hL⟩
  obtain ⟨Ag, cg, rfl⟩ := (hg w (Below.refl _ _)).len
  have HG := Lib.hid hg
  rw [rx_len goal, hgl] at HG ⊢
  have HGL := Lib.hid hgl
  have HGQ := Lib.hid hgq
  have HA := Lib.hid hA
  have HAM := Lib.hid haim
  have hb0 : Below w.heap.size w (w.alloc (.cells #[.string (bs [48])] 86 (0, 0))) := (Below.refl _ _).alloc (Nat.le_refl _) _
  have HW1 := Lib.hid (pwidth (t.below' hb0))
  rw [← hD] at HW1
  have hr0 : (w.alloc (.cells #[.string (bs [48])] 86 (0, 0))).cell? ⟨w.heap.size, 0, none⟩ = some (.string (bs [48])) := (Row.new w 86 [.string (bs [48])]).cell rfl
  have HB0 := Lib.hid (And.intro hb0 hr0)
  clear hb0 hr0 t hg hgl hgq hA hL hD hLD haim
  go_enter Tryz.func107, Tryz.ntmps107
  go_wp2_with fail
  refine (HW1.out).mono ?_
  rintro e wa ⟨rfl, hba⟩
  have hx1 : wa.cell? ⟨w.heap.size, 0, none⟩ = some (.string (bs [48])) := (hba.cell (p := ⟨w.heap.size, 0, none⟩) (block_lt_of_cell HB0.out.2)).trans HB0.out.2
  have HBA := Lib.hid (bel_to HB0.out.1 hba)
  have HRP := Lib.hid (prepeat w.heap.size 1 L wa hx1 (by have := HLD.out; omega) (by have := HLD.out; omega))
  clear hba hx1 HB0 HW1
  go_wp2_with fail
  refine HRP.out.mono ?_
  rintro e1 w1 ⟨ga, rfl, hga, hrow, hb1⟩
  have hbw1 := bel_to HBA.out hb1
  have hgs : w.heap.size ≤ ga := Nat.le_trans HBA.out.size hga
  have ht1 := HT.out.below' hbw1
  rw [part0_map, HDE.out.2] at hrow
  have htg := ht1.goal (Pre.of hrow) (by have := HBS.out; omega) (fun j hj => by have := TabS.hlt HT.out hj; omega)
    (by have := HT.out.tab.lt; have := HT.out.err.lt; have := HT.out.rows.lt; have := HT.out.bas.lt; exact ⟨by omega, by omega, by omega, by omega⟩)
  rw [← HDE.out.2] at htg
  obtain ⟨h2, hh2⟩ : ∃ h2, h2 = upd h m ga := ⟨_, rfl⟩
  rw [← hh2] at htg
  have HTG : Hid (TabS (w1.setCell ⟨p, 5, none⟩ (.slice (some ⟨ga, 0, none⟩) L L)) B p S gr gb cr cb h2 n m (upd A m (goalP n goal 0)) b ∧ Below B w (w1.setCell ⟨p, 5, none⟩ (.slice (some ⟨ga, 0, none⟩) L L))) := Lib.hid ⟨by rw [goalP_zero]; exact htg, (hbw1.mono HBS.out).setCell (p := ⟨p, 5, none⟩) HT.out.lowp _⟩
  have fz := ht1.ft 5
  have fc := ht1.c5
  rw [← HDE.out.2] at fc
  have HH2 := Lib.hid hh2
  clear hga hrow hb1 HRP HBA ht1 htg hgs hh2
  go_wp2_with fail
  generalize w1.setCell ⟨p, 5, none⟩ (.slice (some ⟨ga, 0, none⟩) L L) = w2 at *
  clear fz fc hbw1
  go_loopw [20] (fun iv wr => ∃ k : Nat, iv = .int .i64 (k : Int) ∧ k ≤ n ∧ Hid (TabS wr B p S gr gb cr cb h2 n m (upd A m (goalP n goal k)) b ∧ Below B w wr)) (fun iv _ => n - (intOf iv).toNat)
  case atStart => exact ⟨0, rfl, by omega, HTG⟩
  case round =>
    clear HTG
    obtain ⟨k, rfl, hk, hin⟩ := hrel
    by_cases hlt : k < n
    · obtain ⟨b1, o1, rfl, hts⟩ := (HG.out wr hin.out.2).row k (by rw [rx_len, HGL.out]; exact hlt)
      have hkg : k < goal.length := by rw [HGL.out]; exact hlt
      have c9 := hts.val k (by rw [rx_len]; exact hkg)
      rw [rx_get goal k hkg, ← nth_get goal k hkg] at c9
      have hq : Bq 20 (nth goal k) := by rw [nth_get goal k hkg]; exact HGQ.out _ (List.getElem_mem hkg)
      have hw2 : IntKind.i64.wrap ((n : Int) + (k : Int)) = ((n + k : Nat) : Int) := by rw [IntWalk.i64_in _ (by omega)]; omega
      have HUP : Hid (upd (upd (goalP n goal k) k (nth goal k)) (n + k) (- nth goal k) = goalP n goal (k + 1)) := Lib.hid (goalP_step n goal k hlt)
      obtain ⟨x, hx⟩ : ∃ x, x = n + k := ⟨_, rfl⟩
      have hxL : (x : Int) < (L : Int) := by have := HLD.out; omega
      have hx0 : (0 : Int) ≤ (x : Int) := by omega
      have hkL : (k : Int) < (L : Int) := by have := HLD.out; omega
      have hk0 : (0 : Int) ≤ (k : Int) := by omega
      have hkx : k ≠ x := by omega
      have HKW : Hid (k ≤ wdt n m ∧ x ≤ wdt n m) := Lib.hid (by have := HDE.out; have := HLD.out; omega)
      rw [← hx] at hw2 HUP
      have hqd : Bq 20 (nth goal k) := hq
      obtain ⟨q, hq⟩ : ∃ q, q = nth goal k := ⟨_, rfl⟩
      rw [← hq] at c9 HUP hqd
      obtain ⟨gz, hgz⟩ : ∃ gz, gz = h2 m := ⟨_, rfl⟩
      have HK1 := Lib.hid (fun W A1 (hT : TabS W B p S gr gb cr cb h2 n m A1 b) => ratNeg q 20 W hT.gl hqd (by decide))
      have HK2 := Lib.hid (fun W A1 (hT : TabS W B p S gr gb cr cb h2 n m A1 b) => psof S (R (-q)) W hT.err)
      have HCL := Lib.hid (fun W A1 (hT : TabS W B p S gr gb cr cb h2 n m A1 b) => (by
        have c5 := hT.c5
        rw [← HDE.out.2, ← hgz] at c5
        exact ⟨hT.c0, hT.c1, c5⟩ : W.cell? ⟨p, 0, none⟩ = some (.pointer (some ⟨S, 0, none⟩)) ∧ W.cell? ⟨p, 1, none⟩ = some (.int .i64 (n : Int)) ∧ W.cell? ⟨p, 5, none⟩ = some (.slice (some ⟨gz, 0, none⟩) L L)))
      have HFC := Lib.hid (fun W A1 y (hy : y ≤ wdt n m) (hT : TabS W B p S gr gb cr cb h2 n m A1 b) => (by
        rw [hgz]
        exact ⟨hT.fe (Nat.le_refl m) y, hT.ce (Nat.le_refl m) hy⟩ : W.frozen? ⟨gz, y, none⟩ = false ∧ W.cell? ⟨gz, y, none⟩ = some (.string (bs (R (A1 m y))))))
      have HSA := Lib.hid (fun W f y r (hy : y ≤ wdt n m) (hT : TabS W B p S gr gb cr cb h2 n m (upd A m f) b ∧ Below B w W) => (by
        have t1 := hT.1.setA (Nat.le_refl m) hy r
        rw [upd_row, ← hgz] at t1
        have t2 := hT.1.belowA hT.2 (Nat.le_refl m) y (.string (bs (R r)))
        rw [← hgz] at t2
        exact ⟨t1, t2⟩ : TabS (W.setCell ⟨gz, y, none⟩ (.string (bs (R r)))) B p S gr gb cr cb h2 n m (upd A m (upd f y r)) b ∧ Below B w (W.setCell ⟨gz, y, none⟩ (.string (bs (R r))))))
      have HBT := Lib.hid (fun W W' f (hT : TabS W B p S gr gb cr cb h2 n m (upd A m f) b ∧ Below B w W) (hb : Below W.heap.size W W') => (And.intro (hT.1.below' hb) (hT.2.trans (hb.mono (TabS.size hT.1))) : TabS W' B p S gr gb cr cb h2 n m (upd A m f) b ∧ Below B w W'))
      have HTD := Lib.hid (HBT.out _ _ _ hin.out (RowKit.Below.drew (Below.refl wr.heap.size wr)))
      clear hx hts hkg hgz hq hqd hin
      go_wp2_with fail
      go_region_held3 (fun W => W.cell? ⟨p, 0, none⟩ = some (.pointer (some ⟨S, 0, none⟩)) ∧ W.cell? ⟨p, 1, none⟩ = some (.int .i64 (n : Int)) ∧ W.cell? ⟨p, 5, none⟩ = some (.slice (some ⟨gz, 0, none⟩) L L))
        (first | exact HCL.out _ _ HT8.out.1 | exact HCL.out _ _ HT7.out.1 | exact HCL.out _ _ HT6.out.1 | exact HCL.out _ _ HT5.out.1 | exact HCL.out _ _ HTD.out.1)
        (first
        | (go_at_call 62; refine (HK1.out _ _ HTD.out.1).mono ?_; rintro e w5 ⟨rfl, hb5⟩; have HT5 := Lib.hid (HBT.out _ _ _ HTD.out hb5))
        | (go_at_call 150; refine (HK2.out _ _ HT5.out.1).mono ?_; rintro e w6 ⟨rfl, hb6⟩; have HT6 := Lib.hid (HBT.out _ _ _ HT5.out hb6); have HT7 := Lib.hid (HSA.out _ _ k q HKW.out.1 HT6.out); obtain ⟨fz, fc⟩ := HFC.out _ _ k HKW.out.1 HT6.out.1; obtain ⟨fy, fd⟩ := HFC.out _ _ x HKW.out.2 HT7.out.1; have HT8 := Lib.hid (HSA.out _ _ x (-q) HKW.out.2 HT7.out)))
      rw [HUP.out] at HT8
      clear HK1 HK2 HCL HFC HSA HBT HTD HT5 HT6 HT7 HUP fz fc fy fd hw2 c9
      go_wp2
      go_roundw
      case rel => exact ⟨k + 1, by go_num, hlt, HT8⟩
      case measure => simp [intOf]; omega
    · obtain rfl : n = k := by omega
      have HTG : Hid (TabS wr B p S gr gb cr cb h2 n m (upd A m (goalF n goal)) b ∧ Below B w wr) := Lib.hid ⟨by rw [← goalP_end]; exact hin.out.1, hin.out.2⟩
      have c4 := hin.out.1.c4
      clear hin HG HGQ
      have HX0 : Hid (∃ g, aimT ez n m A b goal 0 = some g ∧ TabS wr B p S gr gb cr cb h2 n m (upd A m (nth g)) b ∧ Below B w wr) := Lib.hid (by
        refine ⟨_, rfl, HTG.out.1.congr (fun j hj k hk => ?_) (fun _ _ => rfl), HTG.out.2⟩
        by_cases e : j = m
        · subst e; rw [upd_same, upd_same]; exact (nth_map _ _ _ (by omega)).symm
        · rw [upd_other _ e, upd_other _ e])
      clear HTG
      go_wp2_with fail
      go_loopw [58] (fun iv wr => ∃ i : Nat, iv = .int .i64 (i : Int) ∧ i ≤ m ∧ Hid (∃ g, aimT ez n m A b goal i = some g ∧ TabS wr B p S gr gb cr cb h2 n m (upd A m (nth g)) b ∧ Below B w wr)) (fun iv _ => m - (intOf iv).toNat)
      case atStart => exact ⟨0, rfl, by omega, HX0⟩
      case round =>
        clear HX0 c4
        obtain ⟨i, rfl, hi, hin⟩ := hrel
        by_cases hlt : i < m
        · obtain ⟨g, hgi, hti, hbi⟩ := hin.out
          obtain ⟨hsm, hnx⟩ := aimT_fwd HAM.out hlt hgi
          have c4 := hti.cbas hlt
          have c5 := hti.c5
          rw [← HDE.out.2] at c5
          have hbl := hti.blt i hlt
          have c6 := hti.ce (Nat.le_refl m) (show b i ≤ wdt n m by omega)
          rw [upd_same] at c6
          have hb0 : (0 : Int) ≤ (b i : Int) := by omega
          have hbL : (b i : Int) < (L : Int) := by have := HDE.out; omega
          have hi0 : (0 : Int) ≤ (i : Int) := by omega
          have his : (i : Int) < (m : Int) := by omega
          obtain ⟨G, hG⟩ : ∃ G : Nat → Rat, G = fun k => nth g k - nth g (b i) * A i k := ⟨_, rfl⟩
          have HSTT : Hid (TabS wr B p S gr gb cr cb h2 n m (upd A m (mix (nth g) G 0)) b ∧ Below B w wr) := Lib.hid ⟨by rw [mix_zero]; exact hti, hbi⟩
          have HNX := Lib.hid hnx
          have HEND := Lib.hid (fun W (hT : TabS W B p S gr gb cr cb h2 n m (upd A m (mix (nth g) G L)) b) => (hT.congr (fun j hj k hk => by
            have := HDE.out.2
            by_cases e : j = m
            · subst e
              rw [upd_same, upd_same, mix_lt (by omega), hG]
              unfold aimG
              rw [nth_map _ _ k (show k < wdt n j + 1 by omega)]
            · rw [upd_other _ e, upd_other _ e]) (fun _ _ => rfl) : TabS W B p S gr gb cr cb h2 n m (upd A m (nth (aimG n m A b g i))) b))
          obtain ⟨y, hy⟩ : ∃ y, y = nth g (b i) := ⟨_, rfl⟩
          rw [← hy] at c6
          have HLS := Lib.hid (fun W k (hk : k < L) (hT : TabS W B p S gr gb cr cb h2 n m (upd A m (mix (nth g) G k)) b) => (by
            have e2 : G k = nth g k - y * A i k := by rw [hG, hy]
            rw [e2]
            exact psless S (nth g k) y (A i k) ez ez e W hT.gl hT.err (nth_small hsm hez1 k) (by rw [hy]; exact nth_small hsm hez1 _) (HA.out i (by omega) k (by have := HDE.out.2; omega)) (by omega) : Calls Tryz.prog 155 #[.pointer (some ⟨S, 0, none⟩), .string (bs (R (nth g k))), .string (bs (R y)), .string (bs (R (A i k)))] W (Ret W (.string (bs (R (G k)))))))
          have HCC := Lib.hid (fun W k (hk : k < L) (hT : TabS W B p S gr gb cr cb h2 n m (upd A m (mix (nth g) G k)) b) => (by
            have hkw : k ≤ wdt n m := by have := HDE.out.2; omega
            have d1 := hT.ce (Nat.le_refl m) hkw
            rw [upd_same, mix_ge (Nat.le_refl k)] at d1
            have d2 := hT.ce (show i ≤ m by omega) hkw
            rw [upd_other _ (by omega)] at d2
            have d3 := hT.crow hlt
            have d4 := hT.c5
            rw [← HDE.out.2] at d3 d4
            exact ⟨hT.c0, hT.c3, d4, d3, d1, d2⟩ : W.cell? ⟨p, 0, none⟩ = some (.pointer (some ⟨S, 0, none⟩)) ∧ W.cell? ⟨p, 3, none⟩ = some (.slice (some ⟨gr, 0, none⟩) m cr) ∧ W.cell? ⟨p, 5, none⟩ = some (.slice (some ⟨h2 m, 0, none⟩) L L) ∧ W.cell? ⟨gr, i, none⟩ = some (.slice (some ⟨h2 i, 0, none⟩) L L) ∧ W.cell? ⟨h2 m, k, none⟩ = some (.string (bs (R (nth g k)))) ∧ W.cell? ⟨h2 i, k, none⟩ = some (.string (bs (R (A i k))))))
          have HSS := Lib.hid (fun W k (hk : k < L) (hT : TabS W B p S gr gb cr cb h2 n m (upd A m (mix (nth g) G k)) b ∧ Below B w W) => (by
            have t1 := hT.1.setA (Nat.le_refl m) (show k ≤ wdt n m by have := HDE.out.2; omega) (G k)
            rw [upd_mix] at t1
            exact ⟨t1, hT.1.belowA hT.2 (Nat.le_refl m) k _⟩ : TabS (W.setCell ⟨h2 m, k, none⟩ (.string (bs (R (G k))))) B p S gr gb cr cb h2 n m (upd A m (mix (nth g) G (k + 1))) b ∧ Below B w (W.setCell ⟨h2 m, k, none⟩ (.string (bs (R (G k)))))))
          have HFZ := Lib.hid (fun W k (hT : TabS W B p S gr gb cr cb h2 n m (upd A m (mix (nth g) G k)) b) => hT.fe (Nat.le_refl m) k)
          clear hin hgi hti hbi hsm hnx hG hy hbl
          obtain ⟨W0, hW0⟩ : ∃ W0, W0 = wr := ⟨_, rfl⟩
          rw [← hW0] at HSTT c4 c5 c6 ⊢
          clear hW0
          go_wp2_with fail
          go_loopw [75] (fun iv wr => ∃ k : Nat, iv = .int .i64 (k : Int) ∧ k ≤ L ∧ Hid (TabS wr B p S gr gb cr cb h2 n m (upd A m (mix (nth g) G k)) b ∧ Below B w wr)) (fun iv _ => L - (intOf iv).toNat)
          case atStart => exact ⟨0, rfl, by omega, HSTT⟩
          case round =>
            clear HSTT c4 c5 c6
            obtain ⟨k, rfl, hk, hin⟩ := hrel
            by_cases hlk : k < L
            · obtain ⟨c0, c3, c5, c4, c6, c7⟩ := HCC.out wr k hlk hin.out.1
              have k1 := reg_of (w := wr) (fun W hW => HLS.out W k hlk (hin.out.1.below' hW))
              have hk0 : (0 : Int) ≤ (k : Int) := by omega
              have hks : (k : Int) < (L : Int) := by omega
              have m0 := cell_regrown c0
              have m3 := cell_regrown c3
              have m4 := cell_regrown c4
              have m5 := cell_regrown c5
              have m6 := cell_regrown c6
              have m7 := cell_regrown c7
              have e1 : ∀ args w, (callFunc 155 args).run Tryz.prog w = .ok (.enter 155 args) w := enters_of Tryz.func155 (by kernel_rfl) rfl
              clear c0 c3 c4 c5 c6 c7
              go_wp2_with fail
              refine region_below_tail 28 (by kernel_rfl) (by kernel_rfl) ?_
              simp only [List.take_succ_cons, List.take_zero, List.drop_succ_cons, List.drop_zero]
              repeat (go_big_quiet_step (fail))
              go_big_quiet_step (exact k1 _ _)
              repeat (go_big_quiet_step (fail))
              refine wpQuiet_nil ?_
              intro W6 hw'
              have hb6 : Below wr.heap.size wr W6 := by obtain ⟨p, e⟩ := hw'; rw [e]; exact below_regrown wr p.d p.os
              clear hw'
              have HT6 := Lib.hid (And.intro (hin.out.1.below' hb6) (hin.out.2.trans (hb6.mono (TabS.size hin.out.1))))
              clear k1 m0 m3 m4 m5 m6 m7 e1 hb6 hin
              have fz := HFZ.out W6 k HT6.out.1
              have fc := (HCC.out W6 k hlk HT6.out.1).2.2.2.2.1
              have HN := Lib.hid (HSS.out W6 k hlk HT6.out)
              clear HT6
              go_wp2
              go_roundw
              case rel => exact ⟨k + 1, by go_num, hlk, HN⟩
              case measure => simp [intOf]; omega
            · obtain rfl : L = k := by omega
              have HN : Hid (∃ g, aimT ez n m A b goal (i + 1) = some g ∧ TabS wr B p S gr gb cr cb h2 n m (upd A m (nth g)) b ∧ Below B w wr) := Lib.hid ⟨_, HNX.out, HEND.out wr hin.out.1, hin.out.2⟩
              clear hin HLS HCC HSS HFZ HEND
              go_wp2
              go_roundw
              case rel => exact ⟨i + 1, by go_num, hlt, HN⟩
              case measure => simp [intOf]; omega
        · obtain rfl : m = i := by omega
          have HN : Hid (∃ gx, TabS wr B p S gr gb cr cb (upd h m gx) n m (upd A m (nth gm)) b) := Lib.hid (by
            obtain ⟨g, hgi, hti, _⟩ := hin.out
            rw [HAM.out] at hgi
            obtain rfl := Option.some.inj hgi
            rw [HH2.out] at hti
            exact ⟨ga, hti⟩)
          have HNB : Hid (Below B w wr) := Lib.hid (by obtain ⟨_, _, _, hb⟩ := hin.out; exact hb)
          clear hin
          go_wp2
          go_end0
          exact ⟨rfl, HN.out, HNB.out⟩
end
end W
end Go.Proofs.YtellemlhhlafcaaGreatDoor
end
section
namespace Go.Proofs.YtellemlhhlafcaaGreatDoor
open Go Go.RowKit Go.Deep Go.Sort Go.Shelf
theorem pre_ne {W : World} {a b : Nat} {t u : TypeId} {xs ys : List Value} (ha : Pre W a t xs) (hb : Pre W b u ys) (h : t ≠ u) : a ≠ b := by
  intro e
  subst e
  obtain ⟨s1, h1⟩ := ha
  obtain ⟨s2, h2⟩ := hb
  unfold Row at h1 h2
  rw [h1] at h2
  injection Option.some.inj h2 with _ h3 _
  exact h h3
theorem pre_not_row {W : World} {a B k n : Nat} {t e : TypeId} {xs ys : List Value} {v : Value} (ha : Pre W a t xs) (hr : W.ownsRow B e k v n ys) (h : t ≠ e) : some a ≠ v.ownBlock := by
  rcases hr.2 with ⟨rfl, _⟩ | ⟨g, cap, cur, rfl, _, hgb, _⟩
  · simp [Value.ownBlock]
  · intro e'
    obtain rfl : a = g := by simpa [Value.ownBlock] using e'
    obtain ⟨s1, h1⟩ := ha
    unfold Row at h1
    rw [h1] at hgb
    injection Option.some.inj hgb with _ h3 _
    exact h h3
theorem Pre.grown {W W' : World} {b : Nat} {t : TypeId} {xs : List Value} {row : Option Nat} (h : Pre W b t xs) (hg : W.grownBy W' row) (hne : some b ≠ row) : Pre W' b t xs := by
  obtain ⟨sp, h⟩ := h
  exact ⟨sp, row_grown h hg hne⟩
theorem row_not_row {W : World} {B k n B2 k2 n2 : Nat} {e e2 : TypeId} {xs ys : List Value} {v v2 : Value} (ha : W.ownsRow B e k v n xs) (hr : W.ownsRow B2 e2 k2 v2 n2 ys) (h : e ≠ e2) : v = .slice none 0 0 ∨ v.ownBlock ≠ v2.ownBlock := by
  rcases ha.2 with ⟨rfl, _⟩ | ⟨g, cap, cur, rfl, _, hgb, _⟩
  · exact .inl rfl
  · refine .inr ?_
    have hp : Pre W g e cur.toList := ⟨[], by rw [List.append_nil]; unfold Row; rw [Array.toArray_toList]; exact hgb⟩
    exact pre_not_row hp hr h
theorem wpList_app_g {ops : Array Oper} {rest : List Oper} {o : Oper} {a : Act} {Q : Exit → Act → World → Prop} {t e : TypeId} {i : TypeInfo} {z : Value} {bytes : Nat}
    (ht : Tryz.prog.underlying t = some (.slice e)) (hi : Tryz.prog.info? e = some i) (hz : i.zero = some z) (hsize : i.size = 1) (hby : i.bytes = bytes) (hzs : z.cells.size = 1)
    {w : World} {B A : Nat} {v : Value} {n : Nat} {xs : List Value} (hgd : o.guard = none) (s x : Operand) (ho : o.op = .call { callee := .builtin .append, args := #[s, x], argTypes := #[t, t] })
    (hs : a.eval s = v) (hx : a.eval x = .slice (some ⟨A, 0, none⟩) 1 1) (hA : A = w.heap.size)
    (hown : w.ownsRow B e 1 v n xs) (hB : B ≤ w.heap.size) (c : Value) (hc : c.oneCell' = true) (hn : n ≤ 1000000000) (hb : bytes ≤ 1000)
    (h : ∀ g cap w', w'.ownsRow B e 1 (.slice (some ⟨g, 0, none⟩) (n + 1) cap) (n + 1) (xs ++ [c]) → (w.alloc (.cells #[c] e (0, 0))).grownBy w' v.ownBlock → wpList Tryz.prog ops Q rest (a.put o.dst (.slice (some ⟨g, 0, none⟩) (n + 1) cap)) w') : wpList Tryz.prog ops Q (o :: rest) a (w.alloc (.cells #[c] e (0, 0))) := by
  subst hA
  have hr := Row.new w e [c]
  refine wpList_plain hgd fun K hK2 => ?_
  obtain ⟨v', w', hrun, h2, h3, _⟩ := run_append_own (P := Tryz.prog) (w := w.alloc (.cells #[c] e (0, 0))) B t o.type e i z 1 bytes ht hi hz hsize hby hzs (by decide) v n xs (World.ownsRow.alloc hown _) ⟨w.heap.size, 0, none⟩ 1 1 [c] rfl
    (fun j u hj => by
      have hadd : (⟨w.heap.size, 0, none⟩ : Addr).add j = ⟨w.heap.size, j, none⟩ := by unfold Addr.add; split <;> simp_all
      rw [hadd]
      exact hr.cell hj) (fun u hu => by simp at hu; subst hu; exact hc) (by unfold maxLen; omega) (by
      have : (n + 1) * bytes ≤ (n + 1) * 1000 := Nat.mul_le_mul_left _ hb
      omega) (by show B ≤ (w.heap.push _).size; simp; omega)
  obtain ⟨g, cap, rfl⟩ := ownsRow_succ h2
  unfold Oper.wp execOp
  simp only [ho, resolve, invoke, builtin, Sem.run_bind, Sem.run_pure, Result.andThen_ok, List.map_toArray, List.map_cons, List.map_nil, hs, hx, hrun]
  exact hK2 _ _ (h g cap w' h2 h3)
theorem infoSl : (Tryz.prog.info? 60).map (fun i => (i.zero, i.size, i.bytes)) = some (some (.slice none 0 0), 1, 24) := by kernel_rfl
theorem infoInt : (Tryz.prog.info? 3).map (fun i => (i.zero, i.size, i.bytes)) = some (some (.int .i64 0), 1, 8) := by kernel_rfl
open M in
/-- The table at p with the first i rows. -/
structure LayS (W : World) (B p S n m i ib : Nat) (vr vb : Value) (h : Nat → Nat) (A : Mx) : Prop where
  tab : Pre W p 204 [.pointer (some ⟨S, 0, none⟩), .int .i64 (n : Int), .int .i64 (m : Int), vr, vb, .slice none 0 0]
  err : NoErP W S
  rows : W.ownsRow B 60 1 vr i (rowsV h i (wdt n m + 1))
  bas : W.ownsRow B 3 1 vb ib (intsV (fun j => 2 * n + j) ib)
  mat : ∀ j, j < i → Pre W (h j) 86 (Strs (mapR (A j) (wdt n m + 1)))
  lowh : ∀ j, j < i → B ≤ h j
  inj : ∀ j k, j < i → k < i → h j = h k → j = k
  lowp : B ≤ p
  lowS : B ≤ S
  gl : Glob W
  hB : 8 ≤ B
  hn : n ≤ 100
  hm : m ≤ 1000
section
open M
variable {W W' : World} {B p S n m i ib : Nat} {vr vb : Value} {h : Nat → Nat} {A : Mx}
theorem LayS.below' (t : LayS W B p S n m i ib vr vb h A) (hb : Below W.heap.size W W') : LayS W' B p S n m i ib vr vb h A :=
  { t with tab := t.tab.below' hb, err := t.err.below' hb, rows := World.ownsRow.kept (row := none) t.rows ⟨hb.os, hb.tape, hb.output, hb.size, fun k hk _ => hb.block k hk⟩ (Classical.em _), bas := World.ownsRow.kept (row := none) t.bas ⟨hb.os, hb.tape, hb.output, hb.size, fun k hk _ => hb.block k hk⟩ (Classical.em _), mat := fun j hj => (t.mat j hj).below' hb, gl := t.gl.of hb }
theorem LayS.size (t : LayS W B p S n m i ib vr vb h A) : B ≤ W.heap.size := Nat.le_trans t.lowp (Nat.le_of_lt t.tab.lt)
theorem LayS.c0 (t : LayS W B p S n m i ib vr vb h A) : W.cell? ⟨p, 0, none⟩ = some (.pointer (some ⟨S, 0, none⟩)) := t.tab.cell rfl
theorem LayS.c1 (t : LayS W B p S n m i ib vr vb h A) : W.cell? ⟨p, 1, none⟩ = some (.int .i64 (n : Int)) := t.tab.cell rfl
theorem LayS.c2 (t : LayS W B p S n m i ib vr vb h A) : W.cell? ⟨p, 2, none⟩ = some (.int .i64 (m : Int)) := t.tab.cell rfl
theorem LayS.c3 (t : LayS W B p S n m i ib vr vb h A) : W.cell? ⟨p, 3, none⟩ = some vr := t.tab.cell rfl
theorem LayS.c4 (t : LayS W B p S n m i ib vr vb h A) : W.cell? ⟨p, 4, none⟩ = some vb := t.tab.cell rfl
theorem LayS.c5 (t : LayS W B p S n m i ib vr vb h A) : W.cell? ⟨p, 5, none⟩ = some (.slice none 0 0) := t.tab.cell rfl
theorem rowsV_snoc (h : Nat → Nat) (i L g : Nat) : rowsV (upd h i g) (i + 1) L = rowsV h i L ++ [.slice (some ⟨g, 0, none⟩) L L] := by
  rw [← rowsV_congr (f := upd h i g) (g := h) (m := i) (fun k hk => upd_other _ (by omega) _)]
  unfold rowsV
  rw [List.range_succ, List.map_append, List.map_cons, List.map_nil, upd_same]
theorem intsV_snoc (f : Nat → Nat) (i : Nat) : intsV f (i + 1) = intsV f i ++ [.int .i64 (f i : Int)] := by
  unfold intsV; rw [List.range_succ, List.map_append]; rfl
theorem grownBy_setO (W : World) (b o : Nat) (v : Value) : W.grownBy (W.setCell ⟨b, o, none⟩ v) (some b) :=
  ⟨rfl, rfl, rfl, (KeepsWalks.setCell W _ v).size, fun k _ hk => Below.heap_setCell _ _ _ k (fun e => hk (by rw [e]))⟩
theorem LayS.app_rows (t : LayS W B p S n m i ib vr vb h A) {g gr cap : Nat} {f : Nat → Rat} {w' : World} {o : Obj} (hg : Pre W g 86 (Strs (mapR f (wdt n m + 1)))) (hgB : B ≤ g) (hne : ∀ j, j < i → h j ≠ g)
    (ho : w'.ownsRow B 60 1 (.slice (some ⟨gr, 0, none⟩) (i + 1) cap) (i + 1) (rowsV h i (wdt n m + 1) ++ [.slice (some ⟨g, 0, none⟩) (wdt n m + 1) (wdt n m + 1)])) (hgr : (W.alloc o).grownBy w' vr.ownBlock) :
    LayS (w'.setCell ⟨p, 3, none⟩ (.slice (some ⟨gr, 0, none⟩) (i + 1) cap)) B p S n m (i + 1) ib (.slice (some ⟨gr, 0, none⟩) (i + 1) cap) vb (upd h i g) (upd A i f) ∧
      Below B W (w'.setCell ⟨p, 3, none⟩ (.slice (some ⟨gr, 0, none⟩) (i + 1) cap)) := by
  have hb : Below B W w' := ((Below.refl B W).alloc t.size o).grown hgr (Nat.le_trans t.size (by simp)) (fun k hk => (World.ownsRow.lt t.rows k hk).1)
  have k1 : ∀ {b : Nat} {ty : TypeId} {xs : List Value}, Pre W b ty xs → ty ≠ 60 → Pre w' b ty xs := fun hp hn => (hp.alloc o).grown hgr (pre_not_row hp t.rows hn)
  have pt := k1 t.tab (by decide)
  have pe := k1 (Pre.of t.err) (by decide)
  have hpS := pre_ne pt pe (by decide)
  have hx : Below B W (w'.setCell ⟨p, 3, none⟩ (.slice (some ⟨gr, 0, none⟩) (i + 1) cap)) := hb.setCell (p := ⟨p, 3, none⟩) t.lowp _
  refine ⟨{ t with tab := ?_, err := ?_, rows := ?_, bas := ?_, mat := fun j hj => ?_, lowh := fun j hj => ?_, inj := fun j k hj hk e => ?_, gl := t.gl.below hx t.hB }, hx⟩
  · exact pt.set (i := 3) (by simp) _
  · have he : Row w' S 206 [.int .i64 0] := by
      have h1 : Row (W.alloc o) S 206 [.int .i64 0] := Row.alloc t.err o
      exact row_grown h1 hgr (pre_not_row (Pre.of t.err) t.rows (by decide))
    exact Row.other he (fun e => hpS e.symm) _
  · rw [rowsV_snoc]
    exact ho.kept (grownBy_setO w' p 3 _) (.inr (fun e => pre_not_row pt ho (by decide) e.symm))
  · have h1 := World.ownsRow.kept (World.ownsRow.alloc t.bas o) hgr (by
      rcases row_not_row t.bas t.rows (by decide) with e | e
      · left; rw [e]; rfl
      · exact .inr e)
    exact h1.kept (grownBy_setO w' p 3 _) (.inr (fun e => pre_not_row pt h1 (by decide) e.symm))
  · by_cases e : j = i
    · subst e
      rw [upd_same, upd_same]
      have h1 := k1 hg (by decide)
      exact h1.other (pre_ne h1 pt (by decide)) _
    · rw [upd_other _ e, upd_other _ e]
      have h1 := k1 (t.mat j (by omega)) (by decide)
      exact h1.other (pre_ne h1 pt (by decide)) _
  · by_cases e : j = i
    · subst e; rw [upd_same]; exact hgB
    · rw [upd_other _ e]; exact t.lowh j (by omega)
  · by_cases e1 : j = i
    · by_cases e2 : k = i
      · rw [e1, e2]
      · rw [e1, upd_same, upd_other _ e2] at e
        exact absurd e.symm (hne k (by omega))
    · by_cases e2 : k = i
      · rw [e2, upd_same, upd_other _ e1] at e
        exact absurd e (hne j (by omega))
      · rw [upd_other _ e1, upd_other _ e2] at e
        exact t.inj j k (by omega) (by omega) e
theorem LayS.app_bas (t : LayS W B p S n m i ib vr vb h A) {gb cap : Nat} {w' : World} {o : Obj}
    (ho : w'.ownsRow B 3 1 (.slice (some ⟨gb, 0, none⟩) (ib + 1) cap) (ib + 1) (intsV (fun j => 2 * n + j) ib ++ [.int .i64 ((2 * n + ib : Nat) : Int)])) (hgr : (W.alloc o).grownBy w' vb.ownBlock) :
    LayS (w'.setCell ⟨p, 4, none⟩ (.slice (some ⟨gb, 0, none⟩) (ib + 1) cap)) B p S n m i (ib + 1) vr (.slice (some ⟨gb, 0, none⟩) (ib + 1) cap) h A ∧
      Below B W (w'.setCell ⟨p, 4, none⟩ (.slice (some ⟨gb, 0, none⟩) (ib + 1) cap)) := by
  have hb : Below B W w' := ((Below.refl B W).alloc t.size o).grown hgr (Nat.le_trans t.size (by simp)) (fun k hk => (World.ownsRow.lt t.bas k hk).1)
  have k1 : ∀ {b : Nat} {ty : TypeId} {xs : List Value}, Pre W b ty xs → ty ≠ 3 → Pre w' b ty xs := fun hp hn => (hp.alloc o).grown hgr (pre_not_row hp t.bas hn)
  have pt := k1 t.tab (by decide)
  have pe := k1 (Pre.of t.err) (by decide)
  have hpS := pre_ne pt pe (by decide)
  have hx : Below B W (w'.setCell ⟨p, 4, none⟩ (.slice (some ⟨gb, 0, none⟩) (ib + 1) cap)) := hb.setCell (p := ⟨p, 4, none⟩) t.lowp _
  refine ⟨{ t with tab := ?_, err := ?_, rows := ?_, bas := ?_, mat := fun j hj => ?_, gl := t.gl.below hx t.hB }, hx⟩
  · exact pt.set (i := 4) (by simp) _
  · have he : Row w' S 206 [.int .i64 0] := by
      have h1 : Row (W.alloc o) S 206 [.int .i64 0] := Row.alloc t.err o
      exact row_grown h1 hgr (pre_not_row (Pre.of t.err) t.bas (by decide))
    exact Row.other he (fun e => hpS e.symm) _
  · have h1 := World.ownsRow.kept (World.ownsRow.alloc t.rows o) hgr (by
      rcases row_not_row t.rows t.bas (by decide) with e | e
      · left; rw [e]; rfl
      · exact .inr e)
    exact h1.kept (grownBy_setO w' p 4 _) (.inr (fun e => pre_not_row pt h1 (by decide) e.symm))
  · rw [intsV_snoc]
    exact ho.kept (grownBy_setO w' p 4 _) (.inr (fun e => pre_not_row pt ho (by decide) e.symm))
  · have h1 := k1 (t.mat j hj) (by decide)
    exact h1.other (pre_ne h1 pt (by decide)) _
def RWS (w W : World) (N g L : Nat) (u sm : Value) (f : Nat → Rat) : Prop := Pre W g 86 (Strs (mapR f L)) ∧ Below N w W ∧ Pre W N 138 [u, sm] ∧ N < g
theorem RWS.to {w W W2 : World} {N g L : Nat} {u sm : Value} {f : Nat → Rat} (h : RWS w W N g L u sm f) (hb : Below W.heap.size W W2) : RWS w W2 N g L u sm f :=
  ⟨h.1.below' hb, h.2.1.trans (hb.mono (Nat.le_of_lt h.2.2.1.lt)), h.2.2.1.below' hb, h.2.2.2⟩
theorem RWS.put {w W : World} {N g L : Nat} {u sm : Value} {f : Nat → Rat} (h : RWS w W N g L u sm f) {k : Nat} (hk : k < L) (q : Rat) : RWS w (W.setCell ⟨g, k, none⟩ (.string (bs (R q)))) N g L u sm (upd f k q) := by
  refine ⟨?_, h.2.1.setCell (p := ⟨g, k, none⟩) (Nat.le_of_lt h.2.2.2) _, h.2.2.1.other (by have := h.2.2.2; show N ≠ g; omega) _, h.2.2.2⟩
  have h2 := h.1.set (i := k) (by simp [Strs, mapR_len]; exact hk) (.string (bs (R q)))
  rwa [strs_set] at h2
theorem LayS.fin (t : LayS W B p S n m m m vr vb h A) (hm0 : 0 < m) {g : Nat} {f : Nat → Rat} (hg : Pre W g 86 (Strs (mapR f (wdt n m + 1)))) (hgB : B ≤ g) (hne : ∀ j, j < m → h j ≠ g) :
    ∃ gr gb cr cb, TabS (W.setCell ⟨p, 5, none⟩ (.slice (some ⟨g, 0, none⟩) (wdt n m + 1) (wdt n m + 1))) B p S gr gb cr cb (upd h m g) n m (upd A m f) (fun j => 2 * n + j) := by
  obtain ⟨gr, cr, rfl, hgr, pr⟩ := pre_own t.rows hm0
  obtain ⟨gb, cb, rfl, hgb, pb⟩ := pre_own t.bas hm0
  have pe := Pre.of t.err
  have q1 := pre_ne t.tab pe (by decide)
  have q2 := pre_ne t.tab pr (by decide)
  have q3 := pre_ne t.tab pb (by decide)
  have q4 := pre_ne pe pr (by decide)
  have q5 := pre_ne pe pb (by decide)
  have q6 := pre_ne pr pb (by decide)
  have hx : Below B W (W.setCell ⟨p, 5, none⟩ (.slice (some ⟨g, 0, none⟩) (wdt n m + 1) (wdt n m + 1))) := (Below.refl B W).setCell (p := ⟨p, 5, none⟩) t.lowp _
  refine ⟨gr, gb, cr, cb, { tab := ?_, err := Row.other t.err (fun e => q1 e.symm) _, rows := ?_, bas := pb.other (fun e => q3 e.symm) _, mat := fun j hj => ?_, blt := fun i hi => by unfold wdt; omega, lowp := t.lowp, lowS := t.lowS, lowr := hgr, lowb := hgb, lowh := fun j hj => ?_, inj := fun j k hj hk e => ?_, hne := fun j hj => ?_, pne := ⟨q1, q2, q3, q4, q5, q6⟩, gl := t.gl.below hx t.hB, hB := t.hB, hn := t.hn, hm := t.hm }⟩
  · rw [upd_same]; exact t.tab.set (i := 5) (by simp) _
  · rw [rowsV_congr (g := h) (fun k hk => upd_other _ (by omega) _)]
    exact pr.other (fun e => q2 e.symm) _
  · by_cases e : j = m
    · subst e; rw [upd_same, upd_same]; exact hg.other (pre_ne hg t.tab (by decide)) _
    · rw [upd_other _ e, upd_other _ e]
      have h1 := t.mat j (by omega)
      exact h1.other (pre_ne h1 t.tab (by decide)) _
  · by_cases e : j = m
    · subst e; rw [upd_same]; exact hgB
    · rw [upd_other _ e]; exact t.lowh j (by omega)
  · by_cases e1 : j = m
    · by_cases e2 : k = m
      · rw [e1, e2]
      · rw [e1, upd_same, upd_other _ e2] at e
        exact absurd e.symm (hne k (by omega))
    · by_cases e2 : k = m
      · rw [e2, upd_same, upd_other _ e1] at e
        exact absurd e (hne j (by omega))
      · rw [upd_other _ e1, upd_other _ e2] at e
        exact t.inj j k (by omega) (by omega) e
  · by_cases e : j = m
    · subst e; rw [upd_same]; exact ⟨pre_ne hg t.tab (by decide), pre_ne hg pe (by decide), pre_ne hg pr (by decide), pre_ne hg pb (by decide)⟩
    · rw [upd_other _ e]
      have h1 := t.mat j (by omega)
      exact ⟨pre_ne h1 t.tab (by decide), pre_ne h1 pe (by decide), pre_ne h1 pr (by decide), pre_ne h1 pb (by decide)⟩
theorem LayS.tab_rows (t : LayS W B p S n m i ib vr vb h A) {w' : World} {o : Obj} (hgr : (W.alloc o).grownBy w' vr.ownBlock) :
    Pre w' p 204 [.pointer (some ⟨S, 0, none⟩), .int .i64 (n : Int), .int .i64 (m : Int), vr, vb, .slice none 0 0] := (t.tab.alloc o).grown hgr (pre_not_row t.tab t.rows (by decide))
theorem LayS.tab_bas (t : LayS W B p S n m i ib vr vb h A) {w' : World} {o : Obj} (hgr : (W.alloc o).grownBy w' vb.ownBlock) :
    Pre w' p 204 [.pointer (some ⟨S, 0, none⟩), .int .i64 (n : Int), .int .i64 (m : Int), vr, vb, .slice none 0 0] := (t.tab.alloc o).grown hgr (pre_not_row t.tab t.bas (by decide))
end
end Go.Proofs.YtellemlhhlafcaaGreatDoor
end
