/-
  Chapter 5: 'laid' lays the table of bounds.
  Chapter 5: 'Most' and 'Feasible', wherever the plain simplex keeps small.
  Chapter 5: the program's weighted sums; 'Refute'.
  Chapter 5: 'Refute' on both sides.
  Chapter 5: equal lists of numbers, on both sides.
  Chapter 5: the program's 'VerifyMost'.
  Chapter 5: the reference's 'VerifyMost' (printed by wip/vmost.py).
  Chapter 5's laws: 'Few' of the reference.
  Chapter 5's laws: a call of the program and one of the reference return the same number.
  Chapter 5's laws: the examples ('awake').
-/
import Derived.Test.YtellemlhhlafcaaGreatDoorKM
import Derived.Test.YtellemlhhlafcaaGreatDoorKJ
section
namespace Go.Proofs.YtellemlhhlafcaaGreatDoor
open Go Go.RowKit Go.Deep Go.Sort Go.Shelf
namespace M
theorem laid_row (n : Nat) (l : List BQ) (i k : Nat) (hi : i < l.length) :
    upd (upd (upd (goalF n (l.getD i ([], 0)).1) (2 * n + i) 1) (wdt n l.length - 1) (-1)) (wdt n l.length) (l.getD i ([], 0)).2 k = laidA n l i k := by
  unfold upd laidA goalF
  rw [if_pos hi]
  have hD : wdt n l.length = 2 * n + l.length + 1 := rfl
  by_cases h1 : k = wdt n l.length
  · rw [if_pos h1, if_neg (by omega), if_neg (by omega), if_neg (by omega), if_neg (by omega), if_pos h1]
  · rw [if_neg h1]
    by_cases h2 : k = wdt n l.length - 1
    · rw [if_pos h2, if_neg (by omega), if_neg (by omega), if_neg (by omega), if_pos h2]
    · rw [if_neg h2]
      by_cases h3 : k = 2 * n + i
      · rw [if_pos h3, if_neg (by omega), if_neg (by omega), if_pos h3]
      · rw [if_neg h3]
        by_cases h4 : k < n
        · rw [if_pos h4, if_pos h4]
        · rw [if_neg h4, if_neg h4]
          by_cases h5 : k < 2 * n
          · rw [if_pos h5, if_pos h5]
          · rw [if_neg h5, if_neg h5, if_neg h3, if_neg h2, if_neg h1]
end M
namespace W
open M
attribute [local go_sem] bs_size bs_toList bs_get bs_extract bs_append bs_lit0 bs_lit1 lit1_bs
set_option maxHeartbeats 4000000
set_option maxRecDepth 20000
theorem R_one5 : R 1 = [49] := by
  have : ((1 : Int) : Rat) = 1 := rfl
  rw [← this, W.R_int, I_one]
theorem pwidthC {w : World} {p n m : Nat} (hn : n ≤ 100) (hm : m ≤ 1000) (c1 : w.cell? ⟨p, 1, none⟩ = some (.int .i64 (n : Int))) (c2 : w.cell? ⟨p, 2, none⟩ = some (.int .i64 (m : Int))) :
    Calls Tryz.prog 110 #[.pointer (some ⟨p, 0, none⟩)] w (Ret w (.int .i64 ((wdt n m : Nat) : Int))) := by
  have hw1 : IntKind.i64.wrap (2 * (n : Int)) = 2 * (n : Int) := IntWalk.i64_in _ (by omega)
  have hw2 : IntKind.i64.wrap (2 * (n : Int) + (m : Int)) = 2 * (n : Int) + (m : Int) := IntWalk.i64_in _ (by omega)
  have hw3 : IntKind.i64.wrap (2 * (n : Int) + (m : Int) + 1) = ((wdt n m : Nat) : Int) := by rw [IntWalk.i64_in _ (by omega)]; unfold wdt; omega
  clear hn hm
  go_enter Tryz.func110, Tryz.ntmps110
  go_wp2
  go_quiet (fail)
  go_wp2
  go_ret
  exact Ret.of rfl (Below.drewN (Below.refl _ _) _)
theorem plaid (vl : Value) (l : List BQ) (n : Nat) (w : World) (hg : Glob w) (hl : RdB w vl (bx l)) (hn1 : 1 ≤ n) (hn : n ≤ 8) (hr : RightW n l) (hl1 : 1 ≤ l.length) (hll : l.length ≤ 1000) :
    Calls Tryz.prog 105 #[.int .i64 (n : Int), vl] w fun e w' => ∃ p S gr gb cr cb h, e = .returned (.pointer (some ⟨p, 0, none⟩)) ∧
      TabS w' w.heap.size p S gr gb cr cb h n l.length (laidT n l).A (laidT n l).b ∧ Below w.heap.size w w' := by
  obtain ⟨Al, cpl, rfl⟩ := hl.len
  have HW := Lib.hid hl
  rw [bx_len l] at HW ⊢
  obtain ⟨m, hm⟩ : ∃ m, m = l.length := ⟨_, rfl⟩
  rw [← hm] at HW hl1 hll ⊢
  obtain ⟨L, hL⟩ : ∃ L, L = wdt n m + 1 := ⟨_, rfl⟩
  obtain ⟨D, hD⟩ : ∃ D, D = wdt n m := ⟨_, rfl⟩
  have hDn : D = 2 * n + m + 1 := hD
  have hLD : L = D + 1 := by omega
  have hLs : L ≤ 20000 := by omega
  have HDE : Hid (D = wdt n m ∧ L = wdt n m + 1 ∧ L = D + 1 ∧ D = 2 * n + m + 1) := Lib.hid ⟨hD, hL, hLD, hDn⟩
  have HM := Lib.hid hm
  have HR := Lib.hid hr
  obtain ⟨W0, hW0⟩ : ∃ W0, W0 = (w.alloc (.cells #[.int .i64 0] 206 (0, 0))).alloc (.cells #[.pointer (some ⟨w.heap.size, 0, none⟩), .int .i64 (n : Int), .int .i64 (m : Int), .slice none 0 0, .slice none 0 0, .slice none 0 0] 204 (0, 0)) := ⟨_, rfl⟩
  have hb0 : Below w.heap.size w W0 := by rw [hW0]; exact ((Below.refl _ _).alloc (Nat.le_refl _) _).alloc (by simp) _
  have hT0 : LayS W0 w.heap.size (w.heap.size + 1) w.heap.size n m 0 0 (.slice none 0 0) (.slice none 0 0) (fun _ => 0) (fun _ _ => 0) := by
    refine ⟨?_, ?_, World.ownsRow_nil _ _ _ _, World.ownsRow_nil _ _ _ _, fun j hj => by omega, fun j hj => by omega, fun j k hj => by omega, by omega, Nat.le_refl _, hg.of hb0, hg.2.2, by omega, hll⟩
    · have := Pre.of (Row.new (w.alloc (.cells #[.int .i64 0] 206 (0, 0))) 204 [.pointer (some ⟨w.heap.size, 0, none⟩), .int .i64 (n : Int), .int .i64 (m : Int), .slice none 0 0, .slice none 0 0, .slice none 0 0])
      rw [World.size_alloc] at this
      rw [hW0]; exact this
    · rw [hW0]; exact Row.alloc (Row.new w 206 [.int .i64 0]) _
  have HT0 := Lib.hid (And.intro hT0 hb0)
  clear hT0 hb0 hg hl hr hm hL hD hLD hDn
  go_enter Tryz.func105, Tryz.ntmps105
  go_wp2_with fail
  rw [← hW0]
  obtain ⟨S, hS⟩ : ∃ S, S = w.heap.size := ⟨_, rfl⟩
  obtain ⟨p, hp⟩ : ∃ p, p = w.heap.size + 1 := ⟨_, rfl⟩
  obtain ⟨B, hB⟩ : ∃ B, B = w.heap.size := ⟨_, rfl⟩
  rw [← hp] at HT0 ⊢
  have HT1 : Hid (LayS W0 B p S n m 0 0 (.slice none 0 0) (.slice none 0 0) (fun _ => 0) (fun _ _ => 0) ∧ Below w.heap.size w W0) := by rw [hB, hS]; exact HT0
  have HBS := Lib.hid hB
  clear HT0 hW0 hS hp hB
  go_loopw [20] (fun iv wr => ∃ (i : Nat) (vr vb : Value) (h : Nat → Nat) (A : Mx), iv = .int .i64 (i : Int) ∧ i ≤ m ∧ Hid (LayS wr B p S n m i i vr vb h A ∧ (∀ j, j < i → ∀ k, k ≤ D → A j k = laidA n l j k) ∧ Below w.heap.size w wr)) (fun iv _ => m - (intOf iv).toNat)
  case atStart => exact ⟨0, _, _, _, _, rfl, by omega, Lib.hid ⟨HT1.out.1, fun j hj => by omega, HT1.out.2⟩⟩
  case round =>
    clear HT1
    obtain ⟨i, vr, vb, h, A, rfl, hi, hin⟩ := hrel
    by_cases hlt : i < m
    · have hl2 := HW.out
      rw [HM.out, ← bx_len l] at hl2
      have hil : i < l.length := by rw [← HM.out]; exact hlt
      obtain ⟨b1, o1, rfl, hw⟩ := hl2.row i (by rw [bx_len]; exact hil)
      obtain ⟨u, cu, hu, _, cm⟩ := bound_at (hw.below' hin.out.2.2) i hil
      obtain ⟨Au, cpu, hue⟩ := hu.len
      have hri := HR.out _ (List.getElem_mem hil)
      rw [rx_len, hri.1] at hue
      subst hue
      have HU := Lib.hid (fun W (hW : Below wr.heap.size wr W) => hu.below hW)
      obtain ⟨row, hrow⟩ : ∃ row, row = l[i] := ⟨_, rfl⟩
      rw [← hrow] at HU cm hri
      have HRW : Hid (l.getD i ([], 0) = row) := Lib.hid (by rw [hrow]; simp [hil])
      have HRI := Lib.hid hri
      obtain ⟨sm, hsm⟩ : ∃ sm, sm = R row.2 := ⟨_, rfl⟩
      rw [← hsm] at cm
      have HSM := Lib.hid hsm
      have hr1 := Row.new wr 138 [.slice Au n cpu, .string (bs sm)]
      have hb1 : Below wr.heap.size wr (wr.alloc (.cells #[.slice Au n cpu, .string (bs sm)] 138 (0, 0))) := (Below.refl _ _).alloc (Nat.le_refl _) _
      have hb2 : Below wr.heap.size wr ((wr.alloc (.cells #[.slice Au n cpu, .string (bs sm)] 138 (0, 0))).alloc (.cells #[.string (bs [48])] 86 (0, 0))) := hb1.alloc hb1.size _
      have hr2 : ((wr.alloc (.cells #[.slice Au n cpu, .string (bs sm)] 138 (0, 0))).alloc (.cells #[.string (bs [48])] 86 (0, 0))).cell? ⟨wr.heap.size + 1, 0, none⟩ = some (.string (bs [48])) := by
        have := (Row.new (wr.alloc (.cells #[.slice Au n cpu, .string (bs sm)] 138 (0, 0))) 86 [.string (bs [48])]).cell (i := 0) rfl
        rwa [World.size_alloc] at this
      have HLY := Lib.hid (fun W (hW : Below wr.heap.size wr W) => hin.out.1.below' hW)
      have HBD := Lib.hid (fun W (hW : Below wr.heap.size wr W) => (by
        have h5 := ((hr1.alloc (.cells #[.string (bs [48])] 86 (0, 0))))
        exact h5 : Row ((wr.alloc (.cells #[.slice Au n cpu, .string (bs sm)] 138 (0, 0))).alloc (.cells #[.string (bs [48])] 86 (0, 0))) wr.heap.size 138 [.slice Au n cpu, .string (bs sm)]))
      have HWC := Lib.hid (fun W (hW : Below wr.heap.size wr W) => pwidthC (hin.out.1.hn) (hin.out.1.hm) (hin.out.1.below' hW).c1 (hin.out.1.below' hW).c2)
      rw [← HDE.out.1] at HWC
      have HW1 := Lib.hid (HWC.out _ hb2)
      have HB2 := Lib.hid (And.intro hb2 hr2)
      have hL1 : IntKind.i64.wrap ((D : Int) + 1) = (L : Int) := by have := HDE.out; rw [IntWalk.i64_in _ (by omega)]; omega
      clear hl2 hw hu hri hrow hsm hr1 hb1 hb2 hr2 hil
      go_wp2_with fail
      refine HW1.out.mono ?_
      rintro e wa ⟨rfl, hba⟩
      have hx1 : wa.cell? ⟨wr.heap.size + 1, 0, none⟩ = some (.string (bs [48])) := (hba.cell (p := ⟨wr.heap.size + 1, 0, none⟩) (block_lt_of_cell HB2.out.2)).trans HB2.out.2
      have HRP := Lib.hid (prepeat (wr.heap.size + 1) 1 L wa hx1 (by have := HDE.out; omega) (by omega))
      have hpn := (Pre.of (HBD.out wr (Below.refl _ _))).below' hba
      have hbwa := bel_to HB2.out.1 hba
      have hsz := hpn.lt
      clear hba hx1 HW1 HB2 HBD
      go_wp2_with fail
      refine HRP.out.mono ?_
      rintro e w4 ⟨g, rfl, hga, hrow, hb4⟩
      rw [part0_map] at hrow
      have HRS : Hid (RWS wr w4 wr.heap.size g L (.slice Au n cpu) (.string (bs sm)) (goalP n row.1 0)) := Lib.hid ⟨by rw [goalP_zero]; exact Pre.of hrow, bel_to hbwa hb4, hpn.below' hb4, by omega⟩
      have HHJ : Hid (∀ j, j < i → h j ≠ g) := Lib.hid (fun j hj => by have := (hin.out.1.mat j hj).lt; omega)
      have HGB : Hid (B ≤ g ∧ B ≤ wr.heap.size) := Lib.hid (by have := hin.out.1.size; omega)
      have HIN := hin
      clear hga hrow hb4 hpn hbwa hsz HRP hin
      obtain ⟨N, hN⟩ : ∃ N, N = wr.heap.size := ⟨_, rfl⟩
      rw [← hN] at HU HLY HWC HRS HGB ⊢
      obtain ⟨Wz, hWz⟩ : ∃ Wz, Wz = wr := ⟨_, rfl⟩
      rw [← hWz] at HU HLY HWC HRS HIN hN
      have HNN := Lib.hid hN
      clear hN hWz
      have cN := HRS.out.2.2.1.cell (i := 0) rfl
      go_wp2_with fail
      go_loopw [33] (fun kv wr2 => ∃ k : Nat, kv = .int .i64 (k : Int) ∧ k ≤ n ∧ Hid (RWS Wz wr2 N g L (.slice Au n cpu) (.string (bs sm)) (goalP n row.1 k))) (fun kv _ => n - (intOf kv).toNat)
      case atStart => exact ⟨0, rfl, by omega, HRS⟩
      case round =>
        clear HRS cN
        obtain ⟨k, rfl, hk, hrs⟩ := hrel
        by_cases hlk : k < n
        · obtain ⟨b3, o3, rfl, hts⟩ := RdT.row (n := n) (HU.out wr hrs.out.2.1) k (by rw [rx_len, HRI.out.1]; exact hlk)
          have hkg : k < row.1.length := by rw [HRI.out.1]; exact hlk
          have c9 := hts.val k (by rw [rx_len]; exact hkg)
          rw [rx_get row.1 k hkg, ← nth_get row.1 k hkg] at c9
          have hqd : Bq 20 (nth row.1 k) := by rw [nth_get row.1 k hkg]; exact (HRI.out.2.1 _ (List.getElem_mem hkg)).mono (by decide)
          have hw2 : IntKind.i64.wrap ((n : Int) + (k : Int)) = ((n + k : Nat) : Int) := by rw [IntWalk.i64_in _ (by omega)]; omega
          have HUP : Hid (upd (upd (goalP n row.1 k) k (nth row.1 k)) (n + k) (- nth row.1 k) = goalP n row.1 (k + 1)) := Lib.hid (goalP_step n row.1 k hlk)
          obtain ⟨x, hx⟩ : ∃ x, x = n + k := ⟨_, rfl⟩
          have HKW : Hid (k < L ∧ x < L) := Lib.hid (by have := HDE.out; omega)
          have hxL : (x : Int) < (L : Int) := by have := HDE.out; omega
          have hx0 : (0 : Int) ≤ (x : Int) := by omega
          have hkL : (k : Int) < (L : Int) := by have := HDE.out; omega
          have hk0 : (0 : Int) ≤ (k : Int) := by omega
          have hkx : k ≠ x := by omega
          rw [← hx] at hw2 HUP
          obtain ⟨q, hq⟩ : ∃ q, q = nth row.1 k := ⟨_, rfl⟩
          rw [← hq] at c9 HUP hqd
          have HK1 := Lib.hid (fun W f (hT : RWS Wz W N g L (.slice (some ⟨b3, o3, none⟩) n cpu) (.string (bs sm)) f) => ratNeg q 20 W (HLY.out W hT.2.1).gl hqd (by decide))
          have HK2 := Lib.hid (fun W f (hT : RWS Wz W N g L (.slice (some ⟨b3, o3, none⟩) n cpu) (.string (bs sm)) f) => psof S (R (-q)) W (HLY.out W hT.2.1).err)
          have HCL := Lib.hid (fun W f (hT : RWS Wz W N g L (.slice (some ⟨b3, o3, none⟩) n cpu) (.string (bs sm)) f) => (HLY.out W hT.2.1).c0)
          have HFC := Lib.hid (fun W f y (hy : y < L) (hT : RWS Wz W N g L (.slice (some ⟨b3, o3, none⟩) n cpu) (.string (bs sm)) f) => And.intro (hT.1.free y) (hT.1.cell (strs_get hy)))
          have HTD := Lib.hid (hrs.out.to (RowKit.Below.drew (Below.refl wr.heap.size wr)))
          clear hx hts hkg hq hqd hrs
          go_wp2_with fail
          go_region_held3 (fun W => W.cell? ⟨p, 0, none⟩ = some (.pointer (some ⟨S, 0, none⟩)))
            (first | exact HCL.out _ _ HT8.out | exact HCL.out _ _ HT7.out | exact HCL.out _ _ HT6.out | exact HCL.out _ _ HT5.out | exact HCL.out _ _ HTD.out)
            (first
            | (go_at_call 62; refine (HK1.out _ _ HTD.out).mono ?_; rintro e w5 ⟨rfl, hb5⟩; have HT5 := Lib.hid (HTD.out.to hb5))
            | (go_at_call 150; refine (HK2.out _ _ HT5.out).mono ?_; rintro e w6 ⟨rfl, hb6⟩; have HT6 := Lib.hid (HT5.out.to hb6); have HT7 := Lib.hid (HT6.out.put HKW.out.1 q); obtain ⟨fz, fc⟩ := HFC.out _ _ k HKW.out.1 HT6.out; obtain ⟨fy, fd⟩ := HFC.out _ _ x HKW.out.2 HT7.out; have HT8 := Lib.hid (HT7.out.put HKW.out.2 (-q))))
          rw [HUP.out] at HT8
          clear HK1 HK2 HCL HFC HTD HT5 HT6 HT7 HUP fz fc fy fd hw2 c9
          go_wp2
          go_roundw
          case rel => exact ⟨k + 1, by go_num, hlk, HT8⟩
          case measure => simp [intOf]; omega
        · obtain rfl : n = k := by omega
          rw [goalP_end] at hrs
          obtain ⟨x1, hx1⟩ : ∃ x, x = 2 * n + i := ⟨_, rfl⟩
          obtain ⟨x2, hx2⟩ : ∃ x, x = D - 1 := ⟨_, rfl⟩
          have hd1 : 1 ≤ D := by have := HDE.out; omega
          have hw1 : IntKind.i64.wrap (2 * (n : Int)) = 2 * (n : Int) := IntWalk.i64_in _ (by omega)
          have hw2 : IntKind.i64.wrap (2 * (n : Int) + (i : Int)) = (x1 : Int) := by rw [IntWalk.i64_in _ (by omega)]; omega
          have hw3 : IntKind.i64.wrap ((D : Int) - 1) = (x2 : Int) := by have := HDE.out; rw [IntWalk.i64_in _ (by omega)]; omega
          have HKW : Hid (x1 < L ∧ x2 < L ∧ D < L) := Lib.hid (by have := HDE.out; omega)
          have hx1L : (x1 : Int) < (L : Int) := by have := HDE.out; omega
          have hx10 : (0 : Int) ≤ (x1 : Int) := by omega
          have hx2L : (x2 : Int) < (L : Int) := by have := HDE.out; omega
          have hx20 : (0 : Int) ≤ (x2 : Int) := by omega
          have hDL : (D : Int) < (L : Int) := by have := HDE.out; omega
          have hD0 : (0 : Int) ≤ (D : Int) := by omega
          have HFC := Lib.hid (fun W f y (hy : y < L) (hT : RWS Wz W N g L (.slice Au n cpu) (.string (bs sm)) f) => And.intro (hT.1.free y) (hT.1.cell (strs_get hy)))
          have HCL := Lib.hid (fun W f (hT : RWS Wz W N g L (.slice Au n cpu) (.string (bs sm)) f) => (hT.2.2.1.cell (i := 1) rfl : W.cell? ⟨N, 1, none⟩ = some (.string (bs sm))))
          have HP1 := Lib.hid (fun W f (hT : RWS Wz W N g L (.slice Au n cpu) (.string (bs sm)) f) => (by have := hT.put HKW.out.1 1; rwa [R_one5] at this : RWS Wz (W.setCell ⟨g, x1, none⟩ (.string (bs [49]))) N g L (.slice Au n cpu) (.string (bs sm)) (upd f x1 1)))
          have HP2 := Lib.hid (fun W f (hT : RWS Wz W N g L (.slice Au n cpu) (.string (bs sm)) f) => (by have := hT.put HKW.out.2.1 (-1); rwa [R_neg1] at this : RWS Wz (W.setCell ⟨g, x2, none⟩ (.string (bs [45, 49]))) N g L (.slice Au n cpu) (.string (bs sm)) (upd f x2 (-1))))
          have HP3 := Lib.hid (fun W f (hT : RWS Wz W N g L (.slice Au n cpu) (.string (bs sm)) f) => (by have := hT.put HKW.out.2.2 row.2; rwa [← HSM.out] at this : RWS Wz (W.setCell ⟨g, D, none⟩ (.string (bs sm))) N g L (.slice Au n cpu) (.string (bs sm)) (upd f D row.2)))
          have HTD := Lib.hid (hrs.out.to (RowKit.Below.drew (Below.refl wr.heap.size wr)))
          have HX := Lib.hid (And.intro hx1 hx2)
          clear hx1 hx2 hrs
          go_wp2_with fail
          go_region_held3 (fun W => W.cell? ⟨N, 1, none⟩ = some (.string (bs sm)))
            (first | exact HCL.out _ _ HT9.out | exact HCL.out _ _ HT8.out | exact HCL.out _ _ HT7.out | exact HCL.out _ _ HT6.out | exact HCL.out _ _ HT5.out | exact HCL.out _ _ HTD.out)
            (first
            | (go_at_call 110; refine (HWC.out _ HT5.out.2.1).mono ?_; rintro e w6 ⟨rfl, hb6⟩; have HT6 := Lib.hid (HT5.out.to hb6); have HT7 := Lib.hid (HP1.out _ _ HT6.out); have HT8 := Lib.hid (HP2.out _ _ HT7.out); have HT9 := Lib.hid (HP3.out _ _ HT8.out); obtain ⟨fa, fb⟩ := HFC.out _ _ x1 HKW.out.1 HT6.out; obtain ⟨fc, fd⟩ := HFC.out _ _ x2 HKW.out.2.1 HT7.out; obtain ⟨fe, ff⟩ := HFC.out _ _ D HKW.out.2.2 HT8.out; have fc2 : (w6.setCell ⟨g, x1, none⟩ (.string ⟨#[49]⟩)).frozen? ⟨g, x2, none⟩ = false := fc; have fd2 : (w6.setCell ⟨g, x1, none⟩ (.string ⟨#[49]⟩)).cell? ⟨g, x2, none⟩ = _ := fd; have fe2 : ((w6.setCell ⟨g, x1, none⟩ (.string ⟨#[49]⟩)).setCell ⟨g, x2, none⟩ (.string ⟨#[45, 49]⟩)).frozen? ⟨g, D, none⟩ = false := fe; have ff2 : ((w6.setCell ⟨g, x1, none⟩ (.string ⟨#[49]⟩)).setCell ⟨g, x2, none⟩ (.string ⟨#[45, 49]⟩)).cell? ⟨g, D, none⟩ = _ := ff; have fe3 : ((w6.setCell ⟨g, x1, none⟩ (.string (bs [49]))).setCell ⟨g, x2, none⟩ (.string ⟨#[45, 49]⟩)).frozen? ⟨g, D, none⟩ = false := fe; have ff3 : ((w6.setCell ⟨g, x1, none⟩ (.string (bs [49]))).setCell ⟨g, x2, none⟩ (.string ⟨#[45, 49]⟩)).cell? ⟨g, D, none⟩ = _ := ff)
            | (go_at_call 110; refine (HWC.out _ HTD.out.2.1).mono ?_; rintro e w5 ⟨rfl, hb5⟩; have HT5 := Lib.hid (HTD.out.to hb5)))
          obtain ⟨f9, hf9⟩ : ∃ f9, f9 = upd (upd (upd (goalF n row.1) x1 1) x2 (-1)) D row.2 := ⟨_, rfl⟩
          rw [← hf9] at HT9
          obtain ⟨W9, hW9⟩ : ∃ W9, W9 = (((w6.setCell ⟨g, x1, none⟩ (.string ⟨#[49]⟩)).setCell ⟨g, x2, none⟩ (.string ⟨#[45, 49]⟩)).setCell ⟨g, D, none⟩ (.string (bs sm))) := ⟨_, rfl⟩
          have HT10 : Hid (RWS Wz W9 N g L (.slice Au n cpu) (.string (bs sm)) f9) := by rw [hW9]; exact HT9
          rw [← hW9]
          have HFA : Hid (∀ k, k ≤ D → f9 k = laidA n l i k) := Lib.hid (fun k _ => by
            rw [hf9, HX.out.1, HX.out.2, ← HRW.out, HDE.out.1, HM.out]
            exact laid_row n l i k (by rw [← HM.out]; exact hlt))
          clear hW9 hf9 HT5 HT6 HT7 HT8 HT9 HTD HFC HCL HP1 HP2 HP3 fa fb fc fd fe ff fc2 fd2 fe2 ff2 fe3 ff3 hw3
          have HLY9 := Lib.hid (HLY.out W9 HT10.out.2.1)
          have c3 := HLY9.out.c3
          obtain ⟨iS, q1, q2, q3, q4⟩ := info_parts infoSl
          obtain ⟨iI, r1, r2, r3, r4⟩ := info_parts infoInt
          go_wp2_with (first
            | (at_builtin; refine wpList_app_g (t := 45) Tryz.underlying45 r1 r2 r3 r4 rfl rfl _ _ rfl rfl rfl (by show _ = (Array.modify _ _ _).size; simp) HA2.out.1.bas HA2.out.1.size (.int .i64 (x1 : Int)) rfl (by omega) (by decide) ?_; intro g3 cap3 w12 ho3 hk3; have pt3 := HA2.out.1.tab_bas hk3; have fz3 := pt3.free 4; have fc3 := pt3.cell (i := 4) rfl; have HA3 := Lib.hid (HA2.out.1.app_bas (by rw [HX.out.1] at ho3; exact ho3) hk3); clear pt3 ho3 hk3)
            | (at_builtin; refine wpList_app_g (t := 202) Tryz.underlying202 q1 q2 q3 q4 rfl rfl _ _ rfl rfl rfl rfl HLY9.out.rows HLY9.out.size (.slice (some ⟨g, 0, none⟩) L L) rfl (by omega) (by decide) ?_; intro g2 cap2 w10 ho2 hk2; have pt2 := HLY9.out.tab_rows hk2; have fz2 := pt2.free 3; have fc2 := pt2.cell (i := 3) rfl; have HA2 := Lib.hid (HLY9.out.app_rows (g := g) (f := f9) (by rw [← HDE.out.2.1]; exact HT10.out.1) HGB.out.1 HHJ.out (by rw [← HDE.out.2.1]; rw [← HDE.out.2.1] at ho2; exact ho2) hk2); have c42 := HA2.out.1.c4; clear pt2 ho2 hk2))
          have HFIN := Lib.hid (show LayS (w12.setCell ⟨p, 4, none⟩ (.slice (some ⟨g3, 0, none⟩) (i + 1) cap3)) B p S n m (i + 1) (i + 1) (.slice (some ⟨g2, 0, none⟩) (i + 1) cap2) (.slice (some ⟨g3, 0, none⟩) (i + 1) cap3) (upd h i g) (upd A i f9) ∧ (∀ j, j < i + 1 → ∀ k, k ≤ D → upd A i f9 j k = laidA n l j k) ∧ Below w.heap.size w (w12.setCell ⟨p, 4, none⟩ (.slice (some ⟨g3, 0, none⟩) (i + 1) cap3)) from ⟨HA3.out.1, fun j hj k hk => by
            by_cases e : j = i
            · subst e; rw [upd_same]; exact HFA.out k hk
            · rw [upd_other _ e]; exact HIN.out.2.1 j (by omega) k hk, by
            have h1 := HIN.out.2.2
            have h2 := h1.trans (HT10.out.2.1.mono (by have := HNN.out; have := HGB.out; have := HBS.out; omega))
            have h3 := HA2.out.2
            have h4 := HA3.out.2
            rw [HBS.out] at h3 h4
            exact (h2.trans h3).trans h4⟩)
          clear HA2 HA3 HLY9 HT10 HFA fz2 fc2 fz3 fc3 c42 c3 q1 q2 q3 q4 r1 r2 r3 r4
          go_wp2
          go_roundw
          case rel => exact ⟨i + 1, _, _, _, _, by go_num, hlt, HFIN⟩
          case measure => simp [intOf]; omega
    · obtain rfl : m = i := by omega
      have hb2 : Below wr.heap.size wr (wr.alloc (.cells #[.string (bs [48])] 86 (0, 0))) := (Below.refl _ _).alloc (Nat.le_refl _) _
      have hr2 : (wr.alloc (.cells #[.string (bs [48])] 86 (0, 0))).cell? ⟨wr.heap.size, 0, none⟩ = some (.string (bs [48])) := (Row.new wr 86 [.string (bs [48])]).cell rfl
      have HW1 := Lib.hid (pwidthC (hin.out.1.hn) (hin.out.1.hm) (hin.out.1.below' hb2).c1 (hin.out.1.below' hb2).c2)
      rw [← HDE.out.1] at HW1
      have HB2 := Lib.hid (And.intro hb2 hr2)
      have hL1 : IntKind.i64.wrap ((D : Int) + 1) = (L : Int) := by have := HDE.out; rw [IntWalk.i64_in _ (by omega)]; omega
      clear hb2 hr2
      go_wp2_with fail
      refine HW1.out.mono ?_
      rintro e wa ⟨rfl, hba⟩
      have hx1 : wa.cell? ⟨wr.heap.size, 0, none⟩ = some (.string (bs [48])) := (hba.cell (p := ⟨wr.heap.size, 0, none⟩) (block_lt_of_cell HB2.out.2)).trans HB2.out.2
      have HRP := Lib.hid (prepeat wr.heap.size 1 L wa hx1 (by have := HDE.out; omega) (by omega))
      have HBW := Lib.hid (bel_to HB2.out.1 hba)
      clear hba hx1 HW1 HB2
      go_wp2_with fail
      refine HRP.out.mono ?_
      rintro e w4 ⟨g, rfl, hga, hrow, hb4⟩
      have hbw := bel_to HBW.out hb4
      have hly := hin.out.1.below' hbw
      rw [part0_map, HDE.out.2.1] at hrow
      obtain ⟨gr, gb, cr, cb, htb⟩ := hly.fin (by omega) (Pre.of hrow) (by have := hin.out.1.size; have := HBW.out.size; omega) (fun j hj => by have := (hin.out.1.mat j hj).lt; have := HBW.out.size; omega)
      have fz := hly.tab.free 5
      have fc := hly.c5
      have HFIN := Lib.hid (show TabS (w4.setCell ⟨p, 5, none⟩ (.slice (some ⟨g, 0, none⟩) L L)) w.heap.size p S gr gb cr cb (upd h m g) n m (laidT n l).A (laidT n l).b ∧ Below w.heap.size w (w4.setCell ⟨p, 5, none⟩ (.slice (some ⟨g, 0, none⟩) L L)) from by
        rw [HDE.out.2.1, ← HBS.out]
        refine ⟨htb.congr (fun j hj k hk => ?_) (fun j hj => ?_), ?_⟩
        · unfold laidT
          rw [← HM.out, tab_A _ _ hj hk]
          by_cases e : j = m
          · subst e; rw [upd_same]; unfold laidA; rw [if_neg (by rw [← HM.out]; omega)]
          · rw [upd_other _ e]; exact hin.out.2.1 j (by omega) k (by have := HDE.out.1; omega)
        · unfold laidT
          rw [← HM.out, tab_b _ _ hj]
        · have h1 := hin.out.2.2
          rw [← HBS.out] at h1
          exact (h1.trans (hbw.mono (LayS.size hin.out.1))).setCell (p := ⟨p, 5, none⟩) hly.lowp _)
      clear hga hrow hb4 hbw hly htb hin HRP HBW
      go_wp2
      go_ret
      exact ⟨p, S, gr, gb, cr, cb, upd h m g, rfl, HFIN.out.1, HFIN.out.2⟩
end W
end Go.Proofs.YtellemlhhlafcaaGreatDoor
end
section
namespace Go.Proofs.YtellemlhhlafcaaGreatDoor
open Go Go.RowKit Go.Deep Go.Sort Go.Shelf
namespace M
theorem mostT_some {ez f n : Nat} {l : List BQ} {goal : List Rat} {r : (Rat × List Rat × List Rat) ⊕ Nat} (h : mostT ez f n l goal = some r) :
    ∃ ok t, readyT ez n l.length f (laidT n l) = some (ok, t) ∧ ((ok = false ∧ r = .inr 6) ∨ (ok = true ∧ ∃ g, aimT ez n l.length t.A t.b goal l.length = some g ∧ ∃ ok2 t2, climbT ez n l.length (some (wdt n l.length - 1)) f (tab n l.length (upd t.A l.length (nth g)) t.b) = some (ok2, t2) ∧
      smallL ez ((List.range n).map (pointF n l.length t2.A t2.b)) = true ∧
      r = if ok2 = true then .inl (dotP goal ((List.range n).map (pointF n l.length t2.A t2.b)) n, (List.range n).map (pointF n l.length t2.A t2.b), (List.range l.length).map (weightF n l.length t2.A)) else .inr 14)) := by
  unfold mostT at h
  cases hr : readyT ez n l.length f (laidT n l) with
  | none => rw [hr] at h; cases h
  | some s =>
    obtain ⟨ok, t⟩ := s
    rw [hr] at h
    refine ⟨ok, t, rfl, ?_⟩
    cases ok with
    | false => exact .inl ⟨rfl, (Option.some.inj h).symm⟩
    | true =>
      refine .inr ⟨rfl, ?_⟩
      simp only at h
      cases ha : aimT ez n l.length t.A t.b goal l.length with
      | none => rw [ha] at h; cases h
      | some g =>
        rw [ha] at h
        simp only at h
        refine ⟨g, rfl, ?_⟩
        cases hc : climbT ez n l.length (some (wdt n l.length - 1)) f (tab n l.length (upd t.A l.length (nth g)) t.b) with
        | none => rw [hc] at h; cases h
        | some s2 =>
          obtain ⟨ok2, t2⟩ := s2
          rw [hc] at h
          refine ⟨ok2, t2, rfl, ?_⟩
          simp only at h
          by_cases hs : smallL ez ((List.range n).map (pointF n l.length t2.A t2.b)) = true
          · rw [if_pos hs] at h
            refine ⟨hs, ?_⟩
            cases ok2 with
            | false => exact (Option.some.inj h).symm
            | true => exact (Option.some.inj h).symm
          · rw [if_neg hs] at h; cases h
theorem mapR_rx (f : Nat → Rat) (n : Nat) : mapR f n = rx ((List.range n).map f) := by unfold mapR rx; rw [List.map_map]; rfl
theorem chk_rx30 {l : List Rat} (h : ∀ x ∈ l, Bq 30 x) : chkRs (rx l) = 0 := by
  induction l with
  | nil => rfl
  | cons a t ih =>
    show chkRs (R a :: rx t) = 0
    rw [chkRs, (h a List.mem_cons_self).chk (by decide), if_pos rfl]
    exact ih fun x hx => h x (List.mem_cons_of_mem _ hx)
theorem chk_rx {l : List Rat} (h : ∀ x ∈ l, Bq 8 x) : chkRs (rx l) = 0 := chk_rx30 fun x hx => (h x hx).mono (by decide)
theorem chk_bxW {n : Nat} : ∀ {l : List BQ}, RightW n l → chkBs (n : Int) (bx l) = 0
  | [], _ => rfl
  | b :: t, h => by
    have hb := h b List.mem_cons_self
    show chkBs (n : Int) ((rx b.1, R b.2) :: bx t) = 0
    have h1 : chkB1 (n : Int) (rx b.1, R b.2) = 0 := by
      unfold chkB1
      rw [if_neg (by rw [rx_len, hb.1]; simp), chkRs_append]
      simp only
      rw [chk_rx30 (fun x hx => (hb.2.1 x hx).mono (by decide)), if_pos rfl, chkRs, hb.2.2.chk (by decide), if_pos rfl, chkRs]
    rw [chkBs, h1, if_pos rfl]
    exact chk_bxW fun x hx => h x (List.mem_cons_of_mem _ hx)
theorem chk5_okW {n : Nat} {l : List BQ} (hn1 : 1 ≤ n) (hn : n ≤ 8) (hl : l.length ≤ 64) (hr : RightW n l) : chk5 (n : Int) (bx l) = 0 := by
  unfold chk5
  rw [if_neg (by omega), if_neg (by rw [bx_len]; omega)]
  exact chk_bxW hr
theorem rx_small30 {l : List Rat} (h : ∀ x ∈ l, Bq 30 x) : ∀ q ∈ rx l, q.length ≤ 90000 := fun q hq => by
  obtain ⟨x, hx, rfl⟩ := List.mem_map.1 hq
  have := (h x hx).R_len (by decide)
  omega
theorem rx_small {l : List Rat} (h : ∀ x ∈ l, Bq 8 x) : ∀ q ∈ rx l, q.length ≤ 90000 := rx_small30 fun x hx => (h x hx).mono (by decide)
theorem bx_smallW {n : Nat} {l : List BQ} (hn : n ≤ 8) (hr : RightW n l) : ∀ b ∈ bx l, b.1.length ≤ 1000000 ∧ (∀ q ∈ b.1, q.length ≤ 90000) ∧ b.2.length ≤ 90000 := fun b hb => by
  obtain ⟨x, hx, rfl⟩ := List.mem_map.1 hb
  have h := hr x hx
  refine ⟨by rw [rx_len, h.1]; omega, rx_small30 (fun x hx => (h.2.1 x hx).mono (by decide)), ?_⟩
  have := h.2.2.R_len (by decide)
  show (R x.2).length ≤ 90000
  omega
end M
open M in
/-- What 'Most' returns. -/
def MostP (w : World) : (Rat × List Rat × List Rat) ⊕ Nat → Ending → World → Prop
  | .inl (v, pt, wt), e, w' => ∃ v1 v2, e = .returned (.tuple #[.string (bs (R v)), v1, v2, .int .i64 0]) ∧ OwnS w' w.heap.size v1 (rx pt) ∧ OwnS w' w.heap.size v2 (rx wt) ∧ Below w.heap.size w w'
  | .inr k, e, w' => e = .returned (.tuple #[.string (bs []), .slice none 0 0, .slice none 0 0, .int .i64 (k : Int)]) ∧ Below w.heap.size w w'
namespace W
open M
attribute [local go_sem] bs_size bs_toList bs_get bs_extract bs_append bs_lit0 bs_lit1 lit1_bs
set_option maxHeartbeats 4000000
set_option maxRecDepth 20000
theorem pmostW (ez f n : Nat) (hez : ez ≤ 210) (hez1 : 20 ≤ ez) (hen : (8 + ez + 1) * n + 1 ≤ 1000) (l : List BQ) (goal : List Rat) (r : (Rat × List Rat × List Rat) ⊕ Nat) (h : mostT ez f n l goal = some r) (vl vg : Value) (w : World) (hg : Glob w) (hl : RdB w vl (bx l)) (hgo : RdT w vg (rx goal))
    (hn1 : 1 ≤ n) (hn : n ≤ 8) (hr : RightW n l) (hl1 : 1 ≤ l.length) (hll : l.length ≤ 64) (hgl : goal.length = n) (hgq : ∀ x ∈ goal, Bq 8 x) :
    Calls Tryz.prog 61 #[.int .i64 (n : Int), vl, vg] w (MostP w r) := by
  have hc := pcheck5 (n : Int) vl (bx l) w hg hl (by rw [bx_len]; unfold maxLen; omega) (fun _ => bx_smallW hn hr)
  rw [chk5_okW hn1 hn hll hr] at hc
  have HC := Lib.hid hc
  have hnu := fun W (hW : Below w.heap.size w W) => pnum1 vg (rx goal) W (hg.of hW) (hgo.below hW) (rx_small hgq) (by rw [rx_len]; omega)
  rw [chk_rx hgq] at hnu
  have HN := Lib.hid hnu
  have HL := Lib.hid (fun W (hW : Below w.heap.size w W) => plaid vl l n W (hg.of hW) (hl.below hW) hn1 hn hr hl1 (by omega))
  have HGO := Lib.hid hgo
  have HGQ := Lib.hid hgq
  have HGL := Lib.hid hgl
  obtain ⟨Ag, cg, rfl⟩ := hgo.len
  rw [rx_len, hgl] at HN HGO ⊢
  obtain ⟨ok, T, hrd, hcase⟩ := mostT_some h
  obtain ⟨m, hm⟩ : ∃ m, m = l.length := ⟨_, rfl⟩
  rw [← hm] at hrd hcase
  have HM := Lib.hid hm
  have HRD := Lib.hid hrd
  have HCS := Lib.hid hcase
  clear h hg hl hgo hr hgq hgl hc hnu hcase hm hrd
  go_enter Tryz.func61, Tryz.ntmps61
  go_wp2_with fail
  refine (HC.out).mono ?_
  rintro e w1 ⟨rfl, hb1⟩
  have HB1 := Lib.hid hb1
  clear hb1 HC
  go_wp2_with fail
  refine (HN.out w1 HB1.out).mono ?_
  rintro e w2 ⟨rfl, hb2⟩
  have HB2 := Lib.hid (bel_to HB1.out hb2)
  clear hb2 HN HB1
  go_wp2_with fail
  refine (HL.out w2 HB2.out).mono ?_
  rintro e wL ⟨p, S, gr, gb, cr, cb, hh, rfl, htL, hbL⟩
  rw [← HM.out] at htL
  have HGB := Lib.hid (fun W (hW : Below w2.heap.size w2 W) => (HGO.out.below HB2.out).below hW)
  have HTL := Lib.hid (And.intro htL hbL)
  have HR := Lib.hid (pready ez f hez (by omega) (laidT n l) T ok HRD.out htL)
  clear htL hbL HL HRD
  go_wp2_with fail
  refine HR.out.mono ?_
  rintro e wR ⟨rfl, ⟨hbq, htR⟩, hbR⟩
  have HTR := Lib.hid (And.intro htR (And.intro hbq hbR))
  clear htR hbq hbR HR
  have c0 := HTR.out.1.c0
  have e0 := HTR.out.1.err.cell
  rcases HCS.out with ⟨rfl, rfl⟩ | ⟨rfl, g, hag, ok2, T2, hcl, hsp, hre⟩
  · have HF := Lib.hid (bel_to HB2.out (HTL.out.2.trans HTR.out.2.2))
    clear HCS
    go_wp2
    refine bodyPost_ret (v := .tuple #[.string (bs []), .slice none 0 0, .slice none 0 0, .int .i64 6]) (by simp [results, Tryz.results61]; rfl) rfl ⟨rfl, HF.out⟩
  · have HA := Lib.hid (paim HTR.out.1 (.slice Ag n cg) goal g ez ez hez (by omega) (fun W hW => HGB.out W ((HTL.out.2.trans HTR.out.2.2).trans hW)) HGL.out (fun x hx => (HGQ.out x hx).mono (by decide)) HTR.out.2.1 hez hag)
    have HBL := Lib.hid (HTL.out.2.trans HTR.out.2.2)
    have HSP := Lib.hid hsp
    have HCL := Lib.hid hcl
    have HRE := Lib.hid hre
    clear HCS hag hcl hsp HTL HTR hre
    go_wp2_with fail
    refine HA.out.mono ?_
    rintro e wA ⟨rfl, ⟨gx, htA⟩, hbA⟩
    have HTA := Lib.hid (And.intro htA (HBL.out.trans hbA))
    have HWD := Lib.hid (pwidth htA)
    clear c0 e0 htA hbA HA HBL
    obtain ⟨D, hD⟩ : ∃ D, D = wdt n m := ⟨_, rfl⟩
    rw [← hD] at HWD HCL
    have hD1 : 1 ≤ D := by rw [hD]; unfold wdt; omega
    have hD2 : D ≤ 10000 := by rw [hD]; have := HM.out; unfold wdt; omega
    have hw1 : IntKind.i64.wrap ((D : Int) - 1) = ((D - 1 : Nat) : Int) := by rw [IntWalk.i64_in _ (by omega)]; omega
    obtain ⟨d, hd⟩ : ∃ d, d = D - 1 := ⟨_, rfl⟩
    rw [← hd] at hw1 HCL
    clear hD hd
    go_wp2_with fail
    refine (HWD.out).mono ?_
    rintro e wd ⟨rfl, hbd⟩
    have htd := HTA.out.1.below' hbd
    have HTD := Lib.hid (And.intro htd (HTA.out.2.trans (hbd.mono (TabS.size HTA.out.1))))
    have HCB := Lib.hid (pclimb ez f hez (by omega) _ T2 ok2 (some d) HCL.out htd.piv)
    clear htd hbd HWD HTA HCL
    go_wp2_with fail
    refine HCB.out.mono ?_
    rintro e wC ⟨rfl, ⟨hsm, htC⟩, hbC⟩
    have hA20 : ∀ j, j ≤ m → ∀ k, k ≤ wdt n m → Bq ez (T2.A j k) := fun j hj k hk => smallT_bq hsm hj hk
    have HTC := Lib.hid (And.intro htC (HTD.out.2.trans hbC))
    have HPT := Lib.hid (ppoint htC ez hA20 hez (by omega))
    have HA20 := Lib.hid hA20
    clear htC hbC hsm hA20 HTD HCB
    go_wp2_with fail
    refine HPT.out.mono ?_
    rintro e wP ⟨vp, rfl, hop, hbP⟩
    have htP := HTC.out.1.below' hbP
    have HTP := Lib.hid (And.intro htP (HTC.out.2.trans (hbP.mono (TabS.size HTC.out.1))))
    have HOP := Lib.hid (And.intro hop hbP.size)
    have HWT := Lib.hid (pweights htP ez HA20.out hez)
    clear hop hbP htP HPT
    go_wp2_with fail
    refine HWT.out.mono ?_
    rintro e wW ⟨vw, rfl, how, hbW⟩
    have htW := HTP.out.1.below' hbW
    have HTW := Lib.hid (And.intro htW (HTP.out.2.trans (hbW.mono (TabS.size HTP.out.1))))
    have hop2 := HOP.out.1.below hbW
    have hgd := HGB.out wW HTW.out.2
    have HDT := Lib.hid (pdot S (.slice Ag n cg) vp goal ((List.range n).map (pointF n m T2.A T2.b)) 8 ez wW htW.gl htW.err hgd (by rw [← mapR_rx]; exact hop2.rd) (by simp [HGL.out]) (by rw [HGL.out]; exact hen) HGQ.out (smallL_bq HSP.out) (by omega))
    rw [HGL.out] at HDT
    have hwB : w2.heap.size ≤ wC.heap.size := HTC.out.2.size
    have HOO : Hid (OwnS wW w.heap.size vp (rx ((List.range n).map (pointF n m T2.A T2.b))) ∧ OwnS wW w.heap.size vw (rx ((List.range m).map (weightF n m T2.A)))) := Lib.hid ⟨by rw [← mapR_rx]; exact ownsRow_base hop2 (Nat.le_trans HB2.out.size hwB), by rw [← mapR_rx]; exact ownsRow_base how (Nat.le_trans HB2.out.size (Nat.le_trans hwB HOP.out.2))⟩
    have c0 := htW.c0
    clear hop2 how hgd hbW htW HOP HTP HTC HWT hwB
    go_wp2_with fail
    refine HDT.out.mono ?_
    rintro e wD ⟨rfl, hbD⟩
    have htE := HTW.out.1.below' hbD
    have e0 := htE.err.cell
    have c0 := htE.c0
    have HFN := Lib.hid (And.intro (HOO.out.1.below hbD) (And.intro (HOO.out.2.below hbD) (bel_to HB2.out (HTW.out.2.trans (hbD.mono (TabS.size HTW.out.1))))))
    have HR2 := HRE.out
    cases ok2 with
    | false =>
      rw [if_neg (by decide)] at HR2
      subst HR2
      clear htE hbD HTW HOO HDT HRE
      go_wp2
      refine bodyPost_ret (v := .tuple #[.string (bs []), .slice none 0 0, .slice none 0 0, .int .i64 14]) (by simp [results, Tryz.results61]; rfl) rfl ⟨rfl, HFN.out.2.2⟩
    | true =>
      rw [if_pos rfl] at HR2
      subst HR2
      clear htE hbD HTW HOO HDT HRE
      go_wp2
      refine bodyPost_ret (v := .tuple #[.string (bs (R (dotP goal ((List.range n).map (pointF n m T2.A T2.b)) n))), vp, vw, .int .i64 0]) (by simp [results, Tryz.results61]) rfl ⟨vp, vw, rfl, HFN.out.1, HFN.out.2.1, HFN.out.2.2⟩
theorem pmost (ez f n : Nat) (hez : ez ≤ 210) (hez1 : 20 ≤ ez) (hen : (8 + ez + 1) * n + 1 ≤ 1000) (l : List BQ) (goal : List Rat) (r : (Rat × List Rat × List Rat) ⊕ Nat) (h : mostT ez f n l goal = some r) (vl vg : Value) (w : World) (hg : Glob w) (hl : RdB w vl (bx l)) (hgo : RdT w vg (rx goal))
    (hn1 : 1 ≤ n) (hn : n ≤ 8) (hr : RightB n l) (hl1 : 1 ≤ l.length) (hll : l.length ≤ 64) (hgl : goal.length = n) (hgq : ∀ x ∈ goal, Bq 8 x) :
    Calls Tryz.prog 61 #[.int .i64 (n : Int), vl, vg] w (MostP w r) :=
  pmostW ez f n hez hez1 hen l goal r h vl vg w hg hl hgo hn1 hn hr.wide hl1 hll hgl hgq
end W
end Go.Proofs.YtellemlhhlafcaaGreatDoor
end
section
namespace Go.Proofs.YtellemlhhlafcaaGreatDoor
open Go Go.RowKit Go.Deep Go.Sort Go.Shelf
section
open M
variable {w W W2 : World} {S g n : Nat} {f : Nat → Rat}
end
namespace W
open M
attribute [local go_sem] bs_size bs_toList bs_get bs_extract bs_append bs_lit0 bs_lit1 lit1_bs
set_option maxHeartbeats 4000000
set_option maxRecDepth 20000
end W
end Go.Proofs.YtellemlhhlafcaaGreatDoor
end
section
namespace Go.Proofs.YtellemlhhlafcaaGreatDoor
open Go Go.RowKit Go.Deep Go.Sort Go.Shelf
namespace M
theorem R_head (q : Rat) : ∃ c t, R q = c :: t ∧ (c == 45) = decide (q < 0) := by
  obtain ⟨c, t, h1, h2⟩ := I_cons q.num
  have h3 : decide (q.num < 0) = decide (q < 0) := by
    rw [decide_eq_decide, ← Int.not_le, Rat.num_nonneg, Rat.not_le]
  unfold R
  split
  · exact ⟨c, t, h1, by rw [h2, h3]⟩
  · exact ⟨c, t ++ 47 :: I (q.den : Int), by rw [h1]; rfl, by rw [h2, h3]⟩
end M
namespace W
open M
attribute [local go_sem] bs_size bs_toList bs_get bs_extract bs_append bs_lit0 bs_lit1 lit1_bs
set_option maxHeartbeats 2000000
set_option maxRecDepth 20000
end W
end Go.Proofs.YtellemlhhlafcaaGreatDoor
end
section
namespace Go.Proofs.YtellemlhhlafcaaGreatDoor
open Go Go.RowKit Go.Deep Go.Sort Go.Shelf
namespace M
end M
namespace W
open M
attribute [local go_sem] bs_size bs_toList bs_get bs_extract bs_append bs_lit0 bs_lit1 lit1_bs
set_option maxHeartbeats 2000000
set_option maxRecDepth 20000
end W
end Go.Proofs.YtellemlhhlafcaaGreatDoor
end
section
namespace Go.Proofs.YtellemlhhlafcaaGreatDoor
open Go Go.RowKit Go.Deep Go.Sort Go.Shelf
namespace M
end M
namespace W
open M
attribute [local go_sem] bs_size bs_toList bs_get bs_extract bs_append bs_lit0 bs_lit1 lit1_bs
set_option maxHeartbeats 4000000
set_option maxRecDepth 20000
end W
end Go.Proofs.YtellemlhhlafcaaGreatDoor
end
section
namespace Go.Proofs.YtellemlhhlafcaaGreatDoor
open Go Go.RowKit Go.Deep Go.Sort Go.Shelf
namespace W
open M
attribute [local go_sem] bs_size bs_toList bs_get bs_extract bs_append bs_lit0 bs_lit1 lit1_bs
set_option maxHeartbeats 4000000
set_option maxRecDepth 20000
end W
end Go.Proofs.YtellemlhhlafcaaGreatDoor
end
section
namespace Go.Proofs.YtellemlhhlafcaaGreatDoor
open Go Go.RowKit Go.Deep Go.Sort
namespace W
open M
attribute [local go_sem] bs_size bs_toList bs_get bs_extract bs_append bs_lit0 bs_lit1 lit1_bs
set_option maxHeartbeats 1000000
set_option maxRecDepth 20000
end W
end Go.Proofs.YtellemlhhlafcaaGreatDoor
end
section
namespace Go.Proofs.YtellemlhhlafcaaGreatDoor
open Go Go.RowKit Go.Deep Go.Sort
namespace W
open M
end W
end Go.Proofs.YtellemlhhlafcaaGreatDoor
end
section
namespace Go.Proofs.YtellemlhhlafcaaGreatDoor
open Go Go.RowKit Go.Deep Go.Sort
namespace M
theorem t0 : R 0 = [48] := by decide +kernel
theorem t1 : R 1 = [49] := by decide +kernel
theorem t2 : R 2 = [50] := by decide +kernel
theorem t3 : R 3 = [51] := by decide +kernel
theorem t4 : R 4 = [52] := by decide +kernel
instance (k : Nat) (q : Rat) : Decidable (Bq k q) := by unfold Bq; exact inferInstance
end M
namespace W
open M
attribute [local go_sem] bs_size bs_toList bs_get bs_extract bs_append bs_lit0 bs_lit1 lit1_bs
set_option maxHeartbeats 1000000
set_option maxRecDepth 20000
theorem bel_alloc {W W' : World} (h : Below W.heap.size W W') (o : Obj) : Below W.heap.size W (W'.alloc o) := h.alloc h.size o
end W
end Go.Proofs.YtellemlhhlafcaaGreatDoor
end
