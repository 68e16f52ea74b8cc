/-
  Chapter 5: a table without rows: 'leaving', 'climb', 'ready', 'weights', 'point'.
  Chapter 5: a table without rows: 'aim'. (Printed by wip/mz2.py out of the text of tables with rows.)
  Chapter 5: 'laid' and 'Most' without bounds.
  Chapter 5's laws, ProgramMoves: rows of own lists; few moved bounds; what 'Most' returns for them.
-/
import Derived.Test.YtijpgddpejiohaaGreatDoorLV
import Derived.Test.YtijpgddpejiohaaGreatDoorLN
import Derived.Test.YtijpgddpejiohaaGreatDoorLO
import Derived.Test.YtijpgddpejiohaaGreatDoorLP
import Derived.Test.YtijpgddpejiohaaGreatDoorLT
section
namespace Go.Proofs.YtijpgddpejiohaaGreatDoor
open Go Go.RowKit Go.Deep Go.Sort Go.Shelf
namespace W
open M
attribute [local go_sem] bs_size bs_toList bs_get bs_extract bs_append bs_lit0 bs_lit1 lit1_bs
set_option maxHeartbeats 2000000
set_option maxRecDepth 20000
section
variable {w : World} {B p S : Nat} {h : Nat → Nat} {n : Nat} {A : Mx}
theorem pleavingZ (t : TabZ w B p S h n 0 A) (c : Int) : Calls Tryz.prog 135 #[.pointer (some ⟨p, 0, none⟩), .int .i64 c] w (Ret w (.int .i64 (-1))) := by
  have c3 := t.c3
  clear t
  go_enter Tryz.func135, Tryz.ntmps135
  go_wp2
  go_loopw [5, 17] (fun ov iv wr => ov = .int .i64 (-1) ∧ iv = .int .i64 0 ∧ Below w.heap.size w wr) (fun _ _ _ => 0)
  case atStart => exact ⟨rfl, rfl, Below.refl _ _⟩
  case round =>
    obtain ⟨rfl, rfl, hb⟩ := hrel
    clear c3
    go_wp2
    go_ret
    exact Ret.of rfl hb
theorem pweightsZ (t : TabZ w B p S h n 0 A) : Calls Tryz.prog 70 #[.pointer (some ⟨p, 0, none⟩)] w (Ret w (.slice none 0 0)) := by
  have c2 := t.c2
  clear t
  go_enter Tryz.func70, Tryz.ntmps70
  go_wp2
  go_loopw [3, 9] (fun ov iv wr => ov = .slice none 0 0 ∧ iv = .int .i64 0 ∧ Below w.heap.size w wr) (fun _ _ _ => 0)
  case atStart => exact ⟨rfl, rfl, Below.refl _ _⟩
  case round =>
    obtain ⟨rfl, rfl, hb⟩ := hrel
    clear c2
    go_wp2
    go_ret
    exact Ret.of rfl hb
theorem preadyZ (t : TabZ w B p S h n 0 A) : Calls Tryz.prog 64 #[.pointer (some ⟨p, 0, none⟩)] w (Ret w (.bool true)) := by
  have HW := Lib.hid (pwidthZ t)
  have HT := Lib.hid (fun W (hW : Below w.heap.size w W) => (t.below' hW).c3)
  have hw1 : IntKind.i64.wrap (((wdt n 0 : Nat) : Int) - 1) = ((wdt n 0 : Nat) : Int) - 1 := IntWalk.i64_in _ (by have := t.hn; unfold wdt; omega)
  clear t
  go_enter Tryz.func64, Tryz.ntmps64
  go_wp2_with fail
  refine (HW.out).mono ?_
  rintro e w1 ⟨rfl, hb1⟩
  have c3 := HT.out w1 hb1
  clear HW HT
  go_wp2_with fail
  go_loopw [4, 19] (fun ov iv wr => ov = .int .i64 (-1) ∧ iv = .int .i64 0 ∧ Below w.heap.size w wr) (fun _ _ _ => 0)
  case atStart => exact ⟨rfl, rfl, hb1⟩
  case round =>
    obtain ⟨rfl, rfl, hb⟩ := hrel
    clear c3
    go_wp2
    go_ret
    exact Ret.of rfl hb
theorem ppointZ (t : TabZ w B p S h n 0 A) :
    Calls Tryz.prog 69 #[.pointer (some ⟨p, 0, none⟩)] w fun ee w' => ∃ v, ee = .returned v ∧ OwnS w' w.heap.size v (mapR (fun _ => 0) n) ∧ Below w.heap.size w w' := by
  obtain ⟨D, hD⟩ : ∃ D, D = wdt n 0 := ⟨_, rfl⟩
  have hns := t.hn
  have hDn : 2 * n < D := by rw [hD]; unfold wdt; omega
  have hDs : D ≤ 10000 := by rw [hD]; unfold wdt; omega
  have HC0 := Lib.hid (fun W (hW : Below w.heap.size w W) => (by
    have hT := t.below' hW
    exact ⟨hT.c0, hT.c1, hT.c4⟩ : W.cell? ⟨p, 0, none⟩ = some (.pointer (some ⟨S, 0, none⟩)) ∧ W.cell? ⟨p, 1, none⟩ = some (.int .i64 (n : Int)) ∧ W.cell? ⟨p, 4, none⟩ = some (.slice none 0 0)))
  have HWD := Lib.hid (fun W (hW : Below w.heap.size w W) => pwidthZ (t.below' hW))
  have HOF := Lib.hid (fun s W (hW : Below w.heap.size w W) => psof S s W ((t.below' hW).err))
  have HSB := Lib.hid (fun W (hW : Below w.heap.size w W) => (by
    have h := ratSub 0 0 1 1 W ((t.below' hW).gl) ⟨by decide +kernel, by decide +kernel⟩ ⟨by decide +kernel, by decide +kernel⟩ (by decide)
    rw [show (0 : Rat) - 0 = 0 by decide +kernel] at h
    exact h : Calls Tryz.prog 97 #[.string (bs (R 0)), .string (bs (R 0))] W (Ret W (.tuple #[.string (bs (R 0)), .int .i64 0]))))
  rw [← hD] at HWD
  clear t hD
  have hb0 : Below w.heap.size w (w.alloc (.cells #[.string (bs [48])] 29 (0, 0))) := (Below.refl _ _).alloc (Nat.le_refl _) _
  have HW1 := Lib.hid (HWD.out _ hb0)
  have hr0 : (w.alloc (.cells #[.string (bs [48])] 29 (0, 0))).cell? ⟨w.heap.size, 0, none⟩ = some (.string (bs [48])) := (Row.new w 29 [.string (bs [48])]).cell rfl
  have HB0 := Lib.hid (And.intro hb0 hr0)
  clear hb0 hr0
  go_enter Tryz.func69, Tryz.ntmps69
  go_wp2_with fail
  refine (HW1.out).mono ?_
  rintro e wa ⟨rfl, hba⟩
  have hx1 : wa.cell? ⟨w.heap.size, 0, none⟩ = some (.string (bs [48])) := (hba.cell (p := ⟨w.heap.size, 0, none⟩) (block_lt_of_cell HB0.out.2)).trans HB0.out.2
  have HBA := Lib.hid (bel_to HB0.out.1 hba)
  have HRP := Lib.hid (prepeat w.heap.size 1 D wa hx1 (by omega) (by omega))
  clear hba hx1 HB0 HW1
  go_wp2_with fail
  refine HRP.out.mono ?_
  rintro e1 w1 ⟨ga, rfl, hga, hrow, hb1⟩
  have HAL : Hid (Pre w1 ga 29 (Strs (mapR (fun _ => 0) D)) ∧ Below w.heap.size w w1 ∧ w.heap.size ≤ ga) := Lib.hid ⟨by rw [part0_map] at hrow; exact Pre.of hrow, bel_to HBA.out hb1, Nat.le_trans HBA.out.size hga⟩
  clear hga hrow hb1 HRP HBA
  obtain ⟨c0, c1, c4⟩ := HC0.out w1 HAL.out.2.1
  clear c0 c1
  go_wp2_with fail
  go_loopw [17] (fun iv wr => iv = .int .i64 0 ∧ Hid (Pre wr ga 29 (Strs (mapR (fun _ => 0) D)) ∧ Below w.heap.size w wr ∧ w.heap.size ≤ ga)) (fun _ _ => 0)
  case atStart => exact ⟨rfl, HAL⟩
  case round =>
    clear HAL c4
    obtain ⟨rfl, hin⟩ := hrel
    obtain ⟨c0, c1, c4⟩ := HC0.out wr hin.out.2.1
    obtain ⟨W0, hW0⟩ : ∃ W0, W0 = wr := ⟨_, rfl⟩
    rw [← hW0] at hin c1 ⊢
    clear hW0 c0 c4 HWD
    have HAL := hin
    clear hin
    go_wp2_with fail
    go_loopw [6, 41] (fun ov iv wr => ∃ (k : Nat) (vo : Value), iv = .int .i64 (k : Int) ∧ ov = vo ∧ k ≤ n ∧ Hid (OwnS wr W0.heap.size vo (mapR (fun _ => 0) k) ∧ Below W0.heap.size W0 wr)) (fun _ iv _ => n - (intOf iv).toNat)
    case atStart => exact ⟨0, _, rfl, rfl, by omega, Lib.hid ⟨World.ownsRow_nil _ _ _ _, Below.refl _ _⟩⟩
    case round =>
      clear c1
      obtain ⟨k, vo, rfl, hvo, hk, hin⟩ := hrel
      have hvo := hvo.symm
      subst hvo
      by_cases hlt : k < n
      · have hbw := bel_to HAL.out.2.1 hin.out.2
        obtain ⟨c0, c1, c4⟩ := HC0.out wr hbw
        have hpa := HAL.out.1.below' hin.out.2
        have c5 := hpa.cell (strs_get (show k < D by omega))
        have c6 := hpa.cell (strs_get (show n + k < D by omega))
        have k1 := reg_of (w := wr) (fun W hW => HSB.out W (bel_to hbw hW))
        have k2 := reg_of (w := wr) (fun W hW => HOF.out (R 0) W (bel_to hbw hW))
        have hw2 : IntKind.i64.wrap ((n : Int) + (k : Int)) = ((n + k : Nat) : Int) := by rw [IntWalk.i64_in _ (by omega)]; omega
        obtain ⟨x, hx⟩ : ∃ x, x = n + k := ⟨_, rfl⟩
        have hxD : (x : Int) < (D : Int) := by omega
        have hx0 : (0 : Int) ≤ (x : Int) := by omega
        have hkD : (k : Int) < (D : Int) := by omega
        have hk0 : (0 : Int) ≤ (k : Int) := by omega
        rw [← hx] at c6 hw2
        have m0 := cell_regrown c0
        have m1 := cell_regrown c1
        have m5 := cell_regrown c5
        have m6 := cell_regrown c6
        have e1 : ∀ args w, (callFunc 97 args).run Tryz.prog w = .ok (.enter 97 args) w := enters_of Tryz.func97 (by kernel_rfl) rfl
        have e2 : ∀ args w, (callFunc 128 args).run Tryz.prog w = .ok (.enter 128 args) w := enters_of Tryz.func128 (by kernel_rfl) rfl
        clear c0 c1 c4 c5 c6 hx hpa hbw
        go_wp2_with fail
        refine region_below_tail1 (v := vo) 21 (by kernel_rfl) (by kernel_rfl) (fun _ _ _ h => h) (Or.inl ⟨by rfl, fun wz => by go_simp⟩) ?_
        simp only [List.take_succ_cons, List.take_zero, List.drop_succ_cons, List.drop_zero, Act.put, List.setIfInBounds_toArray, List.set_cons_zero, List.set_cons_succ]
        repeat (go_big_quiet_step (fail))
        go_big_quiet_step (exact k1 _ _)
        repeat (go_big_quiet_step (fail))
        go_big_quiet_step (exact k2 _ _)
        repeat (go_big_quiet_step (fail))
        refine wpQuiet_nil ?_
        intro W6 hw'
        have hb6 : Below wr.heap.size wr W6 := by obtain ⟨p, e⟩ := hw'; rw [e]; exact below_regrown wr p.d p.os
        clear hw'
        have HT6 : Hid (OwnS W6 W0.heap.size vo (mapR (fun _ => 0) k) ∧ Below W0.heap.size W0 W6) := Lib.hid ⟨hin.out.1.below hb6, bel_to hin.out.2 hb6⟩
        clear k1 k2 m0 m1 m5 m6 e1 e2 hb6 hin hw2
        go_wp2_with (at_builtin; refine wpList_app_s (q := R 0) rfl _ _ rfl rfl rfl rfl HT6.out.1 HT6.out.2.size (by rw [mapR_len]; omega) ?_; intro v2 w2 ho2 hk2)
        have HFI : Hid (OwnS w2 W0.heap.size v2 (mapR (fun _ => 0) (k + 1)) ∧ Below W0.heap.size W0 w2) := Lib.hid ⟨by
          rw [mapR_snoc]; exact ho2, hk2 _ _ (Nat.le_refl _) HT6.out.2⟩
        clear ho2 hk2 HT6
        go_wp2
        go_roundw
        case rel => exact ⟨k + 1, _, by go_num, rfl, hlt, HFI⟩
        case measure => simp [intOf]; omega
      · obtain rfl : n = k := by omega
        clear HC0 HSB HOF
        have HX := Lib.hid (And.intro (ownsRow_base hin.out.1 HAL.out.2.1.size) (bel_to HAL.out.2.1 hin.out.2))
        clear hin
        go_wp2
        go_ret
        exact ⟨_, rfl, HX.out.1, HX.out.2⟩
theorem pclimbZ (t : TabZ w B p S h n 0 A) (e : Nat) (ban : Int) (hA : ∀ k, k ≤ wdt n 0 → Bq e (A 0 k)) (he : e ≤ 210) :
    Calls Tryz.prog 66 #[.pointer (some ⟨p, 0, none⟩), .func (.func 67) #[] #[], .int .i64 ban] w (Ret w (.bool ((colsL 0 A ban (wdt n 0)).isEmpty))) := by
  have hbB : Below w.heap.size w ((w.alloc (.cells #[.pointer (some ⟨p, 0, none⟩)] 103 (0, 0))).alloc (.cells #[.int .i64 ban] 3 (0, 0))) := ((Below.refl _ _).alloc (Nat.le_refl _) _).alloc (by simp) _
  have p0 : Pre ((w.alloc (.cells #[.pointer (some ⟨p, 0, none⟩)] 103 (0, 0))).alloc (.cells #[.int .i64 ban] 3 (0, 0))) w.heap.size 103 [.pointer (some ⟨p, 0, none⟩)] :=
    (Pre.of (Row.new w 103 [.pointer (some ⟨p, 0, none⟩)])).alloc _
  have p1 : Pre ((w.alloc (.cells #[.pointer (some ⟨p, 0, none⟩)] 103 (0, 0))).alloc (.cells #[.int .i64 ban] 3 (0, 0))) (w.heap.size + 1) 3 [.int .i64 ban] := by
    have := Pre.of (Row.new (w.alloc (.cells #[.pointer (some ⟨p, 0, none⟩)] 103 (0, 0))) 3 [.int .i64 ban])
    rwa [World.size_alloc] at this
  obtain ⟨cl, hcl⟩ : ∃ cl, cl = colsL 0 A ban (wdt n 0) := ⟨_, rfl⟩
  have HF := Lib.hid (pfirstZ (t.below' hbB) w.heap.size (w.heap.size + 1) e ban p0 p1 hA he)
  rw [← hcl] at HF ⊢
  clear hcl
  have HTT := Lib.hid (fun W (hW : Below w.heap.size w W) => t.below' hW)
  have HBB := Lib.hid hbB
  have c0 := t.c0
  have e0 := t.err.cell
  clear hbB p0 p1 hA t
  go_enter Tryz.func66, Tryz.ntmps66
  go_wp2_with fail
  go_loopw [] (fun wr => wr = w) (fun _ => 0)
  case atStart => exact rfl
  case round =>
    subst hrel
    go_wp2_with fail
    refine (columns_ok ban wr).mono ?_
    rintro e w1 ⟨rfl, rfl⟩
    obtain ⟨W1, hW1⟩ : ∃ W1, W1 = ((wr.alloc (.cells #[.pointer (some ⟨p, 0, none⟩)] 103 (0, 0))).alloc (.cells #[.int .i64 ban] 3 (0, 0))) := ⟨_, rfl⟩
    rw [← hW1] at HF HBB ⊢
    clear c0 e0 hW1
    cases cl with
    | nil =>
      dsimp only [List.head?, firstV] at HF
      go_wp2_with fail
      refine (HF.out).mono ?_
      rintro e wa ⟨rfl, hba⟩
      have HX := Lib.hid (bel_to HBB.out hba)
      clear hba HF HBB
      go_wp2
      go_ret
      exact Ret.of rfl HX.out
    | cons c r =>
      dsimp only [List.head?, firstV] at HF
      go_wp2_with fail
      refine (HF.out).mono ?_
      rintro e wa ⟨rfl, hba⟩
      have HX := Lib.hid (bel_to HBB.out hba)
      clear hba HF HBB
      have HL := Lib.hid (pleavingZ (HTT.out _ HX.out) (c : Int))
      go_wp2_with fail
      refine (HL.out).mono ?_
      rintro e wb ⟨rfl, hbb⟩
      have HY := Lib.hid (bel_to HX.out hbb)
      clear hbb HX HL
      go_wp2
      go_ret
      exact Ret.of rfl HY.out
end
end W
end Go.Proofs.YtijpgddpejiohaaGreatDoor
end
section
namespace Go.Proofs.YtijpgddpejiohaaGreatDoor
open Go Go.RowKit Go.Deep Go.Sort Go.Shelf
open M
section
variable {w w' : World} {B p S : Nat} {h : Nat → Nat} {n m : Nat} {A : Mx}
theorem TabZ.ft (t : TabZ w B p S h n m A) (k : Nat) : w.frozen? ⟨p, k, none⟩ = false := t.tab.free k
theorem TabZ.fe (t : TabZ w B p S h n m A) (_ : m ≤ m) (k : Nat) : w.frozen? ⟨h m, k, none⟩ = false := t.mat.free k
theorem TabZ.ce (t : TabZ w B p S h n m A) (_ : m ≤ m) {k : Nat} (hk : k ≤ wdt n m) : w.cell? ⟨h m, k, none⟩ = some (.string (bs (R (A m k)))) := t.cg hk
theorem TabZ.setA (t : TabZ w B p S h n m A) (_ : m ≤ m) {k : Nat} (hk : k ≤ wdt n m) (q : Rat) : TabZ (w.setCell ⟨h m, k, none⟩ (.string (bs (R q)))) B p S h n m (upd A m (upd (A m) k q)) := by
  obtain ⟨n1, n2⟩ := t.hne
  refine { t with gl := t.gl.below ((Below.refl B w).setCell (p := ⟨h m, k, none⟩) t.lowh _) t.hB, tab := t.tab.other (fun e => n1 e.symm) _, err := Row.other t.err (fun e => n2 e.symm) _, mat := ?_ }
  rw [upd_same, mapR_upd]
  have h2 := t.mat.set (i := k) (by simp [Strs, mapR_len]; omega) (.string (bs (R q)))
  have e2 : Strs ((mapR (A m) (wdt n m + 1)).set k (R q)) = (Strs (mapR (A m) (wdt n m + 1))).set k (.string (bs (R q))) := by simp [Strs, List.map_set]
  rw [e2]; exact h2
theorem TabZ.belowA (t : TabZ w B p S h n m A) {w0 : World} (h0 : Below B w0 w) (_ : m ≤ m) (k : Nat) (v : Value) : Below B w0 (w.setCell ⟨h m, k, none⟩ v) := h0.setCell (p := ⟨h m, k, none⟩) t.lowh v
theorem TabZ.goal (t : TabZ w B p S h n m A) {g : Nat} {f : Nat → Rat}
    (hg : Pre w g 29 (Strs (mapR f (wdt n m + 1)))) (hB : B ≤ g) (hne : g ≠ p ∧ g ≠ S) :
    TabZ (w.setCell ⟨p, 5, none⟩ (.slice (some ⟨g, 0, none⟩) (wdt n m + 1) (wdt n m + 1))) B p S (upd h m g) n m (upd A m f) := by
  have h5 := t.tab.set (i := 5) (by simp) (.slice (some ⟨g, 0, none⟩) (wdt n m + 1) (wdt n m + 1))
  refine { t with gl := t.gl.below ((Below.refl B w).setCell (p := ⟨p, 5, none⟩) t.lowp _) t.hB, tab := ?_, err := Row.other t.err (fun e => t.pne e.symm) _, mat := ?_, lowh := ?_, hne := ?_ }
  · rw [upd_same]; exact h5
  · rw [upd_same, upd_same]
    exact hg.other (fun e => hne.1 e) _
  · rw [upd_same]; exact hB
  · rw [upd_same]; exact hne
end
namespace W
open M
attribute [local go_sem] bs_size bs_toList bs_get bs_extract bs_append bs_lit0 bs_lit1 lit1_bs
set_option maxHeartbeats 2000000
set_option maxRecDepth 20000
section
variable {w : World} {B p S : Nat} {h : Nat → Nat} {n : Nat} {A : Mx}
theorem paimZ (t : TabZ w B p S h n 0 A) (vg : Value) (goal : List Rat) (hg : ∀ W, Below B w W → RdT W vg (rx goal)) (hgl : goal.length = n) (hgq : ∀ x ∈ goal, Bq 20 x) :
    Calls Tryz.prog 65 #[.pointer (some ⟨p, 0, none⟩), vg] w fun ee w' =>
      ee = .returned (.tuple #[]) ∧ (∃ gx, TabZ w' B p S (upd h 0 gx) n 0 (upd A 0 (goalF n goal))) ∧ Below B w w' := by
  obtain ⟨L, hL⟩ : ∃ L, L = wdt n 0 + 1 := ⟨_, rfl⟩
  obtain ⟨D, hD⟩ : ∃ D, D = wdt n 0 := ⟨_, rfl⟩
  have hns := t.hn
  have hDn : 2 * n < D := by rw [hD]; unfold wdt; omega
  have hDs : D ≤ 10000 := by rw [hD]; unfold wdt; omega
  have hLD : L = D + 1 := by rw [hL, hD]
  have HLD := Lib.hid hLD
  have hLs : L ≤ 20000 := by omega
  have hL1 : IntKind.i64.wrap ((D : Int) + 1) = (L : Int) := by rw [IntWalk.i64_in _ (by omega)]; omega
  have HT := Lib.hid t
  have HBS := Lib.hid (TabZ.size t)
  have HDE : Hid (D = wdt n 0 ∧ L = wdt n 0 + 1) := Lib.hid ⟨hD, hL⟩
  obtain ⟨Ag, cg, rfl⟩ := (hg w (Below.refl _ _)).len
  have HG := Lib.hid hg
  rw [rx_len goal, hgl] at HG ⊢
  have HGL := Lib.hid hgl
  have HGQ := Lib.hid hgq
  have hb0 : Below w.heap.size w (w.alloc (.cells #[.string (bs [48])] 29 (0, 0))) := (Below.refl _ _).alloc (Nat.le_refl _) _
  have HW1 := Lib.hid (pwidthZ (t.below' hb0))
  rw [← hD] at HW1
  have hr0 : (w.alloc (.cells #[.string (bs [48])] 29 (0, 0))).cell? ⟨w.heap.size, 0, none⟩ = some (.string (bs [48])) := (Row.new w 29 [.string (bs [48])]).cell rfl
  have HB0 := Lib.hid (And.intro hb0 hr0)
  clear hb0 hr0 t hg hgl hgq hL hD hLD
  go_enter Tryz.func65, Tryz.ntmps65
  go_wp2_with fail
  refine (HW1.out).mono ?_
  rintro e wa ⟨rfl, hba⟩
  have hx1 : wa.cell? ⟨w.heap.size, 0, none⟩ = some (.string (bs [48])) := (hba.cell (p := ⟨w.heap.size, 0, none⟩) (block_lt_of_cell HB0.out.2)).trans HB0.out.2
  have HBA := Lib.hid (bel_to HB0.out.1 hba)
  have HRP := Lib.hid (prepeat w.heap.size 1 L wa hx1 (by have := HLD.out; omega) (by have := HLD.out; omega))
  clear hba hx1 HB0 HW1
  go_wp2_with fail
  refine HRP.out.mono ?_
  rintro e1 w1 ⟨ga, rfl, hga, hrow, hb1⟩
  have hbw1 := bel_to HBA.out hb1
  have hgs : w.heap.size ≤ ga := Nat.le_trans HBA.out.size hga
  have ht1 := HT.out.below' hbw1
  rw [part0_map, HDE.out.2] at hrow
  have htg := ht1.goal (Pre.of hrow) (by have := HBS.out; omega) (by have := HT.out.tab.lt; have := HT.out.err.lt; exact ⟨by omega, by omega⟩)
  rw [← HDE.out.2] at htg
  obtain ⟨h2, hh2⟩ : ∃ h2, h2 = upd h 0 ga := ⟨_, rfl⟩
  rw [← hh2] at htg
  have HTG : Hid (TabZ (w1.setCell ⟨p, 5, none⟩ (.slice (some ⟨ga, 0, none⟩) L L)) B p S h2 n 0 (upd A 0 (goalP n goal 0)) ∧ Below B w (w1.setCell ⟨p, 5, none⟩ (.slice (some ⟨ga, 0, none⟩) L L))) := Lib.hid ⟨by rw [goalP_zero]; exact htg, (hbw1.mono HBS.out).setCell (p := ⟨p, 5, none⟩) HT.out.lowp _⟩
  have fz := ht1.ft 5
  have fc := ht1.c5
  rw [← HDE.out.2] at fc
  have HH2 := Lib.hid hh2
  clear hga hrow hb1 HRP HBA ht1 htg hgs hh2
  go_wp2_with fail
  generalize w1.setCell ⟨p, 5, none⟩ (.slice (some ⟨ga, 0, none⟩) L L) = w2 at *
  clear fz fc hbw1
  go_loopw [20] (fun iv wr => ∃ k : Nat, iv = .int .i64 (k : Int) ∧ k ≤ n ∧ Hid (TabZ wr B p S h2 n 0 (upd A 0 (goalP n goal k)) ∧ Below B w wr)) (fun iv _ => n - (intOf iv).toNat)
  case atStart => exact ⟨0, rfl, by omega, HTG⟩
  case round =>
    clear HTG
    obtain ⟨k, rfl, hk, hin⟩ := hrel
    by_cases hlt : k < n
    · obtain ⟨b1, o1, rfl, hts⟩ := (HG.out wr hin.out.2).row k (by rw [rx_len, HGL.out]; exact hlt)
      have hkg : k < goal.length := by rw [HGL.out]; exact hlt
      have c9 := hts.val k (by rw [rx_len]; exact hkg)
      rw [rx_get goal k hkg, ← nth_get goal k hkg] at c9
      have hq : Bq 20 (nth goal k) := by rw [nth_get goal k hkg]; exact HGQ.out _ (List.getElem_mem hkg)
      have hw2 : IntKind.i64.wrap ((n : Int) + (k : Int)) = ((n + k : Nat) : Int) := by rw [IntWalk.i64_in _ (by omega)]; omega
      have HUP : Hid (upd (upd (goalP n goal k) k (nth goal k)) (n + k) (- nth goal k) = goalP n goal (k + 1)) := Lib.hid (goalP_step n goal k hlt)
      obtain ⟨x, hx⟩ : ∃ x, x = n + k := ⟨_, rfl⟩
      have hxL : (x : Int) < (L : Int) := by have := HLD.out; omega
      have hx0 : (0 : Int) ≤ (x : Int) := by omega
      have hkL : (k : Int) < (L : Int) := by have := HLD.out; omega
      have hk0 : (0 : Int) ≤ (k : Int) := by omega
      have hkx : k ≠ x := by omega
      have HKW : Hid (k ≤ wdt n 0 ∧ x ≤ wdt n 0) := Lib.hid (by have := HDE.out; have := HLD.out; omega)
      rw [← hx] at hw2 HUP
      have hqd : Bq 20 (nth goal k) := hq
      obtain ⟨q, hq⟩ : ∃ q, q = nth goal k := ⟨_, rfl⟩
      rw [← hq] at c9 HUP hqd
      obtain ⟨gz, hgz⟩ : ∃ gz, gz = h2 0 := ⟨_, rfl⟩
      have HK1 := Lib.hid (fun W A1 (hT : TabZ W B p S h2 n 0 A1) => ratNeg q 20 W hT.gl hqd (by decide))
      have HK2 := Lib.hid (fun W A1 (hT : TabZ W B p S h2 n 0 A1) => psof S (R (-q)) W hT.err)
      have HCL := Lib.hid (fun W A1 (hT : TabZ W B p S h2 n 0 A1) => (by
        have c5 := hT.c5
        rw [← HDE.out.2, ← hgz] at c5
        exact ⟨hT.c0, hT.c1, c5⟩ : W.cell? ⟨p, 0, none⟩ = some (.pointer (some ⟨S, 0, none⟩)) ∧ W.cell? ⟨p, 1, none⟩ = some (.int .i64 (n : Int)) ∧ W.cell? ⟨p, 5, none⟩ = some (.slice (some ⟨gz, 0, none⟩) L L)))
      have HFC := Lib.hid (fun W A1 y (hy : y ≤ wdt n 0) (hT : TabZ W B p S h2 n 0 A1) => (by
        rw [hgz]
        exact ⟨hT.fe (Nat.le_refl 0) y, hT.ce (Nat.le_refl 0) hy⟩ : W.frozen? ⟨gz, y, none⟩ = false ∧ W.cell? ⟨gz, y, none⟩ = some (.string (bs (R (A1 0 y))))))
      have HSA := Lib.hid (fun W f y r (hy : y ≤ wdt n 0) (hT : TabZ W B p S h2 n 0 (upd A 0 f) ∧ Below B w W) => (by
        have t1 := hT.1.setA (Nat.le_refl 0) hy r
        rw [upd_row, ← hgz] at t1
        have t2 := hT.1.belowA hT.2 (Nat.le_refl 0) y (.string (bs (R r)))
        rw [← hgz] at t2
        exact ⟨t1, t2⟩ : TabZ (W.setCell ⟨gz, y, none⟩ (.string (bs (R r)))) B p S h2 n 0 (upd A 0 (upd f y r)) ∧ Below B w (W.setCell ⟨gz, y, none⟩ (.string (bs (R r))))))
      have HBT := Lib.hid (fun W W' f (hT : TabZ W B p S h2 n 0 (upd A 0 f) ∧ Below B w W) (hb : Below W.heap.size W W') => (And.intro (hT.1.below' hb) (hT.2.trans (hb.mono (TabZ.size hT.1))) : TabZ W' B p S h2 n 0 (upd A 0 f) ∧ Below B w W'))
      have HTD := Lib.hid (HBT.out _ _ _ hin.out (RowKit.Below.drew (Below.refl wr.heap.size wr)))
      clear hx hts hkg hgz hq hqd hin
      go_wp2_with fail
      go_region_held3 (fun W => W.cell? ⟨p, 0, none⟩ = some (.pointer (some ⟨S, 0, none⟩)) ∧ W.cell? ⟨p, 1, none⟩ = some (.int .i64 (n : Int)) ∧ W.cell? ⟨p, 5, none⟩ = some (.slice (some ⟨gz, 0, none⟩) L L))
        (first | exact HCL.out _ _ HT8.out.1 | exact HCL.out _ _ HT7.out.1 | exact HCL.out _ _ HT6.out.1 | exact HCL.out _ _ HT5.out.1 | exact HCL.out _ _ HTD.out.1)
        (first
        | (go_at_call 129; refine (HK1.out _ _ HTD.out.1).mono ?_; rintro e w5 ⟨rfl, hb5⟩; have HT5 := Lib.hid (HBT.out _ _ _ HTD.out hb5))
        | (go_at_call 128; refine (HK2.out _ _ HT5.out.1).mono ?_; rintro e w6 ⟨rfl, hb6⟩; have HT6 := Lib.hid (HBT.out _ _ _ HT5.out hb6); have HT7 := Lib.hid (HSA.out _ _ k q HKW.out.1 HT6.out); obtain ⟨fz, fc⟩ := HFC.out _ _ k HKW.out.1 HT6.out.1; obtain ⟨fy, fd⟩ := HFC.out _ _ x HKW.out.2 HT7.out.1; have HT8 := Lib.hid (HSA.out _ _ x (-q) HKW.out.2 HT7.out)))
      rw [HUP.out] at HT8
      clear HK1 HK2 HCL HFC HSA HBT HTD HT5 HT6 HT7 HUP fz fc fy fd hw2 c9
      go_wp2
      go_roundw
      case rel => exact ⟨k + 1, by go_num, hlt, HT8⟩
      case measure => simp [intOf]; omega
    · obtain rfl : n = k := by omega
      have HTG : Hid (TabZ wr B p S h2 n 0 (upd A 0 (goalF n goal)) ∧ Below B w wr) := Lib.hid ⟨by rw [← goalP_end]; exact hin.out.1, hin.out.2⟩
      have c4 := hin.out.1.c4
      clear hin HG HGQ
      go_wp2_with fail
      go_loopw [58] (fun iv wr2 => iv = .int .i64 0 ∧ wr2 = wr) (fun _ _ => 0)
      case atStart => exact ⟨rfl, rfl⟩
      case round =>
        obtain ⟨rfl, rfl⟩ := hrel
        clear c4
        have HQ := Lib.hid (by
          have h := HTG.out
          rw [HH2.out] at h
          exact h : TabZ wr B p S (upd h 0 ga) n 0 (upd A 0 (goalF n goal)) ∧ Below B w wr)
        go_wp2
        go_end0
        exact ⟨rfl, ⟨ga, HQ.out.1⟩, HQ.out.2⟩
end
end W
end Go.Proofs.YtijpgddpejiohaaGreatDoor
end
section
namespace Go.Proofs.YtijpgddpejiohaaGreatDoor
open Go Go.RowKit Go.Deep Go.Sort Go.Shelf
namespace M
theorem goalF_cols {n : Nat} {goal : List Rat} (hl : goal.length = n) (A : Mx) : (colsL 0 (upd A 0 (goalF n goal)) ((2 * n : Nat) : Int) (wdt n 0)).isEmpty = goal.all fun x => decide (x = 0) := by
  have hA : ∀ c, (upd A 0 (goalF n goal)) 0 c = goalF n goal c := fun c => by rw [upd_same]
  rw [Bool.eq_iff_iff, List.isEmpty_iff, List.all_eq_true]
  unfold colsL
  rw [List.filter_eq_nil_iff]
  unfold colP
  constructor
  · intro h x hx
    obtain ⟨k, hk, rfl⟩ := List.getElem_of_mem hx
    have h1 := h k (by rw [List.mem_range]; unfold wdt; omega)
    have h2 := h (n + k) (by rw [List.mem_range]; unfold wdt; omega)
    rw [hA] at h1 h2
    have e1 : goalF n goal k = goal[k] := by unfold goalF; rw [if_pos (by omega)]; unfold nth; simp [hk]
    have e2 : goalF n goal (n + k) = -goal[k] := by unfold goalF; rw [if_neg (by omega), if_pos (by omega)]; unfold nth; simp [hk]
    rw [e1] at h1
    rw [e2] at h2
    have n1 : decide ((k : Int) ≠ ((2 * n : Nat) : Int)) = true := decide_eq_true (by omega)
    have n2 : decide (((n + k : Nat) : Int) ≠ ((2 * n : Nat) : Int)) = true := decide_eq_true (by omega)
    rw [n1, Bool.true_and, decide_eq_true_eq] at h1
    rw [n2, Bool.true_and, decide_eq_true_eq] at h2
    rw [decide_eq_true_eq]
    grind
  · intro h c hc
    rw [hA]
    have h0 : ∀ k, nth goal k = 0 := fun k => by
      unfold nth
      by_cases hk : k < goal.length
      · have := h _ (List.getElem_mem hk)
        rw [decide_eq_true_eq] at this
        simp [hk, this]
      · simp [List.getD, List.getElem?_eq_none (by omega : goal.length ≤ k)]
    have : goalF n goal c = 0 := by
      unfold goalF
      split
      · exact h0 _
      · split
        · rw [h0]; decide +kernel
        · rfl
    rw [this]
    simp
end M
namespace W
open M
attribute [local go_sem] bs_size bs_toList bs_get bs_extract bs_append bs_lit0 bs_lit1 lit1_bs
set_option maxHeartbeats 4000000
set_option maxRecDepth 20000
theorem plaidZ (vl : Value) (n : Nat) (w : World) (hg : Glob w) (hl : ∃ A c, vl = .slice A 0 c) (hn1 : 1 ≤ n) (hn : n ≤ 8) :
    Calls Tryz.prog 63 #[.int .i64 (n : Int), vl] w fun e w' => ∃ p S h A, e = .returned (.pointer (some ⟨p, 0, none⟩)) ∧ TabZ w' w.heap.size p S h n 0 A ∧ Below w.heap.size w w' := by
  obtain ⟨Al, cpl, rfl⟩ := hl
  obtain ⟨D, hD⟩ : ∃ D, D = wdt n 0 := ⟨_, rfl⟩
  obtain ⟨L, hL⟩ : ∃ L, L = D + 1 := ⟨_, rfl⟩
  have hDn : D = 2 * n + 1 := by rw [hD]; unfold wdt; omega
  have HDE := Lib.hid (And.intro hD hL)
  have HL1 : IntKind.i64.wrap ((D : Int) + 1) = (L : Int) := by rw [IntWalk.i64_in _ (by omega)]; omega
  have HLS := Lib.hid (show 1 ≤ L ∧ L ≤ 1000 by omega)
  obtain ⟨W0, hW0⟩ : ∃ W0, W0 = (w.alloc (.cells #[.int .i64 0] 110 (0, 0))).alloc (.cells #[.pointer (some ⟨w.heap.size, 0, none⟩), .int .i64 (n : Int), .int .i64 0, .slice none 0 0, .slice none 0 0, .slice none 0 0] 108 (0, 0)) := ⟨_, rfl⟩
  have hb0 : Below w.heap.size w W0 := by rw [hW0]; exact ((Below.refl _ _).alloc (Nat.le_refl _) _).alloc (by simp) _
  have ht : Pre W0 (w.heap.size + 1) 108 [.pointer (some ⟨w.heap.size, 0, none⟩), .int .i64 (n : Int), .int .i64 0, .slice none 0 0, .slice none 0 0, .slice none 0 0] := by
    have := Pre.of (Row.new (w.alloc (.cells #[.int .i64 0] 110 (0, 0))) 108 [.pointer (some ⟨w.heap.size, 0, none⟩), .int .i64 (n : Int), .int .i64 0, .slice none 0 0, .slice none 0 0, .slice none 0 0])
    rw [World.size_alloc] at this
    rw [hW0]; exact this
  have he : NoErP W0 w.heap.size := by rw [hW0]; exact Row.alloc (Row.new w 110 [.int .i64 0]) _
  have HT := Lib.hid (And.intro ht (And.intro he hb0))
  have HG := Lib.hid hg
  have HN := Lib.hid hn
  clear ht he hb0 hg hD hL hDn
  go_enter Tryz.func63, Tryz.ntmps63
  go_wp2_with fail
  rw [← hW0]
  clear hW0
  go_loopw [20] (fun iv wr => iv = .int .i64 0 ∧ wr = W0) (fun _ _ => 0)
  case atStart => exact ⟨rfl, rfl⟩
  case round =>
    obtain ⟨rfl, rfl⟩ := hrel
    have hb2 : Below wr.heap.size wr (wr.alloc (.cells #[.string (bs [48])] 29 (0, 0))) := (Below.refl _ _).alloc (Nat.le_refl _) _
    have hr2 : (wr.alloc (.cells #[.string (bs [48])] 29 (0, 0))).cell? ⟨wr.heap.size, 0, none⟩ = some (.string (bs [48])) := (Row.new wr 29 [.string (bs [48])]).cell rfl
    have HW1 := Lib.hid (pwidthC (m := 0) (show n ≤ 100 by have := HN.out; omega) (by decide) ((HT.out.1.below' hb2).cell (i := 1) rfl) ((HT.out.1.below' hb2).cell (i := 2) rfl))
    rw [← HDE.out.1] at HW1
    have HB2 := Lib.hid (And.intro hb2 hr2)
    clear hb2 hr2
    go_wp2_with fail
    refine HW1.out.mono ?_
    rintro e wa ⟨rfl, hba⟩
    have hx1 : wa.cell? ⟨wr.heap.size, 0, none⟩ = some (.string (bs [48])) := (hba.cell (p := ⟨wr.heap.size, 0, none⟩) (block_lt_of_cell HB2.out.2)).trans HB2.out.2
    have HRP := Lib.hid (prepeat wr.heap.size 1 L wa hx1 HLS.out.1 (by have := HLS.out; omega))
    have HBW := Lib.hid (bel_to HB2.out.1 hba)
    clear hba hx1 HW1 HB2
    go_wp2_with fail
    refine HRP.out.mono ?_
    rintro e w4 ⟨g, rfl, hga, hrow, hb4⟩
    have hbw := bel_to HBW.out hb4
    have h5 := HT.out.1.below' hbw
    rw [part0_map] at hrow
    have fz := h5.free 5
    have fc := h5.cell (i := 5) rfl
    have hgt : w.heap.size + 1 < g := by have := HT.out.1.lt; have := HBW.out.size; omega
    have HFIN : Hid (TabZ (w4.setCell ⟨w.heap.size + 1, 5, none⟩ (.slice (some ⟨g, 0, none⟩) L L)) w.heap.size (w.heap.size + 1) w.heap.size (fun _ => g) n 0 (fun _ _ => 0) ∧ Below w.heap.size w (w4.setCell ⟨w.heap.size + 1, 5, none⟩ (.slice (some ⟨g, 0, none⟩) L L))) := Lib.hid (by
      have hbz := (bel_to HT.out.2.2 hbw).setCell (p := ⟨w.heap.size + 1, 5, none⟩) (by show _ ≤ w.heap.size + 1; omega) (.slice (some ⟨g, 0, none⟩) L L)
      have s5 := h5.set (i := 5) (by simp) (.slice (some ⟨g, 0, none⟩) L L)
      refine ⟨⟨?_, Row.other (HT.out.2.1.below' hbw) (show w.heap.size ≠ w.heap.size + 1 by omega) _, ?_, by omega, Nat.le_refl _, by show w.heap.size ≤ g; omega, by omega, by show g ≠ _ ∧ g ≠ _; omega, HG.out.of hbz, HG.out.2.2, by have := HN.out; omega, by omega⟩, hbz⟩
      · rw [show wdt n 0 + 1 = L by have := HDE.out; omega]; exact s5
      · rw [show wdt n 0 + 1 = L by have := HDE.out; omega]; exact (Pre.of hrow).other (show g ≠ w.heap.size + 1 by omega) _)
    clear hga hrow hb4 hbw h5 hgt HRP HBW
    go_wp2
    go_ret
    exact ⟨_, _, _, _, rfl, HFIN.out.1, HFIN.out.2⟩
/-- What 'Most' returns where no bounds are given. -/
def Most0 (b : Bool) (w : World) (e : Ending) (w' : World) : Prop :=
  Below w.heap.size w w' ∧ match b with
  | true => ∃ A n c, e = .returned (.tuple #[.string (bs (R 0)), .slice A n c, .slice none 0 0, .int .i64 0])
  | false => e = .returned (.tuple #[.string (bs []), .slice none 0 0, .slice none 0 0, .int .i64 14])
theorem pmost0 (n : Nat) (goal : List Rat) (vl vg : Value) (w : World) (hg : Glob w) (hl : RdB w vl []) (hgo : RdT w vg (rx goal)) (hn1 : 1 ≤ n) (hn : n ≤ 8) (hgl : goal.length = n) (hgq : ∀ x ∈ goal, Bq 8 x) :
    Calls Tryz.prog 18 #[.int .i64 (n : Int), vl, vg] w (Most0 (goal.all fun x => decide (x = 0)) w) := by
  have hc := pcheck5 (n : Int) vl [] w hg hl (by decide) (fun _ b hb => by cases hb)
  rw [show chk5 (n : Int) [] = 0 from chk5_okW (l := []) hn1 hn (by decide) (fun b hb => by cases hb)] at hc
  have HC := Lib.hid hc
  have hnu := fun W (hW : Below w.heap.size w W) => pnum1 vg (rx goal) W (hg.of hW) (hgo.below hW) (rx_small hgq) (by rw [rx_len]; omega)
  rw [chk_rx hgq] at hnu
  have HN := Lib.hid hnu
  have hlz : ∃ A c, vl = .slice A 0 c := hl.len
  have HL := Lib.hid (fun W (hW : Below w.heap.size w W) => plaidZ vl n W (hg.of hW) hlz hn1 hn)
  have HGO := Lib.hid hgo
  have HGQ := Lib.hid hgq
  have HGL := Lib.hid hgl
  have HGC := Lib.hid (fun A => goalF_cols hgl A)
  generalize hbz : (goal.all fun x => decide (x = 0)) = bz at *
  have HBZ := Lib.hid hbz
  obtain ⟨Ag, cg, rfl⟩ := hgo.len
  obtain ⟨Av, cv, rfl⟩ := hlz
  rw [rx_len, hgl] at HN HGO ⊢
  clear hg hl hgo hgq hgl hc hnu hbz
  go_enter Tryz.func18, Tryz.ntmps18
  go_wp2_with fail
  refine (HC.out).mono ?_
  rintro e w1 ⟨rfl, hb1⟩
  have HB1 := Lib.hid hb1
  clear hb1 HC
  go_wp2_with fail
  refine (HN.out w1 HB1.out).mono ?_
  rintro e w2 ⟨rfl, hb2⟩
  have HB2 := Lib.hid (bel_to HB1.out hb2)
  clear hb2 HN HB1
  go_wp2_with fail
  refine (HL.out w2 HB2.out).mono ?_
  rintro e wL ⟨p, S, hh, A, rfl, htL, hbL⟩
  have HGB := Lib.hid (fun W (hW : Below w2.heap.size w2 W) => (HGO.out.below HB2.out).below hW)
  have HTL := Lib.hid (And.intro htL hbL)
  have HR := Lib.hid (preadyZ htL)
  clear htL hbL HL
  go_wp2_with fail
  refine (HR.out).mono ?_
  rintro e wR ⟨rfl, hbR⟩
  have HTR := Lib.hid (And.intro (HTL.out.1.below' hbR) (HTL.out.2.trans (hbR.mono (TabZ.size HTL.out.1))))
  clear hbR HR HTL
  have c0 := HTR.out.1.c0
  have e0 := HTR.out.1.err.cell
  have HA := Lib.hid (paimZ HTR.out.1 (.slice Ag n cg) goal (fun W hW => HGB.out W (HTR.out.2.trans hW)) HGL.out (fun x hx => (HGQ.out x hx).mono (by decide)))
  have HBL := Lib.hid HTR.out.2
  clear HTR
  go_wp2_with fail
  refine HA.out.mono ?_
  rintro e wA ⟨rfl, ⟨gx, htA⟩, hbA⟩
  have HTA := Lib.hid (And.intro htA (HBL.out.trans hbA))
  have HWD := Lib.hid (pwidthZ htA)
  clear c0 e0 htA hbA HA HBL
  have hGA : ∀ k, k ≤ wdt n 0 → Bq 20 ((upd A 0 (goalF n goal)) 0 k) := fun k _ => by
    rw [upd_same]
    exact Sx.goalF_bq (e := 20) (fun x hx => (HGQ.out x hx).mono (by decide)) (by decide) k
  have HGA := Lib.hid hGA
  have hgc := HGC.out A
  obtain ⟨D, hD⟩ : ∃ D, D = wdt n 0 := ⟨_, rfl⟩
  have hDn : D = 2 * n + 1 := by rw [hD]; unfold wdt; omega
  have hw1 : IntKind.i64.wrap ((D : Int) - 1) = ((2 * n : Nat) : Int) := by rw [IntWalk.i64_in _ (by omega)]; omega
  rw [← hD] at HWD
  have HGD := Lib.hid hgc
  clear hGA hgc hD hDn
  go_wp2_with fail
  refine (HWD.out).mono ?_
  rintro e wd ⟨rfl, hbd⟩
  have HTD := Lib.hid (And.intro (HTA.out.1.below' hbd) (HTA.out.2.trans (hbd.mono (TabZ.size HTA.out.1))))
  have hcl := pclimbZ HTD.out.1 20 ((2 * n : Nat) : Int) HGA.out (by decide)
  rw [HGD.out] at hcl
  have HCB := Lib.hid hcl
  clear hbd HWD HTA hcl HGA HGD
  go_wp2_with fail
  refine (HCB.out).mono ?_
  rintro e wC ⟨rfl, hbC⟩
  have HTC := Lib.hid (And.intro (HTD.out.1.below' hbC) (HTD.out.2.trans (hbC.mono (TabZ.size HTD.out.1))))
  have HPT := Lib.hid (ppointZ HTC.out.1)
  clear hbC HTD HCB
  go_wp2_with fail
  refine HPT.out.mono ?_
  rintro e wP ⟨vp, rfl, hop, hbP⟩
  have HTP := Lib.hid (And.intro (HTC.out.1.below' hbP) (HTC.out.2.trans (hbP.mono (TabZ.size HTC.out.1))))
  have HOP := Lib.hid hop
  have HWT := Lib.hid (pweightsZ HTP.out.1)
  clear hop hbP HPT HTC
  go_wp2_with fail
  refine (HWT.out).mono ?_
  rintro e wW ⟨rfl, hbW⟩
  have HTW := Lib.hid (And.intro (HTP.out.1.below' hbW) (HTP.out.2.trans (hbW.mono (TabZ.size HTP.out.1))))
  have hop2 := HOP.out.below hbW
  obtain ⟨Ap, cp, rfl⟩ := hop2.rd.len
  have hgd := HGB.out wW HTW.out.2
  have HDT := Lib.hid (pdot S (.slice Ag n cg) _ goal ((List.range n).map (fun _ => (0 : Rat))) 8 1 wW HTW.out.1.gl HTW.out.1.err hgd (by rw [← mapR_rx]; exact hop2.rd) (by simp [HGL.out]) (by rw [HGL.out]; omega) HGQ.out (fun x hx => by
    obtain ⟨_, _, rfl⟩ := List.mem_map.1 hx
    exact ⟨by decide +kernel, by decide +kernel⟩) (by decide))
  have hd0 : ∀ i, dotP goal ((List.range n).map (fun _ => (0 : Rat))) i = 0 := fun i => by
    induction i with
    | zero => rfl
    | succ k ih =>
      unfold dotP
      rw [ih]
      have : nth ((List.range n).map (fun _ => (0 : Rat))) k = 0 := by
        unfold nth
        by_cases hk : k < n
        · simp [hk]
        · simp [List.getD, List.getElem?_eq_none (by simp; omega : ((List.range n).map (fun _ => (0 : Rat))).length ≤ k)]
      rw [this]
      grind
  rw [hd0] at HDT
  have c0 := HTW.out.1.c0
  clear hop2 hgd hbW HOP HTP HWT hd0
  go_wp2_with fail
  refine HDT.out.mono ?_
  rintro e wD ⟨rfl, hbD⟩
  have htE := HTW.out.1.below' hbD
  have e0 := htE.err.cell
  have c0 := htE.c0
  have HFN := Lib.hid (bel_to HB2.out (HTW.out.2.trans (hbD.mono (TabZ.size HTW.out.1))))
  clear htE hbD HTW HDT
  cases bz with
  | false =>
    go_wp2
    refine bodyPost_ret (v := .tuple #[.string (bs []), .slice none 0 0, .slice none 0 0, .int .i64 14]) (by simp [results, Tryz.results18]; rfl) rfl ⟨HFN.out, rfl⟩
  | true =>
    go_wp2
    refine bodyPost_ret (v := .tuple #[.string (bs (R 0)), .slice Ap (mapR (fun _ => 0) n).length cp, .slice none 0 0, .int .i64 0]) (by simp [results, Tryz.results18]) rfl ⟨HFN.out, Ap, _, cp, rfl⟩
end W
end Go.Proofs.YtijpgddpejiohaaGreatDoor
end
section
namespace Go.Proofs.YtijpgddpejiohaaGreatDoor
open Go Go.RowKit Go.Deep Go.Sort
/-- The rows of bounds are own lists of texts. -/
def GoodM (w : World) (es : List (Value × M.BT)) : Prop := ∀ x ∈ es, ∃ B, OwnS w B x.1 x.2.1
theorem OwnS.shpM {w : World} {B : Nat} {v : Value} {l : List (List UInt8)} (h : OwnS w B v l) : Shp v := by
  rcases h.2 with ⟨hv, _⟩ | ⟨g, cap, cur, hv, _⟩
  · exact Or.inl hv
  · exact Or.inr ⟨_, _, _, hv⟩
theorem GoodM.below {w w' : World} {es : List (Value × M.BT)} (h : GoodM w es) (hb : Below w.heap.size w w') : GoodM w' es := fun x hx => by
  obtain ⟨B, h1⟩ := h x hx
  exact ⟨B, h1.below hb⟩
theorem GoodM.good {w : World} {es : List (Value × M.BT)} (h : GoodM w es) : GoodE w es := fun x hx => by
  obtain ⟨B, h1⟩ := h x hx
  exact ⟨h1.rd, h1.shpM⟩
theorem GoodM.append {w : World} {a b : List (Value × M.BT)} (h : GoodM w a) (h2 : GoodM w b) : GoodM w (a ++ b) := fun x hx => (List.mem_append.1 hx).elim (h x) (h2 x)
theorem ratBoundM : 29 ≠ 31 := by decide
theorem listBoundM : 22 ≠ 29 := by decide
theorem GoodM.kept {w w' : World} {r : Nat} {t : TypeId} {xs : Array Value} {es : List (Value × M.BT)} (h : GoodM w es) (hg : w.grownBy w' (some r)) (hr : w.heap[r]? = some (.cells xs t (0, 0))) (ht : 29 ≠ t) : GoodM w' es := fun x hx => by
  obtain ⟨B1, h1⟩ := h x hx
  refine ⟨B1, World.ownsRow.kept h1 hg ?_⟩
  rcases h1.2 with ⟨hv, _⟩ | ⟨g, cap, cur, hv, _, hh, _⟩
  · exact Or.inl (by rw [hv]; rfl)
  · right
    rw [hv]
    intro e
    injection e with e
    simp only at e
    rw [e, hr] at hh
    injection hh with hh
    injection hh with _ hh _
    exact ht hh.symm
namespace W
open M Sx
theorem OwnE.blkM {w : World} {B g : Nat} {v : Value} {es : List (Value × BT)} (h : OwnE w B v es) (hg : v.ownBlock = some g) : g < w.heap.size ∧ ∃ xs, w.heap[g]? = some (.cells xs 31 (0, 0)) := by
  rcases h.2 with ⟨hv, _⟩ | ⟨g2, cap2, cur2, hv, _, hh, _⟩
  · rw [hv] at hg; cases hg
  · rw [hv] at hg
    injection hg with hg
    simp only at hg
    subst hg
    exact ⟨(Array.getElem?_eq_some_iff.1 hh).1, _, hh⟩
theorem GoodM.grown {w w' : World} {B : Nat} {v : Value} {es es0 : List (Value × BT)} (h : GoodM w es) (ho : OwnE w B v es0) (hg : w.grownBy w' v.ownBlock) : GoodM w' es := by
  cases hb : v.ownBlock with
  | none =>
    rw [hb] at hg
    intro x hx
    obtain ⟨B1, h1⟩ := h x hx
    exact ⟨B1, World.ownsRow.kept h1 hg (by
      rcases h1.2 with ⟨hv, _⟩ | ⟨g, cap, cur, hv, _⟩
      · exact Or.inl (by rw [hv]; rfl)
      · right; rw [hv]; intro e; cases e)⟩
  | some g =>
    obtain ⟨_, xs, hx⟩ := OwnE.blkM ho hb
    rw [hb] at hg
    exact h.kept hg hx ratBoundM
theorem chk_rxB {l : List Rat} (h : ∀ x ∈ l, Bq 1000 x) : chkRs (rx l) = 0 := by
  induction l with
  | nil => rfl
  | cons x t ih =>
    show chkRs (R x :: rx t) = 0
    rw [chkRs, if_pos ((h x List.mem_cons_self).chk (by decide))]
    exact ih fun y hy => h y (List.mem_cons_of_mem _ hy)
theorem chk_bxB {n : Nat} : ∀ {l : List BQ}, (∀ b ∈ l, b.1.length = n ∧ (∀ x ∈ b.1, Bq 1000 x) ∧ Bq 1000 b.2) → chkBs (n : Int) (bx l) = 0
  | [], _ => rfl
  | b :: t, h => by
    have hb := h b List.mem_cons_self
    show chkBs (n : Int) ((rx b.1, R b.2) :: bx t) = 0
    have h1 : chkB1 (n : Int) (rx b.1, R b.2) = 0 := by
      unfold chkB1
      rw [if_neg (by rw [rx_len, hb.1]; simp), chkRs_append]
      simp only
      rw [chk_rxB hb.2.1, if_pos rfl, chkRs, hb.2.2.chk (by decide), if_pos rfl, chkRs]
    rw [chkBs, h1, if_pos rfl]
    exact chk_bxB fun x hx => h x (List.mem_cons_of_mem _ hx)
theorem bx_inj : ∀ {a b : List BQ}, bx a = bx b → a = b
  | [], [], _ => rfl
  | [], _ :: _, h => by cases h
  | _ :: _, [], h => by cases h
  | x :: a, y :: b, h => by
    have h1 : (rx x.1, R x.2) :: bx a = (rx y.1, R y.2) :: bx b := h
    injection h1 with h2 h3
    injection h2 with h4 h5
    rw [bx_inj h3, show x = y from Prod.ext (rx_inj h4) (R_inj h5)]
theorem movT_len (n : Nat) (q : List Rat) : ∀ (l : List BQ) (i : Nat), (movT n q i l).length = l.length
  | [], _ => rfl
  | b :: t, i => by
    show (movT n q (i + 1) t).length + 1 = t.length + 1
    rw [movT_len n q t (i + 1)]
theorem movT_get (n : Nat) (q : List Rat) : ∀ (l : List BQ) (i j : Nat) (h : j < l.length), (movT n q i l)[j]? = some (movB ((1 + ((i + j : Nat) : Int) % 3 : Int) : Rat) n q l[j])
  | [], _, _, h => by cases h
  | b :: t, i, 0, _ => by show some _ = some _; rw [Nat.add_zero]; rfl
  | b :: t, i, j + 1, h => by
    have hj : j < t.length := by simpa using h
    show (movT n q (i + 1) t)[j]? = _
    rw [movT_get n q t (i + 1) j hj, show i + 1 + j = i + (j + 1) by omega]
    rfl
theorem movB_bq {k : Nat} {q : List Rat} {b : BQ} {z : Int} (hz : 1 ≤ z ∧ z ≤ 3) (hk : k ≤ 8) (hb : b.1.length = k ∧ (∀ x ∈ b.1, Sq x) ∧ Sq b.2) (hq : ∀ x ∈ q, Sq x) (hl : q.length = k) :
    ((movB (z : Rat) k q b).1.length = k ∧ (∀ x ∈ (movB (z : Rat) k q b).1, Bq 1000 x) ∧ Bq 1000 (movB (z : Rat) k q b).2) ∧ Bq 1 (z : Rat) ∧ Bq 137 (dotP b.1 q k) := by
  have h1 : Bq 1 (z : Rat) := ⟨by rw [Rat.num_intCast]; omega, by rw [Rat.den_intCast]; decide⟩
  have h2 : Bq 137 (dotP b.1 q k) := (dotP_bq (e := 8) (e2 := 8) (fun x hx => (hb.2.1 x hx).bq) (fun x hx => (hq x hx).bq) k (by omega) (by omega)).mono (by omega)
  refine ⟨⟨by unfold movB; simp [hb.1], fun x hx => ?_, ?_⟩, h1, h2⟩
  · unfold movB at hx
    obtain ⟨y, hy, rfl⟩ := List.mem_map.1 hx
    exact (Bq.mul h1 (hb.2.1 y hy).bq).mono (by decide)
  · exact (Bq.mul h1 (Bq.add hb.2.2.bq h2)).mono (by decide)
theorem few_moved {k : Nat} {q : List Rat} {l : List BQ} (hr : RightS k l) (hk1 : 1 ≤ k) (hk : k ≤ 8) (hll : l.length ≤ 9) (hq : ∀ x ∈ q, Sq x) (hl : q.length = k) (h : few5 (k : Int) (bx (movT k q 0 l)) = true) :
    RightS k (movT k q 0 l) ∧ FewS k (movT k q 0 l).length := by
  have hB : ∀ b ∈ movT k q 0 l, b.1.length = k ∧ (∀ x ∈ b.1, Bq 1000 x) ∧ Bq 1000 b.2 := fun b hb => by
    obtain ⟨j, hj, e⟩ := List.getElem_of_mem hb
    have hj2 : j < l.length := by rwa [movT_len] at hj
    have h1 := movT_get k q l 0 j hj2
    rw [List.getElem?_eq_getElem hj, e] at h1
    rw [Option.some.inj h1]
    exact (movB_bq (by omega) hk (hr _ (List.getElem_mem hj2)) hq hl).1
  have hc : chk5 (k : Int) (bx (movT k q 0 l)) = 0 := by
    unfold chk5
    rw [if_neg (by omega), if_neg (by rw [bx_len, movT_len]; omega)]
    exact chk_bxB hB
  obtain ⟨k', zl, e1, e2, h1, h2⟩ := few_rightS h hc
  obtain rfl : k = k' := by omega
  rw [bx_inj e2]
  exact ⟨h1, h2⟩
/-- What 'Most' returns: a text, two lists, an error. -/
def MoD (s : List UInt8) (c : Int) (w : World) (e : Ending) (w' : World) : Prop := ∃ A1 n1 c1 A2 n2 c2, e = .returned (.tuple #[.string (bs s), .slice A1 n1 c1, .slice A2 n2 c2, .int .i64 c]) ∧ Below w.heap.size w w'
theorem moD_of {r : (Rat × List Rat × List Rat) ⊕ Nat} {w : World} {e : Ending} {w' : World} (h : MostP w r e w') : MoD (dS r) (dC r) w e w' := by
  cases r with
  | inl s =>
    obtain ⟨v, p, q⟩ := s
    obtain ⟨v1, v2, e, o1, o2, hb⟩ := h
    obtain ⟨A1, c1, rfl⟩ := o1.rd.len
    obtain ⟨A2, c2, rfl⟩ := o2.rd.len
    exact ⟨_, _, _, _, _, _, e, hb⟩
  | inr k => exact ⟨_, _, _, _, _, _, h.1, h.2⟩
/-- The two outcomes side by side. -/
def MovC (k : Nat) (zb zg : List Rat) (s1 s2 : List UInt8) (c1 c2 : Int) : Prop :=
  (c1 = 0 ∧ c2 = 0 ∧ ∃ v, s1 = R v ∧ s2 = R (v + dotP zg zb k) ∧ (R v).length ≤ 299 ∧ Bq 300 v) ∨ (c1 = c2 ∧ (c1 = 6 ∨ c1 = 14))
theorem movs_pair {k : Nat} {zl : List BQ} {zb zg : List Rat} (hr : RightS k zl) (hf : FewS k zl.length) (hb : ∀ x ∈ zb, Sq x) (hbl : zb.length = k) (hgq : ∀ x ∈ zg, Sq x) (hgl : zg.length = k) (hfw : few5 (k : Int) (bx (movT k zb 0 zl)) = true) :
    ∃ s1 s2 c1 c2, MovC k zb zg s1 s2 c1 c2 ∧ (∀ (vl vg : Value) (W : World), Glob W → RdB W vl (bx zl) → RdT W vg (rx zg) → Calls Tryz.prog 18 #[.int .i64 (k : Int), vl, vg] W (MoD s1 c1 W)) ∧
      ∀ (vl vg : Value) (W : World), Glob W → RdB W vl (bx (movT k zb 0 zl)) → RdT W vg (rx zg) → Calls Tryz.prog 18 #[.int .i64 (k : Int), vl, vg] W (MoD s2 c2 W) := by
  have hk1 : 1 ≤ k := hf.1
  have hk8 : k ≤ 8 := hf.2.1
  have hm9 : zl.length ≤ 9 := hf.2.2.1
  obtain ⟨hr2, hf2⟩ := few_moved hr hk1 hk8 hm9 hb hbl hfw
  by_cases h0 : zl = []
  · subst h0
    have hz0 : ∀ x, (zg.all fun x => decide (x = 0)) = x → x = true → dotP zg zb k = 0 := fun x e hx => by
      rw [hx, List.all_eq_true] at e
      have hn : ∀ j, nth zg j = 0 := fun j => by
        unfold nth
        by_cases hj : j < zg.length
        · have := e _ (List.getElem_mem hj)
          rw [decide_eq_true_eq] at this
          simp [hj, this]
        · simp [List.getD, List.getElem?_eq_none (by omega : zg.length ≤ j)]
      have : ∀ i, dotP zg zb i = 0 := fun i => by
        induction i with
        | zero => rfl
        | succ j ih => unfold dotP; rw [ih, hn]; grind
      exact this k
    have hm := fun (vl vg : Value) (W : World) (hW : Glob W) (hl : RdB W vl []) (hgo : RdT W vg (rx zg)) => pmost0 k zg vl vg W hW hl hgo hk1 hk8 hgl (fun x hx => (hgq x hx).bq)
    cases hbz : (zg.all fun x => decide (x = 0)) with
    | true =>
      rw [hbz] at hm
      have hmo : ∀ (vl vg : Value) (W : World), Glob W → RdB W vl [] → RdT W vg (rx zg) → Calls Tryz.prog 18 #[.int .i64 (k : Int), vl, vg] W (MoD (R 0) 0 W) := fun vl vg W h1 h2 h3 => (hm vl vg W h1 h2 h3).mono fun e w' ⟨hbb, A, n, c, he⟩ => ⟨_, _, _, _, _, _, he, hbb⟩
      exact ⟨R 0, R 0, 0, 0, Or.inl ⟨rfl, rfl, 0, rfl, by rw [hz0 _ hbz rfl, show (0 : Rat) + 0 = 0 by decide +kernel], by decide +kernel, by exact ⟨by decide +kernel, by decide +kernel⟩⟩, hmo, hmo⟩
    | false =>
      rw [hbz] at hm
      have hmo : ∀ (vl vg : Value) (W : World), Glob W → RdB W vl [] → RdT W vg (rx zg) → Calls Tryz.prog 18 #[.int .i64 (k : Int), vl, vg] W (MoD [] 14 W) := fun vl vg W h1 h2 h3 => (hm vl vg W h1 h2 h3).mono fun e w' ⟨hbb, he⟩ => ⟨_, _, _, _, _, _, he, hbb⟩
      exact ⟨[], [], 14, 14, Or.inr ⟨rfl, Or.inr rfl⟩, hmo, hmo⟩
  · have hpos := List.length_pos_iff.2 h0
    obtain ⟨e1, r1, f1, m1⟩ := pmost_found hr hgl hgq hf hpos
    obtain ⟨e2, r2, f2, m2⟩ := pmost_found hr2 hgl hgq hf2 (by rw [movT_len]; exact hpos)
    refine ⟨dS r1, dS r2, dC r1, dC r2, ?_, fun vl vg W h1 h2 h3 => (m1 vl vg W h1 h2 h3).mono fun e w' h => moD_of h, fun vl vg W h1 h2 h3 => (m2 vl vg W h1 h2 h3).mono fun e w' h => moD_of h⟩
    rcases moves_cases f1 f2 with ⟨v, p, x, p', x', rfl, rfl⟩ | ⟨rfl, rfl⟩ | ⟨rfl, rfl⟩
    · obtain ⟨⟨j, hj, hv⟩, hlen⟩ := found_value hr hgq hf f1
      exact Or.inl ⟨rfl, rfl, v, rfl, rfl, hlen, hv.mono (by omega)⟩
    · exact Or.inr ⟨rfl, Or.inl rfl⟩
    · exact Or.inr ⟨rfl, Or.inr rfl⟩
end W
end Go.Proofs.YtijpgddpejiohaaGreatDoor
end
