/-
  Chapter 5: the reference's weighted sums.
  Chapter 5: the reference's weighted sums, walked.
  Chapter 5: the simplex table in memory.
  Chapter 5, plain: the simplex over tables that are written out anew at each step.
  Chapter 5: slices.Repeat of one text.
  Chapter 5: 'width', and the closure of 'pivot' that takes a multiple of a row away.
-/
import Derived.Test.YtnaikafamjebdaaGreatDoorKJJ
import Derived.Shelf.Bits.Mul64
import Derived.Laws.CopyRow
import Derived.BigRegion
section
namespace Go.Proofs.YtnaikafamjebdaaGreatDoor
open Go Go.RowKit Go.Deep Go.Sort
namespace M
def wrow (l : List BQ) (q : List Rat) : Nat → Nat → Rat
  | 0, _ => 0
  | i + 1, k => wrow l q i k + nth q i * nth (l.getD i ([], 0)).1 k
def wmost (l : List BQ) (q : List Rat) : Nat → Rat
  | 0 => 0
  | i + 1 => wmost l q i + nth q i * (l.getD i ([], 0)).2
def wok (q : List Rat) (i : Nat) : Bool := (q.take i).all fun x => decide (0 ≤ x)
def mapR (f : Nat → Rat) (n : Nat) : List (List UInt8) := (List.range n).map fun k => R (f k)
theorem mapR_len (f : Nat → Rat) (n : Nat) : (mapR f n).length = n := by simp [mapR]
theorem mapR_get (f : Nat → Rat) (n k : Nat) (h : k < n) : (mapR f n)[k]'((mapR_len f n).symm ▸ h) = R (f k) := by simp [mapR]
def mix (f g : Nat → Rat) (k : Nat) : Nat → Rat := fun j => if j < k then g j else f j
theorem mix_zero (f g : Nat → Rat) : mix f g 0 = f := by funext j; simp [mix]
theorem mix_end (f g : Nat → Rat) (n : Nat) : mapR (mix f g n) n = mapR g n := by
  unfold mapR
  apply List.map_congr_left
  intro k hk
  show R (if k < n then g k else f k) = R (g k)
  rw [if_pos (List.mem_range.1 hk)]
theorem mix_set (f g : Nat → Rat) (k n : Nat) : (mapR (mix f g k) n).set k (R (g k)) = mapR (mix f g (k + 1)) n := by
  apply List.ext_getElem
  · rw [List.length_set, mapR_len, mapR_len]
  · intro j h1 h2
    rw [mapR_len] at h2
    rw [List.getElem_set, mapR_get _ _ _ h2]
    by_cases e : k = j
    · subst e
      rw [if_pos rfl, mapR_get _ _ _ h2]
      show R (g k) = R (if k < k + 1 then g k else f k)
      rw [if_pos (by omega)]
    · rw [if_neg e, mapR_get _ _ _ h2]
      unfold mix
      by_cases h3 : j < k
      · rw [if_pos h3, if_pos (by omega)]
      · rw [if_neg h3, if_neg (by omega)]
theorem wrow_bq {l : List BQ} {q : List Rat} {n k : Nat} (hr : RightB n l) (hq : ∀ x ∈ q, Bq 30 x) (hk : k < n) : ∀ i, i ≤ l.length → i ≤ q.length → Bq (39 * i + 1) (wrow l q i k)
  | 0, _, _ => Bq_nil
  | i + 1, h1, h2 => by
    have ih := wrow_bq hr hq hk i (by omega) (by omega)
    have hb := hr _ (List.getElem_mem (show i < l.length by omega))
    rw [wrow, nth_get q i (by omega), show l.getD i ([], 0) = l[i] by simp [show i < l.length by omega], nth_get _ k (by omega)]
    exact (ih.add ((hq _ (List.getElem_mem (show i < q.length by omega))).mul (hb.2.1 _ (List.getElem_mem _)))).mono (by omega)
theorem wmost_bq {l : List BQ} {q : List Rat} {n : Nat} (hr : RightB n l) (hq : ∀ x ∈ q, Bq 30 x) : ∀ i, i ≤ l.length → i ≤ q.length → Bq (39 * i + 1) (wmost l q i)
  | 0, _, _ => Bq_nil
  | i + 1, h1, h2 => by
    have ih := wmost_bq hr hq i (by omega) (by omega)
    have hb := hr _ (List.getElem_mem (show i < l.length by omega))
    rw [wmost, nth_get q i (by omega), show l.getD i ([], 0) = l[i] by simp [show i < l.length by omega]]
    exact (ih.add ((hq _ (List.getElem_mem (show i < q.length by omega))).mul hb.2.2)).mono (by omega)
theorem wok_succ (q : List Rat) (i : Nat) (h : i < q.length) : wok q (i + 1) = (wok q i && decide (0 ≤ q[i])) := by
  unfold wok
  rw [List.take_succ_eq_append_getElem h, List.all_append]; simp
end M
theorem OwnS.stored {w : World} {B g cap : Nat} {l : List (List UInt8)} (h : OwnS w B (.slice (some ⟨g, 0, none⟩) l.length cap) l) (k : Nat) (q : List UInt8) :
    OwnS (w.setCell ⟨g, k, none⟩ (.string (bs q))) B (.slice (some ⟨g, 0, none⟩) (l.set k q).length cap) (l.set k q) := by
  have h2 := World.ownsRow.stored h k (.string (bs q))
  unfold OwnS
  rw [List.length_set]
  have e : Strs (l.set k q) = (Strs l).set k (.string (bs q)) := by simp [Strs, List.map_set]
  rw [e]
  exact h2.1
structure WSt (w W : World) (g cap n : Nat) (f : Nat → Rat) : Prop where
  own : OwnS W w.heap.size (.slice (some ⟨g, 0, none⟩) (M.mapR f n).length cap) (M.mapR f n)
  bel : Below w.heap.size w W
  low : w.heap.size ≤ g
theorem WSt.to {w W W2 : World} {g cap n : Nat} {f : Nat → Rat} (h : WSt w W g cap n f) (hb : Below W.heap.size W W2) : WSt w W2 g cap n f :=
  ⟨h.own.below hb, h.bel.trans (hb.mono h.bel.size), h.low⟩
theorem WSt.cell {w W : World} {g cap n : Nat} {f : Nat → Rat} (h : WSt w W g cap n f) (k : Nat) (hk : k < n) : W.cell? ⟨g, k, none⟩ = some (.string (bs (M.R (f k)))) := by
  have h2 := World.ownsRow.cellAt h.own k (by rw [M.mapR_len]; omega)
  rw [h2]
  simp [Strs, M.mapR, hk]
theorem WSt.free {w W : World} {g cap n : Nat} {f : Nat → Rat} (h : WSt w W g cap n f) (k : Nat) : W.frozen? ⟨g, k, none⟩ = false := World.ownsRow.frozenAt h.own k
theorem WSt.put {w W : World} {g cap n : Nat} {f e : Nat → Rat} {k : Nat} (h : WSt w W g cap n (M.mix f e k)) : WSt w (W.setCell ⟨g, k, none⟩ (.string (bs (M.R (e k))))) g cap n (M.mix f e (k + 1)) := by
  have h2 := h.own.stored k (M.R (e k))
  rw [M.mix_set f e k n] at h2
  exact ⟨h2, h.bel.setCell (p := ⟨g, k, none⟩) h.low _, h.low⟩
theorem WSt.fin {w W : World} {g cap n : Nat} {f e : Nat → Rat} (h : WSt w W g cap n (M.mix f e n)) : WSt w W g cap n e := by
  obtain ⟨h1, h2, h3⟩ := h
  rw [M.mix_end] at h1
  exact ⟨h1, h2, h3⟩
end Go.Proofs.YtnaikafamjebdaaGreatDoor
end
section
namespace Go.Proofs.YtnaikafamjebdaaGreatDoor
open Go Go.RowKit Go.Deep Go.Sort
def WgtP (l : List M.BQ) (q : List Rat) (n : Nat) (w : World) (e : Ending) (w' : World) : Prop :=
  ∃ g cap, e = .returned (.tuple #[.slice (some ⟨g, 0, none⟩) n cap, .string (bs (M.R (M.wmost l q l.length))), .bool (M.wok q l.length)]) ∧ WSt w w' g cap n (M.wrow l q l.length)
namespace W
open M
attribute [local go_sem] bs_size bs_toList bs_get bs_extract bs_append bs_lit0 bs_lit1 lit1_bs
set_option maxHeartbeats 2000000
set_option maxRecDepth 20000
theorem rweighted (vl vq : Value) (l : List BQ) (q : List Rat) (n : Nat) (w : World) (hl : RdB w vl (bx l)) (hq : RdT w vq (rx q)) (hn1 : 1 ≤ n) (hn : n ≤ 8) (hr : RightB n l) (hlq : q.length = l.length) (h5 : ∀ x ∈ q, Bq 30 x) (hll : l.length ≤ 20) :
    Calls Tryz.prog 74 #[.int .i64 (n : Int), vl, vq] w (WgtP l q n w) := by
  obtain ⟨A, ca, rfl⟩ := hl.len
  obtain ⟨B, cb, rfl⟩ := hq.len
  have HL := Lib.hid hl
  have HQ := Lib.hid hq
  have HBW := Lib.hid (fun i (hi : i < l.length) k (hk : k < n) => wrow_bq hr h5 hk i (by omega) (by omega))
  have HBM := Lib.hid (fun i (hi : i < l.length) => wmost_bq hr h5 i (by omega) (by omega))
  have HRB := Lib.hid hr
  have HQB := Lib.hid (fun i (hi : i < q.length) => h5 _ (List.getElem_mem hi))
  rw [bx_len l] at HL ⊢
  rw [rx_len q, hlq] at HQ ⊢
  clear hl hq hr h5
  go_enter Tryz.func74, Tryz.ntmps74
  go_wp2
  go_loopw [9, 10] (fun ov iv wr => ∃ (i : Nat) (vo : Value), iv = .int .i64 (i : Int) ∧ ov = vo ∧ i ≤ n ∧ Hid (OwnS wr w.heap.size vo (mapR (fun _ => 0) i) ∧ Below w.heap.size w wr)) (fun _ iv _ => n - (intOf iv).toNat)
  case atStart => exact ⟨0, _, rfl, rfl, by omega, Lib.hid ⟨World.ownsRow_nil _ _ _ _, Below.refl _ _⟩⟩
  case round =>
    obtain ⟨i, vo, rfl, hvo, hi, hin⟩ := hrel
    have hvo := hvo.symm
    subst hvo
    by_cases hlt : i < n
    · have his : (i : Int) < (n : Int) := by omega
      go_wp2_with (at_builtin; refine wpList_app_s (q := [48]) rfl _ _ rfl rfl rfl rfl hin.out.1 hin.out.2.size (by rw [mapR_len]; omega) ?_; intro v2 w2 ho2 hk2)
      have HFI : Hid (OwnS w2 w.heap.size v2 (mapR (fun _ => 0) (i + 1)) ∧ Below w.heap.size w w2) := Lib.hid ⟨by
        have e : mapR (fun _ => 0) (i + 1) = mapR (fun _ => 0) i ++ [[48]] := by
          unfold mapR
          rw [List.range_succ, List.map_append, List.map_cons, List.map_nil, R_nil]
        rw [e]; exact ho2, hk2 _ _ (Nat.le_refl _) hin.out.2⟩
      clear ho2 hk2 hin
      go_wp2
      go_roundw
      case rel => exact ⟨i + 1, _, by go_num, rfl, hlt, HFI⟩
      case measure => simp [intOf]; omega
    · obtain rfl : n = i := by omega
      obtain ⟨g, cap, e0, hB, _, _⟩ := OwnS.form hin.out.1 (by intro e; have := congrArg List.length e; rw [mapR_len] at this; simp at this; omega)
      subst e0
      have hst : WSt w wr g cap n (wrow l q 0) := ⟨hin.out.1, hin.out.2, hB⟩
      have HST := Lib.hid hst
      rw [mapR_len]
      clear hin hst
      have his : decide ((n : Int) < (n : Int)) = false := decide_eq_false (by omega)
      go_wp2_with fail
      go_loopw [11, 12, 13] (fun mv kv iv wr => ∃ j : Nat, iv = .int .i64 (j : Int) ∧ j ≤ l.length ∧ mv = .string (bs (R (wmost l q j))) ∧ kv = .bool (wok q j) ∧ Hid (WSt w wr g cap n (wrow l q j))) (fun _ _ iv _ => l.length - (intOf iv).toNat)
      case atStart => exact ⟨0, rfl, by omega, by rw [show wmost l q 0 = 0 from rfl, R_nil]; rfl, rfl, HST⟩
      case round =>
        clear HST
        obtain ⟨j, rfl, hj, rfl, rfl, hst⟩ := hrel
        by_cases hlj : j < l.length
        · have hl2 := HL.out
          rw [← bx_len l] at hl2
          obtain ⟨b1, o1, rfl, hw⟩ := hl2.row j (by rw [bx_len]; exact hlj)
          have hq2 := HQ.out
          rw [← hlq, ← rx_len q] at hq2
          obtain ⟨b2, o2, rfl, hwq⟩ := hq2.row j (by rw [rx_len]; omega)
          have hjq : j < q.length := by omega
          have HWL := Lib.hid (fun W (hW : Below w.heap.size w W) => bound_at (hw.below' hW) j hlj)
          have HWQ := Lib.hid (fun W (hW : Below w.heap.size w W) => (by
            have h := (hwq.below' hW).val j (by rw [rx_len]; omega)
            rw [rx_get q j (by omega)] at h
            exact h : W.cell? ⟨b2, o2 + j, none⟩ = some (.string (bs (R (q[j]'hjq))))))
          have hrj := HRB.out _ (List.getElem_mem hlj)
          have hqj := HQB.out j (by omega)
          have HOR : Hid (∀ W, Calls Tryz.prog 67 #[.string (bs (R (q[j]'hjq))), .string (bs [48])] W (Ret W (.int .i64 (cmpQ (q[j]'hjq) 0)))) := Lib.hid (fun W => by
            have h := order_R (q[j]'hjq) 0 W (hqj.sh (by decide) (by decide)) (Bq_nil.sh (by decide) (by decide))
            rw [R_nil] at h
            exact h)
          have hge : decide (0 ≤ cmpQ (q[j]'hjq) 0) = decide (0 ≤ q[j]'hjq) := by simp only [cmpQ_ge]
          have HKS := Lib.hid (wok_succ q j (by omega))
          have hmo : wmost l q (j + 1) = wmost l q j + (q[j]'hjq) * l[j].2 := by
            rw [wmost, nth_get q j (by omega), show l.getD j ([], 0) = l[j] by simp [hlj]]
          have hxk : ∀ k, k < n → Bq 8 (nth l[j].1 k) := fun k hk => by
            rw [nth_get _ k (by rw [hrj.1]; exact hk)]; exact hrj.2.1 _ (List.getElem_mem _)
          have HWR := Lib.hid (fun k => (by
            rw [wrow, nth_get q j (by omega), show l.getD j ([], 0) = l[j] by simp [hlj]] : wrow l q (j + 1) k = wrow l q j k + (q[j]'hjq) * nth l[j].1 k))
          have HT1 := Lib.hid (fun k (hk : k < n) W => timesR (q[j]'hjq) (nth l[j].1 k) W (hqj.sh (by decide) (by decide)) ((hxk k hk).sh (by decide) (by decide)))
          have HP1 := Lib.hid (fun k (hk : k < n) W => plus_R (wrow l q j k) ((q[j]'hjq) * nth l[j].1 k) W ((HBW.out j hlj k hk).sh (by omega) (by omega)) ((hqj.mul (hxk k hk)).sh (by decide) (by decide)))
          have HXG := Lib.hid (fun k (hk : k < n) => (show (rx l[j].1)[k]'(by rw [rx_len, hrj.1]; exact hk) = R (nth l[j].1 k) by rw [rx_get _ k (by rw [hrj.1]; exact hk), nth_get _ k (by rw [hrj.1]; exact hk)]))
          have HT2 := Lib.hid (fun W => timesR (q[j]'hjq) l[j].2 W (hqj.sh (by decide) (by decide)) (hrj.2.2.sh (by decide) (by decide)))
          have HP2 := Lib.hid (fun W => plus_R (wmost l q j) ((q[j]'hjq) * l[j].2) W ((HBM.out j hlj).sh (by omega) (by omega)) ((hqj.mul hrj.2.2).sh (by decide) (by decide)))
          rw [← hmo] at HP2
          have hrl := hrj.1
          have hj0 : (0 : Int) ≤ (j : Int) := by omega
          have hjs : (j : Int) < (l.length : Int) := by omega
          clear hl2 hq2 hw hwq hqj hmo hxk
          generalize (q[j]'hjq) = qj at *
          generalize l[j] = bj at *
          have cq := HWQ.out wr hst.out.bel
          have HST := hst
          clear hst
          obtain ⟨u0, cu0, hu0, _, cm0⟩ := HWL.out w (Below.refl _ _)
          obtain ⟨Au, cpu, hue⟩ := hu0.len
          have hrx : (rx bj.1).length = n := by rw [rx_len]; exact hrl
          rw [hrx] at hue
          subst hue
          have HUU := Lib.hid (fun W (hW : Below w.heap.size w W) => hu0.below hW)
          have HS0 : Hid (WSt w wr g cap n (mix (wrow l q j) (wrow l q (j + 1)) 0)) := by rw [mix_zero]; exact HST
          have HGG := Lib.hid (And.intro hB HST.out.own)
          clear hu0 hrx HST HWL
          generalize wrow l q j = f0 at *
          generalize hf1 : wrow l q (j + 1) = f1 at *
          generalize hms : R (wmost l q (j + 1)) = sms at *
          have HF1 := Lib.hid hf1
          have HMS := Lib.hid hms
          clear hf1 hms
          cases hok : wok q j with
          | false =>
            rw [hok, Bool.false_and] at HKS
            have HBX := Lib.hid (Below.refl wr.heap.size wr)
            obtain ⟨W1, hW1⟩ : ∃ z, z = wr := ⟨wr, rfl⟩
            subst hW1
            have HS1 := Lib.hid (HS0.out.to HBX.out)
            clear HBX
            go_wp2_with fail
            go_loopw [14] (fun kv wr2 => ∃ k : Nat, kv = .int .i64 (k : Int) ∧ k ≤ n ∧ Hid (WSt w wr2 g cap n (mix f0 f1 k))) (fun kv _ => n - (intOf kv).toNat)
            case atStart => exact ⟨0, rfl, by omega, HS1⟩
            case round =>
              clear HS1 HS0
              obtain ⟨k, rfl, hk, hin⟩ := hrel
              by_cases hkn : k < n
              · have hbz := hin.out.bel
                have c0 := hin.out.cell k hkn
                rw [show mix f0 f1 k k = f0 k by unfold mix; rw [if_neg (by omega)]] at c0
                have c1 := HWQ.out wr hin.out.bel
                have c2 := (hbz.cell (p := ⟨b1, o1 + j * 2, none⟩) (block_lt_of_cell cu0)).trans cu0
                have hur := HUU.out wr hbz
                obtain ⟨b3, o3, rfl, hts⟩ := RdT.row (n := n) hur k (by rw [rx_len, hrl]; exact hkn)
                have c3 := hts.val k (by rw [rx_len, hrl]; exact hkn)
                rw [HXG.out k hkn] at c3
                have k1 := reg_of (w := wr) (fun W _ => HT1.out k hkn W)
                have k2 := reg_of (w := wr) (fun W _ => HP1.out k hkn W)
                rw [← HWR.out k] at k2
                have m0 := cell_regrown c0
                have m1 := cell_regrown c1
                have m2 := cell_regrown c2
                have m3 := cell_regrown c3
                have e1 : ∀ args w, (callFunc 113 args).run Tryz.prog w = .ok (.enter 113 args) w := enters_of Tryz.func113 (by kernel_rfl) rfl
                have e2 : ∀ args w, (callFunc 70 args).run Tryz.prog w = .ok (.enter 70 args) w := enters_of Tryz.func70 (by kernel_rfl) rfl
                have hk0 : (0 : Int) ≤ (k : Int) := by omega
                have hks : (k : Int) < (n : Int) := by omega
                clear hbz hur hts c0 c1 c2 c3
                go_wp2_with fail
                refine region_below_tail 21 (by kernel_rfl) (by kernel_rfl) ?_
                simp only [List.take_succ_cons, List.take_zero, List.drop_succ_cons, List.drop_zero]
                repeat (go_big_quiet_step (fail))
                go_big_quiet_step (exact k1 _ _)
                repeat (go_big_quiet_step (fail))
                go_big_quiet_step (exact k2 _ _)
                repeat (go_big_quiet_step (fail))
                refine wpQuiet_nil ?_
                intro W6 hw'
                have hb6 : Below wr.heap.size wr W6 := by obtain ⟨p, e⟩ := hw'; rw [e]; exact below_regrown wr p.d p.os
                have HT6 := Lib.hid (hin.out.to hb6)
                clear k1 k2 m0 m1 m2 m3 e1 e2 hw' hb6
                have fz := HT6.out.free k
                have fc := HT6.out.cell k hkn
                go_wp2
                go_roundw
                case rel => exact ⟨k + 1, by go_num, hkn, Lib.hid (HT6.out.put)⟩
                case measure => simp [intOf]; omega
              · obtain rfl : n = k := by omega
                have hbz := hin.out.bel
                have HSN := Lib.hid (hin.out.fin)
                have c1 := HWQ.out wr hin.out.bel
                have c2 := (hbz.cell (p := ⟨b1, o1 + j * 2 + 1, none⟩) (block_lt_of_cell cm0)).trans cm0
                have k1 := reg_of (w := wr) (fun W _ => HT2.out W)
                have k2 := reg_of (w := wr) (fun W _ => HP2.out W)
                have m1 := cell_regrown c1
                have m2 := cell_regrown c2
                have e1 : ∀ args w, (callFunc 113 args).run Tryz.prog w = .ok (.enter 113 args) w := enters_of Tryz.func113 (by kernel_rfl) rfl
                have e2 : ∀ args w, (callFunc 70 args).run Tryz.prog w = .ok (.enter 70 args) w := enters_of Tryz.func70 (by kernel_rfl) rfl
                clear hbz c1 c2 hin
                go_wp2_with fail
                refine wp_region_quiet_below (by kernel_rfl) (by kernel_rfl) ?_
                repeat (go_big_quiet_step (fail))
                go_big_quiet_step (exact k1 _ _)
                repeat (go_big_quiet_step (fail))
                go_big_quiet_step (exact k2 _ _)
                repeat (go_big_quiet_step (fail))
                refine wpQuiet_nil ?_
                intro W6 hw'
                have hb6 : Below wr.heap.size wr W6 := by obtain ⟨p, e⟩ := hw'; rw [e]; exact below_regrown wr p.d p.os
                have HFN := Lib.hid (HSN.out.to hb6)
                clear k1 k2 m1 m2 e1 e2 hw' hb6
                go_wp2
                go_roundw
                case rel => exact ⟨j + 1, by go_num, hlj, by rw [HMS.out], by rw [HKS.out], by rw [HF1.out]; exact HFN⟩
                case measure => simp [intOf]; omega
          | true =>
            rw [hok, Bool.true_and, ← hge] at HKS
            clear hge
            generalize hcc : cmpQ qj 0 = cc at *
            clear hcc
            go_wp2_with fail
            refine (HOR.out _).mono ?_
            rintro e w1 ⟨rfl, hb1⟩
            have HBX := Lib.hid hb1
            clear hb1
            obtain ⟨W1, hW1⟩ : ∃ z, z = w1 := ⟨w1, rfl⟩
            subst hW1
            have HS1 := Lib.hid (HS0.out.to HBX.out)
            clear HBX
            go_wp2_with fail
            go_loopw [14] (fun kv wr2 => ∃ k : Nat, kv = .int .i64 (k : Int) ∧ k ≤ n ∧ Hid (WSt w wr2 g cap n (mix f0 f1 k))) (fun kv _ => n - (intOf kv).toNat)
            case atStart => exact ⟨0, rfl, by omega, HS1⟩
            case round =>
              clear HS1 HS0
              obtain ⟨k, rfl, hk, hin⟩ := hrel
              by_cases hkn : k < n
              · have hbz := hin.out.bel
                have c0 := hin.out.cell k hkn
                rw [show mix f0 f1 k k = f0 k by unfold mix; rw [if_neg (by omega)]] at c0
                have c1 := HWQ.out wr hin.out.bel
                have c2 := (hbz.cell (p := ⟨b1, o1 + j * 2, none⟩) (block_lt_of_cell cu0)).trans cu0
                have hur := HUU.out wr hbz
                obtain ⟨b3, o3, rfl, hts⟩ := RdT.row (n := n) hur k (by rw [rx_len, hrl]; exact hkn)
                have c3 := hts.val k (by rw [rx_len, hrl]; exact hkn)
                rw [HXG.out k hkn] at c3
                have k1 := reg_of (w := wr) (fun W _ => HT1.out k hkn W)
                have k2 := reg_of (w := wr) (fun W _ => HP1.out k hkn W)
                rw [← HWR.out k] at k2
                have m0 := cell_regrown c0
                have m1 := cell_regrown c1
                have m2 := cell_regrown c2
                have m3 := cell_regrown c3
                have e1 : ∀ args w, (callFunc 113 args).run Tryz.prog w = .ok (.enter 113 args) w := enters_of Tryz.func113 (by kernel_rfl) rfl
                have e2 : ∀ args w, (callFunc 70 args).run Tryz.prog w = .ok (.enter 70 args) w := enters_of Tryz.func70 (by kernel_rfl) rfl
                have hk0 : (0 : Int) ≤ (k : Int) := by omega
                have hks : (k : Int) < (n : Int) := by omega
                clear hbz hur hts c0 c1 c2 c3
                go_wp2_with fail
                refine region_below_tail 21 (by kernel_rfl) (by kernel_rfl) ?_
                simp only [List.take_succ_cons, List.take_zero, List.drop_succ_cons, List.drop_zero]
                repeat (go_big_quiet_step (fail))
                go_big_quiet_step (exact k1 _ _)
                repeat (go_big_quiet_step (fail))
                go_big_quiet_step (exact k2 _ _)
                repeat (go_big_quiet_step (fail))
                refine wpQuiet_nil ?_
                intro W6 hw'
                have hb6 : Below wr.heap.size wr W6 := by obtain ⟨p, e⟩ := hw'; rw [e]; exact below_regrown wr p.d p.os
                have HT6 := Lib.hid (hin.out.to hb6)
                clear k1 k2 m0 m1 m2 m3 e1 e2 hw' hb6
                have fz := HT6.out.free k
                have fc := HT6.out.cell k hkn
                go_wp2
                go_roundw
                case rel => exact ⟨k + 1, by go_num, hkn, Lib.hid (HT6.out.put)⟩
                case measure => simp [intOf]; omega
              · obtain rfl : n = k := by omega
                have hbz := hin.out.bel
                have HSN := Lib.hid (hin.out.fin)
                have c1 := HWQ.out wr hin.out.bel
                have c2 := (hbz.cell (p := ⟨b1, o1 + j * 2 + 1, none⟩) (block_lt_of_cell cm0)).trans cm0
                have k1 := reg_of (w := wr) (fun W _ => HT2.out W)
                have k2 := reg_of (w := wr) (fun W _ => HP2.out W)
                have m1 := cell_regrown c1
                have m2 := cell_regrown c2
                have e1 : ∀ args w, (callFunc 113 args).run Tryz.prog w = .ok (.enter 113 args) w := enters_of Tryz.func113 (by kernel_rfl) rfl
                have e2 : ∀ args w, (callFunc 70 args).run Tryz.prog w = .ok (.enter 70 args) w := enters_of Tryz.func70 (by kernel_rfl) rfl
                clear hbz c1 c2 hin
                go_wp2_with fail
                refine wp_region_quiet_below (by kernel_rfl) (by kernel_rfl) ?_
                repeat (go_big_quiet_step (fail))
                go_big_quiet_step (exact k1 _ _)
                repeat (go_big_quiet_step (fail))
                go_big_quiet_step (exact k2 _ _)
                repeat (go_big_quiet_step (fail))
                refine wpQuiet_nil ?_
                intro W6 hw'
                have hb6 : Below wr.heap.size wr W6 := by obtain ⟨p, e⟩ := hw'; rw [e]; exact below_regrown wr p.d p.os
                have HFN := Lib.hid (HSN.out.to hb6)
                clear k1 k2 m1 m2 e1 e2 hw' hb6
                go_wp2
                go_roundw
                case rel => exact ⟨j + 1, by go_num, hlj, by rw [HMS.out], by rw [HKS.out], by rw [HF1.out]; exact HFN⟩
                case measure => simp [intOf]; omega
        · obtain rfl : l.length = j := by omega
          have HST := hst
          clear hst
          go_wp2
          go_ret3
          exact ⟨g, cap, rfl, HST.out⟩
end W
end Go.Proofs.YtnaikafamjebdaaGreatDoor
end
section
namespace Go.Proofs.YtnaikafamjebdaaGreatDoor
open Go Go.RowKit Go.Deep Go.Sort
def Pre (w : World) (b : Nat) (t : TypeId) (xs : List Value) : Prop := ∃ sp, Row w b t (xs ++ sp)
theorem Pre.of {w : World} {b : Nat} {t : TypeId} {xs : List Value} (h : Row w b t xs) : Pre w b t xs := ⟨[], by rw [List.append_nil]; exact h⟩
theorem Pre.lt {w : World} {b : Nat} {t : TypeId} {xs : List Value} (h : Pre w b t xs) : b < w.heap.size := by
  obtain ⟨sp, h⟩ := h; exact h.lt
theorem Pre.cell {w : World} {b : Nat} {t : TypeId} {xs : List Value} (h : Pre w b t xs) {i : Nat} {v : Value} (hi : xs[i]? = some v) : w.cell? ⟨b, i, none⟩ = some v := by
  obtain ⟨sp, h⟩ := h
  refine h.cell ?_
  have := (List.getElem?_eq_some_iff.1 hi).1
  rw [List.getElem?_append_left this]; exact hi
theorem Pre.free {w : World} {b : Nat} {t : TypeId} {xs : List Value} (h : Pre w b t xs) (i : Nat) : w.frozen? ⟨b, i, none⟩ = false := by
  obtain ⟨sp, h⟩ := h; exact h.free i
theorem Pre.set {w : World} {b : Nat} {t : TypeId} {xs : List Value} (h : Pre w b t xs) {i : Nat} (hi : i < xs.length) (v : Value) : Pre (w.setCell ⟨b, i, none⟩ v) b t (xs.set i v) := by
  obtain ⟨sp, h⟩ := h
  refine ⟨sp, ?_⟩
  have := h.set i v
  rwa [List.set_append_left _ _ hi] at this
theorem Pre.other {w : World} {b : Nat} {t : TypeId} {xs : List Value} (h : Pre w b t xs) {a : Addr} (ha : b ≠ a.block) (v : Value) : Pre (w.setCell a v) b t xs := by
  obtain ⟨sp, h⟩ := h; exact ⟨sp, h.other ha v⟩
theorem Pre.alloc {w : World} {b : Nat} {t : TypeId} {xs : List Value} (h : Pre w b t xs) (o : Obj) : Pre (w.alloc o) b t xs := by
  obtain ⟨sp, h⟩ := h; exact ⟨sp, h.alloc o⟩
theorem Pre.below' {w w' : World} {b : Nat} {t : TypeId} {xs : List Value} (h : Pre w b t xs) (hb : Below w.heap.size w w') : Pre w' b t xs := by
  obtain ⟨sp, h⟩ := h; exact ⟨sp, h.below' hb⟩
theorem pre_own {w : World} {B : Nat} {e : TypeId} {v : Value} {n : Nat} {xs : List Value} (h : w.ownsRow B e 1 v n xs) (h0 : 0 < n) : ∃ g cap, v = .slice (some ⟨g, 0, none⟩) n cap ∧ B ≤ g ∧ Pre w g e xs := by
  obtain ⟨h1, h2⟩ := h
  rcases h2 with ⟨_, h3⟩ | ⟨g, cap, cur, rfl, hg, hh, _, _, _, hx⟩
  · omega
  · refine ⟨g, cap, rfl, hg, cur.toList.drop (n * 1), ?_⟩
    rw [← hx, List.take_append_drop]
    unfold Row
    rw [Array.toArray_toList]; exact hh
namespace M
def upd {α : Type} (f : Nat → α) (k : Nat) (v : α) : Nat → α := fun j => if j = k then v else f j
theorem upd_same {α : Type} (f : Nat → α) (k : Nat) (v : α) : upd f k v k = v := by unfold upd; rw [if_pos rfl]
theorem upd_other {α : Type} (f : Nat → α) {k j : Nat} (h : j ≠ k) (v : α) : upd f k v j = f j := by unfold upd; rw [if_neg h]
theorem mapR_upd (f : Nat → Rat) (k n : Nat) (q : Rat) : mapR (upd f k q) n = (mapR f n).set k (R q) := by
  apply List.ext_getElem
  · rw [List.length_set, mapR_len, mapR_len]
  · intro j h1 h2
    rw [mapR_len] at h1
    rw [mapR_get _ _ _ h1, List.getElem_set]
    by_cases e : k = j
    · subst e; rw [if_pos rfl, upd_same]
    · rw [if_neg e, mapR_get _ _ _ h1, upd_other _ (fun h => e h.symm)]
theorem mapR_congr {f g : Nat → Rat} {n : Nat} (h : ∀ k, k < n → f k = g k) : mapR f n = mapR g n := by
  unfold mapR
  apply List.map_congr_left
  intro k hk
  rw [h k (List.mem_range.1 hk)]
def intsV (b : Nat → Nat) (m : Nat) : List Value := (List.range m).map fun i => .int .i64 (b i : Int)
theorem intsV_upd (b : Nat → Nat) (k m c : Nat) : intsV (upd b k c) m = (intsV b m).set k (.int .i64 (c : Int)) := by
  unfold intsV
  apply List.ext_getElem
  · simp
  · intro j h1 h2
    have h3 : j < m := by simpa using h1
    rw [List.getElem_set]
    by_cases e : k = j
    · subst e; rw [if_pos rfl]; simp [upd_same]
    · rw [if_neg e]; simp [upd_other _ (show j ≠ k from fun h => e h.symm)]
theorem intsV_congr {f g : Nat → Nat} {n : Nat} (h : ∀ k, k < n → f k = g k) : intsV f n = intsV g n := by
  unfold intsV
  apply List.map_congr_left
  intro k hk
  rw [h k (List.mem_range.1 hk)]
def rowsV (h : Nat → Nat) (m L : Nat) : List Value := (List.range m).map fun i => .slice (some ⟨h i, 0, none⟩) L L
def wdt (n m : Nat) : Nat := 2 * n + m + 1
end M
open M
structure TabS (w : World) (B p S gr gb cr cb : Nat) (h : Nat → Nat) (n m : Nat) (A : Nat → Nat → Rat) (b : Nat → Nat) : Prop where
  tab : Pre w p 121 [.pointer (some ⟨S, 0, none⟩), .int .i64 (n : Int), .int .i64 (m : Int), .slice (some ⟨gr, 0, none⟩) m cr, .slice (some ⟨gb, 0, none⟩) m cb, .slice (some ⟨h m, 0, none⟩) (wdt n m + 1) (wdt n m + 1)]
  err : NoErP w S
  rows : Pre w gr 28 (rowsV h m (wdt n m + 1))
  bas : Pre w gb 3 (intsV b m)
  mat : ∀ j, j ≤ m → Pre w (h j) 26 (Strs (mapR (A j) (wdt n m + 1)))
  blt : ∀ i, i < m → b i < wdt n m
  lowp : B ≤ p
  lowS : B ≤ S
  lowr : B ≤ gr
  lowb : B ≤ gb
  lowh : ∀ j, j ≤ m → B ≤ h j
  inj : ∀ i j, i ≤ m → j ≤ m → h i = h j → i = j
  hne : ∀ j, j ≤ m → h j ≠ p ∧ h j ≠ S ∧ h j ≠ gr ∧ h j ≠ gb
  pne : p ≠ S ∧ p ≠ gr ∧ p ≠ gb ∧ S ≠ gr ∧ S ≠ gb ∧ gr ≠ gb
  gl : Glob w
  hB : 8 ≤ B
  hn : n ≤ 100
  hm : m ≤ 1000
section
variable {w w' : World} {B p S gr gb cr cb : Nat} {h : Nat → Nat} {n m : Nat} {A : Nat → Nat → Rat} {b : Nat → Nat}
theorem TabS.below' (t : TabS w B p S gr gb cr cb h n m A b) (hb : Below w.heap.size w w') : TabS w' B p S gr gb cr cb h n m A b :=
  { t with gl := t.gl.of hb, tab := t.tab.below' hb, err := t.err.below' hb, rows := t.rows.below' hb, bas := t.bas.below' hb, mat := fun j hj => (t.mat j hj).below' hb }
theorem TabS.congr (t : TabS w B p S gr gb cr cb h n m A b) {A2 : Nat → Nat → Rat} {b2 : Nat → Nat} (h1 : ∀ j, j ≤ m → ∀ k, k ≤ wdt n m → A j k = A2 j k) (h2 : ∀ i, i < m → b i = b2 i) : TabS w B p S gr gb cr cb h n m A2 b2 :=
  { t with bas := by rw [← intsV_congr h2]; exact t.bas, mat := fun j hj => by rw [← mapR_congr (fun k hk => h1 j hj k (by omega))]; exact t.mat j hj, blt := fun i hi => by rw [← h2 i hi]; exact t.blt i hi }
theorem TabS.c0 (t : TabS w B p S gr gb cr cb h n m A b) : w.cell? ⟨p, 0, none⟩ = some (.pointer (some ⟨S, 0, none⟩)) := t.tab.cell rfl
theorem TabS.c1 (t : TabS w B p S gr gb cr cb h n m A b) : w.cell? ⟨p, 1, none⟩ = some (.int .i64 (n : Int)) := t.tab.cell rfl
theorem TabS.c2 (t : TabS w B p S gr gb cr cb h n m A b) : w.cell? ⟨p, 2, none⟩ = some (.int .i64 (m : Int)) := t.tab.cell rfl
theorem TabS.c3 (t : TabS w B p S gr gb cr cb h n m A b) : w.cell? ⟨p, 3, none⟩ = some (.slice (some ⟨gr, 0, none⟩) m cr) := t.tab.cell rfl
theorem TabS.c4 (t : TabS w B p S gr gb cr cb h n m A b) : w.cell? ⟨p, 4, none⟩ = some (.slice (some ⟨gb, 0, none⟩) m cb) := t.tab.cell rfl
theorem TabS.c5 (t : TabS w B p S gr gb cr cb h n m A b) : w.cell? ⟨p, 5, none⟩ = some (.slice (some ⟨h m, 0, none⟩) (wdt n m + 1) (wdt n m + 1)) := t.tab.cell rfl
theorem TabS.crow (t : TabS w B p S gr gb cr cb h n m A b) {j : Nat} (hj : j < m) : w.cell? ⟨gr, j, none⟩ = some (.slice (some ⟨h j, 0, none⟩) (wdt n m + 1) (wdt n m + 1)) :=
  t.rows.cell (by simp [rowsV, hj])
theorem TabS.cbas (t : TabS w B p S gr gb cr cb h n m A b) {i : Nat} (hi : i < m) : w.cell? ⟨gb, i, none⟩ = some (.int .i64 (b i : Int)) :=
  t.bas.cell (by simp [intsV, hi])
theorem TabS.ce (t : TabS w B p S gr gb cr cb h n m A b) {j k : Nat} (hj : j ≤ m) (hk : k ≤ wdt n m) : w.cell? ⟨h j, k, none⟩ = some (.string (bs (R (A j k)))) :=
  (t.mat j hj).cell (by simp [Strs, mapR, show k < wdt n m + 1 by omega])
theorem TabS.fe (t : TabS w B p S gr gb cr cb h n m A b) {j : Nat} (hj : j ≤ m) (k : Nat) : w.frozen? ⟨h j, k, none⟩ = false := (t.mat j hj).free k
theorem TabS.fb (t : TabS w B p S gr gb cr cb h n m A b) (k : Nat) : w.frozen? ⟨gb, k, none⟩ = false := t.bas.free k
theorem TabS.ft (t : TabS w B p S gr gb cr cb h n m A b) (k : Nat) : w.frozen? ⟨p, k, none⟩ = false := t.tab.free k
theorem TabS.setA (t : TabS w B p S gr gb cr cb h n m A b) {j k : Nat} (hj : j ≤ m) (hk : k ≤ wdt n m) (q : Rat) :
    TabS (w.setCell ⟨h j, k, none⟩ (.string (bs (R q)))) B p S gr gb cr cb h n m (upd A j (upd (A j) k q)) b := by
  obtain ⟨n1, n2, n3, n4⟩ := t.hne j hj
  refine { t with gl := t.gl.below ((Below.refl B w).setCell (p := ⟨h j, k, none⟩) (t.lowh j hj) _) t.hB, tab := t.tab.other (fun e => n1 e.symm) _, err := Row.other t.err (fun e => n2 e.symm) _, rows := t.rows.other (fun e => n3 e.symm) _, bas := t.bas.other (fun e => n4 e.symm) _, mat := fun i hi => ?_ }
  by_cases e : i = j
  · subst e
    rw [upd_same, mapR_upd]
    have h2 := (t.mat i hi).set (i := k) (by simp [Strs, mapR_len]; omega) (.string (bs (R q)))
    have e2 : Strs ((mapR (A i) (wdt n m + 1)).set k (R q)) = (Strs (mapR (A i) (wdt n m + 1))).set k (.string (bs (R q))) := by simp [Strs, List.map_set]
    rw [e2]; exact h2
  · rw [upd_other _ e]
    exact (t.mat i hi).other (fun e2 => e (t.inj i j hi hj e2)) _
theorem TabS.setB (t : TabS w B p S gr gb cr cb h n m A b) {r c : Nat} (hr : r < m) (hc : c < wdt n m) :
    TabS (w.setCell ⟨gb, r, none⟩ (.int .i64 (c : Int))) B p S gr gb cr cb h n m A (upd b r c) := by
  obtain ⟨_, _, n3, _, n5, n6⟩ := t.pne
  refine { t with gl := t.gl.below ((Below.refl B w).setCell (p := ⟨gb, r, none⟩) t.lowb _) t.hB, tab := t.tab.other n3 _, err := Row.other t.err n5 _, rows := t.rows.other n6 _, bas := ?_, mat := fun i hi => (t.mat i hi).other (t.hne i hi).2.2.2 _, blt := fun i hi => ?_ }
  · rw [intsV_upd]; exact t.bas.set (by simp [intsV]; exact hr) _
  · unfold upd; split
    · exact hc
    · exact t.blt i hi
theorem TabS.belowA (t : TabS w B p S gr gb cr cb h n m A b) {w0 : World} (h0 : Below B w0 w) {j : Nat} (hj : j ≤ m) (k : Nat) (v : Value) : Below B w0 (w.setCell ⟨h j, k, none⟩ v) := h0.setCell (p := ⟨h j, k, none⟩) (t.lowh j hj) v
theorem TabS.belowB (t : TabS w B p S gr gb cr cb h n m A b) {w0 : World} (h0 : Below B w0 w) (k : Nat) (v : Value) : Below B w0 (w.setCell ⟨gb, k, none⟩ v) := h0.setCell (p := ⟨gb, k, none⟩) t.lowb v
end
end Go.Proofs.YtnaikafamjebdaaGreatDoor
end
section
namespace Go.Proofs.YtnaikafamjebdaaGreatDoor
open Go Go.RowKit Go.Deep
namespace M
abbrev Mx := Nat → Nat → Rat
def pivA (A : Mx) (r c : Nat) : Mx := fun i k => if i = r then A r k / A r c else A i k - A i c * (A r k / A r c)
structure Tbl where
  rows : List (List Rat)
  bas : List Nat
def Tbl.A (t : Tbl) : Mx := fun j k => nth (t.rows.getD j []) k
def Tbl.b (t : Tbl) : Nat → Nat := fun i => t.bas.getD i 0
def tab (n m : Nat) (A : Mx) (b : Nat → Nat) : Tbl := ⟨(List.range (m + 1)).map fun j => (List.range (wdt n m + 1)).map fun k => A j k, (List.range m).map b⟩
theorem nth_map (f : Nat → Rat) (n k : Nat) (h : k < n) : nth ((List.range n).map f) k = f k := by unfold nth; simp [h]
theorem tab_A {n m : Nat} (A : Mx) (b : Nat → Nat) {j k : Nat} (hj : j ≤ m) (hk : k ≤ wdt n m) : (tab n m A b).A j k = A j k := by
  unfold Tbl.A tab
  simp only
  rw [show ((List.range (m + 1)).map fun j => (List.range (wdt n m + 1)).map fun k => A j k).getD j [] = (List.range (wdt n m + 1)).map fun k => A j k by simp [show j < m + 1 by omega]]
  exact nth_map _ _ _ (by omega)
theorem tab_b {n m : Nat} (A : Mx) (b : Nat → Nat) {i : Nat} (hi : i < m) : (tab n m A b).b i = b i := by
  unfold Tbl.b tab; simp [hi]
def smallQ (ez : Nat) (q : Rat) : Bool := decide (q.num.natAbs < 10 ^ ez) && decide (q.den < 10 ^ ez)
theorem smallQ_bq {ez : Nat} {q : Rat} (h : smallQ ez q = true) : Bq ez q := by
  unfold smallQ at h
  simp only [Bool.and_eq_true, decide_eq_true_eq] at h
  exact h
def smallT (ez n m : Nat) (t : Tbl) : Bool := (List.range (m + 1)).all fun j => (List.range (wdt n m + 1)).all fun k => smallQ ez (t.A j k)
theorem smallT_bq {ez n m : Nat} {t : Tbl} (h : smallT ez n m t = true) {j k : Nat} (hj : j ≤ m) (hk : k ≤ wdt n m) : Bq ez (t.A j k) := by
  unfold smallT at h
  rw [List.all_eq_true] at h
  have h1 := h j (List.mem_range.2 (by omega))
  rw [List.all_eq_true] at h1
  exact smallQ_bq (h1 k (List.mem_range.2 (by omega)))
def smallL (ez : Nat) (l : List Rat) : Bool := l.all (smallQ ez)
theorem smallL_bq {ez : Nat} {l : List Rat} (h : smallL ez l = true) : ∀ q ∈ l, Bq ez q := fun q hq => smallQ_bq (List.all_eq_true.1 h q hq)
def colT (n m : Nat) (A : Mx) (ban : Option Nat) : Option Nat := (List.range (wdt n m)).find? fun c => decide (some c ≠ ban) && decide (0 < A m c)
def lvOne (A : Mx) (b : Nat → Nat) (c wd i : Nat) : Option Nat × Rat → Option Nat × Rat
  | (none, l) => if A i c ≤ 0 then (none, l) else (some i, A i wd / A i c)
  | (some k, l) => if A i c ≤ 0 then (some k, l) else
      if A i wd / A i c < l ∨ (A i wd / A i c = l ∧ b i < b k) then (some i, A i wd / A i c) else (some k, l)
def lvS (A : Mx) (b : Nat → Nat) (c wd : Nat) : Nat → Option Nat × Rat
  | 0 => (none, 0)
  | i + 1 => lvOne A b c wd i (lvS A b c wd i)
def leaveT (n m : Nat) (A : Mx) (b : Nat → Nat) (c : Nat) : Option Nat := (lvS A b c (wdt n m) m).1
def pivT (n m : Nat) (t : Tbl) (r c : Nat) : Tbl := tab n m (pivA t.A r c) (upd t.b r c)
def climbT (ez n m : Nat) (ban : Option Nat) : Nat → Tbl → Option (Bool × Tbl)
  | 0, _ => none
  | f + 1, t => if smallT ez n m t = false then none else
    match colT n m t.A ban with
    | none => some (true, t)
    | some c => match leaveT n m t.A t.b c with
      | none => some (false, t)
      | some r => climbT ez n m ban f (pivT n m t r c)
def wsOne (A : Mx) (wd i : Nat) : Option Nat → Option Nat
  | none => if 0 ≤ A i wd then none else some i
  | some k => if 0 ≤ A i wd then some k else if A k wd ≤ A i wd then some k else some i
def wsS (A : Mx) (wd : Nat) : Nat → Option Nat
  | 0 => none
  | i + 1 => wsOne A wd i (wsS A wd i)
def outT (n m : Nat) (t : Tbl) : Tbl :=
  match (List.range m).find? fun i => decide (t.b i = wdt n m - 1) with
  | none => t
  | some r => match (List.range (wdt n m - 1)).find? fun c => decide (t.A r c ≠ 0) with
    | none => t
    | some c => pivT n m t r c
def readyC (ez n m f : Nat) (t : Tbl) : Option (Bool × Tbl) :=
  if smallT ez n m t = false then none else
  match wsS t.A (wdt n m) m with
  | none => some (true, t)
  | some w =>
    if t.A w (wdt n m - 1) = 0 then none else
    match climbT ez n m none f (tab n m (pivA (upd t.A m (upd (t.A m) (wdt n m - 1) (-1))) w (wdt n m - 1)) (upd t.b w (wdt n m - 1))) with
    | none => none
    | some (_, t1) => if t1.A m (wdt n m) ≠ 0 then some (false, t1) else some (true, outT n m t1)
def readyT (ez n m f : Nat) (t : Tbl) : Option (Bool × Tbl) := match readyC ez n m f t with
  | none => none
  | some s => if smallT ez n m s.2 = true then some s else none
def allS (A : Mx) (b : Nat → Nat) (wd : Nat) : Nat → Nat → Rat
  | 0 => fun _ => 0
  | i + 1 => upd (allS A b wd i) (b i) (A i wd)
def pointF (n m : Nat) (A : Mx) (b : Nat → Nat) (k : Nat) : Rat := allS A b (wdt n m) m k - allS A b (wdt n m) m (n + k)
def weightF (n m : Nat) (A : Mx) (i : Nat) : Rat := - A m (2 * n + i)
def goalF (n : Nat) (goal : List Rat) (k : Nat) : Rat := if k < n then nth goal k else if k < 2 * n then - nth goal (k - n) else 0
def aimT (ez n m : Nat) (A : Mx) (b : Nat → Nat) (goal : List Rat) : Nat → Option (List Rat)
  | 0 => some ((List.range (wdt n m + 1)).map (goalF n goal))
  | i + 1 => match aimT ez n m A b goal i with
    | none => none
    | some g => if smallL ez g = true then some ((List.range (wdt n m + 1)).map fun k => nth g k - nth g (b i) * A i k) else none
def laidA (n : Nat) (l : List BQ) : Mx := fun j k =>
  if j < l.length then
    if k < n then nth (l.getD j ([], 0)).1 k else if k < 2 * n then - nth (l.getD j ([], 0)).1 (k - n)
    else if k = 2 * n + j then 1 else if k = wdt n l.length - 1 then -1 else if k = wdt n l.length then (l.getD j ([], 0)).2 else 0
  else 0
def laidT (n : Nat) (l : List BQ) : Tbl := tab n l.length (laidA n l) fun i => 2 * n + i
def mostT (ez f n : Nat) (l : List BQ) (goal : List Rat) : Option ((Rat × List Rat × List Rat) ⊕ Nat) :=
  match readyT ez n l.length f (laidT n l) with
  | none => none
  | some (false, _) => some (.inr 6)
  | some (true, t) => match aimT ez n l.length t.A t.b goal l.length with
    | none => none
    | some g => match climbT ez n l.length (some (wdt n l.length - 1)) f (tab n l.length (upd t.A l.length (nth g)) t.b) with
      | none => none
      | some (ok, t2) =>
        let p := (List.range n).map (pointF n l.length t2.A t2.b)
        if smallL ez p = true then (if ok = true then some (.inl (dotP goal p n, p, (List.range l.length).map (weightF n l.length t2.A))) else some (.inr 14)) else none
def feasT (ez f n : Nat) (l : List BQ) : Option (List Rat ⊕ List Rat) :=
  match readyT ez n l.length f (laidT n l) with
  | none => none
  | some (true, t) => some (.inl ((List.range n).map (pointF n l.length t.A t.b)))
  | some (false, t) => some (.inr ((List.range l.length).map (weightF n l.length t.A)))
end M
end Go.Proofs.YtnaikafamjebdaaGreatDoor
end
section
namespace Go.Proofs.YtnaikafamjebdaaGreatDoor
open Go Go.RowKit Go.Deep Go.Sort
theorem infoRat : (Tryz.prog.info? 26).map (fun i => (i.zero, i.size, i.bytes)) = some (some (.string ⟨#[]⟩), 1, 16) := by kernel_rfl
theorem sizeRat : (Tryz.prog.info? 26).map (·.size) = some 1 := by kernel_rfl
theorem make_rt (n : Nat) (h : n ≤ 1000000) (w : World) :
    (Instr.makeSlice 28 (.int .i64 (n : Int)) (.int .i64 (n : Int))).run Tryz.prog w = .ok (.slice (some ⟨w.heap.size, 0, none⟩) n n) (w.alloc (.cells (Strs (List.replicate n [])).toArray 26 (0, 0))) := by
  rw [run_make_row' 28 26 (.string ⟨#[]⟩) 16 Tryz.underlying28 infoRat rfl .i64 .i64 n (by omega) (by omega) w]
  have : madeCells #[Value.string ⟨#[]⟩] n = (Strs (List.replicate n [])).toArray := by
    apply Array.toList_inj.1
    rw [toList_madeCells_one]; simp [Strs, bs]
  rw [this]
def Part0 (k n : Nat) : List Value := Strs (List.replicate k [48] ++ List.replicate (n - k) [])
theorem Part0.len {k n : Nat} (h : k ≤ n) : (Part0 k n).length = n := by simp [Part0, Strs]; omega
theorem Part0.get {k n j : Nat} (h : j < k) : (Part0 k n)[j]? = some (.string (bs [48])) := by
  simp only [Part0, Strs, List.getElem?_map]
  rw [List.getElem?_append_left (by simpa using h)]; simp [h]
theorem Part0.put {k c n : Nat} (h : k + c ≤ n) : (Part0 k n).take k ++ List.replicate c (.string (bs [48])) ++ (Part0 k n).drop (k + c) = Part0 (k + c) n := by
  have e1 : (Part0 k n).take k = List.replicate k (.string (bs [48])) := by simp [Part0, Strs]
  have e2 : (Part0 k n).drop (k + c) = List.replicate (n - (k + c)) (.string (bs [])) := by
    simp only [Part0, Strs, List.map_append, List.map_replicate]
    rw [List.drop_append, List.drop_eq_nil_of_le (by simp), List.nil_append, List.drop_replicate, List.length_replicate]
    congr 1; omega
  rw [e1, e2]
  simp only [Part0, Strs, List.map_append, List.map_replicate, List.replicate_append_replicate]
theorem copy_rt {w : World} {g a o k c n sCap : Nat} (h : Row w g 26 (Part0 k n)) (dLen dCap sLen : Nat) (hc : c = Nat.min sLen dLen) (hk : k + c ≤ n) (hs : ∀ j, j < c → w.cell? ⟨a, o + j, none⟩ = some (.string (bs [48]))) :
    ∃ wx, (∀ ty, (Builtin.copy_ #[28, 28] ty #[.slice (some ⟨g, k, none⟩) dLen dCap, .slice (some ⟨a, o, none⟩) sLen sCap]).run Tryz.prog w = .ok (goInt c) wx)
      ∧ Row wx g 26 (Part0 (k + c) n) ∧ (∀ B, B ≤ g → Below B w wx) := by
  refine ⟨w.setRow g (Part0 (k + c) n).toArray, fun ty => ?_, by simpa using h.setRow (Part0 (k + c) n).toArray, fun B hB => Below.setRow (RowKit.Below.refl B w) hB _⟩
  have := run_copy_row (P := Tryz.prog) w 28 28 ty 26 g k dLen dCap ⟨a, o, none⟩ sLen sCap (Part0 k n).toArray 26 (List.replicate c (.string (bs [48]))) Tryz.underlying28 sizeRat h (by rw [List.length_replicate]; exact hc) (by
    intro j v hj
    have hjc : j < c := by
      rcases Nat.lt_or_ge j c with h2 | h2
      · exact h2
      · rw [List.getElem?_eq_none (by rw [List.length_replicate]; exact h2)] at hj; cases hj
    rw [List.getElem?_replicate, if_pos hjc] at hj
    have hadd : (⟨a, o, none⟩ : Addr).add j = ⟨a, o + j, none⟩ := by unfold Addr.add; split <;> simp_all
    rw [hadd, hs j hjc, hj]) (by rw [List.length_replicate]; simp [Part0.len (show k ≤ n by omega)]; exact hk) (fun v hv => by rw [List.eq_of_mem_replicate hv]; rfl)
  rw [this, List.length_replicate]
  simp only [Part0.put hk]
namespace W
open M
attribute [local go_sem] bs_size bs_toList bs_get bs_extract bs_append bs_lit0 bs_lit1 lit1_bs
set_option maxHeartbeats 1000000
set_option maxRecDepth 20000
theorem pmul64 (x y : Nat) (hx : x < 18446744073709551616) (hy : y < 18446744073709551616) (w : World) :
    Calls Tryz.prog 169 #[.int .u64 x, .int .u64 y] w fun e w' => e = .returned (.tuple #[.int .u64 ((x * y / 18446744073709551616 : Nat) : Int), .int .u64 ((x * y % 18446744073709551616 : Nat) : Int)]) ∧ w' = w := by
  obtain ⟨bd, bt, bw, hhi⟩ := Lib.mul64_hi x y hx hy
  have ba := Lib.half_mul_le (a := x / 4294967296) (b := y / 4294967296) (by omega) (by omega)
  have bb := Lib.half_mul_le (a := x / 4294967296) (b := y % 4294967296) (by omega) (by omega)
  have bc := Lib.half_mul_le (a := x % 4294967296) (b := y / 4294967296) (by omega) (by omega)
  have ba' : x / 4294967296 * (y / 4294967296) < 18446744073709551616 := by omega
  have bb' : x / 4294967296 * (y % 4294967296) < 18446744073709551616 := by omega
  have bc' : x % 4294967296 * (y / 4294967296) < 18446744073709551616 := by omega
  have bh1 : x / 4294967296 * (y / 4294967296) + (x / 4294967296 * (y % 4294967296) + x % 4294967296 * (y % 4294967296) / 4294967296) / 4294967296 < 18446744073709551616 := by omega
  have bh : x / 4294967296 * (y / 4294967296) + (x / 4294967296 * (y % 4294967296) + x % 4294967296 * (y % 4294967296) / 4294967296) / 4294967296 + ((x / 4294967296 * (y % 4294967296) + x % 4294967296 * (y % 4294967296) / 4294967296) % 4294967296 + x % 4294967296 * (y / 4294967296)) / 4294967296 < 18446744073709551616 := by omega
  go_enter Tryz.func169, Tryz.ntmps169
  go_wp2
  simp only [Mul64.maskN x hx, Mul64.maskN y hy, Mul64.divN, Mul64.mulN, Mul64.addN, Mul64.wrapN _ bd, Mul64.wrapN _ bb', Mul64.wrapN _ bt, Mul64.maskN _ bt, Mul64.wrapN _ bc', Mul64.wrapN _ bw, Mul64.wrapN _ ba', Mul64.wrapN _ bh1, Mul64.wrapN _ bh, Mul64.wrapM (x * y)]
  rw [hhi]
  go_ret2
  exact ⟨rfl, rfl⟩
theorem pmul (x y : Nat) (hx : x < 18446744073709551616) (hy : y < 18446744073709551616) (w : World) :
    Calls Tryz.prog 135 #[.int .u64 x, .int .u64 y] w fun e w' => e = .returned (.tuple #[.int .u64 ((x * y / 18446744073709551616 : Nat) : Int), .int .u64 ((x * y % 18446744073709551616 : Nat) : Int)]) ∧ w = w' := by
  have H := Lib.hid (pmul64 x y hx hy w)
  go_enter Tryz.func135, Tryz.ntmps135
  go_wp2_with fail
  refine (H.out).mono ?_
  rintro e w' ⟨rfl, rfl⟩
  go_wp2
  go_ret2
  exact ⟨rfl, rfl⟩
theorem prepeat (gx cx n : Nat) (w : World) (hx : w.cell? ⟨gx, 0, none⟩ = some (.string (bs [48]))) (hn1 : 1 ≤ n) (hn : n ≤ 1000000) :
    Calls Tryz.prog 98 #[.slice (some ⟨gx, 0, none⟩) 1 cx, .int .i64 (n : Int)] w fun e w' => ∃ g, e = .returned (.slice (some ⟨g, 0, none⟩) n n) ∧ w.heap.size ≤ g ∧ Row w' g 26 (Part0 n n) ∧ Below w.heap.size w w' := by
  have HM := Lib.hid (fun w => pmul 1 n (by omega) (by omega) w)
  rw [show 1 * n / 18446744073709551616 = 0 by omega, show 1 * n % 18446744073709551616 = n by omega] at HM
  have hmk := make_rt n hn
  have hr0 : Row (w.alloc (.cells (Strs (List.replicate n [])).toArray 26 (0, 0))) w.heap.size 26 (Part0 0 n) := by
    have := Row.new w 26 (Strs (List.replicate n []))
    simpa [Part0] using this
  have hb0 : Below w.heap.size w (w.alloc (.cells (Strs (List.replicate n [])).toArray 26 (0, 0))) := (Below.refl _ _).alloc (Nat.le_refl _) _
  obtain ⟨wx, hcp, hrx, hbx⟩ := copy_rt (w := w.alloc (.cells (Strs (List.replicate n [])).toArray 26 (0, 0))) (a := gx) (o := 0) (c := 1) (sCap := cx) hr0 n n 1 (by show 1 = min 1 n; omega) (by omega) (fun j hj => by
    obtain rfl : j = 0 := by omega
    exact (hb0.cell (p := ⟨gx, 0, none⟩) (block_lt_of_cell hx)).trans hx)
  have hw1 : IntKind.u64.wrap (n : Int) = (n : Int) := by rw [IntKind.wrap_u64]; omega
  have hw2 : IntKind.i64.wrap (n : Int) = (n : Int) := IntWalk.i64_in _ (by omega)
  have hw3 : decide ((9223372036854775807 : Int) < (n : Int)) = false := decide_eq_false (by omega)
  have HR := Lib.hid (And.intro hrx (hb0.trans (hbx _ (Nat.le_refl _))))
  clear hr0 hb0 hrx hbx hx
  go_enter Tryz.func98, Tryz.ntmps98
  go_wp2_with fail
  refine ((HM.out _)).mono ?_
  rintro e w' ⟨rfl, rfl⟩
  go_wp2
  clear hmk hcp hw1 hw2 hw3 HM
  go_loopw [8] (fun iv wr => ∃ k : Nat, iv = .int .i64 (k : Int) ∧ 1 ≤ k ∧ k ≤ n ∧ Hid (Row wr w.heap.size 26 (Part0 k n) ∧ Below w.heap.size w wr)) (fun iv _ => n - (intOf iv).toNat)
  case atStart => exact ⟨1, rfl, by omega, hn1, by rw [Nat.zero_add] at HR; exact HR⟩
  case round =>
    clear HR
    obtain ⟨k, rfl, hk1, hkn, hin⟩ := hrel
    by_cases hlt : k < n
    · have hrd : Row wr.drew w.heap.size 26 (Part0 k n) := hin.out.1
      obtain ⟨wy, hcp, hry, hby⟩ := copy_rt (a := w.heap.size) (o := 0) (c := min k (n - k)) (sCap := n) hrd (n - k) (n - k) k rfl (by omega) (fun j hj => hin.out.1.cell (by rw [Nat.zero_add]; exact Part0.get (by omega)))
      have HR := Lib.hid (And.intro hry (And.intro (hin.out.2.trans (RowKit.Below.drew (Below.refl _ _))) (hby _ (Nat.le_refl _))))
      clear hry hby hrd hin
      go_wp2_with fail
      go_region
      go_wp2
      go_roundw
      case rel => exact ⟨k + min k (n - k), by go_num, by omega, by omega, Lib.hid ⟨HR.out.1, HR.out.2.1.trans HR.out.2.2⟩⟩
      case measure => simp [intOf]; omega
    · obtain rfl : n = k := by omega
      go_wp2
      go_ret
      exact ⟨_, rfl, Nat.le_refl _, hin.out.1, hin.out.2⟩
end W
end Go.Proofs.YtnaikafamjebdaaGreatDoor
end
section
namespace Go.Proofs.YtnaikafamjebdaaGreatDoor
open Go Go.RowKit Go.Deep Go.Sort
def Kp (h : Nat → Nat) (m : Nat) (w w' : World) : Prop := w.heap.size ≤ w'.heap.size ∧ ∀ x, x < w.heap.size → (∀ j, j ≤ m → x ≠ h j) → w'.heap[x]? = w.heap[x]?
theorem Kp.refl (h : Nat → Nat) (m : Nat) (w : World) : Kp h m w w := ⟨Nat.le_refl _, fun _ _ _ => rfl⟩
theorem Kp.trans {h : Nat → Nat} {m : Nat} {u v w : World} (h1 : Kp h m u v) (h2 : Kp h m v w) : Kp h m u w :=
  ⟨Nat.le_trans h1.1 h2.1, fun x hx hn => (h2.2 x (Nat.lt_of_lt_of_le hx h1.1) hn).trans (h1.2 x hx hn)⟩
theorem Kp.bel {h : Nat → Nat} {m : Nat} {u v : World} (hb : Below u.heap.size u v) : Kp h m u v := ⟨hb.size, fun x hx _ => hb.block x hx⟩
theorem Kp.set {h : Nat → Nat} {m : Nat} {u v : World} (h1 : Kp h m u v) {j : Nat} (hj : j ≤ m) (k : Nat) (q : Value) : Kp h m u (v.setCell ⟨h j, k, none⟩ q) :=
  ⟨by
    have := h1.1
    show _ ≤ (v.heap.modify _ _).size
    simp; exact this, fun x hx hn => (Below.heap_setCell _ _ _ _ (hn j hj)).trans (h1.2 x hx hn)⟩
theorem Pre.kp {h : Nat → Nat} {m : Nat} {u v : World} {x : Nat} {t : TypeId} {xs : List Value} (hp : Pre u x t xs) (hk : Kp h m u v) (hn : ∀ j, j ≤ m → x ≠ h j) : Pre v x t xs := by
  have hl := hp.lt
  obtain ⟨sp, hp⟩ := hp
  exact ⟨sp, (hk.2 x hl hn).trans hp⟩
namespace M
theorem upd_mix (A : Mx) (f G : Nat → Rat) (j k : Nat) : upd (upd A j (mix f G k)) j (upd ((upd A j (mix f G k)) j) k (G k)) = upd A j (mix f G (k + 1)) := by
  funext i
  by_cases e : i = j
  · subst e
    rw [upd_same, upd_same, upd_same]
    funext x
    by_cases e2 : x = k
    · subst e2; rw [upd_same]; simp [mix]
    · rw [upd_other _ e2]; unfold mix
      by_cases h3 : x < k
      · rw [if_pos h3, if_pos (by omega)]
      · rw [if_neg h3, if_neg (by omega)]
  · rw [upd_other _ e, upd_other _ e, upd_other _ e]
theorem upd_self (A : Mx) (j : Nat) : upd A j (A j) = A := by
  funext i
  by_cases e : i = j
  · subst e; rw [upd_same]
  · rw [upd_other _ e]
theorem mix_lt {f G : Nat → Rat} {k x : Nat} (h : x < k) : mix f G k x = G x := by unfold mix; rw [if_pos h]
theorem mix_ge {f G : Nat → Rat} {k x : Nat} (h : k ≤ x) : mix f G k x = f x := by unfold mix; rw [if_neg (by omega)]
end M
namespace W
open M
attribute [local go_sem] bs_size bs_toList bs_get bs_extract bs_append bs_lit0 bs_lit1 lit1_bs
set_option maxHeartbeats 1000000
set_option maxRecDepth 20000
section
variable {w : World} {B p S gr gb cr cb : Nat} {h : Nat → Nat} {n m : Nat} {A : Mx} {b : Nat → Nat}
theorem pwidth (t : TabS w B p S gr gb cr cb h n m A b) : Calls Tryz.prog 92 #[.pointer (some ⟨p, 0, none⟩)] w (Ret w (.int .i64 ((wdt n m : Nat) : Int))) := by
  have c1 := t.c1
  have c2 := t.c2
  have hn := t.hn
  have hm := t.hm
  have hw1 : IntKind.i64.wrap (2 * (n : Int)) = 2 * (n : Int) := IntWalk.i64_in _ (by omega)
  have hw2 : IntKind.i64.wrap (2 * (n : Int) + (m : Int)) = 2 * (n : Int) + (m : Int) := IntWalk.i64_in _ (by omega)
  have hw3 : IntKind.i64.wrap (2 * (n : Int) + (m : Int) + 1) = ((wdt n m : Nat) : Int) := by rw [IntWalk.i64_in _ (by omega)]; unfold wdt; omega
  clear t hn hm
  go_enter Tryz.func92, Tryz.ntmps92
  go_wp2
  go_quiet (fail)
  go_wp2
  go_ret
  exact Ret.of rfl (Below.drewN (Below.refl _ _) _)
theorem pdrop (t : TabS w B p S gr gb cr cb h n m A b) (xc xt xr j r c e1 e2 : Nat)
    (hc : Pre w xc 3 [.int .i64 (c : Int)]) (ht : Pre w xt 115 [.pointer (some ⟨p, 0, none⟩)]) (hr : Pre w xr 3 [.int .i64 (r : Int)])
    (nc : ∀ j, j ≤ m → xc ≠ h j) (nt : ∀ j, j ≤ m → xt ≠ h j) (nr : ∀ j, j ≤ m → xr ≠ h j)
    (hj : j ≤ m) (hrm : r < m) (hjr : j ≠ r) (hcw : c ≤ wdt n m)
    (b1 : ∀ k, k ≤ wdt n m → Bq e1 (A j k)) (b2 : ∀ k, k ≤ wdt n m → Bq e2 (A r k)) (hb : e1 + (e1 + e2) + 1 ≤ 1024) :
    Calls Tryz.prog 138 #[.slice (some ⟨h j, 0, none⟩) (wdt n m + 1) (wdt n m + 1), .pointer (some ⟨xc, 0, none⟩), .pointer (some ⟨xt, 0, none⟩), .pointer (some ⟨xr, 0, none⟩)] w fun e w' =>
      e = .returned (.tuple #[]) ∧ TabS w' B p S gr gb cr cb h n m (upd A j fun k => A j k - A j c * A r k) b ∧ Below B w w' ∧ Kp h m w w' := by
  obtain ⟨L, hL⟩ : ∃ L, L = wdt n m + 1 := ⟨_, rfl⟩
  have hLs : L ≤ 100000 := by have := t.hn; have := t.hm; rw [hL]; unfold wdt; omega
  obtain ⟨G, hG⟩ : ∃ G : Nat → Rat, G = fun k => A j k - A j c * A r k := ⟨_, rfl⟩
  rw [← hL, ← hG]
  have HI := Lib.hid (fun W k (hk : k < L) (hT : TabS W B p S gr gb cr cb h n m (upd A j (mix (A j) G k)) b) => (by
    have e : G k = A j k - A j c * A r k := by rw [hG]
    rw [e]
    exact psless S (A j k) (A j c) (A r k) e1 e1 e2 W hT.gl hT.err (b1 k (by omega)) (b1 c hcw) (b2 k (by omega)) hb : Calls Tryz.prog 125 #[.pointer (some ⟨S, 0, none⟩), .string (bs (R (A j k))), .string (bs (R (A j c))), .string (bs (R (A r k)))] W (Ret W (.string (bs (R (G k)))))))
  have HT0 : Hid (TabS w B p S gr gb cr cb h n m (upd A j (mix (A j) G 0)) b ∧ Below B w w ∧ Kp h m w w) := Lib.hid ⟨by rw [mix_zero, upd_self]; exact t, Below.refl _ _, Kp.refl _ _ _⟩
  have HC := Lib.hid (fun W (hW : Kp h m w W) => And.intro ((hc.kp hW nc).cell (i := 0) rfl) (And.intro ((ht.kp hW nt).cell (i := 0) rfl) ((hr.kp hW nr).cell (i := 0) rfl)))
  have HA := Lib.hid (fun W k (hk : k < L) (hT : TabS W B p S gr gb cr cb h n m (upd A j (mix (A j) G k)) b) => (by
    have e1 := hT.ce hj (show k ≤ wdt n m by omega)
    rw [upd_same, mix_ge (Nat.le_refl k)] at e1
    have e2 := hT.ce (show r ≤ m by omega) (show k ≤ wdt n m by omega)
    rw [upd_other _ (fun e => hjr e.symm)] at e2
    have e3 := hT.crow hrm
    rw [← hL] at e3
    exact ⟨hT.c0, hT.c3, e3, e1, e2⟩ : W.cell? ⟨p, 0, none⟩ = some (.pointer (some ⟨S, 0, none⟩)) ∧ W.cell? ⟨p, 3, none⟩ = some (.slice (some ⟨gr, 0, none⟩) m cr) ∧ W.cell? ⟨gr, r, none⟩ = some (.slice (some ⟨h r, 0, none⟩) L L) ∧ W.cell? ⟨h j, k, none⟩ = some (.string (bs (R (A j k)))) ∧ W.cell? ⟨h r, k, none⟩ = some (.string (bs (R (A r k))))))
  have HS := Lib.hid (fun W k (hk : k < L) (hT : TabS W B p S gr gb cr cb h n m (upd A j (mix (A j) G k)) b ∧ Below B w W ∧ Kp h m w W) => (by
    have h2 := hT.1.setA hj (show k ≤ wdt n m by omega) (G k)
    rw [upd_mix] at h2
    exact ⟨h2, hT.1.belowA hT.2.1 hj k _, hT.2.2.set hj k _⟩ : TabS (W.setCell ⟨h j, k, none⟩ (.string (bs (R (G k))))) B p S gr gb cr cb h n m (upd A j (mix (A j) G (k + 1))) b ∧ Below B w (W.setCell ⟨h j, k, none⟩ (.string (bs (R (G k))))) ∧ Kp h m w (W.setCell ⟨h j, k, none⟩ (.string (bs (R (G k)))))))
  have HE := Lib.hid (fun W (hT : TabS W B p S gr gb cr cb h n m (upd A j (mix (A j) G L)) b) => (hT.congr (fun i hi k hk => by
    by_cases e : i = j
    · subst e; rw [upd_same, upd_same, mix_lt (by omega)]
    · rw [upd_other _ e, upd_other _ e]) (fun _ _ => rfl) : TabS W B p S gr gb cr cb h n m (upd A j G) b))
  have HF := Lib.hid (fun W k (hT : TabS W B p S gr gb cr cb h n m (upd A j (mix (A j) G k)) b) => hT.fe hj k)
  have cx := t.ce hj hcw
  obtain ⟨cc, ct, cR⟩ := HC.out w (Kp.refl _ _ _)
  have hcl : (c : Int) < (L : Int) := by omega
  have hc0 : (0 : Int) ≤ (c : Int) := by omega
  have hrs : (r : Int) < (m : Int) := by omega
  have hr0 : (0 : Int) ≤ (r : Int) := by omega
  clear t hc ht hr nc nt nr b1 b2 hb hL hG
  go_enter Tryz.func138, Tryz.ntmps138
  go_wp2
  go_loopw [13] (fun iv wr => ∃ k : Nat, iv = .int .i64 (k : Int) ∧ k ≤ L ∧ Hid (TabS wr B p S gr gb cr cb h n m (upd A j (mix (A j) G k)) b ∧ Below B w wr ∧ Kp h m w wr)) (fun iv _ => L - (intOf iv).toNat)
  case atStart => exact ⟨0, rfl, by omega, HT0⟩
  case round =>
    clear HT0 cx cc ct cR
    obtain ⟨k, rfl, hk, hin⟩ := hrel
    by_cases hlt : k < L
    · obtain ⟨cc, ct, cR⟩ := HC.out wr hin.out.2.2
      obtain ⟨c0, c3, c4, c5, c6⟩ := HA.out wr k hlt hin.out.1
      have k1 := reg_of (w := wr) (fun W hW => HI.out W k hlt (hin.out.1.below' hW))
      have m0 := cell_regrown c0
      have m3 := cell_regrown c3
      have m4 := cell_regrown c4
      have m5 := cell_regrown c5
      have m6 := cell_regrown c6
      have mt := cell_regrown ct
      have mr := cell_regrown cR
      have e1 : ∀ args w, (callFunc 125 args).run Tryz.prog w = .ok (.enter 125 args) w := enters_of Tryz.func125 (by kernel_rfl) rfl
      have hk0 : (0 : Int) ≤ (k : Int) := by omega
      have hks : (k : Int) < (L : Int) := by omega
      have HSW := Lib.hid (HS.out · k hlt)
      have HFW := Lib.hid (HF.out · k)
      clear c0 c3 c4 c5 c6 cc ct cR
      go_wp2_with fail
      refine region_below_tail 22 (by kernel_rfl) (by kernel_rfl) ?_
      simp only [List.take_succ_cons, List.take_zero, List.drop_succ_cons, List.drop_zero]
      repeat (go_big_quiet_step (fail))
      go_big_quiet_step (exact k1 _ _)
      repeat (go_big_quiet_step (fail))
      refine wpQuiet_nil ?_
      intro W6 hw'
      have hb6 : Below wr.heap.size wr W6 := by obtain ⟨p, e⟩ := hw'; rw [e]; exact below_regrown wr p.d p.os
      have HT6 : Hid (TabS W6 B p S gr gb cr cb h n m (upd A j (mix (A j) G k)) b ∧ Below B w W6 ∧ Kp h m w W6) := Lib.hid ⟨hin.out.1.below' hb6, hin.out.2.1.trans (hb6.mono (by have := (hin.out.1.mat j hj).lt; have := hin.out.1.lowh j hj; omega)), hin.out.2.2.trans (Kp.bel hb6)⟩
      clear k1 m0 m3 m4 m5 m6 mt mr e1 hw' hb6
      have fz := HFW.out W6 HT6.out.1
      have fc := (HA.out W6 k hlt HT6.out.1).2.2.2.1
      go_wp2
      go_roundw
      case rel => exact ⟨k + 1, by go_num, hlt, Lib.hid (HSW.out W6 HT6.out)⟩
      case measure => simp [intOf]; omega
    · obtain rfl : L = k := by omega
      have HX := Lib.hid (And.intro (HE.out wr hin.out.1) hin.out.2)
      clear hin
      go_wp2
      go_end0
      exact ⟨rfl, HX.out.1, HX.out.2.1, HX.out.2.2⟩
end
end W
end Go.Proofs.YtnaikafamjebdaaGreatDoor
end
