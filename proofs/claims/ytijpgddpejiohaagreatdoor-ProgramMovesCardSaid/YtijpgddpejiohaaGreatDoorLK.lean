/-
  Chapter 5: which bounds a point keeps; 'Verify' on both sides.
  Chapter 5: 'Verify' on both sides.
  A region that draws its order: reads and calls that lay blocks at most, then a tail in one forced order (a store, an append). The head goes by the walk of the lexical order over a class of worlds; the tail is walked from any world of the class.
  Chapter 5: the reference's weighted sums.
  Chapter 5: the reference's weighted sums, walked.
  Chapter 5: the simplex table in memory.
  Chapter 5, plain: the simplex over tables that are written out anew at each step.
-/
import Derived.Test.YtijpgddpejiohaaGreatDoorLJ
import Derived.StillTail
import Derived.Lib.QuietBelow
section
namespace Go.Proofs.YtijpgddpejiohaaGreatDoor
open Go Go.RowKit Go.Deep Go.Sort
namespace M
/-- Bounds on the wire. -/
def bx (l : List BQ) : List BT := l.map fun b => (rx b.1, R b.2)
theorem bx_len (l : List BQ) : (bx l).length = l.length := by simp [bx]
theorem bx_get (l : List BQ) (i : Nat) (h : i < l.length) : (bx l)[i]'(by rw [bx_len]; exact h) = (rx l[i].1, R l[i].2) := by simp [bx]
/-- Short numbers, rows of one length. -/
def RightB (n : Nat) (l : List BQ) : Prop := ∀ b ∈ l, b.1.length = n ∧ (∀ x ∈ b.1, Bq 8 x) ∧ Bq 8 b.2
/-- The same with wider numbers. -/
def RightW (n : Nat) (l : List BQ) : Prop := ∀ b ∈ l, b.1.length = n ∧ (∀ x ∈ b.1, Bq 20 x) ∧ Bq 20 b.2
theorem RightB.wide {n : Nat} {l : List BQ} (h : RightB n l) : RightW n l := fun b hb => ⟨(h b hb).1, fun x hx => ((h b hb).2.1 x hx).mono (by decide), (h b hb).2.2.mono (by decide)⟩
def valQ (b : BQ) (p : List Rat) : Rat := dotP b.1 p b.1.length
def keepsB (b : BQ) (p : List Rat) : Bool := decide (valQ b p ≤ b.2)
end M
namespace W
open M
attribute [local go_sem] bs_size bs_toList bs_get bs_extract bs_append bs_lit0 bs_lit1 lit1_bs
set_option maxHeartbeats 1000000
set_option maxRecDepth 20000
theorem valQ_bq {n : Nat} {b : BQ} {p : List Rat} (hn : n ≤ 8) (h1 : b.1.length = n) (h2 : ∀ x ∈ b.1, Bq 8 x) (hp : n ≤ p.length) (h3 : ∀ x ∈ p, Bq 30 x) : Bq 489 (valQ b p) :=
  (dotP_bq h2 h3 _ (Nat.le_refl _) (by omega)).mono (by omega)
theorem cmpQ_le5 {a b : Rat} : cmpQ a b ≤ 0 ↔ a ≤ b := by rw [← Int.not_lt, cmpQ_gt, Rat.not_lt]
theorem rvalue (u vp : Value) (a p : List Rat) (w : World) (hu : RdT w u (rx a)) (hp : RdT w vp (rx p)) (hab : a.length ≤ p.length) (hn : a.length ≤ 8) (ea : ∀ x ∈ a, Bq 30 x) (ep : ∀ x ∈ p, Bq 30 x) :
    Calls Tryz.prog 16 #[u, vp] w (Ret w (.string (bs (R (dotP a p a.length))))) := by
  have HD := Lib.hid (rdot u vp a p 30 w hu hp hab (by omega) ea ep (by decide) (by decide))
  clear hu hp ea ep
  go_enter Tryz.func16, Tryz.ntmps16
  go_wp2_with fail
  refine (HD.out).mono ?_
  rintro e w1 ⟨rfl, hb1⟩
  go_wp2
  go_ret
  exact Ret.of rfl hb1
/-- The row and the right side of a bound that is read. -/
theorem bound_at {w : World} {b o : Nat} {l : List BQ} (h : BSl w b o (bx l)) (i : Nat) (hi : i < l.length) :
    ∃ u, w.cell? ⟨b, o + i * 2, none⟩ = some u ∧ RdT w u (rx l[i].1) ∧ Shp u ∧ w.cell? ⟨b, o + i * 2 + 1, none⟩ = some (.string (bs (R l[i].2))) := by
  have hi2 : i < (bx l).length := by rw [bx_len]; exact hi
  obtain ⟨u, h1, h2, h3⟩ := h.row i hi2
  have h4 := h.most i hi2
  rw [bx_get l i hi] at h2 h4
  exact ⟨u, h1, h2, h3, h4⟩
theorem sign_pos {q : Rat} : 0 < Int.sign q.num ↔ 0 < q := by
  rw [Int.sign_pos_iff, Rat.lt_iff]
  simp
theorem pkeeps (vl vp : Value) (l : List BQ) (p : List Rat) (n : Nat) (w : World) (hg : Glob w) (hl : RdB w vl (bx l)) (hp : RdT w vp (rx p)) (hn : n ≤ 8) (hr : RightB n l) (h4 : p.length = n) (h5 : ∀ x ∈ p, Bq 30 x) (hll : l.length ≤ 1000) :
    Calls Tryz.prog 114 #[vl, vp] w (Ret w (.int .i64 (if (l.all fun b => keepsB b p) = true then 0 else 15))) := by
  obtain ⟨A, cap, rfl⟩ := hl.len
  have HW := Lib.hid hl
  have HG := Lib.hid hg
  have hv := fun i (hi : i < l.length) => valQ_bq (b := l[i]) (p := p) hn (hr _ (List.getElem_mem hi)).1 (hr _ (List.getElem_mem hi)).2.1 (by omega) h5
  have HD := Lib.hid (fun i (hi : i < l.length) S u W (hW : Below w.heap.size w W) (hs : NoErP W S) (hu : RdT W u (rx l[i].1)) => pdot S u vp l[i].1 p 8 30 W (hg.of hW) hs hu (hp.below hW) (by have := (hr _ (List.getElem_mem hi)).1; omega) (by have := (hr _ (List.getElem_mem hi)).1; omega) (hr _ (List.getElem_mem hi)).2.1 h5 (by decide))
  have HSB := Lib.hid (fun i (hi : i < l.length) W (hW : Below w.heap.size w W) => ratSub (valQ l[i] p) l[i].2 489 8 W (hg.of hW) (hv i hi) (hr _ (List.getElem_mem hi)).2.2 (by decide))
  have HSG := Lib.hid (fun i (hi : i < l.length) S W (hW : Below w.heap.size w W) (hs : NoErP W S) => pssign S (valQ l[i] p - l[i].2) 498 W (hg.of hW) hs ((hv i hi).sub (hr _ (List.getElem_mem hi)).2.2) (by decide))
  rw [bx_len l] at HW ⊢
  generalize hch : (if (l.all fun b => keepsB b p) = true then (0 : Int) else 15) = ch
  have HCH := Lib.hid hch
  have HS0 := Lib.hid (show NoErP (w.alloc (.cells #[.int .i64 0] 110)) w.heap.size from rnw)
  have HB0 := Lib.hid ((Below.refl w.heap.size w).alloc (Nat.le_refl _) (.cells #[.int .i64 0] 110))
  clear hl hp hr h5 hch hv hg
  go_enter Tryz.func114, Tryz.ntmps114
  go_wp2
  obtain ⟨w0, hw0⟩ : ∃ x, x = (w.alloc (.cells #[.int .i64 0] 110)) := ⟨_, rfl⟩
  rw [← hw0] at HS0 HB0 ⊢
  clear hw0
  obtain ⟨S, hS⟩ : ∃ S, S = w.heap.size := ⟨_, rfl⟩
  rw [← hS] at HS0
  rw [← hS]
  clear hS
  go_loopw [13] (fun iv wr => ∃ i : Nat, iv = .int .i64 (i : Int) ∧ i ≤ l.length ∧ Hid ((l.all fun b => keepsB b p) = ((l.drop i).all fun b => keepsB b p)) ∧ Below w0.heap.size w0 wr) (fun iv _ => l.length - (intOf iv).toNat)
  case atStart => exact ⟨0, rfl, by omega, (rfl : (l.all fun b => keepsB b p) = ((l.drop 0).all fun b => keepsB b p)), Below.refl _ _⟩
  case round =>
    obtain ⟨i, rfl, hi, hk, hbw⟩ := hrel
    by_cases hlt : i < l.length
    · have hl2 := HW.out
      rw [← bx_len l] at hl2
      obtain ⟨b1, o1, rfl, hw⟩ := hl2.row i (by rw [bx_len]; exact hlt)
      obtain ⟨u, cu, hu, _, cm⟩ := bound_at (hw.below' (bel_to HB0.out hbw)) i hlt
      obtain ⟨Au, cpu, hue⟩ := hu.len
      generalize (rx l[i].1).length = nu at hue
      subst hue
      have hk2 := hk.out
      rw [List.drop_eq_getElem_cons hlt, List.all_cons] at hk2
      have hbn := (Below.refl wr.heap.size wr).alloc (Nat.le_refl _) (.cells #[.slice Au nu cpu, .string (bs (R l[i].2))] 31)
      have hr := Row.new wr 31 [.slice Au nu cpu, .string (bs (R l[i].2))]
      have m0 := cell_regrown (hr.cell (i := 0) rfl)
      have m1 := cell_regrown (hr.cell (i := 1) rfl)
      have HBW := Lib.hid (bel_to HB0.out (bel_to hbw hbn))
      have HBV := Lib.hid (bel_to hbw hbn)
      have HUU := Lib.hid (hu.below hbn)
      have D1 := Lib.hid (fun W (hW : Below (wr.alloc (.cells #[.slice Au nu cpu, .string (bs (R l[i].2))] 31)).heap.size (wr.alloc (.cells #[.slice Au nu cpu, .string (bs (R l[i].2))] 31)) W) => HD.out i hlt S (.slice Au nu cpu) W (bel_to HBW.out hW) (HS0.out.below' (bel_to HBV.out hW)) (HUU.out.below hW))
      have D2 := Lib.hid (fun W (hW : Below (wr.alloc (.cells #[.slice Au nu cpu, .string (bs (R l[i].2))] 31)).heap.size (wr.alloc (.cells #[.slice Au nu cpu, .string (bs (R l[i].2))] 31)) W) => HSB.out i hlt W (bel_to HBW.out hW))
      have D3 := Lib.hid (fun s W (hW : Below (wr.alloc (.cells #[.slice Au nu cpu, .string (bs (R l[i].2))] 31)).heap.size (wr.alloc (.cells #[.slice Au nu cpu, .string (bs (R l[i].2))] 31)) W) => psof S s W (HS0.out.below' (bel_to HBV.out hW)))
      have D4 := Lib.hid (fun W (hW : Below (wr.alloc (.cells #[.slice Au nu cpu, .string (bs (R l[i].2))] 31)).heap.size (wr.alloc (.cells #[.slice Au nu cpu, .string (bs (R l[i].2))] 31)) W) => HSG.out i hlt S W (bel_to HBW.out hW) (HS0.out.below' (bel_to HBV.out hW)))
      have hd : decide (0 < Int.sign (valQ l[i] p - l[i].2).num) = !keepsB l[i] p := by
        unfold keepsB
        by_cases h : valQ l[i] p ≤ l[i].2
        · rw [decide_eq_true h, decide_eq_false (by rw [sign_pos]; grind)]; rfl
        · rw [decide_eq_false h, decide_eq_true (by rw [sign_pos]; grind)]; rfl
      have hvq : dotP l[i].1 p l[i].1.length = valQ l[i] p := rfl
      rw [hvq] at D1
      clear hk hw hl2 hr hu hbn hvq
      generalize Int.sign (valQ l[i] p - l[i].2).num = sg at *
      generalize keepsB l[i] p = d at *
      generalize R (valQ l[i] p - l[i].2) = s3 at *
      generalize R (valQ l[i] p) = s1 at *
      generalize R l[i].2 = sm at *
      have HQ := Lib.hid hk2
      clear hk2
      have e1 : ∀ args w, (callFunc 71 args).run Tryz.prog w = .ok (.enter 71 args) w := enters_of Tryz.func71 (by kernel_rfl) rfl
      have e2 : ∀ args w, (callFunc 97 args).run Tryz.prog w = .ok (.enter 97 args) w := enters_of Tryz.func97 (by kernel_rfl) rfl
      have e3 : ∀ args w, (callFunc 128 args).run Tryz.prog w = .ok (.enter 128 args) w := enters_of Tryz.func128 (by kernel_rfl) rfl
      have e4 : ∀ args w, (callFunc 130 args).run Tryz.prog w = .ok (.enter 130 args) w := enters_of Tryz.func130 (by kernel_rfl) rfl
      go_wp2_with fail
      generalize wr.heap.size = gB at *
      generalize wr.alloc (.cells #[.slice Au nu cpu, .string (bs sm)] 31) = W at *
      have k1 := reg_of (w := W) (fun W2 hW => D1.out W2 hW)
      have k2 := reg_of (w := W) (fun W2 hW => D2.out W2 hW)
      have k3 := reg_of (w := W) (fun W2 hW => D3.out s3 W2 hW)
      have k4 := reg_of (w := W) (fun W2 hW => D4.out W2 hW)
      refine wp_region_quiet_below (by kernel_rfl) (by kernel_rfl) ?_
      repeat (go_big_quiet_step (fail))
      go_big_quiet_step (exact k1 _ _)
      repeat (go_big_quiet_step (fail))
      go_big_quiet_step (exact k2 _ _)
      repeat (go_big_quiet_step (fail))
      go_big_quiet_step (exact k3 _ _)
      repeat (go_big_quiet_step (fail))
      go_big_quiet_step (exact k4 _ _)
      repeat (go_big_quiet_step (fail))
      refine wpQuiet_nil ?_
      intro W6 hw'
      have hb6 : Below W.heap.size W W6 := by obtain ⟨p, e⟩ := hw'; rw [e]; exact below_regrown W p.d p.os
      have hs6 := (HS0.out.below' (bel_to HBV.out hb6)).cell
      have HB6 := Lib.hid (bel_to HBV.out hb6)
      clear k1 k2 k3 k4 m0 m1 e1 e2 e3 e4 hw' hb6 D1 D2 D3 D4
      cases d with
      | true =>
        have hd : decide (0 < sg) = false := hd
        go_wp2
        go_roundw
        case rel => exact ⟨i + 1, by go_num, by omega, Lib.hid (by rw [HQ.out]; rfl), HB6.out⟩
        case measure => simp [intOf]; omega
      | false =>
        have hd : decide (0 < sg) = true := hd
        have HF := Lib.hid (bel_to HB0.out HB6.out)
        go_wp2
        go_ret
        exact Ret.of (by rw [← HCH.out, HQ.out]; rfl) HF.out
    · obtain rfl : i = l.length := by omega
      have hk2 := hk.out
      rw [List.drop_length] at hk2
      have HQ := Lib.hid hk2
      have HF := Lib.hid (bel_to HB0.out hbw)
      clear hk2 hk
      go_wp2
      go_ret
      exact Ret.of (by rw [← HCH.out, HQ.out]; rfl) HF.out
end W
end Go.Proofs.YtijpgddpejiohaaGreatDoor
end
section
namespace Go.Proofs.YtijpgddpejiohaaGreatDoor
open Go Go.RowKit Go.Deep Go.Sort
namespace M
theorem text8 {p : List UInt8} (h8 : p.length ≤ 8) (h0 : chkR p = 0) : ∃ q, p = R q ∧ Bq 8 q := by
  have h1 := cutN_len p
  have h2 := cutD_len p
  have hs : shortB p = true := by
    unfold shortB
    rw [Bool.and_eq_true, decide_eq_true_iff, decide_eq_true_iff]
    exact ⟨by omega, by omega⟩
  obtain ⟨q, rfl, _⟩ := short_R hs h0
  clear h1 h2 hs h0
  unfold R at h8
  split at h8
  · rename_i e
    exact ⟨q, rfl, I_short h8 (by decide), by rw [e]; decide⟩
  · rw [List.length_append, List.length_cons] at h8
    refine ⟨q, rfl, I_short (by omega) (by decide), ?_⟩
    have := I_short (z := (q.den : Int)) (k := 8) (by omega) (by decide)
    rwa [Int.natAbs_natCast] at this
theorem texts8 : ∀ {l : List (List UInt8)}, (∀ p ∈ l, p.length ≤ 8) → chkRs l = 0 → ∃ zl : List Rat, l = rx zl ∧ ∀ x ∈ zl, Bq 8 x
  | [], _, _ => ⟨[], rfl, fun x h => by cases h⟩
  | p :: t, hl, h => by
    rw [chkRs] at h
    by_cases hp : chkR p = 0
    · rw [if_pos hp] at h
      obtain ⟨q, e1, hq⟩ := text8 (hl p List.mem_cons_self) hp
      obtain ⟨zl, e2, hz⟩ := texts8 (fun r hr => hl r (List.mem_cons_of_mem _ hr)) h
      refine ⟨q :: zl, by rw [e1, e2]; rfl, fun x hx => ?_⟩
      rcases List.mem_cons.1 hx with rfl | hx
      · exact hq
      · exact hz x hx
    · rw [if_neg hp] at h; exact absurd h hp
theorem bounds8 {n : Nat} : ∀ {l : List BT}, (∀ b ∈ l, (∀ p ∈ b.1, p.length ≤ 8) ∧ b.2.length ≤ 8) → chkBs (n : Int) l = 0 → ∃ zl : List BQ, l = bx zl ∧ RightB n zl
  | [], _, _ => ⟨[], rfl, fun x h => by cases h⟩
  | b :: t, hl, h => by
    rw [chkBs] at h
    by_cases hb : chkB1 (n : Int) b = 0
    · rw [if_pos hb] at h
      obtain ⟨zt, e2, hz⟩ := bounds8 (fun r hr => hl r (List.mem_cons_of_mem _ hr)) h
      have hb2 := hb
      unfold chkB1 at hb2
      by_cases hn : (b.1.length : Int) ≠ (n : Int)
      · rw [if_pos hn] at hb2; cases hb2
      · rw [if_neg hn] at hb2
        have hl2 := hl b List.mem_cons_self
        obtain ⟨zr, e3, hr⟩ := texts8 (l := b.1 ++ [b.2]) (fun p hp => (List.mem_append.1 hp).elim (hl2.1 p) (fun h => by rw [List.mem_singleton.1 h]; exact hl2.2)) hb2
        rw [chkRs_append] at hb2
        have hc1 : chkRs b.1 = 0 := by
          by_cases h : chkRs b.1 = 0
          · exact h
          · rw [if_neg h] at hb2; exact hb2
        rw [if_pos hc1, chkRs] at hb2
        have hc2 : chkR b.2 = 0 := by
          by_cases h : chkR b.2 = 0
          · exact h
          · rw [if_neg h] at hb2; exact hb2
        obtain ⟨q, e4, hq⟩ := text8 hl2.2 hc2
        obtain ⟨zl, e5, hz5⟩ := texts8 hl2.1 hc1
        refine ⟨(zl, q) :: zt, ?_, fun x hx => ?_⟩
        · rw [e2]
          show b :: bx zt = (rx zl, R q) :: bx zt
          rw [← e5, ← e4]
        · rcases List.mem_cons.1 hx with rfl | hx
          · refine ⟨?_, hz5, hq⟩
            have := congrArg List.length e5
            rw [rx_len] at this
            show zl.length = n
            omega
          · exact hz x hx
    · rw [if_neg hb] at h; exact absurd h hb
/-- Bounds whose texts are no too long ones. -/
def Wire (l : List BT) : Prop := l.length ≤ maxLen ∧ (l.length ≤ 64 → ∀ b ∈ l, b.1.length ≤ 900000 ∧ (∀ q ∈ b.1, q.length ≤ 90000) ∧ b.2.length ≤ 90000)
end M
namespace W
open M
attribute [local go_sem] bs_size bs_toList bs_get bs_extract bs_append bs_lit0 bs_lit1 lit1_bs
set_option maxHeartbeats 1000000
set_option maxRecDepth 20000
theorem pnum1 (u : Value) (l : List (List UInt8)) (w : World) (hg : Glob w) (hu : RdT w u l) (hl : ∀ q ∈ l, q.length ≤ 90000) (hn : l.length ≤ 1000000) :
    Calls Tryz.prog 62 #[.slice (some ⟨w.heap.size, 0, none⟩) 1 1] (w.alloc (.cells #[u] 23)) (Ret w (.int .i64 ((chkRs l : Nat) : Int))) := by
  have b1 : Below w.heap.size w (w.alloc (.cells #[u] 23)) := (Below.refl _ _).alloc (Nat.le_refl _) _
  have h := pnumbers [(u, l)] w.heap.size _ (hg.of b1) (show Row (w.alloc (.cells #[u] 23)) w.heap.size 23 [u] from rnw) (fun x hx => by
    rw [List.mem_singleton.1 hx]; exact ⟨hu.below b1, hn, hl⟩) (by simp)
  refine h.mono fun e w' hr => ?_
  obtain ⟨rfl, hb⟩ := hr
  refine ⟨?_, b1.trans (hb.mono b1.size)⟩
  have e1 : chkLs [l] = chkRs l := by
    rw [chkLs, chkLs]
    by_cases h : chkRs l = 0
    · rw [if_pos h, h]
    · rw [if_neg h]
  rw [show ([(u, l)].map (·.2)) = [l] from rfl, e1]
/-- The number of the error of a point's form. -/
noncomputable def chkPt (n : Int) (p : List (List UInt8)) : Nat := if (p.length : Int) ≠ n then 8 else chkRs p
theorem pverify_bad1 (n : Int) (vl vp : Value) (l : List BT) (w : World) (hg : Glob w) (hl : RdB w vl l) (hw : Wire l) (hc : chk5 n l ≠ 0) :
    Calls Tryz.prog 55 #[.int .i64 n, vl, vp] w (Ret w (.int .i64 ((chk5 n l : Nat) : Int))) := by
  have HC := Lib.hid (pcheck5 n vl l w hg hl hw.1 (fun h b hb => ⟨by have := (hw.2 h b hb).1; omega, (hw.2 h b hb).2.1, (hw.2 h b hb).2.2⟩))
  have hz : (((chk5 n l : Nat) : Int) != 0) = true := by simp; exact hc
  clear hl hw hc
  generalize ((chk5 n l : Nat) : Int) = c at *
  go_enter Tryz.func55, Tryz.ntmps55
  go_wp2_with fail
  refine (HC.out).mono ?_
  rintro e w1 ⟨rfl, hb1⟩
  go_wp2
  go_ret
  exact Ret.of rfl hb1
theorem pverify_bad2 (n : Int) (vl vp : Value) (l : List BT) (p : List (List UInt8)) (w : World) (hg : Glob w) (hl : RdB w vl l) (hw : Wire l) (h0 : chk5 n l = 0) (hp : RdT w vp p) (sp : ∀ q ∈ p, q.length ≤ 90000) (np : p.length ≤ 1000000) (hc : chkPt n p ≠ 0) :
    Calls Tryz.prog 55 #[.int .i64 n, vl, vp] w (Ret w (.int .i64 ((chkPt n p : Nat) : Int))) := by
  have hk := pcheck5 n vl l w hg hl hw.1 (fun h b hb => ⟨by have := (hw.2 h b hb).1; omega, (hw.2 h b hb).2.1, (hw.2 h b hb).2.2⟩)
  rw [h0] at hk
  have HC := Lib.hid hk
  have HN := Lib.hid (fun W (hW : Below w.heap.size w W) => pnum1 vp p W (hg.of hW) (hp.below hW) sp np)
  obtain ⟨A, cap, rfl⟩ := hp.len
  unfold chkPt at *
  clear hl hw h0 hp sp hk
  by_cases hn : (p.length : Int) ≠ n
  · rw [if_pos hn] at hc ⊢
    have hd : ((p.length : Int) != n) = true := by simp; exact hn
    clear HN hn hc
    go_enter Tryz.func55, Tryz.ntmps55
    go_wp2_with fail
    refine (HC.out).mono ?_
    rintro e w1 ⟨rfl, hb1⟩
    go_wp2
    go_ret
    exact Ret.of rfl hb1
  · rw [if_neg hn] at hc ⊢
    have hd : ((p.length : Int) != n) = false := by simpa using hn
    have hz : (((chkRs p : Nat) : Int) != 0) = true := by simp; exact hc
    clear hn hc
    generalize ((chkRs p : Nat) : Int) = c at *
    go_enter Tryz.func55, Tryz.ntmps55
    go_wp2_with fail
    refine (HC.out).mono ?_
    rintro e w1 ⟨rfl, hb1⟩
    have HB1 := Lib.hid hb1
    go_wp2_with fail
    refine (HN.out _ HB1.out).mono ?_
    rintro e w2 ⟨rfl, hb2⟩
    go_wp2
    go_ret
    exact Ret.of rfl (Below.then HB1.out hb2)
theorem pverify_ok (n : Nat) (vl vp : Value) (l : List BQ) (p : List Rat) (w : World) (hg : Glob w) (hl : RdB w vl (bx l)) (hw : Wire (bx l)) (h0 : chk5 (n : Int) (bx l) = 0) (hp : RdT w vp (rx p)) (hn : n ≤ 8) (hr : RightB n l) (h4 : p.length = n) (h5 : ∀ x ∈ p, Bq 30 x) (hc : chkRs (rx p) = 0) (hll : l.length ≤ 64) :
    Calls Tryz.prog 55 #[.int .i64 (n : Int), vl, vp] w (Ret w (.int .i64 (if (l.all fun b => keepsB b p) = true then 0 else 15))) := by
  have hk := pcheck5 n vl (bx l) w hg hl hw.1 (fun h b hb => ⟨by have := (hw.2 h b hb).1; omega, (hw.2 h b hb).2.1, (hw.2 h b hb).2.2⟩)
  rw [h0] at hk
  have HC := Lib.hid hk
  have hm := fun W (hW : Below w.heap.size w W) => pnum1 vp (rx p) W (hg.of hW) (hp.below hW) (fun q hq => by
    obtain ⟨x, hx, rfl⟩ := List.mem_map.1 hq
    have := (h5 x hx).R_len (by decide); omega) (by rw [rx_len]; omega)
  rw [hc] at hm
  have HN := Lib.hid hm
  have HK := Lib.hid (fun W (hW : Below w.heap.size w W) => pkeeps vl vp l p n W (hg.of hW) (hl.below hW) (hp.below hW) hn hr h4 h5 (by omega))
  have hd : ((p.length : Int) != (n : Int)) = false := by simp; omega
  obtain ⟨A, cap, rfl⟩ := hp.len
  rw [rx_len p] at HN HK ⊢
  generalize (if (l.all fun b => keepsB b p) = true then (0 : Int) else 15) = c at *
  clear hl hw h0 hp hr h5 hc hk hm h4
  go_enter Tryz.func55, Tryz.ntmps55
  go_wp2_with fail
  refine (HC.out).mono ?_
  rintro e w1 ⟨rfl, hb1⟩
  have HB1 := Lib.hid hb1
  go_wp2_with fail
  refine (HN.out _ HB1.out).mono ?_
  rintro e w2 ⟨rfl, hb2⟩
  have HB2 := Lib.hid (Below.then HB1.out hb2)
  clear hb1 hb2
  go_wp2_with fail
  refine (HK.out _ HB2.out).mono ?_
  rintro e w3 ⟨rfl, hb3⟩
  go_wp2
  go_ret
  exact Ret.of rfl (Below.then HB2.out hb3)
end W
end Go.Proofs.YtijpgddpejiohaaGreatDoor
end
section
namespace Go.Proofs.YtijpgddpejiohaaGreatDoor
open Go Go.Sort Go.RowKit
section
variable {P : Program} {ops : Array Oper} {md : Region.Mode} {C : World → Prop}
/-- Whatever order is picked, as long as the head lasts; then L. -/
def anyT (P : Program) (md : Region.Mode) (ops : Array Oper) (C : World → Prop) (n : Nat) (L : Array Bool → Act → Prop) : Nat → Array Bool → Act → Prop
  | 0, ls, a => L ls a
  | f + 1, ls, a => Region.ready md ops ls ≠ [] ∧ ∀ i ∈ Region.ready md ops ls, i < n ∧ qOp P ops C i (anyT P md ops C n L f (ls.setIfInBounds i true)) a
theorem wpAny_of_anyT {n g : Nat} {L : Array Bool → Act → Prop} {Q : Exit → Act → World → Prop} (hL : ∀ ls a w, C w → L ls a → wpAny P md ops Q g ls a w) :
    ∀ (f : Nat) (ls : Array Bool) (a : Act) (w : World), C w → anyT P md ops C n L f ls a → wpAny P md ops Q (f + g) ls a w := by
  intro f
  induction f with
  | zero => intro ls a w hw h; rw [Nat.zero_add]; exact hL _ _ _ hw h
  | succ f ih =>
    intro ls a w hw h
    rw [Nat.succ_add]
    exact ⟨fun h0 => absurd h0 h.1, fun i hi => wpOp_of_qOp hw (fun a' w' hw' h' => ih _ a' w' hw' h') (h.2 i hi).2⟩
theorem anyT_first {n i : Nat} {oi : Oper} {v : Value} {L : Array Bool → Act → Prop} (hi : ops[i]? = some oi) (hsel : ∀ (j : Nat) (o : Oper) cs b, ops[j]? = some o → o.op ≠ .select cs b)
    (hs : Region.sinkB md ops n = true) (hc : Region.chainB md ops n = true) (hn : n < ops.size) (hin : i < n) (hdone : ∀ ls a, L ls a → ∀ j ∈ Region.ready md ops ls, n ≤ j) :
    ∀ (f : Nat) (ls : Array Bool) (a : Act), HeadInv md ops n ls →
      (∀ j oj, ops[j]? = some oj → j ≠ i → ls.getD j true = false → (∀ e ∈ oj.after, Region.binds md e = true → e.on ≠ i) → oi.apart ops oj = true) →
      i ∈ Region.ready md ops ls → YieldsIn P ops C oi v a → anyT P md ops C n L f (ls.setIfInBounds i true) (a.put oi.dst v) → anyT P md ops C n L (f + 1) ls a := by
  intro f
  induction f with
  | zero =>
    intro ls a inv _ hr hy H
    refine ⟨List.ne_nil_of_mem hr, fun j hj => ?_⟩
    have hjn : j < n := Nat.lt_of_not_le fun h => tail_waits hs hc hn inv _ i rfl hin (mem_ready.1 hr).1 j h hj
    refine ⟨hjn, ?_⟩
    by_cases e : j = i
    · subst e; exact hy.qOp hi H
    · exact absurd (hdone _ _ H j (ready_mono hj e)) (by omega)
  | succ f ih =>
    intro ls a inv hfree hr hy H
    refine ⟨List.ne_nil_of_mem hr, fun j hj => ?_⟩
    have hjn : j < n := Nat.lt_of_not_le fun h => tail_waits hs hc hn inv _ i rfl hin (mem_ready.1 hr).1 j h hj
    refine ⟨hjn, ?_⟩
    by_cases e : j = i
    · subst e; exact hy.qOp hi H
    · obtain ⟨hju, oj, hoj, hall⟩ := mem_ready.1 hj
      have hno : ∀ e ∈ oj.after, Region.binds md e = true → e.on ≠ i := fun e he hb heq => by
        have h2 := hall e he hb
        rw [heq, getD_both (mem_ready.1 hr).1] at h2
        cases h2
      refine qOp_mono (fun a' h3 => ih (ls.setIfInBounds j true) a' (inv.set hj hjn) (fun k ok hk hki hun h4 => ?_) (ready_mono hr (Ne.symm e)) h3.1 (by rw [Array.setIfInBounds_comm _ _ e]; exact h3.2))
        (qOp_put hoj (hfree j oj hoj e hju hno) (fun cs b => hsel i oi cs b hi) (fun cs b => hsel j oj cs b hoj) hy (H.2 j (ready_mono hj e)).2)
      refine hfree k ok hk hki ?_ h4
      by_cases ek : j = k
      · subst ek; exact hju
      · rwa [getD_set_ne true ek] at hun
theorem anyT_lex {n g : Nat} {Lq : Act → Prop} (hsel : Region.noSelect ops = true) (hs : Region.sinkB md ops n = true) (hc : Region.chainB md ops n = true) (hn : n < ops.size) :
    ∀ (l : List Oper) (k : Nat) (ls : Array Bool) (a : Act), (∀ j, j < l.length → l[j]? = ops[k + j]?) → k + l.length = n → HeadInv md ops n ls → Region.lexHead md ops g l.length k ls = true → wpQuiet P ops C Lq l a →
      anyT P md ops C n (fun ls' a' => Region.seqB md ops g n ls' = true ∧ Lq a') l.length ls a := by
  intro l
  induction l with
  | nil =>
    intro k ls a _ hk _ hB h
    have e : k = n := by simpa using hk
    subst e
    exact ⟨by simpa [Region.lexHead] using hB, h⟩
  | cons o l ih =>
    intro k ls a hl hk inv hB h
    have h0 : ops[k]? = some o := by simpa using (hl 0 (by simp)).symm
    simp only [List.length_cons, Region.lexHead, Bool.and_eq_true] at hB
    have hkn : k < n := by simp only [List.length_cons] at hk; omega
    have hr : k ∈ Region.ready md ops ls := by simpa using hB.1.1
    obtain ⟨v, hy, hK⟩ := yieldsIn_of_qOp h0 (show qOp P ops C k (wpQuiet P ops C Lq l) a by unfold qOp; simp only [h0]; exact h)
    exact anyT_first h0 (Region.noSelect_spec hsel) hs hc hn hkn (fun ls' a' hL => seqB_ready hL.1) l.length ls a inv (Region.free_spec h0 hB.1.2) hr hy
      (ih (k + 1) _ _ (fun j hj => by have := hl (j + 1) (by simp; omega); simpa [Nat.add_assoc, Nat.add_comm 1 j] using this) (by simp only [List.length_cons] at hk; omega) (inv.set hr hkn) hB.2 hK)
theorem region_quiet_tail {id : Nat} {Q : Exit → Act → World → Prop} {a : Act} {w : World} {l : List Oper} (n : Nat) (hm : P.follows .mixedOrders = true) (hB : Region.lexTailB .any l.toArray n = true) (hC : C { w with drawn := w.drawn + 1 })
    (h : wpQuiet P l.toArray C (fun a' => ∀ w', C w' → wpList P l.toArray Q (l.drop n) a' w') (l.take n) a) : (Code.region id l.toArray true).wp P Q a w := by
  simp only [Region.lexTailB, Bool.and_eq_true, decide_eq_true_eq] at hB
  obtain ⟨⟨⟨⟨hsel, hn⟩, hs⟩, hc⟩, hlex⟩ := hB
  have hn2 : n < l.length := by simpa using hn
  have ht : (l.take n).length = n := by simp; omega
  have hd : (l.drop n).length = l.toArray.size - n := by simp
  have inv : HeadInv .any l.toArray n (Array.replicate l.toArray.size false) :=
    ⟨by simp, fun j oj _ h2 => (by rw [getD_replicate_false] at h2; cases h2), fun t _ h2 => getD_in (by simpa using h2) (getD_replicate_false _ _)⟩
  have H := anyT_lex (md := .any) (g := l.toArray.size - n) hsel hs hc hn (l.take n) 0 _ a (fun j hj => by rw [ht] at hj; simp [hj]) (by simpa using ht) inv (by rw [ht]; exact hlex) h
  refine wp_region_any hm ?_
  have h2 := wpAny_of_anyT (Q := Q) (g := l.toArray.size - n) (fun ls a' w' hw' hL => by
    have h3 := wpAny_of_seq (md := .any) (Q' := Q) (l.drop n) n ls a' w' (fun j => by simp [List.getElem?_drop]) (by rw [hd]; exact hL.1) (hL.2 w' hw')
    rwa [hd] at h3) _ _ _ _ hC H
  rw [ht, show n + (l.toArray.size - n) = l.toArray.size by omega] at h2
  exact h2
/-- The same, the class being 'blocks may have been laid'. -/
theorem region_below_tail {id : Nat} {Q : Exit → Act → World → Prop} {a : Act} {w : World} {l : List Oper} (n : Nat) (hm : P.follows .mixedOrders = true) (hB : Region.lexTailB .any l.toArray n = true)
    (h : wpQuiet P l.toArray (fun w' => ∃ p : Regrown, w' = grow (redrawn w p.d) p.os) (fun a' => ∀ w', (∃ p : Regrown, w' = grow (redrawn w p.d) p.os) → wpList P l.toArray Q (l.drop n) a' w') (l.take n) a) : (Code.region id l.toArray true).wp P Q a w :=
  region_quiet_tail n hm hB ⟨⟨w.drawn + 1, #[]⟩, by rw [grow_empty]; rfl⟩ h
end
end Go.Proofs.YtijpgddpejiohaaGreatDoor
end
section
namespace Go.Proofs.YtijpgddpejiohaaGreatDoor
open Go Go.RowKit Go.Deep Go.Sort
namespace M
/-- The sum over the first i bounds of column k; of the right sides; whether no weight is negative. -/
def wrow (l : List BQ) (q : List Rat) : Nat → Nat → Rat
  | 0, _ => 0
  | i + 1, k => wrow l q i k + nth q i * nth (l.getD i ([], 0)).1 k
def wmost (l : List BQ) (q : List Rat) : Nat → Rat
  | 0 => 0
  | i + 1 => wmost l q i + nth q i * (l.getD i ([], 0)).2
def wok (q : List Rat) (i : Nat) : Bool := (q.take i).all fun x => decide (0 ≤ x)
/-- Some numbers' texts. -/
def mapR (f : Nat → Rat) (n : Nat) : List (List UInt8) := (List.range n).map fun k => R (f k)
theorem mapR_len (f : Nat → Rat) (n : Nat) : (mapR f n).length = n := by simp [mapR]
theorem mapR_get (f : Nat → Rat) (n k : Nat) (h : k < n) : (mapR f n)[k]'((mapR_len f n).symm ▸ h) = R (f k) := by simp [mapR]
def mix (f g : Nat → Rat) (k : Nat) : Nat → Rat := fun j => if j < k then g j else f j
theorem mix_zero (f g : Nat → Rat) : mix f g 0 = f := by funext j; simp [mix]
theorem mix_end (f g : Nat → Rat) (n : Nat) : mapR (mix f g n) n = mapR g n := by
  unfold mapR
  apply List.map_congr_left
  intro k hk
  show R (if k < n then g k else f k) = R (g k)
  rw [if_pos (List.mem_range.1 hk)]
theorem mix_set (f g : Nat → Rat) (k n : Nat) : (mapR (mix f g k) n).set k (R (g k)) = mapR (mix f g (k + 1)) n := by
  apply List.ext_getElem
  · rw [List.length_set, mapR_len, mapR_len]
  · intro j h1 h2
    rw [mapR_len] at h2
    rw [List.getElem_set, mapR_get _ _ _ h2]
    by_cases e : k = j
    · subst e
      rw [if_pos rfl, mapR_get _ _ _ h2]
      show R (g k) = R (if k < k + 1 then g k else f k)
      rw [if_pos (by omega)]
    · rw [if_neg e, mapR_get _ _ _ h2]
      unfold mix
      by_cases h3 : j < k
      · rw [if_pos h3, if_pos (by omega)]
      · rw [if_neg h3, if_neg (by omega)]
theorem wrow_bq {l : List BQ} {q : List Rat} {n k : Nat} (hr : RightB n l) (hq : ∀ x ∈ q, Bq 30 x) (hk : k < n) : ∀ i, i ≤ l.length → i ≤ q.length → Bq (39 * i + 1) (wrow l q i k)
  | 0, _, _ => Bq_nil
  | i + 1, h1, h2 => by
    have ih := wrow_bq hr hq hk i (by omega) (by omega)
    have hb := hr _ (List.getElem_mem (show i < l.length by omega))
    rw [wrow, nth_get q i (by omega), show l.getD i ([], 0) = l[i] by simp [show i < l.length by omega], nth_get _ k (by omega)]
    exact (ih.add ((hq _ (List.getElem_mem (show i < q.length by omega))).mul (hb.2.1 _ (List.getElem_mem _)))).mono (by omega)
theorem wmost_bq {l : List BQ} {q : List Rat} {n : Nat} (hr : RightB n l) (hq : ∀ x ∈ q, Bq 30 x) : ∀ i, i ≤ l.length → i ≤ q.length → Bq (39 * i + 1) (wmost l q i)
  | 0, _, _ => Bq_nil
  | i + 1, h1, h2 => by
    have ih := wmost_bq hr hq i (by omega) (by omega)
    have hb := hr _ (List.getElem_mem (show i < l.length by omega))
    rw [wmost, nth_get q i (by omega), show l.getD i ([], 0) = l[i] by simp [show i < l.length by omega]]
    exact (ih.add ((hq _ (List.getElem_mem (show i < q.length by omega))).mul hb.2.2)).mono (by omega)
theorem wok_succ (q : List Rat) (i : Nat) (h : i < q.length) : wok q (i + 1) = (wok q i && decide (0 ≤ q[i])) := by
  unfold wok
  rw [List.take_succ_eq_append_getElem h, List.all_append]; simp
end M
theorem OwnS.stored {w : World} {B g cap : Nat} {l : List (List UInt8)} (h : OwnS w B (.slice (some ⟨g, 0, none⟩) l.length cap) l) (k : Nat) (q : List UInt8) :
    OwnS (w.setCell ⟨g, k, none⟩ (.string (bs q))) B (.slice (some ⟨g, 0, none⟩) (l.set k q).length cap) (l.set k q) := by
  have h2 := World.ownsRow.stored h k (.string (bs q))
  unfold OwnS
  rw [List.length_set]
  have e : Strs (l.set k q) = (Strs l).set k (.string (bs q)) := by simp [Strs, List.map_set]
  rw [e]
  exact h2.1
/-- What 'Weighted' has reached: an own row, behind W0. -/
structure WSt (w W : World) (g cap n : Nat) (f : Nat → Rat) : Prop where
  own : OwnS W w.heap.size (.slice (some ⟨g, 0, none⟩) (M.mapR f n).length cap) (M.mapR f n)
  bel : Below w.heap.size w W
  low : w.heap.size ≤ g
theorem WSt.to {w W W2 : World} {g cap n : Nat} {f : Nat → Rat} (h : WSt w W g cap n f) (hb : Below W.heap.size W W2) : WSt w W2 g cap n f :=
  ⟨h.own.below hb, h.bel.trans (hb.mono h.bel.size), h.low⟩
theorem WSt.cell {w W : World} {g cap n : Nat} {f : Nat → Rat} (h : WSt w W g cap n f) (k : Nat) (hk : k < n) : W.cell? ⟨g, k, none⟩ = some (.string (bs (M.R (f k)))) := by
  have h2 := World.ownsRow.cellAt h.own k (by rw [M.mapR_len]; omega)
  rw [h2]
  simp [Strs, M.mapR, hk]
theorem WSt.free {w W : World} {g cap n : Nat} {f : Nat → Rat} (h : WSt w W g cap n f) (k : Nat) : W.frozen? ⟨g, k, none⟩ = false := World.ownsRow.frozenAt h.own k
theorem WSt.put {w W : World} {g cap n : Nat} {f e : Nat → Rat} {k : Nat} (h : WSt w W g cap n (M.mix f e k)) : WSt w (W.setCell ⟨g, k, none⟩ (.string (bs (M.R (e k))))) g cap n (M.mix f e (k + 1)) := by
  have h2 := h.own.stored k (M.R (e k))
  rw [M.mix_set f e k n] at h2
  exact ⟨h2, h.bel.setCell (p := ⟨g, k, none⟩) h.low _, h.low⟩
theorem WSt.fin {w W : World} {g cap n : Nat} {f e : Nat → Rat} (h : WSt w W g cap n (M.mix f e n)) : WSt w W g cap n e := by
  obtain ⟨h1, h2, h3⟩ := h
  rw [M.mix_end] at h1
  exact ⟨h1, h2, h3⟩
end Go.Proofs.YtijpgddpejiohaaGreatDoor
end
section
namespace Go.Proofs.YtijpgddpejiohaaGreatDoor
open Go Go.RowKit Go.Deep Go.Sort
/-- What 'Weighted' returns. -/
def WgtP (l : List M.BQ) (q : List Rat) (n : Nat) (w : World) (e : Ending) (w' : World) : Prop :=
  ∃ g cap, e = .returned (.tuple #[.slice (some ⟨g, 0, none⟩) n cap, .string (bs (M.R (M.wmost l q l.length))), .bool (M.wok q l.length)]) ∧ WSt w w' g cap n (M.wrow l q l.length)
namespace W
open M
attribute [local go_sem] bs_size bs_toList bs_get bs_extract bs_append bs_lit0 bs_lit1 lit1_bs
set_option maxHeartbeats 2000000
set_option maxRecDepth 20000
end W
end Go.Proofs.YtijpgddpejiohaaGreatDoor
end
section
namespace Go.Proofs.YtijpgddpejiohaaGreatDoor
open Go Go.RowKit Go.Deep Go.Sort
/-- A block whose first cells are known. -/
def Pre (w : World) (b : Nat) (t : TypeId) (xs : List Value) : Prop := ∃ sp, Row w b t (xs ++ sp)
theorem Pre.of {w : World} {b : Nat} {t : TypeId} {xs : List Value} (h : Row w b t xs) : Pre w b t xs := ⟨[], by rw [List.append_nil]; exact h⟩
theorem Pre.lt {w : World} {b : Nat} {t : TypeId} {xs : List Value} (h : Pre w b t xs) : b < w.heap.size := by
  obtain ⟨sp, h⟩ := h; exact h.lt
theorem Pre.cell {w : World} {b : Nat} {t : TypeId} {xs : List Value} (h : Pre w b t xs) {i : Nat} {v : Value} (hi : xs[i]? = some v) : w.cell? ⟨b, i, none⟩ = some v := by
  obtain ⟨sp, h⟩ := h
  refine h.cell ?_
  have := (List.getElem?_eq_some_iff.1 hi).1
  rw [List.getElem?_append_left this]; exact hi
theorem Pre.free {w : World} {b : Nat} {t : TypeId} {xs : List Value} (h : Pre w b t xs) (i : Nat) : w.frozen? ⟨b, i, none⟩ = false := by
  obtain ⟨sp, h⟩ := h; exact h.free i
theorem Pre.set {w : World} {b : Nat} {t : TypeId} {xs : List Value} (h : Pre w b t xs) {i : Nat} (hi : i < xs.length) (v : Value) : Pre (w.setCell ⟨b, i, none⟩ v) b t (xs.set i v) := by
  obtain ⟨sp, h⟩ := h
  refine ⟨sp, ?_⟩
  have := h.set i v
  rwa [List.set_append_left _ _ hi] at this
theorem Pre.other {w : World} {b : Nat} {t : TypeId} {xs : List Value} (h : Pre w b t xs) {a : Addr} (ha : b ≠ a.block) (v : Value) : Pre (w.setCell a v) b t xs := by
  obtain ⟨sp, h⟩ := h; exact ⟨sp, h.other ha v⟩
theorem Pre.alloc {w : World} {b : Nat} {t : TypeId} {xs : List Value} (h : Pre w b t xs) (o : Obj) : Pre (w.alloc o) b t xs := by
  obtain ⟨sp, h⟩ := h; exact ⟨sp, h.alloc o⟩
theorem Pre.below' {w w' : World} {b : Nat} {t : TypeId} {xs : List Value} (h : Pre w b t xs) (hb : Below w.heap.size w w') : Pre w' b t xs := by
  obtain ⟨sp, h⟩ := h; exact ⟨sp, h.below' hb⟩
/-- A row of the call's own, as a block. -/
theorem pre_own {w : World} {B : Nat} {e : TypeId} {v : Value} {n : Nat} {xs : List Value} (h : w.ownsRow B e 1 v n xs) (h0 : 0 < n) : ∃ g cap, v = .slice (some ⟨g, 0, none⟩) n cap ∧ B ≤ g ∧ Pre w g e xs := by
  obtain ⟨h1, h2⟩ := h
  rcases h2 with ⟨_, h3⟩ | ⟨g, cap, cur, rfl, hg, hh, _, _, _, hx⟩
  · omega
  · refine ⟨g, cap, rfl, hg, cur.toList.drop (n * 1), ?_⟩
    rw [← hx, List.take_append_drop]
    unfold Row
    rw [Array.toArray_toList]; exact hh
namespace M
/-- A function with another value at one place. -/
def upd {α : Type} (f : Nat → α) (k : Nat) (v : α) : Nat → α := fun j => if j = k then v else f j
theorem upd_same {α : Type} (f : Nat → α) (k : Nat) (v : α) : upd f k v k = v := by unfold upd; rw [if_pos rfl]
theorem upd_other {α : Type} (f : Nat → α) {k j : Nat} (h : j ≠ k) (v : α) : upd f k v j = f j := by unfold upd; rw [if_neg h]
theorem mapR_upd (f : Nat → Rat) (k n : Nat) (q : Rat) : mapR (upd f k q) n = (mapR f n).set k (R q) := by
  apply List.ext_getElem
  · rw [List.length_set, mapR_len, mapR_len]
  · intro j h1 h2
    rw [mapR_len] at h1
    rw [mapR_get _ _ _ h1, List.getElem_set]
    by_cases e : k = j
    · subst e; rw [if_pos rfl, upd_same]
    · rw [if_neg e, mapR_get _ _ _ h1, upd_other _ (fun h => e h.symm)]
theorem mapR_congr {f g : Nat → Rat} {n : Nat} (h : ∀ k, k < n → f k = g k) : mapR f n = mapR g n := by
  unfold mapR
  apply List.map_congr_left
  intro k hk
  rw [h k (List.mem_range.1 hk)]
/-- The cells of a list of small numbers. -/
def intsV (b : Nat → Nat) (m : Nat) : List Value := (List.range m).map fun i => .int .i64 (b i : Int)
theorem intsV_upd (b : Nat → Nat) (k m c : Nat) : intsV (upd b k c) m = (intsV b m).set k (.int .i64 (c : Int)) := by
  unfold intsV
  apply List.ext_getElem
  · simp
  · intro j h1 h2
    have h3 : j < m := by simpa using h1
    rw [List.getElem_set]
    by_cases e : k = j
    · subst e; rw [if_pos rfl]; simp [upd_same]
    · rw [if_neg e]; simp [upd_other _ (show j ≠ k from fun h => e h.symm)]
theorem intsV_congr {f g : Nat → Nat} {n : Nat} (h : ∀ k, k < n → f k = g k) : intsV f n = intsV g n := by
  unfold intsV
  apply List.map_congr_left
  intro k hk
  rw [h k (List.mem_range.1 hk)]
/-- The cells of the table's rows. -/
def rowsV (h : Nat → Nat) (m L : Nat) : List Value := (List.range m).map fun i => .slice (some ⟨h i, 0, none⟩) L L
def wdt (n m : Nat) : Nat := 2 * n + m + 1
end M
open M
/-- The table at p: its sums at S, the list of its rows at gr, its basis at gb, row j at h j; the goal is row m. -/
structure TabS (w : World) (B p S gr gb cr cb : Nat) (h : Nat → Nat) (n m : Nat) (A : Nat → Nat → Rat) (b : Nat → Nat) : Prop where
  tab : Pre w p 108 [.pointer (some ⟨S, 0, none⟩), .int .i64 (n : Int), .int .i64 (m : Int), .slice (some ⟨gr, 0, none⟩) m cr, .slice (some ⟨gb, 0, none⟩) m cb, .slice (some ⟨h m, 0, none⟩) (wdt n m + 1) (wdt n m + 1)]
  err : NoErP w S
  rows : Pre w gr 23 (rowsV h m (wdt n m + 1))
  bas : Pre w gb 3 (intsV b m)
  mat : ∀ j, j ≤ m → Pre w (h j) 29 (Strs (mapR (A j) (wdt n m + 1)))
  blt : ∀ i, i < m → b i < wdt n m
  lowp : B ≤ p
  lowS : B ≤ S
  lowr : B ≤ gr
  lowb : B ≤ gb
  lowh : ∀ j, j ≤ m → B ≤ h j
  inj : ∀ i j, i ≤ m → j ≤ m → h i = h j → i = j
  hne : ∀ j, j ≤ m → h j ≠ p ∧ h j ≠ S ∧ h j ≠ gr ∧ h j ≠ gb
  pne : p ≠ S ∧ p ≠ gr ∧ p ≠ gb ∧ S ≠ gr ∧ S ≠ gb ∧ gr ≠ gb
  gl : Glob w
  hB : 8 ≤ B
  hn : n ≤ 100
  hm : m ≤ 1000
section
variable {w w' : World} {B p S gr gb cr cb : Nat} {h : Nat → Nat} {n m : Nat} {A : Nat → Nat → Rat} {b : Nat → Nat}
theorem TabS.below' (t : TabS w B p S gr gb cr cb h n m A b) (hb : Below w.heap.size w w') : TabS w' B p S gr gb cr cb h n m A b :=
  { t with gl := t.gl.of hb, tab := t.tab.below' hb, err := t.err.below' hb, rows := t.rows.below' hb, bas := t.bas.below' hb, mat := fun j hj => (t.mat j hj).below' hb }
theorem TabS.congr (t : TabS w B p S gr gb cr cb h n m A b) {A2 : Nat → Nat → Rat} {b2 : Nat → Nat} (h1 : ∀ j, j ≤ m → ∀ k, k ≤ wdt n m → A j k = A2 j k) (h2 : ∀ i, i < m → b i = b2 i) : TabS w B p S gr gb cr cb h n m A2 b2 :=
  { t with bas := by rw [← intsV_congr h2]; exact t.bas, mat := fun j hj => by rw [← mapR_congr (fun k hk => h1 j hj k (by omega))]; exact t.mat j hj, blt := fun i hi => by rw [← h2 i hi]; exact t.blt i hi }
theorem TabS.c0 (t : TabS w B p S gr gb cr cb h n m A b) : w.cell? ⟨p, 0, none⟩ = some (.pointer (some ⟨S, 0, none⟩)) := t.tab.cell rfl
theorem TabS.c1 (t : TabS w B p S gr gb cr cb h n m A b) : w.cell? ⟨p, 1, none⟩ = some (.int .i64 (n : Int)) := t.tab.cell rfl
theorem TabS.c2 (t : TabS w B p S gr gb cr cb h n m A b) : w.cell? ⟨p, 2, none⟩ = some (.int .i64 (m : Int)) := t.tab.cell rfl
theorem TabS.c3 (t : TabS w B p S gr gb cr cb h n m A b) : w.cell? ⟨p, 3, none⟩ = some (.slice (some ⟨gr, 0, none⟩) m cr) := t.tab.cell rfl
theorem TabS.c4 (t : TabS w B p S gr gb cr cb h n m A b) : w.cell? ⟨p, 4, none⟩ = some (.slice (some ⟨gb, 0, none⟩) m cb) := t.tab.cell rfl
theorem TabS.c5 (t : TabS w B p S gr gb cr cb h n m A b) : w.cell? ⟨p, 5, none⟩ = some (.slice (some ⟨h m, 0, none⟩) (wdt n m + 1) (wdt n m + 1)) := t.tab.cell rfl
theorem TabS.crow (t : TabS w B p S gr gb cr cb h n m A b) {j : Nat} (hj : j < m) : w.cell? ⟨gr, j, none⟩ = some (.slice (some ⟨h j, 0, none⟩) (wdt n m + 1) (wdt n m + 1)) :=
  t.rows.cell (by simp [rowsV, hj])
theorem TabS.cbas (t : TabS w B p S gr gb cr cb h n m A b) {i : Nat} (hi : i < m) : w.cell? ⟨gb, i, none⟩ = some (.int .i64 (b i : Int)) :=
  t.bas.cell (by simp [intsV, hi])
theorem TabS.ce (t : TabS w B p S gr gb cr cb h n m A b) {j k : Nat} (hj : j ≤ m) (hk : k ≤ wdt n m) : w.cell? ⟨h j, k, none⟩ = some (.string (bs (R (A j k)))) :=
  (t.mat j hj).cell (by simp [Strs, mapR, show k < wdt n m + 1 by omega])
theorem TabS.fe (t : TabS w B p S gr gb cr cb h n m A b) {j : Nat} (hj : j ≤ m) (k : Nat) : w.frozen? ⟨h j, k, none⟩ = false := (t.mat j hj).free k
theorem TabS.fb (t : TabS w B p S gr gb cr cb h n m A b) (k : Nat) : w.frozen? ⟨gb, k, none⟩ = false := t.bas.free k
theorem TabS.ft (t : TabS w B p S gr gb cr cb h n m A b) (k : Nat) : w.frozen? ⟨p, k, none⟩ = false := t.tab.free k
theorem TabS.setA (t : TabS w B p S gr gb cr cb h n m A b) {j k : Nat} (hj : j ≤ m) (hk : k ≤ wdt n m) (q : Rat) :
    TabS (w.setCell ⟨h j, k, none⟩ (.string (bs (R q)))) B p S gr gb cr cb h n m (upd A j (upd (A j) k q)) b := by
  obtain ⟨n1, n2, n3, n4⟩ := t.hne j hj
  refine { t with gl := t.gl.below ((Below.refl B w).setCell (p := ⟨h j, k, none⟩) (t.lowh j hj) _) t.hB, tab := t.tab.other (fun e => n1 e.symm) _, err := Row.other t.err (fun e => n2 e.symm) _, rows := t.rows.other (fun e => n3 e.symm) _, bas := t.bas.other (fun e => n4 e.symm) _, mat := fun i hi => ?_ }
  by_cases e : i = j
  · subst e
    rw [upd_same, mapR_upd]
    have h2 := (t.mat i hi).set (i := k) (by simp [Strs, mapR_len]; omega) (.string (bs (R q)))
    have e2 : Strs ((mapR (A i) (wdt n m + 1)).set k (R q)) = (Strs (mapR (A i) (wdt n m + 1))).set k (.string (bs (R q))) := by simp [Strs, List.map_set]
    rw [e2]; exact h2
  · rw [upd_other _ e]
    exact (t.mat i hi).other (fun e2 => e (t.inj i j hi hj e2)) _
theorem TabS.setB (t : TabS w B p S gr gb cr cb h n m A b) {r c : Nat} (hr : r < m) (hc : c < wdt n m) :
    TabS (w.setCell ⟨gb, r, none⟩ (.int .i64 (c : Int))) B p S gr gb cr cb h n m A (upd b r c) := by
  obtain ⟨_, _, n3, _, n5, n6⟩ := t.pne
  refine { t with gl := t.gl.below ((Below.refl B w).setCell (p := ⟨gb, r, none⟩) t.lowb _) t.hB, tab := t.tab.other n3 _, err := Row.other t.err n5 _, rows := t.rows.other n6 _, bas := ?_, mat := fun i hi => (t.mat i hi).other (t.hne i hi).2.2.2 _, blt := fun i hi => ?_ }
  · rw [intsV_upd]; exact t.bas.set (by simp [intsV]; exact hr) _
  · unfold upd; split
    · exact hc
    · exact t.blt i hi
theorem TabS.belowA (t : TabS w B p S gr gb cr cb h n m A b) {w0 : World} (h0 : Below B w0 w) {j : Nat} (hj : j ≤ m) (k : Nat) (v : Value) : Below B w0 (w.setCell ⟨h j, k, none⟩ v) := h0.setCell (p := ⟨h j, k, none⟩) (t.lowh j hj) v
theorem TabS.belowB (t : TabS w B p S gr gb cr cb h n m A b) {w0 : World} (h0 : Below B w0 w) (k : Nat) (v : Value) : Below B w0 (w.setCell ⟨gb, k, none⟩ v) := h0.setCell (p := ⟨gb, k, none⟩) t.lowb v
end
end Go.Proofs.YtijpgddpejiohaaGreatDoor
end
section
namespace Go.Proofs.YtijpgddpejiohaaGreatDoor
open Go Go.RowKit Go.Deep
namespace M
abbrev Mx := Nat → Nat → Rat
/-- Row r determines column c. -/
def pivA (A : Mx) (r c : Nat) : Mx := fun i k => if i = r then A r k / A r c else A i k - A i c * (A r k / A r c)
/-- A table that is written out: its rows, the goal last; the columns that the rows determine. -/
structure Tbl where
  rows : List (List Rat)
  bas : List Nat
def Tbl.A (t : Tbl) : Mx := fun j k => nth (t.rows.getD j []) k
def Tbl.b (t : Tbl) : Nat → Nat := fun i => t.bas.getD i 0
def tab (n m : Nat) (A : Mx) (b : Nat → Nat) : Tbl := ⟨(List.range (m + 1)).map fun j => (List.range (wdt n m + 1)).map fun k => A j k, (List.range m).map b⟩
theorem nth_map (f : Nat → Rat) (n k : Nat) (h : k < n) : nth ((List.range n).map f) k = f k := by unfold nth; simp [h]
theorem tab_A {n m : Nat} (A : Mx) (b : Nat → Nat) {j k : Nat} (hj : j ≤ m) (hk : k ≤ wdt n m) : (tab n m A b).A j k = A j k := by
  unfold Tbl.A tab
  simp only
  rw [show ((List.range (m + 1)).map fun j => (List.range (wdt n m + 1)).map fun k => A j k).getD j [] = (List.range (wdt n m + 1)).map fun k => A j k by simp [show j < m + 1 by omega]]
  exact nth_map _ _ _ (by omega)
theorem tab_b {n m : Nat} (A : Mx) (b : Nat → Nat) {i : Nat} (hi : i < m) : (tab n m A b).b i = b i := by
  unfold Tbl.b tab; simp [hi]
def smallQ (ez : Nat) (q : Rat) : Bool := decide (q.num.natAbs < 10 ^ ez) && decide (q.den < 10 ^ ez)
theorem smallQ_bq {ez : Nat} {q : Rat} (h : smallQ ez q = true) : Bq ez q := by
  unfold smallQ at h
  simp only [Bool.and_eq_true, decide_eq_true_eq] at h
  exact h
def smallT (ez n m : Nat) (t : Tbl) : Bool := (List.range (m + 1)).all fun j => (List.range (wdt n m + 1)).all fun k => smallQ ez (t.A j k)
theorem smallT_bq {ez n m : Nat} {t : Tbl} (h : smallT ez n m t = true) {j k : Nat} (hj : j ≤ m) (hk : k ≤ wdt n m) : Bq ez (t.A j k) := by
  unfold smallT at h
  rw [List.all_eq_true] at h
  have h1 := h j (List.mem_range.2 (by omega))
  rw [List.all_eq_true] at h1
  exact smallQ_bq (h1 k (List.mem_range.2 (by omega)))
def smallL (ez : Nat) (l : List Rat) : Bool := l.all (smallQ ez)
theorem smallL_bq {ez : Nat} {l : List Rat} (h : smallL ez l = true) : ∀ q ∈ l, Bq ez q := fun q hq => smallQ_bq (List.all_eq_true.1 h q hq)
/-- The first column that makes the goal greater, but for one. -/
def colT (n m : Nat) (A : Mx) (ban : Option Nat) : Option Nat := (List.range (wdt n m)).find? fun c => decide (some c ≠ ban) && decide (0 < A m c)
/-- One row looked at for leaving. -/
def lvOne (A : Mx) (b : Nat → Nat) (c wd i : Nat) : Option Nat × Rat → Option Nat × Rat
  | (none, l) => if A i c ≤ 0 then (none, l) else (some i, A i wd / A i c)
  | (some k, l) => if A i c ≤ 0 then (some k, l) else
      if A i wd / A i c < l ∨ (A i wd / A i c = l ∧ b i < b k) then (some i, A i wd / A i c) else (some k, l)
def lvS (A : Mx) (b : Nat → Nat) (c wd : Nat) : Nat → Option Nat × Rat
  | 0 => (none, 0)
  | i + 1 => lvOne A b c wd i (lvS A b c wd i)
def leaveT (n m : Nat) (A : Mx) (b : Nat → Nat) (c : Nat) : Option Nat := (lvS A b c (wdt n m) m).1
def pivT (n m : Nat) (t : Tbl) (r c : Nat) : Tbl := tab n m (pivA t.A r c) (upd t.b r c)
/-- The goal made as great as possible: whether there is an end, and the table. -/
def climbT (ez n m : Nat) (ban : Option Nat) : Nat → Tbl → Option (Bool × Tbl)
  | 0, _ => none
  | f + 1, t => if smallT ez n m t = false then none else
    match colT n m t.A ban with
    | none => some (true, t)
    | some c => match leaveT n m t.A t.b c with
      | none => some (false, t)
      | some r => climbT ez n m ban f (pivT n m t r c)
/-- The row of the least right side that is negative. -/
def wsOne (A : Mx) (wd i : Nat) : Option Nat → Option Nat
  | none => if 0 ≤ A i wd then none else some i
  | some k => if 0 ≤ A i wd then some k else if A k wd ≤ A i wd then some k else some i
def wsS (A : Mx) (wd : Nat) : Nat → Option Nat
  | 0 => none
  | i + 1 => wsOne A wd i (wsS A wd i)
/-- What is missing leaves the table. -/
def outT (n m : Nat) (t : Tbl) : Tbl :=
  match (List.range m).find? fun i => decide (t.b i = wdt n m - 1) with
  | none => t
  | some r => match (List.range (wdt n m - 1)).find? fun c => decide (t.A r c ≠ 0) with
    | none => t
    | some c => pivT n m t r c
def readyC (ez n m f : Nat) (t : Tbl) : Option (Bool × Tbl) :=
  if smallT ez n m t = false then none else
  match wsS t.A (wdt n m) m with
  | none => some (true, t)
  | some w =>
    if t.A w (wdt n m - 1) = 0 then none else
    match climbT ez n m none f (tab n m (pivA (upd t.A m (upd (t.A m) (wdt n m - 1) (-1))) w (wdt n m - 1)) (upd t.b w (wdt n m - 1))) with
    | none => none
    | some (_, t1) => if t1.A m (wdt n m) ≠ 0 then some (false, t1) else some (true, outT n m t1)
def readyT (ez n m f : Nat) (t : Tbl) : Option (Bool × Tbl) := match readyC ez n m f t with
  | none => none
  | some s => if smallT ez n m s.2 = true then some s else none
/-- The numbers of the columns. -/
def allS (A : Mx) (b : Nat → Nat) (wd : Nat) : Nat → Nat → Rat
  | 0 => fun _ => 0
  | i + 1 => upd (allS A b wd i) (b i) (A i wd)
def pointF (n m : Nat) (A : Mx) (b : Nat → Nat) (k : Nat) : Rat := allS A b (wdt n m) m k - allS A b (wdt n m) m (n + k)
def weightF (n m : Nat) (A : Mx) (i : Nat) : Rat := - A m (2 * n + i)
/-- The first goal: the unknowns with both signs. -/
def goalF (n : Nat) (goal : List Rat) (k : Nat) : Rat := if k < n then nth goal k else if k < 2 * n then - nth goal (k - n) else 0
/-- The goal without the columns that the first i rows determine. -/
def aimT (ez n m : Nat) (A : Mx) (b : Nat → Nat) (goal : List Rat) : Nat → Option (List Rat)
  | 0 => some ((List.range (wdt n m + 1)).map (goalF n goal))
  | i + 1 => match aimT ez n m A b goal i with
    | none => none
    | some g => if smallL ez g = true then some ((List.range (wdt n m + 1)).map fun k => nth g k - nth g (b i) * A i k) else none
/-- The row of bound number j; the goal is 0. -/
def laidA (n : Nat) (l : List BQ) : Mx := fun j k =>
  if j < l.length then
    if k < n then nth (l.getD j ([], 0)).1 k else if k < 2 * n then - nth (l.getD j ([], 0)).1 (k - n)
    else if k = 2 * n + j then 1 else if k = wdt n l.length - 1 then -1 else if k = wdt n l.length then (l.getD j ([], 0)).2 else 0
  else 0
def laidT (n : Nat) (l : List BQ) : Tbl := tab n l.length (laidA n l) fun i => 2 * n + i
/-- What Most computes: the value, a point, the weights; or the number of the error. -/
def mostT (ez f n : Nat) (l : List BQ) (goal : List Rat) : Option ((Rat × List Rat × List Rat) ⊕ Nat) :=
  match readyT ez n l.length f (laidT n l) with
  | none => none
  | some (false, _) => some (.inr 6)
  | some (true, t) => match aimT ez n l.length t.A t.b goal l.length with
    | none => none
    | some g => match climbT ez n l.length (some (wdt n l.length - 1)) f (tab n l.length (upd t.A l.length (nth g)) t.b) with
      | none => none
      | some (ok, t2) =>
        let p := (List.range n).map (pointF n l.length t2.A t2.b)
        if smallL ez p = true then (if ok = true then some (.inl (dotP goal p n, p, (List.range l.length).map (weightF n l.length t2.A))) else some (.inr 14)) else none
/-- What Feasible computes: a point, or weights. -/
def feasT (ez f n : Nat) (l : List BQ) : Option (List Rat ⊕ List Rat) :=
  match readyT ez n l.length f (laidT n l) with
  | none => none
  | some (true, t) => some (.inl ((List.range n).map (pointF n l.length t.A t.b)))
  | some (false, t) => some (.inr ((List.range l.length).map (weightF n l.length t.A)))
theorem fx1 : mostT 20 10 2 [([1, 1], 4), ([-1, 0], 0), ([0, -1], 0)] [2, 3] = some (.inl (12, [0, 4], [3, 1, 0])) := by decide +kernel
theorem fx2 : feasT 20 10 1 [([1], 1), ([-1], -2)] = some (.inr [1 / 2, 1 / 2]) := by decide +kernel
theorem fx3 : mostT 20 10 1 [([-1], 0)] [1] = some (.inr 14) := by decide +kernel
end M
end Go.Proofs.YtijpgddpejiohaaGreatDoor
end
