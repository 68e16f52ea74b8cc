/-
  Chapter 5: the sum of products, on both sides.
  Chapter 5: which bounds a point keeps; 'Verify' on both sides.
  Chapter 5: 'Verify' on both sides.
  A region that draws its order: reads and calls that lay blocks at most, then a tail in one forced order (a store, an append). The head goes by the walk of the lexical order over a class of worlds; the tail is walked from any world of the class.
  Chapter 5: the reference's weighted sums.
-/
import Derived.Test.YtfonphlcfkkgaaaGreatDoorKJ
import Derived.StillTail
import Derived.Lib.QuietBelow
section
namespace Go.Proofs.YtfonphlcfkkgaaaGreatDoor
open Go Go.RowKit Go.Deep Go.Sort
namespace M
/-- The texts of numbers. -/
def rx (l : List Rat) : List (List UInt8) := l.map R
theorem rx_len (l : List Rat) : (rx l).length = l.length := by simp [rx]
theorem rx_get (l : List Rat) (i : Nat) (h : i < l.length) : (rx l)[i]'(by rw [rx_len]; exact h) = R l[i] := by simp [rx]
/-- The sum of the first products. -/
def dotP (a b : List Rat) : Nat → Rat
  | 0 => 0
  | i + 1 => dotP a b i + nth a i * nth b i
theorem nth_get (l : List Rat) (i : Nat) (h : i < l.length) : nth l i = l[i] := by unfold nth; simp [h]
theorem Bq_nil : Bq 1 (0 : Rat) := by unfold Bq; decide +kernel
theorem dotP_bq {a b : List Rat} {e e2 : Nat} (ha : ∀ x ∈ a, Bq e x) (hb : ∀ x ∈ b, Bq e2 x) : ∀ i, i ≤ a.length → i ≤ b.length → Bq ((e + e2 + 1) * i + 1) (dotP a b i)
  | 0, _, _ => Bq_nil
  | i + 1, h1, h2 => by
    have ih := dotP_bq ha hb i (by omega) (by omega)
    unfold dotP
    rw [nth_get a i (by omega), nth_get b i (by omega)]
    have := ih.add ((ha _ (List.getElem_mem (show i < a.length by omega))).mul (hb _ (List.getElem_mem (show i < b.length by omega))))
    refine this.mono ?_
    rw [Nat.mul_succ]; omega
end M
namespace W
open M
attribute [local go_sem] bs_size bs_toList bs_get bs_extract bs_append bs_lit0 bs_lit1 lit1_bs
set_option maxHeartbeats 1000000
set_option maxRecDepth 20000
theorem rdot (va vb : Value) (a b : List Rat) (e : Nat) (w : World) (ha : RdT w va (rx a)) (hb : RdT w vb (rx b)) (hab : a.length ≤ b.length) (hn : (e + e + 1) * a.length + 1 ≤ 800) (ea : ∀ x ∈ a, Bq e x) (eb : ∀ x ∈ b, Bq e x) (he1 : 1 ≤ e) (he2 : e ≤ 300) :
    Calls Tryz.prog 87 #[va, vb] w (Ret w (.string (bs (R (dotP a b a.length))))) := by
  obtain ⟨A, ca, rfl⟩ := ha.len
  obtain ⟨B, cb, rfl⟩ := hb.len
  have HA := Lib.hid ha
  have HB := Lib.hid hb
  have HD := Lib.hid (fun i (hi : i ≤ a.length) => dotP_bq ea eb i hi (by omega))
  have HT := Lib.hid (fun i (hi : i < a.length) W => timesR a[i] (b[i]'(by omega)) W ((ea _ (List.getElem_mem hi)).sh he1 (by omega)) ((eb _ (List.getElem_mem (by omega))).sh he1 (by omega)))
  have HP := Lib.hid (fun i (hi : i < a.length) W => plus_R (dotP a b i) (a[i] * b[i]'(by omega)) W ((HD.out i (by omega)).sh (by omega) (by
    have : (e + e + 1) * i ≤ (e + e + 1) * a.length := Nat.mul_le_mul_left _ (by omega)
    omega)) (((ea _ (List.getElem_mem hi)).mul (eb _ (List.getElem_mem (show i < b.length by omega)))).sh (by omega) (by omega)))
  have HS := Lib.hid (fun i (hi : i < a.length) => (show dotP a b (i + 1) = dotP a b i + a[i] * b[i]'(by omega) by
    show dotP a b i + nth a i * nth b i = _
    rw [nth_get a i hi, nth_get b i (by omega)]))
  have han : a.length ≤ 800 := by
    have : 1 * a.length ≤ (e + e + 1) * a.length := Nat.mul_le_mul_right _ (by omega)
    omega
  rw [rx_len a] at HA ⊢
  rw [rx_len b] at HB ⊢
  clear ha hb ea eb HD hn
  go_enter Tryz.func87, Tryz.ntmps87
  go_wp2
  go_loopw [5, 6] (fun sv iv wr => ∃ i : Nat, iv = .int .i64 (i : Int) ∧ i ≤ a.length ∧ sv = .string (bs (R (dotP a b i))) ∧ Below w.heap.size w wr) (fun _ iv _ => a.length - (intOf iv).toNat)
  case atStart => exact ⟨0, rfl, by omega, by rw [show dotP a b 0 = 0 from rfl, R_nil]; rfl, Below.refl _ _⟩
  case round =>
    obtain ⟨i, rfl, hi, rfl, hbw⟩ := hrel
    by_cases hlt : i < a.length
    · have ha2 := HA.out
      rw [← rx_len a] at ha2
      have hb2 := HB.out
      rw [← rx_len b] at hb2
      obtain ⟨b1, o1, rfl, hw1⟩ := ha2.row i (by rw [rx_len]; exact hlt)
      obtain ⟨b2, o2, rfl, hw2⟩ := hb2.row i (by rw [rx_len]; omega)
      have c0 := (hw1.below' hbw).val i (by rw [rx_len]; exact hlt)
      have c1 := (hw2.below' hbw).val i (by rw [rx_len]; omega)
      rw [rx_get a i hlt] at c0
      rw [rx_get b i (by omega)] at c1
      have k1 := reg_of (w := wr) (fun W _ => HT.out i hlt W)
      have k2 := reg_of (w := wr) (fun W _ => HP.out i hlt W)
      rw [← HS.out i hlt] at k2
      have m0 := cell_regrown c0
      have m1 := cell_regrown c1
      have e1 : ∀ args w, (callFunc 24 args).run Tryz.prog w = .ok (.enter 24 args) w := enters_of Tryz.func24 (by kernel_rfl) rfl
      have e2 : ∀ args w, (callFunc 25 args).run Tryz.prog w = .ok (.enter 25 args) w := enters_of Tryz.func25 (by kernel_rfl) rfl
      have hi0 : (0 : Int) ≤ (i : Int) := by omega
      have his : (i : Int) < (a.length : Int) := by omega
      have hjs : (i : Int) < (b.length : Int) := by omega
      clear ha2 hb2 hw1 hw2 c0 c1
      generalize hs2 : R (dotP a b (i + 1)) = s2 at *
      have HS2 := Lib.hid hs2
      clear hs2
      go_wp2_with fail
      refine wp_region_quiet_below (by kernel_rfl) (by kernel_rfl) ?_
      repeat (go_big_quiet_step (fail))
      go_big_quiet_step (exact k1 _ _)
      repeat (go_big_quiet_step (fail))
      go_big_quiet_step (exact k2 _ _)
      repeat (go_big_quiet_step (fail))
      refine wpQuiet_nil ?_
      intro W6 hw'
      have hb6 : Below wr.heap.size wr W6 := by obtain ⟨p, e⟩ := hw'; rw [e]; exact below_regrown wr p.d p.os
      have HB6 := Lib.hid (bel_to hbw hb6)
      clear k1 k2 m0 m1 e1 e2 hw' hb6
      go_wp2
      go_roundw
      case rel => exact ⟨i + 1, by go_num, hlt, by rw [HS2.out], HB6.out⟩
      case measure => simp [intOf]; omega
    · obtain rfl : i = a.length := by omega
      clear HT HP HS
      go_wp2
      go_ret
      exact Ret.of rfl hbw
theorem pdot (S : Nat) (va vb : Value) (a b : List Rat) (e e2 : Nat) (w : World) (hg : Glob w) (hs : NoErP w S) (ha : RdT w va (rx a)) (hb : RdT w vb (rx b)) (hab : a.length ≤ b.length) (hn : (e + e2 + 1) * a.length + 1 ≤ 1000) (ea : ∀ x ∈ a, Bq e x) (eb : ∀ x ∈ b, Bq e2 x) (he2 : e + e2 ≤ 1000) :
    Calls Tryz.prog 81 #[.pointer (some ⟨S, 0, none⟩), va, vb] w (Ret w (.string (bs (R (dotP a b a.length))))) := by
  obtain ⟨A, ca, rfl⟩ := ha.len
  obtain ⟨B, cb, rfl⟩ := hb.len
  have HA := Lib.hid ha
  have HB := Lib.hid hb
  have HD := Lib.hid (fun i (hi : i ≤ a.length) => dotP_bq ea eb i hi (by omega))
  have HT := Lib.hid (fun i (hi : i < a.length) W (hW : Below w.heap.size w W) => ratMul a[i] (b[i]'(by omega)) e e2 W (hg.of hW) (ea _ (List.getElem_mem hi)) (eb _ (List.getElem_mem (by omega))) (by omega))
  have HP := Lib.hid (fun i (hi : i < a.length) W (hW : Below w.heap.size w W) => ratAdd (dotP a b i) (a[i] * b[i]'(by omega)) ((e + e2 + 1) * i + 1) (e + e2) W (hg.of hW) (HD.out i (by omega)) ((ea _ (List.getElem_mem hi)).mul (eb _ (List.getElem_mem (show i < b.length by omega)))) (by
    have h1 : (e + e2 + 1) * (i + 1) ≤ (e + e2 + 1) * a.length := Nat.mul_le_mul_left _ hi
    rw [Nat.mul_succ] at h1
    omega))
  have HO := Lib.hid (fun s W (hW : Below w.heap.size w W) => psof S s W (hs.below' hW))
  have HS := Lib.hid (fun i (hi : i < a.length) => (show dotP a b (i + 1) = dotP a b i + a[i] * b[i]'(by omega) by
    show dotP a b i + nth a i * nth b i = _
    rw [nth_get a i hi, nth_get b i (by omega)]))
  have han : a.length ≤ 1000 := by
    have : 1 * a.length ≤ (e + e2 + 1) * a.length := Nat.mul_le_mul_right _ (by omega)
    omega
  rw [rx_len a] at HA ⊢
  rw [rx_len b] at HB ⊢
  clear ha hb ea eb HD hn hs
  go_enter Tryz.func81, Tryz.ntmps81
  go_wp2
  go_loopw [7, 12] (fun sv iv wr => ∃ i : Nat, iv = .int .i64 (i : Int) ∧ i ≤ a.length ∧ sv = .string (bs (R (dotP a b i))) ∧ Below w.heap.size w wr) (fun _ iv _ => a.length - (intOf iv).toNat)
  case atStart => exact ⟨0, rfl, by omega, by rw [show dotP a b 0 = 0 from rfl, R_nil]; rfl, Below.refl _ _⟩
  case round =>
    obtain ⟨i, rfl, hi, rfl, hbw⟩ := hrel
    by_cases hlt : i < a.length
    · have ha2 := HA.out
      rw [← rx_len a] at ha2
      have hb2 := HB.out
      rw [← rx_len b] at hb2
      obtain ⟨b1, o1, rfl, hw1⟩ := ha2.row i (by rw [rx_len]; exact hlt)
      obtain ⟨b2, o2, rfl, hw2⟩ := hb2.row i (by rw [rx_len]; omega)
      have c0 := (hw1.below' hbw).val i (by rw [rx_len]; exact hlt)
      have c1 := (hw2.below' hbw).val i (by rw [rx_len]; omega)
      rw [rx_get a i hlt] at c0
      rw [rx_get b i (by omega)] at c1
      have HTI := Lib.hid (fun W hW => HT.out i hlt W hW)
      have HPI := Lib.hid (fun W hW => HP.out i hlt W hW)
      have hsi := HS.out i hlt
      have HL1 := Lib.hid (hw1.below' hbw).lt
      have HL2 := Lib.hid (hw2.below' hbw).lt
      clear ha2 hb2 hw1 hw2
      by_cases hx : a[i] = 0
      · have e1 := R_is0.2 hx
        have hs1 : dotP a b (i + 1) = dotP a b i := by rw [hsi, hx]; grind
        have HSS := Lib.hid hs1
        clear hsi hs1 HTI HPI hx
        generalize R a[i] = sx at *
        subst e1
        go_wp2
        go_roundw
        case rel => exact ⟨i + 1, by go_num, hlt, by rw [HSS.out], hbw⟩
        case measure => simp [intOf]; omega
      · have nx : (R a[i] == [48]) = false := by rw [beq_eq_false_iff_ne]; exact fun h => hx (R_is0.1 h)
        by_cases hy : b[i]'(by omega) = 0
        · have e1 := R_is0.2 hy
          have hs1 : dotP a b (i + 1) = dotP a b i := by rw [hsi, hy]; grind
          have HSS := Lib.hid hs1
          clear hsi hs1 HTI HPI hy hx
          generalize R a[i] = sx at *
          generalize R (b[i]'(by omega)) = sy at *
          subst e1
          go_wp2
          go_roundw
          case rel => exact ⟨i + 1, by go_num, hlt, by rw [HSS.out], hbw⟩
          case measure => simp [intOf]; omega
        · have ny : (R (b[i]'(by omega)) == [48]) = false := by rw [beq_eq_false_iff_ne]; exact fun h => hy (R_is0.1 h)
          rw [← hsi] at HPI
          clear hsi hx hy
          generalize R a[i] = sx at *
          generalize R (b[i]'(by omega)) = sy at *
          generalize R (a[i] * b[i]'(by omega)) = sp at *
          generalize R (dotP a b i) = s1 at *
          generalize hs2 : R (dotP a b (i + 1)) = s2 at *
          have HS2 := Lib.hid hs2
          clear hs2
          go_wp2_with fail
          refine (HTI.out _ hbw).mono ?_
          rintro e w1 ⟨rfl, hb1⟩
          have h1 := bel_to hbw hb1
          clear hb1 HTI
          go_wp2_with fail
          refine (HO.out _ _ h1).mono ?_
          rintro e w2 ⟨rfl, hb2⟩
          have h2 := bel_to h1 hb2
          clear hb2 h1
          go_wp2_with fail
          refine (HPI.out _ h2).mono ?_
          rintro e w3 ⟨rfl, hb3⟩
          have h3 := bel_to h2 hb3
          clear hb3 h2 HPI
          go_wp2_with fail
          refine (HO.out _ _ h3).mono ?_
          rintro e w4 ⟨rfl, hb4⟩
          have h4 := bel_to h3 hb4
          clear hb4 h3
          go_wp2
          go_roundw
          case rel => exact ⟨i + 1, by go_num, hlt, by rw [HS2.out], h4⟩
          case measure => simp [intOf]; omega
    · obtain rfl : i = a.length := by omega
      clear HT HP HS
      go_wp2
      go_ret
      exact Ret.of rfl hbw
end W
end Go.Proofs.YtfonphlcfkkgaaaGreatDoor
end
section
namespace Go.Proofs.YtfonphlcfkkgaaaGreatDoor
open Go Go.RowKit Go.Deep Go.Sort
namespace M
/-- Bounds on the wire. -/
def bx (l : List BQ) : List BT := l.map fun b => (rx b.1, R b.2)
theorem bx_len (l : List BQ) : (bx l).length = l.length := by simp [bx]
theorem bx_get (l : List BQ) (i : Nat) (h : i < l.length) : (bx l)[i]'(by rw [bx_len]; exact h) = (rx l[i].1, R l[i].2) := by simp [bx]
/-- Short numbers, rows of one length. -/
def RightB (n : Nat) (l : List BQ) : Prop := ∀ b ∈ l, b.1.length = n ∧ (∀ x ∈ b.1, Bq 8 x) ∧ Bq 8 b.2
def valQ (b : BQ) (p : List Rat) : Rat := dotP b.1 p b.1.length
def keepsB (b : BQ) (p : List Rat) : Bool := decide (valQ b p ≤ b.2)
end M
namespace W
open M
attribute [local go_sem] bs_size bs_toList bs_get bs_extract bs_append bs_lit0 bs_lit1 lit1_bs
set_option maxHeartbeats 1000000
set_option maxRecDepth 20000
theorem valQ_bq {n : Nat} {b : BQ} {p : List Rat} (hn : n ≤ 8) (h1 : b.1.length = n) (h2 : ∀ x ∈ b.1, Bq 8 x) (hp : n ≤ p.length) (h3 : ∀ x ∈ p, Bq 30 x) : Bq 489 (valQ b p) :=
  (dotP_bq h2 h3 _ (Nat.le_refl _) (by omega)).mono (by omega)
theorem cmpQ_le5 {a b : Rat} : cmpQ a b ≤ 0 ↔ a ≤ b := by rw [← Int.not_lt, cmpQ_gt, Rat.not_lt]
theorem rvalue (u vp : Value) (a p : List Rat) (w : World) (hu : RdT w u (rx a)) (hp : RdT w vp (rx p)) (hab : a.length ≤ p.length) (hn : a.length ≤ 8) (ea : ∀ x ∈ a, Bq 30 x) (ep : ∀ x ∈ p, Bq 30 x) :
    Calls Tryz.prog 26 #[u, vp] w (Ret w (.string (bs (R (dotP a p a.length))))) := by
  have HD := Lib.hid (rdot u vp a p 30 w hu hp hab (by omega) ea ep (by decide) (by decide))
  clear hu hp ea ep
  go_enter Tryz.func26, Tryz.ntmps26
  go_wp2_with fail
  refine (HD.out).mono ?_
  rintro e w1 ⟨rfl, hb1⟩
  go_wp2
  go_ret
  exact Ret.of rfl hb1
theorem rkeeps (u vp : Value) (b : BQ) (p : List Rat) (n : Nat) (w : World) (hu : RdT w u (rx b.1)) (hp : RdT w vp (rx p)) (hn : n ≤ 8) (h1 : b.1.length = n) (h2 : ∀ x ∈ b.1, Bq 8 x) (h3 : Bq 8 b.2) (h4 : p.length = n) (h5 : ∀ x ∈ p, Bq 30 x) :
    Calls Tryz.prog 257 #[.agg #[u, .string (bs (R b.2))], vp] w (Ret w (.bool (keepsB b p))) := by
  have hr := Row.new w 33 [u, .string (bs (R b.2))]
  have hb0 : Below w.heap.size w (w.alloc (.cells #[u, .string (bs (R b.2))] 33)) := (Below.refl _ _).alloc (Nat.le_refl _) _
  have hv := valQ_bq hn h1 h2 (by omega : n ≤ p.length) h5
  have k1 := reg_of (w := w.alloc (.cells #[u, .string (bs (R b.2))] 33)) (fun W hW => rvalue u vp b.1 p W (hu.below (bel_to hb0 hW)) (hp.below (bel_to hb0 hW)) (by omega) (by omega) (fun x hx => (h2 x hx).mono (by decide)) h5)
  have HO : ∀ W, Calls Tryz.prog 31 #[.string (bs (R (dotP b.1 p b.1.length))), .string (bs (R b.2))] W (Ret W (.int .i64 (cmpQ (dotP b.1 p b.1.length) b.2))) := fun W => order_R (valQ b p) b.2 W (hv.sh (by decide) (by decide)) (h3.sh (by decide) (by decide))
  have hd : decide (cmpQ (valQ b p) b.2 ≤ 0) = keepsB b p := by unfold keepsB; simp only [cmpQ_le5]
  have m0 := cell_regrown (hr.cell (i := 0) rfl)
  have m1 := cell_regrown (hr.cell (i := 1) rfl)
  have e1 : ∀ args w, (callFunc 26 args).run Tryz.prog w = .ok (.enter 26 args) w := enters_of Tryz.func26 (by kernel_rfl) rfl
  have e2 : ∀ args w, (callFunc 31 args).run Tryz.prog w = .ok (.enter 31 args) w := enters_of Tryz.func31 (by kernel_rfl) rfl
  have HB0 := Lib.hid hb0
  rw [← hd]
  unfold valQ at *
  clear hr hb0 hu hp hv hd h1 h2 h3 h4 h5
  generalize cmpQ (dotP b.1 p b.1.length) b.2 = c at *
  have k2 := reg_of (w := w.alloc (.cells #[u, .string (bs (R b.2))] 33)) (fun W _ => HO W)
  clear HO
  generalize R (dotP b.1 p b.1.length) = s1 at *
  generalize R b.2 = s2 at *
  go_enter Tryz.func257, Tryz.ntmps257
  go_wp2_with fail
  generalize w.alloc (.cells #[u, .string (bs s2)] 33) = W at *
  refine wp_region_quiet_below (by kernel_rfl) (by kernel_rfl) ?_
  repeat (go_big_quiet_step (fail))
  go_big_quiet_step (exact k1 _ _)
  repeat (go_big_quiet_step (fail))
  go_big_quiet_step (exact k2 _ _)
  repeat (go_big_quiet_step (fail))
  refine wpQuiet_nil ?_
  intro W6 hw'
  have hb6 : Below W.heap.size W W6 := by obtain ⟨p, e⟩ := hw'; rw [e]; exact below_regrown W p.d p.os
  have HB6 := Lib.hid (bel_to HB0.out hb6)
  clear k1 k2 m0 m1 e1 e2 hw' hb6
  go_wp2
  go_ret
  exact Ret.of rfl HB6.out
/-- The row and the right side of a bound that is read. -/
theorem bound_at {w : World} {b o : Nat} {l : List BQ} (h : BSl w b o (bx l)) (i : Nat) (hi : i < l.length) :
    ∃ u, w.cell? ⟨b, o + i * 2, none⟩ = some u ∧ RdT w u (rx l[i].1) ∧ Shp u ∧ w.cell? ⟨b, o + i * 2 + 1, none⟩ = some (.string (bs (R l[i].2))) := by
  have hi2 : i < (bx l).length := by rw [bx_len]; exact hi
  obtain ⟨u, h1, h2, h3⟩ := h.row i hi2
  have h4 := h.most i hi2
  rw [bx_get l i hi] at h2 h4
  exact ⟨u, h1, h2, h3, h4⟩
theorem rkeepsAll (vl vp : Value) (l : List BQ) (p : List Rat) (n : Nat) (w : World) (hl : RdB w vl (bx l)) (hp : RdT w vp (rx p)) (hn : n ≤ 8) (hr : RightB n l) (h4 : p.length = n) (h5 : ∀ x ∈ p, Bq 30 x) (hll : l.length ≤ 1000) :
    Calls Tryz.prog 223 #[vl, vp] w (Ret w (.bool (l.all fun b => keepsB b p))) := by
  obtain ⟨A, cap, rfl⟩ := hl.len
  have HW := Lib.hid hl
  have HK := Lib.hid (fun i (hi : i < l.length) u W (hW : Below w.heap.size w W) (hu : RdT W u (rx l[i].1)) => rkeeps u vp l[i] p n W hu (hp.below hW) hn (hr _ (List.getElem_mem hi)).1 (hr _ (List.getElem_mem hi)).2.1 (hr _ (List.getElem_mem hi)).2.2 h4 h5)
  rw [bx_len l] at HW ⊢
  generalize hch : (l.all fun b => keepsB b p) = ch
  have HCH := Lib.hid hch
  clear hl hp hr h5 hch
  go_enter Tryz.func223, Tryz.ntmps223
  go_wp2
  go_loopw [5] (fun iv wr => ∃ i : Nat, iv = .int .i64 (i : Int) ∧ i ≤ l.length ∧ Hid ((l.all fun b => keepsB b p) = ((l.drop i).all fun b => keepsB b p)) ∧ Below w.heap.size w wr) (fun iv _ => l.length - (intOf iv).toNat)
  case atStart => exact ⟨0, rfl, by omega, (rfl : (l.all fun b => keepsB b p) = ((l.drop 0).all fun b => keepsB b p)), Below.refl _ _⟩
  case round =>
    obtain ⟨i, rfl, hi, hk, hbw⟩ := hrel
    by_cases hlt : i < l.length
    · have hl2 := HW.out
      rw [← bx_len l] at hl2
      obtain ⟨b1, o1, rfl, hw⟩ := hl2.row i (by rw [bx_len]; exact hlt)
      obtain ⟨u, cu, hu, _, cm⟩ := bound_at (hw.below' hbw) i hlt
      have hk2 := hk.out
      rw [List.drop_eq_getElem_cons hlt, List.all_cons] at hk2
      have HP := Lib.hid (HK.out i hlt u wr hbw hu)
      clear hk hw hl2 hu
      generalize keepsB l[i] p = d at *
      generalize R l[i].2 = sm at *
      cases d with
      | true =>
        have HQ := Lib.hid hk2
        clear hk2
        go_wp2_with fail
        refine (HP.out).mono ?_
        rintro e w1 ⟨rfl, hb1⟩
        have hb1' := bel_to hbw hb1
        go_wp2
        go_roundw
        case rel => exact ⟨i + 1, by go_num, by omega, Lib.hid (by rw [HQ.out]; rfl), hb1'⟩
        case measure => simp [intOf]; omega
      | false =>
        have HQ := Lib.hid hk2
        clear hk2
        go_wp2_with fail
        refine (HP.out).mono ?_
        rintro e w1 ⟨rfl, hb1⟩
        have hb1' := bel_to hbw hb1
        go_wp2
        go_ret
        exact Ret.of (by rw [← HCH.out, HQ.out]; rfl) hb1'
    · obtain rfl : i = l.length := by omega
      have hk2 := hk.out
      rw [List.drop_length] at hk2
      have HQ := Lib.hid hk2
      clear hk2 hk
      go_wp2
      go_ret
      exact Ret.of (by rw [← HCH.out, HQ.out]; rfl) hbw
theorem sign_pos {q : Rat} : 0 < Int.sign q.num ↔ 0 < q := by
  rw [Int.sign_pos_iff, Rat.lt_iff]
  simp
theorem pkeeps (vl vp : Value) (l : List BQ) (p : List Rat) (n : Nat) (w : World) (hg : Glob w) (hl : RdB w vl (bx l)) (hp : RdT w vp (rx p)) (hn : n ≤ 8) (hr : RightB n l) (h4 : p.length = n) (h5 : ∀ x ∈ p, Bq 30 x) (hll : l.length ≤ 1000) :
    Calls Tryz.prog 125 #[vl, vp] w (Ret w (.int .i64 (if (l.all fun b => keepsB b p) = true then 0 else 15))) := by
  obtain ⟨A, cap, rfl⟩ := hl.len
  have HW := Lib.hid hl
  have HG := Lib.hid hg
  have hv := fun i (hi : i < l.length) => valQ_bq (b := l[i]) (p := p) hn (hr _ (List.getElem_mem hi)).1 (hr _ (List.getElem_mem hi)).2.1 (by omega) h5
  have HD := Lib.hid (fun i (hi : i < l.length) S u W (hW : Below w.heap.size w W) (hs : NoErP W S) (hu : RdT W u (rx l[i].1)) => pdot S u vp l[i].1 p 8 30 W (hg.of hW) hs hu (hp.below hW) (by have := (hr _ (List.getElem_mem hi)).1; omega) (by have := (hr _ (List.getElem_mem hi)).1; omega) (hr _ (List.getElem_mem hi)).2.1 h5 (by decide))
  have HSB := Lib.hid (fun i (hi : i < l.length) W (hW : Below w.heap.size w W) => ratSub (valQ l[i] p) l[i].2 489 8 W (hg.of hW) (hv i hi) (hr _ (List.getElem_mem hi)).2.2 (by decide))
  have HSG := Lib.hid (fun i (hi : i < l.length) S W (hW : Below w.heap.size w W) (hs : NoErP W S) => pssign S (valQ l[i] p - l[i].2) 498 W (hg.of hW) hs ((hv i hi).sub (hr _ (List.getElem_mem hi)).2.2) (by decide))
  rw [bx_len l] at HW ⊢
  generalize hch : (if (l.all fun b => keepsB b p) = true then (0 : Int) else 15) = ch
  have HCH := Lib.hid hch
  have HS0 := Lib.hid (show NoErP (w.alloc (.cells #[.int .i64 0] 124)) w.heap.size from rnw)
  have HB0 := Lib.hid ((Below.refl w.heap.size w).alloc (Nat.le_refl _) (.cells #[.int .i64 0] 124))
  clear hl hp hr h5 hch hv hg
  go_enter Tryz.func125, Tryz.ntmps125
  go_wp2
  obtain ⟨w0, hw0⟩ : ∃ x, x = (w.alloc (.cells #[.int .i64 0] 124)) := ⟨_, rfl⟩
  rw [← hw0] at HS0 HB0 ⊢
  clear hw0
  obtain ⟨S, hS⟩ : ∃ S, S = w.heap.size := ⟨_, rfl⟩
  rw [← hS] at HS0
  rw [← hS]
  clear hS
  go_loopw [13] (fun iv wr => ∃ i : Nat, iv = .int .i64 (i : Int) ∧ i ≤ l.length ∧ Hid ((l.all fun b => keepsB b p) = ((l.drop i).all fun b => keepsB b p)) ∧ Below w0.heap.size w0 wr) (fun iv _ => l.length - (intOf iv).toNat)
  case atStart => exact ⟨0, rfl, by omega, (rfl : (l.all fun b => keepsB b p) = ((l.drop 0).all fun b => keepsB b p)), Below.refl _ _⟩
  case round =>
    obtain ⟨i, rfl, hi, hk, hbw⟩ := hrel
    by_cases hlt : i < l.length
    · have hl2 := HW.out
      rw [← bx_len l] at hl2
      obtain ⟨b1, o1, rfl, hw⟩ := hl2.row i (by rw [bx_len]; exact hlt)
      obtain ⟨u, cu, hu, _, cm⟩ := bound_at (hw.below' (bel_to HB0.out hbw)) i hlt
      obtain ⟨Au, cpu, hue⟩ := hu.len
      generalize (rx l[i].1).length = nu at hue
      subst hue
      have hk2 := hk.out
      rw [List.drop_eq_getElem_cons hlt, List.all_cons] at hk2
      have hbn := (Below.refl wr.heap.size wr).alloc (Nat.le_refl _) (.cells #[.slice Au nu cpu, .string (bs (R l[i].2))] 33)
      have hr := Row.new wr 33 [.slice Au nu cpu, .string (bs (R l[i].2))]
      have m0 := cell_regrown (hr.cell (i := 0) rfl)
      have m1 := cell_regrown (hr.cell (i := 1) rfl)
      have HBW := Lib.hid (bel_to HB0.out (bel_to hbw hbn))
      have HBV := Lib.hid (bel_to hbw hbn)
      have HUU := Lib.hid (hu.below hbn)
      have D1 := Lib.hid (fun W (hW : Below (wr.alloc (.cells #[.slice Au nu cpu, .string (bs (R l[i].2))] 33)).heap.size (wr.alloc (.cells #[.slice Au nu cpu, .string (bs (R l[i].2))] 33)) W) => HD.out i hlt S (.slice Au nu cpu) W (bel_to HBW.out hW) (HS0.out.below' (bel_to HBV.out hW)) (HUU.out.below hW))
      have D2 := Lib.hid (fun W (hW : Below (wr.alloc (.cells #[.slice Au nu cpu, .string (bs (R l[i].2))] 33)).heap.size (wr.alloc (.cells #[.slice Au nu cpu, .string (bs (R l[i].2))] 33)) W) => HSB.out i hlt W (bel_to HBW.out hW))
      have D3 := Lib.hid (fun s W (hW : Below (wr.alloc (.cells #[.slice Au nu cpu, .string (bs (R l[i].2))] 33)).heap.size (wr.alloc (.cells #[.slice Au nu cpu, .string (bs (R l[i].2))] 33)) W) => psof S s W (HS0.out.below' (bel_to HBV.out hW)))
      have D4 := Lib.hid (fun W (hW : Below (wr.alloc (.cells #[.slice Au nu cpu, .string (bs (R l[i].2))] 33)).heap.size (wr.alloc (.cells #[.slice Au nu cpu, .string (bs (R l[i].2))] 33)) W) => HSG.out i hlt S W (bel_to HBW.out hW) (HS0.out.below' (bel_to HBV.out hW)))
      have hd : decide (0 < Int.sign (valQ l[i] p - l[i].2).num) = !keepsB l[i] p := by
        unfold keepsB
        by_cases h : valQ l[i] p ≤ l[i].2
        · rw [decide_eq_true h, decide_eq_false (by rw [sign_pos]; grind)]; rfl
        · rw [decide_eq_false h, decide_eq_true (by rw [sign_pos]; grind)]; rfl
      have hvq : dotP l[i].1 p l[i].1.length = valQ l[i] p := rfl
      rw [hvq] at D1
      clear hk hw hl2 hr hu hbn hvq
      generalize Int.sign (valQ l[i] p - l[i].2).num = sg at *
      generalize keepsB l[i] p = d at *
      generalize R (valQ l[i] p - l[i].2) = s3 at *
      generalize R (valQ l[i] p) = s1 at *
      generalize R l[i].2 = sm at *
      have HQ := Lib.hid hk2
      clear hk2
      have e1 : ∀ args w, (callFunc 81 args).run Tryz.prog w = .ok (.enter 81 args) w := enters_of Tryz.func81 (by kernel_rfl) rfl
      have e2 : ∀ args w, (callFunc 137 args).run Tryz.prog w = .ok (.enter 137 args) w := enters_of Tryz.func137 (by kernel_rfl) rfl
      have e3 : ∀ args w, (callFunc 130 args).run Tryz.prog w = .ok (.enter 130 args) w := enters_of Tryz.func130 (by kernel_rfl) rfl
      have e4 : ∀ args w, (callFunc 131 args).run Tryz.prog w = .ok (.enter 131 args) w := enters_of Tryz.func131 (by kernel_rfl) rfl
      go_wp2_with fail
      generalize wr.heap.size = gB at *
      generalize wr.alloc (.cells #[.slice Au nu cpu, .string (bs sm)] 33) = W at *
      have k1 := reg_of (w := W) (fun W2 hW => D1.out W2 hW)
      have k2 := reg_of (w := W) (fun W2 hW => D2.out W2 hW)
      have k3 := reg_of (w := W) (fun W2 hW => D3.out s3 W2 hW)
      have k4 := reg_of (w := W) (fun W2 hW => D4.out W2 hW)
      refine wp_region_quiet_below (by kernel_rfl) (by kernel_rfl) ?_
      repeat (go_big_quiet_step (fail))
      go_big_quiet_step (exact k1 _ _)
      repeat (go_big_quiet_step (fail))
      go_big_quiet_step (exact k2 _ _)
      repeat (go_big_quiet_step (fail))
      go_big_quiet_step (exact k3 _ _)
      repeat (go_big_quiet_step (fail))
      go_big_quiet_step (exact k4 _ _)
      repeat (go_big_quiet_step (fail))
      refine wpQuiet_nil ?_
      intro W6 hw'
      have hb6 : Below W.heap.size W W6 := by obtain ⟨p, e⟩ := hw'; rw [e]; exact below_regrown W p.d p.os
      have hs6 := (HS0.out.below' (bel_to HBV.out hb6)).cell
      have HB6 := Lib.hid (bel_to HBV.out hb6)
      clear k1 k2 k3 k4 m0 m1 e1 e2 e3 e4 hw' hb6 D1 D2 D3 D4
      cases d with
      | true =>
        have hd : decide (0 < sg) = false := hd
        go_wp2
        go_roundw
        case rel => exact ⟨i + 1, by go_num, by omega, Lib.hid (by rw [HQ.out]; rfl), HB6.out⟩
        case measure => simp [intOf]; omega
      | false =>
        have hd : decide (0 < sg) = true := hd
        have HF := Lib.hid (bel_to HB0.out HB6.out)
        go_wp2
        go_ret
        exact Ret.of (by rw [← HCH.out, HQ.out]; rfl) HF.out
    · obtain rfl : i = l.length := by omega
      have hk2 := hk.out
      rw [List.drop_length] at hk2
      have HQ := Lib.hid hk2
      have HF := Lib.hid (bel_to HB0.out hbw)
      clear hk2 hk
      go_wp2
      go_ret
      exact Ret.of (by rw [← HCH.out, HQ.out]; rfl) HF.out
end W
end Go.Proofs.YtfonphlcfkkgaaaGreatDoor
end
section
namespace Go.Proofs.YtfonphlcfkkgaaaGreatDoor
open Go Go.RowKit Go.Deep Go.Sort
namespace M
theorem text8 {p : List UInt8} (h8 : p.length ≤ 8) (h0 : chkR p = 0) : ∃ q, p = R q ∧ Bq 8 q := by
  have h1 := cutN_len p
  have h2 := cutD_len p
  have hs : shortB p = true := by
    unfold shortB
    rw [Bool.and_eq_true, decide_eq_true_iff, decide_eq_true_iff]
    exact ⟨by omega, by omega⟩
  obtain ⟨q, rfl, _⟩ := short_R hs h0
  clear h1 h2 hs h0
  unfold R at h8
  split at h8
  · rename_i e
    exact ⟨q, rfl, I_short h8 (by decide), by rw [e]; decide⟩
  · rw [List.length_append, List.length_cons] at h8
    refine ⟨q, rfl, I_short (by omega) (by decide), ?_⟩
    have := I_short (z := (q.den : Int)) (k := 8) (by omega) (by decide)
    rwa [Int.natAbs_natCast] at this
theorem texts8 : ∀ {l : List (List UInt8)}, (∀ p ∈ l, p.length ≤ 8) → chkRs l = 0 → ∃ zl : List Rat, l = rx zl ∧ ∀ x ∈ zl, Bq 8 x
  | [], _, _ => ⟨[], rfl, fun x h => by cases h⟩
  | p :: t, hl, h => by
    rw [chkRs] at h
    by_cases hp : chkR p = 0
    · rw [if_pos hp] at h
      obtain ⟨q, e1, hq⟩ := text8 (hl p List.mem_cons_self) hp
      obtain ⟨zl, e2, hz⟩ := texts8 (fun r hr => hl r (List.mem_cons_of_mem _ hr)) h
      refine ⟨q :: zl, by rw [e1, e2]; rfl, fun x hx => ?_⟩
      rcases List.mem_cons.1 hx with rfl | hx
      · exact hq
      · exact hz x hx
    · rw [if_neg hp] at h; exact absurd h hp
theorem bounds8 {n : Nat} : ∀ {l : List BT}, (∀ b ∈ l, (∀ p ∈ b.1, p.length ≤ 8) ∧ b.2.length ≤ 8) → chkBs (n : Int) l = 0 → ∃ zl : List BQ, l = bx zl ∧ RightB n zl
  | [], _, _ => ⟨[], rfl, fun x h => by cases h⟩
  | b :: t, hl, h => by
    rw [chkBs] at h
    by_cases hb : chkB1 (n : Int) b = 0
    · rw [if_pos hb] at h
      obtain ⟨zt, e2, hz⟩ := bounds8 (fun r hr => hl r (List.mem_cons_of_mem _ hr)) h
      have hb2 := hb
      unfold chkB1 at hb2
      by_cases hn : (b.1.length : Int) ≠ (n : Int)
      · rw [if_pos hn] at hb2; cases hb2
      · rw [if_neg hn] at hb2
        have hl2 := hl b List.mem_cons_self
        obtain ⟨zr, e3, hr⟩ := texts8 (l := b.1 ++ [b.2]) (fun p hp => (List.mem_append.1 hp).elim (hl2.1 p) (fun h => by rw [List.mem_singleton.1 h]; exact hl2.2)) hb2
        rw [chkRs_append] at hb2
        have hc1 : chkRs b.1 = 0 := by
          by_cases h : chkRs b.1 = 0
          · exact h
          · rw [if_neg h] at hb2; exact hb2
        rw [if_pos hc1, chkRs] at hb2
        have hc2 : chkR b.2 = 0 := by
          by_cases h : chkR b.2 = 0
          · exact h
          · rw [if_neg h] at hb2; exact hb2
        obtain ⟨q, e4, hq⟩ := text8 hl2.2 hc2
        obtain ⟨zl, e5, hz5⟩ := texts8 hl2.1 hc1
        refine ⟨(zl, q) :: zt, ?_, fun x hx => ?_⟩
        · rw [e2]
          show b :: bx zt = (rx zl, R q) :: bx zt
          rw [← e5, ← e4]
        · rcases List.mem_cons.1 hx with rfl | hx
          · refine ⟨?_, hz5, hq⟩
            have := congrArg List.length e5
            rw [rx_len] at this
            show zl.length = n
            omega
          · exact hz x hx
    · rw [if_neg hb] at h; exact absurd h hb
/-- Bounds whose texts are no too long ones. -/
def Wire (l : List BT) : Prop := l.length ≤ maxLen ∧ (l.length ≤ 64 → ∀ b ∈ l, b.1.length ≤ 900000 ∧ (∀ q ∈ b.1, q.length ≤ 90000) ∧ b.2.length ≤ 90000)
end M
namespace W
open M
attribute [local go_sem] bs_size bs_toList bs_get bs_extract bs_append bs_lit0 bs_lit1 lit1_bs
set_option maxHeartbeats 1000000
set_option maxRecDepth 20000
theorem pnum1 (u : Value) (l : List (List UInt8)) (w : World) (hg : Glob w) (hu : RdT w u l) (hl : ∀ q ∈ l, q.length ≤ 90000) (hn : l.length ≤ 1000000) :
    Calls Tryz.prog 72 #[.slice (some ⟨w.heap.size, 0, none⟩) 1 1] (w.alloc (.cells #[u] 23)) (Ret w (.int .i64 ((chkRs l : Nat) : Int))) := by
  have b1 : Below w.heap.size w (w.alloc (.cells #[u] 23)) := (Below.refl _ _).alloc (Nat.le_refl _) _
  have h := pnumbers [(u, l)] w.heap.size _ (hg.of b1) (show Row (w.alloc (.cells #[u] 23)) w.heap.size 23 [u] from rnw) (fun x hx => by
    rw [List.mem_singleton.1 hx]; exact ⟨hu.below b1, hn, hl⟩) (by simp)
  refine h.mono fun e w' hr => ?_
  obtain ⟨rfl, hb⟩ := hr
  refine ⟨?_, b1.trans (hb.mono b1.size)⟩
  have e1 : chkLs [l] = chkRs l := by
    rw [chkLs, chkLs]
    by_cases h : chkRs l = 0
    · rw [if_pos h, h]
    · rw [if_neg h]
  rw [show ([(u, l)].map (·.2)) = [l] from rfl, e1]
theorem rlist (vp : Value) (p : List (List UInt8)) (n : Int) (w : World) (hp : RdT w vp p) (hl : ∀ q ∈ p, q.length ≤ 90000) (hn : p.length ≤ 1000000) :
    Calls Tryz.prog 159 #[vp, .int .i64 n] w (Ret w (.int .i64 (if (p.length : Int) ≠ n then 8 else ((chkRs p : Nat) : Int)))) := by
  have HN := Lib.hid (rnumbers vp p w hp hl hn)
  obtain ⟨A, cap, rfl⟩ := hp.len
  clear hp hl
  by_cases h : (p.length : Int) ≠ n
  · rw [if_pos h]
    have hd : ((p.length : Int) != n) = true := by simp; exact h
    go_enter Tryz.func159, Tryz.ntmps159
    go_wp2
    go_ret
    exact Ret.of rfl (Below.refl _ _)
  · rw [if_neg h]
    have hd : ((p.length : Int) != n) = false := by simpa using h
    clear h
    generalize ((chkRs p : Nat) : Int) = c at *
    go_enter Tryz.func159, Tryz.ntmps159
    go_wp2_with fail
    refine (HN.out).mono ?_
    rintro e w1 ⟨rfl, hb1⟩
    go_wp2
    go_ret
    exact Ret.of rfl hb1
/-- The number of the error of a point's form. -/
noncomputable def chkPt (n : Int) (p : List (List UInt8)) : Nat := if (p.length : Int) ≠ n then 8 else chkRs p
theorem pverify_bad1 (n : Int) (vl vp : Value) (l : List BT) (w : World) (hg : Glob w) (hl : RdB w vl l) (hw : Wire l) (hc : chk5 n l ≠ 0) :
    Calls Tryz.prog 70 #[.int .i64 n, vl, vp] w (Ret w (.int .i64 ((chk5 n l : Nat) : Int))) := by
  have HC := Lib.hid (pcheck5 n vl l w hg hl hw.1 (fun h b hb => ⟨by have := (hw.2 h b hb).1; omega, (hw.2 h b hb).2.1, (hw.2 h b hb).2.2⟩))
  have hz : (((chk5 n l : Nat) : Int) != 0) = true := by simp; exact hc
  clear hl hw hc
  generalize ((chk5 n l : Nat) : Int) = c at *
  go_enter Tryz.func70, Tryz.ntmps70
  go_wp2_with fail
  refine (HC.out).mono ?_
  rintro e w1 ⟨rfl, hb1⟩
  go_wp2
  go_ret
  exact Ret.of rfl hb1
theorem pverify_bad2 (n : Int) (vl vp : Value) (l : List BT) (p : List (List UInt8)) (w : World) (hg : Glob w) (hl : RdB w vl l) (hw : Wire l) (h0 : chk5 n l = 0) (hp : RdT w vp p) (sp : ∀ q ∈ p, q.length ≤ 90000) (np : p.length ≤ 1000000) (hc : chkPt n p ≠ 0) :
    Calls Tryz.prog 70 #[.int .i64 n, vl, vp] w (Ret w (.int .i64 ((chkPt n p : Nat) : Int))) := by
  have hk := pcheck5 n vl l w hg hl hw.1 (fun h b hb => ⟨by have := (hw.2 h b hb).1; omega, (hw.2 h b hb).2.1, (hw.2 h b hb).2.2⟩)
  rw [h0] at hk
  have HC := Lib.hid hk
  have HN := Lib.hid (fun W (hW : Below w.heap.size w W) => pnum1 vp p W (hg.of hW) (hp.below hW) sp np)
  obtain ⟨A, cap, rfl⟩ := hp.len
  unfold chkPt at *
  clear hl hw h0 hp sp hk
  by_cases hn : (p.length : Int) ≠ n
  · rw [if_pos hn] at hc ⊢
    have hd : ((p.length : Int) != n) = true := by simp; exact hn
    clear HN hn hc
    go_enter Tryz.func70, Tryz.ntmps70
    go_wp2_with fail
    refine (HC.out).mono ?_
    rintro e w1 ⟨rfl, hb1⟩
    go_wp2
    go_ret
    exact Ret.of rfl hb1
  · rw [if_neg hn] at hc ⊢
    have hd : ((p.length : Int) != n) = false := by simpa using hn
    have hz : (((chkRs p : Nat) : Int) != 0) = true := by simp; exact hc
    clear hn hc
    generalize ((chkRs p : Nat) : Int) = c at *
    go_enter Tryz.func70, Tryz.ntmps70
    go_wp2_with fail
    refine (HC.out).mono ?_
    rintro e w1 ⟨rfl, hb1⟩
    have HB1 := Lib.hid hb1
    go_wp2_with fail
    refine (HN.out _ HB1.out).mono ?_
    rintro e w2 ⟨rfl, hb2⟩
    go_wp2
    go_ret
    exact Ret.of rfl (Below.then HB1.out hb2)
theorem pverify_ok (n : Nat) (vl vp : Value) (l : List BQ) (p : List Rat) (w : World) (hg : Glob w) (hl : RdB w vl (bx l)) (hw : Wire (bx l)) (h0 : chk5 (n : Int) (bx l) = 0) (hp : RdT w vp (rx p)) (hn : n ≤ 8) (hr : RightB n l) (h4 : p.length = n) (h5 : ∀ x ∈ p, Bq 30 x) (hc : chkRs (rx p) = 0) (hll : l.length ≤ 64) :
    Calls Tryz.prog 70 #[.int .i64 (n : Int), vl, vp] w (Ret w (.int .i64 (if (l.all fun b => keepsB b p) = true then 0 else 15))) := by
  have hk := pcheck5 n vl (bx l) w hg hl hw.1 (fun h b hb => ⟨by have := (hw.2 h b hb).1; omega, (hw.2 h b hb).2.1, (hw.2 h b hb).2.2⟩)
  rw [h0] at hk
  have HC := Lib.hid hk
  have hm := fun W (hW : Below w.heap.size w W) => pnum1 vp (rx p) W (hg.of hW) (hp.below hW) (fun q hq => by
    obtain ⟨x, hx, rfl⟩ := List.mem_map.1 hq
    have := (h5 x hx).R_len (by decide); omega) (by rw [rx_len]; omega)
  rw [hc] at hm
  have HN := Lib.hid hm
  have HK := Lib.hid (fun W (hW : Below w.heap.size w W) => pkeeps vl vp l p n W (hg.of hW) (hl.below hW) (hp.below hW) hn hr h4 h5 (by omega))
  have hd : ((p.length : Int) != (n : Int)) = false := by simp; omega
  obtain ⟨A, cap, rfl⟩ := hp.len
  rw [rx_len p] at HN HK ⊢
  generalize (if (l.all fun b => keepsB b p) = true then (0 : Int) else 15) = c at *
  clear hl hw h0 hp hr h5 hc hk hm h4
  go_enter Tryz.func70, Tryz.ntmps70
  go_wp2_with fail
  refine (HC.out).mono ?_
  rintro e w1 ⟨rfl, hb1⟩
  have HB1 := Lib.hid hb1
  go_wp2_with fail
  refine (HN.out _ HB1.out).mono ?_
  rintro e w2 ⟨rfl, hb2⟩
  have HB2 := Lib.hid (Below.then HB1.out hb2)
  clear hb1 hb2
  go_wp2_with fail
  refine (HK.out _ HB2.out).mono ?_
  rintro e w3 ⟨rfl, hb3⟩
  go_wp2
  go_ret
  exact Ret.of rfl (Below.then HB2.out hb3)
end W
end Go.Proofs.YtfonphlcfkkgaaaGreatDoor
end
section
namespace Go.Proofs.YtfonphlcfkkgaaaGreatDoor
open Go Go.Sort Go.RowKit
section
variable {P : Program} {ops : Array Oper} {md : Region.Mode} {C : World → Prop}
/-- Whatever order is picked, as long as the head lasts; then L. -/
def anyT (P : Program) (md : Region.Mode) (ops : Array Oper) (C : World → Prop) (n : Nat) (L : Array Bool → Act → Prop) : Nat → Array Bool → Act → Prop
  | 0, ls, a => L ls a
  | f + 1, ls, a => Region.ready md ops ls ≠ [] ∧ ∀ i ∈ Region.ready md ops ls, i < n ∧ qOp P ops C i (anyT P md ops C n L f (ls.setIfInBounds i true)) a
theorem wpAny_of_anyT {n g : Nat} {L : Array Bool → Act → Prop} {Q : Exit → Act → World → Prop} (hL : ∀ ls a w, C w → L ls a → wpAny P md ops Q g ls a w) :
    ∀ (f : Nat) (ls : Array Bool) (a : Act) (w : World), C w → anyT P md ops C n L f ls a → wpAny P md ops Q (f + g) ls a w := by
  intro f
  induction f with
  | zero => intro ls a w hw h; rw [Nat.zero_add]; exact hL _ _ _ hw h
  | succ f ih =>
    intro ls a w hw h
    rw [Nat.succ_add]
    exact ⟨fun h0 => absurd h0 h.1, fun i hi => wpOp_of_qOp hw (fun a' w' hw' h' => ih _ a' w' hw' h') (h.2 i hi).2⟩
theorem anyT_first {n i : Nat} {oi : Oper} {v : Value} {L : Array Bool → Act → Prop} (hi : ops[i]? = some oi) (hsel : ∀ (j : Nat) (o : Oper) cs b, ops[j]? = some o → o.op ≠ .select cs b)
    (hs : Region.sinkB md ops n = true) (hc : Region.chainB md ops n = true) (hn : n < ops.size) (hin : i < n) (hdone : ∀ ls a, L ls a → ∀ j ∈ Region.ready md ops ls, n ≤ j) :
    ∀ (f : Nat) (ls : Array Bool) (a : Act), HeadInv md ops n ls →
      (∀ j oj, ops[j]? = some oj → j ≠ i → ls.getD j true = false → (∀ e ∈ oj.after, Region.binds md e = true → e.on ≠ i) → oi.apart ops oj = true) →
      i ∈ Region.ready md ops ls → YieldsIn P ops C oi v a → anyT P md ops C n L f (ls.setIfInBounds i true) (a.put oi.dst v) → anyT P md ops C n L (f + 1) ls a := by
  intro f
  induction f with
  | zero =>
    intro ls a inv _ hr hy H
    refine ⟨List.ne_nil_of_mem hr, fun j hj => ?_⟩
    have hjn : j < n := Nat.lt_of_not_le fun h => tail_waits hs hc hn inv _ i rfl hin (mem_ready.1 hr).1 j h hj
    refine ⟨hjn, ?_⟩
    by_cases e : j = i
    · subst e; exact hy.qOp hi H
    · exact absurd (hdone _ _ H j (ready_mono hj e)) (by omega)
  | succ f ih =>
    intro ls a inv hfree hr hy H
    refine ⟨List.ne_nil_of_mem hr, fun j hj => ?_⟩
    have hjn : j < n := Nat.lt_of_not_le fun h => tail_waits hs hc hn inv _ i rfl hin (mem_ready.1 hr).1 j h hj
    refine ⟨hjn, ?_⟩
    by_cases e : j = i
    · subst e; exact hy.qOp hi H
    · obtain ⟨hju, oj, hoj, hall⟩ := mem_ready.1 hj
      have hno : ∀ e ∈ oj.after, Region.binds md e = true → e.on ≠ i := fun e he hb heq => by
        have h2 := hall e he hb
        rw [heq, getD_both (mem_ready.1 hr).1] at h2
        cases h2
      refine qOp_mono (fun a' h3 => ih (ls.setIfInBounds j true) a' (inv.set hj hjn) (fun k ok hk hki hun h4 => ?_) (ready_mono hr (Ne.symm e)) h3.1 (by rw [Array.setIfInBounds_comm _ _ e]; exact h3.2))
        (qOp_put hoj (hfree j oj hoj e hju hno) (fun cs b => hsel i oi cs b hi) (fun cs b => hsel j oj cs b hoj) hy (H.2 j (ready_mono hj e)).2)
      refine hfree k ok hk hki ?_ h4
      by_cases ek : j = k
      · subst ek; exact hju
      · rwa [getD_set_ne true ek] at hun
theorem anyT_lex {n g : Nat} {Lq : Act → Prop} (hsel : Region.noSelect ops = true) (hs : Region.sinkB md ops n = true) (hc : Region.chainB md ops n = true) (hn : n < ops.size) :
    ∀ (l : List Oper) (k : Nat) (ls : Array Bool) (a : Act), (∀ j, j < l.length → l[j]? = ops[k + j]?) → k + l.length = n → HeadInv md ops n ls → Region.lexHead md ops g l.length k ls = true → wpQuiet P ops C Lq l a →
      anyT P md ops C n (fun ls' a' => Region.seqB md ops g n ls' = true ∧ Lq a') l.length ls a := by
  intro l
  induction l with
  | nil =>
    intro k ls a _ hk _ hB h
    have e : k = n := by simpa using hk
    subst e
    exact ⟨by simpa [Region.lexHead] using hB, h⟩
  | cons o l ih =>
    intro k ls a hl hk inv hB h
    have h0 : ops[k]? = some o := by simpa using (hl 0 (by simp)).symm
    simp only [List.length_cons, Region.lexHead, Bool.and_eq_true] at hB
    have hkn : k < n := by simp only [List.length_cons] at hk; omega
    have hr : k ∈ Region.ready md ops ls := by simpa using hB.1.1
    obtain ⟨v, hy, hK⟩ := yieldsIn_of_qOp h0 (show qOp P ops C k (wpQuiet P ops C Lq l) a by unfold qOp; simp only [h0]; exact h)
    exact anyT_first h0 (Region.noSelect_spec hsel) hs hc hn hkn (fun ls' a' hL => seqB_ready hL.1) l.length ls a inv (Region.free_spec h0 hB.1.2) hr hy
      (ih (k + 1) _ _ (fun j hj => by have := hl (j + 1) (by simp; omega); simpa [Nat.add_assoc, Nat.add_comm 1 j] using this) (by simp only [List.length_cons] at hk; omega) (inv.set hr hkn) hB.2 hK)
theorem region_quiet_tail {id : Nat} {Q : Exit → Act → World → Prop} {a : Act} {w : World} {l : List Oper} (n : Nat) (hm : P.follows .mixedOrders = true) (hB : Region.lexTailB .any l.toArray n = true) (hC : C { w with drawn := w.drawn + 1 })
    (h : wpQuiet P l.toArray C (fun a' => ∀ w', C w' → wpList P l.toArray Q (l.drop n) a' w') (l.take n) a) : (Code.region id l.toArray true).wp P Q a w := by
  simp only [Region.lexTailB, Bool.and_eq_true, decide_eq_true_eq] at hB
  obtain ⟨⟨⟨⟨hsel, hn⟩, hs⟩, hc⟩, hlex⟩ := hB
  have hn2 : n < l.length := by simpa using hn
  have ht : (l.take n).length = n := by simp; omega
  have hd : (l.drop n).length = l.toArray.size - n := by simp
  have inv : HeadInv .any l.toArray n (Array.replicate l.toArray.size false) :=
    ⟨by simp, fun j oj _ h2 => (by rw [getD_replicate_false] at h2; cases h2), fun t _ h2 => getD_in (by simpa using h2) (getD_replicate_false _ _)⟩
  have H := anyT_lex (md := .any) (g := l.toArray.size - n) hsel hs hc hn (l.take n) 0 _ a (fun j hj => by rw [ht] at hj; simp [hj]) (by simpa using ht) inv (by rw [ht]; exact hlex) h
  refine wp_region_any hm ?_
  have h2 := wpAny_of_anyT (Q := Q) (g := l.toArray.size - n) (fun ls a' w' hw' hL => by
    have h3 := wpAny_of_seq (md := .any) (Q' := Q) (l.drop n) n ls a' w' (fun j => by simp [List.getElem?_drop]) (by rw [hd]; exact hL.1) (hL.2 w' hw')
    rwa [hd] at h3) _ _ _ _ hC H
  rw [ht, show n + (l.toArray.size - n) = l.toArray.size by omega] at h2
  exact h2
/-- The same, the class being 'blocks may have been laid'. -/
theorem region_below_tail {id : Nat} {Q : Exit → Act → World → Prop} {a : Act} {w : World} {l : List Oper} (n : Nat) (hm : P.follows .mixedOrders = true) (hB : Region.lexTailB .any l.toArray n = true)
    (h : wpQuiet P l.toArray (fun w' => ∃ p : Regrown, w' = grow (redrawn w p.d) p.os) (fun a' => ∀ w', (∃ p : Regrown, w' = grow (redrawn w p.d) p.os) → wpList P l.toArray Q (l.drop n) a' w') (l.take n) a) : (Code.region id l.toArray true).wp P Q a w :=
  region_quiet_tail n hm hB ⟨⟨w.drawn + 1, #[]⟩, by rw [grow_empty]; rfl⟩ h
end
end Go.Proofs.YtfonphlcfkkgaaaGreatDoor
end
section
namespace Go.Proofs.YtfonphlcfkkgaaaGreatDoor
open Go Go.RowKit Go.Deep Go.Sort
namespace M
/-- The sum over the first i bounds of column k; of the right sides; whether no weight is negative. -/
def wrow (l : List BQ) (q : List Rat) : Nat → Nat → Rat
  | 0, _ => 0
  | i + 1, k => wrow l q i k + nth q i * nth (l.getD i ([], 0)).1 k
def wmost (l : List BQ) (q : List Rat) : Nat → Rat
  | 0 => 0
  | i + 1 => wmost l q i + nth q i * (l.getD i ([], 0)).2
def wok (q : List Rat) (i : Nat) : Bool := (q.take i).all fun x => decide (0 ≤ x)
/-- Some numbers' texts. -/
def mapR (f : Nat → Rat) (n : Nat) : List (List UInt8) := (List.range n).map fun k => R (f k)
theorem mapR_len (f : Nat → Rat) (n : Nat) : (mapR f n).length = n := by simp [mapR]
theorem mapR_get (f : Nat → Rat) (n k : Nat) (h : k < n) : (mapR f n)[k]'((mapR_len f n).symm ▸ h) = R (f k) := by simp [mapR]
def mix (f g : Nat → Rat) (k : Nat) : Nat → Rat := fun j => if j < k then g j else f j
theorem mix_zero (f g : Nat → Rat) : mix f g 0 = f := by funext j; simp [mix]
theorem mix_end (f g : Nat → Rat) (n : Nat) : mapR (mix f g n) n = mapR g n := by
  unfold mapR
  apply List.map_congr_left
  intro k hk
  show R (if k < n then g k else f k) = R (g k)
  rw [if_pos (List.mem_range.1 hk)]
theorem mix_set (f g : Nat → Rat) (k n : Nat) : (mapR (mix f g k) n).set k (R (g k)) = mapR (mix f g (k + 1)) n := by
  apply List.ext_getElem
  · rw [List.length_set, mapR_len, mapR_len]
  · intro j h1 h2
    rw [mapR_len] at h2
    rw [List.getElem_set, mapR_get _ _ _ h2]
    by_cases e : k = j
    · subst e
      rw [if_pos rfl, mapR_get _ _ _ h2]
      show R (g k) = R (if k < k + 1 then g k else f k)
      rw [if_pos (by omega)]
    · rw [if_neg e, mapR_get _ _ _ h2]
      unfold mix
      by_cases h3 : j < k
      · rw [if_pos h3, if_pos (by omega)]
      · rw [if_neg h3, if_neg (by omega)]
theorem wrow_bq {l : List BQ} {q : List Rat} {n k : Nat} (hr : RightB n l) (hq : ∀ x ∈ q, Bq 30 x) (hk : k < n) : ∀ i, i ≤ l.length → i ≤ q.length → Bq (39 * i + 1) (wrow l q i k)
  | 0, _, _ => Bq_nil
  | i + 1, h1, h2 => by
    have ih := wrow_bq hr hq hk i (by omega) (by omega)
    have hb := hr _ (List.getElem_mem (show i < l.length by omega))
    rw [wrow, nth_get q i (by omega), show l.getD i ([], 0) = l[i] by simp [show i < l.length by omega], nth_get _ k (by omega)]
    exact (ih.add ((hq _ (List.getElem_mem (show i < q.length by omega))).mul (hb.2.1 _ (List.getElem_mem _)))).mono (by omega)
theorem wmost_bq {l : List BQ} {q : List Rat} {n : Nat} (hr : RightB n l) (hq : ∀ x ∈ q, Bq 30 x) : ∀ i, i ≤ l.length → i ≤ q.length → Bq (39 * i + 1) (wmost l q i)
  | 0, _, _ => Bq_nil
  | i + 1, h1, h2 => by
    have ih := wmost_bq hr hq i (by omega) (by omega)
    have hb := hr _ (List.getElem_mem (show i < l.length by omega))
    rw [wmost, nth_get q i (by omega), show l.getD i ([], 0) = l[i] by simp [show i < l.length by omega]]
    exact (ih.add ((hq _ (List.getElem_mem (show i < q.length by omega))).mul hb.2.2)).mono (by omega)
theorem wok_succ (q : List Rat) (i : Nat) (h : i < q.length) : wok q (i + 1) = (wok q i && decide (0 ≤ q[i])) := by
  unfold wok
  rw [List.take_succ_eq_append_getElem h, List.all_append]; simp
end M
theorem OwnS.stored {w : World} {B g cap : Nat} {l : List (List UInt8)} (h : OwnS w B (.slice (some ⟨g, 0, none⟩) l.length cap) l) (k : Nat) (q : List UInt8) :
    OwnS (w.setCell ⟨g, k, none⟩ (.string (bs q))) B (.slice (some ⟨g, 0, none⟩) (l.set k q).length cap) (l.set k q) := by
  have h2 := World.ownsRow.stored h k (.string (bs q))
  unfold OwnS
  rw [List.length_set]
  have e : Strs (l.set k q) = (Strs l).set k (.string (bs q)) := by simp [Strs, List.map_set]
  rw [e]
  exact h2.1
/-- What 'Weighted' has reached: an own row, behind W0. -/
structure WSt (w W : World) (g cap n : Nat) (f : Nat → Rat) : Prop where
  own : OwnS W w.heap.size (.slice (some ⟨g, 0, none⟩) (M.mapR f n).length cap) (M.mapR f n)
  bel : Below w.heap.size w W
  low : w.heap.size ≤ g
theorem WSt.to {w W W2 : World} {g cap n : Nat} {f : Nat → Rat} (h : WSt w W g cap n f) (hb : Below W.heap.size W W2) : WSt w W2 g cap n f :=
  ⟨h.own.below hb, h.bel.trans (hb.mono h.bel.size), h.low⟩
theorem WSt.cell {w W : World} {g cap n : Nat} {f : Nat → Rat} (h : WSt w W g cap n f) (k : Nat) (hk : k < n) : W.cell? ⟨g, k, none⟩ = some (.string (bs (M.R (f k)))) := by
  have h2 := World.ownsRow.cellAt h.own k (by rw [M.mapR_len]; omega)
  rw [h2]
  simp [Strs, M.mapR, hk]
theorem WSt.free {w W : World} {g cap n : Nat} {f : Nat → Rat} (h : WSt w W g cap n f) (k : Nat) : W.frozen? ⟨g, k, none⟩ = false := World.ownsRow.frozenAt h.own k
theorem WSt.put {w W : World} {g cap n : Nat} {f e : Nat → Rat} {k : Nat} (h : WSt w W g cap n (M.mix f e k)) : WSt w (W.setCell ⟨g, k, none⟩ (.string (bs (M.R (e k))))) g cap n (M.mix f e (k + 1)) := by
  have h2 := h.own.stored k (M.R (e k))
  rw [M.mix_set f e k n] at h2
  exact ⟨h2, h.bel.setCell (p := ⟨g, k, none⟩) h.low _, h.low⟩
theorem WSt.fin {w W : World} {g cap n : Nat} {f e : Nat → Rat} (h : WSt w W g cap n (M.mix f e n)) : WSt w W g cap n e := by
  obtain ⟨h1, h2, h3⟩ := h
  rw [M.mix_end] at h1
  exact ⟨h1, h2, h3⟩
end Go.Proofs.YtfonphlcfkkgaaaGreatDoor
end
