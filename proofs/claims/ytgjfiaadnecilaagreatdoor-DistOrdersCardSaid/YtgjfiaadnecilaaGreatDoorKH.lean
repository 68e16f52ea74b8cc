/-
  Chapter 26, the plain part: lists of values with weights.
  Chapter 26: 'Check' of the program.
  Chapter 26: 'Check' of the reference.
  Chapter 26 of the program: 'sum', 'weight', 'moment', 'share' on right lists.
  Chapter 26 of the program: 'Total', 'Mean', 'Variance', 'Probability'.
  Chapter 26 of the reference: 'Whole', 'Chance', 'Center', 'Spread', 'Within' on right lists.
  Chapter 26 of the reference: 'Center', 'Spread', 'Within' on right lists.
-/
import Derived.Test.YtgjfiaadnecilaaGreatDoorKG
import Derived.Deep.RegionWith
import Derived.Test.YtgjfiaadnecilaaGreatDoorKF
namespace Go.Proofs.YtgjfiaadnecilaaGreatDoor
open Go Go.RowKit
namespace M
/-- An element: a value, and the text of its weight. -/
abbrev WT := Int × List UInt8
def okv (v : Int) : Bool := decide (-1048576 ≤ v) && decide (v ≤ 1048576)
/-- The error of an element behind a value. -/
noncomputable def badW (p : Option Int) (x : WT) : Nat :=
  if chk x.2 ≠ 0 then chk x.2 else if zv x.2 ≤ 0 ∨ okv x.1 = false then 2 else
    match p with
    | some u => if x.1 ≤ u then 9 else 0
    | none => 0
noncomputable def chkW : Option Int → List WT → Nat
  | _, [] => 0
  | p, x :: t => if badW p x ≠ 0 then badW p x else chkW (some x.1) t
/-- The error of a list. -/
noncomputable def chk26 (l : List WT) : Nat := if l.length = 0 then 13 else if 4096 < l.length then 5 else chkW none l
/-- The value ahead of place i. -/
def prevW (l : List WT) (i : Nat) : Option Int := if i = 0 then none else some (l.getD (i - 1) (0, [])).1
theorem prevW_zero (l : List WT) : prevW l 0 = none := rfl
theorem prevW_succ (l : List WT) (i : Nat) (h : i < l.length) : prevW l (i + 1) = some l[i].1 := by
  unfold prevW
  rw [if_neg (by omega), Nat.add_sub_cancel]; simp [List.getD, h]
theorem chkW_drop (l : List WT) (i : Nat) (h : i < l.length) : chkW (prevW l i) (l.drop i) = if badW (prevW l i) l[i] ≠ 0 then badW (prevW l i) l[i] else chkW (prevW l (i + 1)) (l.drop (i + 1)) := by
  rw [List.drop_eq_getElem_cons h, chkW, prevW_succ l i h]
/-- Right weights. -/
abbrev ZT := Int × Int
def tx (l : List ZT) : List WT := l.map fun x => (x.1, I x.2)
theorem tx_len (l : List ZT) : (tx l).length = l.length := by simp [tx]
theorem tx_get (l : List ZT) (i : Nat) (h : i < l.length) : (tx l)[i]'(by rw [tx_len]; exact h) = (l[i].1, I l[i].2) := by simp [tx]
/-- A right list: the values in order, the weights positive. -/
def RightZ : Option Int → List ZT → Prop
  | _, [] => True
  | p, x :: t => 0 < x.2 ∧ Ok x.2 ∧ (-1048576 ≤ x.1 ∧ x.1 ≤ 1048576) ∧ (∀ u, p = some u → u < x.1) ∧ RightZ (some x.1) t
theorem ok_of_chk {l : List UInt8} (h : chk l = 0) : ∃ z, l = I z ∧ Ok z := by
  obtain ⟨z, hz⟩ := chk_form (l := l) (by omega)
  refine ⟨z, hz, ?_⟩
  rw [hz, chk_I] at h
  exact Decidable.byContradiction fun h2 => by rw [if_neg h2] at h; cases h
theorem okv_true {v : Int} : okv v = true ↔ (-1048576 ≤ v ∧ v ≤ 1048576) := by unfold okv; simp
theorem badW_zero {p : Option Int} {x : WT} (h : badW p x = 0) : ∃ z, x.2 = I z ∧ Ok z ∧ 0 < z ∧ (-1048576 ≤ x.1 ∧ x.1 ≤ 1048576) ∧ (∀ u, p = some u → u < x.1) := by
  unfold badW at h
  by_cases h1 : chk x.2 = 0
  · rw [if_neg (by omega)] at h
    obtain ⟨z, hz, hok⟩ := ok_of_chk h1
    rw [hz, zv_I] at h
    by_cases h2 : z ≤ 0 ∨ okv x.1 = false
    · rw [if_pos h2] at h; cases h
    · rw [if_neg h2] at h
      have h3 : okv x.1 = true := by
        rcases Bool.eq_false_or_eq_true (okv x.1) with h | h
        · exact h
        · exact absurd (Or.inr h) h2
      refine ⟨z, hz, hok, ?_, okv_true.1 h3, ?_⟩
      · rcases Int.lt_or_le 0 z with h | h
        · exact h
        · exact absurd (Or.inl h) h2
      · intro u hu
        subst hu
        simp only at h
        by_cases h4 : x.1 ≤ u
        · rw [if_pos h4] at h; cases h
        · omega
  · rw [if_pos h1] at h; exact absurd h h1
theorem chkW_right : ∀ (l : List WT) (p : Option Int), chkW p l = 0 → ∃ zl, l = tx zl ∧ RightZ p zl
  | [], _, _ => ⟨[], rfl, trivial⟩
  | x :: t, p, h => by
    rw [chkW] at h
    by_cases h1 : badW p x = 0
    · rw [if_neg (by omega)] at h
      obtain ⟨z, hz, a, b, c, d⟩ := badW_zero h1
      obtain ⟨zl, e, hr⟩ := chkW_right t _ h
      refine ⟨(x.1, z) :: zl, ?_, b, a, c, d, hr⟩
      rw [e]
      show x :: tx zl = (x.1, I z) :: tx zl
      rw [← hz]
    · rw [if_pos h1] at h; exact absurd h h1
theorem chk26_right {l : List WT} (h : chk26 l = 0) : ∃ zl, l = tx zl ∧ RightZ none zl ∧ zl ≠ [] ∧ zl.length ≤ 4096 := by
  unfold chk26 at h
  by_cases h1 : l.length = 0
  · rw [if_pos h1] at h; cases h
  · rw [if_neg h1] at h
    by_cases h2 : 4096 < l.length
    · rw [if_pos h2] at h; cases h
    · rw [if_neg h2] at h
      obtain ⟨zl, e, hr⟩ := chkW_right l none h
      refine ⟨zl, e, hr, ?_, ?_⟩
      · intro h3; rw [e, h3] at h1; exact h1 rfl
      · rw [e, tx_len] at h2; omega
theorem RightZ.badW {p : Option Int} {x : ZT} {t : List ZT} (h : RightZ p (x :: t)) : badW p (x.1, I x.2) = 0 := by
  obtain ⟨a, b, c, d, _⟩ := h
  unfold M.badW
  simp only
  rw [chk_I0 b, if_neg (by decide), zv_I, if_neg]
  · cases p with
    | none => rfl
    | some u => exact if_neg (by have := d u rfl; omega)
  · rintro (h | h)
    · omega
    · rw [okv_true.2 c] at h; cases h
theorem RightZ.chkW : ∀ (l : List ZT) (p : Option Int), RightZ p l → chkW p (tx l) = 0
  | [], _, _ => rfl
  | x :: t, p, h => by
    show M.chkW p ((x.1, I x.2) :: tx t) = 0
    rw [M.chkW, h.badW, if_neg (by decide)]
    exact RightZ.chkW t _ h.2.2.2.2
theorem RightZ.chk26 {l : List ZT} (h : RightZ none l) (hn : l ≠ []) (hl : l.length ≤ 4096) : chk26 (tx l) = 0 := by
  unfold M.chk26
  rw [if_neg (by rw [tx_len]; exact fun e => hn (List.length_eq_zero_iff.1 e)), if_neg (by rw [tx_len]; omega)]
  exact h.chkW
theorem RightZ.mem : ∀ {l : List ZT} {p : Option Int}, RightZ p l → ∀ x ∈ l, 0 < x.2 ∧ Ok x.2 ∧ (-1048576 ≤ x.1 ∧ x.1 ≤ 1048576)
  | [], _, _, x, hx => by cases hx
  | y :: t, p, h, x, hx => by
    rcases List.mem_cons.1 hx with rfl | hx
    · exact ⟨h.1, h.2.1, h.2.2.1⟩
    · exact RightZ.mem h.2.2.2.2 x hx
end M
/-- The cells at ⟨b, o⟩ hold the list. -/
structure WSl (w : World) (b o : Nat) (l : List M.WT) : Prop where
  lt : b < w.heap.size
  val : ∀ i (h : i < l.length), w.cell? ⟨b, o + i * 2, none⟩ = some (.int .i64 l[i].1)
  wt : ∀ i (h : i < l.length), w.cell? ⟨b, o + i * 2 + 1, none⟩ = some (.string (bs l[i].2))
theorem WSl.below {B : Nat} {w w' : World} {b o : Nat} {l : List M.WT} (h : WSl w b o l) (hb : Below B w w') (hB : b < B) : WSl w' b o l :=
  ⟨Nat.lt_of_lt_of_le h.lt hb.size, fun i hi => (hb.cell (by exact hB)).trans (h.val i hi), fun i hi => (hb.cell (by exact hB)).trans (h.wt i hi)⟩
theorem WSl.below' {w w' : World} {b o : Nat} {l : List M.WT} (h : WSl w b o l) (hb : Below w.heap.size w w') : WSl w' b o l := h.below hb h.lt
namespace W
open M
attribute [local go_sem] bs_size bs_toList bs_get bs_extract bs_append bs_lit0 bs_lit1 lit1_bs
set_option maxHeartbeats 1000000
set_option maxRecDepth 20000
theorem within_any (v : Int) (w : World) : Calls Tryz.prog 66 #[.int .i64 v] w fun e w' => e = .returned (.bool (okv v)) ∧ w = w' := by
  by_cases h1 : -1048576 ≤ v
  · by_cases h2 : v ≤ 1048576
    · have h : okv v = true := okv_true.2 ⟨h1, h2⟩
      rw [h]; clear h
      go_enter Tryz.func66, Tryz.ntmps66
      go_wp2
      go_ret
      exact ⟨rfl, rfl⟩
    · have h : okv v = false := by unfold okv; simp; omega
      rw [h]; clear h
      go_enter Tryz.func66, Tryz.ntmps66
      go_wp2
      go_ret
      exact ⟨rfl, rfl⟩
  · have h : okv v = false := by unfold okv; simp; omega
    rw [h]; clear h
    have hd : decide (-1048576 ≤ v) = false := by simp; omega
    go_enter Tryz.func66, Tryz.ntmps66
    go_wp2
    go_ret
    exact ⟨rfl, rfl⟩
theorem value_any (v : Int) (w : World) : Calls Tryz.prog 69 #[.int .i64 v] w fun e w' => e = .returned (.bool (okv v)) ∧ w = w' := by
  by_cases h1 : -1048576 ≤ v
  · by_cases h2 : v ≤ 1048576
    · have h : okv v = true := okv_true.2 ⟨h1, h2⟩
      rw [h]; clear h
      go_enter Tryz.func69, Tryz.ntmps69
      go_wp2
      go_ret
      exact ⟨rfl, rfl⟩
    · have h : okv v = false := by unfold okv; simp; omega
      rw [h]; clear h
      go_enter Tryz.func69, Tryz.ntmps69
      go_wp2
      go_ret
      exact ⟨rfl, rfl⟩
  · have h : okv v = false := by unfold okv; simp; omega
    rw [h]; clear h
    have hd : decide (-1048576 ≤ v) = false := by simp; omega
    go_enter Tryz.func69, Tryz.ntmps69
    go_wp2
    go_ret
    exact ⟨rfl, rfl⟩
theorem dsign_I (z : Int) (w : World) (hz : Ok z) : Calls Tryz.prog 65 #[.string (bs (I z))] w (Ret w (.int .i64 (Int.sign z))) := by
  have HS := Lib.hid (vSign_I z w hz)
  clear hz
  go_enter Tryz.func65, Tryz.ntmps65
  go_wp2_with fail
  refine (HS.out).mono ?_
  rintro e w1 ⟨rfl, hb1⟩
  go_wp2
  go_ret
  exact Ret.of rfl hb1
end W
end Go.Proofs.YtgjfiaadnecilaaGreatDoor
namespace Go.Proofs.YtgjfiaadnecilaaGreatDoor
open Go Go.RowKit Go.Deep
namespace W
open M
attribute [local go_sem] bs_size bs_toList bs_get bs_extract bs_append bs_lit0 bs_lit1 lit1_bs
set_option maxHeartbeats 1000000
set_option maxRecDepth 20000
/-- A list that is empty or lies in a block. -/
def WSo (w : World) (A : Option Addr) (l : List WT) : Prop := l = [] ∨ ∃ b o, A = some ⟨b, o, none⟩ ∧ WSl w b o l
theorem dcheck_len (A : Option Addr) (n cap : Nat) (w : World) (h : n = 0 ∨ 4096 < n) (hn : n ≤ maxLen) :
    Calls Tryz.prog 24 #[.slice A n cap] w (Ret w (.int .i64 (if n = 0 then 13 else 5))) := by
  unfold maxLen at hn
  rcases h with rfl | h
  · go_enter Tryz.func24, Tryz.ntmps24
    go_wp2
    go_ret
    exact Ret.of rfl (Below.refl _ _)
  · rw [if_neg (by omega)]
    have h0 : ((n : Int) == 0) = false := by simp; omega
    have h1 : decide ((n : Int) > 4096) = true := by simp; omega
    go_enter Tryz.func24, Tryz.ntmps24
    go_wp2
    go_ret
    exact Ret.of rfl (Below.refl _ _)
theorem dcheck_some (l : List WT) (b o cap : Nat) (w : World) (_hg : Glob w) (hw : WSl w b o l) (hn : l ≠ []) (hl : l.length ≤ 4096) (hs : ∀ x ∈ l, x.2.length ≤ 90000) :
    Calls Tryz.prog 24 #[.slice (some ⟨b, o, none⟩) l.length cap] w (Ret w (.int .i64 ((chkW none l : Nat) : Int))) := by
  have h0 : ((l.length : Int) == 0) = false := by
    have := List.length_pos_iff.2 hn
    simp; omega
  have h1 : decide ((l.length : Int) > 4096) = false := by simp; omega
  have HW := Lib.hid hw
  have HS := Lib.hid hs
  generalize hch : ((chkW none l : Nat) : Int) = ch
  have HCH := Lib.hid hch
  clear hw hn hs hch
  go_enter Tryz.func24, Tryz.ntmps24
  go_wp2
  go_loopw [16] (fun iv wr => ∃ i : Nat, iv = .int .i64 (i : Int) ∧ i ≤ l.length ∧ Hid (chkW none l = chkW (prevW l i) (l.drop i)) ∧ Below w.heap.size w wr) (fun iv _ => l.length - (intOf iv).toNat)
  case atStart => exact ⟨0, rfl, by omega, (rfl : chkW none l = chkW (prevW l 0) (l.drop 0)), Below.refl _ _⟩
  case round =>
    obtain ⟨i, rfl, hi, hk, hbw⟩ := hrel
    by_cases hlt : i < l.length
    · have hwr := HW.out.below' hbw
      have cv := hwr.val i hlt
      have cw := hwr.wt i hlt
      have hk2 := hk.out
      rw [chkW_drop l i hlt] at hk2
      have hlen := HS.out _ (List.getElem_mem hlt)
      clear hk hwr
      obtain ⟨x, hx⟩ : ∃ x, l[i] = x := ⟨_, rfl⟩
      rw [hx] at cv cw hk2 hlen
      obtain ⟨v, s⟩ := x
      simp only at cv cw hlen
      have HX := Lib.hid hx
      clear hx
      by_cases hc : chk s = 0
      · obtain ⟨z, rfl, hz⟩ := ok_of_chk hc
        have hv := vcheck_any (I z)
        rw [hc] at hv
        have HV := Lib.hid hv
        have HSG := Lib.hid (fun w' => dsign_I z w' hz)
        by_cases hz0 : z ≤ 0
        · have hb : badW (prevW l i) (v, I z) = 2 := by
            unfold badW; simp only; rw [hc, if_neg (by decide), zv_I, if_pos (Or.inl hz0)]
          rw [hb] at hk2
          have HK := Lib.hid hk2
          have hsg : Int.sign z ≤ 0 := by rcases sign_cases z with ⟨_, h⟩ | ⟨_, h⟩ | ⟨_, h⟩ <;> omega
          clear hk2 hb hv hc hz hz0
          generalize Int.sign z = sg at *
          go_wp2_with fail
          refine (HV.out _ (by omega)).mono ?_
          rintro e w1 ⟨rfl, hb1⟩
          have hrow := (Row.new wr 61 [.int .i64 v, .string (bs (I z))]).below' hb1
          have c1 := hrow.cell (i := 1) rfl
          have hb1' := alloc_then hb1
          go_wp2_with fail
          refine (HSG.out _).mono ?_
          rintro e w2 ⟨rfl, hb2⟩
          go_wp2
          go_ret
          exact Ret.of (by rw [← HCH.out, HK.out]; rfl) (hbw.trans ((Below.then hb1' hb2).mono hbw.size))
        · have hsg : 0 < Int.sign z := by rcases sign_cases z with ⟨_, h⟩ | ⟨_, h⟩ | ⟨_, h⟩ <;> omega
          by_cases hov : okv v = true
          · have HOV := Lib.hid (fun w' => within_any v w')
            rw [hov] at HOV
            rcases i with _ | j
            · have hb : badW (prevW l 0) (v, I z) = 0 := by
                unfold badW; simp only; rw [hc, if_neg (by decide), zv_I, if_neg (by rw [hov]; simp; omega), prevW_zero]
              rw [hb, if_neg (by decide)] at hk2
              have HK := Lib.hid hk2
              clear hk2 hb hv hc hz hz0 hov
              generalize Int.sign z = sg at *
              have e0 : (((0 : Nat)) : Int) = 0 := rfl
              rw [e0]
              clear e0
              rw [Nat.zero_mul, Nat.add_zero] at cv cw
              go_wp2_with fail
              refine (HV.out _ (by omega)).mono ?_
              rintro e w1 ⟨rfl, hb1⟩
              have hrow := (Row.new wr 61 [.int .i64 v, .string (bs (I z))]).below' hb1
              have c1 := hrow.cell (i := 1) rfl
              have hb1' := alloc_then hb1
              go_wp2_with fail
              refine (HSG.out _).mono ?_
              rintro e w2 ⟨rfl, hb2⟩
              have hb2' := Below.then hb1' hb2
              have c2 := (hrow.below' hb2).cell (i := 0) rfl
              clear hb1 hb2 c1 hb1' cv cw
              go_wp2_with fail
              refine (HOV.out _).mono ?_
              rintro e w' ⟨rfl, rfl⟩
              go_wp2
              go_quiet (fail)
              go_wp2
              go_roundw
              case rel => exact ⟨1, rfl, by omega, HK, hbw.trans (Below.drewN (hb2'.mono hbw.size) _)⟩
              case measure => simp [intOf]; omega
            · have hlj : j < l.length := by omega
              have cp := (HW.out.below' hbw).val j hlj
              have hpv : prevW l (j + 1) = some l[j].1 := prevW_succ l j hlj
              obtain ⟨u, hu⟩ : ∃ u, l[j].1 = u := ⟨_, rfl⟩
              rw [hu] at cp hpv
              have hjb : j < 4096 := by omega
              have hblt := HW.out.lt
              clear hu
              by_cases hle : v ≤ u
              · have hb : badW (prevW l (j + 1)) (v, I z) = 9 := by
                  unfold badW; simp only; rw [hc, if_neg (by decide), zv_I, if_neg (by rw [hov]; simp; omega), hpv]
                  exact if_pos hle
                rw [hb, if_pos (by decide)] at hk2
                have HK := Lib.hid hk2
                clear hk2 hb hv hc hz hz0 hov hpv
                generalize Int.sign z = sg at *
                rw [show ((j + 1 : Nat) : Int) = (j : Int) + 1 by omega]
                have j0 : (0 : Int) ≤ (j : Int) := by omega
                have hwr2 : IntKind.i64.wrap ((j : Int) + 1 - 1) = (j : Int) := by rw [show (j : Int) + 1 - 1 = (j : Int) by omega]; exact IntWalk.i64_in _ (by omega)
                go_wp2_with fail
                refine (HV.out _ (by omega)).mono ?_
                rintro e w1 ⟨rfl, hb1⟩
                have hrow := (Row.new wr 61 [.int .i64 v, .string (bs (I z))]).below' hb1
                have c1 := hrow.cell (i := 1) rfl
                have hb1' := alloc_then hb1
                go_wp2_with fail
                refine (HSG.out _).mono ?_
                rintro e w2 ⟨rfl, hb2⟩
                have hb2' := Below.then hb1' hb2
                have c2 := (hrow.below' hb2).cell (i := 0) rfl
                clear hb1 hb2 c1 hb1' cv cw
                have cp2 := (hb2'.cell (p := ⟨b, o + j * 2, none⟩) (by have := hbw.size; exact Nat.lt_of_lt_of_le hblt this)).trans cp
                clear cp
                go_wp2_with fail
                refine (HOV.out _).mono ?_
                rintro e w' ⟨rfl, rfl⟩
                go_wp2
                go_quiet (fail)
                go_wp2
                go_ret
                exact Ret.of (by rw [← HCH.out, HK.out]; rfl) (hbw.trans (Below.drewN (hb2'.mono hbw.size) _))
              · have hb : badW (prevW l (j + 1)) (v, I z) = 0 := by
                  unfold badW; simp only; rw [hc, if_neg (by decide), zv_I, if_neg (by rw [hov]; simp; omega), hpv]
                  exact if_neg hle
                rw [hb, if_neg (by decide)] at hk2
                have HK := Lib.hid hk2
                clear hk2 hb hv hc hz hz0 hov hpv
                generalize Int.sign z = sg at *
                rw [show ((j + 1 : Nat) : Int) = (j : Int) + 1 by omega]
                have j0 : (0 : Int) ≤ (j : Int) := by omega
                have hwr2 : IntKind.i64.wrap ((j : Int) + 1 - 1) = (j : Int) := by rw [show (j : Int) + 1 - 1 = (j : Int) by omega]; exact IntWalk.i64_in _ (by omega)
                go_wp2_with fail
                refine (HV.out _ (by omega)).mono ?_
                rintro e w1 ⟨rfl, hb1⟩
                have hrow := (Row.new wr 61 [.int .i64 v, .string (bs (I z))]).below' hb1
                have c1 := hrow.cell (i := 1) rfl
                have hb1' := alloc_then hb1
                go_wp2_with fail
                refine (HSG.out _).mono ?_
                rintro e w2 ⟨rfl, hb2⟩
                have hb2' := Below.then hb1' hb2
                have c2 := (hrow.below' hb2).cell (i := 0) rfl
                clear hb1 hb2 c1 hb1' cv cw
                have cp2 := (hb2'.cell (p := ⟨b, o + j * 2, none⟩) (by have := hbw.size; exact Nat.lt_of_lt_of_le hblt this)).trans cp
                clear cp
                go_wp2_with fail
                refine (HOV.out _).mono ?_
                rintro e w' ⟨rfl, rfl⟩
                go_wp2
                go_quiet (fail)
                go_wp2
                go_roundw
                case rel => exact ⟨j + 2, by go_num, by omega, HK, hbw.trans (Below.drewN (hb2'.mono hbw.size) _)⟩
                case measure => simp [intOf]; omega
          · have hb : badW (prevW l i) (v, I z) = 2 := by
              unfold badW; simp only; rw [hc, if_neg (by decide), zv_I, if_pos (Or.inr (Bool.eq_false_iff.2 hov))]
            rw [hb] at hk2
            have HK := Lib.hid hk2
            have HOV := Lib.hid (fun w' => within_any v w')
            rw [Bool.eq_false_iff.2 hov] at HOV
            clear hk2 hb hv hc hz hz0 hov
            generalize Int.sign z = sg at *
            go_wp2_with fail
            refine (HV.out _ (by omega)).mono ?_
            rintro e w1 ⟨rfl, hb1⟩
            have hrow := (Row.new wr 61 [.int .i64 v, .string (bs (I z))]).below' hb1
            have c1 := hrow.cell (i := 1) rfl
            have hb1' := alloc_then hb1
            go_wp2_with fail
            refine (HSG.out _).mono ?_
            rintro e w2 ⟨rfl, hb2⟩
            have hb2' := Below.then hb1' hb2
            have c2 := (hrow.below' hb2).cell (i := 0) rfl
            clear hb1 hb2 c1 hb1' cv cw
            go_wp2_with fail
            refine (HOV.out _).mono ?_
            rintro e w' ⟨rfl, rfl⟩
            go_wp2
            go_ret
            exact Ret.of (by rw [← HCH.out, HK.out]; rfl) (hbw.trans (hb2'.mono hbw.size))
      · have hb : badW (prevW l i) (v, s) = chk s := by unfold badW; rw [if_pos hc]
        rw [hb, if_pos hc] at hk2
        have HK := Lib.hid hk2
        have hv := vcheck_any s
        have hz : (((chk s : Nat) : Int) == 0) = false := by simp; exact hc
        generalize chk s = q at *
        have HV := Lib.hid hv
        clear hk2 hb hv hc
        go_wp2_with fail
        refine (HV.out _ (by omega)).mono ?_
        rintro e w1 ⟨rfl, hb1⟩
        go_wp2
        go_ret
        exact Ret.of (by rw [← HCH.out, HK.out]; rfl) (hbw.trans ((alloc_then hb1).mono hbw.size))
    · obtain rfl : i = l.length := by omega
      have hk2 := hk.out
      rw [List.drop_length] at hk2
      have HK := Lib.hid hk2
      clear hk hk2
      go_wp2
      go_ret
      exact Ret.of (by rw [← HCH.out, HK.out]; rfl) hbw
end W
end Go.Proofs.YtgjfiaadnecilaaGreatDoor
namespace Go.Proofs.YtgjfiaadnecilaaGreatDoor
open Go Go.RowKit Go.Deep
namespace W
open M
attribute [local go_sem] bs_size bs_toList bs_get bs_extract bs_append bs_lit0 bs_lit1 lit1_bs
set_option maxHeartbeats 1000000
set_option maxRecDepth 20000
theorem rcheck_len (A : Option Addr) (n cap : Nat) (w : World) (h : n = 0 ∨ 4096 < n) (hn : n ≤ maxLen) :
    Calls Tryz.prog 25 #[.slice A n cap] w (Ret w (.int .i64 (if n = 0 then 13 else 5))) := by
  unfold maxLen at hn
  rcases h with rfl | h
  · go_enter Tryz.func25, Tryz.ntmps25
    go_wp2
    go_ret
    exact Ret.of rfl (Below.refl _ _)
  · rw [if_neg (by omega)]
    have h0 : ((n : Int) == 0) = false := by simp; omega
    have h1 : decide ((n : Int) > 4096) = true := by simp; omega
    go_enter Tryz.func25, Tryz.ntmps25
    go_wp2
    go_ret
    exact Ret.of rfl (Below.refl _ _)
theorem rcheck_some (l : List WT) (b o cap : Nat) (w : World) (hw : WSl w b o l) (hn : l ≠ []) (hl : l.length ≤ 4096) (hs : ∀ x ∈ l, x.2.length ≤ 90000) :
    Calls Tryz.prog 25 #[.slice (some ⟨b, o, none⟩) l.length cap] w (Ret w (.int .i64 ((chkW none l : Nat) : Int))) := by
  have h0 : ((l.length : Int) == 0) = false := by
    have := List.length_pos_iff.2 hn
    simp; omega
  have h1 : decide ((l.length : Int) > 4096) = false := by simp; omega
  have HW := Lib.hid hw
  have HS := Lib.hid hs
  have H0 := Lib.hid I_zero
  generalize hch : ((chkW none l : Nat) : Int) = ch
  have HCH := Lib.hid hch
  clear hw hn hs hch
  go_enter Tryz.func25, Tryz.ntmps25
  go_wp2
  go_loopw [3] (fun iv wr => ∃ i : Nat, iv = .int .i64 (i : Int) ∧ i ≤ l.length ∧ Hid (chkW none l = chkW (prevW l i) (l.drop i)) ∧ Below w.heap.size w wr) (fun iv _ => l.length - (intOf iv).toNat)
  case atStart => exact ⟨0, rfl, by omega, (rfl : chkW none l = chkW (prevW l 0) (l.drop 0)), Below.refl _ _⟩
  case round =>
    obtain ⟨i, rfl, hi, hk, hbw⟩ := hrel
    by_cases hlt : i < l.length
    · have hwr := HW.out.below' hbw
      have cv := hwr.val i hlt
      have cw := hwr.wt i hlt
      have hk2 := hk.out
      rw [chkW_drop l i hlt] at hk2
      have hlen := HS.out _ (List.getElem_mem hlt)
      have hwlt := hwr.lt
      clear hk hwr
      obtain ⟨x, hx⟩ : ∃ x, l[i] = x := ⟨_, rfl⟩
      rw [hx] at cv cw hk2 hlen
      obtain ⟨v, s⟩ := x
      simp only at cv cw hlen
      have HX := Lib.hid hx
      clear hx
      by_cases hc : chk s = 0
      · obtain ⟨z, rfl, hz⟩ := ok_of_chk hc
        have hv := check_any (I z)
        rw [hc] at hv
        have HV := Lib.hid hv
        have hzl := hz.len
        have hso := fun w' => order_I z 0 w' (by omega) (by rw [I_zero]; decide)
        rw [Int.sub_zero] at hso
        have HSG := Lib.hid hso
        clear hzl hso
        by_cases hz0 : z ≤ 0
        · have hb : badW (prevW l i) (v, I z) = 2 := by
            unfold badW; simp only; rw [hc, if_neg (by decide), zv_I, if_pos (Or.inl hz0)]
          rw [hb] at hk2
          have HK := Lib.hid hk2
          have hsg : Int.sign z ≤ 0 := by rcases sign_cases z with ⟨_, h⟩ | ⟨_, h⟩ | ⟨_, h⟩ <;> omega
          clear hk2 hb hv hc hz hz0
          generalize Int.sign z = sg at *
          go_wp2_with fail
          refine (HV.out _ (by omega)).mono ?_
          rintro e w' ⟨rfl, rfl⟩
          go_wp2_with fail
          rw [show (Value.string ⟨#[48]⟩) = Value.string (bs (I 0)) by rw [H0.out]; rfl]
          refine (HSG.out _).mono ?_
          rintro e w2 ⟨rfl, hb2⟩
          go_wp2
          go_ret
          exact Ret.of (by rw [← HCH.out, HK.out]; rfl) (hbw.trans (hb2.mono hbw.size))
        · have hsg : 0 < Int.sign z := by rcases sign_cases z with ⟨_, h⟩ | ⟨_, h⟩ | ⟨_, h⟩ <;> omega
          by_cases hov : okv v = true
          · have HOV := Lib.hid (fun w' => value_any v w')
            rw [hov] at HOV
            rcases i with _ | j
            · have hb : badW (prevW l 0) (v, I z) = 0 := by
                unfold badW; simp only; rw [hc, if_neg (by decide), zv_I, if_neg (by rw [hov]; simp; omega), prevW_zero]
              rw [hb, if_neg (by decide)] at hk2
              have HK := Lib.hid hk2
              clear hk2 hb hv hc hz hz0 hov
              generalize Int.sign z = sg at *
              have e0 : (((0 : Nat)) : Int) = 0 := rfl
              rw [e0]
              clear e0
              rw [Nat.zero_mul, Nat.add_zero] at cv cw
              go_wp2_with fail
              refine (HV.out _ (by omega)).mono ?_
              rintro e w' ⟨rfl, rfl⟩
              go_wp2_with fail
              rw [show (Value.string ⟨#[48]⟩) = Value.string (bs (I 0)) by rw [H0.out]; rfl]
              refine (HSG.out _).mono ?_
              rintro e w2 ⟨rfl, hb2⟩
              have c2 := (hb2.cell (p := ⟨b, o, none⟩) hwlt).trans cv
              go_wp2_with fail
              refine (HOV.out _).mono ?_
              rintro e w' ⟨rfl, rfl⟩
              go_wp2
              go_quiet (fail)
              go_wp2
              go_roundw
              case rel => exact ⟨1, rfl, by omega, HK, hbw.trans (Below.drewN (hb2.mono hbw.size) _)⟩
              case measure => simp [intOf]; omega
            · have hlj : j < l.length := by omega
              have cp := (HW.out.below' hbw).val j hlj
              have hpv : prevW l (j + 1) = some l[j].1 := prevW_succ l j hlj
              obtain ⟨u, hu⟩ : ∃ u, l[j].1 = u := ⟨_, rfl⟩
              rw [hu] at cp hpv
              have hjb : j < 4096 := by omega
              clear hu
              by_cases hle : v ≤ u
              · have hb : badW (prevW l (j + 1)) (v, I z) = 9 := by
                  unfold badW; simp only; rw [hc, if_neg (by decide), zv_I, if_neg (by rw [hov]; simp; omega), hpv]
                  exact if_pos hle
                rw [hb, if_pos (by decide)] at hk2
                have HK := Lib.hid hk2
                clear hk2 hb hv hc hz hz0 hov hpv
                generalize Int.sign z = sg at *
                rw [show ((j + 1 : Nat) : Int) = (j : Int) + 1 by omega]
                have j0 : (0 : Int) ≤ (j : Int) := by omega
                have hwr2 : IntKind.i64.wrap ((j : Int) + 1 - 1) = (j : Int) := by rw [show (j : Int) + 1 - 1 = (j : Int) by omega]; exact IntWalk.i64_in _ (by omega)
                go_wp2_with fail
                refine (HV.out _ (by omega)).mono ?_
                rintro e w' ⟨rfl, rfl⟩
                go_wp2_with fail
                rw [show (Value.string ⟨#[48]⟩) = Value.string (bs (I 0)) by rw [H0.out]; rfl]
                refine (HSG.out _).mono ?_
                rintro e w2 ⟨rfl, hb2⟩
                have c2 := (hb2.cell (p := ⟨b, o + (j + 1) * 2, none⟩) hwlt).trans cv
                have cp2 := (hb2.cell (p := ⟨b, o + j * 2, none⟩) hwlt).trans cp
                clear cp cv cw
                go_wp2_with fail
                refine (HOV.out _).mono ?_
                rintro e w' ⟨rfl, rfl⟩
                go_wp2
                go_quiet (fail)
                go_wp2
                go_ret
                exact Ret.of (by rw [← HCH.out, HK.out]; rfl) (hbw.trans (Below.drewN (hb2.mono hbw.size) _))
              · have hb : badW (prevW l (j + 1)) (v, I z) = 0 := by
                  unfold badW; simp only; rw [hc, if_neg (by decide), zv_I, if_neg (by rw [hov]; simp; omega), hpv]
                  exact if_neg hle
                rw [hb, if_neg (by decide)] at hk2
                have HK := Lib.hid hk2
                clear hk2 hb hv hc hz hz0 hov hpv
                generalize Int.sign z = sg at *
                rw [show ((j + 1 : Nat) : Int) = (j : Int) + 1 by omega]
                have j0 : (0 : Int) ≤ (j : Int) := by omega
                have hwr2 : IntKind.i64.wrap ((j : Int) + 1 - 1) = (j : Int) := by rw [show (j : Int) + 1 - 1 = (j : Int) by omega]; exact IntWalk.i64_in _ (by omega)
                go_wp2_with fail
                refine (HV.out _ (by omega)).mono ?_
                rintro e w' ⟨rfl, rfl⟩
                go_wp2_with fail
                rw [show (Value.string ⟨#[48]⟩) = Value.string (bs (I 0)) by rw [H0.out]; rfl]
                refine (HSG.out _).mono ?_
                rintro e w2 ⟨rfl, hb2⟩
                have c2 := (hb2.cell (p := ⟨b, o + (j + 1) * 2, none⟩) hwlt).trans cv
                have cp2 := (hb2.cell (p := ⟨b, o + j * 2, none⟩) hwlt).trans cp
                clear cp cv cw
                go_wp2_with fail
                refine (HOV.out _).mono ?_
                rintro e w' ⟨rfl, rfl⟩
                go_wp2
                go_quiet (fail)
                go_wp2
                go_roundw
                case rel => exact ⟨j + 2, by go_num, by omega, HK, hbw.trans (Below.drewN (hb2.mono hbw.size) _)⟩
                case measure => simp [intOf]; omega
          · have hb : badW (prevW l i) (v, I z) = 2 := by
              unfold badW; simp only; rw [hc, if_neg (by decide), zv_I, if_pos (Or.inr (Bool.eq_false_iff.2 hov))]
            rw [hb] at hk2
            have HK := Lib.hid hk2
            have HOV := Lib.hid (fun w' => value_any v w')
            rw [Bool.eq_false_iff.2 hov] at HOV
            clear hk2 hb hv hc hz hz0 hov
            generalize Int.sign z = sg at *
            go_wp2_with fail
            refine (HV.out _ (by omega)).mono ?_
            rintro e w' ⟨rfl, rfl⟩
            go_wp2_with fail
            rw [show (Value.string ⟨#[48]⟩) = Value.string (bs (I 0)) by rw [H0.out]; rfl]
            refine (HSG.out _).mono ?_
            rintro e w2 ⟨rfl, hb2⟩
            have c2 := (hb2.cell (p := ⟨b, o + i * 2, none⟩) hwlt).trans cv
            clear cv cw
            go_wp2_with fail
            refine (HOV.out _).mono ?_
            rintro e w' ⟨rfl, rfl⟩
            go_wp2
            go_ret
            exact Ret.of (by rw [← HCH.out, HK.out]; rfl) (hbw.trans (hb2.mono hbw.size))
      · have hb : badW (prevW l i) (v, s) = chk s := by unfold badW; rw [if_pos hc]
        rw [hb, if_pos hc] at hk2
        have HK := Lib.hid hk2
        have hv := check_any s
        have hz : (((chk s : Nat) : Int) == 0) = false := by simp; exact hc
        generalize chk s = q at *
        have HV := Lib.hid hv
        clear hk2 hb hv hc
        go_wp2_with fail
        refine (HV.out _ (by omega)).mono ?_
        rintro e w' ⟨rfl, rfl⟩
        go_wp2
        go_ret
        exact Ret.of (by rw [← HCH.out, HK.out]; rfl) hbw
    · obtain rfl : i = l.length := by omega
      have hk2 := hk.out
      rw [List.drop_length] at hk2
      have HK := Lib.hid hk2
      clear hk hk2
      go_wp2
      go_ret
      exact Ret.of (by rw [← HCH.out, HK.out]; rfl) hbw
end W
end Go.Proofs.YtgjfiaadnecilaaGreatDoor
namespace Go.Proofs.YtgjfiaadnecilaaGreatDoor
open Go Go.RowKit Go.Deep
namespace M
/-- The product of a weight with a power of the value. -/
def mpw (z v : Int) (k : Nat) : Int := z * v ^ k
theorem mpw_zero (z v : Int) : mpw z v 0 = z := by unfold mpw; simp
theorem mpw_succ (z v : Int) (k : Nat) : mpw z v (k + 1) = mpw z v k * v := by unfold mpw; rw [Int.pow_succ, Int.mul_assoc]
/-- The sum over the first i elements. -/
def psm (g : ZT → Int) (l : List ZT) (i : Nat) : Int := sm ((l.take i).map g)
theorem psm_zero (g : ZT → Int) (l : List ZT) : psm g l 0 = 0 := by unfold psm; rw [List.take_zero]; rfl
theorem psm_all (g : ZT → Int) (l : List ZT) : psm g l l.length = sm (l.map g) := by unfold psm; rw [List.take_length]
theorem psm_succ (g : ZT → Int) (l : List ZT) (i : Nat) (h : i < l.length) : psm g l (i + 1) = psm g l i + g l[i] := by
  unfold psm
  rw [List.take_succ_eq_append_getElem h, List.map_append, sm_append]; simp [sm]
end M
/-- An element as it is handed over. -/
def eltV (x : M.ZT) : Value := .agg #[.int .i64 x.1, .string (bs (M.I x.2))]
namespace W
open M
attribute [local go_sem] bs_size bs_toList bs_get bs_extract bs_append bs_lit0 bs_lit1 lit1_bs
set_option maxHeartbeats 1000000
set_option maxRecDepth 20000
theorem weight_any (x : ZT) (w : World) : Calls Tryz.prog 57 #[eltV x] w (Ret w (.tuple #[.string (bs (I x.2)), .int .i64 0])) := by
  unfold eltV
  go_enter Tryz.func57, Tryz.ntmps57
  go_wp2
  go_ret2
  exact Ret.of rfl (Below.alloc (Below.refl _ _) (Nat.le_refl _) _)
theorem dsum_ok (f : Nat) (caps : Array Value) (g : ZT → Int) (zl : List ZT) (b o cap : Nat) (w : World) (hf : Enters Tryz.prog f) (hg : Glob w) (hw : WSl w b o (tx zl)) (hl : zl.length ≤ 4096)
    (hF : ∀ wx, Below w.heap.size w wx → ∀ x ∈ zl, Calls Tryz.prog f (#[eltV x] ++ caps) wx (Ret wx (.tuple #[.string (bs (I (g x))), .int .i64 0])))
    (ho : ∀ x ∈ zl, Ok (g x)) (hs : ∀ k, k ≤ zl.length → Ok (psm g zl k)) :
    Calls Tryz.prog 56 #[.slice (some ⟨b, o, none⟩) zl.length cap, .func (.func f) #[] caps] w (Ret w (.tuple #[.string (bs (I (sm (zl.map g)))), .int .i64 0])) := by
  have HW := Lib.hid hw
  have HF := Lib.hid hF
  have HO := Lib.hid (And.intro ho hs)
  have H0 := Lib.hid I_zero
  have HE := Lib.hid (psm_all g zl)
  have HZ := Lib.hid (psm_zero g zl)
  rw [← HE.out]
  unfold Enters at hf
  clear hw hF ho hs
  go_enter Tryz.func56, Tryz.ntmps56
  go_wp2
  go_loopw [6, 13] (fun ov iv wr => ∃ i : Nat, iv = .int .i64 (i : Int) ∧ i ≤ zl.length ∧ ov = .string (bs (I (psm g zl i))) ∧ Below w.heap.size w wr) (fun _ iv _ => zl.length - (intOf iv).toNat)
  case atStart =>
    refine ⟨0, rfl, by omega, ?_, Below.refl _ _⟩
    rw [HZ.out, H0.out]; rfl
  case round =>
    obtain ⟨i, rfl, hi, rfl, hbw⟩ := hrel
    by_cases hlt : i < zl.length
    · have hwr := HW.out.below' hbw
      have hlt' : i < (tx zl).length := by rw [tx_len]; exact hlt
      have cv := hwr.val i hlt'
      have cw := hwr.wt i hlt'
      rw [tx_get zl i hlt] at cv cw
      have hm := List.getElem_mem hlt
      have hq := psm_succ g zl i hlt
      have HA := Lib.hid (fun wx hgx => add_I (psm g zl i) (g zl[i]) wx hgx (HO.out.2 i hi) (HO.out.1 _ hm))
      rw [← hq, resV_ok (HO.out.2 (i + 1) hlt)] at HA
      have HX := Lib.hid (fun wx hb => HF.out wx hb _ hm)
      unfold eltV at HX
      clear hwr hq hm
      simp only at cv cw
      have hab : Below w.heap.size w (wr.alloc (.cells #[.int .i64 zl[i].1, .string (bs (I zl[i].2))] 61)) := hbw.alloc hbw.size _
      go_wp2_with fail
      refine (HX.out _ hab).mono ?_
      rintro e w1 ⟨rfl, hb1⟩
      have hb1' := hab.trans (hb1.mono hab.size)
      clear hb1 cv cw hab
      go_wp2_with fail
      refine (HA.out _ (hg.of hb1')).mono ?_
      rintro e w2 ⟨rfl, hb2⟩
      go_wp2
      go_roundw
      case rel => exact ⟨i + 1, by go_num, by omega, rfl, hb1'.trans (hb2.mono hb1'.size)⟩
      case measure => simp [intOf]; omega
    · obtain rfl : i = zl.length := by omega
      go_wp2
      go_ret2
      exact Ret.of rfl hbw
theorem ent_weight : Enters Tryz.prog 57 := enters_of Tryz.func57 (by kernel_rfl) rfl
theorem share_ok (f : Nat) (caps : Array Value) (g : ZT → Int) (zl : List ZT) (b o cap : Nat) (w : World) (hf : Enters Tryz.prog f) (hg : Glob w) (hw : WSl w b o (tx zl)) (hl : zl.length ≤ 4096)
    (hF : ∀ wx, Below w.heap.size w wx → ∀ x ∈ zl, Calls Tryz.prog f (#[eltV x] ++ caps) wx (Ret wx (.tuple #[.string (bs (I (g x))), .int .i64 0])))
    (ho : ∀ x ∈ zl, Ok (g x)) (hs : ∀ k, k ≤ zl.length → Ok (psm g zl k))
    (ho2 : ∀ x ∈ zl, Ok x.2) (hs2 : ∀ k, k ≤ zl.length → Ok (psm (·.2) zl k)) (h0 : sm (zl.map (·.2)) ≠ 0) :
    Calls Tryz.prog 51 #[.slice (some ⟨b, o, none⟩) zl.length cap, .func (.func f) #[] caps] w (Ret w (.tuple #[.string (bs (R (Rat.divInt (sm (zl.map g)) (sm (zl.map (·.2)))))), .int .i64 0])) := by
  have H1 := Lib.hid (dsum_ok f caps g zl b o cap w hf hg hw hl hF ho hs)
  have H2 := Lib.hid (fun wx (hb : Below w.heap.size w wx) => dsum_ok 57 #[] (·.2) zl b o cap wx ent_weight (hg.of hb) (hw.below' hb) hl (fun wy _ x _ => weight_any x wy) ho2 hs2)
  have hsa := hs zl.length (Nat.le_refl _)
  have hsb := hs2 zl.length (Nat.le_refl _)
  rw [psm_all] at hsa hsb
  have H3 := Lib.hid (fun wx hg => ratMake _ _ wx hg hsa hsb h0)
  clear hF hf hw ho hs ho2 hs2 h0 hsa hsb
  generalize sm (zl.map (·.2)) = W at *
  generalize sm (zl.map g) = G at *
  go_enter Tryz.func51, Tryz.ntmps51
  go_wp2_with fail
  refine (H1.out).mono ?_
  rintro e w1 ⟨rfl, hb1⟩
  go_wp2_with fail
  refine (H2.out _ hb1).mono ?_
  rintro e w2 ⟨rfl, hb2⟩
  have hb2 := Below.then hb1 hb2
  go_wp2_with fail
  refine (H3.out _ (hg.of hb2)).mono ?_
  rintro e w3 ⟨rfl, hb3⟩
  go_wp2
  go_ret2
  exact Ret.of rfl (Below.then hb2 hb3)
/-- What 'moment' returns. -/
def MomP (k : Nat) (w : World) (e : Ending) (w' : World) : Prop := ∃ bl, w.heap.size ≤ bl ∧ e = .returned (.func (.func 110) #[] #[.pointer (some ⟨bl, 0, none⟩)]) ∧ Row w' bl 3 [.int .i64 (k : Int)] ∧ Below w.heap.size w w'
theorem moment_any (k : Nat) (w : World) : Calls Tryz.prog 59 #[.int .i64 (k : Int)] w (MomP k w) := by
  go_enter Tryz.func59, Tryz.ntmps59
  go_wp2
  go_ret
  exact ⟨w.heap.size, Nat.le_refl _, rfl, Row.new w 3 [.int .i64 (k : Int)], Below.alloc (Below.refl _ _) (Nat.le_refl _) _⟩
theorem momc_ok (k bl : Nat) (x : ZT) (w : World) (hg : Glob w) (hr : Row w bl 3 [.int .i64 (k : Int)]) (hk : k ≤ 10) (hv : -1048576 ≤ x.1 ∧ x.1 ≤ 1048576) (ho : ∀ j, j ≤ k → Ok (mpw x.2 x.1 j)) :
    Calls Tryz.prog 110 #[eltV x, .pointer (some ⟨bl, 0, none⟩)] w (Ret w (.tuple #[.string (bs (I (mpw x.2 x.1 k))), .int .i64 0])) := by
  have hc := hr.cell (i := 0) rfl
  have hlt := hr.lt
  have HO := Lib.hid ho
  have HV := Lib.hid hv
  obtain ⟨v, z⟩ := x
  simp only at HO HV
  have HZ := Lib.hid (mpw_zero z v)
  unfold eltV
  clear hr ho hv
  simp only
  go_enter Tryz.func110, Tryz.ntmps110
  go_wp2
  go_loopw [5, 10] (fun ov iv wr => ∃ i : Nat, iv = .int .i64 (i : Int) ∧ i ≤ k ∧ ov = .string (bs (I (mpw z v i))) ∧ Below (w.heap.size + 1) (w.alloc (.cells #[.int .i64 v, .string (bs (I z))] 61)) wr) (fun _ iv _ => k - (intOf iv).toNat)
  case atStart => exact ⟨0, rfl, by omega, by rw [HZ.out], by rw [show w.heap.size + 1 = (w.alloc (.cells #[.int .i64 v, .string (bs (I z))] 61)).heap.size by simp]; exact Below.refl _ _⟩
  case round =>
    obtain ⟨i, rfl, hi, rfl, hbw⟩ := hrel
    have hbw0 : Below w.heap.size w wr := ((Below.refl _ w).alloc (Nat.le_refl _) _).trans (hbw.mono (by omega))
    by_cases hlt : i < k
    · have cv : wr.cell? ⟨w.heap.size, 0, none⟩ = some (.int .i64 v) := (hbw.cell (by simp)).trans ((Row.new w 61 [.int .i64 v, .string (bs (I z))]).cell (i := 0) rfl)
      have HA := Lib.hid (fun wx hgx => mul_I (mpw z v i) v wx hgx (HO.out i hi) (ok_of (by have := HV.out; omega)))
      rw [← mpw_succ, resV_ok (HO.out (i + 1) hlt)] at HA
      have HF := Lib.hid (fun wx hgx => vof_any v wx hgx (by have := HV.out; omega) (by have := HV.out; omega))
      go_wp2_with fail
      refine (HF.out _ (hg.of hbw0)).mono ?_
      rintro e w1 ⟨rfl, hb1⟩
      have hb1' := Below.then hbw0 hb1
      go_wp2_with fail
      refine (HA.out _ (hg.of hb1')).mono ?_
      rintro e w2 ⟨rfl, hb2⟩
      go_wp2
      go_roundw
      case rel => exact ⟨i + 1, by go_num, by omega, rfl, hbw.trans (((hb1.mono (by have := hbw.size; simpa using this)).trans (hb2.mono (by have h1 := hb1.size; have h2 := hbw.size; simp at h2; omega))))⟩
      case measure => simp [intOf]; omega
    · obtain rfl : i = k := by omega
      go_wp2
      go_ret2
      exact Ret.of rfl hbw0
end W
end Go.Proofs.YtgjfiaadnecilaaGreatDoor
namespace Go.Proofs.YtgjfiaadnecilaaGreatDoor
open Go Go.RowKit Go.Deep
namespace M
/-- A right list of moderate size. -/
def GoodL (zl : List ZT) : Prop := RightZ none zl ∧ zl ≠ [] ∧ zl.length ≤ 100 ∧ ∀ x ∈ zl, x.2.natAbs < 10 ^ 40
def tot (zl : List ZT) : Int := sm (zl.map (·.2))
def mo (k : Nat) (zl : List ZT) : Int := sm (zl.map fun x => mpw x.2 x.1 k)
def inn (lo hi : Int) (x : ZT) : Int := if x.1 < lo ∨ hi < x.1 then 0 else x.2
def inw (lo hi : Int) (zl : List ZT) : Int := sm (zl.map (inn lo hi))
def meanQ (zl : List ZT) : Rat := Rat.divInt (mo 1 zl) (tot zl)
def secQ (zl : List ZT) : Rat := Rat.divInt (mo 2 zl) (tot zl)
def varQ (zl : List ZT) : Rat := secQ zl - meanQ zl * meanQ zl
def probQ (zl : List ZT) (lo hi : Int) : Rat := Rat.divInt (inw lo hi zl) (tot zl)
theorem GoodL.tx_len {zl : List ZT} (h : GoodL zl) : zl.length ≤ 4096 := by have := h.2.2.1; omega
theorem GoodL.chk {zl : List ZT} (h : GoodL zl) : chk26 (tx zl) = 0 := h.1.chk26 h.2.1 h.tx_len
theorem GoodL.chkW {zl : List ZT} (h : GoodL zl) : chkW none (tx zl) = 0 := h.1.chkW
theorem GoodL.slen {zl : List ZT} (h : GoodL zl) : ∀ x ∈ tx zl, x.2.length ≤ 90000 := by
  intro x hx
  obtain ⟨y, hy, rfl⟩ := List.mem_map.1 hx
  have := (h.1.mem y hy).2.1.len
  simp only; omega
theorem GoodL.ne {zl : List ZT} (h : GoodL zl) : tx zl ≠ [] := by
  intro e; exact h.2.1 (List.map_eq_nil_iff.1 e)
theorem pow_abs (v : Int) (k : Nat) : (v ^ k).natAbs = v.natAbs ^ k := Int.natAbs_pow v k
theorem mpw_bd {z v : Int} {k : Nat} (hz : z.natAbs < 10 ^ 40) (hv : -1048576 ≤ v ∧ v ≤ 1048576) (hk : k ≤ 10) : (mpw z v k).natAbs < 10 ^ 110 := by
  unfold mpw
  rw [Int.natAbs_mul, pow_abs]
  have h1 : v.natAbs ^ k ≤ (10 ^ 7) ^ k := Nat.pow_le_pow_left (by rw [show (10 : Nat) ^ 7 = 10000000 by decide]; omega) k
  rw [← Nat.pow_mul] at h1
  have h2 : (10 : Nat) ^ (7 * k) ≤ 10 ^ 70 := Nat.pow_le_pow_right (by decide) (by omega)
  have h3 : z.natAbs * v.natAbs ^ k ≤ z.natAbs * 10 ^ 70 := Nat.mul_le_mul_left _ (Nat.le_trans h1 h2)
  have h4 : z.natAbs * 10 ^ 70 < 10 ^ 40 * 10 ^ 70 := Nat.mul_lt_mul_of_pos_right hz (Nat.pow_pos (by decide))
  rw [← Nat.pow_add] at h4
  exact Nat.lt_of_le_of_lt h3 h4
theorem psm_bd {g : ZT → Int} {zl : List ZT} {n : Nat} (h : ∀ x ∈ zl, (g x).natAbs < 10 ^ n) (hl : zl.length ≤ 100) (k : Nat) (hk : k ≤ zl.length) : (psm g zl k).natAbs < 10 ^ (n + 3) := by
  have h1 := sm_bound (l := (zl.take k).map g) (K := 10 ^ n) (fun z hz => by
    obtain ⟨x, hx, rfl⟩ := List.mem_map.1 hz
    exact Nat.le_of_lt (h x (List.mem_of_mem_take hx)))
  rw [List.length_map, List.length_take, Nat.min_eq_left hk] at h1
  have h2 : k * 10 ^ n ≤ 100 * 10 ^ n := Nat.mul_le_mul_right _ (by omega)
  have h3 : 0 < 10 ^ n := Nat.pow_pos (by decide)
  unfold psm
  rw [Nat.pow_add, Nat.mul_comm, show (10 : Nat) ^ 3 = 1000 by decide]
  omega
theorem tot_pos : ∀ {zl : List ZT} {p : Option Int}, RightZ p zl → zl ≠ [] → 0 < sm (zl.map (·.2))
  | [], _, _, h => absurd rfl h
  | x :: t, p, h, _ => by
    have h1 := h.1
    rw [List.map_cons, sm]
    by_cases ht : t = []
    · subst ht; simp [sm]; exact h1
    · have := tot_pos h.2.2.2.2 ht; omega
theorem GoodL.tot_pos {zl : List ZT} (h : GoodL zl) : 0 < tot zl := M.tot_pos h.1 h.2.1
theorem GoodL.ok2 {zl : List ZT} (h : GoodL zl) : (∀ x ∈ zl, Ok x.2) ∧ (∀ k, k ≤ zl.length → Ok (psm (·.2) zl k)) :=
  ⟨fun x hx => (h.1.mem x hx).2.1, fun k hk => ok_pow (psm_bd (g := (·.2)) h.2.2.2 h.2.2.1 k hk) (by decide)⟩
theorem GoodL.okm {zl : List ZT} (h : GoodL zl) (j : Nat) (hj : j ≤ 10) : (∀ x ∈ zl, Ok (mpw x.2 x.1 j)) ∧ (∀ k, k ≤ zl.length → Ok (psm (fun x => mpw x.2 x.1 j) zl k)) := by
  have hb : ∀ x ∈ zl, (mpw x.2 x.1 j).natAbs < 10 ^ 110 := fun x hx => mpw_bd (h.2.2.2 x hx) (h.1.mem x hx).2.2 hj
  exact ⟨fun x hx => ok_pow (hb x hx) (by decide), fun k hk => ok_pow (psm_bd (g := fun x => mpw x.2 x.1 j) hb h.2.2.1 k hk) (by decide)⟩
theorem inn_abs (lo hi : Int) (x : ZT) : (inn lo hi x).natAbs ≤ x.2.natAbs := by unfold inn; split <;> simp
theorem GoodL.oki {zl : List ZT} (h : GoodL zl) (lo hi : Int) : (∀ x ∈ zl, Ok (inn lo hi x)) ∧ (∀ k, k ≤ zl.length → Ok (psm (inn lo hi) zl k)) := by
  have hb : ∀ x ∈ zl, (inn lo hi x).natAbs < 10 ^ 40 := fun x hx => Nat.lt_of_le_of_lt (inn_abs lo hi x) (h.2.2.2 x hx)
  exact ⟨fun x hx => ok_pow (hb x hx) (by decide), fun k hk => ok_pow (psm_bd (g := inn lo hi) hb h.2.2.1 k hk) (by decide)⟩
theorem GoodL.tot_bd {zl : List ZT} (h : GoodL zl) : (tot zl).natAbs < 10 ^ 43 := by
  have := psm_bd (g := (·.2)) h.2.2.2 h.2.2.1 zl.length (Nat.le_refl _)
  rwa [psm_all] at this
theorem GoodL.mo_bd {zl : List ZT} (h : GoodL zl) (j : Nat) (hj : j ≤ 10) : (mo j zl).natAbs < 10 ^ 113 := by
  have hb : ∀ x ∈ zl, (mpw x.2 x.1 j).natAbs < 10 ^ 110 := fun x hx => mpw_bd (h.2.2.2 x hx) (h.1.mem x hx).2.2 hj
  have := psm_bd (g := fun x => mpw x.2 x.1 j) hb h.2.2.1 zl.length (Nat.le_refl _)
  rwa [psm_all] at this
theorem GoodL.inw_bd {zl : List ZT} (h : GoodL zl) (lo hi : Int) : (inw lo hi zl).natAbs < 10 ^ 43 := by
  have hb : ∀ x ∈ zl, (inn lo hi x).natAbs < 10 ^ 40 := fun x hx => Nat.lt_of_le_of_lt (inn_abs lo hi x) (h.2.2.2 x hx)
  have := psm_bd (g := inn lo hi) hb h.2.2.1 zl.length (Nat.le_refl _)
  rwa [psm_all] at this
theorem pow_up {x j k : Nat} (h : x < 10 ^ j) (hk : j ≤ k) : x < 10 ^ k := Nat.lt_of_lt_of_le h (Nat.pow_le_pow_right (by decide) hk)
theorem GoodL.mean_bq {zl : List ZT} (h : GoodL zl) : Bq 113 (meanQ zl) :=
  Bq_div (by have := h.tot_pos; omega) (h.mo_bd 1 (by decide)) (pow_up h.tot_bd (by decide))
theorem GoodL.sec_bq {zl : List ZT} (h : GoodL zl) : Bq 113 (secQ zl) :=
  Bq_div (by have := h.tot_pos; omega) (h.mo_bd 2 (by decide)) (pow_up h.tot_bd (by decide))
theorem GoodL.prob_bq {zl : List ZT} (h : GoodL zl) (lo hi : Int) : Bq 43 (probQ zl lo hi) :=
  Bq_div (by have := h.tot_pos; omega) (h.inw_bd lo hi) h.tot_bd
theorem GoodL.var_bq {zl : List ZT} (h : GoodL zl) : Bq 340 (varQ zl) := (h.sec_bq.sub (h.mean_bq.mul h.mean_bq)).mono (by decide)
end M
namespace W
open M
attribute [local go_sem] bs_size bs_toList bs_get bs_extract bs_append bs_lit0 bs_lit1 lit1_bs
set_option maxHeartbeats 1000000
set_option maxRecDepth 20000
/-- What 'Check' says at a list, wherever it is asked. -/
def ChkD (v : Value) (c : Nat) (w : World) : Prop := ∀ wx, Below w.heap.size w wx → Calls Tryz.prog 24 #[v] wx (Ret wx (.int .i64 (c : Int)))
theorem ChkD.below {v : Value} {c : Nat} {w w' : World} (h : ChkD v c w) (hb : Below w.heap.size w w') : ChkD v c w' := fun wx hx => h wx (Below.then hb hx)
theorem chk_good {zl : List ZT} (b o cap : Nat) (w : World) (hg : Glob w) (hw : WSl w b o (tx zl)) (h : GoodL zl) : ChkD (.slice (some ⟨b, o, none⟩) zl.length cap) 0 w := by
  intro wx hx
  have := dcheck_some (tx zl) b o cap wx (hg.of hx) (hw.below' hx) h.ne (by rw [M.tx_len]; exact h.tx_len) h.slen
  rw [h.chkW, M.tx_len] at this
  exact this
theorem total_bad (v : Value) (c : Nat) (w : World) (hc : ChkD v c w) (h0 : c ≠ 0) : Calls Tryz.prog 18 #[v] w (Ret w (.tuple #[.string (bs []), .int .i64 (c : Int)])) := by
  have HC := Lib.hid hc
  have hz : ((c : Int) == 0) = false := by simp; exact h0
  clear hc h0
  go_enter Tryz.func18, Tryz.ntmps18
  go_wp2_with fail
  refine (HC.out _ (Below.refl _ _)).mono ?_
  rintro e w1 ⟨rfl, hb1⟩
  go_wp2
  go_ret2
  exact Ret.of rfl hb1
theorem mean_bad (v : Value) (c : Nat) (w : World) (hc : ChkD v c w) (h0 : c ≠ 0) : Calls Tryz.prog 20 #[v] w (Ret w (.tuple #[.string (bs []), .int .i64 (c : Int)])) := by
  have HC := Lib.hid hc
  have hz : ((c : Int) == 0) = false := by simp; exact h0
  clear hc h0
  go_enter Tryz.func20, Tryz.ntmps20
  go_wp2_with fail
  refine (HC.out _ (Below.refl _ _)).mono ?_
  rintro e w1 ⟨rfl, hb1⟩
  go_wp2
  go_ret2
  exact Ret.of rfl hb1
theorem variance_bad (v : Value) (c : Nat) (w : World) (hc : ChkD v c w) (h0 : c ≠ 0) : Calls Tryz.prog 22 #[v] w (Ret w (.tuple #[.string (bs []), .int .i64 (c : Int)])) := by
  have HC := Lib.hid (mean_bad v c w hc h0)
  have hz : ((c : Int) == 0) = false := by simp; exact h0
  clear hc h0
  go_enter Tryz.func22, Tryz.ntmps22
  go_wp2_with fail
  refine (HC.out).mono ?_
  rintro e w1 ⟨rfl, hb1⟩
  go_wp2
  go_ret2
  exact Ret.of rfl hb1
theorem probability_bad (v : Value) (c : Nat) (lo hi : Int) (w : World) (hc : ChkD v c w) (h0 : c ≠ 0) : Calls Tryz.prog 14 #[v, .agg #[.int .i64 lo, .int .i64 hi]] w (Ret w (.tuple #[.string (bs []), .int .i64 (c : Int)])) := by
  have HC := Lib.hid hc
  have hz : ((c : Int) == 0) = false := by simp; exact h0
  clear hc h0
  go_enter Tryz.func14, Tryz.ntmps14
  go_wp2_with fail
  refine (HC.out _ ((Below.refl _ _).alloc (Nat.le_refl _) _)).mono ?_
  rintro e w1 ⟨rfl, hb1⟩
  have hb1' := alloc_then hb1
  go_wp2
  go_ret2
  exact Ret.of rfl hb1'
theorem total_ok (zl : List ZT) (b o cap : Nat) (w : World) (hg : Glob w) (hw : WSl w b o (tx zl)) (h : GoodL zl) :
    Calls Tryz.prog 18 #[.slice (some ⟨b, o, none⟩) zl.length cap] w (Ret w (.tuple #[.string (bs (I (tot zl))), .int .i64 0])) := by
  have HC := Lib.hid (chk_good b o cap w hg hw h)
  have HS := Lib.hid (fun wx (hb : Below w.heap.size w wx) => dsum_ok 57 #[] (·.2) zl b o cap wx ent_weight (hg.of hb) (hw.below' hb) h.tx_len (fun wy _ x _ => weight_any x wy) h.ok2.1 h.ok2.2)
  have HT := Lib.hid (show sm (zl.map (·.2)) = tot zl from rfl)
  rw [HT.out] at HS
  clear hw h HT
  generalize tot zl = t at *
  go_enter Tryz.func18, Tryz.ntmps18
  go_wp2_with fail
  refine (HC.out _ (Below.refl _ _)).mono ?_
  rintro e w1 ⟨rfl, hb1⟩
  go_wp2_with fail
  refine (HS.out _ hb1).mono ?_
  rintro e w2 ⟨rfl, hb2⟩
  go_wp2
  go_ret2
  exact Ret.of rfl (Below.then hb1 hb2)
theorem ent_momc : Enters Tryz.prog 110 := enters_of Tryz.func110 (by kernel_rfl) rfl
theorem ent_probc : Enters Tryz.prog 52 := enters_of Tryz.func52 (by kernel_rfl) rfl
theorem share_mom (k bl : Nat) (zl : List ZT) (b o cap : Nat) (w : World) (hg : Glob w) (hw : WSl w b o (tx zl)) (h : GoodL zl) (hk : k ≤ 10) (hr : Row w bl 3 [.int .i64 (k : Int)]) :
    Calls Tryz.prog 51 #[.slice (some ⟨b, o, none⟩) zl.length cap, .func (.func 110) #[] #[.pointer (some ⟨bl, 0, none⟩)]] w (Ret w (.tuple #[.string (bs (R (Rat.divInt (mo k zl) (tot zl)))), .int .i64 0])) :=
  share_ok 110 #[.pointer (some ⟨bl, 0, none⟩)] (fun x => mpw x.2 x.1 k) zl b o cap w ent_momc hg hw h.tx_len
    (fun wx hb x hx => momc_ok k bl x wx (hg.of hb) (hr.below' hb) hk (h.1.mem x hx).2.2 (fun j hj => (h.okm j (by omega)).1 x hx))
    (h.okm k hk).1 (h.okm k hk).2 h.ok2.1 h.ok2.2 (by have := h.tot_pos; unfold tot at this; omega)
theorem mean_ok (zl : List ZT) (b o cap : Nat) (w : World) (hg : Glob w) (hw : WSl w b o (tx zl)) (h : GoodL zl) :
    Calls Tryz.prog 20 #[.slice (some ⟨b, o, none⟩) zl.length cap] w (Ret w (.tuple #[.string (bs (R (meanQ zl))), .int .i64 0])) := by
  have HC := Lib.hid (chk_good b o cap w hg hw h)
  have HM := Lib.hid (fun wx => moment_any 1 wx)
  have HS := Lib.hid (fun bl wx (hb : Below w.heap.size w wx) hr => share_mom 1 bl zl b o cap wx (hg.of hb) (hw.below' hb) h (by decide) hr)
  have HT := Lib.hid (show Rat.divInt (mo 1 zl) (tot zl) = meanQ zl from rfl)
  rw [HT.out] at HS
  clear hw h HT
  generalize meanQ zl = q at *
  go_enter Tryz.func20, Tryz.ntmps20
  go_wp2_with fail
  refine (HC.out _ (Below.refl _ _)).mono ?_
  rintro e w1 ⟨rfl, hb1⟩
  go_wp2_with fail
  refine (HM.out _).mono ?_
  rintro e w2 ⟨bl, hbl, rfl, hr, hb2⟩
  have hb2' := Below.then hb1 hb2
  go_wp2_with fail
  refine (HS.out _ _ hb2' hr).mono ?_
  rintro e w3 ⟨rfl, hb3⟩
  go_wp2
  go_ret2
  exact Ret.of rfl (Below.then hb2' hb3)
theorem variance_ok (zl : List ZT) (b o cap : Nat) (w : World) (hg : Glob w) (hw : WSl w b o (tx zl)) (h : GoodL zl) :
    Calls Tryz.prog 22 #[.slice (some ⟨b, o, none⟩) zl.length cap] w (Ret w (.tuple #[.string (bs (R (varQ zl))), .int .i64 0])) := by
  have HC := Lib.hid (mean_ok zl b o cap w hg hw h)
  have HM := Lib.hid (fun wx => moment_any 2 wx)
  have HS := Lib.hid (fun bl wx (hb : Below w.heap.size w wx) hr => share_mom 2 bl zl b o cap wx (hg.of hb) (hw.below' hb) h (by decide) hr)
  have HT := Lib.hid (show Rat.divInt (mo 2 zl) (tot zl) = secQ zl from rfl)
  rw [HT.out] at HS
  have HX := Lib.hid (fun wx hgx => ratMul _ _ 113 113 wx hgx h.mean_bq h.mean_bq (by decide))
  have HY := Lib.hid (fun wx hgx => ratSub _ _ 113 226 wx hgx h.sec_bq (h.mean_bq.mul h.mean_bq) (by decide))
  have HV := Lib.hid (show secQ zl - meanQ zl * meanQ zl = varQ zl from rfl)
  rw [HV.out] at HY
  clear hw h HT HV
  generalize varQ zl = vq at *
  generalize secQ zl = sq at *
  generalize hmm : meanQ zl * meanQ zl = mm at *
  generalize meanQ zl = q at *
  clear hmm
  go_enter Tryz.func22, Tryz.ntmps22
  go_wp2_with fail
  refine (HC.out).mono ?_
  rintro e w1 ⟨rfl, hb1⟩
  go_wp2_with fail
  refine (HM.out _).mono ?_
  rintro e w2 ⟨bl, hbl, rfl, hr, hb2⟩
  have hb2' := Below.then hb1 hb2
  go_wp2_with fail
  refine (HS.out _ _ hb2' hr).mono ?_
  rintro e w3 ⟨rfl, hb3⟩
  have hb3' := Below.then hb2' hb3
  go_wp2_with fail
  refine (HX.out _ (hg.of hb3')).mono ?_
  rintro e w4 ⟨rfl, hb4⟩
  have hb4' := Below.then hb3' hb4
  go_wp2_with fail
  refine (HY.out _ (hg.of hb4')).mono ?_
  rintro e w5 ⟨rfl, hb5⟩
  go_wp2
  go_ret2
  exact Ret.of rfl (Below.then hb4' hb5)
theorem probc_ok (lo hi : Int) (bl : Nat) (x : ZT) (w : World) (hr : Row w bl 24 [.int .i64 lo, .int .i64 hi]) :
    Calls Tryz.prog 52 #[eltV x, .pointer (some ⟨bl, 0, none⟩)] w (Ret w (.tuple #[.string (bs (I (inn lo hi x))), .int .i64 0])) := by
  have c0 := hr.cell (i := 0) rfl
  have c1 := hr.cell (i := 1) rfl
  have hlt := hr.lt
  have H0 := Lib.hid I_zero
  obtain ⟨v, z⟩ := x
  unfold eltV inn
  clear hr
  simp only
  by_cases h1 : v < lo
  · rw [if_pos (Or.inl h1), H0.out]
    go_enter Tryz.func52, Tryz.ntmps52
    go_wp2
    go_ret2
    exact Ret.of rfl (Below.alloc (Below.refl _ _) (Nat.le_refl _) _)
  · have hd : decide (v < lo) = false := decide_eq_false h1
    by_cases h2 : hi < v
    · rw [if_pos (Or.inr h2), H0.out]
      go_enter Tryz.func52, Tryz.ntmps52
      go_wp2
      go_ret2
      exact Ret.of rfl (Below.alloc (Below.refl _ _) (Nat.le_refl _) _)
    · rw [if_neg (by omega)]
      go_enter Tryz.func52, Tryz.ntmps52
      go_wp2
      go_ret2
      exact Ret.of rfl (Below.alloc (Below.refl _ _) (Nat.le_refl _) _)
theorem probability_ok (zl : List ZT) (b o cap : Nat) (lo hi : Int) (w : World) (hg : Glob w) (hw : WSl w b o (tx zl)) (h : GoodL zl) (hle : lo ≤ hi) :
    Calls Tryz.prog 14 #[.slice (some ⟨b, o, none⟩) zl.length cap, .agg #[.int .i64 lo, .int .i64 hi]] w (Ret w (.tuple #[.string (bs (R (probQ zl lo hi))), .int .i64 0])) := by
  have HC := Lib.hid (chk_good b o cap w hg hw h)
  have HS := Lib.hid (fun bl wx (hb : Below w.heap.size w wx) (hr : Row wx bl 24 [.int .i64 lo, .int .i64 hi]) => share_ok 52 #[.pointer (some ⟨bl, 0, none⟩)] (inn lo hi) zl b o cap wx ent_probc (hg.of hb) (hw.below' hb) h.tx_len
    (fun wy hby x _ => probc_ok lo hi bl x wy (hr.below' hby)) (h.oki lo hi).1 (h.oki lo hi).2 h.ok2.1 h.ok2.2 (by have := h.tot_pos; unfold tot at this; omega))
  have HT := Lib.hid (show Rat.divInt (sm (zl.map (inn lo hi))) (sm (zl.map (·.2))) = probQ zl lo hi from rfl)
  rw [HT.out] at HS
  clear hw h HT
  generalize probQ zl lo hi = q at *
  go_enter Tryz.func14, Tryz.ntmps14
  go_wp2_with fail
  refine (HC.out _ ((Below.refl _ _).alloc (Nat.le_refl _) _)).mono ?_
  rintro e w1 ⟨rfl, hb1⟩
  have hr := (Row.new w 24 [.int .i64 lo, .int .i64 hi]).below' hb1
  have c0 := hr.cell (i := 0) rfl
  have c1 := hr.cell (i := 1) rfl
  have HR := Lib.hid hr
  have hb1' := alloc_then hb1
  clear hr hb1
  go_wp2_with fail
  refine (HS.out _ _ hb1' HR.out).mono ?_
  rintro e w3 ⟨rfl, hb3⟩
  go_wp2
  go_ret2
  exact Ret.of rfl (Below.then hb1' hb3)
theorem probability_order (v : Value) (lo hi : Int) (w : World) (hc : ChkD v 0 w) (hle : hi < lo) :
    Calls Tryz.prog 14 #[v, .agg #[.int .i64 lo, .int .i64 hi]] w (Ret w (.tuple #[.string (bs []), .int .i64 9])) := by
  have HC := Lib.hid hc
  clear hc
  go_enter Tryz.func14, Tryz.ntmps14
  go_wp2_with fail
  refine (HC.out _ ((Below.refl _ _).alloc (Nat.le_refl _) _)).mono ?_
  rintro e w1 ⟨rfl, hb1⟩
  have hr := (Row.new w 24 [.int .i64 lo, .int .i64 hi]).below' hb1
  have c0 := hr.cell (i := 0) rfl
  have c1 := hr.cell (i := 1) rfl
  have hb1' := alloc_then hb1
  clear hr hb1
  go_wp2
  go_ret2
  exact Ret.of rfl hb1'
end W
end Go.Proofs.YtgjfiaadnecilaaGreatDoor
namespace Go.Proofs.YtgjfiaadnecilaaGreatDoor
open Go Go.RowKit Go.Deep
namespace M
theorem I_le {z : Int} {k : Nat} (h : z.natAbs < 10 ^ k) (hk : 1 ≤ k) : (I z).length ≤ k + 1 := I_len hk h
/-- The chance of an element. -/
def chQ (zl : List ZT) (z : Int) : Rat := Rat.divInt z (tot zl)
end M
namespace W
open M
attribute [local go_sem] bs_size bs_toList bs_get bs_extract bs_append bs_lit0 bs_lit1 lit1_bs
set_option maxHeartbeats 1000000
set_option maxRecDepth 20000
theorem rwhole_ok (zl : List ZT) (b o cap : Nat) (w : World) (hw : WSl w b o (tx zl)) (h : GoodL zl) :
    Calls Tryz.prog 58 #[.slice (some ⟨b, o, none⟩) zl.length cap] w (Ret w (.string (bs (I (tot zl))))) := by
  have HW := Lib.hid hw
  have hl := h.2.2.1
  have HT : Hid (psm (·.2) zl zl.length = tot zl) := psm_all (·.2) zl
  rw [← HT.out]
  have HZ := Lib.hid (psm_zero (·.2) zl)
  have H0 := Lib.hid I_zero
  have HP := Lib.hid (fun i (hlt : i < zl.length) wx => plus_I (psm (·.2) zl i) zl[i].2 wx
    (Nat.le_trans (I_le (psm_bd (g := (·.2)) h.2.2.2 h.2.2.1 i (Nat.le_of_lt hlt)) (by decide)) (by decide)) (Nat.le_trans (I_le (h.2.2.2 _ (List.getElem_mem hlt)) (by decide)) (by decide)))
  have HS := Lib.hid (fun i hlt => psm_succ (·.2) zl i hlt)
  clear hw h
  go_enter Tryz.func58, Tryz.ntmps58
  go_wp2
  go_loopw [3, 4] (fun ov iv wr => ∃ i : Nat, iv = .int .i64 (i : Int) ∧ i ≤ zl.length ∧ ov = .string (bs (I (psm (·.2) zl i))) ∧ Below w.heap.size w wr) (fun _ iv _ => zl.length - (intOf iv).toNat)
  case atStart =>
    refine ⟨0, rfl, by omega, ?_, Below.refl _ _⟩
    rw [HZ.out, H0.out]; rfl
  case round =>
    obtain ⟨i, rfl, hi, rfl, hbw⟩ := hrel
    by_cases hlt : i < zl.length
    · have hwr := HW.out.below' hbw
      have hlt' : i < (tx zl).length := by rw [tx_len]; exact hlt
      have cw := hwr.wt i hlt'
      rw [tx_get zl i hlt] at cw
      have HA := Lib.hid (HP.out i hlt wr)
      rw [← HS.out i hlt] at HA
      clear hwr
      simp only at cw
      go_wp2_with fail
      refine (HA.out).mono ?_
      rintro e w1 ⟨rfl, hb1⟩
      go_wp2
      go_roundw
      case rel => exact ⟨i + 1, by go_num, by omega, rfl, hbw.trans (hb1.mono hbw.size)⟩
      case measure => simp [intOf]; omega
    · obtain rfl : i = zl.length := by omega
      go_wp2
      go_ret
      exact Ret.of rfl hbw
theorem chance_ok (zl : List ZT) (b o cap i : Nat) (w : World) (hw : WSl w b o (tx zl)) (h : GoodL zl) (hlt : i < zl.length) :
    Calls Tryz.prog 107 #[.slice (some ⟨b, o, none⟩) zl.length cap, .int .i64 (i : Int)] w (Ret w (.string (bs (R (chQ zl zl[i].2))))) := by
  have hlt' : i < (tx zl).length := by rw [tx_len]; exact hlt
  have cw := hw.wt i hlt'
  rw [tx_get zl i hlt] at cw
  simp only at cw
  have hl := h.2.2.1
  have hblt := hw.lt
  have HW := Lib.hid (fun wx (hb : Below w.heap.size w wx) => rwhole_ok zl b o cap wx (hw.below' hb) h)
  have HL := Lib.hid (fun wx => lowest_I zl[i].2 (tot zl) wx (by have := h.tot_pos; omega) (Nat.le_trans (I_le (h.2.2.2 _ (List.getElem_mem hlt)) (by decide)) (by decide)) (Nat.le_trans (I_le h.tot_bd (by decide)) (by decide)))
  have HC := Lib.hid (show Rat.divInt zl[i].2 (tot zl) = chQ zl zl[i].2 from rfl)
  rw [HC.out] at HL
  have hi0 : (0 : Int) ≤ (i : Int) := by omega
  have hi1 : (i : Int) < (zl.length : Int) := by omega
  have hbd : Below w.heap.size w w.drew := RowKit.Below.drew (Below.refl _ _)
  clear hw h HC hlt'
  generalize chQ zl zl[i].2 = q at *
  generalize I (tot zl) = t at *
  generalize I zl[i].2 = s at *
  go_enter Tryz.func107, Tryz.ntmps107
  go_wp2
  go_region_with (first | (go_at_call 58; refine (HW.out _ hbd).mono ?_; rintro e w1 ⟨rfl, hb1⟩; have cw1 := (hb1.cell (p := ⟨b, o + i * 2 + 1, none⟩) hblt).trans cw) | (go_at_call 80; refine (HL.out _).mono ?_; rintro e w2 ⟨rfl, hb2⟩))
  all_goals
    have hb9 := Below.then (Below.then hbd hb1) hb2
    go_wp2
    go_ret
    exact Ret.of rfl hb9
end W
end Go.Proofs.YtgjfiaadnecilaaGreatDoor
namespace Go.Proofs.YtgjfiaadnecilaaGreatDoor
open Go Go.RowKit Go.Deep
namespace M
theorem Bq.sh {k : Nat} {q : Rat} (h : Bq k q) (hk : 1 ≤ k) (hk2 : k ≤ 39990) : Sh q :=
  ⟨Nat.le_trans (I_le h.1 hk) (by omega), Nat.le_trans (I_le (den_abs h) hk) (by omega)⟩
theorem Bq_int {n : Int} {k : Nat} (h : n.natAbs < 10 ^ k) (hk : 1 ≤ k) : Bq k (n : Rat) := by
  unfold Bq
  rw [Rat.num_intCast, Rat.den_intCast]
  exact ⟨h, Nat.one_lt_pow (by omega) (by decide)⟩
theorem Bq_val {n : Int} (h : -1048576 ≤ n ∧ n ≤ 1048576) : Bq 8 (n : Rat) := Bq_int (by rw [show (10 : Nat) ^ 8 = 100000000 by decide]; omega) (by decide)
/-- The sum over the first i elements, through the total. -/
def parQ (g : ZT → Int) (zl : List ZT) (i : Nat) : Rat := Rat.divInt (psm g zl i) (tot zl)
theorem divInt_add (a c W : Int) : Rat.divInt (a + c) W = Rat.divInt a W + Rat.divInt c W := by
  rw [Rat.divInt_eq_div, Rat.divInt_eq_div, Rat.divInt_eq_div, Rat.intCast_add]; grind
theorem divInt_mul (a c W : Int) : Rat.divInt (a * c) W = Rat.divInt a W * (c : Rat) := by
  rw [Rat.divInt_eq_div, Rat.divInt_eq_div, Rat.intCast_mul]; grind
theorem parQ_zero (g : ZT → Int) (zl : List ZT) : parQ g zl 0 = 0 := by unfold parQ; rw [psm_zero, Rat.zero_divInt]
theorem parQ_succ (g : ZT → Int) (zl : List ZT) (i : Nat) (h : i < zl.length) : parQ g zl (i + 1) = parQ g zl i + Rat.divInt (g zl[i]) (tot zl) := by
  unfold parQ; rw [psm_succ g zl i h, divInt_add]
def m1 (x : ZT) : Int := mpw x.2 x.1 1
def m2 (x : ZT) : Int := mpw x.2 x.1 2
theorem chQ_m1 (zl : List ZT) (x : ZT) : Rat.divInt (m1 x) (tot zl) = chQ zl x.2 * (x.1 : Rat) := by
  unfold m1 mpw chQ; rw [Int.pow_succ, Int.pow_zero, Int.one_mul, divInt_mul]
theorem chQ_m2 (zl : List ZT) (x : ZT) : Rat.divInt (m2 x) (tot zl) = chQ zl x.2 * (x.1 : Rat) * (x.1 : Rat) := by
  unfold m2 mpw chQ; rw [Int.pow_succ, Int.pow_succ, Int.pow_zero, Int.one_mul, ← Int.mul_assoc, divInt_mul, divInt_mul]
theorem GoodL.par_bq {zl : List ZT} (h : GoodL zl) (g : ZT → Int) (n : Nat) (hn : 40 ≤ n) (hg : ∀ x ∈ zl, (g x).natAbs < 10 ^ n) (i : Nat) (hi : i ≤ zl.length) : Bq (n + 3) (parQ g zl i) :=
  Bq_div (by have := h.tot_pos; omega) (psm_bd hg h.2.2.1 i hi) (pow_up h.tot_bd (by omega))
theorem GoodL.ch_bq {zl : List ZT} (h : GoodL zl) (x : ZT) (hx : x ∈ zl) : Bq 43 (chQ zl x.2) :=
  Bq_div (by have := h.tot_pos; omega) (pow_up (h.2.2.2 x hx) (by decide)) h.tot_bd
theorem GoodL.m1_bd {zl : List ZT} (h : GoodL zl) : ∀ x ∈ zl, (m1 x).natAbs < 10 ^ 110 := fun x hx => mpw_bd (h.2.2.2 x hx) (h.1.mem x hx).2.2 (by decide)
theorem GoodL.m2_bd {zl : List ZT} (h : GoodL zl) : ∀ x ∈ zl, (m2 x).natAbs < 10 ^ 110 := fun x hx => mpw_bd (h.2.2.2 x hx) (h.1.mem x hx).2.2 (by decide)
theorem parQ_m1 (zl : List ZT) : parQ m1 zl zl.length = meanQ zl := by unfold parQ; rw [psm_all]; rfl
theorem parQ_m2 (zl : List ZT) : parQ m2 zl zl.length = secQ zl := by unfold parQ; rw [psm_all]; rfl
theorem parQ_w {zl : List ZT} (h : GoodL zl) : parQ (·.2) zl zl.length = 1 := by
  unfold parQ; rw [psm_all]
  show Rat.divInt (tot zl) (tot zl) = 1
  exact Rat.divInt_self' (by have := h.tot_pos; omega)
/-- The sum of the squared distances from the mean, over the first i elements. -/
def sprQ (zl : List ZT) (i : Nat) : Rat := parQ m2 zl i - 2 * meanQ zl * parQ m1 zl i + meanQ zl * meanQ zl * parQ (·.2) zl i
theorem sprQ_zero (zl : List ZT) : sprQ zl 0 = 0 := by unfold sprQ; rw [parQ_zero, parQ_zero, parQ_zero]; grind
theorem sprQ_succ (zl : List ZT) (i : Nat) (h : i < zl.length) : sprQ zl (i + 1) = sprQ zl i + chQ zl zl[i].2 * (((zl[i].1 : Rat) - meanQ zl) * ((zl[i].1 : Rat) - meanQ zl)) := by
  unfold sprQ
  rw [parQ_succ m2 zl i h, parQ_succ m1 zl i h, parQ_succ (·.2) zl i h, chQ_m1, chQ_m2]
  show _ - _ + _ * (_ + chQ zl zl[i].2) = _
  grind
theorem sprQ_all {zl : List ZT} (h : GoodL zl) : sprQ zl zl.length = varQ zl := by
  unfold sprQ varQ; rw [parQ_m1, parQ_m2, parQ_w h]; grind
theorem Bq_two : Bq 1 (2 : Rat) := by
  have : ((2 : Int) : Rat) = 2 := rfl
  rw [← this]; exact Bq_int (by decide) (by decide)
theorem GoodL.spr_bq {zl : List ZT} (h : GoodL zl) (i : Nat) (hi : i ≤ zl.length) : Bq 700 (sprQ zl i) :=
  (((h.par_bq m2 110 (by decide) h.m2_bd i hi).sub ((Bq_two.mul h.mean_bq).mul (h.par_bq m1 110 (by decide) h.m1_bd i hi))).add ((h.mean_bq.mul h.mean_bq).mul (h.par_bq (·.2) 40 (by decide) h.2.2.2 i hi))).mono (by decide)
theorem R_zero : R 0 = [48] := by
  have : ((0 : Int) : Rat) = 0 := rfl
  rw [← this, W.R_int, I_zero]
end M
namespace W
open M
attribute [local go_sem] bs_size bs_toList bs_get bs_extract bs_append bs_lit0 bs_lit1 lit1_bs
set_option maxHeartbeats 1000000
set_option maxRecDepth 20000
theorem rcenter_ok (zl : List ZT) (b o cap : Nat) (w : World) (hw : WSl w b o (tx zl)) (h : GoodL zl) :
    Calls Tryz.prog 60 #[.slice (some ⟨b, o, none⟩) zl.length cap] w (Ret w (.string (bs (R (meanQ zl))))) := by
  have HW := Lib.hid hw
  have hl := h.2.2.1
  have hblt := hw.lt
  have HT := Lib.hid (parQ_m1 zl)
  rw [← HT.out]
  have HZ := Lib.hid (parQ_zero m1 zl)
  have H0 := Lib.hid R_zero
  have HCH := Lib.hid (fun i (hlt : i < zl.length) wx (hb : Below w.heap.size w wx) => chance_ok zl b o cap i wx (hw.below' hb) h hlt)
  have HVB := Lib.hid (fun i (hlt : i < zl.length) => (h.1.mem _ (List.getElem_mem hlt)).2.2)
  have HTI := Lib.hid (fun i (hlt : i < zl.length) wx => timesR (chQ zl zl[i].2) (zl[i].1 : Rat) wx ((h.ch_bq _ (List.getElem_mem hlt)).sh (by decide) (by decide)) ((Bq_val (HVB.out i hlt)).sh (by decide) (by decide)))
  have HPL := Lib.hid (fun i (hlt : i < zl.length) wx => plus_R (parQ m1 zl i) (chQ zl zl[i].2 * (zl[i].1 : Rat)) wx ((h.par_bq m1 110 (by decide) h.m1_bd i (Nat.le_of_lt hlt)).sh (by decide) (by decide)) (((h.ch_bq _ (List.getElem_mem hlt)).mul (Bq_val (HVB.out i hlt))).sh (by decide) (by decide)))
  have HS := Lib.hid (fun i hlt => parQ_succ m1 zl i hlt)
  clear hw h
  go_enter Tryz.func60, Tryz.ntmps60
  go_wp2
  go_loopw [3, 4] (fun ov iv wr => ∃ i : Nat, iv = .int .i64 (i : Int) ∧ i ≤ zl.length ∧ ov = .string (bs (R (parQ m1 zl i))) ∧ Below w.heap.size w wr) (fun _ iv _ => zl.length - (intOf iv).toNat)
  case atStart =>
    refine ⟨0, rfl, by omega, ?_, Below.refl _ _⟩
    rw [HZ.out, H0.out]; rfl
  case round =>
    obtain ⟨i, rfl, hi, rfl, hbw⟩ := hrel
    by_cases hlt : i < zl.length
    · have hwr := HW.out.below' hbw
      have hlt' : i < (tx zl).length := by rw [tx_len]; exact hlt
      have cv := hwr.val i hlt'
      rw [tx_get zl i hlt] at cv
      simp only at cv
      have hq := HS.out i hlt
      rw [chQ_m1] at hq
      have HC := Lib.hid (HCH.out i hlt)
      have HT := Lib.hid (HTI.out i hlt)
      have hp := HPL.out i hlt
      rw [← hq] at hp
      have HP := Lib.hid hp
      have hvb := HVB.out i hlt
      have HWH := Lib.hid (fun wx => whole_R zl[i].1 wx (by omega) (by omega))
      have hi0 : (0 : Int) ≤ (i : Int) := by omega
      have hi1 : (i : Int) < (zl.length : Int) := by omega
      have hbd : Below w.heap.size w wr.drew := hbw.trans ((RowKit.Below.drew (Below.refl _ wr)).mono hbw.size)
      have hbwlt : b < wr.heap.size := Nat.lt_of_lt_of_le hblt hbw.size
      clear hwr hlt' hq hp hvb
      generalize hq1 : parQ m1 zl (i + 1) = q1 at *
      have HQ1 := Lib.hid hq1
      clear hq1
      generalize parQ m1 zl i = q0 at *
      generalize hcv : chQ zl zl[i].2 * (zl[i].1 : Rat) = cvq at *
      generalize chQ zl zl[i].2 = c at *
      generalize zl[i].1 = v at *
      clear hcv
      go_wp2
      go_region_with (first | (go_at_call 107; refine (HC.out _ hbd).mono ?_; rintro e w1 ⟨rfl, hb1⟩; have cv1 := (hb1.cell (p := ⟨b, o + i * 2, none⟩) hbwlt).trans cv) | (go_at_call 43; refine (HWH.out _).mono ?_; rintro e w2 ⟨rfl, hb2⟩) | (go_at_call 113; refine (HT.out _).mono ?_; rintro e w3 ⟨rfl, hb3⟩) | (go_at_call 106; refine (HP.out _).mono ?_; rintro e w4 ⟨rfl, hb4⟩))
      all_goals
        have hb5 := Below.then (Below.then (Below.then (Below.then hbd hb1) hb2) hb3) hb4
        go_wp2
        go_roundw
        case rel => exact ⟨i + 1, by go_num, by omega, by rw [HQ1.out], hb5⟩
        case measure => simp [intOf]; omega
    · obtain rfl : i = zl.length := by omega
      go_wp2
      go_ret
      exact Ret.of rfl hbw
theorem rspread_ok (zl : List ZT) (b o cap : Nat) (w : World) (hw : WSl w b o (tx zl)) (h : GoodL zl) :
    Calls Tryz.prog 63 #[.slice (some ⟨b, o, none⟩) zl.length cap] w (Ret w (.string (bs (R (varQ zl))))) := by
  have HW := Lib.hid hw
  have hl := h.2.2.1
  have hblt := hw.lt
  have HT := Lib.hid (sprQ_all h)
  rw [← HT.out]
  have HZ := Lib.hid (sprQ_zero zl)
  have H0 := Lib.hid R_zero
  have HCE := Lib.hid (rcenter_ok zl b o cap w hw h)
  have HCH := Lib.hid (fun i (hlt : i < zl.length) wx (hb : Below w.heap.size w wx) => chance_ok zl b o cap i wx (hw.below' hb) h hlt)
  have HVB := Lib.hid (fun i (hlt : i < zl.length) => (h.1.mem _ (List.getElem_mem hlt)).2.2)
  have HDB := Lib.hid (fun i (hlt : i < zl.length) => (Bq_val (HVB.out i hlt)).sub h.mean_bq)
  have HMI := Lib.hid (fun i (hlt : i < zl.length) wx => minus_R (zl[i].1 : Rat) (meanQ zl) wx ((Bq_val (HVB.out i hlt)).sh (by decide) (by decide)) (h.mean_bq.sh (by decide) (by decide)))
  have HTI := Lib.hid (fun i (hlt : i < zl.length) wx => timesR ((zl[i].1 : Rat) - meanQ zl) ((zl[i].1 : Rat) - meanQ zl) wx ((HDB.out i hlt).sh (by decide) (by decide)) ((HDB.out i hlt).sh (by decide) (by decide)))
  have HTJ := Lib.hid (fun i (hlt : i < zl.length) wx => timesR (chQ zl zl[i].2) (((zl[i].1 : Rat) - meanQ zl) * ((zl[i].1 : Rat) - meanQ zl)) wx ((h.ch_bq _ (List.getElem_mem hlt)).sh (by decide) (by decide)) (((HDB.out i hlt).mul (HDB.out i hlt)).sh (by decide) (by decide)))
  have HPL := Lib.hid (fun i (hlt : i < zl.length) wx => plus_R (sprQ zl i) (chQ zl zl[i].2 * (((zl[i].1 : Rat) - meanQ zl) * ((zl[i].1 : Rat) - meanQ zl))) wx ((h.spr_bq i (Nat.le_of_lt hlt)).sh (by decide) (by decide)) (((h.ch_bq _ (List.getElem_mem hlt)).mul ((HDB.out i hlt).mul (HDB.out i hlt))).sh (by decide) (by decide)))
  have HS := Lib.hid (fun i hlt => sprQ_succ zl i hlt)
  clear hw h
  generalize meanQ zl = mq at *
  go_enter Tryz.func63, Tryz.ntmps63
  go_wp2_with fail
  refine (HCE.out).mono ?_
  rintro e w0 ⟨rfl, hb0⟩
  go_wp2
  go_loopw [3, 5] (fun ov iv wr => ∃ i : Nat, iv = .int .i64 (i : Int) ∧ i ≤ zl.length ∧ ov = .string (bs (R (sprQ zl i))) ∧ Below w.heap.size w wr) (fun _ iv _ => zl.length - (intOf iv).toNat)
  case atStart =>
    refine ⟨0, rfl, by omega, ?_, hb0⟩
    rw [HZ.out, H0.out]; rfl
  case round =>
    obtain ⟨i, rfl, hi, rfl, hbw⟩ := hrel
    by_cases hlt : i < zl.length
    · have hwr := HW.out.below' hbw
      have hlt' : i < (tx zl).length := by rw [tx_len]; exact hlt
      have cv := hwr.val i hlt'
      rw [tx_get zl i hlt] at cv
      simp only at cv
      have hq := HS.out i hlt
      have HC := Lib.hid (HCH.out i hlt)
      have HM := Lib.hid (HMI.out i hlt)
      have HT := Lib.hid (HTI.out i hlt)
      have HU := Lib.hid (HTJ.out i hlt)
      have hp := HPL.out i hlt
      rw [← hq] at hp
      have HP := Lib.hid hp
      have hvb := HVB.out i hlt
      have HWH := Lib.hid (fun wx => whole_R zl[i].1 wx (by omega) (by omega))
      have hi0 : (0 : Int) ≤ (i : Int) := by omega
      have hi1 : (i : Int) < (zl.length : Int) := by omega
      clear hwr hlt' hq hp hvb hb0
      generalize hq1 : sprQ zl (i + 1) = q1 at *
      have HQ1 := Lib.hid hq1
      clear hq1
      generalize sprQ zl i = q0 at *
      generalize hx1 : chQ zl zl[i].2 * (((zl[i].1 : Rat) - mq) * ((zl[i].1 : Rat) - mq)) = x1 at *
      generalize hx2 : ((zl[i].1 : Rat) - mq) * ((zl[i].1 : Rat) - mq) = x2 at *
      generalize hx3 : (zl[i].1 : Rat) - mq = x3 at *
      generalize chQ zl zl[i].2 = c at *
      generalize zl[i].1 = v at *
      clear hx1 hx2 hx3
      go_wp2_with fail
      refine (HWH.out _).mono ?_
      rintro e w1 ⟨rfl, hb1⟩
      go_wp2_with fail
      refine (HM.out _).mono ?_
      rintro e w2 ⟨rfl, hb2⟩
      have hb2' := Below.then (hbw.trans (hb1.mono hbw.size)) hb2
      go_wp2_with fail
      refine (HC.out _ hb2').mono ?_
      rintro e w3 ⟨rfl, hb3⟩
      go_wp2_with fail
      refine (HT.out _).mono ?_
      rintro e w4 ⟨rfl, hb4⟩
      go_wp2_with fail
      refine (HU.out _).mono ?_
      rintro e w5 ⟨rfl, hb5⟩
      go_wp2_with fail
      refine (HP.out _).mono ?_
      rintro e w6 ⟨rfl, hb6⟩
      have hb9 := Below.then (Below.then (Below.then (Below.then hb2' hb3) hb4) hb5) hb6
      go_wp2
      go_roundw
      case rel => exact ⟨i + 1, by go_num, by omega, by rw [HQ1.out], hb9⟩
      case measure => simp [intOf]; omega
    · obtain rfl : i = zl.length := by omega
      go_wp2
      go_ret
      exact Ret.of rfl hbw
end W
end Go.Proofs.YtgjfiaadnecilaaGreatDoor
