/-
  Chapter 48, plain: the play of a circle in its tool, the disc of its shifts, ideal tools; two plates of a joint.
  Chapters 45 and 47 of the reference: 'Check'; right and few targets at maximum material.
-/
import Derived.Test.YtellemlhhlafcaaGreatDoorLOA
import Derived.Test.YtellemlhhlafcaaGreatDoorLS
import Derived.Test.YtellemlhhlafcaaGreatDoorLT
import Derived.Test.YtellemlhhlafcaaGreatDoorLU
section
namespace Go.Proofs.YtellemlhhlafcaaGreatDoor
open Go
abbrev toV (t : M.To) : Value := .agg #[.int .i64 t.x, .int .i64 t.y, .bool t.hole, .int .i64 t.n]
namespace M
def plyT (p : To × Cc) : Int := if p.1.hole = true then p.1.n - p.2.d else p.2.d - p.1.n
def dkT (p : To × Cc) : Dk := ⟨((p.1.x - p.2.x : Int) : Rat), ((p.1.y - p.2.y : Int) : Rat), ((plyT p * plyT p : Int) : Rat) / 4⟩
structure RtO (p : To × Cc) : Prop where
  x : -100000 ≤ p.1.x ∧ p.1.x ≤ 100000
  y : -100000 ≤ p.1.y ∧ p.1.y ≤ 100000
  n : 1 ≤ p.1.n ∧ p.1.n ≤ 300000
  c : RtC p.2
theorem RtO.ply {p : To × Cc} (h : RtO p) : -300000 < plyT p ∧ plyT p < 300000 := by
  have h1 := h.n
  have h2 := h.c.d
  unfold plyT
  split <;> omega
theorem ply_sq {n : Int} (h : -300000 < n ∧ n < 300000) : 0 ≤ n * n ∧ n * n < 90000000000 := by
  have h1 : 0 ≤ (300000 - n) * (300000 + n) := Int.mul_nonneg (by omega) (by omega)
  have h3 : 0 < (300000 - n) * (300000 + n) := Int.mul_pos (by omega) (by omega)
  have h2 : (300000 - n) * (300000 + n) = 90000000000 - n * n := by grind
  have h4 : 0 ≤ n * n := by
    rcases Int.le_total 0 n with h | h
    · exact Int.mul_nonneg h h
    · have := Int.mul_nonneg (show 0 ≤ -n by omega) (show 0 ≤ -n by omega)
      grind
  omega
theorem dkT_sm {p : To × Cc} (h : RtO p) : SmD (dkT p) := by
  have q1 := h.x
  have q2 := h.y
  have q3 := h.c.x
  have q4 := h.c.y
  obtain ⟨h4, h3⟩ := ply_sq h.ply
  refine ⟨⟨p.1.x - p.2.x, p.1.y - p.2.y, plyT p * plyT p, rfl, by omega, by omega, h4, by omega⟩⟩
def idT (t : Tg) : To := ⟨t.x, t.y, t.pin, virt t⟩
def desE (a b : Int) (t : Tg) : El := if t.pin = true then ⟨t.x, t.y, true, virt t - a - b, virt t - a⟩ else ⟨t.x, t.y, false, virt t + a, virt t + a + b⟩
def hiT (e : El) : To := ⟨e.x, e.y, e.hole, e.hi⟩
def wornT (k : Int) (t : To) : To := ⟨t.x, t.y, t.hole, if t.hole = true then t.n + k else t.n - k⟩
theorem plyT_id {t : Tg} {c : Cc} (hm : t.mat = 1) : plyT (idT t, c) = wide t c := by
  unfold plyT idT wide extr virt
  dsimp only
  rw [hm]
  cases t.pin with
  | true => simp; omega
  | false => simp; omega
theorem dkT_id {t : Tg} {c : Cc} (hm : t.mat = 1) : dkT (idT t, c) = dkP (t, c) := by
  unfold dkT dkP
  rw [plyT_id hm]
  rfl
theorem RtO_id {t : Tg} {c : Cc} (h : RtT t) (hc : RtC c) : RtO (idT t, c) := by
  have := virt_rng h
  exact ⟨h.x, h.y, ⟨this.1, by show virt t ≤ 300000; omega⟩, hc⟩
theorem hi_des (t : Tg) : hiT (desE 0 0 t) = idT t := by
  unfold hiT desE idT
  cases t.pin with
  | true => simp
  | false => simp
def goT (l : List (To × Cc)) : Bool := l.all (fun p => decide (0 ≤ plyT p)) && (firstD (l.map dkT)).isSome
theorem sq_mono {a b : Int} (h0 : 0 ≤ a) (h : a ≤ b) : a * a ≤ b * b := Int.mul_le_mul h h h0 (by omega)
theorem go_mono {l : List (To × Cc)} {l' : List (Tg × Cc)} (hn : l.length = l'.length) (h0 : l ≠ []) (h : ∀ i (h1 : i < l.length) (h2 : i < l'.length), (l[i]).1.x = (l'[i]).1.x ∧ (l[i]).1.y = (l'[i]).1.y ∧ (l[i]).2 = (l'[i]).2 ∧ plyT l[i] ≤ wide (l'[i]).1 (l'[i]).2)
    (hg : goT l = true) : (firstD (l'.map dkP)).isSome = true := by
  unfold goT at hg
  rw [Bool.and_eq_true, List.all_eq_true] at hg
  obtain ⟨hp, hf⟩ := hg
  refine first_mono (l := l.map dkT) (by simpa using h0) ?_ ?_ hf
  · intro e
    have : l'.length = 0 := by rw [← List.length_map (f := dkP), e]; rfl
    exact h0 (List.length_eq_zero_iff.1 (by omega))
  · intro d hd
    obtain ⟨p, hp1, rfl⟩ := List.mem_map.1 hd
    obtain ⟨i, hi, rfl⟩ := List.mem_iff_getElem.1 hp1
    obtain ⟨e1, e2, e3, e4⟩ := h i (by omega) hi
    have h5 := of_decide_eq_true (hp _ (List.getElem_mem (show i < l.length by omega)))
    refine ⟨dkT (l[i]'(by omega)), List.mem_map.2 ⟨_, List.getElem_mem _, rfl⟩, ?_, ?_, ?_⟩
    · unfold dkT dkP
      dsimp only
      rw [e1, e3]
    · unfold dkT dkP
      dsimp only
      rw [e2, e3]
    · unfold dkT dkP
      dsimp only
      have := Rat.intCast_le_intCast.2 (sq_mono h5 e4)
      grind
end M
end Go.Proofs.YtellemlhhlafcaaGreatDoor
end
section
namespace Go.Proofs.YtellemlhhlafcaaGreatDoor
open Go Go.RowKit Go.Deep Go.Sort
namespace M
def c47s : List Tg → Nat
  | [] => 0
  | t :: r => if chkT t ≠ 0 then chkT t else if t.mat = 1 then c47s r else 14
def chk47 (l : List Tg) : Nat := if l.length = 0 then 13 else if 16 < l.length then 5 else c47s l
theorem c47s_drop (l : List Tg) (i : Nat) (h : i < l.length) : c47s (l.drop i) = if chkT l[i] ≠ 0 then chkT l[i] else if l[i].mat = 1 then c47s (l.drop (i + 1)) else 14 := by
  rw [List.drop_eq_getElem_cons h]
  rfl
theorem c47s_ok : ∀ {l : List Tg}, c47s l = 0 → ∀ t ∈ l, RtT t ∧ t.mat = 1
  | [], _, t, ht => absurd ht List.not_mem_nil
  | x :: l, h, t, ht => by
    unfold c47s at h
    by_cases h1 : chkT x = 0
    · rw [if_neg (by simpa using h1)] at h
      by_cases h2 : x.mat = 1
      · rw [if_pos h2] at h
        rcases List.mem_cons.1 ht with rfl | h3
        · exact ⟨(chkT_iff _).1 h1, h2⟩
        · exact c47s_ok h t h3
      · rw [if_neg h2] at h; cases h
    · rw [if_pos h1] at h; exact absurd h h1
theorem chk47_ok {l : List Tg} (h : chk47 l = 0) : 1 ≤ l.length ∧ l.length ≤ 16 ∧ ∀ t ∈ l, RtT t ∧ t.mat = 1 := by
  unfold chk47 at h
  split at h
  · cases h
  · split at h
    · cases h
    · exact ⟨by omega, by omega, c47s_ok h⟩
end M
abbrev tkW (vt vc : Value) : Value := .agg #[vt, vc, .int .i64 (-1)]
namespace W
open M
attribute [local go_sem] bs_size bs_toList bs_get bs_extract bs_append bs_lit0 bs_lit1 lit1_bs
set_option maxHeartbeats 1000000
set_option maxRecDepth 20000
theorem rcheck45 (vt vc : Value) (ts : List Tg) (cs : List Cc) (w : World) (ht : RdG w vt ts) (hc : RdC w vc cs) (nt : ts.length ≤ maxLen) (nc : cs.length ≤ maxLen) :
    Calls Tryz.prog 36 #[tkW vt vc] w (Ret w (.int .i64 ((chk46 ts cs : Nat) : Int))) := by
  have HP := Lib.hid (fun W (hW : Below w.heap.size w W) => rplate44 vt vc ts cs W (ht.below hW) (hc.below hW) nt nc)
  unfold maxLen at nt nc
  obtain ⟨At, ct, rfl⟩ := ht.len
  obtain ⟨Ac, cc, rfl⟩ := hc.len
  have hb0 := bel_al w (.cells #[.slice At ts.length ct, .slice Ac cs.length cc, .int .i64 (-1)] 98 (0, 0))
  have HR := Lib.hid (And.intro (rnw (w := w) (t := 98) (xs := [.slice At ts.length ct, .slice Ac cs.length cc, .int .i64 (-1)])) hb0)
  have b0 := HR.out.1.cell (i := 0) rfl
  have b1 := HR.out.1.cell (i := 1) rfl
  by_cases h : chkPl ts cs = 0
  · have hp := chkPl_iff.1 h
    rw [h] at HP
    by_cases h0 : ts.length = 0
    · have hk : chk46 ts cs = 13 := by unfold chk46; rw [if_neg (fun h2 => h2 h), if_pos h0]
      rw [hk]
      have hz : (((ts.length : Nat) : Int) == 0) = true := by rw [h0]; rfl
      clear hp h hk ht hc h0 hb0
      unfold tkW
      go_enter Tryz.func36, Tryz.ntmps36
      go_wp2_with fail
      refine (HP.out _ HR.out.2).mono ?_
      rintro e w1 ⟨rfl, hb1⟩
      have H1 := Lib.hid (And.intro (HR.out.1.below' hb1) (bel_to HR.out.2 hb1))
      clear hb1 HR b0 b1
      have b0 := H1.out.1.cell (i := 0) rfl
      go_wp2
      go_ret
      exact Ret.of rfl H1.out.2
    · have hk : chk46 ts cs = wths ts cs := by unfold chk46; rw [if_neg (fun h2 => h2 h), if_neg h0]
      rw [hk]
      have hz : (((ts.length : Nat) : Int) == 0) = false := by rw [beq_eq_false_iff_ne]; omega
      have HT := Lib.hid ht
      have HC := Lib.hid hc
      have hlen := hp.2.1
      have HL := Lib.hid (show ∀ i : Nat, i < ts.length → i < cs.length from fun i hi => by omega)
      have hts : ts.length ≤ 16 := hp.1
      generalize hch : ((wths ts cs : Nat) : Int) = ch
      have HCH := Lib.hid hch
      clear hp h hk ht hc h0 hlen hch hb0
      unfold tkW
      go_enter Tryz.func36, Tryz.ntmps36
      go_wp2_with fail
      refine (HP.out _ HR.out.2).mono ?_
      rintro e w1 ⟨rfl, hb1⟩
      have H1 := Lib.hid (And.intro (HR.out.1.below' hb1) (bel_to HR.out.2 hb1))
      clear hb1 HR b0 b1 HP
      have b0 := H1.out.1.cell (i := 0) rfl
      go_wp2
      go_loopw [4] (fun iv wr => ∃ i : Nat, iv = .int .i64 (i : Int) ∧ i ≤ ts.length ∧ Hid (wths ts cs = wths (ts.drop i) (cs.drop i)) ∧ Hid (Row wr w.heap.size 98 [.slice At ts.length ct, .slice Ac cs.length cc, .int .i64 (-1)] ∧ Below w.heap.size w wr)) (fun iv _ => ts.length - (intOf iv).toNat)
      case atStart => exact ⟨0, rfl, by omega, Lib.hid (by rw [List.drop_zero, List.drop_zero]), H1⟩
      case round =>
        clear H1 b0
        obtain ⟨i, rfl, hi, hk, hbw⟩ := hrel
        have b0 := hbw.out.1.cell (i := 0) rfl
        by_cases hlt : i < ts.length
        · have hlc := HL.out i hlt
          obtain ⟨q1, o1, rfl, hw⟩ := HT.out.row i hlt
          obtain ⟨q2, o2, rfl, hv⟩ := HC.out.row i hlc
          obtain ⟨c0, c1, c2, c3, c4, c5, c6⟩ := (hw.below' hbw.out.2).val i hlt
          obtain ⟨d0, d1, d2⟩ := (hv.below' hbw.out.2).val i hlc
          have hk2 := hk.out
          rw [wths_drop ts cs i hlt hlc] at hk2
          have hi0 : (0 : Int) ≤ (i : Int) := by omega
          have hit : (i : Int) < (ts.length : Int) := by omega
          have hic : (i : Int) < (cs.length : Int) := by omega
          have b1 := hbw.out.1.cell (i := 1) rfl
          clear hk hw hv
          generalize ts[i] = x at *
          generalize cs[i] = z at *
          have HN := Lib.hid (fun W => rinside44 x z.d W)
          have m0 := cell_regrown c0
          have m1 := cell_regrown c1
          have m2 := cell_regrown c2
          have m3 := cell_regrown c3
          have m4 := cell_regrown c4
          have m5 := cell_regrown c5
          have m6 := cell_regrown c6
          have m7 := cell_regrown d2
          have m8 := cell_regrown b0
          have m9 := cell_regrown b1
          have e1 : ∀ args w, (callFunc 44 args).run Tryz.prog w = .ok (.enter 44 args) w := enters_of Tryz.func44 (by kernel_rfl) rfl
          clear c0 c1 c2 c3 c4 c5 c6 d0 d1 d2 b1
          cases hwt : wth x z.d with
          | true =>
            rw [hwt, if_pos rfl] at hk2
            rw [hwt] at HN
            have HK := Lib.hid hk2
            have k1 := reg_of (w := wr) (fun W _ => HN.out W)
            clear hk2 hwt HN
            go_wp2_with fail
            clear b0
            refine wp_region_quiet_below (by kernel_rfl) (by kernel_rfl) ?_
            repeat (go_big_quiet_step (fail))
            go_big_quiet_step (exact k1 _ _)
            repeat (go_big_quiet_step (fail))
            refine wpQuiet_nil ?_
            intro W6 hw'
            have hb6 : Below wr.heap.size wr W6 := by obtain ⟨p, e⟩ := hw'; rw [e]; exact below_regrown wr p.d p.os
            clear hw'
            have HB6 := Lib.hid (And.intro (hbw.out.1.below' hb6) (bel_to hbw.out.2 hb6))
            clear hb6 k1 m0 m1 m2 m3 m4 m5 m6 m7 m8 m9 e1
            go_wp2
            go_roundw
            case rel => exact ⟨i + 1, by go_num, by omega, HK, HB6⟩
            case measure => simp [intOf]; omega
          | false =>
            rw [hwt] at hk2 HN
            have HK := Lib.hid (show ch = 14 by rw [← HCH.out, hk2]; rfl)
            have k1 := reg_of (w := wr) (fun W _ => HN.out W)
            clear hk2 hwt HN
            go_wp2_with fail
            clear b0
            refine wp_region_quiet_below (by kernel_rfl) (by kernel_rfl) ?_
            repeat (go_big_quiet_step (fail))
            go_big_quiet_step (exact k1 _ _)
            repeat (go_big_quiet_step (fail))
            refine wpQuiet_nil ?_
            intro W6 hw'
            have hb6 : Below wr.heap.size wr W6 := by obtain ⟨p, e⟩ := hw'; rw [e]; exact below_regrown wr p.d p.os
            clear hw'
            have HB6 := Lib.hid (bel_to hbw.out.2 hb6)
            clear hb6 k1 m0 m1 m2 m3 m4 m5 m6 m7 m8 m9 e1
            go_wp2
            go_ret
            exact Ret.of (by rw [HK.out]; rfl) HB6.out
        · obtain rfl : i = ts.length := by omega
          have hk2 := hk.out
          rw [List.drop_length] at hk2
          have HK := Lib.hid (show ch = 0 by rw [← HCH.out, hk2]; simp [wths])
          have b2 := hbw.out.1.cell (i := 2) rfl
          clear hk hk2
          go_wp2
          go_ret
          exact Ret.of (by rw [HK.out]; rfl) hbw.out.2
  · have hk : chk46 ts cs = chkPl ts cs := by unfold chk46; rw [if_pos h]
    rw [hk]
    have hz := nz_bne h
    clear h hk ht hc hb0
    generalize ((chkPl ts cs : Nat) : Int) = k at *
    unfold tkW
    go_enter Tryz.func36, Tryz.ntmps36
    go_wp2_with fail
    refine (HP.out _ HR.out.2).mono ?_
    rintro e w1 ⟨rfl, hb1⟩
    have hb1 := bel_to HR.out.2 hb1
    clear HR b0 b1
    go_wp2
    go_ret
    exact Ret.of rfl hb1
theorem rcheck47 (vt : Value) (ts : List Tg) (w : World) (ht : RdG w vt ts) (nt : ts.length ≤ maxLen) :
    Calls Tryz.prog 35 #[vt] w (Ret w (.int .i64 ((chk47 ts : Nat) : Int))) := by
  unfold maxLen at nt
  obtain ⟨At, ct, rfl⟩ := ht.len
  unfold chk47
  by_cases h0 : ts.length = 0
  · rw [if_pos h0]
    have hz : (((ts.length : Nat) : Int) == 0) = true := by rw [h0]; rfl
    clear ht h0
    go_enter Tryz.func35, Tryz.ntmps35
    go_wp2
    go_ret
    exact Ret.of rfl (Below.refl _ _)
  · have hz : (((ts.length : Nat) : Int) == 0) = false := by rw [beq_eq_false_iff_ne]; omega
    rw [if_neg h0]
    by_cases h5 : 16 < ts.length
    · rw [if_pos h5]
      have d5 : decide (16 < (ts.length : Int)) = true := decide_eq_true (by omega)
      clear ht h0 h5
      go_enter Tryz.func35, Tryz.ntmps35
      go_wp2
      go_ret
      exact Ret.of rfl (Below.refl _ _)
    · rw [if_neg h5]
      have d5 : decide (16 < (ts.length : Int)) = false := decide_eq_false (by omega)
      have HT := Lib.hid ht
      generalize hch : ((c47s ts : Nat) : Int) = ch
      have HCH := Lib.hid hch
      clear ht h0 hch
      go_enter Tryz.func35, Tryz.ntmps35
      go_wp2
      go_loopw [3] (fun iv wr => ∃ i : Nat, iv = .int .i64 (i : Int) ∧ i ≤ ts.length ∧ Hid (c47s ts = c47s (ts.drop i)) ∧ Hid (Below w.heap.size w wr)) (fun iv _ => ts.length - (intOf iv).toNat)
      case atStart => exact ⟨0, rfl, by omega, Lib.hid (by rw [List.drop_zero]), Lib.hid (Below.refl _ _)⟩
      case round =>
        obtain ⟨i, rfl, hi, hk, hbw⟩ := hrel
        by_cases hlt : i < ts.length
        · obtain ⟨q1, o1, rfl, hw⟩ := HT.out.row i hlt
          obtain ⟨c0, c1, c2, c3, c4, c5, c6⟩ := (hw.below' hbw.out).val i hlt
          have hk2 := hk.out
          rw [c47s_drop ts i hlt] at hk2
          have hi0 : (0 : Int) ≤ (i : Int) := by omega
          have hit : (i : Int) < (ts.length : Int) := by omega
          have HM := Lib.hid (fun W (hW : Below w.heap.size w W) => ((hw.below' hW).val i hlt).2.2.2.2.2.1)
          have HK2 := Lib.hid hk2
          clear hk hw hk2
          generalize ts[i] = x at *
          have HN := Lib.hid (fun W => rcheck44 x W)
          by_cases h1 : chkT x = 0
          · rw [h1] at HN
            by_cases h2 : x.mat = 1
            · have HK := Lib.hid (show c47s ts = c47s (ts.drop (i + 1)) by have := HK2.out; rw [if_neg (by simpa using h1), if_pos h2] at this; exact this)
              rw [h2] at HM
              clear HK2 h1 h2
              go_wp2_with fail
              refine (HN.out _).mono ?_
              rintro e w1 ⟨rfl, hb1⟩
              have HB := Lib.hid (bel_to hbw.out hb1)
              have m1 := HM.out _ HB.out
              clear hb1 hbw HN c0 c1 c2 c3 c4 c5 c6
              go_wp2
              go_roundw
              case rel => exact ⟨i + 1, by go_num, by omega, HK, HB⟩
              case measure => simp [intOf]; omega
            · have HK := Lib.hid (show ch = 14 by have := HK2.out; rw [if_neg (by simpa using h1), if_neg h2] at this; rw [← HCH.out, this]; rfl)
              have hm2 : (x.mat != 1) = true := by simpa using h2
              clear HK2 h1 h2
              go_wp2_with fail
              refine (HN.out _).mono ?_
              rintro e w1 ⟨rfl, hb1⟩
              have HB := Lib.hid (bel_to hbw.out hb1)
              have m1 := HM.out _ HB.out
              clear hb1 hbw HN c0 c1 c2 c3 c4 c5 c6
              go_wp2
              go_ret
              exact Ret.of (by rw [HK.out]; rfl) HB.out
          · have HK := Lib.hid (show ch = ((chkT x : Nat) : Int) by have := HK2.out; rw [if_pos h1] at this; rw [← HCH.out, this])
            have hz1 := nz_bne h1
            clear HK2 h1
            generalize ((chkT x : Nat) : Int) = kk at *
            go_wp2_with fail
            refine (HN.out _).mono ?_
            rintro e w1 ⟨rfl, hb1⟩
            have HB := Lib.hid (bel_to hbw.out hb1)
            clear hb1 hbw HN c0 c1 c2 c3 c4 c5 c6
            go_wp2
            go_ret
            exact Ret.of (by rw [HK.out]; rfl) HB.out
        · obtain rfl : i = ts.length := by omega
          have HK := Lib.hid (show ch = 0 by have := hk.out; rw [List.drop_length] at this; rw [← HCH.out, this]; rfl)
          clear hk
          go_wp2
          go_ret
          exact Ret.of (by rw [HK.out]; rfl) hbw.out
end W
end Go.Proofs.YtellemlhhlafcaaGreatDoor
end
