/-
  Chapter 5: the checks of lists of numbers, on both sides; the program's sums.
  Chapter 46: right targets and circles, on both sides.
  Chapter 46: plates, on both sides.
  Chapter 5: 'Check' of the program.
  Chapter 5: lists of texts that are made by 'append'; 'Check' of the reference.
  Chapter 5: the sum of products, on both sides.
  Chapter 5: which bounds a point keeps; 'Verify' on both sides.
  Chapter 5: 'Verify' on both sides.
  A region that draws its order: reads and calls that lay blocks at most, then a tail in one forced order (a store, an append). The head goes by the walk of the lexical order over a class of worlds; the tail is walked from any world of the class.
  Chapter 5: the reference's weighted sums.
-/
import Derived.Test.YtellemlhhlafcaaGreatDoorKH
import Derived.Test.YtellemlhhlafcaaGreatDoorKG
import Derived.Test.YtellemlhhlafcaaGreatDoorKF
import Derived.Deep.RegionHeld3
import Derived.StillTail
import Derived.Lib.QuietBelow
section
namespace Go.Proofs.YtellemlhhlafcaaGreatDoor
open Go Go.RowKit Go.Deep Go.Sort
def NoErP (w : World) (b : Nat) : Prop := Row w b 206 [.int .i64 0]
theorem NoErP.below' {b : Nat} {w w' : World} (h : NoErP w b) (hb : Below w.heap.size w w') : NoErP w' b := Row.below' h hb
theorem NoErP.cell {w : World} {b : Nat} (h : NoErP w b) : w.cell? ⟨b, 0, none⟩ = some (.int .i64 0) := Row.cell h rfl
theorem NoErP.free {w : World} {b : Nat} (h : NoErP w b) : w.frozen? ⟨b, 0, none⟩ = false := Row.free h 0
theorem Below.sameP {B : Nat} {a w : World} (h : Below B a w) {b : Nat} (hn : NoErP w b) : Below B a (w.setCell ⟨b, 0, none⟩ (.int .i64 0)) := by
  have hr := Row.set hn 0 (.int .i64 0)
  refine h.trans ⟨rfl, rfl, rfl, ?_, fun k hk => ?_⟩
  · show _ ≤ (w.heap.modify _ _).size; simp
  · by_cases hkb : k = b
    · subst hkb
      exact hr.trans (Eq.symm hn)
    · exact Below.heap_setCell _ _ _ _ hkb
theorem bel_to {W E W2 : World} (h1 : Below W.heap.size W E) (h2 : Below E.heap.size E W2) : Below W.heap.size W W2 := h1.trans (h2.mono h1.size)
namespace W
open M
attribute [local go_sem] bs_size bs_toList bs_get bs_extract bs_append bs_lit0 bs_lit1 lit1_bs
set_option maxHeartbeats 1000000
set_option maxRecDepth 20000
theorem psof (b : Nat) (s : List UInt8) (w : World) (hs : NoErP w b) :
    Calls Tryz.prog 150 #[.pointer (some ⟨b, 0, none⟩), .string (bs s), .int .i64 0] w (Ret w (.string (bs s))) := by
  have hc := hs.cell
  have hf := hs.free
  have HS := Lib.hid hs
  clear hs
  go_enter Tryz.func150, Tryz.ntmps150
  go_wp2
  go_ret
  exact Ret.of rfl (Below.sameP (Below.refl _ _) HS.out)
theorem pssign (b : Nat) (q : Rat) (k : Nat) (w : World) (hg : Glob w) (hs : NoErP w b) (hq : Bq k q) (hk : k ≤ 1024) :
    Calls Tryz.prog 151 #[.pointer (some ⟨b, 0, none⟩), .string (bs (R q))] w (Ret w (.int .i64 (Int.sign q.num))) := by
  have HC := Lib.hid (rsign_ok q k w hg hq hk)
  have HO := Lib.hid (fun W (hW : Below w.heap.size w W) => psof b [48] W (hs.below' hW))
  clear hs hq
  generalize Int.sign q.num = sg at *
  generalize R q = s at *
  go_enter Tryz.func151, Tryz.ntmps151
  go_wp2_with fail
  refine (HC.out).mono ?_
  rintro e w1 ⟨rfl, hb1⟩
  go_wp2_with fail
  refine (HO.out _ hb1).mono ?_
  rintro e w2 ⟨rfl, hb2⟩
  go_wp2
  go_ret
  exact Ret.of rfl (Below.then hb1 hb2)
theorem R_is0 {q : Rat} : R q = [48] ↔ q = 0 := by
  rw [← R_nil]
  exact ⟨fun h => R_inj h, fun h => by rw [h]⟩
theorem psless (b : Nat) (x y z : Rat) (i j k : Nat) (w : World) (hg : Glob w) (hs : NoErP w b) (hx : Bq i x) (hy : Bq j y) (hz : Bq k z) (hb : i + (j + k) + 1 ≤ 1024) :
    Calls Tryz.prog 155 #[.pointer (some ⟨b, 0, none⟩), .string (bs (R x)), .string (bs (R y)), .string (bs (R z))] w (Ret w (.string (bs (R (x - y * z))))) := by
  by_cases hy0 : y = 0
  · have e : x - y * z = x := by rw [hy0]; grind
    rw [e]
    have ey := R_is0.2 hy0
    clear hs hx hy hz e
    generalize R y = sy at *
    subst ey
    generalize R x = sx at *
    generalize R z = sz at *
    go_enter Tryz.func155, Tryz.ntmps155
    go_wp2
    go_ret
    exact Ret.of rfl (Below.refl _ _)
  · have ny : (R y == [48]) = false := by rw [beq_eq_false_iff_ne]; exact fun h => hy0 (R_is0.1 h)
    by_cases hz0 : z = 0
    · have e : x - y * z = x := by rw [hz0]; grind
      rw [e]
      have ez := R_is0.2 hz0
      clear hs hx hy hz e
      generalize R z = sz at *
      subst ez
      generalize R x = sx at *
      generalize R y = sy at *
      go_enter Tryz.func155, Tryz.ntmps155
      go_wp2
      go_ret
      exact Ret.of rfl (Below.refl _ _)
    · have nz : (R z == [48]) = false := by rw [beq_eq_false_iff_ne]; exact fun h => hz0 (R_is0.1 h)
      have HM := Lib.hid (ratMul y z j k w hg hy hz (by omega))
      have HS := Lib.hid (fun W (hW : Below w.heap.size w W) => ratSub x (y * z) i (j + k) W (hg.of hW) hx (hy.mul hz) hb)
      have HO := Lib.hid (fun s W (hW : Below w.heap.size w W) => psof b s W (hs.below' hW))
      clear hs hx hy hz hy0 hz0
      generalize R (x - y * z) = r at *
      generalize R (y * z) = p at *
      generalize R x = sx at *
      generalize R y = sy at *
      generalize R z = sz at *
      go_enter Tryz.func155, Tryz.ntmps155
      go_wp2_with fail
      refine (HM.out).mono ?_
      rintro e w1 ⟨rfl, hb1⟩
      go_wp2_with fail
      refine (HO.out _ _ hb1).mono ?_
      rintro e w2 ⟨rfl, hb2⟩
      have hb2 := Below.then hb1 hb2
      go_wp2_with fail
      refine (HS.out _ hb2).mono ?_
      rintro e w3 ⟨rfl, hb3⟩
      have hb3 := Below.then hb2 hb3
      go_wp2_with fail
      refine (HO.out _ _ hb3).mono ?_
      rintro e w4 ⟨rfl, hb4⟩
      go_wp2
      go_ret
      exact Ret.of rfl (Below.then hb3 hb4)
noncomputable def chkLs : List (List (List UInt8)) → Nat
  | [] => 0
  | l :: t => if chkRs l = 0 then chkLs t else chkRs l
theorem pnumbers (ls : List (Value × List (List UInt8))) (g : Nat) (w : World) (hg : Glob w) (hr : Row w g 60 (ls.map (·.1)))
    (h : ∀ x ∈ ls, RdT w x.1 x.2 ∧ x.2.length ≤ 1000000 ∧ ∀ p ∈ x.2, p.length ≤ 90000) (hn : ls.length ≤ 10) :
    Calls Tryz.prog 104 #[.slice (some ⟨g, 0, none⟩) ls.length ls.length] w (Ret w (.int .i64 ((chkLs (ls.map (·.2)) : Nat) : Int))) := by
  have HR := Lib.hid hr
  have HL := Lib.hid (fun i (hi : i < ls.length) => h _ (List.getElem_mem hi))
  generalize hch : ((chkLs (ls.map (·.2)) : Nat) : Int) = ch
  have HCH := Lib.hid hch
  clear hr h hch
  go_enter Tryz.func104, Tryz.ntmps104
  go_wp2
  go_loopw [10] (fun iv wr => ∃ i : Nat, iv = .int .i64 (i : Int) ∧ i ≤ ls.length ∧ Hid (chkLs (ls.map (·.2)) = chkLs ((ls.drop i).map (·.2))) ∧ Below w.heap.size w wr) (fun iv _ => ls.length - (intOf iv).toNat)
  case atStart => exact ⟨0, rfl, by omega, (rfl : chkLs (ls.map (·.2)) = chkLs ((ls.drop 0).map (·.2))), Below.refl _ _⟩
  case round =>
    obtain ⟨i, rfl, hi, hk, hbw⟩ := hrel
    by_cases hlt : i < ls.length
    · have cc := (HR.out.below' hbw).cell (i := i) (v := ls[i].1) (by simp [hlt])
      have hk2 := hk.out
      rw [List.drop_eq_getElem_cons hlt, List.map_cons, chkLs] at hk2
      obtain ⟨hrd, hln, hps⟩ := HL.out i hlt
      have hrd := hrd.below hbw
      clear hk
      generalize ls[i] = x at *
      obtain ⟨v, l⟩ := x
      simp only at cc hk2 hrd hln hps
      have HRD := Lib.hid hrd
      obtain ⟨A, cap, rfl⟩ := hrd.len
      have HPC := Lib.hid (fun j (hj : j < l.length) W (hW : Below w.heap.size w W) => vcheckR l[j] W (hg.of hW) (hps _ (List.getElem_mem hj)))
      have HK := Lib.hid hk2
      clear hrd hk2 hps
      obtain ⟨W0, hW0⟩ : ∃ y, y = wr := ⟨wr, rfl⟩
      subst hW0
      go_wp2
      go_loopw [16] (fun jv wr2 => ∃ j : Nat, jv = .int .i64 (j : Int) ∧ j ≤ l.length ∧ Hid (chkRs l = chkRs (l.drop j)) ∧ Below W0.heap.size W0 wr2) (fun jv _ => l.length - (intOf jv).toNat)
      case atStart => exact ⟨0, rfl, by omega, (rfl : chkRs l = chkRs (l.drop 0)), Below.refl _ _⟩
      case round =>
        obtain ⟨j, rfl, hj, hq, hbv⟩ := hrel
        by_cases hlj : j < l.length
        · obtain ⟨b1, o1, rfl, hw⟩ := HRD.out.row j hlj
          have cv := (hw.below' hbv).val j hlj
          have hq2 := hq.out
          rw [chkRs_drop l j hlj] at hq2
          have HP := Lib.hid (HPC.out j hlj wr (bel_to hbw hbv))
          clear hq hw
          generalize l[j] = x at *
          by_cases hc : chkR x = 0
          · rw [if_pos hc] at hq2
            rw [hc] at HP
            have HQ := Lib.hid hq2
            clear hq2 hc
            go_wp2_with fail
            refine (HP.out).mono ?_
            rintro e w1 ⟨rfl, hb1⟩
            have hb1' := hbv.trans (hb1.mono hbv.size)
            go_wp2
            go_roundw
            case rel => exact ⟨j + 1, by go_num, by omega, HQ, hb1'⟩
            case measure => simp [intOf]; omega
          · rw [if_neg hc] at hq2
            have hz : (((chkR x : Nat) : Int) != 0) = true := by simp; exact hc
            have HQ := Lib.hid (show chkLs (ls.map (·.2)) = chkR x by rw [HK.out, hq2, if_neg hc])
            clear hq2 hc
            generalize hcc : ((chkR x : Nat) : Int) = c at *
            have HCC := Lib.hid hcc
            clear hcc
            go_wp2_with fail
            refine (HP.out).mono ?_
            rintro e w1 ⟨rfl, hb1⟩
            have hb1' := hbw.trans ((hbv.trans (hb1.mono hbv.size)).mono hbw.size)
            go_wp2
            go_ret
            exact Ret.of (by rw [← HCH.out, HQ.out, HCC.out]; rfl) hb1'
        · obtain rfl : j = l.length := by omega
          have hq2 := hq.out
          rw [List.drop_length] at hq2
          have HQ := Lib.hid (show chkLs (ls.map (·.2)) = chkLs ((ls.drop (i + 1)).map (·.2)) by rw [HK.out, hq2]; rfl)
          clear hq2 hq
          go_wp2
          go_roundw
          case rel => exact ⟨i + 1, by go_num, hlt, HQ, bel_to hbw hbv⟩
          case measure => simp [intOf]; omega
    · obtain rfl : i = ls.length := by omega
      have hk2 := hk.out
      rw [List.drop_length] at hk2
      have HK := Lib.hid hk2
      clear hk2 hk
      go_wp2
      go_ret
      exact Ret.of (by rw [← HCH.out, HK.out]; rfl) hbw
end W
end Go.Proofs.YtellemlhhlafcaaGreatDoor
end
section
namespace Go.Proofs.YtellemlhhlafcaaGreatDoor
open Go Go.RowKit Go.Deep
abbrev tgV (t : M.Tg) : Value := .agg #[.int .i64 t.x, .int .i64 t.y, .int .i64 t.lo, .int .i64 t.hi, .int .i64 t.tol, .int .i64 t.mat, .bool t.pin]
abbrev ccV (c : M.Cc) : Value := .agg #[.int .i64 c.x, .int .i64 c.y, .int .i64 c.d]
abbrev tgO (t : M.Tg) : Obj := .cells #[.int .i64 t.x, .int .i64 t.y, .int .i64 t.lo, .int .i64 t.hi, .int .i64 t.tol, .int .i64 t.mat, .bool t.pin] 27 (0, 0)
abbrev ccO (c : M.Cc) : Obj := .cells #[.int .i64 c.x, .int .i64 c.y, .int .i64 c.d] 30 (0, 0)
theorem bel_al (w : World) (o : Obj) : Below w.heap.size w (w.alloc o) := (Below.refl _ _).alloc (Nat.le_refl _) o
namespace W
open M
attribute [local go_sem] bs_size bs_toList bs_get bs_extract bs_append bs_lit0 bs_lit1 lit1_bs
set_option maxHeartbeats 1000000
set_option maxRecDepth 20000
theorem bin_ (n : Int) (w : World) : Calls Tryz.prog 127 #[.int .i64 n] w fun e w' => e = .returned (.bool (inC n)) ∧ w = w' := by
  unfold inC
  cases h1 : decide (-100000 ≤ n) <;> cases h2 : decide (n ≤ 100000) <;>
  · go_enter Tryz.func127, Tryz.ntmps127
    go_wp2
    go_ret
    exact ⟨rfl, rfl⟩
theorem bsize (n : Int) (w : World) : Calls Tryz.prog 128 #[.int .i64 n] w fun e w' => e = .returned (.bool (szC n)) ∧ w = w' := by
  unfold szC
  cases h1 : decide (1 ≤ n) <;> cases h2 : decide (n ≤ 100000) <;>
  · go_enter Tryz.func128, Tryz.ntmps128
    go_wp2
    go_ret
    exact ⟨rfl, rfl⟩
theorem rsize44 (n : Int) (w : World) : Calls Tryz.prog 83 #[.int .i64 n] w fun e w' => e = .returned (.bool (szC n)) ∧ w = w' := by
  unfold szC
  cases h1 : decide (1 ≤ n) <;> cases h2 : decide (n ≤ 100000) <;>
  · go_enter Tryz.func83, Tryz.ntmps83
    go_wp2
    go_ret
    exact ⟨rfl, rfl⟩
theorem rright07 (x y : Int) (w : World) : Calls Tryz.prog 82 #[.agg #[.int .i64 x, .int .i64 y]] w (Ret w (.bool (inC x && inC y))) := by
  have hb0 := bel_al w (.cells #[.int .i64 x, .int .i64 y] 23 (0, 0))
  unfold inC
  cases h1 : decide (-100000 ≤ x) <;> cases h2 : decide (x ≤ 100000) <;> cases h3 : decide (-100000 ≤ y) <;> cases h4 : decide (y ≤ 100000) <;>
  · go_enter Tryz.func82, Tryz.ntmps82
    go_wp2
    go_ret
    exact Ret.of rfl hb0
theorem bcheck (t : Tg) (w : World) : Calls Tryz.prog 86 #[tgV t] w (Ret w (.int .i64 ((chkT t : Nat) : Int))) := by
  have HX := Lib.hid (fun w => bin_ t.x w)
  have HY := Lib.hid (fun w => bin_ t.y w)
  have HL := Lib.hid (fun w => bsize t.lo w)
  have HH := Lib.hid (fun w => bsize t.hi w)
  have hb0 := bel_al w (tgO t)
  unfold chkT
  obtain ⟨x, y, lo, hi, tol, mat, pin⟩ := t
  simp only at *
  generalize inC x = a1 at *
  generalize inC y = a2 at *
  generalize szC lo = a3 at *
  generalize szC hi = a4 at *
  generalize hc : (if (a1 && a2 && a3 && a4) = false then 2 else if hi < lo then 9 else if (decide (tol < 0) || decide (100000 < tol) || (!pin && decide (lo ≤ tol))) = true then 2 else if (decide (mat < 0) || decide (3 ≤ mat)) = true then 1 else 0) = c
  go_enter Tryz.func86, Tryz.ntmps86
  go_wp2_with fail
  refine (HX.out _).mono ?_
  rintro e w' ⟨rfl, rfl⟩
  cases a1
  · go_wp2
    go_ret
    subst hc
    exact Ret.of rfl hb0
  go_wp2_with fail
  refine (HY.out _).mono ?_
  rintro e w' ⟨rfl, rfl⟩
  cases a2
  · go_wp2
    go_ret
    subst hc
    exact Ret.of rfl hb0
  go_wp2_with fail
  refine (HL.out _).mono ?_
  rintro e w' ⟨rfl, rfl⟩
  cases a3
  · go_wp2
    go_ret
    subst hc
    exact Ret.of rfl hb0
  go_wp2_with fail
  refine (HH.out _).mono ?_
  rintro e w' ⟨rfl, rfl⟩
  cases a4
  · go_wp2
    go_ret
    subst hc
    exact Ret.of rfl hb0
  cases pin <;>
  · go_wp2
    all_goals
      go_ret
      subst hc
      refine Ret.of ?_ hb0
      (try simp_all) <;> (repeat' split) <;> omega
theorem rcheck44 (t : Tg) (w : World) : Calls Tryz.prog 72 #[tgV t] w (Ret w (.int .i64 ((chkT t : Nat) : Int))) := by
  have HX := Lib.hid (fun w => rright07 t.x t.y w)
  have HL := Lib.hid (fun w => rsize44 t.lo w)
  have HH := Lib.hid (fun w => rsize44 t.hi w)
  have HB0 := Lib.hid (bel_al w (tgO t))
  have HR := Lib.hid (Row.new w 27 [.int .i64 t.x, .int .i64 t.y, .int .i64 t.lo, .int .i64 t.hi, .int .i64 t.tol, .int .i64 t.mat, .bool t.pin])
  unfold chkT
  obtain ⟨x, y, lo, hi, tol, mat, pin⟩ := t
  simp only at *
  generalize inC x = a1 at *
  generalize inC y = a2 at *
  generalize szC lo = a3 at *
  generalize szC hi = a4 at *
  generalize hc : (if (a1 && a2 && a3 && a4) = false then 2 else if hi < lo then 9 else if (decide (tol < 0) || decide (100000 < tol) || (!pin && decide (lo ≤ tol))) = true then 2 else if (decide (mat < 0) || decide (3 ≤ mat)) = true then 1 else 0) = c
  generalize ha : (a1 && a2) = a at *
  go_enter Tryz.func72, Tryz.ntmps72
  go_wp2_with fail
  refine (HX.out _).mono ?_
  rintro e w1 ⟨rfl, hb1⟩
  have HB1 := Lib.hid (bel_to HB0.out hb1)
  have hr := HR.out.below' hb1
  have x2 := hr.cell (i := 2) rfl
  have x3 := hr.cell (i := 3) rfl
  have x4 := hr.cell (i := 4) rfl
  have x5 := hr.cell (i := 5) rfl
  have x6 := hr.cell (i := 6) rfl
  clear hr hb1 HB0 HR
  cases a
  · go_wp2
    go_ret
    subst hc
    exact Ret.of (by simp) HB1.out
  go_wp2_with fail
  refine (HL.out _).mono ?_
  rintro e w' ⟨rfl, rfl⟩
  cases a3
  · go_wp2
    go_ret
    subst hc
    exact Ret.of (by simp) HB1.out
  go_wp2_with fail
  refine (HH.out _).mono ?_
  rintro e w' ⟨rfl, rfl⟩
  cases a4
  · go_wp2
    go_ret
    subst hc
    exact Ret.of (by simp) HB1.out
  cases pin <;>
  · go_wp2
    all_goals
      go_ret
      subst hc
      refine Ret.of ?_ HB1.out
      clear x2 x3 x4 x5 x6
      (try simp_all) <;> (repeat' split) <;> omega
theorem bring (c : Cc) (w : World) : Calls Tryz.prog 117 #[ccV c] w (Ret w (.int .i64 ((ringC c : Nat) : Int))) := by
  have HX := Lib.hid (fun w => bin_ c.x w)
  have HY := Lib.hid (fun w => bin_ c.y w)
  have HL := Lib.hid (fun w => bsize c.d w)
  have hb0 := bel_al w (ccO c)
  unfold ringC
  obtain ⟨x, y, d⟩ := c
  simp only at *
  generalize inC x = a1 at *
  generalize inC y = a2 at *
  generalize szC d = a3 at *
  generalize hc : (if (a1 && a2 && a3) = true then 0 else 2) = c
  go_enter Tryz.func117, Tryz.ntmps117
  go_wp2_with fail
  refine (HX.out _).mono ?_
  rintro e w' ⟨rfl, rfl⟩
  cases a1
  · go_wp2
    go_ret
    subst hc
    exact Ret.of rfl hb0
  go_wp2_with fail
  refine (HY.out _).mono ?_
  rintro e w' ⟨rfl, rfl⟩
  cases a2
  · go_wp2
    go_ret
    subst hc
    exact Ret.of rfl hb0
  go_wp2_with fail
  refine (HL.out _).mono ?_
  rintro e w' ⟨rfl, rfl⟩
  cases a3 <;>
  · go_wp2
    go_ret
    subst hc
    exact Ret.of rfl hb0
theorem rring44 (c : Cc) (w : World) : Calls Tryz.prog 43 #[ccV c] w (Ret w (.int .i64 ((ringC c : Nat) : Int))) := by
  have HX := Lib.hid (fun w => rright07 c.x c.y w)
  have HL := Lib.hid (fun w => rsize44 c.d w)
  have HB0 := Lib.hid (bel_al w (ccO c))
  have HR := Lib.hid (Row.new w 30 [.int .i64 c.x, .int .i64 c.y, .int .i64 c.d])
  unfold ringC
  obtain ⟨x, y, d⟩ := c
  simp only at *
  generalize inC x = a1 at *
  generalize inC y = a2 at *
  generalize szC d = a3 at *
  generalize (a1 && a2) = a at *
  generalize hc : (if (a && a3) = true then 0 else 2) = c
  go_enter Tryz.func43, Tryz.ntmps43
  go_wp2_with fail
  refine (HX.out _).mono ?_
  rintro e w1 ⟨rfl, hb1⟩
  have HB1 := Lib.hid (bel_to HB0.out hb1)
  have hr := HR.out.below' hb1
  have x2 := hr.cell (i := 2) rfl
  clear hr hb1 HB0 HR
  cases a
  · go_wp2
    go_ret
    subst hc
    exact Ret.of rfl HB1.out
  go_wp2_with fail
  refine (HL.out _).mono ?_
  rintro e w' ⟨rfl, rfl⟩
  cases a3 <;>
  · go_wp2
    go_ret
    subst hc
    exact Ret.of rfl HB1.out
theorem bwithin (t : Tg) (n : Int) (w : World) : Calls Tryz.prog 118 #[tgV t, .int .i64 n] w (Ret w (.bool (wth t n))) := by
  have hb0 := bel_al w (tgO t)
  unfold wth
  obtain ⟨x, y, lo, hi, tol, mat, pin⟩ := t
  simp only at *
  cases h1 : decide (lo ≤ n) <;> cases h2 : decide (n ≤ hi) <;>
  · go_enter Tryz.func118, Tryz.ntmps118
    go_wp2
    go_ret
    exact Ret.of rfl hb0
theorem rinside44 (t : Tg) (n : Int) (w : World) : Calls Tryz.prog 44 #[tgV t, .int .i64 n] w (Ret w (.bool (wth t n))) := by
  have hb0 := bel_al w (tgO t)
  unfold wth
  obtain ⟨x, y, lo, hi, tol, mat, pin⟩ := t
  simp only at *
  cases h1 : decide (lo ≤ n) <;> cases h2 : decide (n ≤ hi) <;>
  · go_enter Tryz.func44, Tryz.ntmps44
    go_wp2
    go_ret
    exact Ret.of rfl hb0
end W
end Go.Proofs.YtellemlhhlafcaaGreatDoor
end
section
namespace Go.Proofs.YtellemlhhlafcaaGreatDoor
open Go Go.RowKit Go.Deep
namespace M
theorem chkTs_drop (l : List Tg) (i : Nat) (h : i < l.length) : chkTs (l.drop i) = if chkT l[i] = 0 then chkTs (l.drop (i + 1)) else chkT l[i] := by
  rw [List.drop_eq_getElem_cons h, chkTs]
theorem chkCs_drop (l : List Cc) (i : Nat) (h : i < l.length) : chkCs (l.drop i) = if ringC l[i] = 0 then chkCs (l.drop (i + 1)) else ringC l[i] := by
  rw [List.drop_eq_getElem_cons h, chkCs]
end M
namespace W
open M
attribute [local go_sem] bs_size bs_toList bs_get bs_extract bs_append bs_lit0 bs_lit1 lit1_bs
set_option maxHeartbeats 1000000
set_option maxRecDepth 20000
theorem bplate (vt vc : Value) (ts : List Tg) (cs : List Cc) (w : World) (ht : RdG w vt ts) (hc : RdC w vc cs) (nt : ts.length ≤ maxLen) (nc : cs.length ≤ maxLen) :
    Calls Tryz.prog 101 #[vt, vc] w (Ret w (.int .i64 ((chkPl ts cs : Nat) : Int))) := by
  unfold maxLen at nt nc
  obtain ⟨At, ct, rfl⟩ := ht.len
  obtain ⟨Ac, cc, rfl⟩ := hc.len
  by_cases h16 : 16 < ts.length
  · unfold chkPl
    rw [if_pos h16]
    have hd : decide (16 < (ts.length : Int)) = true := by simp; omega
    clear ht hc
    go_enter Tryz.func101, Tryz.ntmps101
    go_wp2
    go_ret
    exact Ret.of rfl (Below.refl _ _)
  · have hd : decide (16 < (ts.length : Int)) = false := by simp; omega
    have HT := Lib.hid ht
    have HC := Lib.hid hc
    have hp : chkPl ts cs = if chkTs ts ≠ 0 then chkTs ts else if cs.length ≠ ts.length then 8 else chkCs cs := by unfold chkPl; rw [if_neg h16]
    generalize hch : ((chkPl ts cs : Nat) : Int) = ch
    rw [hp] at hch
    have HCH := Lib.hid hch
    clear ht hc hp hch
    have hts : ts.length ≤ 16 := by omega
    go_enter Tryz.func101, Tryz.ntmps101
    go_wp2
    go_loopw [16] (fun iv wr => ∃ i : Nat, iv = .int .i64 (i : Int) ∧ i ≤ ts.length ∧ Hid (chkTs ts = chkTs (ts.drop i)) ∧ Hid (Below w.heap.size w wr)) (fun iv _ => ts.length - (intOf iv).toNat)
    case atStart => exact ⟨0, rfl, by omega, Lib.hid (by rw [List.drop_zero]), Lib.hid (Below.refl _ _)⟩
    case round =>
      obtain ⟨i, rfl, hi, hk, hbw⟩ := hrel
      by_cases hlt : i < ts.length
      · obtain ⟨b1, o1, rfl, hw⟩ := HT.out.row i hlt
        obtain ⟨c0, c1, c2, c3, c4, c5, c6⟩ := (hw.below' hbw.out).val i hlt
        have hk2 := hk.out
        rw [chkTs_drop ts i hlt] at hk2
        clear hk hw
        generalize ts[i] = x at *
        have HB := Lib.hid (bel_to hbw.out (bel_al wr (tgO x)))
        have HCK := Lib.hid (bcheck x (wr.alloc (tgO x)))
        have hz : (((chkT x : Nat) : Int) != 0) = decide (chkT x ≠ 0) := by
          by_cases h : chkT x = 0
          · rw [h]; rfl
          · rw [decide_eq_true h, bne_iff_ne]; omega
        by_cases h0 : chkT x = 0
        · rw [if_pos h0] at hk2
          rw [h0] at HCK
          have HK := Lib.hid hk2
          clear hk2 hz h0
          go_wp2_with fail
          refine (HCK.out).mono ?_
          rintro e w1 ⟨rfl, hb1⟩
          have HB1 := Lib.hid (bel_to HB.out hb1)
          clear hb1 HB HCK
          go_wp2
          go_roundw
          case rel => exact ⟨i + 1, by go_num, by omega, HK, HB1⟩
          case measure => simp [intOf]; omega
        · rw [if_neg h0] at hk2
          rw [decide_eq_true h0] at hz
          have HK := Lib.hid (show ch = ((chkT x : Nat) : Int) by rw [← HCH.out, hk2, if_pos h0])
          clear hk2 h0
          generalize ((chkT x : Nat) : Int) = c at *
          go_wp2_with fail
          refine (HCK.out).mono ?_
          rintro e w1 ⟨rfl, hb1⟩
          have HB1 := Lib.hid (bel_to HB.out hb1)
          clear hb1 HB HCK
          go_wp2
          go_ret
          exact Ret.of (by rw [HK.out]; rfl) HB1.out
      · obtain rfl : i = ts.length := by omega
        have hk2 := hk.out
        rw [List.drop_length] at hk2
        rw [hk2] at HCH
        have hch := HCH.out
        rw [if_neg (by simp [chkTs])] at hch
        clear hk hk2 HCH HT
        by_cases hl : cs.length = ts.length
        · have hz : ((cs.length : Int) != (ts.length : Int)) = false := by rw [hl]; simp
          rw [if_neg (by simpa using hl)] at hch
          have HCH := Lib.hid hch
          clear hch hl
          go_wp2
          go_loopw [33] (fun iv wr => ∃ i : Nat, iv = .int .i64 (i : Int) ∧ i ≤ cs.length ∧ Hid (chkCs cs = chkCs (cs.drop i)) ∧ Hid (Below w.heap.size w wr)) (fun iv _ => cs.length - (intOf iv).toNat)
          case atStart => exact ⟨0, rfl, by omega, Lib.hid (by rw [List.drop_zero]), hbw⟩
          case round =>
            clear hbw
            obtain ⟨i, rfl, hi, hk, hbw⟩ := hrel
            by_cases hlt : i < cs.length
            · obtain ⟨b1, o1, rfl, hw⟩ := HC.out.row i hlt
              obtain ⟨c0, c1, c2⟩ := (hw.below' hbw.out).val i hlt
              have hk2 := hk.out
              rw [chkCs_drop cs i hlt] at hk2
              clear hk hw
              generalize cs[i] = x at *
              have HB := Lib.hid (bel_to hbw.out (bel_al wr (ccO x)))
              have HCK := Lib.hid (fun W => bring x W)
              by_cases h0 : ringC x = 0
              · rw [if_pos h0] at hk2
                rw [h0] at HCK
                have HK := Lib.hid hk2
                clear hk2 h0
                go_wp2_with fail
                refine (HCK.out _).mono ?_
                rintro e w1 ⟨rfl, hb1⟩
                have HB1 := Lib.hid (bel_to HB.out hb1)
                clear hb1 HB HCK
                go_wp2
                go_roundw
                case rel => exact ⟨i + 1, by go_num, by omega, HK, HB1⟩
                case measure => simp [intOf]; omega
              · rw [if_neg h0] at hk2
                have hz : (((ringC x : Nat) : Int) != 0) = true := by rw [bne_iff_ne]; omega
                have HK := Lib.hid (show ch = ((ringC x : Nat) : Int) by rw [← HCH.out, hk2])
                clear hk2 h0
                generalize ((ringC x : Nat) : Int) = c at *
                go_wp2_with fail
                refine (HCK.out _).mono ?_
                rintro e w1 ⟨rfl, hb1⟩
                have HB1 := Lib.hid (bel_to HB.out hb1)
                clear hb1 HB HCK
                go_wp2
                go_ret
                exact Ret.of (by rw [HK.out]; rfl) HB1.out
            · obtain rfl : i = cs.length := by omega
              have hk2 := hk.out
              rw [List.drop_length] at hk2
              have HK := Lib.hid (show ch = 0 by rw [← HCH.out, hk2]; rfl)
              clear hk hk2
              go_wp2
              go_ret
              exact Ret.of (by rw [HK.out]; rfl) hbw.out
        · have hz : ((cs.length : Int) != (ts.length : Int)) = true := by rw [bne_iff_ne]; omega
          rw [if_pos hl] at hch
          have HCH := Lib.hid hch
          clear hch
          go_wp2
          go_ret
          exact Ret.of (by rw [← HCH.out]; rfl) hbw.out
end W
end Go.Proofs.YtellemlhhlafcaaGreatDoor
end
section
namespace Go.Proofs.YtellemlhhlafcaaGreatDoor
open Go Go.RowKit Go.Deep Go.Sort
namespace M
noncomputable def chk5 (n : Int) (l : List BT) : Nat := if n < 1 ∨ 8 < n then 2 else if 64 < l.length then 5 else chkBs n l
end M
namespace W
open M
attribute [local go_sem] bs_size bs_toList bs_get bs_extract bs_append bs_lit0 bs_lit1 lit1_bs
set_option maxHeartbeats 1000000
set_option maxRecDepth 20000
theorem chkLs_two (a b : List (List UInt8)) : chkLs [a, b] = chkRs (a ++ b) := by
  rw [chkRs_append, chkLs, chkLs, chkLs]
  by_cases h : chkRs a = 0
  · rw [if_pos h, if_pos h]
    by_cases h2 : chkRs b = 0
    · rw [if_pos h2, h2]
    · rw [if_neg h2]
  · rw [if_neg h, if_neg h]
theorem tnew {w : World} {p : List UInt8} : RdT (w.alloc (.cells #[.string (bs p)] 86 (0, 0))) (.slice (some ⟨w.heap.size, 0, none⟩) 1 1) [p] := by
  have hr := Row.new w 86 [.string (bs p)]
  exact ⟨_, _, rfl, Or.inr ⟨_, _, rfl, hr.lt, fun i hi => by
    obtain rfl : i = 0 := by simpa using hi
    exact hr.cell rfl⟩⟩
theorem pnum2 (u : Value) (l : List (List UInt8)) (p : List UInt8) (w : World) (hg : Glob w) (hu : RdT w u l) (hl : ∀ q ∈ l, q.length ≤ 90000) (hn : l.length ≤ 1000000) (hp : p.length ≤ 90000) :
    Calls Tryz.prog 104 #[.slice (some ⟨w.heap.size + 1, 0, none⟩) 2 2] ((w.alloc (.cells #[.string (bs p)] 86)).alloc (.cells #[u, .slice (some ⟨w.heap.size, 0, none⟩) 1 1] 60)) (Ret w (.int .i64 ((chkRs (l ++ [p]) : Nat) : Int))) := by
  have b1 : Below w.heap.size w (w.alloc (.cells #[.string (bs p)] 86)) := (Below.refl _ _).alloc (Nat.le_refl _) _
  have b2 : Below w.heap.size w ((w.alloc (.cells #[.string (bs p)] 86)).alloc (.cells #[u, .slice (some ⟨w.heap.size, 0, none⟩) 1 1] 60)) := b1.alloc b1.size _
  have b3 := (Below.refl (w.alloc (.cells #[.string (bs p)] 86)).heap.size (w.alloc (.cells #[.string (bs p)] 86))).alloc (Nat.le_refl _) (.cells #[u, .slice (some ⟨w.heap.size, 0, none⟩) 1 1] 60)
  have hr : Row ((w.alloc (.cells #[.string (bs p)] 86)).alloc (.cells #[u, .slice (some ⟨w.heap.size, 0, none⟩) 1 1] 60)) (w.heap.size + 1) 60 [u, .slice (some ⟨w.heap.size, 0, none⟩) 1 1] := by
    have := Row.new (w.alloc (.cells #[.string (bs p)] 86)) 60 [u, .slice (some ⟨w.heap.size, 0, none⟩) 1 1]
    rwa [World.size_alloc] at this
  have h := pnumbers [(u, l), (.slice (some ⟨w.heap.size, 0, none⟩) 1 1, [p])] (w.heap.size + 1) _ (hg.of b2) hr (fun x hx => by
    simp only [List.mem_cons, List.not_mem_nil, or_false] at hx
    rcases hx with rfl | rfl
    · exact ⟨hu.below b2, hn, hl⟩
    · exact ⟨tnew.below b3, by simp, fun q hq => by rw [List.mem_singleton.1 hq]; exact hp⟩) (by simp)
  refine h.mono fun e w' hr => ?_
  obtain ⟨rfl, hb⟩ := hr
  refine ⟨?_, b2.trans (hb.mono b2.size)⟩
  rw [show ([(u, l), (Value.slice (some ⟨w.heap.size, 0, none⟩) 1 1, [p])].map (·.2)) = [l, [p]] from rfl, chkLs_two]
theorem pcheck5 (n : Int) (va : Value) (l : List BT) (w : World) (hg : Glob w) (ha : RdB w va l) (hl : l.length ≤ maxLen) (hs : l.length ≤ 64 → ∀ b ∈ l, b.1.length ≤ 1000000 ∧ (∀ q ∈ b.1, q.length ≤ 90000) ∧ b.2.length ≤ 90000) :
    Calls Tryz.prog 103 #[.int .i64 n, va] w (Ret w (.int .i64 ((chk5 n l : Nat) : Int))) := by
  unfold maxLen at hl
  obtain ⟨A, cap, rfl⟩ := ha.len
  unfold chk5
  by_cases h1 : n < 1
  · rw [if_pos (Or.inl h1)]
    have d1 : decide (n < 1) = true := decide_eq_true h1
    clear ha hs
    go_enter Tryz.func103, Tryz.ntmps103
    go_wp2
    go_ret
    exact Ret.of rfl (Below.refl _ _)
  · have d1 : decide (n < 1) = false := decide_eq_false h1
    by_cases h8 : 8 < n
    · rw [if_pos (Or.inr h8)]
      have d8 : decide (8 < n) = true := decide_eq_true h8
      clear ha hs
      go_enter Tryz.func103, Tryz.ntmps103
      go_wp2
      go_ret
      exact Ret.of rfl (Below.refl _ _)
    · rw [if_neg (by omega)]
      have d8 : decide (8 < n) = false := decide_eq_false h8
      by_cases hb : 64 < l.length
      · rw [if_pos hb]
        have hd : decide (64 < (l.length : Int)) = true := by simp; omega
        clear ha hs
        go_enter Tryz.func103, Tryz.ntmps103
        go_wp2
        go_ret
        exact Ret.of rfl (Below.refl _ _)
      · rw [if_neg hb]
        have hd : decide (64 < (l.length : Int)) = false := by simp; omega
        have HW := Lib.hid ha
        have HSS := Lib.hid (fun i (hi : i < l.length) => hs (by omega) _ (List.getElem_mem hi))
        have hl64 : l.length ≤ 64 := by omega
        generalize hch : ((chkBs n l : Nat) : Int) = ch
        have HCH := Lib.hid hch
        clear ha hs hch
        go_enter Tryz.func103, Tryz.ntmps103
        go_wp2
        go_loopw [21] (fun iv wr => ∃ i : Nat, iv = .int .i64 (i : Int) ∧ i ≤ l.length ∧ Hid (chkBs n l = chkBs n (l.drop i)) ∧ Below w.heap.size w wr) (fun iv _ => l.length - (intOf iv).toNat)
        case atStart => exact ⟨0, rfl, by omega, (rfl : chkBs n l = chkBs n (l.drop 0)), Below.refl _ _⟩
        case round =>
          obtain ⟨i, rfl, hi, hk, hbw⟩ := hrel
          by_cases hlt : i < l.length
          · obtain ⟨b1, o1, rfl, hw⟩ := HW.out.row i hlt
            have hwr := hw.below' hbw
            obtain ⟨u, cu, hu, _⟩ := hwr.row i hlt
            have cm := hwr.most i hlt
            have hk2 := hk.out
            rw [chkBs_drop n l i hlt] at hk2
            obtain ⟨s1, s2, s3⟩ := HSS.out i hlt
            clear hk hwr hw
            generalize l[i] = x at *
            obtain ⟨xr, xm⟩ := x
            simp only at cm hu s1 s2 s3
            have hbn := (Below.refl wr.heap.size wr).alloc (Nat.le_refl _) (.cells #[u, .string (bs xm)] 138)
            have row := Row.new wr 138 [u, .string (bs xm)]
            have c0 := row.cell (i := 0) rfl
            have c1 := row.cell (i := 1) rfl
            have HBN := Lib.hid hbn
            have hnm := pnum2 u xr xm (wr.alloc (.cells #[u, .string (bs xm)] 138)) (hg.of (bel_to hbw hbn)) (hu.below hbn) s2 s1 s3
            rw [World.size_alloc] at hnm
            have HNM := Lib.hid hnm
            clear hnm
            obtain ⟨Au, cpu, rfl⟩ := hu.len
            clear row hbn hu s2 s3
            by_cases hln : (xr.length : Int) = n
            · have hdn : ((xr.length : Int) != n) = false := by simp; exact hln
              rw [show chkB1 n (xr, xm) = chkRs (xr ++ [xm]) by unfold chkB1; rw [if_neg (by simpa using hln)]] at hk2
              by_cases hc : chkRs (xr ++ [xm]) = 0
              · rw [if_pos hc] at hk2
                rw [hc] at HNM
                have HK := Lib.hid hk2
                clear hk2 hc
                go_wp2_with fail
                refine (HNM.out).mono ?_
                rintro e w1 ⟨rfl, hb1⟩
                have hb1' := bel_to hbw (HBN.out.trans (hb1.mono HBN.out.size))
                clear hb1 HNM HBN
                go_wp2
                go_roundw
                case rel => exact ⟨i + 1, by go_num, by omega, HK, hb1'⟩
                case measure => simp [intOf]; omega
              · rw [if_neg hc] at hk2
                have hz : (((chkRs (xr ++ [xm]) : Nat) : Int) != 0) = true := by simp; exact hc
                have HK := Lib.hid hk2
                clear hk2 hc
                generalize hcc : ((chkRs (xr ++ [xm]) : Nat) : Int) = c at *
                have HCC := Lib.hid hcc
                clear hcc
                go_wp2_with fail
                refine (HNM.out).mono ?_
                rintro e w1 ⟨rfl, hb1⟩
                have hb1' := bel_to hbw (HBN.out.trans (hb1.mono HBN.out.size))
                clear hb1 HNM HBN
                go_wp2
                go_ret
                exact Ret.of (by rw [← HCH.out, HK.out, HCC.out]; rfl) hb1'
            · have hdn : ((xr.length : Int) != n) = true := by simp; exact hln
              rw [show chkB1 n (xr, xm) = 8 by unfold chkB1; rw [if_pos (by simpa using hln)], if_neg (by decide)] at hk2
              have HK := Lib.hid hk2
              have HBE := Lib.hid (bel_to hbw HBN.out)
              clear hk2 HNM HBN
              go_wp2
              go_ret
              exact Ret.of (by rw [← HCH.out, HK.out]; rfl) HBE.out
          · obtain rfl : i = l.length := by omega
            have hk2 := hk.out
            rw [List.drop_length] at hk2
            have HK := Lib.hid hk2
            clear hk2 hk
            go_wp2
            go_ret
            exact Ret.of (by rw [← HCH.out, HK.out]; rfl) hbw
end W
end Go.Proofs.YtellemlhhlafcaaGreatDoor
end
section
namespace Go.Proofs.YtellemlhhlafcaaGreatDoor
open Go Go.RowKit Go.Deep Go.Sort
theorem rnw {w : World} {t : TypeId} {xs : List Value} : Row (w.alloc (.cells xs.toArray t (0, 0))) w.heap.size t xs := Row.new w t xs
theorem rnew0 {w : World} {b : Nat} {t : TypeId} {xs : List Value} (hb : b = w.heap.size) : Row (w.alloc (.cells xs.toArray t (0, 0))) b t xs := by subst hb; exact rnw
theorem row_grown {w w' : World} {row : Option Nat} {b : Nat} {t : TypeId} {xs : List Value} (h : Row w b t xs) (hg : w.grownBy w' row) (hne : some b ≠ row) : Row w' b t xs := by
  have hlt := h.lt
  unfold Row at *
  rw [hg.block b hlt hne]; exact h
theorem grown_same (w : World) (row : Option Nat) : w.grownBy w row := ⟨rfl, rfl, rfl, Nat.le_refl _, fun _ _ _ => rfl⟩
def SrcT (w : World) (x : Value) (m : List (List UInt8)) : Prop :=
  (x = .slice none 0 0 ∧ m = []) ∨ ∃ a cap, x = .slice (some a) m.length cap ∧ ∀ j u, (Strs m)[j]? = some u → w.cell? (a.add j) = some u
theorem SrcT.of {w : World} {v : Value} {l : List (List UInt8)} (h : RdT w v l) (hs : Shp v) : SrcT w v l := by
  obtain ⟨A, cap, rfl, h2⟩ := h
  rcases hs with e | ⟨a, n, c, e⟩
  · injection e with e1 e2 e3
    subst e1 e3
    exact Or.inl ⟨by rw [e2], List.length_eq_zero_iff.1 e2⟩
  · injection e with e1 e2 e3
    subst e1
    refine Or.inr ⟨a, cap, rfl, ?_⟩
    rcases h2 with rfl | ⟨b, o, e4, h5⟩
    · intro j u hj; simp [Strs] at hj
    · injection e4 with e4
      subst e4
      intro j u hj
      have hadd : (⟨b, o, none⟩ : Addr).add j = ⟨b, o + j, none⟩ := by unfold Addr.add; split <;> simp_all
      rw [hadd]
      have hj2 : j < l.length := by
        have := (List.getElem?_eq_some_iff.1 hj).1
        simpa [Strs] using this
      have : (Strs l)[j]? = some (.string (bs l[j])) := by simp [Strs, hj2]
      rw [this] at hj
      rw [h5.val j hj2, Option.some.inj hj]
theorem SrcT.row {w : World} {b : Nat} {p : List UInt8} (h : Row w b 86 [.string (bs p)]) : SrcT w (.slice (some ⟨b, 0, none⟩) 1 1) [p] :=
  SrcT.of ⟨_, _, rfl, Or.inr ⟨_, _, rfl, h.lt, fun i hi => by
    obtain rfl : i = 0 := by simpa using hi
    exact h.cell rfl⟩⟩ (Or.inr ⟨_, _, _, rfl⟩)
theorem SrcT.new (w : World) (p : List UInt8) : SrcT (w.alloc (.cells #[.string (bs p)] 86 (0, 0))) (.slice (some ⟨w.heap.size, 0, none⟩) 1 1) [p] := SrcT.row rnw
theorem OwnS.fresh (w : World) (B A : Nat) (hA : A = w.heap.size) (hB : B ≤ A) : OwnS (w.alloc (.cells #[] 86 (0, 0))) B (.slice (some ⟨A, 0, none⟩) 0 0) [] := by
  subst hA
  refine ⟨rfl, Or.inr ⟨w.heap.size, 0, #[], rfl, hB, ?_, Nat.le_refl _, by unfold maxLen; omega, rfl, rfl⟩⟩
  show (w.heap.push _)[w.heap.size]? = _
  simp
theorem step_app_t {ops : Array Oper} {o : Oper} {a : Act} {K : Act → World → Prop} {Q : Exit → Act → World → Prop} {E : Prop} {w : World} {B : Nat} {v xv : Value} {l m : List (List UInt8)} (hgd : o.guard = none) (s x : Operand)
    (ho : o.op = .call { callee := .builtin .append, args := #[s, x], argTypes := #[60, 60] }) (hs : a.eval s = v) (hx : a.eval x = xv)
    (h : OwnS w B v l) (hsrc : SrcT w xv m) (hB : B ≤ w.heap.size) (hn : l.length + m.length ≤ 1000000000)
    (hK : ∀ v' w', OwnS w' B v' (l ++ m) → w.grownBy w' v.ownBlock → K (a.put o.dst v') w') : if Region.wanted o (yielded ops a.tmps) = true then Oper.wp Tryz.prog o a w K Q else E := by
  have hw : Region.wanted o (yielded ops a.tmps) = true := by simp [Region.wanted, hgd]
  rw [if_pos hw]
  have hr : ∃ v' w', (Builtin.append_ #[60, 60] o.type #[v, xv]).run Tryz.prog w = .ok v' w' ∧ OwnS w' B v' (l ++ m) ∧ w.grownBy w' v.ownBlock := by
    obtain ⟨i, h1, h2, h3, h4⟩ := info_parts infoRt
    rcases hsrc with ⟨rfl, rfl⟩ | ⟨ad, cap, rfl, hc⟩
    · refine ⟨v, w, run_append_owned_none (P := Tryz.prog) (w := w) B _ o.type _ i 1 Tryz.underlying60 h1 v l.length (Strs l) h, ?_, grown_same _ _⟩
      rw [List.append_nil]; exact h
    · obtain ⟨v', w', k1, k2, k3, _⟩ := run_append_own (P := Tryz.prog) w B _ o.type _ i _ 1 16 Tryz.underlying60 h1 h2 h3 h4 rfl (by decide) v l.length (Strs l) h ad m.length cap (Strs m) (by simp [Strs])
        hc (fun u hu => by simp [Strs] at hu; obtain ⟨_, _, rfl⟩ := hu; rfl) (by unfold maxLen; omega) (by omega) hB
      refine ⟨v', w', k1, ?_, k3⟩
      unfold OwnS
      rw [List.length_append, show Strs (l ++ m) = Strs l ++ Strs m by simp [Strs]]
      exact k2
  obtain ⟨v', w', hr, h2, h3⟩ := hr
  unfold Oper.wp execOp
  simp only [ho, resolve, invoke, builtin, Sem.run_bind, Sem.run_pure, Result.andThen_ok, List.map_toArray, List.map_cons, List.map_nil, hs, hx, hr]
  exact hK v' w' h2 h3
theorem app_belS {W w w' : World} {B : Nat} {v : Value} {l : List (List UInt8)} (h : OwnS w B v l) (hb : Below W.heap.size W w) (hB : W.heap.size ≤ B) (hg : w.grownBy w' v.ownBlock) : Below W.heap.size W w' :=
  hb.grown hg hb.size fun k hk => Nat.le_trans hB (World.ownsRow.lt h k hk).1
def ApS (W W' : World) (v : Value) (l : List (List UInt8)) : Prop := OwnS W' W.heap.size v l ∧ Below W.heap.size W W'
theorem OwnS.rd {w : World} {B : Nat} {v : Value} {l : List (List UInt8)} (h : OwnS w B v l) : RdT w v l := by
  by_cases hl : l = []
  · subst hl
    rcases h.2 with ⟨hv, _⟩ | ⟨g, cap, cur, hv, _⟩
    · exact ⟨_, _, hv, Or.inl rfl⟩
    · exact ⟨_, _, hv, Or.inl rfl⟩
  · obtain ⟨g, cap, e, _, hlt, hc⟩ := h.form hl
    exact ⟨_, _, e, Or.inr ⟨_, _, rfl, hlt, fun i hi => by rw [Nat.zero_add]; exact hc i hi⟩⟩
namespace W
open M
attribute [local go_sem] bs_size bs_toList bs_get bs_extract bs_append bs_lit0 bs_lit1 lit1_bs
set_option maxHeartbeats 1000000
set_option maxRecDepth 20000
end W
end Go.Proofs.YtellemlhhlafcaaGreatDoor
end
section
namespace Go.Proofs.YtellemlhhlafcaaGreatDoor
open Go Go.RowKit Go.Deep Go.Sort
namespace M
def rx (l : List Rat) : List (List UInt8) := l.map R
theorem rx_len (l : List Rat) : (rx l).length = l.length := by simp [rx]
theorem rx_get (l : List Rat) (i : Nat) (h : i < l.length) : (rx l)[i]'(by rw [rx_len]; exact h) = R l[i] := by simp [rx]
def dotP (a b : List Rat) : Nat → Rat
  | 0 => 0
  | i + 1 => dotP a b i + nth a i * nth b i
theorem nth_get (l : List Rat) (i : Nat) (h : i < l.length) : nth l i = l[i] := by unfold nth; simp [h]
theorem Bq_nil : Bq 1 (0 : Rat) := by unfold Bq; decide +kernel
theorem dotP_bq {a b : List Rat} {e e2 : Nat} (ha : ∀ x ∈ a, Bq e x) (hb : ∀ x ∈ b, Bq e2 x) : ∀ i, i ≤ a.length → i ≤ b.length → Bq ((e + e2 + 1) * i + 1) (dotP a b i)
  | 0, _, _ => Bq_nil
  | i + 1, h1, h2 => by
    have ih := dotP_bq ha hb i (by omega) (by omega)
    unfold dotP
    rw [nth_get a i (by omega), nth_get b i (by omega)]
    have := ih.add ((ha _ (List.getElem_mem (show i < a.length by omega))).mul (hb _ (List.getElem_mem (show i < b.length by omega))))
    refine this.mono ?_
    rw [Nat.mul_succ]; omega
end M
namespace W
open M
attribute [local go_sem] bs_size bs_toList bs_get bs_extract bs_append bs_lit0 bs_lit1 lit1_bs
set_option maxHeartbeats 1000000
set_option maxRecDepth 20000
theorem pdot (S : Nat) (va vb : Value) (a b : List Rat) (e e2 : Nat) (w : World) (hg : Glob w) (hs : NoErP w S) (ha : RdT w va (rx a)) (hb : RdT w vb (rx b)) (hab : a.length ≤ b.length) (hn : (e + e2 + 1) * a.length + 1 ≤ 1000) (ea : ∀ x ∈ a, Bq e x) (eb : ∀ x ∈ b, Bq e2 x) (he2 : e + e2 ≤ 1000) :
    Calls Tryz.prog 113 #[.pointer (some ⟨S, 0, none⟩), va, vb] w (Ret w (.string (bs (R (dotP a b a.length))))) := by
  obtain ⟨A, ca, rfl⟩ := ha.len
  obtain ⟨B, cb, rfl⟩ := hb.len
  have HA := Lib.hid ha
  have HB := Lib.hid hb
  have HD := Lib.hid (fun i (hi : i ≤ a.length) => dotP_bq ea eb i hi (by omega))
  have HT := Lib.hid (fun i (hi : i < a.length) W (hW : Below w.heap.size w W) => ratMul a[i] (b[i]'(by omega)) e e2 W (hg.of hW) (ea _ (List.getElem_mem hi)) (eb _ (List.getElem_mem (by omega))) (by omega))
  have HP := Lib.hid (fun i (hi : i < a.length) W (hW : Below w.heap.size w W) => ratAdd (dotP a b i) (a[i] * b[i]'(by omega)) ((e + e2 + 1) * i + 1) (e + e2) W (hg.of hW) (HD.out i (by omega)) ((ea _ (List.getElem_mem hi)).mul (eb _ (List.getElem_mem (show i < b.length by omega)))) (by
    have h1 : (e + e2 + 1) * (i + 1) ≤ (e + e2 + 1) * a.length := Nat.mul_le_mul_left _ hi
    rw [Nat.mul_succ] at h1
    omega))
  have HO := Lib.hid (fun s W (hW : Below w.heap.size w W) => psof S s W (hs.below' hW))
  have HS := Lib.hid (fun i (hi : i < a.length) => (show dotP a b (i + 1) = dotP a b i + a[i] * b[i]'(by omega) by
    show dotP a b i + nth a i * nth b i = _
    rw [nth_get a i hi, nth_get b i (by omega)]))
  have han : a.length ≤ 1000 := by
    have : 1 * a.length ≤ (e + e2 + 1) * a.length := Nat.mul_le_mul_right _ (by omega)
    omega
  rw [rx_len a] at HA ⊢
  rw [rx_len b] at HB ⊢
  clear ha hb ea eb HD hn hs
  go_enter Tryz.func113, Tryz.ntmps113
  go_wp2
  go_loopw [7, 12] (fun sv iv wr => ∃ i : Nat, iv = .int .i64 (i : Int) ∧ i ≤ a.length ∧ sv = .string (bs (R (dotP a b i))) ∧ Below w.heap.size w wr) (fun _ iv _ => a.length - (intOf iv).toNat)
  case atStart => exact ⟨0, rfl, by omega, by rw [show dotP a b 0 = 0 from rfl, R_nil]; rfl, Below.refl _ _⟩
  case round =>
    obtain ⟨i, rfl, hi, rfl, hbw⟩ := hrel
    by_cases hlt : i < a.length
    · have ha2 := HA.out
      rw [← rx_len a] at ha2
      have hb2 := HB.out
      rw [← rx_len b] at hb2
      obtain ⟨b1, o1, rfl, hw1⟩ := ha2.row i (by rw [rx_len]; exact hlt)
      obtain ⟨b2, o2, rfl, hw2⟩ := hb2.row i (by rw [rx_len]; omega)
      have c0 := (hw1.below' hbw).val i (by rw [rx_len]; exact hlt)
      have c1 := (hw2.below' hbw).val i (by rw [rx_len]; omega)
      rw [rx_get a i hlt] at c0
      rw [rx_get b i (by omega)] at c1
      have HTI := Lib.hid (fun W hW => HT.out i hlt W hW)
      have HPI := Lib.hid (fun W hW => HP.out i hlt W hW)
      have hsi := HS.out i hlt
      have HL1 := Lib.hid (hw1.below' hbw).lt
      have HL2 := Lib.hid (hw2.below' hbw).lt
      clear ha2 hb2 hw1 hw2
      by_cases hx : a[i] = 0
      · have e1 := R_is0.2 hx
        have hs1 : dotP a b (i + 1) = dotP a b i := by rw [hsi, hx]; grind
        have HSS := Lib.hid hs1
        clear hsi hs1 HTI HPI hx
        generalize R a[i] = sx at *
        subst e1
        go_wp2
        go_roundw
        case rel => exact ⟨i + 1, by go_num, hlt, by rw [HSS.out], hbw⟩
        case measure => simp [intOf]; omega
      · have nx : (R a[i] == [48]) = false := by rw [beq_eq_false_iff_ne]; exact fun h => hx (R_is0.1 h)
        by_cases hy : b[i]'(by omega) = 0
        · have e1 := R_is0.2 hy
          have hs1 : dotP a b (i + 1) = dotP a b i := by rw [hsi, hy]; grind
          have HSS := Lib.hid hs1
          clear hsi hs1 HTI HPI hy hx
          generalize R a[i] = sx at *
          generalize R (b[i]'(by omega)) = sy at *
          subst e1
          go_wp2
          go_roundw
          case rel => exact ⟨i + 1, by go_num, hlt, by rw [HSS.out], hbw⟩
          case measure => simp [intOf]; omega
        · have ny : (R (b[i]'(by omega)) == [48]) = false := by rw [beq_eq_false_iff_ne]; exact fun h => hy (R_is0.1 h)
          rw [← hsi] at HPI
          clear hsi hx hy
          generalize R a[i] = sx at *
          generalize R (b[i]'(by omega)) = sy at *
          generalize R (a[i] * b[i]'(by omega)) = sp at *
          generalize R (dotP a b i) = s1 at *
          generalize hs2 : R (dotP a b (i + 1)) = s2 at *
          have HS2 := Lib.hid hs2
          clear hs2
          go_wp2_with fail
          refine (HTI.out _ hbw).mono ?_
          rintro e w1 ⟨rfl, hb1⟩
          have h1 := bel_to hbw hb1
          clear hb1 HTI
          go_wp2_with fail
          refine (HO.out _ _ h1).mono ?_
          rintro e w2 ⟨rfl, hb2⟩
          have h2 := bel_to h1 hb2
          clear hb2 h1
          go_wp2_with fail
          refine (HPI.out _ h2).mono ?_
          rintro e w3 ⟨rfl, hb3⟩
          have h3 := bel_to h2 hb3
          clear hb3 h2 HPI
          go_wp2_with fail
          refine (HO.out _ _ h3).mono ?_
          rintro e w4 ⟨rfl, hb4⟩
          have h4 := bel_to h3 hb4
          clear hb4 h3
          go_wp2
          go_roundw
          case rel => exact ⟨i + 1, by go_num, hlt, by rw [HS2.out], h4⟩
          case measure => simp [intOf]; omega
    · obtain rfl : i = a.length := by omega
      clear HT HP HS
      go_wp2
      go_ret
      exact Ret.of rfl hbw
end W
end Go.Proofs.YtellemlhhlafcaaGreatDoor
end
section
namespace Go.Proofs.YtellemlhhlafcaaGreatDoor
open Go Go.RowKit Go.Deep Go.Sort
namespace M
def bx (l : List BQ) : List BT := l.map fun b => (rx b.1, R b.2)
theorem bx_len (l : List BQ) : (bx l).length = l.length := by simp [bx]
theorem bx_get (l : List BQ) (i : Nat) (h : i < l.length) : (bx l)[i]'(by rw [bx_len]; exact h) = (rx l[i].1, R l[i].2) := by simp [bx]
def RightB (n : Nat) (l : List BQ) : Prop := ∀ b ∈ l, b.1.length = n ∧ (∀ x ∈ b.1, Bq 8 x) ∧ Bq 8 b.2
def RightW (n : Nat) (l : List BQ) : Prop := ∀ b ∈ l, b.1.length = n ∧ (∀ x ∈ b.1, Bq 20 x) ∧ Bq 20 b.2
theorem RightB.wide {n : Nat} {l : List BQ} (h : RightB n l) : RightW n l := fun b hb => ⟨(h b hb).1, fun x hx => ((h b hb).2.1 x hx).mono (by decide), (h b hb).2.2.mono (by decide)⟩
end M
namespace W
open M
attribute [local go_sem] bs_size bs_toList bs_get bs_extract bs_append bs_lit0 bs_lit1 lit1_bs
set_option maxHeartbeats 1000000
set_option maxRecDepth 20000
theorem bound_at {w : World} {b o : Nat} {l : List BQ} (h : BSl w b o (bx l)) (i : Nat) (hi : i < l.length) :
    ∃ u, w.cell? ⟨b, o + i * 2, none⟩ = some u ∧ RdT w u (rx l[i].1) ∧ Shp u ∧ w.cell? ⟨b, o + i * 2 + 1, none⟩ = some (.string (bs (R l[i].2))) := by
  have hi2 : i < (bx l).length := by rw [bx_len]; exact hi
  obtain ⟨u, h1, h2, h3⟩ := h.row i hi2
  have h4 := h.most i hi2
  rw [bx_get l i hi] at h2 h4
  exact ⟨u, h1, h2, h3, h4⟩
theorem sign_pos {q : Rat} : 0 < Int.sign q.num ↔ 0 < q := by
  rw [Int.sign_pos_iff, Rat.lt_iff]
  simp
end W
end Go.Proofs.YtellemlhhlafcaaGreatDoor
end
section
namespace Go.Proofs.YtellemlhhlafcaaGreatDoor
open Go Go.RowKit Go.Deep Go.Sort
namespace M
end M
namespace W
open M
attribute [local go_sem] bs_size bs_toList bs_get bs_extract bs_append bs_lit0 bs_lit1 lit1_bs
set_option maxHeartbeats 1000000
set_option maxRecDepth 20000
theorem pnum1 (u : Value) (l : List (List UInt8)) (w : World) (hg : Glob w) (hu : RdT w u l) (hl : ∀ q ∈ l, q.length ≤ 90000) (hn : l.length ≤ 1000000) :
    Calls Tryz.prog 104 #[.slice (some ⟨w.heap.size, 0, none⟩) 1 1] (w.alloc (.cells #[u] 60)) (Ret w (.int .i64 ((chkRs l : Nat) : Int))) := by
  have b1 : Below w.heap.size w (w.alloc (.cells #[u] 60)) := (Below.refl _ _).alloc (Nat.le_refl _) _
  have h := pnumbers [(u, l)] w.heap.size _ (hg.of b1) (show Row (w.alloc (.cells #[u] 60)) w.heap.size 60 [u] from rnw) (fun x hx => by
    rw [List.mem_singleton.1 hx]; exact ⟨hu.below b1, hn, hl⟩) (by simp)
  refine h.mono fun e w' hr => ?_
  obtain ⟨rfl, hb⟩ := hr
  refine ⟨?_, b1.trans (hb.mono b1.size)⟩
  have e1 : chkLs [l] = chkRs l := by
    rw [chkLs, chkLs]
    by_cases h : chkRs l = 0
    · rw [if_pos h, h]
    · rw [if_neg h]
  rw [show ([(u, l)].map (·.2)) = [l] from rfl, e1]
end W
end Go.Proofs.YtellemlhhlafcaaGreatDoor
end
section
namespace Go.Proofs.YtellemlhhlafcaaGreatDoor
open Go Go.Sort Go.RowKit
section
variable {P : Program} {ops : Array Oper} {md : Region.Mode} {C : World → Prop}
def anyT (P : Program) (md : Region.Mode) (ops : Array Oper) (C : World → Prop) (n : Nat) (L : Array Bool → Act → Prop) : Nat → Array Bool → Act → Prop
  | 0, ls, a => L ls a
  | f + 1, ls, a => Region.ready md ops ls ≠ [] ∧ ∀ i ∈ Region.ready md ops ls, i < n ∧ qOp P ops C i (anyT P md ops C n L f (ls.setIfInBounds i true)) a
theorem wpAny_of_anyT {n g : Nat} {L : Array Bool → Act → Prop} {Q : Exit → Act → World → Prop} (hL : ∀ ls a w, C w → L ls a → wpAny P md ops Q g ls a w) :
    ∀ (f : Nat) (ls : Array Bool) (a : Act) (w : World), C w → anyT P md ops C n L f ls a → wpAny P md ops Q (f + g) ls a w := by
  intro f
  induction f with
  | zero => intro ls a w hw h; rw [Nat.zero_add]; exact hL _ _ _ hw h
  | succ f ih =>
    intro ls a w hw h
    rw [Nat.succ_add]
    exact ⟨fun h0 => absurd h0 h.1, fun i hi => wpOp_of_qOp hw (fun a' w' hw' h' => ih _ a' w' hw' h') (h.2 i hi).2⟩
theorem anyT_first {n i : Nat} {oi : Oper} {v : Value} {L : Array Bool → Act → Prop} (hi : ops[i]? = some oi) (hsel : ∀ (j : Nat) (o : Oper) cs b, ops[j]? = some o → o.op ≠ .select cs b)
    (hs : Region.sinkB md ops n = true) (hc : Region.chainB md ops n = true) (hn : n < ops.size) (hin : i < n) (hdone : ∀ ls a, L ls a → ∀ j ∈ Region.ready md ops ls, n ≤ j) :
    ∀ (f : Nat) (ls : Array Bool) (a : Act), HeadInv md ops n ls →
      (∀ j oj, ops[j]? = some oj → j ≠ i → ls.getD j true = false → (∀ e ∈ oj.after, Region.binds md e = true → e.on ≠ i) → oi.apart ops oj = true) →
      i ∈ Region.ready md ops ls → YieldsIn P ops C oi v a → anyT P md ops C n L f (ls.setIfInBounds i true) (a.put oi.dst v) → anyT P md ops C n L (f + 1) ls a := by
  intro f
  induction f with
  | zero =>
    intro ls a inv _ hr hy H
    refine ⟨List.ne_nil_of_mem hr, fun j hj => ?_⟩
    have hjn : j < n := Nat.lt_of_not_le fun h => tail_waits hs hc hn inv _ i rfl hin (mem_ready.1 hr).1 j h hj
    refine ⟨hjn, ?_⟩
    by_cases e : j = i
    · subst e; exact hy.qOp hi H
    · exact absurd (hdone _ _ H j (ready_mono hj e)) (by omega)
  | succ f ih =>
    intro ls a inv hfree hr hy H
    refine ⟨List.ne_nil_of_mem hr, fun j hj => ?_⟩
    have hjn : j < n := Nat.lt_of_not_le fun h => tail_waits hs hc hn inv _ i rfl hin (mem_ready.1 hr).1 j h hj
    refine ⟨hjn, ?_⟩
    by_cases e : j = i
    · subst e; exact hy.qOp hi H
    · obtain ⟨hju, oj, hoj, hall⟩ := mem_ready.1 hj
      have hno : ∀ e ∈ oj.after, Region.binds md e = true → e.on ≠ i := fun e he hb heq => by
        have h2 := hall e he hb
        rw [heq, getD_both (mem_ready.1 hr).1] at h2
        cases h2
      refine qOp_mono (fun a' h3 => ih (ls.setIfInBounds j true) a' (inv.set hj hjn) (fun k ok hk hki hun h4 => ?_) (ready_mono hr (Ne.symm e)) h3.1 (by rw [Array.setIfInBounds_comm _ _ e]; exact h3.2))
        (qOp_put hoj (hfree j oj hoj e hju hno) (fun cs b => hsel i oi cs b hi) (fun cs b => hsel j oj cs b hoj) hy (H.2 j (ready_mono hj e)).2)
      refine hfree k ok hk hki ?_ h4
      by_cases ek : j = k
      · subst ek; exact hju
      · rwa [getD_set_ne true ek] at hun
theorem anyT_lex {n g : Nat} {Lq : Act → Prop} (hsel : Region.noSelect ops = true) (hs : Region.sinkB md ops n = true) (hc : Region.chainB md ops n = true) (hn : n < ops.size) :
    ∀ (l : List Oper) (k : Nat) (ls : Array Bool) (a : Act), (∀ j, j < l.length → l[j]? = ops[k + j]?) → k + l.length = n → HeadInv md ops n ls → Region.lexHead md ops g l.length k ls = true → wpQuiet P ops C Lq l a →
      anyT P md ops C n (fun ls' a' => Region.seqB md ops g n ls' = true ∧ Lq a') l.length ls a := by
  intro l
  induction l with
  | nil =>
    intro k ls a _ hk _ hB h
    have e : k = n := by simpa using hk
    subst e
    exact ⟨by simpa [Region.lexHead] using hB, h⟩
  | cons o l ih =>
    intro k ls a hl hk inv hB h
    have h0 : ops[k]? = some o := by simpa using (hl 0 (by simp)).symm
    simp only [List.length_cons, Region.lexHead, Bool.and_eq_true] at hB
    have hkn : k < n := by simp only [List.length_cons] at hk; omega
    have hr : k ∈ Region.ready md ops ls := by simpa using hB.1.1
    obtain ⟨v, hy, hK⟩ := yieldsIn_of_qOp h0 (show qOp P ops C k (wpQuiet P ops C Lq l) a by unfold qOp; simp only [h0]; exact h)
    exact anyT_first h0 (Region.noSelect_spec hsel) hs hc hn hkn (fun ls' a' hL => seqB_ready hL.1) l.length ls a inv (Region.free_spec h0 hB.1.2) hr hy
      (ih (k + 1) _ _ (fun j hj => by have := hl (j + 1) (by simp; omega); simpa [Nat.add_assoc, Nat.add_comm 1 j] using this) (by simp only [List.length_cons] at hk; omega) (inv.set hr hkn) hB.2 hK)
theorem region_quiet_tail {id : Nat} {Q : Exit → Act → World → Prop} {a : Act} {w : World} {l : List Oper} (n : Nat) (hm : P.follows .mixedOrders = true) (hB : Region.lexTailB .any l.toArray n = true) (hC : C { w with drawn := w.drawn + 1 })
    (h : wpQuiet P l.toArray C (fun a' => ∀ w', C w' → wpList P l.toArray Q (l.drop n) a' w') (l.take n) a) : (Code.region id l.toArray true).wp P Q a w := by
  simp only [Region.lexTailB, Bool.and_eq_true, decide_eq_true_eq] at hB
  obtain ⟨⟨⟨⟨hsel, hn⟩, hs⟩, hc⟩, hlex⟩ := hB
  have hn2 : n < l.length := by simpa using hn
  have ht : (l.take n).length = n := by simp; omega
  have hd : (l.drop n).length = l.toArray.size - n := by simp
  have inv : HeadInv .any l.toArray n (Array.replicate l.toArray.size false) :=
    ⟨by simp, fun j oj _ h2 => (by rw [getD_replicate_false] at h2; cases h2), fun t _ h2 => getD_in (by simpa using h2) (getD_replicate_false _ _)⟩
  have H := anyT_lex (md := .any) (g := l.toArray.size - n) hsel hs hc hn (l.take n) 0 _ a (fun j hj => by rw [ht] at hj; simp [hj]) (by simpa using ht) inv (by rw [ht]; exact hlex) h
  refine wp_region_any hm ?_
  have h2 := wpAny_of_anyT (Q := Q) (g := l.toArray.size - n) (fun ls a' w' hw' hL => by
    have h3 := wpAny_of_seq (md := .any) (Q' := Q) (l.drop n) n ls a' w' (fun j => by simp [List.getElem?_drop]) (by rw [hd]; exact hL.1) (hL.2 w' hw')
    rwa [hd] at h3) _ _ _ _ hC H
  rw [ht, show n + (l.toArray.size - n) = l.toArray.size by omega] at h2
  exact h2
theorem region_below_tail {id : Nat} {Q : Exit → Act → World → Prop} {a : Act} {w : World} {l : List Oper} (n : Nat) (hm : P.follows .mixedOrders = true) (hB : Region.lexTailB .any l.toArray n = true)
    (h : wpQuiet P l.toArray (fun w' => ∃ p : Regrown, w' = grow (redrawn w p.d) p.os) (fun a' => ∀ w', (∃ p : Regrown, w' = grow (redrawn w p.d) p.os) → wpList P l.toArray Q (l.drop n) a' w') (l.take n) a) : (Code.region id l.toArray true).wp P Q a w :=
  region_quiet_tail n hm hB ⟨⟨w.drawn + 1, #[]⟩, by rw [grow_empty]; rfl⟩ h
end
end Go.Proofs.YtellemlhhlafcaaGreatDoor
end
section
namespace Go.Proofs.YtellemlhhlafcaaGreatDoor
open Go Go.RowKit Go.Deep Go.Sort
namespace M
def wrow (l : List BQ) (q : List Rat) : Nat → Nat → Rat
  | 0, _ => 0
  | i + 1, k => wrow l q i k + nth q i * nth (l.getD i ([], 0)).1 k
def wmost (l : List BQ) (q : List Rat) : Nat → Rat
  | 0 => 0
  | i + 1 => wmost l q i + nth q i * (l.getD i ([], 0)).2
def mapR (f : Nat → Rat) (n : Nat) : List (List UInt8) := (List.range n).map fun k => R (f k)
theorem mapR_len (f : Nat → Rat) (n : Nat) : (mapR f n).length = n := by simp [mapR]
theorem mapR_get (f : Nat → Rat) (n k : Nat) (h : k < n) : (mapR f n)[k]'((mapR_len f n).symm ▸ h) = R (f k) := by simp [mapR]
def mix (f g : Nat → Rat) (k : Nat) : Nat → Rat := fun j => if j < k then g j else f j
theorem mix_zero (f g : Nat → Rat) : mix f g 0 = f := by funext j; simp [mix]
end M
end Go.Proofs.YtellemlhhlafcaaGreatDoor
end
