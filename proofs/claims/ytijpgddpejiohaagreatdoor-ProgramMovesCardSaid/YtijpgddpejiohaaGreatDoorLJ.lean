/-
  Chapter 5: the checks of lists of numbers, on both sides; the program's sums.
  Chapter 5: 'Check' of the program.
  Chapter 5: lists of texts that are made by 'append'; 'Check' of the reference.
  Chapter 5: the sum of products, on both sides.
-/
import Derived.Test.YtijpgddpejiohaaGreatDoorLI
import Derived.Deep.RegionHeld3
section
namespace Go.Proofs.YtijpgddpejiohaaGreatDoor
open Go Go.RowKit Go.Deep Go.Sort
/-- The sums in block b have no error. -/
def NoErP (w : World) (b : Nat) : Prop := Row w b 110 [.int .i64 0]
theorem NoErP.below' {b : Nat} {w w' : World} (h : NoErP w b) (hb : Below w.heap.size w w') : NoErP w' b := Row.below' h hb
theorem NoErP.cell {w : World} {b : Nat} (h : NoErP w b) : w.cell? ⟨b, 0, none⟩ = some (.int .i64 0) := Row.cell h rfl
theorem NoErP.free {w : World} {b : Nat} (h : NoErP w b) : w.frozen? ⟨b, 0, none⟩ = false := Row.free h 0
theorem Below.sameP {B : Nat} {a w : World} (h : Below B a w) {b : Nat} (hn : NoErP w b) : Below B a (w.setCell ⟨b, 0, none⟩ (.int .i64 0)) := by
  have hr := Row.set hn 0 (.int .i64 0)
  refine h.trans ⟨rfl, rfl, rfl, ?_, fun k hk => ?_⟩
  · show _ ≤ (w.heap.modify _ _).size; simp
  · by_cases hkb : k = b
    · subst hkb
      exact hr.trans (Eq.symm hn)
    · exact Below.heap_setCell _ _ _ _ hkb
/-- Calls one behind the other. -/
theorem bel_to {W E W2 : World} (h1 : Below W.heap.size W E) (h2 : Below E.heap.size E W2) : Below W.heap.size W W2 := h1.trans (h2.mono h1.size)
namespace W
open M
attribute [local go_sem] bs_size bs_toList bs_get bs_extract bs_append bs_lit0 bs_lit1 lit1_bs
set_option maxHeartbeats 1000000
set_option maxRecDepth 20000
theorem psof (b : Nat) (s : List UInt8) (w : World) (hs : NoErP w b) :
    Calls Tryz.prog 128 #[.pointer (some ⟨b, 0, none⟩), .string (bs s), .int .i64 0] w (Ret w (.string (bs s))) := by
  have hc := hs.cell
  have hf := hs.free
  have HS := Lib.hid hs
  clear hs
  go_enter Tryz.func128, Tryz.ntmps128
  go_wp2
  go_ret
  exact Ret.of rfl (Below.sameP (Below.refl _ _) HS.out)
theorem pssign (b : Nat) (q : Rat) (k : Nat) (w : World) (hg : Glob w) (hs : NoErP w b) (hq : Bq k q) (hk : k ≤ 1024) :
    Calls Tryz.prog 130 #[.pointer (some ⟨b, 0, none⟩), .string (bs (R q))] w (Ret w (.int .i64 (Int.sign q.num))) := by
  have HC := Lib.hid (rsign_ok q k w hg hq hk)
  have HO := Lib.hid (fun W (hW : Below w.heap.size w W) => psof b [48] W (hs.below' hW))
  clear hs hq
  generalize Int.sign q.num = sg at *
  generalize R q = s at *
  go_enter Tryz.func130, Tryz.ntmps130
  go_wp2_with fail
  refine (HC.out).mono ?_
  rintro e w1 ⟨rfl, hb1⟩
  go_wp2_with fail
  refine (HO.out _ hb1).mono ?_
  rintro e w2 ⟨rfl, hb2⟩
  go_wp2
  go_ret
  exact Ret.of rfl (Below.then hb1 hb2)
theorem R_is0 {q : Rat} : R q = [48] ↔ q = 0 := by
  rw [← R_nil]
  exact ⟨fun h => R_inj h, fun h => by rw [h]⟩
theorem psless (b : Nat) (x y z : Rat) (i j k : Nat) (w : World) (hg : Glob w) (hs : NoErP w b) (hx : Bq i x) (hy : Bq j y) (hz : Bq k z) (hb : i + (j + k) + 1 ≤ 1024) :
    Calls Tryz.prog 133 #[.pointer (some ⟨b, 0, none⟩), .string (bs (R x)), .string (bs (R y)), .string (bs (R z))] w (Ret w (.string (bs (R (x - y * z))))) := by
  by_cases hy0 : y = 0
  · have e : x - y * z = x := by rw [hy0]; grind
    rw [e]
    have ey := R_is0.2 hy0
    clear hs hx hy hz e
    generalize R y = sy at *
    subst ey
    generalize R x = sx at *
    generalize R z = sz at *
    go_enter Tryz.func133, Tryz.ntmps133
    go_wp2
    go_ret
    exact Ret.of rfl (Below.refl _ _)
  · have ny : (R y == [48]) = false := by rw [beq_eq_false_iff_ne]; exact fun h => hy0 (R_is0.1 h)
    by_cases hz0 : z = 0
    · have e : x - y * z = x := by rw [hz0]; grind
      rw [e]
      have ez := R_is0.2 hz0
      clear hs hx hy hz e
      generalize R z = sz at *
      subst ez
      generalize R x = sx at *
      generalize R y = sy at *
      go_enter Tryz.func133, Tryz.ntmps133
      go_wp2
      go_ret
      exact Ret.of rfl (Below.refl _ _)
    · have nz : (R z == [48]) = false := by rw [beq_eq_false_iff_ne]; exact fun h => hz0 (R_is0.1 h)
      have HM := Lib.hid (ratMul y z j k w hg hy hz (by omega))
      have HS := Lib.hid (fun W (hW : Below w.heap.size w W) => ratSub x (y * z) i (j + k) W (hg.of hW) hx (hy.mul hz) hb)
      have HO := Lib.hid (fun s W (hW : Below w.heap.size w W) => psof b s W (hs.below' hW))
      clear hs hx hy hz hy0 hz0
      generalize R (x - y * z) = r at *
      generalize R (y * z) = p at *
      generalize R x = sx at *
      generalize R y = sy at *
      generalize R z = sz at *
      go_enter Tryz.func133, Tryz.ntmps133
      go_wp2_with fail
      refine (HM.out).mono ?_
      rintro e w1 ⟨rfl, hb1⟩
      go_wp2_with fail
      refine (HO.out _ _ hb1).mono ?_
      rintro e w2 ⟨rfl, hb2⟩
      have hb2 := Below.then hb1 hb2
      go_wp2_with fail
      refine (HS.out _ hb2).mono ?_
      rintro e w3 ⟨rfl, hb3⟩
      have hb3 := Below.then hb2 hb3
      go_wp2_with fail
      refine (HO.out _ _ hb3).mono ?_
      rintro e w4 ⟨rfl, hb4⟩
      go_wp2
      go_ret
      exact Ret.of rfl (Below.then hb3 hb4)
/-- The reference's check of a list of numbers. -/
theorem rnumbers (va : Value) (l : List (List UInt8)) (w : World) (ha : RdT w va l) (hl : ∀ p ∈ l, p.length ≤ 90000) (hn : l.length ≤ 1000000) :
    Calls Tryz.prog 11 #[va] w (Ret w (.int .i64 ((chkRs l : Nat) : Int))) := by
  obtain ⟨A, cap, rfl⟩ := ha.len
  have HW := Lib.hid ha
  have HC := Lib.hid (fun i (hi : i < l.length) W => check2_any l[i] W (hl _ (List.getElem_mem hi)))
  generalize hch : ((chkRs l : Nat) : Int) = ch
  have HCH := Lib.hid hch
  clear ha hl hch
  go_enter Tryz.func11, Tryz.ntmps11
  go_wp2
  go_loopw [3] (fun iv wr => ∃ i : Nat, iv = .int .i64 (i : Int) ∧ i ≤ l.length ∧ Hid (chkRs l = chkRs (l.drop i)) ∧ Below w.heap.size w wr) (fun iv _ => l.length - (intOf iv).toNat)
  case atStart => exact ⟨0, rfl, by omega, (rfl : chkRs l = chkRs (l.drop 0)), Below.refl _ _⟩
  case round =>
    obtain ⟨i, rfl, hi, hk, hbw⟩ := hrel
    by_cases hlt : i < l.length
    · obtain ⟨b1, o1, rfl, hw⟩ := HW.out.row i hlt
      have cv := (hw.below' hbw).val i hlt
      have hk2 := hk.out
      rw [chkRs_drop l i hlt] at hk2
      have HP := Lib.hid (HC.out i hlt)
      clear hk hw
      generalize l[i] = x at *
      by_cases hc : chkR x = 0
      · rw [if_pos hc] at hk2
        rw [hc] at HP
        have HK := Lib.hid hk2
        clear hk2 hc
        go_wp2_with fail
        refine (HP.out _).mono ?_
        rintro e w1 ⟨rfl, hb1⟩
        have hb1' := hbw.trans (hb1.mono hbw.size)
        go_wp2
        go_roundw
        case rel => exact ⟨i + 1, by go_num, by omega, HK, hb1'⟩
        case measure => simp [intOf]; omega
      · rw [if_neg hc] at hk2
        have hz : (((chkR x : Nat) : Int) != 0) = true := by simp; exact hc
        have HK := Lib.hid hk2
        clear hk2 hc
        generalize hcc : ((chkR x : Nat) : Int) = c at *
        have HCC := Lib.hid hcc
        clear hcc
        go_wp2_with fail
        refine (HP.out _).mono ?_
        rintro e w1 ⟨rfl, hb1⟩
        have hb1' := hbw.trans (hb1.mono hbw.size)
        go_wp2
        go_ret
        exact Ret.of (by rw [← HCH.out, HK.out, HCC.out]; rfl) hb1'
    · obtain rfl : i = l.length := by omega
      have hk2 := hk.out
      rw [List.drop_length] at hk2
      have HK := Lib.hid hk2
      clear hk2 hk
      go_wp2
      go_ret
      exact Ret.of (by rw [← HCH.out, HK.out]; rfl) hbw
/-- The reference's test of short numbers. -/
def short5 (l : List (List UInt8)) : Bool := (l.all fun p => decide (p.length ≤ 8)) && decide (l.length ≤ 30)
theorem rshort5 (va : Value) (l : List (List UInt8)) (w : World) (ha : RdT w va l) (hl : ∀ p ∈ l, p.length ≤ maxLen) (hn : l.length ≤ maxLen) :
    Calls Tryz.prog 10 #[va] w (Ret w (.bool (short5 l))) := by
  obtain ⟨A, cap, rfl⟩ := ha.len
  unfold maxLen at hl hn
  have HW := Lib.hid ha
  have HM := Lib.hid (fun i (hi : i < l.length) => hl _ (List.getElem_mem hi))
  unfold short5
  generalize hch : (l.all fun p => decide (p.length ≤ 8)) = ch
  have HCH := Lib.hid hch
  clear ha hl hch
  go_enter Tryz.func10, Tryz.ntmps10
  go_wp2
  go_loopw [3] (fun iv wr => ∃ i : Nat, iv = .int .i64 (i : Int) ∧ i ≤ l.length ∧ Hid ((l.all fun p => decide (p.length ≤ 8)) = ((l.drop i).all fun p => decide (p.length ≤ 8))) ∧ wr = w) (fun iv _ => l.length - (intOf iv).toNat)
  case atStart => exact ⟨0, rfl, by omega, (rfl : (l.all fun p => decide (p.length ≤ 8)) = ((l.drop 0).all fun p => decide (p.length ≤ 8))), rfl⟩
  case round =>
    obtain ⟨i, rfl, hi, hk, rfl⟩ := hrel
    by_cases hlt : i < l.length
    · obtain ⟨b1, o1, rfl, hw⟩ := HW.out.row i hlt
      have cv := hw.val i hlt
      have hk2 := hk.out
      rw [List.drop_eq_getElem_cons hlt, List.all_cons] at hk2
      have hlm := HM.out i hlt
      clear hk hw
      generalize l[i] = x at *
      by_cases hc : x.length ≤ 8
      · have hd : decide (8 < (x.length : Int)) = false := by simp; omega
        rw [decide_eq_true hc, Bool.true_and] at hk2
        have HK := Lib.hid hk2
        clear hk2 hc
        go_wp2
        go_roundw
        case rel => exact ⟨i + 1, by go_num, by omega, HK, trivial⟩
        case measure => simp [intOf]; omega
      · have hd : decide (8 < (x.length : Int)) = true := by simp; omega
        rw [decide_eq_false hc, Bool.false_and] at hk2
        have HK := Lib.hid hk2
        clear hk2 hc
        go_wp2
        go_ret
        exact Ret.of (by rw [← HCH.out, HK.out]; rfl) (Below.refl _ _)
    · obtain rfl : i = l.length := by omega
      have hk2 := hk.out
      rw [List.drop_length] at hk2
      have HK := Lib.hid (show ch = true by rw [← HCH.out, hk2]; rfl)
      clear hk2 hk
      by_cases hc : l.length ≤ 30
      · have hd : decide ((l.length : Int) ≤ 30) = true := by simp; omega
        go_wp2
        go_ret
        exact Ret.of (by rw [HK.out, decide_eq_true hc]; rfl) (Below.refl _ _)
      · have hd : decide ((l.length : Int) ≤ 30) = false := by simp; omega
        go_wp2
        go_ret
        exact Ret.of (by rw [HK.out, decide_eq_false hc]; rfl) (Below.refl _ _)
/-- The errors of lists of numbers. -/
noncomputable def chkLs : List (List (List UInt8)) → Nat
  | [] => 0
  | l :: t => if chkRs l = 0 then chkLs t else chkRs l
theorem pnumbers (ls : List (Value × List (List UInt8))) (g : Nat) (w : World) (hg : Glob w) (hr : Row w g 23 (ls.map (·.1)))
    (h : ∀ x ∈ ls, RdT w x.1 x.2 ∧ x.2.length ≤ 1000000 ∧ ∀ p ∈ x.2, p.length ≤ 90000) (hn : ls.length ≤ 10) :
    Calls Tryz.prog 62 #[.slice (some ⟨g, 0, none⟩) ls.length ls.length] w (Ret w (.int .i64 ((chkLs (ls.map (·.2)) : Nat) : Int))) := by
  have HR := Lib.hid hr
  have HL := Lib.hid (fun i (hi : i < ls.length) => h _ (List.getElem_mem hi))
  generalize hch : ((chkLs (ls.map (·.2)) : Nat) : Int) = ch
  have HCH := Lib.hid hch
  clear hr h hch
  go_enter Tryz.func62, Tryz.ntmps62
  go_wp2
  go_loopw [10] (fun iv wr => ∃ i : Nat, iv = .int .i64 (i : Int) ∧ i ≤ ls.length ∧ Hid (chkLs (ls.map (·.2)) = chkLs ((ls.drop i).map (·.2))) ∧ Below w.heap.size w wr) (fun iv _ => ls.length - (intOf iv).toNat)
  case atStart => exact ⟨0, rfl, by omega, (rfl : chkLs (ls.map (·.2)) = chkLs ((ls.drop 0).map (·.2))), Below.refl _ _⟩
  case round =>
    obtain ⟨i, rfl, hi, hk, hbw⟩ := hrel
    by_cases hlt : i < ls.length
    · have cc := (HR.out.below' hbw).cell (i := i) (v := ls[i].1) (by simp [hlt])
      have hk2 := hk.out
      rw [List.drop_eq_getElem_cons hlt, List.map_cons, chkLs] at hk2
      obtain ⟨hrd, hln, hps⟩ := HL.out i hlt
      have hrd := hrd.below hbw
      clear hk
      generalize ls[i] = x at *
      obtain ⟨v, l⟩ := x
      simp only at cc hk2 hrd hln hps
      have HRD := Lib.hid hrd
      obtain ⟨A, cap, rfl⟩ := hrd.len
      have HPC := Lib.hid (fun j (hj : j < l.length) W (hW : Below w.heap.size w W) => vcheckR l[j] W (hg.of hW) (hps _ (List.getElem_mem hj)))
      have HK := Lib.hid hk2
      clear hrd hk2 hps
      obtain ⟨W0, hW0⟩ : ∃ y, y = wr := ⟨wr, rfl⟩
      subst hW0
      go_wp2
      go_loopw [16] (fun jv wr2 => ∃ j : Nat, jv = .int .i64 (j : Int) ∧ j ≤ l.length ∧ Hid (chkRs l = chkRs (l.drop j)) ∧ Below W0.heap.size W0 wr2) (fun jv _ => l.length - (intOf jv).toNat)
      case atStart => exact ⟨0, rfl, by omega, (rfl : chkRs l = chkRs (l.drop 0)), Below.refl _ _⟩
      case round =>
        obtain ⟨j, rfl, hj, hq, hbv⟩ := hrel
        by_cases hlj : j < l.length
        · obtain ⟨b1, o1, rfl, hw⟩ := HRD.out.row j hlj
          have cv := (hw.below' hbv).val j hlj
          have hq2 := hq.out
          rw [chkRs_drop l j hlj] at hq2
          have HP := Lib.hid (HPC.out j hlj wr (bel_to hbw hbv))
          clear hq hw
          generalize l[j] = x at *
          by_cases hc : chkR x = 0
          · rw [if_pos hc] at hq2
            rw [hc] at HP
            have HQ := Lib.hid hq2
            clear hq2 hc
            go_wp2_with fail
            refine (HP.out).mono ?_
            rintro e w1 ⟨rfl, hb1⟩
            have hb1' := hbv.trans (hb1.mono hbv.size)
            go_wp2
            go_roundw
            case rel => exact ⟨j + 1, by go_num, by omega, HQ, hb1'⟩
            case measure => simp [intOf]; omega
          · rw [if_neg hc] at hq2
            have hz : (((chkR x : Nat) : Int) != 0) = true := by simp; exact hc
            have HQ := Lib.hid (show chkLs (ls.map (·.2)) = chkR x by rw [HK.out, hq2, if_neg hc])
            clear hq2 hc
            generalize hcc : ((chkR x : Nat) : Int) = c at *
            have HCC := Lib.hid hcc
            clear hcc
            go_wp2_with fail
            refine (HP.out).mono ?_
            rintro e w1 ⟨rfl, hb1⟩
            have hb1' := hbw.trans ((hbv.trans (hb1.mono hbv.size)).mono hbw.size)
            go_wp2
            go_ret
            exact Ret.of (by rw [← HCH.out, HQ.out, HCC.out]; rfl) hb1'
        · obtain rfl : j = l.length := by omega
          have hq2 := hq.out
          rw [List.drop_length] at hq2
          have HQ := Lib.hid (show chkLs (ls.map (·.2)) = chkLs ((ls.drop (i + 1)).map (·.2)) by rw [HK.out, hq2]; rfl)
          clear hq2 hq
          go_wp2
          go_roundw
          case rel => exact ⟨i + 1, by go_num, hlt, HQ, bel_to hbw hbv⟩
          case measure => simp [intOf]; omega
    · obtain rfl : i = ls.length := by omega
      have hk2 := hk.out
      rw [List.drop_length] at hk2
      have HK := Lib.hid hk2
      clear hk2 hk
      go_wp2
      go_ret
      exact Ret.of (by rw [← HCH.out, HK.out]; rfl) hbw
end W
end Go.Proofs.YtijpgddpejiohaaGreatDoor
end
section
namespace Go.Proofs.YtijpgddpejiohaaGreatDoor
open Go Go.RowKit Go.Deep Go.Sort
namespace M
/-- The number of the error of bounds on n unknowns. -/
noncomputable def chk5 (n : Int) (l : List BT) : Nat := if n < 1 ∨ 8 < n then 2 else if 64 < l.length then 5 else chkBs n l
end M
namespace W
open M
attribute [local go_sem] bs_size bs_toList bs_get bs_extract bs_append bs_lit0 bs_lit1 lit1_bs
set_option maxHeartbeats 1000000
set_option maxRecDepth 20000
theorem chkLs_two (a b : List (List UInt8)) : chkLs [a, b] = chkRs (a ++ b) := by
  rw [chkRs_append, chkLs, chkLs, chkLs]
  by_cases h : chkRs a = 0
  · rw [if_pos h, if_pos h]
    by_cases h2 : chkRs b = 0
    · rw [if_pos h2, h2]
    · rw [if_neg h2]
  · rw [if_neg h, if_neg h]
theorem tnew {w : World} {p : List UInt8} : RdT (w.alloc (.cells #[.string (bs p)] 29 (0, 0))) (.slice (some ⟨w.heap.size, 0, none⟩) 1 1) [p] := by
  have hr := Row.new w 29 [.string (bs p)]
  exact ⟨_, _, rfl, Or.inr ⟨_, _, rfl, hr.lt, fun i hi => by
    obtain rfl : i = 0 := by simpa using hi
    exact hr.cell rfl⟩⟩
/-- 'numbers' of a row and a single number. -/
theorem pnum2 (u : Value) (l : List (List UInt8)) (p : List UInt8) (w : World) (hg : Glob w) (hu : RdT w u l) (hl : ∀ q ∈ l, q.length ≤ 90000) (hn : l.length ≤ 1000000) (hp : p.length ≤ 90000) :
    Calls Tryz.prog 62 #[.slice (some ⟨w.heap.size + 1, 0, none⟩) 2 2] ((w.alloc (.cells #[.string (bs p)] 29)).alloc (.cells #[u, .slice (some ⟨w.heap.size, 0, none⟩) 1 1] 23)) (Ret w (.int .i64 ((chkRs (l ++ [p]) : Nat) : Int))) := by
  have b1 : Below w.heap.size w (w.alloc (.cells #[.string (bs p)] 29)) := (Below.refl _ _).alloc (Nat.le_refl _) _
  have b2 : Below w.heap.size w ((w.alloc (.cells #[.string (bs p)] 29)).alloc (.cells #[u, .slice (some ⟨w.heap.size, 0, none⟩) 1 1] 23)) := b1.alloc b1.size _
  have b3 := (Below.refl (w.alloc (.cells #[.string (bs p)] 29)).heap.size (w.alloc (.cells #[.string (bs p)] 29))).alloc (Nat.le_refl _) (.cells #[u, .slice (some ⟨w.heap.size, 0, none⟩) 1 1] 23)
  have hr : Row ((w.alloc (.cells #[.string (bs p)] 29)).alloc (.cells #[u, .slice (some ⟨w.heap.size, 0, none⟩) 1 1] 23)) (w.heap.size + 1) 23 [u, .slice (some ⟨w.heap.size, 0, none⟩) 1 1] := by
    have := Row.new (w.alloc (.cells #[.string (bs p)] 29)) 23 [u, .slice (some ⟨w.heap.size, 0, none⟩) 1 1]
    rwa [World.size_alloc] at this
  have h := pnumbers [(u, l), (.slice (some ⟨w.heap.size, 0, none⟩) 1 1, [p])] (w.heap.size + 1) _ (hg.of b2) hr (fun x hx => by
    simp only [List.mem_cons, List.not_mem_nil, or_false] at hx
    rcases hx with rfl | rfl
    · exact ⟨hu.below b2, hn, hl⟩
    · exact ⟨tnew.below b3, by simp, fun q hq => by rw [List.mem_singleton.1 hq]; exact hp⟩) (by simp)
  refine h.mono fun e w' hr => ?_
  obtain ⟨rfl, hb⟩ := hr
  refine ⟨?_, b2.trans (hb.mono b2.size)⟩
  rw [show ([(u, l), (Value.slice (some ⟨w.heap.size, 0, none⟩) 1 1, [p])].map (·.2)) = [l, [p]] from rfl, chkLs_two]
theorem pcheck5 (n : Int) (va : Value) (l : List BT) (w : World) (hg : Glob w) (ha : RdB w va l) (hl : l.length ≤ maxLen) (hs : l.length ≤ 64 → ∀ b ∈ l, b.1.length ≤ 1000000 ∧ (∀ q ∈ b.1, q.length ≤ 90000) ∧ b.2.length ≤ 90000) :
    Calls Tryz.prog 61 #[.int .i64 n, va] w (Ret w (.int .i64 ((chk5 n l : Nat) : Int))) := by
  unfold maxLen at hl
  obtain ⟨A, cap, rfl⟩ := ha.len
  unfold chk5
  by_cases h1 : n < 1
  · rw [if_pos (Or.inl h1)]
    have d1 : decide (n < 1) = true := decide_eq_true h1
    clear ha hs
    go_enter Tryz.func61, Tryz.ntmps61
    go_wp2
    go_ret
    exact Ret.of rfl (Below.refl _ _)
  · have d1 : decide (n < 1) = false := decide_eq_false h1
    by_cases h8 : 8 < n
    · rw [if_pos (Or.inr h8)]
      have d8 : decide (8 < n) = true := decide_eq_true h8
      clear ha hs
      go_enter Tryz.func61, Tryz.ntmps61
      go_wp2
      go_ret
      exact Ret.of rfl (Below.refl _ _)
    · rw [if_neg (by omega)]
      have d8 : decide (8 < n) = false := decide_eq_false h8
      by_cases hb : 64 < l.length
      · rw [if_pos hb]
        have hd : decide (64 < (l.length : Int)) = true := by simp; omega
        clear ha hs
        go_enter Tryz.func61, Tryz.ntmps61
        go_wp2
        go_ret
        exact Ret.of rfl (Below.refl _ _)
      · rw [if_neg hb]
        have hd : decide (64 < (l.length : Int)) = false := by simp; omega
        have HW := Lib.hid ha
        have HSS := Lib.hid (fun i (hi : i < l.length) => hs (by omega) _ (List.getElem_mem hi))
        have hl64 : l.length ≤ 64 := by omega
        generalize hch : ((chkBs n l : Nat) : Int) = ch
        have HCH := Lib.hid hch
        clear ha hs hch
        go_enter Tryz.func61, Tryz.ntmps61
        go_wp2
        go_loopw [21] (fun iv wr => ∃ i : Nat, iv = .int .i64 (i : Int) ∧ i ≤ l.length ∧ Hid (chkBs n l = chkBs n (l.drop i)) ∧ Below w.heap.size w wr) (fun iv _ => l.length - (intOf iv).toNat)
        case atStart => exact ⟨0, rfl, by omega, (rfl : chkBs n l = chkBs n (l.drop 0)), Below.refl _ _⟩
        case round =>
          obtain ⟨i, rfl, hi, hk, hbw⟩ := hrel
          by_cases hlt : i < l.length
          · obtain ⟨b1, o1, rfl, hw⟩ := HW.out.row i hlt
            have hwr := hw.below' hbw
            obtain ⟨u, cu, hu, _⟩ := hwr.row i hlt
            have cm := hwr.most i hlt
            have hk2 := hk.out
            rw [chkBs_drop n l i hlt] at hk2
            obtain ⟨s1, s2, s3⟩ := HSS.out i hlt
            clear hk hwr hw
            generalize l[i] = x at *
            obtain ⟨xr, xm⟩ := x
            simp only at cm hu s1 s2 s3
            have hbn := (Below.refl wr.heap.size wr).alloc (Nat.le_refl _) (.cells #[u, .string (bs xm)] 31)
            have row := Row.new wr 31 [u, .string (bs xm)]
            have c0 := row.cell (i := 0) rfl
            have c1 := row.cell (i := 1) rfl
            have HBN := Lib.hid hbn
            have hnm := pnum2 u xr xm (wr.alloc (.cells #[u, .string (bs xm)] 31)) (hg.of (bel_to hbw hbn)) (hu.below hbn) s2 s1 s3
            rw [World.size_alloc] at hnm
            have HNM := Lib.hid hnm
            clear hnm
            obtain ⟨Au, cpu, rfl⟩ := hu.len
            clear row hbn hu s2 s3
            by_cases hln : (xr.length : Int) = n
            · have hdn : ((xr.length : Int) != n) = false := by simp; exact hln
              rw [show chkB1 n (xr, xm) = chkRs (xr ++ [xm]) by unfold chkB1; rw [if_neg (by simpa using hln)]] at hk2
              by_cases hc : chkRs (xr ++ [xm]) = 0
              · rw [if_pos hc] at hk2
                rw [hc] at HNM
                have HK := Lib.hid hk2
                clear hk2 hc
                go_wp2_with fail
                refine (HNM.out).mono ?_
                rintro e w1 ⟨rfl, hb1⟩
                have hb1' := bel_to hbw (HBN.out.trans (hb1.mono HBN.out.size))
                clear hb1 HNM HBN
                go_wp2
                go_roundw
                case rel => exact ⟨i + 1, by go_num, by omega, HK, hb1'⟩
                case measure => simp [intOf]; omega
              · rw [if_neg hc] at hk2
                have hz : (((chkRs (xr ++ [xm]) : Nat) : Int) != 0) = true := by simp; exact hc
                have HK := Lib.hid hk2
                clear hk2 hc
                generalize hcc : ((chkRs (xr ++ [xm]) : Nat) : Int) = c at *
                have HCC := Lib.hid hcc
                clear hcc
                go_wp2_with fail
                refine (HNM.out).mono ?_
                rintro e w1 ⟨rfl, hb1⟩
                have hb1' := bel_to hbw (HBN.out.trans (hb1.mono HBN.out.size))
                clear hb1 HNM HBN
                go_wp2
                go_ret
                exact Ret.of (by rw [← HCH.out, HK.out, HCC.out]; rfl) hb1'
            · have hdn : ((xr.length : Int) != n) = true := by simp; exact hln
              rw [show chkB1 n (xr, xm) = 8 by unfold chkB1; rw [if_pos (by simpa using hln)], if_neg (by decide)] at hk2
              have HK := Lib.hid hk2
              have HBE := Lib.hid (bel_to hbw HBN.out)
              clear hk2 HNM HBN
              go_wp2
              go_ret
              exact Ret.of (by rw [← HCH.out, HK.out]; rfl) HBE.out
          · obtain rfl : i = l.length := by omega
            have hk2 := hk.out
            rw [List.drop_length] at hk2
            have HK := Lib.hid hk2
            clear hk2 hk
            go_wp2
            go_ret
            exact Ret.of (by rw [← HCH.out, HK.out]; rfl) hbw
end W
end Go.Proofs.YtijpgddpejiohaaGreatDoor
end
section
namespace Go.Proofs.YtijpgddpejiohaaGreatDoor
open Go Go.RowKit Go.Deep Go.Sort
theorem rnw {w : World} {t : TypeId} {xs : List Value} : Row (w.alloc (.cells xs.toArray t (0, 0))) w.heap.size t xs := Row.new w t xs
theorem rnew0 {w : World} {b : Nat} {t : TypeId} {xs : List Value} (hb : b = w.heap.size) : Row (w.alloc (.cells xs.toArray t (0, 0))) b t xs := by subst hb; exact rnw
theorem row_grown {w w' : World} {row : Option Nat} {b : Nat} {t : TypeId} {xs : List Value} (h : Row w b t xs) (hg : w.grownBy w' row) (hne : some b ≠ row) : Row w' b t xs := by
  have hlt := h.lt
  unfold Row at *
  rw [hg.block b hlt hne]; exact h
theorem grown_same (w : World) (row : Option Nat) : w.grownBy w row := ⟨rfl, rfl, rfl, Nat.le_refl _, fun _ _ _ => rfl⟩
/-- Whatever slice of texts may be appended. -/
def SrcT (w : World) (x : Value) (m : List (List UInt8)) : Prop :=
  (x = .slice none 0 0 ∧ m = []) ∨ ∃ a cap, x = .slice (some a) m.length cap ∧ ∀ j u, (Strs m)[j]? = some u → w.cell? (a.add j) = some u
theorem SrcT.of {w : World} {v : Value} {l : List (List UInt8)} (h : RdT w v l) (hs : Shp v) : SrcT w v l := by
  obtain ⟨A, cap, rfl, h2⟩ := h
  rcases hs with e | ⟨a, n, c, e⟩
  · injection e with e1 e2 e3
    subst e1 e3
    exact Or.inl ⟨by rw [e2], List.length_eq_zero_iff.1 e2⟩
  · injection e with e1 e2 e3
    subst e1
    refine Or.inr ⟨a, cap, rfl, ?_⟩
    rcases h2 with rfl | ⟨b, o, e4, h5⟩
    · intro j u hj; simp [Strs] at hj
    · injection e4 with e4
      subst e4
      intro j u hj
      have hadd : (⟨b, o, none⟩ : Addr).add j = ⟨b, o + j, none⟩ := by unfold Addr.add; split <;> simp_all
      rw [hadd]
      have hj2 : j < l.length := by
        have := (List.getElem?_eq_some_iff.1 hj).1
        simpa [Strs] using this
      have : (Strs l)[j]? = some (.string (bs l[j])) := by simp [Strs, hj2]
      rw [this] at hj
      rw [h5.val j hj2, Option.some.inj hj]
theorem SrcT.row {w : World} {b : Nat} {p : List UInt8} (h : Row w b 29 [.string (bs p)]) : SrcT w (.slice (some ⟨b, 0, none⟩) 1 1) [p] :=
  SrcT.of ⟨_, _, rfl, Or.inr ⟨_, _, rfl, h.lt, fun i hi => by
    obtain rfl : i = 0 := by simpa using hi
    exact h.cell rfl⟩⟩ (Or.inr ⟨_, _, _, rfl⟩)
theorem SrcT.new (w : World) (p : List UInt8) : SrcT (w.alloc (.cells #[.string (bs p)] 29 (0, 0))) (.slice (some ⟨w.heap.size, 0, none⟩) 1 1) [p] := SrcT.row rnw
theorem OwnS.fresh (w : World) (B A : Nat) (hA : A = w.heap.size) (hB : B ≤ A) : OwnS (w.alloc (.cells #[] 29 (0, 0))) B (.slice (some ⟨A, 0, none⟩) 0 0) [] := by
  subst hA
  refine ⟨rfl, Or.inr ⟨w.heap.size, 0, #[], rfl, hB, ?_, Nat.le_refl _, by unfold maxLen; omega, rfl, rfl⟩⟩
  show (w.heap.push _)[w.heap.size]? = _
  simp
theorem step_app_t {ops : Array Oper} {o : Oper} {a : Act} {K : Act → World → Prop} {Q : Exit → Act → World → Prop} {E : Prop} {w : World} {B : Nat} {v xv : Value} {l m : List (List UInt8)} (hgd : o.guard = none) (s x : Operand)
    (ho : o.op = .call { callee := .builtin .append, args := #[s, x], argTypes := #[23, 23] }) (hs : a.eval s = v) (hx : a.eval x = xv)
    (h : OwnS w B v l) (hsrc : SrcT w xv m) (hB : B ≤ w.heap.size) (hn : l.length + m.length ≤ 1000000000)
    (hK : ∀ v' w', OwnS w' B v' (l ++ m) → w.grownBy w' v.ownBlock → K (a.put o.dst v') w') : if Region.wanted o (yielded ops a.tmps) = true then Oper.wp Tryz.prog o a w K Q else E := by
  have hw : Region.wanted o (yielded ops a.tmps) = true := by simp [Region.wanted, hgd]
  rw [if_pos hw]
  have hr : ∃ v' w', (Builtin.append_ #[23, 23] o.type #[v, xv]).run Tryz.prog w = .ok v' w' ∧ OwnS w' B v' (l ++ m) ∧ w.grownBy w' v.ownBlock := by
    obtain ⟨i, h1, h2, h3, h4⟩ := info_parts infoRt
    rcases hsrc with ⟨rfl, rfl⟩ | ⟨ad, cap, rfl, hc⟩
    · refine ⟨v, w, run_append_owned_none (P := Tryz.prog) (w := w) B _ o.type _ i 1 Tryz.underlying23 h1 v l.length (Strs l) h, ?_, grown_same _ _⟩
      rw [List.append_nil]; exact h
    · obtain ⟨v', w', k1, k2, k3, _⟩ := run_append_own (P := Tryz.prog) w B _ o.type _ i _ 1 16 Tryz.underlying23 h1 h2 h3 h4 rfl (by decide) v l.length (Strs l) h ad m.length cap (Strs m) (by simp [Strs])
        hc (fun u hu => by simp [Strs] at hu; obtain ⟨_, _, rfl⟩ := hu; rfl) (by unfold maxLen; omega) (by omega) hB
      refine ⟨v', w', k1, ?_, k3⟩
      unfold OwnS
      rw [List.length_append, show Strs (l ++ m) = Strs l ++ Strs m by simp [Strs]]
      exact k2
  obtain ⟨v', w', hr, h2, h3⟩ := hr
  unfold Oper.wp execOp
  simp only [ho, resolve, invoke, builtin, Sem.run_bind, Sem.run_pure, Result.andThen_ok, List.map_toArray, List.map_cons, List.map_nil, hs, hx, hr]
  exact hK v' w' h2 h3
theorem app_belS {W w w' : World} {B : Nat} {v : Value} {l : List (List UInt8)} (h : OwnS w B v l) (hb : Below W.heap.size W w) (hB : W.heap.size ≤ B) (hg : w.grownBy w' v.ownBlock) : Below W.heap.size W w' :=
  hb.grown hg hb.size fun k hk => Nat.le_trans hB (World.ownsRow.lt h k hk).1
/-- A list of texts that is made behind W. -/
def ApS (W W' : World) (v : Value) (l : List (List UInt8)) : Prop := OwnS W' W.heap.size v l ∧ Below W.heap.size W W'
theorem ApS.to {W W1 W2 : World} {v : Value} {l : List (List UInt8)} (h : ApS W W1 v l) (hb : Below W1.heap.size W1 W2) : ApS W W2 v l := ⟨h.1.below hb, h.2.trans (hb.mono h.2.size)⟩
theorem OwnS.rd {w : World} {B : Nat} {v : Value} {l : List (List UInt8)} (h : OwnS w B v l) : RdT w v l := by
  by_cases hl : l = []
  · subst hl
    rcases h.2 with ⟨hv, _⟩ | ⟨g, cap, cur, hv, _⟩
    · exact ⟨_, _, hv, Or.inl rfl⟩
    · exact ⟨_, _, hv, Or.inl rfl⟩
  · obtain ⟨g, cap, e, _, hlt, hc⟩ := h.form hl
    exact ⟨_, _, e, Or.inr ⟨_, _, rfl, hlt, fun i hi => by rw [Nat.zero_add]; exact hc i hi⟩⟩
namespace W
open M
attribute [local go_sem] bs_size bs_toList bs_get bs_extract bs_append bs_lit0 bs_lit1 lit1_bs
set_option maxHeartbeats 1000000
set_option maxRecDepth 20000
theorem rcheck5 (n : Int) (va : Value) (l : List BT) (w : World) (ha : RdB w va l) (hl : l.length ≤ maxLen) (hs : l.length ≤ 64 → ∀ b ∈ l, b.1.length ≤ 900000 ∧ (∀ q ∈ b.1, q.length ≤ 90000) ∧ b.2.length ≤ 90000) :
    Calls Tryz.prog 48 #[.int .i64 n, va] w (Ret w (.int .i64 ((chk5 n l : Nat) : Int))) := by
  unfold maxLen at hl
  obtain ⟨A, cap, rfl⟩ := ha.len
  unfold chk5
  by_cases h1 : n < 1
  · rw [if_pos (Or.inl h1)]
    have d1 : decide (n < 1) = true := decide_eq_true h1
    clear ha hs
    go_enter Tryz.func48, Tryz.ntmps48
    go_wp2
    go_ret
    exact Ret.of rfl (Below.refl _ _)
  · have d1 : decide (n < 1) = false := decide_eq_false h1
    by_cases h8 : 8 < n
    · rw [if_pos (Or.inr h8)]
      have d8 : decide (8 < n) = true := decide_eq_true h8
      clear ha hs
      go_enter Tryz.func48, Tryz.ntmps48
      go_wp2
      go_ret
      exact Ret.of rfl (Below.refl _ _)
    · rw [if_neg (by omega)]
      have d8 : decide (8 < n) = false := decide_eq_false h8
      by_cases hb : 64 < l.length
      · rw [if_pos hb]
        have hd : decide (64 < (l.length : Int)) = true := by simp; omega
        clear ha hs
        go_enter Tryz.func48, Tryz.ntmps48
        go_wp2
        go_ret
        exact Ret.of rfl (Below.refl _ _)
      · rw [if_neg hb]
        have hd : decide (64 < (l.length : Int)) = false := by simp; omega
        have HW := Lib.hid ha
        have HSS := Lib.hid (fun i (hi : i < l.length) => hs (by omega) _ (List.getElem_mem hi))
        have hl64 : l.length ≤ 64 := by omega
        generalize hch : ((chkBs n l : Nat) : Int) = ch
        have HCH := Lib.hid hch
        clear ha hs hch
        go_enter Tryz.func48, Tryz.ntmps48
        go_wp2
        go_loopw [5] (fun iv wr => ∃ i : Nat, iv = .int .i64 (i : Int) ∧ i ≤ l.length ∧ Hid (chkBs n l = chkBs n (l.drop i)) ∧ Below w.heap.size w wr) (fun iv _ => l.length - (intOf iv).toNat)
        case atStart => exact ⟨0, rfl, by omega, (rfl : chkBs n l = chkBs n (l.drop 0)), Below.refl _ _⟩
        case round =>
          obtain ⟨i, rfl, hi, hk, hbw⟩ := hrel
          by_cases hlt : i < l.length
          · obtain ⟨b1, o1, rfl, hw⟩ := HW.out.row i hlt
            have hwr := hw.below' hbw
            obtain ⟨u, cu, hu, hsh⟩ := hwr.row i hlt
            have cm := hwr.most i hlt
            have hk2 := hk.out
            rw [chkBs_drop n l i hlt] at hk2
            obtain ⟨s1, s2, s3⟩ := HSS.out i hlt
            have hi0 : (0 : Int) ≤ (i : Int) := by omega
            have his : (i : Int) < (l.length : Int) := by omega
            have HBL := Lib.hid hwr.lt
            clear hk hwr hw
            generalize l[i] = x at *
            obtain ⟨xr, xm⟩ := x
            simp only at cm hu s1 s2 s3
            obtain ⟨W, hW⟩ : ∃ z, z = wr := ⟨wr, rfl⟩
            subst hW
            have HCX := Lib.hid (fun E (hE : Below W.heap.size W E) => And.intro ((hE.cell (p := ⟨b1, o1 + i * 2, none⟩) (by exact HBL.out)).trans cu) ((hE.cell (p := ⟨b1, o1 + i * 2 + 1, none⟩) (by exact HBL.out)).trans cm))
            have HS1 := Lib.hid (fun E (hE : Below W.heap.size W E) => SrcT.of (hu.below hE) hsh)
            have HNU := Lib.hid (fun v W2 (hv : RdT W2 v (xr ++ [xm])) => rnumbers v (xr ++ [xm]) W2 hv (fun q hq => (List.mem_append.1 hq).elim (s2 q) (fun h => by rw [List.mem_singleton.1 h]; exact s3)) (by rw [List.length_append]; simp; omega))
            obtain ⟨Au, cpu, rfl⟩ := hu.len
            clear hu s2 s3
            by_cases hln : (xr.length : Int) = n
            · have hdn : ((xr.length : Int) != n) = false := by simp; exact hln
              rw [show chkB1 n (xr, xm) = chkRs (xr ++ [xm]) by unfold chkB1; rw [if_neg (by simpa using hln)]] at hk2
              have HK := Lib.hid hk2
              clear hk2
              have HSZ := Lib.hid (show W.heap.size + 1 ≤ ((W.alloc (Obj.cells #[.string (bs xm)] 29 (0, 0))).alloc (Obj.cells #[] 29 (0, 0))).drew.heap.size ∧ True from ⟨by show W.heap.size + 1 ≤ ((W.alloc (Obj.cells #[.string (bs xm)] 29 (0, 0))).alloc (Obj.cells #[] 29 (0, 0))).heap.size; rw [World.size_alloc, World.size_alloc]; omega, trivial⟩)
              have HNE := Lib.hid (show some W.heap.size ≠ (Value.slice (some ⟨W.heap.size + 1, 0, none⟩) 0 0).ownBlock ∧ some (W.heap.size + 1) ≠ (Value.slice (some ⟨W.heap.size, 0, none⟩) 0 0).ownBlock from ⟨by simp [Value.ownBlock], by simp [Value.ownBlock]⟩)
              have HLN : Hid ((0 : Nat) + xr.length ≤ 1000000000 ∧ xr.length + 1 ≤ 1000000000) := Lib.hid (by omega)


              have HHB := Lib.hid hbw
              by_cases hc : chkRs (xr ++ [xm]) = 0
              · rw [hc] at HNU
                have HK2 := Lib.hid (show chkBs n l = chkBs n (l.drop (i + 1)) by rw [HK.out, if_pos hc])
                clear HK hc
                go_wp2_with fail
                go_region_held3 (fun E => E.cell? ⟨b1, o1 + i * 2, none⟩ = some (.slice Au xr.length cpu) ∧ E.cell? ⟨b1, o1 + i * 2 + 1, none⟩ = some (.string (bs xm)))
                  (first | exact HCX.out _ HF.out | exact HCX.out _ HA2.out.2 | exact HCX.out _ (HA1.out.2.alloc HA1.out.2.size _) | exact HCX.out _ HA1.out.2 | exact HCX.out _ (Below.refl _ _) | exact HCX.out _ (RowKit.Below.drew (Below.refl W.heap.size W)) | exact HCX.out _ (RowKit.Below.drew ((Below.refl W.heap.size W).alloc (Nat.le_refl _) _)) | exact HCX.out _ (RowKit.Below.drew (((Below.refl W.heap.size W).alloc (Nat.le_refl _) (Obj.cells #[.string (bs xm)] 29 (0, 0))).alloc ((Below.refl W.heap.size W).alloc (Nat.le_refl _) (Obj.cells #[.string (bs xm)] 29 (0, 0))).size (Obj.cells #[] 29 (0, 0)))) | exact HCX.out _ (RowKit.Below.drew (((Below.refl W.heap.size W).alloc (Nat.le_refl _) (Obj.cells #[] 29 (0, 0))).alloc ((Below.refl W.heap.size W).alloc (Nat.le_refl _) (Obj.cells #[] 29 (0, 0))).size (Obj.cells #[.string (bs xm)] 29 (0, 0)))))
                  (first
                  | (refine step_app_t (v := .slice (some ⟨W.heap.size, 0, none⟩) 0 0) rfl (.tmp 30) (.tmp 35) rfl rfl rfl ((OwnS.fresh W W.heap.size W.heap.size rfl (Nat.le_refl _)).drew) (HS1.out _ (RowKit.Below.drew ((Below.refl W.heap.size W).alloc (Nat.le_refl _) (Obj.cells #[] 29 (0, 0))))) (RowKit.Below.drew ((Below.refl W.heap.size W).alloc (Nat.le_refl _) (Obj.cells #[] 29 (0, 0)))).size HLN.out.1 ?_; intro v1 w1 ho1 hg1; have HA1 := Lib.hid (show ApS W w1 v1 xr from ⟨ho1, app_belS ((OwnS.fresh W W.heap.size W.heap.size rfl (Nat.le_refl _)).drew) (RowKit.Below.drew ((Below.refl W.heap.size W).alloc (Nat.le_refl _) (Obj.cells #[] 29 (0, 0)))) (Nat.le_refl _) hg1⟩))
                  | (refine step_app_t (v := .slice (some ⟨W.heap.size + 1, 0, none⟩) 0 0) rfl (.tmp 30) (.tmp 35) rfl rfl rfl ((OwnS.fresh (W.alloc (Obj.cells #[.string (bs xm)] 29 (0, 0))) (W.heap.size + 1) (W.heap.size + 1) (World.size_alloc _ _).symm (Nat.le_refl _)).drew) (HS1.out _ (RowKit.Below.drew (((Below.refl W.heap.size W).alloc (Nat.le_refl _) (Obj.cells #[.string (bs xm)] 29 (0, 0))).alloc ((Below.refl W.heap.size W).alloc (Nat.le_refl _) (Obj.cells #[.string (bs xm)] 29 (0, 0))).size (Obj.cells #[] 29 (0, 0))))) HSZ.out.1 HLN.out.1 ?_; intro v1 w1 ho1 hg1; have HA1 := Lib.hid (show ApS W w1 v1 xr from ⟨ownsRow_base ho1 (Nat.le_succ _), app_belS ((OwnS.fresh (W.alloc (Obj.cells #[.string (bs xm)] 29 (0, 0))) (W.heap.size + 1) (W.heap.size + 1) (World.size_alloc _ _).symm (Nat.le_refl _)).drew) (RowKit.Below.drew (((Below.refl W.heap.size W).alloc (Nat.le_refl _) (Obj.cells #[.string (bs xm)] 29 (0, 0))).alloc ((Below.refl W.heap.size W).alloc (Nat.le_refl _) (Obj.cells #[.string (bs xm)] 29 (0, 0))).size (Obj.cells #[] 29 (0, 0)))) (Nat.le_succ _) hg1⟩); have HXR := Lib.hid (SrcT.row (row_grown (show Row ((W.alloc (Obj.cells #[.string (bs xm)] 29 (0, 0))).alloc (Obj.cells #[] 29 (0, 0))).drew W.heap.size 29 [.string (bs xm)] from Row.alloc rnw _) hg1 HNE.out.1)))
                  | (refine step_app_t (v := .slice (some ⟨W.heap.size, 0, none⟩) 0 0) rfl (.tmp 30) (.tmp 35) rfl rfl rfl ((OwnS.alloc (OwnS.fresh W W.heap.size W.heap.size rfl (Nat.le_refl _)) (Obj.cells #[.string (bs xm)] 29 (0, 0))).drew) (HS1.out _ (RowKit.Below.drew (((Below.refl W.heap.size W).alloc (Nat.le_refl _) (Obj.cells #[] 29 (0, 0))).alloc ((Below.refl W.heap.size W).alloc (Nat.le_refl _) (Obj.cells #[] 29 (0, 0))).size (Obj.cells #[.string (bs xm)] 29 (0, 0))))) (RowKit.Below.drew (((Below.refl W.heap.size W).alloc (Nat.le_refl _) (Obj.cells #[] 29 (0, 0))).alloc ((Below.refl W.heap.size W).alloc (Nat.le_refl _) (Obj.cells #[] 29 (0, 0))).size (Obj.cells #[.string (bs xm)] 29 (0, 0)))).size HLN.out.1 ?_; intro v1 w1 ho1 hg1; have HA1 := Lib.hid (show ApS W w1 v1 xr from ⟨ho1, app_belS ((OwnS.alloc (OwnS.fresh W W.heap.size W.heap.size rfl (Nat.le_refl _)) (Obj.cells #[.string (bs xm)] 29 (0, 0))).drew) (RowKit.Below.drew (((Below.refl W.heap.size W).alloc (Nat.le_refl _) (Obj.cells #[] 29 (0, 0))).alloc ((Below.refl W.heap.size W).alloc (Nat.le_refl _) (Obj.cells #[] 29 (0, 0))).size (Obj.cells #[.string (bs xm)] 29 (0, 0)))) (Nat.le_refl _) hg1⟩); have HXR := Lib.hid (SrcT.row (row_grown (show Row ((W.alloc (Obj.cells #[] 29 (0, 0))).alloc (Obj.cells #[.string (bs xm)] 29 (0, 0))).drew (W.heap.size + 1) 29 [.string (bs xm)] from rnew0 (World.size_alloc _ _).symm) hg1 HNE.out.2)))
                  | (refine step_app_t rfl (.tmp 36) (.tmp 42) rfl rfl rfl HA1.out.1 HXR.out HA1.out.2.size HLN.out.2 ?_; intro v2 w2 ho2 hg2; have HA2 := Lib.hid (show ApS W w2 v2 (xr ++ [xm]) from ⟨ho2, app_belS HA1.out.1 HA1.out.2 (Nat.le_refl _) hg2⟩))
                  | (refine step_app_t rfl (.tmp 36) (.tmp 42) rfl rfl rfl (OwnS.alloc HA1.out.1 _) (SrcT.new w1 xm) (HA1.out.2.alloc HA1.out.2.size _).size HLN.out.2 ?_; intro v2 w2 ho2 hg2; have HA2 := Lib.hid (show ApS W w2 v2 (xr ++ [xm]) from ⟨ho2, app_belS (OwnS.alloc HA1.out.1 _) (HA1.out.2.alloc HA1.out.2.size _) (Nat.le_refl _) hg2⟩))
                  | (go_at_call 11; refine (HNU.out v2 w2 HA2.out.1.rd).mono ?_; rintro e w3 ⟨rfl, hb3⟩; have HF := Lib.hid (HA2.out.2.trans (hb3.mono HA2.out.2.size))))
                all_goals
                  have HBE := Lib.hid (bel_to HHB.out HF.out)
                  clear HF HA1 HA2 HCX HS1 HNU HSZ HNE HLN hb3
                  go_wp2
                  go_roundw
                  case rel => exact ⟨i + 1, by go_num, by omega, HK2, HBE.out⟩
                  case measure => simp [intOf]; omega
              · have hz : (((chkRs (xr ++ [xm]) : Nat) : Int) != 0) = true := by simp; exact hc
                have HK2 := Lib.hid (show chkBs n l = chkRs (xr ++ [xm]) by rw [HK.out, if_neg hc])
                generalize hcc : ((chkRs (xr ++ [xm]) : Nat) : Int) = c at *
                have HCC := Lib.hid hcc
                clear HK hc hcc
                go_wp2_with fail
                go_region_held3 (fun E => E.cell? ⟨b1, o1 + i * 2, none⟩ = some (.slice Au xr.length cpu) ∧ E.cell? ⟨b1, o1 + i * 2 + 1, none⟩ = some (.string (bs xm)))
                  (first | exact HCX.out _ HF.out | exact HCX.out _ HA2.out.2 | exact HCX.out _ (HA1.out.2.alloc HA1.out.2.size _) | exact HCX.out _ HA1.out.2 | exact HCX.out _ (Below.refl _ _) | exact HCX.out _ (RowKit.Below.drew (Below.refl W.heap.size W)) | exact HCX.out _ (RowKit.Below.drew ((Below.refl W.heap.size W).alloc (Nat.le_refl _) _)) | exact HCX.out _ (RowKit.Below.drew (((Below.refl W.heap.size W).alloc (Nat.le_refl _) (Obj.cells #[.string (bs xm)] 29 (0, 0))).alloc ((Below.refl W.heap.size W).alloc (Nat.le_refl _) (Obj.cells #[.string (bs xm)] 29 (0, 0))).size (Obj.cells #[] 29 (0, 0)))) | exact HCX.out _ (RowKit.Below.drew (((Below.refl W.heap.size W).alloc (Nat.le_refl _) (Obj.cells #[] 29 (0, 0))).alloc ((Below.refl W.heap.size W).alloc (Nat.le_refl _) (Obj.cells #[] 29 (0, 0))).size (Obj.cells #[.string (bs xm)] 29 (0, 0)))))
                  (first
                  | (refine step_app_t (v := .slice (some ⟨W.heap.size, 0, none⟩) 0 0) rfl (.tmp 30) (.tmp 35) rfl rfl rfl ((OwnS.fresh W W.heap.size W.heap.size rfl (Nat.le_refl _)).drew) (HS1.out _ (RowKit.Below.drew ((Below.refl W.heap.size W).alloc (Nat.le_refl _) (Obj.cells #[] 29 (0, 0))))) (RowKit.Below.drew ((Below.refl W.heap.size W).alloc (Nat.le_refl _) (Obj.cells #[] 29 (0, 0)))).size HLN.out.1 ?_; intro v1 w1 ho1 hg1; have HA1 := Lib.hid (show ApS W w1 v1 xr from ⟨ho1, app_belS ((OwnS.fresh W W.heap.size W.heap.size rfl (Nat.le_refl _)).drew) (RowKit.Below.drew ((Below.refl W.heap.size W).alloc (Nat.le_refl _) (Obj.cells #[] 29 (0, 0)))) (Nat.le_refl _) hg1⟩))
                  | (refine step_app_t (v := .slice (some ⟨W.heap.size + 1, 0, none⟩) 0 0) rfl (.tmp 30) (.tmp 35) rfl rfl rfl ((OwnS.fresh (W.alloc (Obj.cells #[.string (bs xm)] 29 (0, 0))) (W.heap.size + 1) (W.heap.size + 1) (World.size_alloc _ _).symm (Nat.le_refl _)).drew) (HS1.out _ (RowKit.Below.drew (((Below.refl W.heap.size W).alloc (Nat.le_refl _) (Obj.cells #[.string (bs xm)] 29 (0, 0))).alloc ((Below.refl W.heap.size W).alloc (Nat.le_refl _) (Obj.cells #[.string (bs xm)] 29 (0, 0))).size (Obj.cells #[] 29 (0, 0))))) HSZ.out.1 HLN.out.1 ?_; intro v1 w1 ho1 hg1; have HA1 := Lib.hid (show ApS W w1 v1 xr from ⟨ownsRow_base ho1 (Nat.le_succ _), app_belS ((OwnS.fresh (W.alloc (Obj.cells #[.string (bs xm)] 29 (0, 0))) (W.heap.size + 1) (W.heap.size + 1) (World.size_alloc _ _).symm (Nat.le_refl _)).drew) (RowKit.Below.drew (((Below.refl W.heap.size W).alloc (Nat.le_refl _) (Obj.cells #[.string (bs xm)] 29 (0, 0))).alloc ((Below.refl W.heap.size W).alloc (Nat.le_refl _) (Obj.cells #[.string (bs xm)] 29 (0, 0))).size (Obj.cells #[] 29 (0, 0)))) (Nat.le_succ _) hg1⟩); have HXR := Lib.hid (SrcT.row (row_grown (show Row ((W.alloc (Obj.cells #[.string (bs xm)] 29 (0, 0))).alloc (Obj.cells #[] 29 (0, 0))).drew W.heap.size 29 [.string (bs xm)] from Row.alloc rnw _) hg1 HNE.out.1)))
                  | (refine step_app_t (v := .slice (some ⟨W.heap.size, 0, none⟩) 0 0) rfl (.tmp 30) (.tmp 35) rfl rfl rfl ((OwnS.alloc (OwnS.fresh W W.heap.size W.heap.size rfl (Nat.le_refl _)) (Obj.cells #[.string (bs xm)] 29 (0, 0))).drew) (HS1.out _ (RowKit.Below.drew (((Below.refl W.heap.size W).alloc (Nat.le_refl _) (Obj.cells #[] 29 (0, 0))).alloc ((Below.refl W.heap.size W).alloc (Nat.le_refl _) (Obj.cells #[] 29 (0, 0))).size (Obj.cells #[.string (bs xm)] 29 (0, 0))))) (RowKit.Below.drew (((Below.refl W.heap.size W).alloc (Nat.le_refl _) (Obj.cells #[] 29 (0, 0))).alloc ((Below.refl W.heap.size W).alloc (Nat.le_refl _) (Obj.cells #[] 29 (0, 0))).size (Obj.cells #[.string (bs xm)] 29 (0, 0)))).size HLN.out.1 ?_; intro v1 w1 ho1 hg1; have HA1 := Lib.hid (show ApS W w1 v1 xr from ⟨ho1, app_belS ((OwnS.alloc (OwnS.fresh W W.heap.size W.heap.size rfl (Nat.le_refl _)) (Obj.cells #[.string (bs xm)] 29 (0, 0))).drew) (RowKit.Below.drew (((Below.refl W.heap.size W).alloc (Nat.le_refl _) (Obj.cells #[] 29 (0, 0))).alloc ((Below.refl W.heap.size W).alloc (Nat.le_refl _) (Obj.cells #[] 29 (0, 0))).size (Obj.cells #[.string (bs xm)] 29 (0, 0)))) (Nat.le_refl _) hg1⟩); have HXR := Lib.hid (SrcT.row (row_grown (show Row ((W.alloc (Obj.cells #[] 29 (0, 0))).alloc (Obj.cells #[.string (bs xm)] 29 (0, 0))).drew (W.heap.size + 1) 29 [.string (bs xm)] from rnew0 (World.size_alloc _ _).symm) hg1 HNE.out.2)))
                  | (refine step_app_t rfl (.tmp 36) (.tmp 42) rfl rfl rfl HA1.out.1 HXR.out HA1.out.2.size HLN.out.2 ?_; intro v2 w2 ho2 hg2; have HA2 := Lib.hid (show ApS W w2 v2 (xr ++ [xm]) from ⟨ho2, app_belS HA1.out.1 HA1.out.2 (Nat.le_refl _) hg2⟩))
                  | (refine step_app_t rfl (.tmp 36) (.tmp 42) rfl rfl rfl (OwnS.alloc HA1.out.1 _) (SrcT.new w1 xm) (HA1.out.2.alloc HA1.out.2.size _).size HLN.out.2 ?_; intro v2 w2 ho2 hg2; have HA2 := Lib.hid (show ApS W w2 v2 (xr ++ [xm]) from ⟨ho2, app_belS (OwnS.alloc HA1.out.1 _) (HA1.out.2.alloc HA1.out.2.size _) (Nat.le_refl _) hg2⟩))
                  | (go_at_call 11; refine (HNU.out v2 w2 HA2.out.1.rd).mono ?_; rintro e w3 ⟨rfl, hb3⟩; have HF := Lib.hid (HA2.out.2.trans (hb3.mono HA2.out.2.size))))
                all_goals
                  have HBE := Lib.hid (bel_to HHB.out HF.out)
                  clear HF HA1 HA2 HCX HS1 HNU HSZ HNE HLN hb3
                  go_wp2
                  go_ret
                  exact Ret.of (by rw [← HCH.out, HK2.out, HCC.out]; rfl) HBE.out
            · have hdn : ((xr.length : Int) != n) = true := by simp; exact hln
              rw [show chkB1 n (xr, xm) = 8 by unfold chkB1; rw [if_pos (by simpa using hln)], if_neg (by decide)] at hk2
              have HK := Lib.hid hk2
              clear hk2 HNU HS1 HCX
              go_wp2
              go_ret
              exact Ret.of (by rw [← HCH.out, HK.out]; rfl) hbw
          · obtain rfl : i = l.length := by omega
            have hk2 := hk.out
            rw [List.drop_length] at hk2
            have HK := Lib.hid hk2
            clear hk2 hk
            go_wp2
            go_ret
            exact Ret.of (by rw [← HCH.out, HK.out]; rfl) hbw
end W
end Go.Proofs.YtijpgddpejiohaaGreatDoor
end
section
namespace Go.Proofs.YtijpgddpejiohaaGreatDoor
open Go Go.RowKit Go.Deep Go.Sort
namespace M
/-- The texts of numbers. -/
def rx (l : List Rat) : List (List UInt8) := l.map R
theorem rx_len (l : List Rat) : (rx l).length = l.length := by simp [rx]
theorem rx_get (l : List Rat) (i : Nat) (h : i < l.length) : (rx l)[i]'(by rw [rx_len]; exact h) = R l[i] := by simp [rx]
/-- The sum of the first products. -/
def dotP (a b : List Rat) : Nat → Rat
  | 0 => 0
  | i + 1 => dotP a b i + nth a i * nth b i
theorem nth_get (l : List Rat) (i : Nat) (h : i < l.length) : nth l i = l[i] := by unfold nth; simp [h]
theorem Bq_nil : Bq 1 (0 : Rat) := by unfold Bq; decide +kernel
theorem dotP_bq {a b : List Rat} {e e2 : Nat} (ha : ∀ x ∈ a, Bq e x) (hb : ∀ x ∈ b, Bq e2 x) : ∀ i, i ≤ a.length → i ≤ b.length → Bq ((e + e2 + 1) * i + 1) (dotP a b i)
  | 0, _, _ => Bq_nil
  | i + 1, h1, h2 => by
    have ih := dotP_bq ha hb i (by omega) (by omega)
    unfold dotP
    rw [nth_get a i (by omega), nth_get b i (by omega)]
    have := ih.add ((ha _ (List.getElem_mem (show i < a.length by omega))).mul (hb _ (List.getElem_mem (show i < b.length by omega))))
    refine this.mono ?_
    rw [Nat.mul_succ]; omega
end M
namespace W
open M
attribute [local go_sem] bs_size bs_toList bs_get bs_extract bs_append bs_lit0 bs_lit1 lit1_bs
set_option maxHeartbeats 1000000
set_option maxRecDepth 20000
theorem rdot (va vb : Value) (a b : List Rat) (e : Nat) (w : World) (ha : RdT w va (rx a)) (hb : RdT w vb (rx b)) (hab : a.length ≤ b.length) (hn : (e + e + 1) * a.length + 1 ≤ 800) (ea : ∀ x ∈ a, Bq e x) (eb : ∀ x ∈ b, Bq e x) (he1 : 1 ≤ e) (he2 : e ≤ 300) :
    Calls Tryz.prog 60 #[va, vb] w (Ret w (.string (bs (R (dotP a b a.length))))) := by
  obtain ⟨A, ca, rfl⟩ := ha.len
  obtain ⟨B, cb, rfl⟩ := hb.len
  have HA := Lib.hid ha
  have HB := Lib.hid hb
  have HD := Lib.hid (fun i (hi : i ≤ a.length) => dotP_bq ea eb i hi (by omega))
  have HT := Lib.hid (fun i (hi : i < a.length) W => timesR a[i] (b[i]'(by omega)) W ((ea _ (List.getElem_mem hi)).sh he1 (by omega)) ((eb _ (List.getElem_mem (by omega))).sh he1 (by omega)))
  have HP := Lib.hid (fun i (hi : i < a.length) W => plus_R (dotP a b i) (a[i] * b[i]'(by omega)) W ((HD.out i (by omega)).sh (by omega) (by
    have : (e + e + 1) * i ≤ (e + e + 1) * a.length := Nat.mul_le_mul_left _ (by omega)
    omega)) (((ea _ (List.getElem_mem hi)).mul (eb _ (List.getElem_mem (show i < b.length by omega)))).sh (by omega) (by omega)))
  have HS := Lib.hid (fun i (hi : i < a.length) => (show dotP a b (i + 1) = dotP a b i + a[i] * b[i]'(by omega) by
    show dotP a b i + nth a i * nth b i = _
    rw [nth_get a i hi, nth_get b i (by omega)]))
  have han : a.length ≤ 800 := by
    have : 1 * a.length ≤ (e + e + 1) * a.length := Nat.mul_le_mul_right _ (by omega)
    omega
  rw [rx_len a] at HA ⊢
  rw [rx_len b] at HB ⊢
  clear ha hb ea eb HD hn
  go_enter Tryz.func60, Tryz.ntmps60
  go_wp2
  go_loopw [5, 6] (fun sv iv wr => ∃ i : Nat, iv = .int .i64 (i : Int) ∧ i ≤ a.length ∧ sv = .string (bs (R (dotP a b i))) ∧ Below w.heap.size w wr) (fun _ iv _ => a.length - (intOf iv).toNat)
  case atStart => exact ⟨0, rfl, by omega, by rw [show dotP a b 0 = 0 from rfl, R_nil]; rfl, Below.refl _ _⟩
  case round =>
    obtain ⟨i, rfl, hi, rfl, hbw⟩ := hrel
    by_cases hlt : i < a.length
    · have ha2 := HA.out
      rw [← rx_len a] at ha2
      have hb2 := HB.out
      rw [← rx_len b] at hb2
      obtain ⟨b1, o1, rfl, hw1⟩ := ha2.row i (by rw [rx_len]; exact hlt)
      obtain ⟨b2, o2, rfl, hw2⟩ := hb2.row i (by rw [rx_len]; omega)
      have c0 := (hw1.below' hbw).val i (by rw [rx_len]; exact hlt)
      have c1 := (hw2.below' hbw).val i (by rw [rx_len]; omega)
      rw [rx_get a i hlt] at c0
      rw [rx_get b i (by omega)] at c1
      have k1 := reg_of (w := wr) (fun W _ => HT.out i hlt W)
      have k2 := reg_of (w := wr) (fun W _ => HP.out i hlt W)
      rw [← HS.out i hlt] at k2
      have m0 := cell_regrown c0
      have m1 := cell_regrown c1
      have e1 : ∀ args w, (callFunc 14 args).run Tryz.prog w = .ok (.enter 14 args) w := enters_of Tryz.func14 (by kernel_rfl) rfl
      have e2 : ∀ args w, (callFunc 15 args).run Tryz.prog w = .ok (.enter 15 args) w := enters_of Tryz.func15 (by kernel_rfl) rfl
      have hi0 : (0 : Int) ≤ (i : Int) := by omega
      have his : (i : Int) < (a.length : Int) := by omega
      have hjs : (i : Int) < (b.length : Int) := by omega
      clear ha2 hb2 hw1 hw2 c0 c1
      generalize hs2 : R (dotP a b (i + 1)) = s2 at *
      have HS2 := Lib.hid hs2
      clear hs2
      go_wp2_with fail
      refine wp_region_quiet_below (by kernel_rfl) (by kernel_rfl) ?_
      repeat (go_big_quiet_step (fail))
      go_big_quiet_step (exact k1 _ _)
      repeat (go_big_quiet_step (fail))
      go_big_quiet_step (exact k2 _ _)
      repeat (go_big_quiet_step (fail))
      refine wpQuiet_nil ?_
      intro W6 hw'
      have hb6 : Below wr.heap.size wr W6 := by obtain ⟨p, e⟩ := hw'; rw [e]; exact below_regrown wr p.d p.os
      have HB6 := Lib.hid (bel_to hbw hb6)
      clear k1 k2 m0 m1 e1 e2 hw' hb6
      go_wp2
      go_roundw
      case rel => exact ⟨i + 1, by go_num, hlt, by rw [HS2.out], HB6.out⟩
      case measure => simp [intOf]; omega
    · obtain rfl : i = a.length := by omega
      clear HT HP HS
      go_wp2
      go_ret
      exact Ret.of rfl hbw
theorem pdot (S : Nat) (va vb : Value) (a b : List Rat) (e e2 : Nat) (w : World) (hg : Glob w) (hs : NoErP w S) (ha : RdT w va (rx a)) (hb : RdT w vb (rx b)) (hab : a.length ≤ b.length) (hn : (e + e2 + 1) * a.length + 1 ≤ 1000) (ea : ∀ x ∈ a, Bq e x) (eb : ∀ x ∈ b, Bq e2 x) (he2 : e + e2 ≤ 1000) :
    Calls Tryz.prog 71 #[.pointer (some ⟨S, 0, none⟩), va, vb] w (Ret w (.string (bs (R (dotP a b a.length))))) := by
  obtain ⟨A, ca, rfl⟩ := ha.len
  obtain ⟨B, cb, rfl⟩ := hb.len
  have HA := Lib.hid ha
  have HB := Lib.hid hb
  have HD := Lib.hid (fun i (hi : i ≤ a.length) => dotP_bq ea eb i hi (by omega))
  have HT := Lib.hid (fun i (hi : i < a.length) W (hW : Below w.heap.size w W) => ratMul a[i] (b[i]'(by omega)) e e2 W (hg.of hW) (ea _ (List.getElem_mem hi)) (eb _ (List.getElem_mem (by omega))) (by omega))
  have HP := Lib.hid (fun i (hi : i < a.length) W (hW : Below w.heap.size w W) => ratAdd (dotP a b i) (a[i] * b[i]'(by omega)) ((e + e2 + 1) * i + 1) (e + e2) W (hg.of hW) (HD.out i (by omega)) ((ea _ (List.getElem_mem hi)).mul (eb _ (List.getElem_mem (show i < b.length by omega)))) (by
    have h1 : (e + e2 + 1) * (i + 1) ≤ (e + e2 + 1) * a.length := Nat.mul_le_mul_left _ hi
    rw [Nat.mul_succ] at h1
    omega))
  have HO := Lib.hid (fun s W (hW : Below w.heap.size w W) => psof S s W (hs.below' hW))
  have HS := Lib.hid (fun i (hi : i < a.length) => (show dotP a b (i + 1) = dotP a b i + a[i] * b[i]'(by omega) by
    show dotP a b i + nth a i * nth b i = _
    rw [nth_get a i hi, nth_get b i (by omega)]))
  have han : a.length ≤ 1000 := by
    have : 1 * a.length ≤ (e + e2 + 1) * a.length := Nat.mul_le_mul_right _ (by omega)
    omega
  rw [rx_len a] at HA ⊢
  rw [rx_len b] at HB ⊢
  clear ha hb ea eb HD hn hs
  go_enter Tryz.func71, Tryz.ntmps71
  go_wp2
  go_loopw [7, 12] (fun sv iv wr => ∃ i : Nat, iv = .int .i64 (i : Int) ∧ i ≤ a.length ∧ sv = .string (bs (R (dotP a b i))) ∧ Below w.heap.size w wr) (fun _ iv _ => a.length - (intOf iv).toNat)
  case atStart => exact ⟨0, rfl, by omega, by rw [show dotP a b 0 = 0 from rfl, R_nil]; rfl, Below.refl _ _⟩
  case round =>
    obtain ⟨i, rfl, hi, rfl, hbw⟩ := hrel
    by_cases hlt : i < a.length
    · have ha2 := HA.out
      rw [← rx_len a] at ha2
      have hb2 := HB.out
      rw [← rx_len b] at hb2
      obtain ⟨b1, o1, rfl, hw1⟩ := ha2.row i (by rw [rx_len]; exact hlt)
      obtain ⟨b2, o2, rfl, hw2⟩ := hb2.row i (by rw [rx_len]; omega)
      have c0 := (hw1.below' hbw).val i (by rw [rx_len]; exact hlt)
      have c1 := (hw2.below' hbw).val i (by rw [rx_len]; omega)
      rw [rx_get a i hlt] at c0
      rw [rx_get b i (by omega)] at c1
      have HTI := Lib.hid (fun W hW => HT.out i hlt W hW)
      have HPI := Lib.hid (fun W hW => HP.out i hlt W hW)
      have hsi := HS.out i hlt
      have HL1 := Lib.hid (hw1.below' hbw).lt
      have HL2 := Lib.hid (hw2.below' hbw).lt
      clear ha2 hb2 hw1 hw2
      by_cases hx : a[i] = 0
      · have e1 := R_is0.2 hx
        have hs1 : dotP a b (i + 1) = dotP a b i := by rw [hsi, hx]; grind
        have HSS := Lib.hid hs1
        clear hsi hs1 HTI HPI hx
        generalize R a[i] = sx at *
        subst e1
        go_wp2
        go_roundw
        case rel => exact ⟨i + 1, by go_num, hlt, by rw [HSS.out], hbw⟩
        case measure => simp [intOf]; omega
      · have nx : (R a[i] == [48]) = false := by rw [beq_eq_false_iff_ne]; exact fun h => hx (R_is0.1 h)
        by_cases hy : b[i]'(by omega) = 0
        · have e1 := R_is0.2 hy
          have hs1 : dotP a b (i + 1) = dotP a b i := by rw [hsi, hy]; grind
          have HSS := Lib.hid hs1
          clear hsi hs1 HTI HPI hy hx
          generalize R a[i] = sx at *
          generalize R (b[i]'(by omega)) = sy at *
          subst e1
          go_wp2
          go_roundw
          case rel => exact ⟨i + 1, by go_num, hlt, by rw [HSS.out], hbw⟩
          case measure => simp [intOf]; omega
        · have ny : (R (b[i]'(by omega)) == [48]) = false := by rw [beq_eq_false_iff_ne]; exact fun h => hy (R_is0.1 h)
          rw [← hsi] at HPI
          clear hsi hx hy
          generalize R a[i] = sx at *
          generalize R (b[i]'(by omega)) = sy at *
          generalize R (a[i] * b[i]'(by omega)) = sp at *
          generalize R (dotP a b i) = s1 at *
          generalize hs2 : R (dotP a b (i + 1)) = s2 at *
          have HS2 := Lib.hid hs2
          clear hs2
          go_wp2_with fail
          refine (HTI.out _ hbw).mono ?_
          rintro e w1 ⟨rfl, hb1⟩
          have h1 := bel_to hbw hb1
          clear hb1 HTI
          go_wp2_with fail
          refine (HO.out _ _ h1).mono ?_
          rintro e w2 ⟨rfl, hb2⟩
          have h2 := bel_to h1 hb2
          clear hb2 h1
          go_wp2_with fail
          refine (HPI.out _ h2).mono ?_
          rintro e w3 ⟨rfl, hb3⟩
          have h3 := bel_to h2 hb3
          clear hb3 h2 HPI
          go_wp2_with fail
          refine (HO.out _ _ h3).mono ?_
          rintro e w4 ⟨rfl, hb4⟩
          have h4 := bel_to h3 hb4
          clear hb4 h3
          go_wp2
          go_roundw
          case rel => exact ⟨i + 1, by go_num, hlt, by rw [HS2.out], h4⟩
          case measure => simp [intOf]; omega
    · obtain rfl : i = a.length := by omega
      clear HT HP HS
      go_wp2
      go_ret
      exact Ret.of rfl hbw
end W
end Go.Proofs.YtijpgddpejiohaaGreatDoor
end
