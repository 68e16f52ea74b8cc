/-
  Chapter 12 of the program: 'apart' of 'Contradiction'.
  Chapters 12 and 45 of the program: 'Contradiction'.
  Chapters 7 and 45: vectors of the reference, 'Contradiction' of shifts, lists of numbers that are equal.
  A drawn region as in XBw, with what is known of several slots at once (two blocks that are made are not the same).
  Chapter 46: PatternPairs.
  Chapter 46: arguments that are pairs of targets, or of circles.
  Top 23: the law TopPlatesPairs.
-/
import Derived.Test.YtellemlhhlafcaaGreatDoorKY
import Derived.Test.YtellemlhhlafcaaGreatDoorKS
import Derived.Test.YtellemlhhlafcaaGreatDoorKV
import Derived.Test.YtellemlhhlafcaaGreatDoorKAB
import Derived.Test.YtellemlhhlafcaaGreatDoorKQ
import Derived.BigRegion
import Derived.Test.YtellemlhhlafcaaGreatDoorKQF
import Derived.Test.YtellemlhhlafcaaGreatDoorKAE
section
namespace Go.Proofs.YtellemlhhlafcaaGreatDoor
open Go Go.RowKit Go.Deep Go.Sort
namespace W
open M
attribute [local go_sem] bs_size bs_toList bs_get bs_extract bs_append bs_lit0 bs_lit1 lit1_bs
set_option maxHeartbeats 1000000
set_option maxRecDepth 20000
theorem kapart (lb sb b : Nat) (vl va : Value) (l : List Dk) (ks : List Nat) (w : World) (hg : Glob w) (hs : NoErrD w b) (hb : Row w sb 151 [.pointer (some ⟨b, 0, none⟩)]) (hp : Row w lb 93 [vl]) (hl : RdK w vl l)
    (ha : RdI w va (ks.map fun (k : Nat) => (k : Int))) (hk : ∀ k ∈ ks, k < l.length) (hn : ks.length ≤ 3) (hS : ∀ d ∈ l, SmD d) :
    Calls Tryz.prog 71 #[va, .pointer (some ⟨lb, 0, none⟩), .pointer (some ⟨sb, 0, none⟩)] w (Ret w (.bool (!(firstD (ks.map (atD l))).isSome))) := by
  have hlm : (ks.map (atD l)).length = ks.length := List.length_map ..
  have HF := Lib.hid (fun v W (hW : Below w.heap.size w W) (hv : RdK W v (ks.map (atD l))) => kfirst v _ b W (hg.of hW) (hs.below' hW) hv (by omega) (fun d hd => by
    obtain ⟨k, hk2, rfl⟩ := List.mem_map.1 hd
    exact hS _ (by rw [atD, Sx.getD_get _ _ (hk k hk2)]; exact List.getElem_mem _)))
  have HTK := Lib.hid (fun i (hi : i < ks.length) => show (ks.map (atD l)).take (i + 1) = (ks.map (atD l)).take i ++ [atD l ks[i]] from by
    rw [List.take_succ_eq_append_getElem (by omega)]
    simp)
  have HFU : Hid ((ks.map (atD l)).take ks.length = ks.map (atD l)) := Lib.hid (List.take_of_length_le (by omega))
  have HLT := Lib.hid (fun i (hi : i ≤ ks.length) => show ((ks.map (atD l)).take i).length ≤ 3 from by rw [List.length_take]; omega)
  have HK := Lib.hid (fun i (hi : i < ks.length) => hk _ (List.getElem_mem hi))
  have HAT := Lib.hid (fun i (hi : i < ks.length) (hj : ks[i] < l.length) => show atD l ks[i] = l[ks[i]] from by rw [atD, Sx.getD_get _ _ hj])
  obtain ⟨A, cap, rfl⟩ := hl.len
  have HL := Lib.hid (And.intro hl (And.intro hp (And.intro hb hs)))
  have hal : ∃ A2 c2, va = .slice A2 ks.length c2 := by
    obtain ⟨A2, c2, e, _⟩ := ha
    rw [List.length_map] at e
    exact ⟨A2, c2, e⟩
  obtain ⟨A2, c2, rfl⟩ := hal
  have HA := Lib.hid ha
  have HKI := Lib.hid (fun i (hi : i < ks.length) => show i < (ks.map fun (k : Nat) => (k : Int)).length ∧ ∀ h, (ks.map fun (k : Nat) => (k : Int))[i]'h = (ks[i] : Int) from ⟨by rw [List.length_map]; exact hi, fun h => by simp⟩)
  clear hl hp hb hs ha hg hk hS hlm
  generalize ks.map (atD l) = dl at *
  go_enter Tryz.func71, Tryz.ntmps71
  go_wp2
  go_loopw [5, 12] (fun ov iv wr => ∃ (i : Nat) (vo : Value), iv = .int .i64 (i : Int) ∧ ov = vo ∧ i ≤ ks.length ∧ Hid (OwnK wr w.heap.size vo (dl.take i) ∧ Below w.heap.size w wr)) (fun _ iv _ => ks.length - (intOf iv).toNat)
  case atStart => exact ⟨0, _, rfl, rfl, by omega, Lib.hid ⟨by rw [List.take_zero]; exact OwnK.nil _ _, Below.refl _ _⟩⟩
  case round =>
    obtain ⟨i, vo, rfl, e4, hi, hk⟩ := hrel
    obtain ⟨VA, vn, vc, hv⟩ := hk.out.1.shape
    subst hv
    subst e4
    by_cases hlt : i < ks.length
    · obtain ⟨hi3, hi4⟩ := HKI.out i hlt
      have hkl := HK.out i hlt
      obtain ⟨b2, o2, rfl, _, hsa⟩ := HA.out.row i hi3
      have a0 := (hk.out.2.cell (block_lt_of_cell (hsa i hi3))).trans (hsa i hi3)
      rw [hi4] at a0
      obtain ⟨bl, ol, rfl, hsl⟩ := RdK.row (n := l.length) (HL.out.1.below hk.out.2) ks[i] hkl
      obtain ⟨v0, v1, v2⟩ := hsl.val ks[i] hkl
      rw [← HAT.out i hlt hkl] at v0 v1 v2
      have l0 := (HL.out.2.1.below' hk.out.2).cell (i := 0) rfl
      have hi0 : (0 : Int) ≤ (i : Int) := by omega
      have hi1 : (i : Int) < (ks.length : Int) := by omega
      have hj0 : (0 : Int) ≤ (ks[i] : Int) := by omega
      have hj1 : (ks[i] : Int) < (l.length : Int) := by omega
      have HTK1 := Lib.hid (HTK.out i hlt)
      have HLT1 := Lib.hid (HLT.out i (by omega))
      clear hsl hkl hi3 hi4 hsa
      generalize atD l ks[i] = dd at *
      generalize ks[i] = kk at *
      have HC := Lib.hid (fun j u hu => srcK_one wr dd j u hu wr.heap.size rfl)
      have hal := bel_al wr (.cells #[.string (bs (R dd.x)), .string (bs (R dd.y)), .string (bs (R dd.s))] 127 (0, 0))
      have H4 := Lib.hid (And.intro (hk.out.1.below hal) (bel_to hk.out.2 hal))
      have HSZ := Lib.hid (H4.out.2.size)
      clear hal hk
      go_wp2_with (at_builtin; refine wpList_app_OwnK (m := [dd]) rfl _ _ rfl rfl rfl rfl H4.out.1 HC.out HSZ.out (by have := HLT1.out; simp only [List.length_cons, List.length_nil]; omega) ?_; intro v2 w4 ho2 hg2)
      have HN := Lib.hid (And.intro (by rw [HTK1.out]; exact ho2 : OwnK w4 w.heap.size v2 (dl.take (i + 1))) (app_belOwnK H4.out.1 H4.out.2 (by omega) hg2))
      clear ho2 hg2 H4 HC HSZ
      go_wp2
      go_roundw
      case rel => exact ⟨i + 1, _, by go_num, rfl, by omega, HN⟩
      case measure => simp [intOf]; omega
    · obtain rfl : ks.length = i := by omega
      have hk2 := hk.out
      rw [HFU.out] at hk2
      have HK2 := Lib.hid hk2
      clear hk hk2 hlt
      obtain ⟨x, hx⟩ : ∃ x, x = (firstD dl).getD ⟨0, 0, 0⟩ := ⟨_, rfl⟩
      rw [← hx] at HF
      generalize (firstD dl).isSome = ok at *
      have s0 := (HL.out.2.2.1.below' HK2.out.2).cell (i := 0) rfl
      clear hx
      go_wp2_with fail
      refine (HF.out _ _ HK2.out.2 HK2.out.1.rd).mono ?_
      rintro e w5 ⟨rfl, hb5⟩
      have hb6 := bel_to (bel_to HK2.out.2 hb5) (bel_al w5 (.cells #[.int .i64 (x.i : Int), .int .i64 (x.j : Int), .int .i64 x.side] 42 (0, 0)))
      have s1 := (HL.out.2.2.1.below' hb6).cell (i := 0) rfl
      have s2 := (HL.out.2.2.2.below' hb6).cell
      have HB := Lib.hid hb6
      clear s0 hb5 hb6 HF HK2
      cases ok with
      | true =>
        go_wp2
        go_ret
        exact Ret.of rfl HB.out
      | false =>
        go_wp2
        go_ret
        exact Ret.of rfl HB.out
end W
end Go.Proofs.YtellemlhhlafcaaGreatDoor
end
section
namespace Go.Proofs.YtellemlhhlafcaaGreatDoor
open Go Go.RowKit Go.Deep Go.Sort
namespace M
def twoOk (l : List Dk) (i j : Nat) : Bool := (firstD [atD l i, atD l j]).isSome
def triOk (l : List Dk) (i j k : Nat) : Bool := (firstD [atD l i, atD l j, atD l k]).isSome
def ConD (l : List Dk) (ks : List Nat) : Prop :=
  (ks = [] ∧ (∀ i j, i < j → j < l.length → twoOk l i j = true) ∧ ∀ i j k, i < j → j < k → k < l.length → triOk l i j k = true) ∨
  (∃ i j, ks = [i, j] ∧ i < j ∧ j < l.length ∧ twoOk l i j = false) ∨
  ∃ i j k, ks = [i, j, k] ∧ i < j ∧ j < k ∧ k < l.length ∧ triOk l i j k = false
end M
theorem rdI_two (w : World) (i j : Nat) : RdI (w.alloc (.cells #[.int .i64 (i : Int), .int .i64 (j : Int)] 3 (0, 0))) (.slice (some ⟨w.heap.size, 0, none⟩) 2 2) (([i, j] : List Nat).map fun (k : Nat) => (k : Int)) := by
  have hr : Row (w.alloc (.cells #[.int .i64 (i : Int), .int .i64 (j : Int)] 3 (0, 0))) w.heap.size 3 [.int .i64 (i : Int), .int .i64 (j : Int)] := rnw
  refine ⟨some ⟨w.heap.size, 0, none⟩, 2, rfl, Or.inr ⟨w.heap.size, 0, rfl, hr.lt, fun k h => ?_⟩⟩
  have hk : k < 2 := h
  rcases (by omega : k = 0 ∨ k = 1) with rfl | rfl
  · exact hr.cell (i := 0) rfl
  · exact hr.cell (i := 1) rfl
theorem rdI_three (w : World) (i j k : Nat) : RdI (w.alloc (.cells #[.int .i64 (i : Int), .int .i64 (j : Int), .int .i64 (k : Int)] 3 (0, 0))) (.slice (some ⟨w.heap.size, 0, none⟩) 3 3) (([i, j, k] : List Nat).map fun (k : Nat) => (k : Int)) := by
  have hr : Row (w.alloc (.cells #[.int .i64 (i : Int), .int .i64 (j : Int), .int .i64 (k : Int)] 3 (0, 0))) w.heap.size 3 [.int .i64 (i : Int), .int .i64 (j : Int), .int .i64 (k : Int)] := rnw
  refine ⟨some ⟨w.heap.size, 0, none⟩, 3, rfl, Or.inr ⟨w.heap.size, 0, rfl, hr.lt, fun q h => ?_⟩⟩
  have hk : q < 3 := h
  rcases (by omega : q = 0 ∨ q = 1 ∨ q = 2) with rfl | rfl | rfl
  · exact hr.cell (i := 0) rfl
  · exact hr.cell (i := 1) rfl
  · exact hr.cell (i := 2) rfl
namespace W
open M
attribute [local go_sem] bs_size bs_toList bs_get bs_extract bs_append bs_lit0 bs_lit1 lit1_bs
set_option maxHeartbeats 1000000
set_option maxRecDepth 20000
def ConP (l : List Dk) (w : World) (e : Ending) (w' : World) : Prop := ∃ v ks, e = .returned (.tuple #[v, .int .i64 0]) ∧ ConD l ks ∧ RdI w' v (ks.map fun (k : Nat) => (k : Int)) ∧ Below w.heap.size w w'
theorem kcontra (vl : Value) (l : List Dk) (w : World) (hg : Glob w) (hl : RdK w vl l) (hn : l.length ≤ 64) (h0 : 0 < l.length) (hS : ∀ d ∈ l, SmD d) :
    Calls Tryz.prog 33 #[vl] w (ConP l w) := by
  have HLI := Lib.hid (fun W (hW : Below w.heap.size w W) => klist vl l W (hg.of hW) (hl.below hW) hn h0 hS)
  have HAP := Lib.hid (fun lb sb b va ks W (hW : Below w.heap.size w W) (h1 : NoErrD W b) (h2 : Row W sb 151 [.pointer (some ⟨b, 0, none⟩)]) (h3 : Row W lb 93 [vl]) (h4 : RdI W va (ks.map fun (k : Nat) => (k : Int))) (h5 : ∀ k ∈ ks, k < l.length) (h6 : ks.length ≤ 3) =>
    kapart lb sb b vl va l ks W (hg.of hW) h1 h2 h3 (hl.below hW) h4 h5 h6 hS)
  obtain ⟨A, cap, rfl⟩ := hl.len
  have HR := Lib.hid (And.intro (rnw (w := w) (t := 93) (xs := [.slice A l.length cap])) (bel_al w (.cells #[.slice A l.length cap] 93 (0, 0))))
  have HN := Lib.hid (And.intro hn h0)
  have l0 := HR.out.1.cell (i := 0) rfl
  have hmf : ∀ (fn : Fn) (first cap : Array Value) (w : World), (Instr.makeFunc fn first cap).run Tryz.prog w = .ok (.func fn first cap) w := fun _ _ _ _ => rfl
  have e1 : ∀ args w, (callFunc 71 args).run Tryz.prog w = .ok (.enter 71 args) w := enters_of Tryz.func71 (by kernel_rfl) rfl
  clear hg hl hS hn h0
  go_enter Tryz.func33, Tryz.ntmps33
  go_wp2_with fail
  refine (HLI.out _ HR.out.2).mono ?_
  rintro e w1 ⟨rfl, hb1⟩
  have H1 := Lib.hid (And.intro (HR.out.1.below' hb1) (bel_to HR.out.2 hb1))
  clear hb1 HR l0 HLI
  have l0 := H1.out.1.cell (i := 0) rfl
  have hal := bel_al2 w1 (.cells #[.int .i64 0] 153 (0, 0)) (.cells #[.pointer (some ⟨w1.heap.size, 0, none⟩)] 151 (0, 0))
  have hns : NoErrD ((w1.alloc (.cells #[.int .i64 0] 153 (0, 0))).alloc (.cells #[.pointer (some ⟨w1.heap.size, 0, none⟩)] 151 (0, 0))) w1.heap.size := rnw.alloc _
  have hsb : Row ((w1.alloc (.cells #[.int .i64 0] 153 (0, 0))).alloc (.cells #[.pointer (some ⟨w1.heap.size, 0, none⟩)] 151 (0, 0))) (w1.heap.size + 1) 151 [.pointer (some ⟨w1.heap.size, 0, none⟩)] := rnew0 (World.size_alloc _ _).symm
  have H2 := Lib.hid (And.intro (H1.out.1.below' hal) (And.intro (bel_to H1.out.2 hal) (And.intro hns hsb)))
  have l1 := H2.out.1.cell (i := 0) rfl
  clear hal hns hsb l0 H1
  go_wp2_with fail
  generalize (w1.alloc (.cells #[.int .i64 0] 153 (0, 0))).alloc (.cells #[.pointer (some ⟨w1.heap.size, 0, none⟩)] 151 (0, 0)) = V at *
  generalize w1.heap.size + 1 = sb at *
  generalize w1.heap.size = bb at *
  clear l1
  have HAV := Lib.hid (fun va ks W (hW : Below V.heap.size V W) (h4 : RdI W va (ks.map fun (k : Nat) => (k : Int))) (h5 : ∀ k ∈ ks, k < l.length) (h6 : ks.length ≤ 3) =>
    HAP.out w.heap.size sb bb va ks W (bel_to H2.out.2.1 hW) (H2.out.2.2.1.below' hW) (H2.out.2.2.2.below' hW) (H2.out.1.below' hW) h4 h5 h6)
  clear HAP
  go_loopw [22] (fun iv wr => ∃ i : Nat, iv = .int .i64 (i : Int) ∧ i ≤ l.length ∧ Hid (Below V.heap.size V wr ∧ ∀ p q, p < i → p < q → q < l.length → twoOk l p q = true)) (fun iv _ => l.length - (intOf iv).toNat)
  case atStart => exact ⟨0, rfl, by omega, Lib.hid ⟨Below.refl _ _, fun p q h => by omega⟩⟩
  case round =>
    obtain ⟨i, rfl, hi, hk⟩ := hrel
    by_cases hlt : i < l.length
    · have h64 := HN.out.1
      have hi0 : (0 : Int) ≤ (i : Int) := by omega
      have hi1 : (i : Int) < (l.length : Int) := by omega
      have hwi : wrap64 ((i : Int) + 1) = (i : Int) + 1 := by unfold wrap64; omega
      have HI := Lib.hid hk.out
      clear hk
      go_wp2_with fail
      go_loopw [8] (fun jv wr => ∃ j : Nat, jv = .int .i64 (j : Int) ∧ i < j ∧ j ≤ l.length ∧ Hid (Below V.heap.size V wr ∧ ∀ q, i < q → q < j → twoOk l i q = true)) (fun jv _ => l.length - (intOf jv).toNat)
      case atStart => exact ⟨i + 1, by go_num, by omega, by omega, Lib.hid ⟨HI.out.1, fun q h1 h2 => by omega⟩⟩
      case round =>
        obtain ⟨j, rfl, hij, hj, hk⟩ := hrel
        have l2 := (H2.out.1.below' hk.out.1).cell (i := 0) rfl
        by_cases hjt : j < l.length
        · have hj0 : (0 : Int) ≤ (j : Int) := by omega
          have hj1 : (j : Int) < (l.length : Int) := by omega
          have hwj : wrap64 ((j : Int) + 1) = (j : Int) + 1 := by unfold wrap64; omega
          have hal := bel_al wr (.cells #[.int .i64 (i : Int), .int .i64 (j : Int)] 3 (0, 0))
          have HB := Lib.hid (And.intro (bel_to hk.out.1 hal) hk.out.2)
          obtain ⟨to, hto⟩ : ∃ to, to = twoOk l i j := ⟨_, rfl⟩
          have hc := HAV.out _ [i, j] _ HB.out.1 (rdI_two wr i j) (by simp; omega) (by simp)
          rw [show (firstD (([i, j] : List Nat).map (atD l))).isSome = to from hto.symm] at hc
          have HC := Lib.hid hc
          have HT := Lib.hid hto
          clear hc hto hal hk
          go_wp2_with fail
          refine (HC.out).mono ?_
          rintro e w5 ⟨rfl, hb5⟩
          have HB5 := Lib.hid (And.intro (bel_to HB.out.1 hb5) HB.out.2)
          clear hb5 HB HC
          cases to with
          | true =>
            go_wp2
            go_roundw
            case rel => exact ⟨j + 1, by go_num, by omega, by omega, Lib.hid ⟨HB5.out.1, fun q h1 h2 => by
              by_cases hq : q = j
              · rw [hq]; exact HT.out.symm
              · exact HB5.out.2 q h1 (by omega)⟩⟩
            case measure => simp [intOf]; omega
          | false =>
            go_wp2
            go_ret2
            exact ⟨_, [i, j], rfl, Or.inr (Or.inl ⟨i, j, rfl, hij, hjt, HT.out.symm⟩), rdI_two _ i j, bel_to H2.out.2.1 (bel_to HB5.out.1 (bel_al _ _))⟩
        · obtain rfl : j = l.length := by omega
          have HO := Lib.hid hk.out
          clear hk
          go_wp2
          go_roundw
          case rel => exact ⟨i + 1, by go_num, by omega, Lib.hid ⟨HO.out.1, fun p q h1 h2 h3 => by
            by_cases hp : p = i
            · rw [hp]; exact HO.out.2 q (by omega) h3
            · exact HI.out.2 p q (by omega) h2 h3⟩⟩
          case measure => simp [intOf]; omega
    · obtain rfl : i = l.length := by omega
      have HP := Lib.hid (fun p q (h1 : p < q) (h2 : q < l.length) => hk.out.2 p q (by omega) h1 h2)
      have HV := Lib.hid hk.out.1
      clear hk hlt
      have l2 := (H2.out.1.below' HV.out).cell (i := 0) rfl
      go_wp2_with fail
      clear l2
      rename_i V0
      go_loopw [44] (fun iv wr => ∃ i : Nat, iv = .int .i64 (i : Int) ∧ i ≤ l.length ∧ Hid (Below V.heap.size V wr ∧ ∀ p q r, p < i → p < q → q < r → r < l.length → triOk l p q r = true)) (fun iv _ => l.length - (intOf iv).toNat)
      case atStart => exact ⟨0, rfl, by omega, Lib.hid ⟨HV.out, fun p q r h => by omega⟩⟩
      case round =>
        obtain ⟨i, rfl, hi, hk⟩ := hrel
        by_cases hlt : i < l.length
        · have h64 := HN.out.1
          have hi0 : (0 : Int) ≤ (i : Int) := by omega
          have hi1 : (i : Int) < (l.length : Int) := by omega
          have hwi : wrap64 ((i : Int) + 1) = (i : Int) + 1 := by unfold wrap64; omega
          have HI := Lib.hid hk.out
          clear hk
          go_wp2_with fail
          go_loopw [10] (fun jv wr => ∃ j : Nat, jv = .int .i64 (j : Int) ∧ i < j ∧ j ≤ l.length ∧ Hid (Below V.heap.size V wr ∧ ∀ q r, i < q → q < j → q < r → r < l.length → triOk l i q r = true)) (fun jv _ => l.length - (intOf jv).toNat)
          case atStart => exact ⟨i + 1, by go_num, by omega, by omega, Lib.hid ⟨HI.out.1, fun q r h1 h2 => by omega⟩⟩
          case round =>
            obtain ⟨j, rfl, hij, hj, hk⟩ := hrel
            have l2 := (H2.out.1.below' hk.out.1).cell (i := 0) rfl
            by_cases hjt : j < l.length
            · have hj0 : (0 : Int) ≤ (j : Int) := by omega
              have hj1 : (j : Int) < (l.length : Int) := by omega
              have hwj : wrap64 ((j : Int) + 1) = (j : Int) + 1 := by unfold wrap64; omega
              have HJ := Lib.hid hk.out
              clear hk
              go_wp2_with fail
              clear l2
              go_loopw [11] (fun rv wr => ∃ r : Nat, rv = .int .i64 (r : Int) ∧ j < r ∧ r ≤ l.length ∧ Hid (Below V.heap.size V wr ∧ ∀ q, j < q → q < r → triOk l i j q = true)) (fun rv _ => l.length - (intOf rv).toNat)
              case atStart => exact ⟨j + 1, by go_num, by omega, by omega, Lib.hid ⟨HJ.out.1, fun q h1 h2 => by omega⟩⟩
              case round =>
                obtain ⟨r, rfl, hjr, hr, hk⟩ := hrel
                have l2 := (H2.out.1.below' hk.out.1).cell (i := 0) rfl
                by_cases hrt : r < l.length
                · have hr0 : (0 : Int) ≤ (r : Int) := by omega
                  have hr1 : (r : Int) < (l.length : Int) := by omega
                  have hwr : wrap64 ((r : Int) + 1) = (r : Int) + 1 := by unfold wrap64; omega
                  have hal := bel_al wr (.cells #[.int .i64 (i : Int), .int .i64 (j : Int), .int .i64 (r : Int)] 3 (0, 0))
                  have HB := Lib.hid (And.intro (bel_to hk.out.1 hal) hk.out.2)
                  obtain ⟨to, hto⟩ : ∃ to, to = triOk l i j r := ⟨_, rfl⟩
                  have hc := HAV.out _ [i, j, r] _ HB.out.1 (rdI_three wr i j r) (by simp; omega) (by simp)
                  rw [show (firstD (([i, j, r] : List Nat).map (atD l))).isSome = to from hto.symm] at hc
                  have HC := Lib.hid hc
                  have HT := Lib.hid hto
                  clear hc hto hal hk
                  go_wp2_with fail
                  refine (HC.out).mono ?_
                  rintro e w5 ⟨rfl, hb5⟩
                  have HB5 := Lib.hid (And.intro (bel_to HB.out.1 hb5) HB.out.2)
                  clear hb5 HB HC
                  cases to with
                  | true =>
                    go_wp2
                    go_roundw
                    case rel => exact ⟨r + 1, by go_num, by omega, by omega, Lib.hid ⟨HB5.out.1, fun q h1 h2 => by
                      by_cases hq : q = r
                      · rw [hq]; exact HT.out.symm
                      · exact HB5.out.2 q h1 (by omega)⟩⟩
                    case measure => simp [intOf]; omega
                  | false =>
                    go_wp2
                    go_ret2
                    exact ⟨_, [i, j, r], rfl, Or.inr (Or.inr ⟨i, j, r, rfl, hij, hjr, hrt, HT.out.symm⟩), rdI_three _ i j r, bel_to H2.out.2.1 (bel_to HB5.out.1 (bel_al _ _))⟩
                · obtain rfl : r = l.length := by omega
                  have HO := Lib.hid hk.out
                  clear hk
                  go_wp2
                  go_roundw
                  case rel => exact ⟨j + 1, by go_num, by omega, by omega, Lib.hid ⟨HO.out.1, fun q r h1 h2 h3 h4 => by
                    by_cases hq : q = j
                    · rw [hq]; exact HO.out.2 r (by omega) h4
                    · exact HJ.out.2 q r h1 (by omega) h3 h4⟩⟩
                  case measure => simp [intOf]; omega
            · obtain rfl : j = l.length := by omega
              have HO := Lib.hid hk.out
              clear hk
              go_wp2
              go_roundw
              case rel => exact ⟨i + 1, by go_num, by omega, Lib.hid ⟨HO.out.1, fun p q r h1 h2 h3 h4 => by
                by_cases hp : p = i
                · rw [hp]; exact HO.out.2 q r (by omega) (by omega) h3 h4
                · exact HI.out.2 p q r (by omega) h2 h3 h4⟩⟩
              case measure => simp [intOf]; omega
        · obtain rfl : i = l.length := by omega
          have HQ := Lib.hid (fun p q r (h1 : p < q) (h2 : q < r) (h3 : r < l.length) => hk.out.2 p q r (by omega) h1 h2 h3)
          have HW := Lib.hid hk.out.1
          have x0 := (H2.out.2.2.2.below' HW.out).cell (i := 0) rfl
          have x1 := (H2.out.2.2.1.below' HW.out).cell
          clear hk hlt
          go_wp2_with fail
          go_region
          go_wp2
          go_ret2
          exact ⟨_, [], rfl, Or.inl ⟨rfl, HP.out, HQ.out⟩, ⟨_, _, rfl, Or.inl rfl⟩, RowKit.Below.drew (bel_to H2.out.2.1 HW.out)⟩
end W
end Go.Proofs.YtellemlhhlafcaaGreatDoor
end
section
namespace Go.Proofs.YtellemlhhlafcaaGreatDoor
open Go Go.RowKit Go.Deep Go.Sort
namespace M
theorem mul_bdT {a b : Int} (h1 : -400000 ≤ a ∧ a ≤ 400000) (h2 : -400000 ≤ b ∧ b ≤ 400000) : -160000000000 ≤ a * b ∧ a * b ≤ 160000000000 := by
  have h : (a * b).natAbs ≤ 400000 * 400000 := by rw [Int.natAbs_mul]; exact Nat.mul_le_mul (by omega) (by omega)
  omega
theorem con_two {a b : Dk} {ks : List Nat} (h : ConD [a, b] ks) : ks = if (firstD [a, b]).isSome = true then [] else [0, 1] := by
  have e : twoOk [a, b] 0 1 = (firstD [a, b]).isSome := rfl
  rcases h with ⟨rfl, h1, _⟩ | ⟨i, j, rfl, h1, h2, h3⟩ | ⟨i, j, k, _, h1, h2, h3, _⟩
  · have := h1 0 1 (by decide) (by simp)
    rw [e] at this
    rw [if_pos this]
  · simp only [List.length_cons, List.length_nil] at h2
    obtain rfl : j = 1 := by omega
    obtain rfl : i = 0 := by omega
    rw [e] at h3
    rw [h3]
    rfl
  · simp only [List.length_cons, List.length_nil] at h3
    omega
end M
namespace W
open M
attribute [local go_sem] bs_size bs_toList bs_get bs_extract bs_append bs_lit0 bs_lit1 lit1_bs
set_option maxHeartbeats 1000000
set_option maxRecDepth 20000
theorem tminus (ax ay bx bY : Int) (w : World) (h1 : -200000 ≤ ax ∧ ax ≤ 200000) (h2 : -200000 ≤ ay ∧ ay ≤ 200000) (h3 : -200000 ≤ bx ∧ bx ≤ 200000) (h4 : -200000 ≤ bY ∧ bY ≤ 200000) :
    Calls Tryz.prog 12 #[.agg #[.int .i64 ax, .int .i64 ay], .agg #[.int .i64 bx, .int .i64 bY]] w (Ret w (.agg #[.int .i64 (ax - bx), .int .i64 (ay - bY)])) := by
  have hw1 : IntKind.i64.wrap (ax - bx) = ax - bx := IntWalk.i64_in _ (by omega)
  have hw2 : IntKind.i64.wrap (ay - bY) = ay - bY := IntWalk.i64_in _ (by omega)
  have hB := Lib.hid (bel_alloc (bel_alloc (bel_alloc (Below.refl w.heap.size w) (.cells #[.int .i64 ax, .int .i64 ay] 23 (0, 0))) (.cells #[.int .i64 bx, .int .i64 bY] 23 (0, 0))) (.cells #[.int .i64 (ax - bx), .int .i64 (ay - bY)] 23 (0, 0)))
  have hr := (rnew0 (w := (w.alloc (.cells #[.int .i64 ax, .int .i64 ay] 23 (0, 0))).alloc (.cells #[.int .i64 bx, .int .i64 bY] 23 (0, 0))) (b := w.heap.size + 1 + 1) (t := 23) (xs := [.int .i64 (ax - bx), .int .i64 (ay - bY)]) (by rw [World.size_alloc, World.size_alloc]))
  have q0 := hr.cell (i := 0) rfl
  have q1 := hr.cell (i := 1) rfl
  clear hr h1 h2 h3 h4
  go_enter Tryz.func12, Tryz.ntmps12
  go_wp2
  refine bodyPost_ret (v := .agg #[.int .i64 (ax - bx), .int .i64 (ay - bY)]) (by simp [results, Tryz.results12, go_sem, q0, q1]) rfl ⟨rfl, hB.out⟩
theorem ttimes (ax ay bx bY : Int) (w : World) (h1 : -400000 ≤ ax ∧ ax ≤ 400000) (h2 : -400000 ≤ ay ∧ ay ≤ 400000) (h3 : -400000 ≤ bx ∧ bx ≤ 400000) (h4 : -400000 ≤ bY ∧ bY ≤ 400000) :
    Calls Tryz.prog 34 #[.agg #[.int .i64 ax, .int .i64 ay], .agg #[.int .i64 bx, .int .i64 bY]] w (Ret w (.int .i64 (ax * bx + ay * bY))) := by
  have m1 := mul_bdT (a := ax) (b := bx) h1 h3
  have m2 := mul_bdT (a := ay) (b := bY) h2 h4
  have hw1 : IntKind.i64.wrap (ax * bx) = ax * bx := IntWalk.i64_in _ (by omega)
  have hw2 : IntKind.i64.wrap (ay * bY) = ay * bY := IntWalk.i64_in _ (by omega)
  have hw3 : IntKind.i64.wrap (ax * bx + ay * bY) = ax * bx + ay * bY := IntWalk.i64_in _ (by omega)
  have hB := Lib.hid (bel_alloc (bel_alloc (Below.refl w.heap.size w) (.cells #[.int .i64 ax, .int .i64 ay] 23 (0, 0))) (.cells #[.int .i64 bx, .int .i64 bY] 23 (0, 0)))
  clear h1 h2 h3 h4 m1 m2
  go_enter Tryz.func34, Tryz.ntmps34
  go_wp2
  go_ret
  exact Ret.of rfl hB.out
theorem tfar (ax ay bx bY : Int) (w : World) (a1 : -200000 ≤ ax ∧ ax ≤ 200000) (a2 : -200000 ≤ ay ∧ ay ≤ 200000) (b1 : -200000 ≤ bx ∧ bx ≤ 200000) (b2 : -200000 ≤ bY ∧ bY ≤ 200000) :
    Calls Tryz.prog 13 #[.agg #[.int .i64 ax, .int .i64 ay], .agg #[.int .i64 bx, .int .i64 bY]] w (Ret w (.int .i64 ((ax - bx) * (ax - bx) + (ay - bY) * (ay - bY)))) := by
  have hw0 : Below w.heap.size w ((w.alloc (.cells #[.int .i64 ax, .int .i64 ay] 23 (0, 0))).alloc (.cells #[.int .i64 bx, .int .i64 bY] 23 (0, 0))) := bel_alloc (bel_alloc (Below.refl w.heap.size w) _) _
  have ra : Row ((w.alloc (.cells #[.int .i64 ax, .int .i64 ay] 23 (0, 0))).alloc (.cells #[.int .i64 bx, .int .i64 bY] 23 (0, 0))) w.heap.size 23 [.int .i64 ax, .int .i64 ay] := rnw.alloc _
  have rb : Row ((w.alloc (.cells #[.int .i64 ax, .int .i64 ay] 23 (0, 0))).alloc (.cells #[.int .i64 bx, .int .i64 bY] 23 (0, 0))) (w.heap.size + 1) 23 [.int .i64 bx, .int .i64 bY] := rnew0 (World.size_alloc _ _).symm
  obtain ⟨W1, hW1⟩ : ∃ V, V = ((w.alloc (.cells #[.int .i64 ax, .int .i64 ay] 23 (0, 0))).alloc (.cells #[.int .i64 bx, .int .i64 bY] 23 (0, 0))) := ⟨_, rfl⟩
  rw [← hW1] at hw0 ra rb
  have k1 := reg_of (w := W1) (fun W _ => tminus ax ay bx bY W a1 a2 b1 b2)
  have k3 := reg_of (w := W1) (fun W _ => ttimes (ax - bx) (ay - bY) (ax - bx) (ay - bY) W (by omega) (by omega) (by omega) (by omega))
  have e1 : ∀ args w, (callFunc 12 args).run Tryz.prog w = .ok (.enter 12 args) w := enters_of Tryz.func12 (by kernel_rfl) rfl
  have e2 : ∀ args w, (callFunc 34 args).run Tryz.prog w = .ok (.enter 34 args) w := enters_of Tryz.func34 (by kernel_rfl) rfl
  have m0 := cell_regrown (ra.cell (i := 0) rfl)
  have m1 := cell_regrown (ra.cell (i := 1) rfl)
  have m2 := cell_regrown (rb.cell (i := 0) rfl)
  have m3 := cell_regrown (rb.cell (i := 1) rfl)
  have HB := Lib.hid hw0
  clear a1 a2 b1 b2 hw0 ra rb
  go_enter Tryz.func13, Tryz.ntmps13
  go_wp2_with fail
  rw [← hW1]
  clear hW1
  refine wp_region_quiet_below (by kernel_rfl) (by kernel_rfl) ?_
  repeat (go_big_quiet_step (fail))
  go_big_quiet_step (exact k1 _ _)
  repeat (go_big_quiet_step (fail))
  go_big_quiet_step (exact k1 _ _)
  repeat (go_big_quiet_step (fail))
  go_big_quiet_step (exact k3 _ _)
  repeat (go_big_quiet_step (fail))
  refine wpQuiet_nil ?_
  intro W6 hw'
  have hb6 : Below W1.heap.size W1 W6 := by obtain ⟨p, e⟩ := hw'; rw [e]; exact below_regrown W1 p.d p.os
  clear hw'
  have hb6' := bel_to HB.out hb6
  clear hb6 k1 k3 e1 e2 m0 m1 m2 m3 HB
  go_wp2
  go_ret
  exact Ret.of rfl hb6'
theorem tequal (va vb : Value) (l : List Int) (w : World) (ha : RdI w va l) (hb : RdI w vb l) (hn : l.length ≤ 1000) :
    Calls Tryz.prog 14 #[va, vb] w (Ret w (.bool true)) := by
  obtain ⟨A1, c1, rfl, h1⟩ := ha
  obtain ⟨A2, c2, rfl, h2⟩ := hb
  have H1 := Lib.hid h1
  have H2 := Lib.hid h2
  clear h1 h2
  go_enter Tryz.func14, Tryz.ntmps14
  go_wp2
  go_loopw [13] (fun iv wr => ∃ i : Nat, iv = .int .i64 (i : Int) ∧ i ≤ l.length ∧ Below w.heap.size w wr) (fun iv _ => l.length - (intOf iv).toNat)
  case atStart => exact ⟨0, rfl, by omega, Below.refl _ _⟩
  case round =>
    obtain ⟨i, rfl, hi, hbw⟩ := hrel
    by_cases hlt : i < l.length
    · have hne : l ≠ [] := by rintro rfl; cases hlt
      obtain ⟨b1, o1, rfl, _, t1⟩ := H1.out.resolve_left hne
      obtain ⟨b2, o2, rfl, _, t2⟩ := H2.out.resolve_left hne
      have d1 := (hbw.cell (block_lt_of_cell (t1 i hlt))).trans (t1 i hlt)
      have d2 := (hbw.cell (block_lt_of_cell (t2 i hlt))).trans (t2 i hlt)
      have hi0 : (0 : Int) ≤ (i : Int) := by omega
      have his : (i : Int) < (l.length : Int) := by omega
      clear t1 t2 hne
      generalize l[i] = s at *
      go_wp2_with fail
      refine wp_region_quiet_lit (by kernel_rfl) (by kernel_rfl) ?_
      repeat (go_big_quiet_step (fail))
      refine wpQuiet_nil ?_
      intro _ hw'
      obtain ⟨n1, hw''⟩ := hw'
      subst hw''
      have HB := Lib.hid (Below.drewN hbw n1)
      go_wp2
      go_roundw
      case rel => exact ⟨i + 1, by go_num, hlt, HB.out⟩
      case measure => simp [intOf]; omega
    · obtain rfl : i = l.length := by omega
      go_wp2
      go_ret
      exact Ret.of rfl hbw
theorem scontra (vt vc : Value) (ts : List Tg) (cs : List Cc) (w : World) (hg : Glob w) (hs : Sig w) (ht : RdG w vt ts) (hc : RdC w vc cs) (h : chk46 ts cs = 0) :
    Calls Tryz.prog 11 #[tkV vt vc (-1)] w (ConP ((ts.zip cs).map dkP) w) := by
  obtain ⟨h1, h16, hlen, hrt⟩ := chk46_iff.1 h
  have hll : ((ts.zip cs).map dkP).length = ts.length := by rw [List.length_map, List.length_zip]; omega
  have HZ := Lib.hid (fun W (hW : Below w.heap.size w W) => szones_no vt vc ts cs W (hg.of hW) (hs.below hW) (ht.below hW) (hc.below hW) h)
  have HC := Lib.hid (fun v W (hW : Below w.heap.size w W) (hv : RdK W v ((ts.zip cs).map dkP)) => kcontra v _ W (hg.of hW) hv (by omega) (by omega) (fun d hd => by obtain ⟨p, hp, rfl⟩ := List.mem_map.1 hd; exact dkP_sm (hrt p hp)))
  generalize (ts.zip cs).map dkP = dl at *
  obtain ⟨At, ct, rfl⟩ := ht.len
  obtain ⟨Ac, cc, rfl⟩ := hc.len
  have hb0 := bel_al w (.cells #[.slice At ts.length ct, .slice Ac cs.length cc, .int .i64 (-1)] 40 (0, 0))
  have hr1 : Row (w.alloc (.cells #[.slice At ts.length ct, .slice Ac cs.length cc, .int .i64 (-1)] 40 (0, 0))) w.heap.size 40 [.slice At ts.length ct, .slice Ac cs.length cc, .int .i64 (-1)] := rnw
  have HR := Lib.hid hb0
  have x0 := hr1.cell (i := 0) rfl
  have x1 := hr1.cell (i := 1) rfl
  have x2 := hr1.cell (i := 2) rfl
  clear hr1 hb0 hg hs ht hc h h1 h16 hlen hrt hll
  unfold tkV at *
  go_enter Tryz.func11, Tryz.ntmps11
  go_wp2_with fail
  refine (HZ.out _ HR.out).mono ?_
  rintro e w1 ⟨v, rfl, hv, hb1⟩
  obtain ⟨VA, vcp, hvs⟩ := hv.len
  subst hvs
  have H1 := Lib.hid (And.intro hv (bel_to HR.out hb1))
  clear hb1 hv HR HZ x0 x1 x2
  go_wp2_with fail
  refine (HC.out _ _ H1.out.2 H1.out.1).mono ?_
  rintro e w2 ⟨v, ks, rfl, hcd, hri, hb2⟩
  have H2 := Lib.hid (And.intro hcd (And.intro hri (bel_to H1.out.2 hb2)))
  clear hcd hri hb2 H1 HC
  go_wp2
  go_ret2
  exact ⟨_, ks, rfl, H2.out⟩
end W
end Go.Proofs.YtellemlhhlafcaaGreatDoor
end
section
namespace Go.Proofs.YtellemlhhlafcaaGreatDoor
open Go Go.Sort Go.RowKit Go.Deep
section
variable {P : Program} {ops : Array Oper} {Q : Exit → Act → World → Prop} {md : Region.Mode} {N n : Nat}
structure GrowJ (ops : Array Oper) (N n : Nat) (ψ : Nat → World → Value → Prop) (J : Act → World → Prop) (W0 : World) (D : List Deferred) (listed : Array Bool) (a : Act) (w : World) : Prop where
  bel : Below W0.heap.size W0 w
  def_ : a.defers = D
  jj : J a w
  size : a.tmps.size = N
  inp : ∀ t, t < N → (∀ j, j < n → dstOf ops j ≠ some t) → ψ t w (a.tmps.getD t undef)
  out : ∀ j t, j < n → dstOf ops j = some t → listed.getD j false = true → ψ t w (a.tmps.getD t undef)
theorem wpAny_growJ {ψ : Nat → World → Value → Prop} {J : Act → World → Prop} {W0 : World} {D : List Deferred} (l : List Oper) (hl : ops = l.toArray) (hB : growTB md ops N n = true) (hs : Region.sinkB md ops n = true) (hc : Region.chainB md ops n = true) (hn : n < ops.size)
    (hseq : Region.seqB md ops (ops.size - n) n (Array.replicate n true ++ Array.replicate (ops.size - n) false) = true) (hst : ∀ t w w' v, Below w.heap.size w w' → ψ t w v → ψ t w' v)
    (hstep : ∀ (i : Nat) (o : Oper), i < n → ops[i]? = some o → ∀ (a : Act) (w : World), Below W0.heap.size W0 w → a.tmps.size = N → J a w → (∀ t, Operand.tmp t ∈ o.op.operands → ψ t w (a.tmps.getD t undef)) → Oper.wp P o a w (fun a' w' => (∃ v, a' = a.put o.dst v ∧ Below w.heap.size w w' ∧ ∀ d, o.dst = some d → ψ d w' v) ∧ J a' w') Q)
    (hend : ∀ (a : Act) (w : World), Below W0.heap.size W0 w → a.defers = D → a.tmps.size = N → J a w → (∀ t, t < N → ((∃ j, j < n ∧ dstOf ops j = some t) ∨ ∀ j, j < n → dstOf ops j ≠ some t) → ψ t w (a.tmps.getD t undef)) → wpList P ops Q (l.drop n) a w) :
    ∀ (fuel : Nat) (listed : Array Bool) (a : Act) (w : World), HeadInv md ops n listed → (listed.toList.take n).count false = fuel → GrowJ ops N n ψ J W0 D listed a w → wpAny P md ops Q (fuel + (ops.size - n)) listed a w := by
  intro fuel
  induction fuel with
  | zero =>
    intro listed a w inv hcount hI
    have hall := heads_all (by have := inv.size; omega) hcount
    rw [Nat.zero_add, heads_end inv hn hall]
    have hd : (l.drop n).length = ops.size - n := by rw [hl]; simp
    have := wpAny_of_seq (P := P) (md := md) (ops := ops) (Q' := Q) (l.drop n) n (Array.replicate n true ++ Array.replicate (ops.size - n) false) a w (fun j => by rw [hl]; simp [List.getElem?_drop]) (by rw [hd]; exact hseq)
      (hend a w hI.bel hI.def_ hI.size hI.jj fun t ht h => by
        rcases h with ⟨j, hj, e⟩ | h
        · exact hI.out j t hj e (hall j hj)
        · exact hI.inp t ht h)
    rwa [hd] at this
  | succ fuel ih =>
    intro listed a w inv hcount hI
    rw [Nat.succ_add]
    obtain ⟨j, hj, hjl⟩ := head_some (listed := listed) (n := n) (by omega)
    obtain ⟨r, _, hr⟩ := heads_ready hB hn inv.size j hj hjl
    refine ⟨fun h0 => absurd h0 (List.ne_nil_of_mem hr), fun i hi => ?_⟩
    have hin : i < n := Nat.lt_of_not_le fun h => tail_waits hs hc hn inv _ j rfl hj (getD_in (by have := inv.size; omega) hjl) i h hi
    obtain ⟨h0, o, ho, hall⟩ := mem_ready.1 hi
    obtain ⟨g1, g2, g3, g4⟩ := growTB_at hB hin ho
    have his := (Array.getElem?_eq_some_iff.1 ho).1
    have hlt : i < listed.size := by have := inv.size; omega
    have h0' := getD_both h0
    unfold wpOp
    rw [ho]
    have hw : Region.wanted o (yielded ops a.tmps) = true := by simp [Region.wanted, g1]
    simp only [hw, if_true]
    refine Or.inl (Oper.wp_mono (fun a' w' h => ?_) (hstep i o hin ho a w hI.bel hI.size hI.jj fun t ht => ?_))
    · obtain ⟨⟨v, rfl, hb, hv⟩, hJ⟩ := h
      refine ih _ _ _ (inv.set hi hin) (by have := count_heads hin hlt h0'; omega) ⟨bel_to hI.bel hb, by rw [put_defers]; exact hI.def_, hJ, by rw [put_size]; exact hI.size, fun t ht hno => ?_, fun j t hjn hj hl => ?_⟩
      · have hd : o.dst ≠ some t := fun e => hno i hin (by unfold dstOf; rw [ho]; exact e)
        rw [getD_put_ne hd]
        exact hst t w w' _ hb (hI.inp t ht hno)
      · by_cases e : j = i
        · subst e
          have hd : o.dst = some t := by unfold dstOf at hj; rw [ho] at hj; exact hj
          rw [hd, getD_put_same (by rw [hI.size]; exact (g2 t hd).1)]
          exact hv t hd
        · have hd : o.dst ≠ some t := fun e2 => (g2 t e2).2 j e hj
          rw [getD_put_ne hd]
          refine hst t w w' _ hb (hI.out j t hjn hj ?_)
          simpa [Array.getD_eq_getD_getElem?, Array.getElem?_setIfInBounds, Ne.symm e] using hl
    · obtain ⟨g5, g6⟩ := g3 t ht
      by_cases h : ∃ j, dstOf ops j = some t
      · obtain ⟨j, hj⟩ := h
        obtain ⟨e, he, e1, e2⟩ := g6 j hj
        have h7 := hall e he e2
        have h8 := g4 e he e2
        rw [e1] at h7 h8
        exact hI.out j t (by omega) hj h7
      · exact hI.inp t g5 fun j _ e => h ⟨j, e⟩
theorem region_grow_tailJ {id : Nat} {a : Act} {w : World} {l : List Oper} {ψ : Nat → World → Value → Prop} {J : Act → World → Prop} (N n : Nat) (hm : P.follows .mixedOrders = true) (hB : growTB .any l.toArray N n = true)
    (hs : Region.sinkB .any l.toArray n = true) (hc : Region.chainB .any l.toArray n = true) (hn : n < l.toArray.size)
    (hseq : Region.seqB .any l.toArray (l.toArray.size - n) n (Array.replicate n true ++ Array.replicate (l.toArray.size - n) false) = true) (hst : ∀ t w w' v, Below w.heap.size w w' → ψ t w v → ψ t w' v)
    (hN : a.tmps.size = N) (hJ : J a { w with drawn := w.drawn + 1 }) (h0 : ∀ t, t < N → ((l.take n).any fun o => o.dst == some t) = false → ψ t w (a.tmps.getD t undef))
    (hstep : ∀ o ∈ l.take n, ∀ (a : Act) (w' : World), Below w.heap.size w w' → a.tmps.size = N → J a w' → (∀ t, Operand.tmp t ∈ o.op.operands → ψ t w' (a.tmps.getD t undef)) → Oper.wp P o a w' (fun a' w2 => (∃ v, a' = a.put o.dst v ∧ Below w'.heap.size w' w2 ∧ ∀ d, o.dst = some d → ψ d w2 v) ∧ J a' w2) Q)
    (hend : ∀ (a' : Act) (w' : World), Below w.heap.size w w' → a'.defers = a.defers → a'.tmps.size = N → J a' w' → (∀ t, t < N → ψ t w' (a'.tmps.getD t undef)) → wpList P l.toArray Q (l.drop n) a' w') :
    (Code.region id l.toArray true).wp P Q a w := by
  have hdr : Below w.heap.size w { w with drawn := w.drawn + 1 } := RowKit.Below.drew (Below.refl _ _)
  have hsz : n + (l.toArray.size - n) = l.toArray.size := by omega
  have key := wpAny_growJ (P := P) (ops := l.toArray) (Q := Q) (md := .any) (N := N) (n := n) (ψ := ψ) (J := J) (W0 := w) (D := a.defers) l rfl hB hs hc hn hseq hst
    (fun i o hi ho => hstep o (by
      have h2 : l[i]? = some o := by simpa using ho
      exact List.mem_of_getElem? (i := i) (by rw [List.getElem?_take, if_pos hi]; exact h2)))
    (fun a' w' h1 h2 h3 hj h4 => hend a' w' h1 h2 h3 hj fun t ht => h4 t ht (by
      by_cases h : ∃ j, j < n ∧ dstOf l.toArray j = some t
      · exact Or.inl h
      · exact Or.inr fun j hj e => h ⟨j, hj, e⟩))
    n (Array.replicate l.toArray.size false) a { w with drawn := w.drawn + 1 }
    ⟨by simp, fun j oj _ h2 => (by rw [getD_replicate_false] at h2; cases h2), fun t _ h2 => getD_in (by simpa using h2) (getD_replicate_false _ _)⟩
    (by
      rw [Array.toList_replicate, List.take_replicate, List.count_replicate_self]
      have : n < l.length := by simpa using hn
      simp; omega)
    ⟨hdr, rfl, hJ, hN, fun t ht hno => hst t _ _ _ hdr (h0 t ht (by
      rw [List.any_eq_false]
      intro o ho e
      obtain ⟨j, hj, rfl⟩ := List.mem_iff_getElem.1 ho
      have hj2 : j < n ∧ j < l.length := by simp at hj; omega
      refine hno j hj2.1 ?_
      unfold dstOf
      simp only [List.getElem?_toArray, List.getElem?_eq_getElem hj2.2, Option.bind_some]
      rw [List.getElem_take] at e
      exact eq_of_beq e)), fun j t _ _ hl => (by rw [getD_replicate_false] at hl; cases hl)⟩
  rw [hsz] at key
  exact wp_region_any hm key
end
def TwoNew (s t : Nat) (a : Act) (w : World) : Prop :=
  (∀ g o, a.tmps.getD s undef = .pointer (some ⟨g, 0, o⟩) → g < w.heap.size) ∧ (∀ g o, a.tmps.getD t undef = .pointer (some ⟨g, 0, o⟩) → g < w.heap.size) ∧
  ∀ g o, a.tmps.getD s undef = .pointer (some ⟨g, 0, o⟩) → a.tmps.getD t undef ≠ .pointer (some ⟨g, 0, o⟩)
theorem keep_two {P : Program} {Q : Exit → Act → World → Prop} {o : Oper} {a : Act} {w : World} {s t : Nat} {ψ : Nat → World → Value → Prop} (hJ : TwoNew s t a w) (hs : o.dst ≠ some s) (ht : o.dst ≠ some t)
    (h : Oper.wp P o a w (fun a' w' => ∃ v, a' = a.put o.dst v ∧ Below w.heap.size w w' ∧ ∀ d, o.dst = some d → ψ d w' v) Q) :
    Oper.wp P o a w (fun a' w' => (∃ v, a' = a.put o.dst v ∧ Below w.heap.size w w' ∧ ∀ d, o.dst = some d → ψ d w' v) ∧ TwoNew s t a' w') Q := by
  refine Oper.wp_mono (fun a' w' h => ⟨h, ?_⟩) h
  obtain ⟨v, rfl, hb, _⟩ := h
  unfold TwoNew
  rw [getD_put_ne hs, getD_put_ne ht]
  exact ⟨fun g o e => Nat.lt_of_lt_of_le (hJ.1 g o e) hb.size, fun g o e => Nat.lt_of_lt_of_le (hJ.2.1 g o e) hb.size, hJ.2.2⟩
theorem grow_two {P : Program} {Q : Exit → Act → World → Prop} {o : Oper} {a : Act} {w : World} {s t d : Nat} {ψ : Nat → World → Value → Prop} {ob : Obj} (hJ : TwoNew s t a w) (hd : o.dst = some d) (hst : s ≠ t) (hds : d = s ∨ d = t) (hN : d < a.tmps.size)
    (hrun : (execOp a.eval o).run P w = .ok (.value (.pointer (some ⟨w.heap.size, 0, none⟩))) (w.alloc ob)) (hv : ψ d (w.alloc ob) (.pointer (some ⟨w.heap.size, 0, none⟩))) :
    Oper.wp P o a w (fun a' w' => (∃ v, a' = a.put o.dst v ∧ Below w.heap.size w w' ∧ ∀ d, o.dst = some d → ψ d w' v) ∧ TwoNew s t a' w') Q := by
  unfold Oper.wp
  rw [hrun]
  refine ⟨⟨_, rfl, bel_al _ _, fun d2 h2 => by rw [hd] at h2; injection h2 with h2; rw [← h2]; exact hv⟩, ?_⟩
  have hsz : (w.alloc ob).heap.size = w.heap.size + 1 := World.size_alloc _ _
  unfold TwoNew
  rw [hd, hsz]
  rcases hds with rfl | rfl
  · rw [getD_put_same hN, getD_put_ne (fun e => hst (Option.some.inj e))]
    refine ⟨fun g o e => ?_, fun g o e => Nat.lt_succ_of_lt (hJ.2.1 g o e), fun g o e e2 => ?_⟩
    · injection e with e; injection e with e; injection e with e; omega
    · have := hJ.2.1 g o e2
      injection e with e; injection e with e; injection e with e; omega
  · rw [getD_put_same hN, getD_put_ne (fun e => hst (Option.some.inj e).symm)]
    refine ⟨fun g o e => Nat.lt_succ_of_lt (hJ.1 g o e), fun g o e => ?_, fun g o e e2 => ?_⟩
    · injection e with e; injection e with e; injection e with e; omega
    · have := hJ.1 g o e
      injection e2 with e2; injection e2 with e2; injection e2 with e2; omega
end Go.Proofs.YtellemlhhlafcaaGreatDoor
end
section
namespace Go.Proofs.YtellemlhhlafcaaGreatDoor
open Go Go.RowKit Go.Deep
abbrev tg2 (a b : M.Tg) : Value := .agg #[.int .i64 a.x, .int .i64 a.y, .int .i64 a.lo, .int .i64 a.hi, .int .i64 a.tol, .int .i64 a.mat, .bool a.pin, .int .i64 b.x, .int .i64 b.y, .int .i64 b.lo, .int .i64 b.hi, .int .i64 b.tol, .int .i64 b.mat, .bool b.pin]
abbrev cc2 (p q : M.Cc) : Value := .agg #[.int .i64 p.x, .int .i64 p.y, .int .i64 p.d, .int .i64 q.x, .int .i64 q.y, .int .i64 q.d]
structure PB (w W : World) (A B P Q : Nat) (a b : M.Tg) (p q : M.Cc) : Prop where
  ra : Row W A 27 (tgC a)
  rb : Row W B 27 (tgC b)
  rp : Row W P 30 (ccC p)
  rq : Row W Q 30 (ccC q)
  bel : Below w.heap.size w W
  lb : w.heap.size ≤ B
  lq : w.heap.size ≤ Q
theorem tgcc : 27 ≠ 30 := by decide
theorem row_other2 {w : World} {a b : Nat} {t : TypeId} {xs : List Value} (h : Row w a t xs) (hne : a ≠ b) (j : Nat) (u : Value) : Row (w.setCell ⟨b, j, none⟩ u) a t xs := row_other (p := ⟨b, j, none⟩) h hne u
theorem PB.store {w W : World} {A B P Q : Nat} {a b : M.Tg} {p q : M.Cc} (h : PB w W A B P Q a b p q) (hAB : A ≠ B) (hPQ : P ≠ Q) :
    PB w ((W.setCell ⟨B, 1, none⟩ (.int .i64 a.y)).setCell ⟨Q, 1, none⟩ (.int .i64 p.y)) A B P Q a { b with y := a.y } p { q with y := p.y } := by
  have n1 : A ≠ Q := row_ne h.ra h.rq tgcc
  have n2 : B ≠ Q := row_ne h.rb h.rq tgcc
  have n3 : P ≠ B := fun e => row_ne h.rb h.rp tgcc e.symm
  refine ⟨row_other2 (row_other2 h.ra hAB _ _) n1 _ _, row_other2 (h.rb.set 1 _) n2 _ _, row_other2 (row_other2 h.rp n3 _ _) hPQ _ _, (row_other2 h.rq (Ne.symm n2) 1 (.int .i64 a.y)).set 1 _, ?_, h.lb, h.lq⟩
  exact Below.setCell (p := ⟨Q, 1, none⟩) (Below.setCell (p := ⟨B, 1, none⟩) h.bel h.lb _) h.lq _
namespace W
open M
attribute [local go_sem] bs_size bs_toList bs_get bs_extract bs_append bs_lit0 bs_lit1 lit1_bs
set_option maxHeartbeats 16000000
set_option maxRecDepth 20000
end W
end Go.Proofs.YtellemlhhlafcaaGreatDoor
end
section
namespace Go.Proofs.YtellemlhhlafcaaGreatDoor
open Go Go.RowKit Go.ChangeShapes Go.WideShapes Go.ChangeAt Go.Deep
namespace Fin
set_option maxRecDepth 20000
section
variable {H : Type} {enc : TypeId × Value → H} {W : World}
theorem cellsT2 : Tryz.prog.cellsOf 28 = 14 := by kernel_rfl
theorem cellsC2 : Tryz.prog.cellsOf 31 = 6 := by kernel_rfl
theorem array14 {α : Type} {cs : Array α} (h : cs.size = 14) : ∃ c0 c1 c2 c3 c4 c5 c6 e0 e1 e2 e3 e4 e5 e6, cs = #[c0, c1, c2, c3, c4, c5, c6, e0, e1, e2, e3, e4, e5, e6] := by
  obtain ⟨l⟩ := cs
  match l, h with
  | [c0, c1, c2, c3, c4, c5, c6, e0, e1, e2, e3, e4, e5, e6], _ => exact ⟨c0, c1, c2, c3, c4, c5, c6, e0, e1, e2, e3, e4, e5, e6, rfl⟩
theorem array6 {α : Type} {cs : Array α} (h : cs.size = 6) : ∃ c0 c1 c2 e0 e1 e2, cs = #[c0, c1, c2, e0, e1, e2] := by
  obtain ⟨l⟩ := cs
  match l, h with
  | [c0, c1, c2, e0, e1, e2], _ => exact ⟨c0, c1, c2, e0, e1, e2, rfl⟩
theorem open_t2 {r : Reach} {b0 : Nat} {v : Value} {d : DataW H} {p : List MemPlace} (hv : Value.okWide Tryz.prog W r b0 28 v) (h : DataW.Trod enc Tryz.prog W 0 (fun _ => true) true 28 v d p) : ∃ a b : M.Tg, v = tg2 a b := by
  obtain ⟨cs, rfl, hsz⟩ := okWide_array Tryz.underlying28 hv
  rw [cellsT2] at hsz
  obtain ⟨c0, c1, c2, c3, c4, c5, c6, e0, e1, e2, e3, e4, e5, e6, rfl⟩ := array14 hsz
  obtain ⟨fuel, hf⟩ := h
  have hf' : DataW.trod enc Tryz.prog W 0 (fun _ => true) true fuel 28 [c0, c1, c2, c3, c4, c5, c6, e0, e1, e2, e3, e4, e5, e6] = some (d, p) := hf
  obtain ⟨xs, k, _, _, _, hxl, hel⟩ := DataW.trod_array Tryz.underlying28 hf'
  have h0 := hel 0 (by decide)
  have h1 := hel 1 (by decide)
  rw [cellsTg] at h0 h1
  change DataW.trod enc Tryz.prog W 0 (fun _ => true) true k 27 [c0, c1, c2, c3, c4, c5, c6] = xs[0]? at h0
  change DataW.trod enc Tryz.prog W 0 (fun _ => true) true k 27 [e0, e1, e2, e3, e4, e5, e6] = xs[1]? at h1
  match xs, hxl with
  | [x0, x1], _ =>
    simp only [List.getElem?_cons_zero, List.getElem?_cons_succ] at h0 h1
    obtain ⟨a, ha⟩ := elt_tg h0
    obtain ⟨b, hb⟩ := elt_tg h1
    simp only [List.cons.injEq, and_true] at ha hb
    obtain ⟨rfl, rfl, rfl, rfl, rfl, rfl, rfl⟩ := ha
    obtain ⟨rfl, rfl, rfl, rfl, rfl, rfl, rfl⟩ := hb
    exact ⟨a, b, rfl⟩
theorem open_c2 {r : Reach} {b0 : Nat} {v : Value} {d : DataW H} {p : List MemPlace} (hv : Value.okWide Tryz.prog W r b0 31 v) (h : DataW.Trod enc Tryz.prog W 0 (fun _ => true) true 31 v d p) : ∃ a b : M.Cc, v = cc2 a b := by
  obtain ⟨cs, rfl, hsz⟩ := okWide_array Tryz.underlying31 hv
  rw [cellsC2] at hsz
  obtain ⟨c0, c1, c2, e0, e1, e2, rfl⟩ := array6 hsz
  obtain ⟨fuel, hf⟩ := h
  have hf' : DataW.trod enc Tryz.prog W 0 (fun _ => true) true fuel 31 [c0, c1, c2, e0, e1, e2] = some (d, p) := hf
  obtain ⟨xs, k, _, _, _, hxl, hel⟩ := DataW.trod_array Tryz.underlying31 hf'
  have h0 := hel 0 (by decide)
  have h1 := hel 1 (by decide)
  rw [cellsCc] at h0 h1
  change DataW.trod enc Tryz.prog W 0 (fun _ => true) true k 30 [c0, c1, c2] = xs[0]? at h0
  change DataW.trod enc Tryz.prog W 0 (fun _ => true) true k 30 [e0, e1, e2] = xs[1]? at h1
  match xs, hxl with
  | [x0, x1], _ =>
    simp only [List.getElem?_cons_zero, List.getElem?_cons_succ] at h0 h1
    obtain ⟨a, ha⟩ := elt_cc h0
    obtain ⟨b, hb⟩ := elt_cc h1
    simp only [List.cons.injEq, and_true] at ha hb
    obtain ⟨rfl, rfl, rfl⟩ := ha
    obtain ⟨rfl, rfl, rfl⟩ := hb
    exact ⟨a, b, rfl⟩
end
end Fin
end Go.Proofs.YtellemlhhlafcaaGreatDoor
end
section
namespace Go.Proofs.YtellemlhhlafcaaGreatDoor
open Go Go.RowKit Go.Deep Go.Sort
structure Pr2 (w W : World) (ta tb : M.Tg) (ca cb : M.Cc) : Prop where
  rt : Row W w.heap.size 28 (csG [ta, tb])
  rc : Row W (w.heap.size + 1) 31 (csC [ca, cb])
  bel : Below w.heap.size w W
theorem Pr2.to {w W W' : World} {ta tb : M.Tg} {ca cb : M.Cc} (h : Pr2 w W ta tb ca cb) (hb : Below W.heap.size W W') : Pr2 w W' ta tb ca cb :=
  ⟨h.rt.below' hb, h.rc.below' hb, bel_to h.bel hb⟩
theorem Pr2.g {w W : World} {ta tb : M.Tg} {ca cb : M.Cc} (h : Pr2 w W ta tb ca cb) : RdG W (.slice (some ⟨w.heap.size, 0, none⟩) 2 2) [ta, tb] := rdG_row (n := 2) h.rt rfl
theorem Pr2.c {w W : World} {ta tb : M.Tg} {ca cb : M.Cc} (h : Pr2 w W ta tb ca cb) : RdC W (.slice (some ⟨w.heap.size + 1, 0, none⟩) 2 2) [ca, cb] := rdC_row (n := 2) h.rc rfl
theorem two_store {w : World} {A : Nat} {t : TypeId} {x0 x1 : Value} (y0 y1 : Value) (hr : Row w A t [x0, x1]) :
    (w.frozen? ⟨A, 0, none⟩ = false ∧ w.cell? ⟨A, 0, none⟩ = some x0) ∧
    ((w.setCell ⟨A, 0, none⟩ y0).frozen? ⟨A, 1, none⟩ = false ∧ (w.setCell ⟨A, 0, none⟩ y0).cell? ⟨A, 1, none⟩ = some x1) ∧
    Row ((w.setCell ⟨A, 0, none⟩ y0).setCell ⟨A, 1, none⟩ y1) A t [y0, y1] := by
  have h1 := hr.set 0 y0
  have h2 := h1.set 1 y1
  exact ⟨⟨hr.free 0, hr.cell rfl⟩, ⟨h1.free 1, h1.cell rfl⟩, h2⟩
theorem wpList_storeC {P : Program} {ops : Array Oper} {Q : Exit → Act → World → Prop} {o : Oper} {rest : List Oper} {a : Act} {w w1 : World} (hg : o.guard = none) (hd : o.dst = none) (hrun : (execOp a.eval o).run P w = .ok .skip w1) (h : wpList P ops Q rest a w1) :
    wpList P ops Q (o :: rest) a w := wpList_plain hg fun K hK => by
  unfold Oper.wp
  rw [hrun]
  show K (a.put o.dst undef) w1
  rw [hd]
  exact hK _ _ h
namespace W
open M
attribute [local go_sem] bs_size bs_toList bs_get bs_extract bs_append bs_lit0 bs_lit1 lit1_bs
set_option maxHeartbeats 1000000
set_option maxRecDepth 20000
theorem tboth_ok {t : Tg} {c : Cc} (ht : RtT t) (hc : RtC c) : bothC t c = 0 := by
  unfold bothC
  rw [(chkT_iff t).2 ht, if_neg (by simp), (ringC_iff c).2 hc]
theorem twth_ok {t : Tg} {n : Int} (h : t.lo ≤ n ∧ n ≤ t.hi) : wth t n = true := by
  unfold wth
  simp [h.1, h.2]
theorem top_pairs (ta tb : Tg) (ca cb : Cc) (w : World) (hg : Glob w) (hs : Sig w) :
    Calls Tryz.prog 3 #[tg2 ta tb, cc2 ca cb] w (Ret w (.bool true)) := by
  have h0 : Pr2 w ((w.alloc (.cells (csG [ta, tb]).toArray 28 (0, 0))).alloc (.cells (csC [ca, cb]).toArray 31 (0, 0))) ta tb ca cb := ⟨rnw.alloc _, rnew0 (World.size_alloc _ _).symm, bel_al2 _ _ _⟩
  obtain ⟨W0, hW0⟩ : ∃ V, V = (w.alloc (.cells (csG [ta, tb]).toArray 28 (0, 0))).alloc (.cells (csC [ca, cb]).toArray 31 (0, 0)) := ⟨_, rfl⟩
  rw [← hW0] at h0
  have hr := fun W (hW : Pr2 w W ta tb ca cb) => pplayRight _ _ [ta, tb] [ca, cb] W hW.g hW.c (by simp [maxLen]) (by simp [maxLen])
  obtain ⟨rt, hrt⟩ : ∃ rt, rt = (decide ([ta, tb].length ≤ 4) && decide (chk46 [ta, tb] [ca, cb] = 0)) := ⟨_, rfl⟩
  rw [← hrt] at hr
  have H0 := Lib.hid h0
  have k1 := reg_of (w := W0) (fun W hW => hr W (H0.out.to hW))
  have e1 : ∀ args w, (callFunc 7 args).run Tryz.prog w = .ok (.enter 7 args) w := enters_of Tryz.func7 (by kernel_rfl) rfl
  have HY := Lib.hid (fun W (hW : Below w.heap.size w W) => pplayShift W (hg.of hW) (hs.below hW))
  have HRT := Lib.hid hrt
  have HG := Lib.hid (And.intro hg hs)
  clear h0 hr hrt hg hs
  obtain ⟨ax, ay, alo, ahi, atol, amat, apin⟩ := ta
  obtain ⟨bx, bY, blo, bhi, btol, bmat, bpin⟩ := tb
  obtain ⟨px, py, pd⟩ := ca
  obtain ⟨qx, qy, qd⟩ := cb
  have hw0 : W0 = (w.alloc (.cells #[.int .i64 ax, .int .i64 ay, .int .i64 alo, .int .i64 ahi, .int .i64 atol, .int .i64 amat, .bool apin, .int .i64 bx, .int .i64 bY, .int .i64 blo, .int .i64 bhi, .int .i64 btol, .int .i64 bmat, .bool bpin] 28 (0, 0))).alloc (.cells #[.int .i64 px, .int .i64 py, .int .i64 pd, .int .i64 qx, .int .i64 qy, .int .i64 qd] 31 (0, 0)) := hW0
  clear hW0
  go_enter Tryz.func3, Tryz.ntmps3
  go_wp2_with fail
  rw [← hw0]
  clear hw0
  refine wp_region_quiet_below (by kernel_rfl) (by kernel_rfl) ?_
  repeat (go_big_quiet_step (fail))
  go_big_quiet_step (exact k1 _ _)
  repeat (go_big_quiet_step (fail))
  refine wpQuiet_nil ?_
  intro W6 hw'
  have hb6 : Below W0.heap.size W0 W6 := by obtain ⟨p, e⟩ := hw'; rw [e]; exact below_regrown W0 p.d p.os
  clear hw'
  have H6 := Lib.hid (H0.out.to hb6)
  clear hb6 k1 e1 H0
  cases rt with
  | false =>
    clear HRT HG
    go_wp2_with fail
    refine (HY.out _ H6.out.bel).mono ?_
    rintro e w7 ⟨rfl, hb7⟩
    go_wp2
    go_ret
    exact Ret.of rfl (bel_to H6.out.bel hb7)
  | true =>
    have hc0 := HRT.out
    rw [eq_comm, Bool.and_eq_true, decide_eq_true_eq, decide_eq_true_eq] at hc0
    have h0 := hc0.2
    have hrt := (chk46_iff.1 h0).2.2.2
    have r1 : RtH ((⟨ax, ay, alo, ahi, atol, amat, apin⟩ : Tg), (⟨px, py, pd⟩ : Cc)) := hrt _ (by simp)
    have r2 : RtH ((⟨bx, bY, blo, bhi, btol, bmat, bpin⟩ : Tg), (⟨qx, qy, qd⟩ : Cc)) := hrt _ (by simp)
    have wd1 : 0 ≤ wide (⟨ax, ay, alo, ahi, atol, amat, apin⟩ : Tg) (⟨px, py, pd⟩ : Cc) ∧ wide (⟨ax, ay, alo, ahi, atol, amat, apin⟩ : Tg) (⟨px, py, pd⟩ : Cc) ≤ 200000 := r1.wide
    have wd2 : 0 ≤ wide (⟨bx, bY, blo, bhi, btol, bmat, bpin⟩ : Tg) (⟨qx, qy, qd⟩ : Cc) ∧ wide (⟨bx, bY, blo, bhi, btol, bmat, bpin⟩ : Tg) (⟨qx, qy, qd⟩ : Cc) ≤ 200000 := r2.wide
    have z1 := fun W (hW : Below w.heap.size w W) => pzone (⟨ax, ay, alo, ahi, atol, amat, apin⟩ : Tg) (⟨px, py, pd⟩ : Cc) W (HG.out.2.below hW)
    have z2 := fun W (hW : Below w.heap.size w W) => pzone (⟨bx, bY, blo, bhi, btol, bmat, bpin⟩ : Tg) (⟨qx, qy, qd⟩ : Cc) W (HG.out.2.below hW)
    have zz1 := zone_ok (tboth_ok r1.1 r1.2.1) (twth_ok r1.2.2)
    have zz2 := zone_ok (tboth_ok r2.1 r2.2.1) (twth_ok r2.2.2)
    rw [zz1.1, zz1.2] at z1
    rw [zz2.1, zz2.2] at z2
    have hf := fun W (hW : Pr2 w W (⟨ax, ay, alo, ahi, atol, amat, apin⟩ : Tg) (⟨bx, bY, blo, bhi, btol, bmat, bpin⟩ : Tg) (⟨px, py, pd⟩ : Cc) (⟨qx, qy, qd⟩ : Cc)) => sfeasible _ _ [(⟨ax, ay, alo, ahi, atol, amat, apin⟩ : Tg), (⟨bx, bY, blo, bhi, btol, bmat, bpin⟩ : Tg)] [(⟨px, py, pd⟩ : Cc), (⟨qx, qy, qd⟩ : Cc)] W (HG.out.1.of hW.bel) (HG.out.2.below hW.bel) hW.g hW.c h0
    have hc := fun W (hW : Pr2 w W (⟨ax, ay, alo, ahi, atol, amat, apin⟩ : Tg) (⟨bx, bY, blo, bhi, btol, bmat, bpin⟩ : Tg) (⟨px, py, pd⟩ : Cc) (⟨qx, qy, qd⟩ : Cc)) => scontra _ _ [(⟨ax, ay, alo, ahi, atol, amat, apin⟩ : Tg), (⟨bx, bY, blo, bhi, btol, bmat, bpin⟩ : Tg)] [(⟨px, py, pd⟩ : Cc), (⟨qx, qy, qd⟩ : Cc)] W (HG.out.1.of hW.bel) (HG.out.2.below hW.bel) hW.g hW.c h0
    have hpr := pairs_round ((⟨ax, ay, alo, ahi, atol, amat, apin⟩ : Tg), (⟨px, py, pd⟩ : Cc)) ((⟨bx, bY, blo, bhi, btol, bmat, bpin⟩ : Tg), (⟨qx, qy, qd⟩ : Cc)) wd1.1 wd2.1
    simp only [List.zip_cons_cons, List.zip_nil_right, List.map_cons, List.map_nil] at hf hc
    have hct := fun ks (h : ConD [dkP ((⟨ax, ay, alo, ahi, atol, amat, apin⟩ : Tg), (⟨px, py, pd⟩ : Cc)), dkP ((⟨bx, bY, blo, bhi, btol, bmat, bpin⟩ : Tg), (⟨qx, qy, qd⟩ : Cc))] ks) => con_two h
    generalize dkP ((⟨ax, ay, alo, ahi, atol, amat, apin⟩ : Tg), (⟨px, py, pd⟩ : Cc)) = d1 at *
    generalize dkP ((⟨bx, bY, blo, bhi, btol, bmat, bpin⟩ : Tg), (⟨qx, qy, qd⟩ : Cc)) = d2 at *
    obtain ⟨x, hx⟩ : ∃ x, x = (firstD [d1, d2]).getD ⟨0, 0, 0⟩ := ⟨_, rfl⟩
    obtain ⟨ok, hok⟩ : ∃ ok, ok = (firstD [d1, d2]).isSome := ⟨_, rfl⟩
    rw [← hx, ← hok] at hf
    rw [← hok] at hpr hct
    have xa := r1.1.x
    have ya := r1.1.y
    have xb := r2.1.x
    have yb := r2.1.y
    have xp := r1.2.1.x
    have yp := r1.2.1.y
    have xq := r2.2.1.x
    have yq := r2.2.1.y
    simp only at xa ya xb yb xp yp xq yq hpr
    simp only [tgV, ccV] at z1 z2
    generalize wide (⟨ax, ay, alo, ahi, atol, amat, apin⟩ : Tg) (⟨px, py, pd⟩ : Cc) = E1 at *
    generalize wide (⟨bx, bY, blo, bhi, btol, bmat, bpin⟩ : Tg) (⟨qx, qy, qd⟩ : Cc) = E2 at *
    obtain ⟨Fr, hFr⟩ : ∃ Fr, Fr = ((ax - px) - (bx - qx)) * ((ax - px) - (bx - qx)) + ((ay - py) - (bY - qy)) * ((ay - py) - (bY - qy)) := ⟨_, rfl⟩
    have m1 := mul_bdT (a := (ax - px) - (bx - qx)) (b := (ax - px) - (bx - qx)) (by omega) (by omega)
    have m2 := mul_bdT (a := (ay - py) - (bY - qy)) (b := (ay - py) - (bY - qy)) (by omega) (by omega)
    have m3 := mul_bdT (a := E1 + E2) (b := E1 + E2) (by omega) (by omega)
    have hfa := fun W => tfar (ax - px) (ay - py) (bx - qx) (bY - qy) W (by omega) (by omega) (by omega) (by omega)
    rw [← hFr] at hfa hpr
    have wr1 : wrap64 (4 * Fr) = 4 * Fr := by unfold wrap64; omega
    have wr2 : wrap64 (E1 + E2) = E1 + E2 := by unfold wrap64; omega
    have wr3 : wrap64 ((E1 + E2) * (E1 + E2)) = (E1 + E2) * (E1 + E2) := by unfold wrap64; omega
    have hdec : decide (4 * Fr ≤ (E1 + E2) * (E1 + E2)) = ok := hpr.symm
    have HM1 := Lib.hid (fun W => tminus ax ay px py W (by omega) (by omega) (by omega) (by omega))
    have HM2 := Lib.hid (fun W => tminus bx bY qx qy W (by omega) (by omega) (by omega) (by omega))
    have HFA := Lib.hid hfa
    have HF := Lib.hid hf
    have HC := Lib.hid hc
    have HCT := Lib.hid hct
    have HZ1 := Lib.hid z1
    have HZ2 := Lib.hid z2
    unfold tkV at HF HC
    have HW := Lib.hid (And.intro (And.intro wr1 wr2) (And.intro wr3 hdec))
    clear hfa hf hc hct z1 z2 hpr hFr m1 m2 m3 wr1 wr2 wr3 hdec xa ya xb yb xp yp xq yq r1 r2 wd1 wd2 zz1 zz2 hrt hc0 h0 HRT HG hx hok
    have c0 := H6.out.rt.cell (i := 0) rfl
    have c1 := H6.out.rt.cell (i := 1) rfl
    have c2 := H6.out.rt.cell (i := 2) rfl
    have c3 := H6.out.rt.cell (i := 3) rfl
    have c4 := H6.out.rt.cell (i := 4) rfl
    have c5 := H6.out.rt.cell (i := 5) rfl
    have c6 := H6.out.rt.cell (i := 6) rfl
    have e0 := H6.out.rc.cell (i := 0) rfl
    have e1 := H6.out.rc.cell (i := 1) rfl
    have e2 := H6.out.rc.cell (i := 2) rfl
    go_wp2_with fail
    refine (HZ1.out _ H6.out.bel).mono ?_
    rintro e w7 ⟨rfl, hb7⟩
    clear c0 c1 c2 c3 c4 c5 c6 e0 e1 e2
    have H7 := Lib.hid (H6.out.to hb7)
    clear hb7 H6 HZ1
    have c0 := H7.out.rt.cell (i := 7) rfl
    have c1 := H7.out.rt.cell (i := 8) rfl
    have c2 := H7.out.rt.cell (i := 9) rfl
    have c3 := H7.out.rt.cell (i := 10) rfl
    have c4 := H7.out.rt.cell (i := 11) rfl
    have c5 := H7.out.rt.cell (i := 12) rfl
    have c6 := H7.out.rt.cell (i := 13) rfl
    have e0 := H7.out.rc.cell (i := 3) rfl
    have e1 := H7.out.rc.cell (i := 4) rfl
    have e2 := H7.out.rc.cell (i := 5) rfl
    go_wp2_with fail
    refine (HZ2.out _ H7.out.bel).mono ?_
    rintro e w8 ⟨rfl, hb8⟩
    clear c0 c1 c2 c3 c4 c5 c6 e0 e1 e2
    have H8 := Lib.hid (H7.out.to hb8)
    clear hb8 H7 HZ2
    go_wp2_with fail
    go_region
    have hb9 := RowKit.Below.drew (bel_al w8 (.cells #[.slice (some ⟨w.heap.size, 0, none⟩) 2 2, .slice (some ⟨w.heap.size + 1, 0, none⟩) 2 2, .int .i64 (-1)] 40 (0, 0)))
    have H9 := Lib.hid (And.intro (H8.out.to hb9) ((rnw (w := w8) (t := 40) (xs := [.slice (some ⟨w.heap.size, 0, none⟩) 2 2, .slice (some ⟨w.heap.size + 1, 0, none⟩) 2 2, .int .i64 (-1)])).below' (RowKit.Below.drew (Below.refl _ _))))
    clear hb9 H8
    generalize (w8.alloc (.cells #[.slice (some ⟨w.heap.size, 0, none⟩) 2 2, .slice (some ⟨w.heap.size + 1, 0, none⟩) 2 2, .int .i64 (-1)] 40 (0, 0))).drew = V9 at *
    generalize w8.heap.size = kb at *
    have t0 := H9.out.2.cell (i := 0) rfl
    have t1 := H9.out.2.cell (i := 1) rfl
    have t2 := H9.out.2.cell (i := 2) rfl
    go_wp2_with fail
    refine (HF.out _ H9.out.1).mono ?_
    rintro e w10 ⟨rfl, hb10⟩
    clear t0 t1 t2
    have hb10 := bel_to hb10 (bel_al w10 (.cells #[.int .i64 (x.i : Int), .int .i64 (x.j : Int), .int .i64 x.side] 42 (0, 0)))
    have H10 := Lib.hid (And.intro (H9.out.1.to hb10) (H9.out.2.below' hb10))
    have t0 := H10.out.2.cell (i := 0) rfl
    have t1 := H10.out.2.cell (i := 1) rfl
    have t2 := H10.out.2.cell (i := 2) rfl
    clear hb10 H9 HF
    go_wp2_with fail
    refine (HC.out _ H10.out.1).mono ?_
    rintro e w11 ⟨v, ks, rfl, hcd, hri, hb11⟩
    clear t0 t1 t2
    have hks := HCT.out ks hcd
    obtain ⟨Ab, cb, rfl, hri2⟩ := hri
    have HRI : Hid (RdI w11 (.slice Ab (ks.map fun (k : Nat) => (k : Int)).length cb) (ks.map fun (k : Nat) => (k : Int))) := Lib.hid ⟨_, _, rfl, hri2⟩
    have H11 := Lib.hid (H10.out.1.to hb11)
    have hkl : (ks.map fun (k : Nat) => (k : Int)) = if ok = true then [] else [0, 1] := by rw [hks]; cases ok <;> rfl
    generalize (ks.map fun (k : Nat) => (k : Int)) = kl at *
    have HKS := Lib.hid hkl
    clear hkl
    clear hb11 H10 HC HCT hcd hri2 hks
    go_wp2_with fail
    generalize w10.heap.size = wb at *
    have HCL := Lib.hid (fun W (hW : Below w11.heap.size w11 W) => And.intro ((H11.out.to hW).rt.cell (i := 0) rfl) (And.intro ((H11.out.to hW).rt.cell (i := 1) rfl) (And.intro ((H11.out.to hW).rt.cell (i := 7) rfl) (And.intro ((H11.out.to hW).rt.cell (i := 8) rfl)
      (And.intro ((H11.out.to hW).rc.cell (i := 0) rfl) (And.intro ((H11.out.to hW).rc.cell (i := 1) rfl) (And.intro ((H11.out.to hW).rc.cell (i := 3) rfl) ((H11.out.to hW).rc.cell (i := 4) rfl))))))))
    have e2 : ∀ args w, (callFunc 12 args).run Tryz.prog w = .ok (.enter 12 args) w := enters_of Tryz.func12 (by kernel_rfl) rfl
    obtain ⟨W, hWW⟩ : ∃ W, W = w11 := ⟨_, rfl⟩
    rw [← hWW] at HCL
    subst hWW
    refine region_grow_tailJ (J := TwoNew 15 16) (ψ := psi [(2, .pointer (some ⟨w.heap.size, 0, none⟩)), (3, .pointer (some ⟨w.heap.size + 1, 0, none⟩)), (4, .bool false), (5, .int .i64 E1), (6, .int .i64 0), (7, .int .i64 E2), (8, .int .i64 0), (10, .bool ok), (12, .int .i64 0), (13, .slice Ab kl.length cb), (14, .int .i64 0), (53, .pointer (some ⟨w.heap.size, 0, none⟩)), (54, .pointer (some ⟨w.heap.size, 0, none⟩)), (55, .agg #[.int .i64 ax, .int .i64 ay]), (56, .pointer (some ⟨w.heap.size + 1, 0, none⟩)), (57, .pointer (some ⟨w.heap.size + 1, 0, none⟩)), (58, .agg #[.int .i64 px, .int .i64 py]), (59, .agg #[.int .i64 (ax - px), .int .i64 (ay - py)]), (60, .pointer (some ⟨w.heap.size, 7, none⟩)), (61, .pointer (some ⟨w.heap.size, 7, none⟩)), (62, .agg #[.int .i64 bx, .int .i64 bY]), (63, .pointer (some ⟨w.heap.size + 1, 3, none⟩)), (64, .pointer (some ⟨w.heap.size + 1, 3, none⟩)), (65, .agg #[.int .i64 qx, .int .i64 qy]), (66, .agg #[.int .i64 (bx - qx), .int .i64 (bY - qy)])] [(15, AtNew W 23 [.int .i64 0, .int .i64 0]), (16, AtNew W 23 [.int .i64 0, .int .i64 0])]) 112 16 (by kernel_rfl) (by kernel_rfl) (by kernel_rfl) (by kernel_rfl) (by decide) (by kernel_rfl) (psi_st ?_) rfl ?_ ?_ ?_ ?_
    · intro p hp w w' v hb h
      simp only [List.mem_cons, List.not_mem_nil, or_false] at hp
      rcases hp with rfl | rfl
      all_goals exact AtNew.below hb h
    · exact ⟨fun g o e => (by cases e), fun g o e => (by cases e), fun g o e => (by cases e)⟩
    · intro t ht hno
      unfold psi
      split
      · rename_i c hc
        have hm := lookup_mem hc
        simp only [List.mem_cons, List.not_mem_nil, or_false, Prod.mk.injEq] at hm
        repeat' (rcases hm with ⟨rfl, rfl⟩ | hm)
        all_goals first
          | rfl
          | exact Bool.noConfusion (show true = false from hno)
          | (obtain ⟨rfl, rfl⟩ := hm; first | rfl | exact Bool.noConfusion (show true = false from hno))
      · split
        · rename_i p hp
          have hm := lookup_mem hp
          simp only [List.mem_cons, List.not_mem_nil, or_false, Prod.mk.injEq] at hm
          repeat' (rcases hm with ⟨rfl, rfl⟩ | hm)
          all_goals first
            | exact Bool.noConfusion (show true = false from hno)
            | (obtain ⟨rfl, rfl⟩ := hm; exact Bool.noConfusion (show true = false from hno))
        · trivial
    · simp only [List.take_succ_cons, List.take_zero]
      repeat' (first | exact List.forall_mem_nil _ | refine List.forall_mem_cons.2 ⟨?_, ?_⟩)
      · intro a w' hb hN hJ hpre
        have h2 : a.tmps.getD 2 undef = (.pointer (some ⟨w.heap.size, 0, none⟩) : Value) := hpre 2 (by simp [Op.operands])
        exact keep_two hJ (by simp) (by simp) (step_val (v := .pointer (some ⟨w.heap.size, 0, none⟩)) rfl (by simp only [execOp, Act.eval, h2]; go_simp) rfl)
      · intro a w' hb hN hJ hpre
        have h53 : a.tmps.getD 53 undef = (.pointer (some ⟨w.heap.size, 0, none⟩) : Value) := hpre 53 (by simp [Op.operands])
        exact keep_two hJ (by simp) (by simp) (step_val (v := .pointer (some ⟨w.heap.size, 0, none⟩)) rfl (by simp only [execOp, Act.eval, h53]; go_simp) rfl)
      · intro a w' hb hN hJ hpre
        have h54 : a.tmps.getD 54 undef = (.pointer (some ⟨w.heap.size, 0, none⟩) : Value) := hpre 54 (by simp [Op.operands])
        obtain ⟨x0, x1, x2, x3, y0, y1, y2, y3⟩ := HCL.out w' hb
        exact keep_two hJ (by simp) (by simp) (step_val (v := .agg #[.int .i64 ax, .int .i64 ay]) rfl (by simp only [execOp, Act.eval, h54]; go_simp) rfl)
      · intro a w' hb hN hJ hpre
        have h3 : a.tmps.getD 3 undef = (.pointer (some ⟨w.heap.size + 1, 0, none⟩) : Value) := hpre 3 (by simp [Op.operands])
        exact keep_two hJ (by simp) (by simp) (step_val (v := .pointer (some ⟨w.heap.size + 1, 0, none⟩)) rfl (by simp only [execOp, Act.eval, h3]; go_simp) rfl)
      · intro a w' hb hN hJ hpre
        have h56 : a.tmps.getD 56 undef = (.pointer (some ⟨w.heap.size + 1, 0, none⟩) : Value) := hpre 56 (by simp [Op.operands])
        exact keep_two hJ (by simp) (by simp) (step_val (v := .pointer (some ⟨w.heap.size + 1, 0, none⟩)) rfl (by simp only [execOp, Act.eval, h56]; go_simp) rfl)
      · intro a w' hb hN hJ hpre
        have h57 : a.tmps.getD 57 undef = (.pointer (some ⟨w.heap.size + 1, 0, none⟩) : Value) := hpre 57 (by simp [Op.operands])
        obtain ⟨x0, x1, x2, x3, y0, y1, y2, y3⟩ := HCL.out w' hb
        exact keep_two hJ (by simp) (by simp) (step_val (v := .agg #[.int .i64 px, .int .i64 py]) rfl (by simp only [execOp, Act.eval, h57]; go_simp) rfl)
      · intro a w' hb hN hJ hpre
        have h55 : a.tmps.getD 55 undef = (.agg #[.int .i64 ax, .int .i64 ay] : Value) := hpre 55 (by simp [Op.operands, Call.operands])
        have h58 : a.tmps.getD 58 undef = (.agg #[.int .i64 px, .int .i64 py] : Value) := hpre 58 (by simp [Op.operands, Call.operands])
        exact keep_two hJ (by simp) (by simp) (step_call (f := 12) rfl (by simp only [execOp]; go_simp) (psi_ret (HM1.out w') (fun _ => rfl)))
      · intro a w' hb hN hJ hpre
        have h2 : a.tmps.getD 2 undef = (.pointer (some ⟨w.heap.size, 0, none⟩) : Value) := hpre 2 (by simp [Op.operands])
        exact keep_two hJ (by simp) (by simp) (step_val (v := .pointer (some ⟨w.heap.size, 7, none⟩)) rfl (by simp only [execOp, Act.eval, h2]; go_simp) rfl)
      · intro a w' hb hN hJ hpre
        have h60 : a.tmps.getD 60 undef = (.pointer (some ⟨w.heap.size, 7, none⟩) : Value) := hpre 60 (by simp [Op.operands])
        exact keep_two hJ (by simp) (by simp) (step_val (v := .pointer (some ⟨w.heap.size, 7, none⟩)) rfl (by simp only [execOp, Act.eval, h60]; go_simp) rfl)
      · intro a w' hb hN hJ hpre
        have h61 : a.tmps.getD 61 undef = (.pointer (some ⟨w.heap.size, 7, none⟩) : Value) := hpre 61 (by simp [Op.operands])
        obtain ⟨x0, x1, x2, x3, y0, y1, y2, y3⟩ := HCL.out w' hb
        exact keep_two hJ (by simp) (by simp) (step_val (v := .agg #[.int .i64 bx, .int .i64 bY]) rfl (by simp only [execOp, Act.eval, h61]; go_simp) rfl)
      · intro a w' hb hN hJ hpre
        have h3 : a.tmps.getD 3 undef = (.pointer (some ⟨w.heap.size + 1, 0, none⟩) : Value) := hpre 3 (by simp [Op.operands])
        exact keep_two hJ (by simp) (by simp) (step_val (v := .pointer (some ⟨w.heap.size + 1, 3, none⟩)) rfl (by simp only [execOp, Act.eval, h3]; go_simp) rfl)
      · intro a w' hb hN hJ hpre
        have h63 : a.tmps.getD 63 undef = (.pointer (some ⟨w.heap.size + 1, 3, none⟩) : Value) := hpre 63 (by simp [Op.operands])
        exact keep_two hJ (by simp) (by simp) (step_val (v := .pointer (some ⟨w.heap.size + 1, 3, none⟩)) rfl (by simp only [execOp, Act.eval, h63]; go_simp) rfl)
      · intro a w' hb hN hJ hpre
        have h64 : a.tmps.getD 64 undef = (.pointer (some ⟨w.heap.size + 1, 3, none⟩) : Value) := hpre 64 (by simp [Op.operands])
        obtain ⟨x0, x1, x2, x3, y0, y1, y2, y3⟩ := HCL.out w' hb
        exact keep_two hJ (by simp) (by simp) (step_val (v := .agg #[.int .i64 qx, .int .i64 qy]) rfl (by simp only [execOp, Act.eval, h64]; go_simp) rfl)
      · intro a w' hb hN hJ hpre
        have h62 : a.tmps.getD 62 undef = (.agg #[.int .i64 bx, .int .i64 bY] : Value) := hpre 62 (by simp [Op.operands, Call.operands])
        have h65 : a.tmps.getD 65 undef = (.agg #[.int .i64 qx, .int .i64 qy] : Value) := hpre 65 (by simp [Op.operands, Call.operands])
        exact keep_two hJ (by simp) (by simp) (step_call (f := 12) rfl (by simp only [execOp]; go_simp) (psi_ret (HM2.out w') (fun _ => rfl)))
      · intro a w' hb hN hJ hpre
        exact grow_two (d := 15) (ob := .cells #[.int .i64 0, .int .i64 0] 23 (0, 0)) hJ rfl (by decide) (Or.inl rfl) (by rw [hN]; decide) (by go_simp) (AtNew.new hb)
      · intro a w' hb hN hJ hpre
        exact grow_two (d := 16) (ob := .cells #[.int .i64 0, .int .i64 0] 23 (0, 0)) hJ rfl (by decide) (Or.inr rfl) (by rw [hN]; decide) (by go_simp) (AtNew.new hb)
    · intro a' w' hb hd hN hJ hpre
      have h2 : a'.tmps.getD 2 undef = (.pointer (some ⟨w.heap.size, 0, none⟩) : Value) := hpre 2 (by decide)
      have h3 : a'.tmps.getD 3 undef = (.pointer (some ⟨w.heap.size + 1, 0, none⟩) : Value) := hpre 3 (by decide)
      have h4 : a'.tmps.getD 4 undef = (.bool false : Value) := hpre 4 (by decide)
      have h5 : a'.tmps.getD 5 undef = (.int .i64 E1 : Value) := hpre 5 (by decide)
      have h6 : a'.tmps.getD 6 undef = (.int .i64 0 : Value) := hpre 6 (by decide)
      have h7 : a'.tmps.getD 7 undef = (.int .i64 E2 : Value) := hpre 7 (by decide)
      have h8 : a'.tmps.getD 8 undef = (.int .i64 0 : Value) := hpre 8 (by decide)
      have h10 : a'.tmps.getD 10 undef = (.bool ok : Value) := hpre 10 (by decide)
      have h12 : a'.tmps.getD 12 undef = (.int .i64 0 : Value) := hpre 12 (by decide)
      have h13 : a'.tmps.getD 13 undef = (.slice Ab kl.length cb : Value) := hpre 13 (by decide)
      have h14 : a'.tmps.getD 14 undef = (.int .i64 0 : Value) := hpre 14 (by decide)
      have h53 : a'.tmps.getD 53 undef = (.pointer (some ⟨w.heap.size, 0, none⟩) : Value) := hpre 53 (by decide)
      have h54 : a'.tmps.getD 54 undef = (.pointer (some ⟨w.heap.size, 0, none⟩) : Value) := hpre 54 (by decide)
      have h55 : a'.tmps.getD 55 undef = (.agg #[.int .i64 ax, .int .i64 ay] : Value) := hpre 55 (by decide)
      have h56 : a'.tmps.getD 56 undef = (.pointer (some ⟨w.heap.size + 1, 0, none⟩) : Value) := hpre 56 (by decide)
      have h57 : a'.tmps.getD 57 undef = (.pointer (some ⟨w.heap.size + 1, 0, none⟩) : Value) := hpre 57 (by decide)
      have h58 : a'.tmps.getD 58 undef = (.agg #[.int .i64 px, .int .i64 py] : Value) := hpre 58 (by decide)
      have h59 : a'.tmps.getD 59 undef = (.agg #[.int .i64 (ax - px), .int .i64 (ay - py)] : Value) := hpre 59 (by decide)
      have h60 : a'.tmps.getD 60 undef = (.pointer (some ⟨w.heap.size, 7, none⟩) : Value) := hpre 60 (by decide)
      have h61 : a'.tmps.getD 61 undef = (.pointer (some ⟨w.heap.size, 7, none⟩) : Value) := hpre 61 (by decide)
      have h62 : a'.tmps.getD 62 undef = (.agg #[.int .i64 bx, .int .i64 bY] : Value) := hpre 62 (by decide)
      have h63 : a'.tmps.getD 63 undef = (.pointer (some ⟨w.heap.size + 1, 3, none⟩) : Value) := hpre 63 (by decide)
      have h64 : a'.tmps.getD 64 undef = (.pointer (some ⟨w.heap.size + 1, 3, none⟩) : Value) := hpre 64 (by decide)
      have h65 : a'.tmps.getD 65 undef = (.agg #[.int .i64 qx, .int .i64 qy] : Value) := hpre 65 (by decide)
      have h66 : a'.tmps.getD 66 undef = (.agg #[.int .i64 (bx - qx), .int .i64 (bY - qy)] : Value) := hpre 66 (by decide)
      obtain ⟨g15, h15, hge15, hrow15⟩ : (AtNew W 23 [.int .i64 0, .int .i64 0]) w' (a'.tmps.getD 15 undef) := hpre 15 (by decide)
      obtain ⟨g16, h16, hge16, hrow16⟩ : (AtNew W 23 [.int .i64 0, .int .i64 0]) w' (a'.tmps.getD 16 undef) := hpre 16 (by decide)
      have hne : g16 ≠ g15 := fun e => hJ.2.2 g15 none h15 (by rw [h16, e])
      obtain ⟨⟨f0, m0⟩, ⟨f1, m1⟩, hr15⟩ := two_store (.int .i64 (ax - px)) (.int .i64 (ay - py)) hrow15
      have hr16 := row_other2 (row_other2 hrow16 hne 0 (.int .i64 (ax - px))) hne 1 (.int .i64 (ay - py))
      obtain ⟨⟨f2, m2⟩, ⟨f3, m3⟩, hr16'⟩ := two_store (.int .i64 (bx - qx)) (.int .i64 (bY - qy)) hr16
      simp only [List.drop_succ_cons, List.drop_zero]
      refine wpList_storeC (w1 := ((w'.setCell ⟨g15, 0, none⟩ (.int .i64 (ax - px))).setCell ⟨g15, 1, none⟩ (.int .i64 (ay - py)))) rfl rfl (by simp only [execOp, Act.eval, h15, h59]; go_simp) ?_
      refine wpList_store (w1 := ((((w'.setCell ⟨g15, 0, none⟩ (.int .i64 (ax - px))).setCell ⟨g15, 1, none⟩ (.int .i64 (ay - py))).setCell ⟨g16, 0, none⟩ (.int .i64 (bx - qx))).setCell ⟨g16, 1, none⟩ (.int .i64 (bY - qy)))) rfl rfl (by simp only [execOp, Act.eval, h16, h66]; go_simp) ?_
      obtain ⟨tm, df⟩ := a'
      simp only at hd hN hpre h2 h3 h4 h5 h6 h7 h8 h10 h12 h13 h14 h15 h16 h53 h54 h55 h56 h57 h58 h59 h60 h61 h62 h63 h64 h65 h66
      subst hd
      have htm : tm = #[tm.getD 0 undef, tm.getD 1 undef, tm.getD 2 undef, tm.getD 3 undef, tm.getD 4 undef, tm.getD 5 undef, tm.getD 6 undef, tm.getD 7 undef, tm.getD 8 undef, tm.getD 9 undef, tm.getD 10 undef, tm.getD 11 undef, tm.getD 12 undef, tm.getD 13 undef, tm.getD 14 undef, tm.getD 15 undef, tm.getD 16 undef, tm.getD 17 undef, tm.getD 18 undef, tm.getD 19 undef, tm.getD 20 undef, tm.getD 21 undef, tm.getD 22 undef, tm.getD 23 undef, tm.getD 24 undef, tm.getD 25 undef, tm.getD 26 undef, tm.getD 27 undef, tm.getD 28 undef, tm.getD 29 undef, tm.getD 30 undef, tm.getD 31 undef, tm.getD 32 undef, tm.getD 33 undef, tm.getD 34 undef, tm.getD 35 undef, tm.getD 36 undef, tm.getD 37 undef, tm.getD 38 undef, tm.getD 39 undef, tm.getD 40 undef, tm.getD 41 undef, tm.getD 42 undef, tm.getD 43 undef, tm.getD 44 undef, tm.getD 45 undef, tm.getD 46 undef, tm.getD 47 undef, tm.getD 48 undef, tm.getD 49 undef, tm.getD 50 undef, tm.getD 51 undef, tm.getD 52 undef, tm.getD 53 undef, tm.getD 54 undef, tm.getD 55 undef, tm.getD 56 undef, tm.getD 57 undef, tm.getD 58 undef, tm.getD 59 undef, tm.getD 60 undef, tm.getD 61 undef, tm.getD 62 undef, tm.getD 63 undef, tm.getD 64 undef, tm.getD 65 undef, tm.getD 66 undef, tm.getD 67 undef, tm.getD 68 undef, tm.getD 69 undef, tm.getD 70 undef, tm.getD 71 undef, tm.getD 72 undef, tm.getD 73 undef, tm.getD 74 undef, tm.getD 75 undef, tm.getD 76 undef, tm.getD 77 undef, tm.getD 78 undef, tm.getD 79 undef, tm.getD 80 undef, tm.getD 81 undef, tm.getD 82 undef, tm.getD 83 undef, tm.getD 84 undef, tm.getD 85 undef, tm.getD 86 undef, tm.getD 87 undef, tm.getD 88 undef, tm.getD 89 undef, tm.getD 90 undef, tm.getD 91 undef, tm.getD 92 undef, tm.getD 93 undef, tm.getD 94 undef, tm.getD 95 undef, tm.getD 96 undef, tm.getD 97 undef, tm.getD 98 undef, tm.getD 99 undef, tm.getD 100 undef, tm.getD 101 undef, tm.getD 102 undef, tm.getD 103 undef, tm.getD 104 undef, tm.getD 105 undef, tm.getD 106 undef, tm.getD 107 undef, tm.getD 108 undef, tm.getD 109 undef, tm.getD 110 undef, tm.getD 111 undef] := (tmps_lit hN).trans (by kernel_rfl)
      simp only [h2, h3, h4, h5, h6, h7, h8, h10, h12, h13, h14, h15, h16, h53, h54, h55, h56, h57, h58, h59, h60, h61, h62, h63, h64, h65, h66] at htm
      clear hpre hN h2 h3 h4 h5 h6 h7 h8 h10 h12 h13 h14 h15 h16 h53 h54 h55 h56 h57 h58 h59 h60 h61 h62 h63 h64 h65 h66
      generalize tm.getD 0 undef = u0 at htm
      generalize tm.getD 1 undef = u1 at htm
      generalize tm.getD 9 undef = u9 at htm
      generalize tm.getD 11 undef = u11 at htm
      generalize tm.getD 17 undef = u17 at htm
      generalize tm.getD 18 undef = u18 at htm
      generalize tm.getD 19 undef = u19 at htm
      generalize tm.getD 20 undef = u20 at htm
      generalize tm.getD 21 undef = u21 at htm
      generalize tm.getD 22 undef = u22 at htm
      generalize tm.getD 23 undef = u23 at htm
      generalize tm.getD 24 undef = u24 at htm
      generalize tm.getD 25 undef = u25 at htm
      generalize tm.getD 26 undef = u26 at htm
      generalize tm.getD 27 undef = u27 at htm
      generalize tm.getD 28 undef = u28 at htm
      generalize tm.getD 29 undef = u29 at htm
      generalize tm.getD 30 undef = u30 at htm
      generalize tm.getD 31 undef = u31 at htm
      generalize tm.getD 32 undef = u32 at htm
      generalize tm.getD 33 undef = u33 at htm
      generalize tm.getD 34 undef = u34 at htm
      generalize tm.getD 35 undef = u35 at htm
      generalize tm.getD 36 undef = u36 at htm
      generalize tm.getD 37 undef = u37 at htm
      generalize tm.getD 38 undef = u38 at htm
      generalize tm.getD 39 undef = u39 at htm
      generalize tm.getD 40 undef = u40 at htm
      generalize tm.getD 41 undef = u41 at htm
      generalize tm.getD 42 undef = u42 at htm
      generalize tm.getD 43 undef = u43 at htm
      generalize tm.getD 44 undef = u44 at htm
      generalize tm.getD 45 undef = u45 at htm
      generalize tm.getD 46 undef = u46 at htm
      generalize tm.getD 47 undef = u47 at htm
      generalize tm.getD 48 undef = u48 at htm
      generalize tm.getD 49 undef = u49 at htm
      generalize tm.getD 50 undef = u50 at htm
      generalize tm.getD 51 undef = u51 at htm
      generalize tm.getD 52 undef = u52 at htm
      generalize tm.getD 67 undef = u67 at htm
      generalize tm.getD 68 undef = u68 at htm
      generalize tm.getD 69 undef = u69 at htm
      generalize tm.getD 70 undef = u70 at htm
      generalize tm.getD 71 undef = u71 at htm
      generalize tm.getD 72 undef = u72 at htm
      generalize tm.getD 73 undef = u73 at htm
      generalize tm.getD 74 undef = u74 at htm
      generalize tm.getD 75 undef = u75 at htm
      generalize tm.getD 76 undef = u76 at htm
      generalize tm.getD 77 undef = u77 at htm
      generalize tm.getD 78 undef = u78 at htm
      generalize tm.getD 79 undef = u79 at htm
      generalize tm.getD 80 undef = u80 at htm
      generalize tm.getD 81 undef = u81 at htm
      generalize tm.getD 82 undef = u82 at htm
      generalize tm.getD 83 undef = u83 at htm
      generalize tm.getD 84 undef = u84 at htm
      generalize tm.getD 85 undef = u85 at htm
      generalize tm.getD 86 undef = u86 at htm
      generalize tm.getD 87 undef = u87 at htm
      generalize tm.getD 88 undef = u88 at htm
      generalize tm.getD 89 undef = u89 at htm
      generalize tm.getD 90 undef = u90 at htm
      generalize tm.getD 91 undef = u91 at htm
      generalize tm.getD 92 undef = u92 at htm
      generalize tm.getD 93 undef = u93 at htm
      generalize tm.getD 94 undef = u94 at htm
      generalize tm.getD 95 undef = u95 at htm
      generalize tm.getD 96 undef = u96 at htm
      generalize tm.getD 97 undef = u97 at htm
      generalize tm.getD 98 undef = u98 at htm
      generalize tm.getD 99 undef = u99 at htm
      generalize tm.getD 100 undef = u100 at htm
      generalize tm.getD 101 undef = u101 at htm
      generalize tm.getD 102 undef = u102 at htm
      generalize tm.getD 103 undef = u103 at htm
      generalize tm.getD 104 undef = u104 at htm
      generalize tm.getD 105 undef = u105 at htm
      generalize tm.getD 106 undef = u106 at htm
      generalize tm.getD 107 undef = u107 at htm
      generalize tm.getD 108 undef = u108 at htm
      generalize tm.getD 109 undef = u109 at htm
      generalize tm.getD 110 undef = u110 at htm
      generalize tm.getD 111 undef = u111 at htm
      subst htm
      have hbB := ((((hb.setCell (p := ⟨g15, 0, none⟩) hge15 (.int .i64 (ax - px))).setCell (p := ⟨g15, 1, none⟩) hge15 (.int .i64 (ay - py))).setCell (p := ⟨g16, 0, none⟩) hge16 (.int .i64 (bx - qx))).setCell (p := ⟨g16, 1, none⟩) hge16 (.int .i64 (bY - qy)))
      have HV := Lib.hid (And.intro (row_other2 (row_other2 hr15 hne.symm 0 (.int .i64 (bx - qx))) hne.symm 1 (.int .i64 (bY - qy))) (And.intro hr16' (And.intro (H11.out.to hbB) (HRI.out.below hbB))))
      clear hr15 hr16 hr16' hrow15 hrow16 hbB hb f0 f1 f2 f3 m0 m1 m2 m3 HCL HM1 HM2 HRI H11 hJ
      generalize (((w'.setCell ⟨g15, 0, none⟩ (.int .i64 (ax - px))).setCell ⟨g15, 1, none⟩ (.int .i64 (ay - py))).setCell ⟨g16, 0, none⟩ (.int .i64 (bx - qx))).setCell ⟨g16, 1, none⟩ (.int .i64 (bY - qy)) = V at *
      have v0 := HV.out.1.cell (i := 0) rfl
      have v1 := HV.out.1.cell (i := 1) rfl
      have v2 := HV.out.2.1.cell (i := 0) rfl
      have v3 := HV.out.2.1.cell (i := 1) rfl
      go_wp2_with fail
      refine (HFA.out _).mono ?_
      rintro e w12 ⟨rfl, hb12⟩
      have H12 := Lib.hid (And.intro (HV.out.2.2.1.to hb12) (HV.out.2.2.2.below hb12))
      clear hb12 HV v0 v1 v2 v3 HFA hge15 hge16 hne
      obtain ⟨⟨wr1, wr2⟩, wr3, hdec⟩ := HW.out
      clear HW
      cases ok with
      | true =>
        obtain rfl : kl = [] := HKS.out
        clear HKS
        go_wp2_with fail
        refine (HY.out _ H12.out.1.bel).mono ?_
        rintro e w13 ⟨rfl, hb13⟩
        go_wp2
        go_ret
        exact Ret.of rfl (bel_to H12.out.1.bel hb13)
      | false =>
        obtain rfl : kl = [0, 1] := HKS.out
        have hal := bel_al w12 (.cells #[.int .i64 0, .int .i64 1] 3 (0, 0))
        have heq := tequal _ (.slice (some ⟨w12.heap.size, 0, none⟩) 2 2) [0, 1] _ (H12.out.2.below hal) (rdI_two w12 0 1) (by decide)
        have HEQ := Lib.hid heq
        have H13 := Lib.hid (bel_to H12.out.1.bel hal)
        clear HKS heq hal H12
        go_wp2_with fail
        refine (HEQ.out).mono ?_
        rintro e w13 ⟨rfl, hb13⟩
        have H14 := Lib.hid (bel_to H13.out hb13)
        clear hb13 H13 HEQ
        go_wp2_with fail
        refine (HY.out _ H14.out).mono ?_
        rintro e w14 ⟨rfl, hb14⟩
        go_wp2
        go_ret
        exact Ret.of rfl (bel_to H14.out hb14)
end W
end Go.Proofs.YtellemlhhlafcaaGreatDoor
end
