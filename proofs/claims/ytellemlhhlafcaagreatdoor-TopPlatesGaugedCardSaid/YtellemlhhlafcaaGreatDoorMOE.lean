/-
  Chapter 12 of the program: 'apart' of 'Contradiction'.
  Chapters 12 and 45 of the program: 'Contradiction'.
  Chapter 48 of the program: 'goes' of a round trial, 'Goes'. (Printed by wip/otj.py.)
-/
import Derived.Test.YtellemlhhlafcaaGreatDoorMY
import Derived.Test.YtellemlhhlafcaaGreatDoorMR
import Derived.BigRegion
import Derived.Test.YtellemlhhlafcaaGreatDoorMOD
section
namespace Go.Proofs.YtellemlhhlafcaaGreatDoor
open Go Go.RowKit Go.Deep Go.Sort
namespace W
open M
attribute [local go_sem] bs_size bs_toList bs_get bs_extract bs_append bs_lit0 bs_lit1 lit1_bs
set_option maxHeartbeats 1000000
set_option maxRecDepth 20000
theorem kapart (lb sb b : Nat) (vl va : Value) (l : List Dk) (ks : List Nat) (w : World) (hg : Glob w) (hs : NoErrD w b) (hb : Row w sb 151 [.pointer (some ⟨b, 0, none⟩)]) (hp : Row w lb 93 [vl]) (hl : RdK w vl l)
    (ha : RdI w va (ks.map fun (k : Nat) => (k : Int))) (hk : ∀ k ∈ ks, k < l.length) (hn : ks.length ≤ 3) (hS : ∀ d ∈ l, SmD d) :
    Calls Tryz.prog 71 #[va, .pointer (some ⟨lb, 0, none⟩), .pointer (some ⟨sb, 0, none⟩)] w (Ret w (.bool (!(firstD (ks.map (atD l))).isSome))) := by
  have hlm : (ks.map (atD l)).length = ks.length := List.length_map ..
  have HF := Lib.hid (fun v W (hW : Below w.heap.size w W) (hv : RdK W v (ks.map (atD l))) => kfirst v _ b W (hg.of hW) (hs.below' hW) hv (by omega) (fun d hd => by
    obtain ⟨k, hk2, rfl⟩ := List.mem_map.1 hd
    exact hS _ (by rw [atD, Sx.getD_get _ _ (hk k hk2)]; exact List.getElem_mem _)))
  have HTK := Lib.hid (fun i (hi : i < ks.length) => show (ks.map (atD l)).take (i + 1) = (ks.map (atD l)).take i ++ [atD l ks[i]] from by
    rw [List.take_succ_eq_append_getElem (by omega)]
    simp)
  have HFU : Hid ((ks.map (atD l)).take ks.length = ks.map (atD l)) := Lib.hid (List.take_of_length_le (by omega))
  have HLT := Lib.hid (fun i (hi : i ≤ ks.length) => show ((ks.map (atD l)).take i).length ≤ 3 from by rw [List.length_take]; omega)
  have HK := Lib.hid (fun i (hi : i < ks.length) => hk _ (List.getElem_mem hi))
  have HAT := Lib.hid (fun i (hi : i < ks.length) (hj : ks[i] < l.length) => show atD l ks[i] = l[ks[i]] from by rw [atD, Sx.getD_get _ _ hj])
  obtain ⟨A, cap, rfl⟩ := hl.len
  have HL := Lib.hid (And.intro hl (And.intro hp (And.intro hb hs)))
  have hal : ∃ A2 c2, va = .slice A2 ks.length c2 := by
    obtain ⟨A2, c2, e, _⟩ := ha
    rw [List.length_map] at e
    exact ⟨A2, c2, e⟩
  obtain ⟨A2, c2, rfl⟩ := hal
  have HA := Lib.hid ha
  have HKI := Lib.hid (fun i (hi : i < ks.length) => show i < (ks.map fun (k : Nat) => (k : Int)).length ∧ ∀ h, (ks.map fun (k : Nat) => (k : Int))[i]'h = (ks[i] : Int) from ⟨by rw [List.length_map]; exact hi, fun h => by simp⟩)
  clear hl hp hb hs ha hg hk hS hlm
  generalize ks.map (atD l) = dl at *
  go_enter Tryz.func71, Tryz.ntmps71
  go_wp2
  go_loopw [5, 12] (fun ov iv wr => ∃ (i : Nat) (vo : Value), iv = .int .i64 (i : Int) ∧ ov = vo ∧ i ≤ ks.length ∧ Hid (OwnK wr w.heap.size vo (dl.take i) ∧ Below w.heap.size w wr)) (fun _ iv _ => ks.length - (intOf iv).toNat)
  case atStart => exact ⟨0, _, rfl, rfl, by omega, Lib.hid ⟨by rw [List.take_zero]; exact OwnK.nil _ _, Below.refl _ _⟩⟩
  case round =>
    obtain ⟨i, vo, rfl, e4, hi, hk⟩ := hrel
    obtain ⟨VA, vn, vc, hv⟩ := hk.out.1.shape
    subst hv
    subst e4
    by_cases hlt : i < ks.length
    · obtain ⟨hi3, hi4⟩ := HKI.out i hlt
      have hkl := HK.out i hlt
      obtain ⟨b2, o2, rfl, _, hsa⟩ := HA.out.row i hi3
      have a0 := (hk.out.2.cell (block_lt_of_cell (hsa i hi3))).trans (hsa i hi3)
      rw [hi4] at a0
      obtain ⟨bl, ol, rfl, hsl⟩ := RdK.row (n := l.length) (HL.out.1.below hk.out.2) ks[i] hkl
      obtain ⟨v0, v1, v2⟩ := hsl.val ks[i] hkl
      rw [← HAT.out i hlt hkl] at v0 v1 v2
      have l0 := (HL.out.2.1.below' hk.out.2).cell (i := 0) rfl
      have hi0 : (0 : Int) ≤ (i : Int) := by omega
      have hi1 : (i : Int) < (ks.length : Int) := by omega
      have hj0 : (0 : Int) ≤ (ks[i] : Int) := by omega
      have hj1 : (ks[i] : Int) < (l.length : Int) := by omega
      have HTK1 := Lib.hid (HTK.out i hlt)
      have HLT1 := Lib.hid (HLT.out i (by omega))
      clear hsl hkl hi3 hi4 hsa
      generalize atD l ks[i] = dd at *
      generalize ks[i] = kk at *
      have HC := Lib.hid (fun j u hu => srcK_one wr dd j u hu wr.heap.size rfl)
      have hal := bel_al wr (.cells #[.string (bs (R dd.x)), .string (bs (R dd.y)), .string (bs (R dd.s))] 127 (0, 0))
      have H4 := Lib.hid (And.intro (hk.out.1.below hal) (bel_to hk.out.2 hal))
      have HSZ := Lib.hid (H4.out.2.size)
      clear hal hk
      go_wp2_with (at_builtin; refine wpList_app_OwnK (m := [dd]) rfl _ _ rfl rfl rfl rfl H4.out.1 HC.out HSZ.out (by have := HLT1.out; simp only [List.length_cons, List.length_nil]; omega) ?_; intro v2 w4 ho2 hg2)
      have HN := Lib.hid (And.intro (by rw [HTK1.out]; exact ho2 : OwnK w4 w.heap.size v2 (dl.take (i + 1))) (app_belOwnK H4.out.1 H4.out.2 (by omega) hg2))
      clear ho2 hg2 H4 HC HSZ
      go_wp2
      go_roundw
      case rel => exact ⟨i + 1, _, by go_num, rfl, by omega, HN⟩
      case measure => simp [intOf]; omega
    · obtain rfl : ks.length = i := by omega
      have hk2 := hk.out
      rw [HFU.out] at hk2
      have HK2 := Lib.hid hk2
      clear hk hk2 hlt
      obtain ⟨x, hx⟩ : ∃ x, x = (firstD dl).getD ⟨0, 0, 0⟩ := ⟨_, rfl⟩
      rw [← hx] at HF
      generalize (firstD dl).isSome = ok at *
      have s0 := (HL.out.2.2.1.below' HK2.out.2).cell (i := 0) rfl
      clear hx
      go_wp2_with fail
      refine (HF.out _ _ HK2.out.2 HK2.out.1.rd).mono ?_
      rintro e w5 ⟨rfl, hb5⟩
      have hb6 := bel_to (bel_to HK2.out.2 hb5) (bel_al w5 (.cells #[.int .i64 (x.i : Int), .int .i64 (x.j : Int), .int .i64 x.side] 42 (0, 0)))
      have s1 := (HL.out.2.2.1.below' hb6).cell (i := 0) rfl
      have s2 := (HL.out.2.2.2.below' hb6).cell
      have HB := Lib.hid hb6
      clear s0 hb5 hb6 HF HK2
      cases ok with
      | true =>
        go_wp2
        go_ret
        exact Ret.of rfl HB.out
      | false =>
        go_wp2
        go_ret
        exact Ret.of rfl HB.out
end W
end Go.Proofs.YtellemlhhlafcaaGreatDoor
end
section
namespace Go.Proofs.YtellemlhhlafcaaGreatDoor
open Go Go.RowKit Go.Deep Go.Sort
namespace M
def twoOk (l : List Dk) (i j : Nat) : Bool := (firstD [atD l i, atD l j]).isSome
def triOk (l : List Dk) (i j k : Nat) : Bool := (firstD [atD l i, atD l j, atD l k]).isSome
def ConD (l : List Dk) (ks : List Nat) : Prop :=
  (ks = [] ∧ (∀ i j, i < j → j < l.length → twoOk l i j = true) ∧ ∀ i j k, i < j → j < k → k < l.length → triOk l i j k = true) ∨
  (∃ i j, ks = [i, j] ∧ i < j ∧ j < l.length ∧ twoOk l i j = false) ∨
  ∃ i j k, ks = [i, j, k] ∧ i < j ∧ j < k ∧ k < l.length ∧ triOk l i j k = false
end M
theorem rdI_two (w : World) (i j : Nat) : RdI (w.alloc (.cells #[.int .i64 (i : Int), .int .i64 (j : Int)] 3 (0, 0))) (.slice (some ⟨w.heap.size, 0, none⟩) 2 2) (([i, j] : List Nat).map fun (k : Nat) => (k : Int)) := by
  have hr : Row (w.alloc (.cells #[.int .i64 (i : Int), .int .i64 (j : Int)] 3 (0, 0))) w.heap.size 3 [.int .i64 (i : Int), .int .i64 (j : Int)] := rnw
  refine ⟨some ⟨w.heap.size, 0, none⟩, 2, rfl, Or.inr ⟨w.heap.size, 0, rfl, hr.lt, fun k h => ?_⟩⟩
  have hk : k < 2 := h
  rcases (by omega : k = 0 ∨ k = 1) with rfl | rfl
  · exact hr.cell (i := 0) rfl
  · exact hr.cell (i := 1) rfl
theorem rdI_three (w : World) (i j k : Nat) : RdI (w.alloc (.cells #[.int .i64 (i : Int), .int .i64 (j : Int), .int .i64 (k : Int)] 3 (0, 0))) (.slice (some ⟨w.heap.size, 0, none⟩) 3 3) (([i, j, k] : List Nat).map fun (k : Nat) => (k : Int)) := by
  have hr : Row (w.alloc (.cells #[.int .i64 (i : Int), .int .i64 (j : Int), .int .i64 (k : Int)] 3 (0, 0))) w.heap.size 3 [.int .i64 (i : Int), .int .i64 (j : Int), .int .i64 (k : Int)] := rnw
  refine ⟨some ⟨w.heap.size, 0, none⟩, 3, rfl, Or.inr ⟨w.heap.size, 0, rfl, hr.lt, fun q h => ?_⟩⟩
  have hk : q < 3 := h
  rcases (by omega : q = 0 ∨ q = 1 ∨ q = 2) with rfl | rfl | rfl
  · exact hr.cell (i := 0) rfl
  · exact hr.cell (i := 1) rfl
  · exact hr.cell (i := 2) rfl
namespace W
open M
attribute [local go_sem] bs_size bs_toList bs_get bs_extract bs_append bs_lit0 bs_lit1 lit1_bs
set_option maxHeartbeats 1000000
set_option maxRecDepth 20000
def ConP (l : List Dk) (w : World) (e : Ending) (w' : World) : Prop := ∃ v ks, e = .returned (.tuple #[v, .int .i64 0]) ∧ ConD l ks ∧ RdI w' v (ks.map fun (k : Nat) => (k : Int)) ∧ Below w.heap.size w w'
theorem kcontra (vl : Value) (l : List Dk) (w : World) (hg : Glob w) (hl : RdK w vl l) (hn : l.length ≤ 64) (h0 : 0 < l.length) (hS : ∀ d ∈ l, SmD d) :
    Calls Tryz.prog 33 #[vl] w (ConP l w) := by
  have HLI := Lib.hid (fun W (hW : Below w.heap.size w W) => klist vl l W (hg.of hW) (hl.below hW) hn h0 hS)
  have HAP := Lib.hid (fun lb sb b va ks W (hW : Below w.heap.size w W) (h1 : NoErrD W b) (h2 : Row W sb 151 [.pointer (some ⟨b, 0, none⟩)]) (h3 : Row W lb 93 [vl]) (h4 : RdI W va (ks.map fun (k : Nat) => (k : Int))) (h5 : ∀ k ∈ ks, k < l.length) (h6 : ks.length ≤ 3) =>
    kapart lb sb b vl va l ks W (hg.of hW) h1 h2 h3 (hl.below hW) h4 h5 h6 hS)
  obtain ⟨A, cap, rfl⟩ := hl.len
  have HR := Lib.hid (And.intro (rnw (w := w) (t := 93) (xs := [.slice A l.length cap])) (bel_al w (.cells #[.slice A l.length cap] 93 (0, 0))))
  have HN := Lib.hid (And.intro hn h0)
  have l0 := HR.out.1.cell (i := 0) rfl
  have hmf : ∀ (fn : Fn) (first cap : Array Value) (w : World), (Instr.makeFunc fn first cap).run Tryz.prog w = .ok (.func fn first cap) w := fun _ _ _ _ => rfl
  have e1 : ∀ args w, (callFunc 71 args).run Tryz.prog w = .ok (.enter 71 args) w := enters_of Tryz.func71 (by kernel_rfl) rfl
  clear hg hl hS hn h0
  go_enter Tryz.func33, Tryz.ntmps33
  go_wp2_with fail
  refine (HLI.out _ HR.out.2).mono ?_
  rintro e w1 ⟨rfl, hb1⟩
  have H1 := Lib.hid (And.intro (HR.out.1.below' hb1) (bel_to HR.out.2 hb1))
  clear hb1 HR l0 HLI
  have l0 := H1.out.1.cell (i := 0) rfl
  have hal := bel_al2 w1 (.cells #[.int .i64 0] 153 (0, 0)) (.cells #[.pointer (some ⟨w1.heap.size, 0, none⟩)] 151 (0, 0))
  have hns : NoErrD ((w1.alloc (.cells #[.int .i64 0] 153 (0, 0))).alloc (.cells #[.pointer (some ⟨w1.heap.size, 0, none⟩)] 151 (0, 0))) w1.heap.size := rnw.alloc _
  have hsb : Row ((w1.alloc (.cells #[.int .i64 0] 153 (0, 0))).alloc (.cells #[.pointer (some ⟨w1.heap.size, 0, none⟩)] 151 (0, 0))) (w1.heap.size + 1) 151 [.pointer (some ⟨w1.heap.size, 0, none⟩)] := rnew0 (World.size_alloc _ _).symm
  have H2 := Lib.hid (And.intro (H1.out.1.below' hal) (And.intro (bel_to H1.out.2 hal) (And.intro hns hsb)))
  have l1 := H2.out.1.cell (i := 0) rfl
  clear hal hns hsb l0 H1
  go_wp2_with fail
  generalize (w1.alloc (.cells #[.int .i64 0] 153 (0, 0))).alloc (.cells #[.pointer (some ⟨w1.heap.size, 0, none⟩)] 151 (0, 0)) = V at *
  generalize w1.heap.size + 1 = sb at *
  generalize w1.heap.size = bb at *
  clear l1
  have HAV := Lib.hid (fun va ks W (hW : Below V.heap.size V W) (h4 : RdI W va (ks.map fun (k : Nat) => (k : Int))) (h5 : ∀ k ∈ ks, k < l.length) (h6 : ks.length ≤ 3) =>
    HAP.out w.heap.size sb bb va ks W (bel_to H2.out.2.1 hW) (H2.out.2.2.1.below' hW) (H2.out.2.2.2.below' hW) (H2.out.1.below' hW) h4 h5 h6)
  clear HAP
  go_loopw [22] (fun iv wr => ∃ i : Nat, iv = .int .i64 (i : Int) ∧ i ≤ l.length ∧ Hid (Below V.heap.size V wr ∧ ∀ p q, p < i → p < q → q < l.length → twoOk l p q = true)) (fun iv _ => l.length - (intOf iv).toNat)
  case atStart => exact ⟨0, rfl, by omega, Lib.hid ⟨Below.refl _ _, fun p q h => by omega⟩⟩
  case round =>
    obtain ⟨i, rfl, hi, hk⟩ := hrel
    by_cases hlt : i < l.length
    · have h64 := HN.out.1
      have hi0 : (0 : Int) ≤ (i : Int) := by omega
      have hi1 : (i : Int) < (l.length : Int) := by omega
      have hwi : wrap64 ((i : Int) + 1) = (i : Int) + 1 := by unfold wrap64; omega
      have HI := Lib.hid hk.out
      clear hk
      go_wp2_with fail
      go_loopw [8] (fun jv wr => ∃ j : Nat, jv = .int .i64 (j : Int) ∧ i < j ∧ j ≤ l.length ∧ Hid (Below V.heap.size V wr ∧ ∀ q, i < q → q < j → twoOk l i q = true)) (fun jv _ => l.length - (intOf jv).toNat)
      case atStart => exact ⟨i + 1, by go_num, by omega, by omega, Lib.hid ⟨HI.out.1, fun q h1 h2 => by omega⟩⟩
      case round =>
        obtain ⟨j, rfl, hij, hj, hk⟩ := hrel
        have l2 := (H2.out.1.below' hk.out.1).cell (i := 0) rfl
        by_cases hjt : j < l.length
        · have hj0 : (0 : Int) ≤ (j : Int) := by omega
          have hj1 : (j : Int) < (l.length : Int) := by omega
          have hwj : wrap64 ((j : Int) + 1) = (j : Int) + 1 := by unfold wrap64; omega
          have hal := bel_al wr (.cells #[.int .i64 (i : Int), .int .i64 (j : Int)] 3 (0, 0))
          have HB := Lib.hid (And.intro (bel_to hk.out.1 hal) hk.out.2)
          obtain ⟨to, hto⟩ : ∃ to, to = twoOk l i j := ⟨_, rfl⟩
          have hc := HAV.out _ [i, j] _ HB.out.1 (rdI_two wr i j) (by simp; omega) (by simp)
          rw [show (firstD (([i, j] : List Nat).map (atD l))).isSome = to from hto.symm] at hc
          have HC := Lib.hid hc
          have HT := Lib.hid hto
          clear hc hto hal hk
          go_wp2_with fail
          refine (HC.out).mono ?_
          rintro e w5 ⟨rfl, hb5⟩
          have HB5 := Lib.hid (And.intro (bel_to HB.out.1 hb5) HB.out.2)
          clear hb5 HB HC
          cases to with
          | true =>
            go_wp2
            go_roundw
            case rel => exact ⟨j + 1, by go_num, by omega, by omega, Lib.hid ⟨HB5.out.1, fun q h1 h2 => by
              by_cases hq : q = j
              · rw [hq]; exact HT.out.symm
              · exact HB5.out.2 q h1 (by omega)⟩⟩
            case measure => simp [intOf]; omega
          | false =>
            go_wp2
            go_ret2
            exact ⟨_, [i, j], rfl, Or.inr (Or.inl ⟨i, j, rfl, hij, hjt, HT.out.symm⟩), rdI_two _ i j, bel_to H2.out.2.1 (bel_to HB5.out.1 (bel_al _ _))⟩
        · obtain rfl : j = l.length := by omega
          have HO := Lib.hid hk.out
          clear hk
          go_wp2
          go_roundw
          case rel => exact ⟨i + 1, by go_num, by omega, Lib.hid ⟨HO.out.1, fun p q h1 h2 h3 => by
            by_cases hp : p = i
            · rw [hp]; exact HO.out.2 q (by omega) h3
            · exact HI.out.2 p q (by omega) h2 h3⟩⟩
          case measure => simp [intOf]; omega
    · obtain rfl : i = l.length := by omega
      have HP := Lib.hid (fun p q (h1 : p < q) (h2 : q < l.length) => hk.out.2 p q (by omega) h1 h2)
      have HV := Lib.hid hk.out.1
      clear hk hlt
      have l2 := (H2.out.1.below' HV.out).cell (i := 0) rfl
      go_wp2_with fail
      clear l2
      rename_i V0
      go_loopw [44] (fun iv wr => ∃ i : Nat, iv = .int .i64 (i : Int) ∧ i ≤ l.length ∧ Hid (Below V.heap.size V wr ∧ ∀ p q r, p < i → p < q → q < r → r < l.length → triOk l p q r = true)) (fun iv _ => l.length - (intOf iv).toNat)
      case atStart => exact ⟨0, rfl, by omega, Lib.hid ⟨HV.out, fun p q r h => by omega⟩⟩
      case round =>
        obtain ⟨i, rfl, hi, hk⟩ := hrel
        by_cases hlt : i < l.length
        · have h64 := HN.out.1
          have hi0 : (0 : Int) ≤ (i : Int) := by omega
          have hi1 : (i : Int) < (l.length : Int) := by omega
          have hwi : wrap64 ((i : Int) + 1) = (i : Int) + 1 := by unfold wrap64; omega
          have HI := Lib.hid hk.out
          clear hk
          go_wp2_with fail
          go_loopw [10] (fun jv wr => ∃ j : Nat, jv = .int .i64 (j : Int) ∧ i < j ∧ j ≤ l.length ∧ Hid (Below V.heap.size V wr ∧ ∀ q r, i < q → q < j → q < r → r < l.length → triOk l i q r = true)) (fun jv _ => l.length - (intOf jv).toNat)
          case atStart => exact ⟨i + 1, by go_num, by omega, by omega, Lib.hid ⟨HI.out.1, fun q r h1 h2 => by omega⟩⟩
          case round =>
            obtain ⟨j, rfl, hij, hj, hk⟩ := hrel
            have l2 := (H2.out.1.below' hk.out.1).cell (i := 0) rfl
            by_cases hjt : j < l.length
            · have hj0 : (0 : Int) ≤ (j : Int) := by omega
              have hj1 : (j : Int) < (l.length : Int) := by omega
              have hwj : wrap64 ((j : Int) + 1) = (j : Int) + 1 := by unfold wrap64; omega
              have HJ := Lib.hid hk.out
              clear hk
              go_wp2_with fail
              clear l2
              go_loopw [11] (fun rv wr => ∃ r : Nat, rv = .int .i64 (r : Int) ∧ j < r ∧ r ≤ l.length ∧ Hid (Below V.heap.size V wr ∧ ∀ q, j < q → q < r → triOk l i j q = true)) (fun rv _ => l.length - (intOf rv).toNat)
              case atStart => exact ⟨j + 1, by go_num, by omega, by omega, Lib.hid ⟨HJ.out.1, fun q h1 h2 => by omega⟩⟩
              case round =>
                obtain ⟨r, rfl, hjr, hr, hk⟩ := hrel
                have l2 := (H2.out.1.below' hk.out.1).cell (i := 0) rfl
                by_cases hrt : r < l.length
                · have hr0 : (0 : Int) ≤ (r : Int) := by omega
                  have hr1 : (r : Int) < (l.length : Int) := by omega
                  have hwr : wrap64 ((r : Int) + 1) = (r : Int) + 1 := by unfold wrap64; omega
                  have hal := bel_al wr (.cells #[.int .i64 (i : Int), .int .i64 (j : Int), .int .i64 (r : Int)] 3 (0, 0))
                  have HB := Lib.hid (And.intro (bel_to hk.out.1 hal) hk.out.2)
                  obtain ⟨to, hto⟩ : ∃ to, to = triOk l i j r := ⟨_, rfl⟩
                  have hc := HAV.out _ [i, j, r] _ HB.out.1 (rdI_three wr i j r) (by simp; omega) (by simp)
                  rw [show (firstD (([i, j, r] : List Nat).map (atD l))).isSome = to from hto.symm] at hc
                  have HC := Lib.hid hc
                  have HT := Lib.hid hto
                  clear hc hto hal hk
                  go_wp2_with fail
                  refine (HC.out).mono ?_
                  rintro e w5 ⟨rfl, hb5⟩
                  have HB5 := Lib.hid (And.intro (bel_to HB.out.1 hb5) HB.out.2)
                  clear hb5 HB HC
                  cases to with
                  | true =>
                    go_wp2
                    go_roundw
                    case rel => exact ⟨r + 1, by go_num, by omega, by omega, Lib.hid ⟨HB5.out.1, fun q h1 h2 => by
                      by_cases hq : q = r
                      · rw [hq]; exact HT.out.symm
                      · exact HB5.out.2 q h1 (by omega)⟩⟩
                    case measure => simp [intOf]; omega
                  | false =>
                    go_wp2
                    go_ret2
                    exact ⟨_, [i, j, r], rfl, Or.inr (Or.inr ⟨i, j, r, rfl, hij, hjr, hrt, HT.out.symm⟩), rdI_three _ i j r, bel_to H2.out.2.1 (bel_to HB5.out.1 (bel_al _ _))⟩
                · obtain rfl : r = l.length := by omega
                  have HO := Lib.hid hk.out
                  clear hk
                  go_wp2
                  go_roundw
                  case rel => exact ⟨j + 1, by go_num, by omega, by omega, Lib.hid ⟨HO.out.1, fun q r h1 h2 h3 h4 => by
                    by_cases hq : q = j
                    · rw [hq]; exact HO.out.2 r (by omega) h4
                    · exact HJ.out.2 q r h1 (by omega) h3 h4⟩⟩
                  case measure => simp [intOf]; omega
            · obtain rfl : j = l.length := by omega
              have HO := Lib.hid hk.out
              clear hk
              go_wp2
              go_roundw
              case rel => exact ⟨i + 1, by go_num, by omega, Lib.hid ⟨HO.out.1, fun p q r h1 h2 h3 h4 => by
                by_cases hp : p = i
                · rw [hp]; exact HO.out.2 q r (by omega) (by omega) h3 h4
                · exact HI.out.2 p q r (by omega) h2 h3 h4⟩⟩
              case measure => simp [intOf]; omega
        · obtain rfl : i = l.length := by omega
          have HQ := Lib.hid (fun p q r (h1 : p < q) (h2 : q < r) (h3 : r < l.length) => hk.out.2 p q r (by omega) h1 h2 h3)
          have HW := Lib.hid hk.out.1
          have x0 := (H2.out.2.2.2.below' HW.out).cell (i := 0) rfl
          have x1 := (H2.out.2.2.1.below' HW.out).cell
          clear hk hlt
          go_wp2_with fail
          go_region
          go_wp2
          go_ret2
          exact ⟨_, [], rfl, Or.inl ⟨rfl, HP.out, HQ.out⟩, ⟨_, _, rfl, Or.inl rfl⟩, RowKit.Below.drew (bel_to H2.out.2.1 HW.out)⟩
end W
end Go.Proofs.YtellemlhhlafcaaGreatDoor
end
section
namespace Go.Proofs.YtellemlhhlafcaaGreatDoor
open Go Go.RowKit Go.Deep Go.Sort
theorem six_store {w : World} {A : Nat} {t : TypeId} {x0 x1 x2 x3 x4 x5 : Value} (y0 y1 y2 y3 y4 y5 : Value) (hr : Row w A t [x0, x1, x2, x3, x4, x5]) :
    ((w).frozen? ⟨A, 0, none⟩ = false ∧ (w).cell? ⟨A, 0, none⟩ = some x0) ∧
    (((w).setCell ⟨A, 0, none⟩ y0).frozen? ⟨A, 1, none⟩ = false ∧ ((w).setCell ⟨A, 0, none⟩ y0).cell? ⟨A, 1, none⟩ = some x1) ∧
    ((((w).setCell ⟨A, 0, none⟩ y0).setCell ⟨A, 1, none⟩ y1).frozen? ⟨A, 2, none⟩ = false ∧ (((w).setCell ⟨A, 0, none⟩ y0).setCell ⟨A, 1, none⟩ y1).cell? ⟨A, 2, none⟩ = some x2) ∧
    (((((w).setCell ⟨A, 0, none⟩ y0).setCell ⟨A, 1, none⟩ y1).setCell ⟨A, 2, none⟩ y2).frozen? ⟨A, 3, none⟩ = false ∧ ((((w).setCell ⟨A, 0, none⟩ y0).setCell ⟨A, 1, none⟩ y1).setCell ⟨A, 2, none⟩ y2).cell? ⟨A, 3, none⟩ = some x3) ∧
    ((((((w).setCell ⟨A, 0, none⟩ y0).setCell ⟨A, 1, none⟩ y1).setCell ⟨A, 2, none⟩ y2).setCell ⟨A, 3, none⟩ y3).frozen? ⟨A, 4, none⟩ = false ∧ (((((w).setCell ⟨A, 0, none⟩ y0).setCell ⟨A, 1, none⟩ y1).setCell ⟨A, 2, none⟩ y2).setCell ⟨A, 3, none⟩ y3).cell? ⟨A, 4, none⟩ = some x4) ∧
    (((((((w).setCell ⟨A, 0, none⟩ y0).setCell ⟨A, 1, none⟩ y1).setCell ⟨A, 2, none⟩ y2).setCell ⟨A, 3, none⟩ y3).setCell ⟨A, 4, none⟩ y4).frozen? ⟨A, 5, none⟩ = false ∧ ((((((w).setCell ⟨A, 0, none⟩ y0).setCell ⟨A, 1, none⟩ y1).setCell ⟨A, 2, none⟩ y2).setCell ⟨A, 3, none⟩ y3).setCell ⟨A, 4, none⟩ y4).cell? ⟨A, 5, none⟩ = some x5) ∧
    Row (((((((w).setCell ⟨A, 0, none⟩ y0).setCell ⟨A, 1, none⟩ y1).setCell ⟨A, 2, none⟩ y2).setCell ⟨A, 3, none⟩ y3).setCell ⟨A, 4, none⟩ y4).setCell ⟨A, 5, none⟩ y5) A t [y0, y1, y2, y3, y4, y5] := by
  have h0 := hr
  have h1 := h0.set 0 y0
  have h2 := h1.set 1 y1
  have h3 := h2.set 2 y2
  have h4 := h3.set 3 y3
  have h5 := h4.set 4 y4
  have h6 := h5.set 5 y5
  exact ⟨⟨h0.free 0, h0.cell rfl⟩, ⟨h1.free 1, h1.cell rfl⟩, ⟨h2.free 2, h2.cell rfl⟩, ⟨h3.free 3, h3.cell rfl⟩, ⟨h4.free 4, h4.cell rfl⟩, ⟨h5.free 5, h5.cell rfl⟩, h6⟩
theorem six_below {w0 w : World} {A : Nat} (y0 y1 y2 y3 y4 y5 : Value) (hb : Below w0.heap.size w0 w) (hA : w0.heap.size ≤ A) : Below w0.heap.size w0 (((((((w).setCell ⟨A, 0, none⟩ y0).setCell ⟨A, 1, none⟩ y1).setCell ⟨A, 2, none⟩ y2).setCell ⟨A, 3, none⟩ y3).setCell ⟨A, 4, none⟩ y4).setCell ⟨A, 5, none⟩ y5) :=
  ((((((hb.setCell (p := ⟨A, 0, none⟩) hA y0).setCell (p := ⟨A, 1, none⟩) hA y1).setCell (p := ⟨A, 2, none⟩) hA y2).setCell (p := ⟨A, 3, none⟩) hA y3).setCell (p := ⟨A, 4, none⟩) hA y4).setCell (p := ⟨A, 5, none⟩) hA y5)
abbrev prC (i j s : Int) (a b c : Value) : List Value := [.int .i64 i, .int .i64 j, .int .i64 s, a, b, c]
namespace M
def witT (l : List (To × Cc)) : Wn := (firstD (l.map dkT)).getD ⟨0, 0, 0⟩
theorem goT_neg {ts : List To} {cs : List Cc} (h : ∃ i, ∃ (h1 : i < ts.length) (h2 : i < cs.length), plyT (ts[i], cs[i]) < 0) : goT (ts.zip cs) = false := by
  obtain ⟨i, h1, h2, h3⟩ := h
  refine Bool.eq_false_iff.2 fun hg => ?_
  unfold goT at hg
  rw [Bool.and_eq_true, List.all_eq_true] at hg
  have hm : (ts[i], cs[i]) ∈ ts.zip cs := List.mem_iff_getElem.2 ⟨i, by rw [List.length_zip]; omega, by simp⟩
  exact absurd (of_decide_eq_true (hg.1 _ hm)) (by omega)
theorem goT_pos {ts : List To} {cs : List Cc} (hl : cs.length = ts.length) (h : ∀ i (h1 : i < ts.length) (h2 : i < cs.length), 0 ≤ plyT (ts[i], cs[i])) : goT (ts.zip cs) = (firstD ((ts.zip cs).map dkT)).isSome := by
  unfold goT
  rw [List.all_eq_true.2 (fun p hp => ?_), Bool.true_and]
  obtain ⟨i, hi, rfl⟩ := List.mem_iff_getElem.1 hp
  rw [List.length_zip] at hi
  rw [List.getElem_zip]
  exact decide_eq_true (h i (by omega) (by omega))
end M
namespace W
open M
attribute [local go_sem] bs_size bs_toList bs_get bs_extract bs_append bs_lit0 bs_lit1 lit1_bs
set_option maxHeartbeats 1000000
set_option maxRecDepth 20000
def GoQ (go : Bool) (x : Wn) (w : World) (e : Ending) (w' : World) : Prop := ∃ (i j s : Int) (A : Option Addr) (n c : Nat), e = .returned (.tuple #[.agg #[.int .i64 i, .int .i64 j, .int .i64 s, .slice none 0 0, .slice A n c, .slice none 0 0], .bool go, .int .i64 0]) ∧
  (go = true → i = (x.i : Int) ∧ j = (x.j : Int) ∧ s = x.side) ∧ Below w.heap.size w w'
theorem GoQ.mk {go : Bool} {x : Wn} {w w' : World} {i j s : Int} {A : Option Addr} {n c : Nat} (h : go = true → i = (x.i : Int) ∧ j = (x.j : Int) ∧ s = x.side) (hb : Below w.heap.size w w') :
    GoQ go x w (.returned (.tuple #[.agg #[.int .i64 i, .int .i64 j, .int .i64 s, .slice none 0 0, .slice A n c, .slice none 0 0], .bool go, .int .i64 0])) w' := ⟨i, j, s, A, n, c, rfl, h, hb⟩
def GoP (l : List (To × Cc)) (w : World) : Ending → World → Prop := GoQ (goT l) (witT l) w
theorem tgoes (vt vc : Value) (ts : List To) (cs : List Cc) (w : World) (hg : Glob w) (ht : RdTL w vt ts) (hc : RdC w vc cs) (h : RtR ts cs) : Calls Tryz.prog 292 #[trV vt vc] w (GoP (ts.zip cs) w) := by
  have HTI := Lib.hid (fun W (hW : Below w.heap.size w W) => ttight vt vc ts cs W (ht.below hW) (hc.below hW) h)
  have HZO := Lib.hid (fun W (hW : Below w.heap.size w W) => tzones vt vc ts cs W (hg.of hW) (ht.below hW) (hc.below hW) h)
  have hS : ∀ d ∈ (ts.zip cs).map dkT, SmD d := fun d hd => by
    obtain ⟨p, hp, rfl⟩ := List.mem_map.1 hd
    obtain ⟨i, hi, rfl⟩ := List.mem_iff_getElem.1 hp
    rw [List.length_zip] at hi
    rw [List.getElem_zip]
    exact dkT_sm (h.ok i (by omega) (by omega))
  have hlen : ((ts.zip cs).map dkT).length = ts.length := by rw [List.length_map, List.length_zip, h.len]; omega
  have HCO := Lib.hid (fun vl W (hW : Below w.heap.size w W) (hl : RdK W vl ((ts.zip cs).map dkT)) => kcommon vl _ W (hg.of hW) hl (by rw [hlen]; have := h.h1; omega) (by rw [hlen]; have := h.h0; omega) hS)
  have HCN := Lib.hid (fun vl W (hW : Below w.heap.size w W) (hl : RdK W vl ((ts.zip cs).map dkT)) => kcontra vl _ W (hg.of hW) hl (by rw [hlen]; have := h.h1; omega) (by rw [hlen]; have := h.h0; omega) hS)
  have HNE := Lib.hid (@goT_neg ts cs)
  have HPO := Lib.hid (goT_pos h.len)
  obtain ⟨x, hx⟩ : ∃ x, x = witT (ts.zip cs) := ⟨_, rfl⟩
  unfold GoP
  rw [← hx]
  unfold witT at hx
  generalize goT (ts.zip cs) = go at *
  generalize (ts.zip cs).map dkT = dl at *
  rw [← hx] at HCO
  generalize (firstD dl).isSome = ok at *
  have h1 := h.h0
  obtain ⟨At, ct, rfl⟩ := ht.len
  obtain ⟨Ac, cc, rfl⟩ := hc.len
  have hb0 := bel_al2 w (.cells #[.bool false, .slice At ts.length ct, .slice Ac cs.length cc] 171 (0, 0)) (.cells #[.int .i64 0, .int .i64 0, .int .i64 0, .slice none 0 0, .slice none 0 0, .slice none 0 0] 62 (0, 0))
  have hr1 : Row ((w.alloc (.cells #[.bool false, .slice At ts.length ct, .slice Ac cs.length cc] 171 (0, 0))).alloc (.cells #[.int .i64 0, .int .i64 0, .int .i64 0, .slice none 0 0, .slice none 0 0, .slice none 0 0] 62 (0, 0))) w.heap.size 171 [.bool false, .slice At ts.length ct, .slice Ac cs.length cc] := rnw.alloc _
  have hr2 : Row ((w.alloc (.cells #[.bool false, .slice At ts.length ct, .slice Ac cs.length cc] 171 (0, 0))).alloc (.cells #[.int .i64 0, .int .i64 0, .int .i64 0, .slice none 0 0, .slice none 0 0, .slice none 0 0] 62 (0, 0))) (w.heap.size + 1) 62 (prC 0 0 0 (.slice none 0 0) (.slice none 0 0) (.slice none 0 0)) := rnew0 (World.size_alloc _ _).symm
  have HR := Lib.hid (And.intro hr1 (And.intro hr2 hb0))
  clear hr1 hr2 hb0 hx ht hc hg h hS hlen
  unfold trV
  unfold trV at HTI HZO
  have r0 := HR.out.1.cell (i := 0) rfl
  have r1 := HR.out.1.cell (i := 1) rfl
  have r2 := HR.out.1.cell (i := 2) rfl
  go_enter Tryz.func292, Tryz.ntmps292
  go_wp2_with fail
  refine (HTI.out _ HR.out.2.2).mono ?_
  rintro e w1 ⟨k, rfl, hk, hb1⟩
  have H1 := Lib.hid (And.intro (HR.out.1.below' hb1) (And.intro (HR.out.2.1.below' hb1) (bel_to HR.out.2.2 hb1)))
  clear hb1 HR HTI r0 r1 r2
  rcases hk with ⟨rfl, hp⟩ | ⟨hk0, hn⟩
  · have HGO := Lib.hid (HPO.out hp)
    clear hp HNE HPO
    have r0 := H1.out.1.cell (i := 0) rfl
    have r1 := H1.out.1.cell (i := 1) rfl
    have r2 := H1.out.1.cell (i := 2) rfl
    go_wp2_with fail
    refine (HZO.out _ H1.out.2.2).mono ?_
    rintro e w2 ⟨vl, rfl, ho, hb2⟩
    have H2 := Lib.hid (And.intro (H1.out.2.1.below' hb2) (And.intro (bel_to H1.out.2.2 hb2) ho.rd))
    obtain ⟨VA, vn, vc, hv⟩ := ho.shape
    subst hv
    clear hb2 ho H1 HZO r0 r1 r2
    go_wp2_with fail
    refine (HCO.out _ _ H2.out.2.1 H2.out.2.2).mono ?_
    rintro e w3 ⟨rfl, hb3⟩
    have H3 := Lib.hid (And.intro (H2.out.1.below' hb3) (And.intro (bel_to H2.out.2.1 hb3) (H2.out.2.2.below hb3)))
    clear hb3 H2 HCO
    have hal := bel_al w3 (.cells #[.int .i64 (x.i : Int), .int .i64 (x.j : Int), .int .i64 x.side] 42 (0, 0))
    have hrn : Row (w3.alloc (.cells #[.int .i64 (x.i : Int), .int .i64 (x.j : Int), .int .i64 x.side] 42 (0, 0))) w3.heap.size 42 [.int .i64 (x.i : Int), .int .i64 (x.j : Int), .int .i64 x.side] := rnw
    have H4 := Lib.hid (And.intro (H3.out.1.below' hal) (And.intro (bel_to H3.out.2.1 hal) (And.intro hrn (H3.out.2.2.below hal))))
    clear hal hrn H3
    cases ok with
    | true =>
      have x0 := H4.out.2.2.1.cell (i := 0) rfl
      have x1 := H4.out.2.2.1.cell (i := 1) rfl
      have x2 := H4.out.2.2.1.cell (i := 2) rfl
      have hg := HGO.out
      subst hg
      obtain ⟨⟨f0, m0⟩, ⟨f1, m1⟩, ⟨f2, m2⟩, ⟨f3, m3⟩, ⟨f4, m4⟩, ⟨f5, m5⟩, hrow⟩ := six_store (.int .i64 (x.i : Int)) (.int .i64 (x.j : Int)) (.int .i64 x.side) (.slice none 0 0) (.slice none 0 0) (.slice none 0 0) (And.intro H4.out.1 H4.out.2.1).1
      have HQ := Lib.hid (And.intro hrow (six_below (.int .i64 (x.i : Int)) (.int .i64 (x.j : Int)) (.int .i64 x.side) (.slice none 0 0) (.slice none 0 0) (.slice none 0 0) (And.intro H4.out.1 H4.out.2.1).2 (A := w.heap.size + 1) (by omega)))
      clear hrow
      clear H4 HCN HGO
      go_wp2
      have q0 := HQ.out.1.cell (i := 0) rfl
      have q1 := HQ.out.1.cell (i := 1) rfl
      have q2 := HQ.out.1.cell (i := 2) rfl
      have q3 := HQ.out.1.cell (i := 3) rfl
      have q4 := HQ.out.1.cell (i := 4) rfl
      have q5 := HQ.out.1.cell (i := 5) rfl
      refine bodyPost_ret (v := .tuple #[.agg #[.int .i64 (x.i : Int), .int .i64 (x.j : Int), .int .i64 x.side, .slice none 0 0, .slice none 0 0, .slice none 0 0], .bool true, .int .i64 0]) (by simp [results, Tryz.results292, go_sem, q0, q1, q2, q3, q4, q5]) rfl (GoQ.mk (fun _ => ⟨rfl, rfl, rfl⟩) HQ.out.2)
    | false =>
      have hg := HGO.out
      subst hg
      go_wp2_with fail
      refine (HCN.out _ _ H4.out.2.1 H4.out.2.2.2).mono ?_
      rintro e w5 ⟨vk, ks, rfl, _, hrk, hb5⟩
      have H5 := Lib.hid (And.intro (H4.out.1.below' hb5) (bel_to H4.out.2.1 hb5))
      obtain ⟨KA, kn, hkv⟩ := hrk.len
      generalize (ks.map fun (k : Nat) => (k : Int)).length = kl at hkv
      subst hkv
      clear hb5 hrk H4 HCN HGO
      obtain ⟨⟨f0, m0⟩, ⟨f1, m1⟩, ⟨f2, m2⟩, ⟨f3, m3⟩, ⟨f4, m4⟩, ⟨f5, m5⟩, hrow⟩ := six_store (.int .i64 0) (.int .i64 0) (.int .i64 0) (.slice none 0 0) (.slice KA kl kn) (.slice none 0 0) (And.intro H5.out.1 H5.out.2).1
      have HQ := Lib.hid (And.intro hrow (six_below (.int .i64 0) (.int .i64 0) (.int .i64 0) (.slice none 0 0) (.slice KA kl kn) (.slice none 0 0) (And.intro H5.out.1 H5.out.2).2 (A := w.heap.size + 1) (by omega)))
      clear hrow
      clear H5
      go_wp2
      have q0 := HQ.out.1.cell (i := 0) rfl
      have q1 := HQ.out.1.cell (i := 1) rfl
      have q2 := HQ.out.1.cell (i := 2) rfl
      have q3 := HQ.out.1.cell (i := 3) rfl
      have q4 := HQ.out.1.cell (i := 4) rfl
      have q5 := HQ.out.1.cell (i := 5) rfl
      refine bodyPost_ret (v := .tuple #[.agg #[.int .i64 0, .int .i64 0, .int .i64 0, .slice none 0 0, .slice KA kl kn, .slice none 0 0], .bool false, .int .i64 0]) (by simp [results, Tryz.results292, go_sem, q0, q1, q2, q3, q4, q5]) rfl (GoQ.mk (fun h => (by cases h)) HQ.out.2)
  · have hg := HNE.out hn
    subst hg
    have d1 : decide (0 ≤ k) = true := decide_eq_true hk0
    have hal := bel_al w1 (.cells #[.int .i64 k] 3 (0, 0))
    have H2 := Lib.hid (And.intro (H1.out.2.1.below' hal) (bel_to H1.out.2.2 hal))
    clear hal H1 hn HNE HPO HCO HCN HZO
    obtain ⟨⟨f0, m0⟩, ⟨f1, m1⟩, ⟨f2, m2⟩, ⟨f3, m3⟩, ⟨f4, m4⟩, ⟨f5, m5⟩, hrow⟩ := six_store (.int .i64 0) (.int .i64 0) (.int .i64 0) (.slice none 0 0) (.slice (some ⟨w1.heap.size, 0, none⟩) 1 1) (.slice none 0 0) (And.intro H2.out.1 H2.out.2).1
    have HQ := Lib.hid (And.intro hrow (six_below (.int .i64 0) (.int .i64 0) (.int .i64 0) (.slice none 0 0) (.slice (some ⟨w1.heap.size, 0, none⟩) 1 1) (.slice none 0 0) (And.intro H2.out.1 H2.out.2).2 (A := w.heap.size + 1) (by omega)))
    clear hrow
    clear H2
    go_wp2
    have q0 := HQ.out.1.cell (i := 0) rfl
    have q1 := HQ.out.1.cell (i := 1) rfl
    have q2 := HQ.out.1.cell (i := 2) rfl
    have q3 := HQ.out.1.cell (i := 3) rfl
    have q4 := HQ.out.1.cell (i := 4) rfl
    have q5 := HQ.out.1.cell (i := 5) rfl
    refine bodyPost_ret (v := .tuple #[.agg #[.int .i64 0, .int .i64 0, .int .i64 0, .slice none 0 0, .slice (some ⟨w1.heap.size, 0, none⟩) 1 1, .slice none 0 0], .bool false, .int .i64 0]) (by simp [results, Tryz.results292, go_sem, q0, q1, q2, q3, q4, q5]) rfl (GoQ.mk (fun h => (by cases h)) HQ.out.2)
theorem tjudged (vt vc : Value) (A B : Option Addr) (n m c d : Nat) (w : World) (h1 : vt = .slice A n c) (h2 : vc = .slice B m d) : Calls Tryz.prog 41 #[trV vt vc] w (Ret w (.iface 171 (trV vt vc))) := by
  subst h1
  subst h2
  have hb0 := bel_al w (.cells #[.bool false, .slice A n c, .slice B m d] 55 (0, 0))
  unfold trV
  go_enter Tryz.func41, Tryz.ntmps41
  go_wp2
  go_ret
  exact Ret.of rfl hb0
theorem tGoes (vt vc : Value) (ts : List To) (cs : List Cc) (w : World) (hg : Glob w) (ht : RdTL w vt ts) (hc : RdC w vc cs) (h : RtR ts cs) : Calls Tryz.prog 18 #[trV vt vc] w (GoP (ts.zip cs) w) := by
  have HCK := Lib.hid (fun W (hW : Below w.heap.size w W) => tcheck vt vc ts cs W (ht.below hW) (hc.below hW) h)
  have HGO := Lib.hid (fun W (hW : Below w.heap.size w W) => tgoes vt vc ts cs W (hg.of hW) (ht.below hW) (hc.below hW) h)
  obtain ⟨At, ct, rfl⟩ := ht.len
  obtain ⟨Ac, cc, rfl⟩ := hc.len
  have HJ := Lib.hid (fun W => tjudged (.slice At ts.length ct) (.slice Ac cs.length cc) _ _ _ _ _ _ W rfl rfl)
  have hb0 := bel_al2 w (.cells #[.bool false, .slice At ts.length ct, .slice Ac cs.length cc] 55 (0, 0)) (.cells #[.int .i64 0, .int .i64 0, .int .i64 0, .slice none 0 0, .slice none 0 0, .slice none 0 0] 62 (0, 0))
  have hr1 : Row ((w.alloc (.cells #[.bool false, .slice At ts.length ct, .slice Ac cs.length cc] 55 (0, 0))).alloc (.cells #[.int .i64 0, .int .i64 0, .int .i64 0, .slice none 0 0, .slice none 0 0, .slice none 0 0] 62 (0, 0))) w.heap.size 55 [.bool false, .slice At ts.length ct, .slice Ac cs.length cc] := rnw.alloc _
  have hr2 : Row ((w.alloc (.cells #[.bool false, .slice At ts.length ct, .slice Ac cs.length cc] 55 (0, 0))).alloc (.cells #[.int .i64 0, .int .i64 0, .int .i64 0, .slice none 0 0, .slice none 0 0, .slice none 0 0] 62 (0, 0))) (w.heap.size + 1) 62 (prC 0 0 0 (.slice none 0 0) (.slice none 0 0) (.slice none 0 0)) := rnew0 (World.size_alloc _ _).symm
  have HR := Lib.hid (And.intro hr1 (And.intro hr2 hb0))
  clear hr1 hr2 hb0 ht hc hg h
  unfold trV
  unfold trV at HCK HGO HJ
  unfold GoP at HGO ⊢
  generalize goT (ts.zip cs) = go at *
  generalize witT (ts.zip cs) = x at *
  have r0 := HR.out.1.cell (i := 0) rfl
  have r1 := HR.out.1.cell (i := 1) rfl
  have r2 := HR.out.1.cell (i := 2) rfl
  go_enter Tryz.func18, Tryz.ntmps18
  go_wp2_with fail
  refine (HCK.out _ HR.out.2.2).mono ?_
  rintro e w1 ⟨rfl, hb1⟩
  have H1 := Lib.hid (And.intro (HR.out.1.below' hb1) (And.intro (HR.out.2.1.below' hb1) (bel_to HR.out.2.2 hb1)))
  clear hb1 HR HCK r0 r1 r2
  have r0 := H1.out.1.cell (i := 0) rfl
  have r1 := H1.out.1.cell (i := 1) rfl
  have r2 := H1.out.1.cell (i := 2) rfl
  go_wp2_with fail
  refine (HJ.out _).mono ?_
  rintro e w2 ⟨rfl, hb2⟩
  have H2 := Lib.hid (And.intro (H1.out.2.1.below' hb2) (bel_to H1.out.2.2 hb2))
  clear hb2 H1 HJ r0 r1 r2
  have hm : ∀ w : World, (method 498 171 (.agg #[.bool false, .slice At ts.length ct, .slice Ac cs.length cc]) "metrolab/trial.goes").run Tryz.prog w = .ok (292, .agg #[.bool false, .slice At ts.length ct, .slice Ac cs.length cc]) w := fun _ => by kernel_rfl
  go_wp2_with fail
  refine (HGO.out _ H2.out.2).mono ?_
  rintro e w3 ⟨i, j, s, GA, gn, gc, rfl, hw, hb3⟩
  have H3 := Lib.hid (And.intro (H2.out.1.below' hb3) (bel_to H2.out.2 hb3))
  have HW := Lib.hid hw
  clear hb3 H2 HGO hw
  obtain ⟨⟨f0, m0⟩, ⟨f1, m1⟩, ⟨f2, m2⟩, ⟨f3, m3⟩, ⟨f4, m4⟩, ⟨f5, m5⟩, hrow⟩ := six_store (.int .i64 i) (.int .i64 j) (.int .i64 s) (.slice none 0 0) (.slice GA gn gc) (.slice none 0 0) (And.intro H3.out.1 H3.out.2).1
  have HQ := Lib.hid (And.intro hrow (six_below (.int .i64 i) (.int .i64 j) (.int .i64 s) (.slice none 0 0) (.slice GA gn gc) (.slice none 0 0) (And.intro H3.out.1 H3.out.2).2 (A := w.heap.size + 1) (by omega)))
  clear hrow
  clear H3
  go_wp2
  have q0 := HQ.out.1.cell (i := 0) rfl
  have q1 := HQ.out.1.cell (i := 1) rfl
  have q2 := HQ.out.1.cell (i := 2) rfl
  have q3 := HQ.out.1.cell (i := 3) rfl
  have q4 := HQ.out.1.cell (i := 4) rfl
  have q5 := HQ.out.1.cell (i := 5) rfl
  refine bodyPost_ret (v := .tuple #[.agg #[.int .i64 i, .int .i64 j, .int .i64 s, .slice none 0 0, .slice GA gn gc, .slice none 0 0], .bool go, .int .i64 0]) (by simp [results, Tryz.results18, go_sem, q0, q1, q2, q3, q4, q5]) rfl (GoQ.mk HW.out HQ.out.2)
end W
end Go.Proofs.YtellemlhhlafcaaGreatDoor
end
