/-
  Chapter 46, the reference: 'Lowest'. (Printed by wip/low.py.)
-/
import Derived.Test.YtfcffheboncmbaaGreatDoorKAG
import Derived.Test.YtfcffheboncmbaaGreatDoorKAD
section
namespace Go.Proofs.YtfcffheboncmbaaGreatDoor
open Go Go.RowKit Go.Deep
namespace M
def Few7 (l : List (Int × Int)) : Prop := ∀ x ∈ l, x.1.natAbs < 10 ^ 7 ∧ x.2.natAbs < 10 ^ 7
def BqO (s : Option Rat) : Prop := ∀ y, s = some y → Bq 18 y
theorem mul_in {x y : Int} (hx : x.natAbs < 10 ^ 7) (hy : y.natAbs < 10 ^ 7) : -100000000000000 ≤ x * y ∧ x * y ≤ 100000000000000 := by
  have h : (x * y).natAbs < 10 ^ 7 * 10 ^ 7 := by rw [Int.natAbs_mul]; exact Nat.mul_lt_mul'' hx hy
  omega
theorem wr_big {z : Int} (h0 : -400000000000000 ≤ z) (h1 : z ≤ 400000000000000) : wrap64 z = z := by unfold wrap64; omega
end M
/-- Two boxes of lines. -/
structure LB (w W : World) (A B : Nat) (a1 a2 b1 b2 : Int) : Prop where
  ra : Row W A 167 [.int .i64 a1, .int .i64 a2]
  rb : Row W B 167 [.int .i64 b1, .int .i64 b2]
  bel : Below w.heap.size w W
theorem LB.to {w W W' : World} {A B : Nat} {a1 a2 b1 b2 : Int} (h : LB w W A B a1 a2 b1 b2) (hb : Below W.heap.size W W') : LB w W' A B a1 a2 b1 b2 := ⟨h.ra.below' hb, h.rb.below' hb, bel_to h.bel hb⟩
theorem LB.new0 {w W : World} (h : Below w.heap.size w W) (a1 a2 b1 b2 : Int) : LB w (((W.alloc (.cells #[.int .i64 a1, .int .i64 a2] 167 (0, 0))).alloc (.cells #[.int .i64 b1, .int .i64 b2] 167 (0, 0))).drew) W.heap.size (W.heap.size + 1) a1 a2 b1 b2 :=
  ⟨Row.alloc (rnew0 rfl) _, rnew0 (by simp), RowKit.Below.drew (bel_to h (bel_al2 W _ _))⟩
theorem LB.new1 {w W : World} (h : Below w.heap.size w W) (a1 a2 b1 b2 : Int) : LB w (((W.alloc (.cells #[.int .i64 b1, .int .i64 b2] 167 (0, 0))).alloc (.cells #[.int .i64 a1, .int .i64 a2] 167 (0, 0))).drew) (W.heap.size + 1) W.heap.size a1 a2 b1 b2 :=
  ⟨rnew0 (by simp), Row.alloc (rnew0 rfl) _, RowKit.Below.drew (bel_to h (bel_al2 W _ _))⟩
namespace W
open M
attribute [local go_sem] bs_size bs_toList bs_get bs_extract bs_append bs_lit0 bs_lit1 lit1_bs
set_option maxHeartbeats 4000000
set_option maxRecDepth 20000
theorem rlowest46 (vl : Value) (l : List (Int × Int)) (w : World) (hl : RdL w vl l) (hf : Few7 l) (hn : l.length ≤ 100) :
    Calls Tryz.prog 59 #[vl] w (Ret w (.string (bs (R (lowestQ l))))) := by
  have HL := Lib.hid hl
  have HF := Lib.hid hf
  obtain ⟨Al, cl, rfl⟩ := hl.len
  have HB0 := Lib.hid (Below.refl w.heap.size w)
  have HR0 : Hid (R 0 = [48]) := Lib.hid R_nil
  have HEND := Lib.hid (show lowestQ l = (lowAll l l.length).getD 0 from rfl)
  clear hl hf
  go_enter Tryz.func59, Tryz.ntmps59
  go_wp2
  go_loopw [3, 4, 5] (fun bv fv iv wr => ∃ (i : Nat) (s : Option Rat), iv = .int .i64 (i : Int) ∧ i ≤ l.length ∧ bv = .string (bs (R (s.getD 0))) ∧ fv = .bool s.isSome ∧ Hid (s = lowAll l i) ∧ Hid (BqO s) ∧ Hid (Below w.heap.size w wr)) (fun _ _ iv _ => l.length - (intOf iv).toNat)
  case atStart => exact ⟨0, none, rfl, by omega, by rw [show (none : Option Rat).getD 0 = 0 from rfl, HR0.out]; rfl, rfl, Lib.hid rfl, Lib.hid (fun y h => by cases h), HB0⟩
  case round =>
    clear HB0
    obtain ⟨i, s, rfl, hi, rfl, rfl, hs, hq, hb⟩ := hrel
    by_cases hlt : i < l.length
    · have HS0 : Hid (s = lowRow l i (lowAll l i) 0) := Lib.hid hs.out
      have HROW := Lib.hid (show lowRow l i (lowAll l i) l.length = lowAll l (i + 1) from rfl)
      have hi0 : (0 : Int) ≤ (i : Int) := by omega
      have hi1 : (i : Int) < (l.length : Int) := by omega
      generalize lowAll l i = s0 at *
      clear hs
      go_wp2
      go_loopw [3, 4, 6] (fun bv fv jv wq => ∃ (j : Nat) (s : Option Rat), jv = .int .i64 (j : Int) ∧ j ≤ l.length ∧ bv = .string (bs (R (s.getD 0))) ∧ fv = .bool s.isSome ∧ Hid (s = lowRow l i s0 j) ∧ Hid (BqO s) ∧ Hid (Below w.heap.size w wq)) (fun _ _ jv _ => l.length - (intOf jv).toNat)
      case atStart => exact ⟨0, s, rfl, by omega, rfl, rfl, HS0, hq, hb⟩
      case round =>
        clear HS0 hq hb
        obtain ⟨j, s, rfl, hj, rfl, rfl, hs, hq, hb⟩ := hrel
        by_cases hlj : j < l.length
        · have hj0 : (0 : Int) ≤ (j : Int) := by omega
          have hj1 : (j : Int) < (l.length : Int) := by omega
          obtain ⟨b, o, rfl, hv⟩ := HL.out.row i hlt
          have hv' := hv.below' hb.out
          obtain ⟨x1, x2⟩ := hv'.val i hlt
          obtain ⟨y1, y2⟩ := hv'.val j hlj
          have x1a : ∀ o1 : Obj, (wr.alloc o1).cell? ⟨b, o + i * 2, none⟩ = some (.int .i64 l[i].1) := fun o1 => ((hv'.below' (bel_al wr o1)).val i hlt).1
          have x2a : ∀ o1 : Obj, (wr.alloc o1).cell? ⟨b, o + i * 2 + 1, none⟩ = some (.int .i64 l[i].2) := fun o1 => ((hv'.below' (bel_al wr o1)).val i hlt).2
          have y1a : ∀ o1 : Obj, (wr.alloc o1).cell? ⟨b, o + j * 2, none⟩ = some (.int .i64 l[j].1) := fun o1 => ((hv'.below' (bel_al wr o1)).val j hlj).1
          have y2a : ∀ o1 : Obj, (wr.alloc o1).cell? ⟨b, o + j * 2 + 1, none⟩ = some (.int .i64 l[j].2) := fun o1 => ((hv'.below' (bel_al wr o1)).val j hlj).2
          have x1b : ∀ o1 o2 : Obj, ((wr.alloc o1).alloc o2).cell? ⟨b, o + i * 2, none⟩ = some (.int .i64 l[i].1) := fun o1 o2 => ((hv'.below' (bel_al2 wr o1 o2)).val i hlt).1
          have x2b : ∀ o1 o2 : Obj, ((wr.alloc o1).alloc o2).cell? ⟨b, o + i * 2 + 1, none⟩ = some (.int .i64 l[i].2) := fun o1 o2 => ((hv'.below' (bel_al2 wr o1 o2)).val i hlt).2
          have y1b : ∀ o1 o2 : Obj, ((wr.alloc o1).alloc o2).cell? ⟨b, o + j * 2, none⟩ = some (.int .i64 l[j].1) := fun o1 o2 => ((hv'.below' (bel_al2 wr o1 o2)).val j hlj).1
          have y2b : ∀ o1 o2 : Obj, ((wr.alloc o1).alloc o2).cell? ⟨b, o + j * 2 + 1, none⟩ = some (.int .i64 l[j].2) := fun o1 o2 => ((hv'.below' (bel_al2 wr o1 o2)).val j hlj).2
          have HFI := Lib.hid (HF.out _ (List.getElem_mem hlt))
          have HFJ := Lib.hid (HF.out _ (List.getElem_mem hlj))
          have HST := Lib.hid (show lowRow l i s0 (j + 1) = bestQ s (crossQ i j l[i] l[j]) by rw [hs.out]; show bestQ _ (crossQ i j (l.getD i (0, 0)) (l.getD j (0, 0))) = _; rw [Sx.getD_get l (0, 0) hlt, Sx.getD_get l (0, 0) hlj])
          clear hv hv' hs
          obtain ⟨⟨a1, a2⟩, hae⟩ : ∃ x, x = l[i] := ⟨_, rfl⟩
          obtain ⟨⟨b1, b2⟩, hbe⟩ : ∃ x, x = l[j] := ⟨_, rfl⟩
          rw [← hae] at HFI HST x1 x2 x1a x2a x1b x2b
          rw [← hbe] at HFJ HST y1 y2 y1a y2a y1b y2b
          simp only at x1 x2 x1a x2a x1b x2b y1 y2 y1a y2a y1b y2b
          clear hae hbe
          go_wp2
          go_region
          · refine genw (fun W => LB w W wr.heap.size (wr.heap.size + 1) a1 a2 b1 b2) (LB.new0 hb.out a1 a2 b1 b2) ?_
            intro W hW
            generalize wr.heap.size + 1 = B at *
            generalize wr.heap.size = A at *
            have HW := Lib.hid hW
            have ca1 : W.cell? ⟨A, 0, none⟩ = some (.int .i64 a1) := hW.ra.cell (i := 0) rfl
            have ca2 : W.cell? ⟨A, 1, none⟩ = some (.int .i64 a2) := hW.ra.cell (i := 1) rfl
            have cb1 : W.cell? ⟨B, 0, none⟩ = some (.int .i64 b1) := hW.rb.cell (i := 0) rfl
            have cb2 : W.cell? ⟨B, 1, none⟩ = some (.int .i64 b2) := hW.rb.cell (i := 1) rfl
            clear hW x1 x2 x1a x2a x1b x2b y1 y2 y1a y2a y1b y2b hb
            by_cases h1 : a2 < 0
            · by_cases h2 : 0 < b2
              · have HX := Lib.hid (show lowRow l i s0 (j + 1) = bestQ s (some (Rat.divInt (a1 * b2 - b1 * a2) (b2 - a2))) by rw [HST.out, show crossQ i j (a1, a2) (b1, b2) = some (Rat.divInt (a1 * b2 - b1 * a2) (b2 - a2)) from by unfold crossQ; rw [if_pos (by simp [h1, h2]), Rat.divInt_eq_div]])
                have m1 := mul_in HFI.out.1 HFJ.out.2
                have m2 := mul_in HFJ.out.1 HFI.out.2
                have m3 := HFI.out.2
                have m4 := HFJ.out.2
                have m5 := HFI.out.1
                (try simp only at m1 m2 m3 m4 m5)
                have hd0 : b2 - a2 ≠ 0 := by omega
                have HQX := Lib.hid (show Bq 18 (Rat.divInt (a1 * b2 - b1 * a2) (b2 - a2)) from Bq_div hd0 (by omega) (by omega))
                have HOV := Lib.hid (fun W => rover (a1 * b2 - b1 * a2) (b2 - a2) W (by omega) (by omega) hd0)
                have HWH := Lib.hid (fun W => whole_R a1 W (by omega) (by omega))
                have s1 : wrap64 (a1 * b2) = a1 * b2 := wr_big (by omega) (by omega)
                have s2 : wrap64 (b1 * a2) = b1 * a2 := wr_big (by omega) (by omega)
                have s3 : wrap64 (a1 * b2 - b1 * a2) = a1 * b2 - b1 * a2 := wr_big (by omega) (by omega)
                have s4 : wrap64 (b2 - a2) = b2 - a2 := wr_big (by omega) (by omega)
                have hnz : (a2 != 0) = true := by rw [bne_iff_ne]; omega
                clear m1 m2 m3 m4 m5 hd0 HST HFI HFJ
                go_wp2_with fail
                refine (HWH.out _).mono ?_
                rintro e w1 ⟨rfl, hb1⟩
                have HW1 := Lib.hid (HW.out.to hb1)
                clear ca1 ca2 cb1 cb2 hb1 HW HWH
                have ca1 : w1.cell? ⟨A, 0, none⟩ = some (.int .i64 a1) := HW1.out.ra.cell (i := 0) rfl
                have ca2 : w1.cell? ⟨A, 1, none⟩ = some (.int .i64 a2) := HW1.out.ra.cell (i := 1) rfl
                have cb1 : w1.cell? ⟨B, 0, none⟩ = some (.int .i64 b1) := HW1.out.rb.cell (i := 0) rfl
                have cb2 : w1.cell? ⟨B, 1, none⟩ = some (.int .i64 b2) := HW1.out.rb.cell (i := 1) rfl
                go_wp2_with fail
                refine (HOV.out _).mono ?_
                rintro e w2 ⟨rfl, hb2⟩
                have HBW := Lib.hid (bel_to HW1.out.bel hb2)
                clear ca1 ca2 cb1 cb2 hb2 HW1 HOV s1 s2 s3 s4 hnz h1 h2
                generalize Rat.divInt (a1 * b2 - b1 * a2) (b2 - a2) = x at *
                cases s with
                | none =>
                  have HN := Lib.hid (show lowRow l i s0 (j + 1) = some x from HX.out)
                  clear HX
                  go_wp2
                  go_roundw
                  case rel => exact ⟨j + 1, some x, by go_num, by omega, rfl, rfl, Lib.hid HN.out.symm, Lib.hid (fun y h => by injection h with h; rw [← h]; exact HQX.out), HBW⟩
                  case measure => simp [intOf]; omega
                | some y =>
                  have HQY := Lib.hid (hq.out y rfl)
                  have HO : Hid (∀ W, Calls Tryz.prog 71 #[.string (bs (R x)), .string (bs (R y))] W (Ret W (.int .i64 (cmpQ x y)))) := Lib.hid (fun W => order_R x y W (HQX.out.sh (by decide) (by decide)) (HQY.out.sh (by decide) (by decide)))
                  by_cases hc : y < x
                  · have hcz : 0 < cmpQ x y := cmpQ_gt.2 hc
                    have HN := Lib.hid (show lowRow l i s0 (j + 1) = some x by rw [HX.out]; exact if_pos hc)
                    clear HX hc
                    generalize cmpQ x y = cz at *
                    go_wp2_with fail
                    refine (HO.out _).mono ?_
                    rintro e wz ⟨rfl, hbz⟩
                    have HBZ := Lib.hid (bel_to HBW.out hbz)
                    clear hbz HBW HO
                    go_wp2
                    go_roundw
                    case rel => exact ⟨j + 1, some x, by go_num, by omega, rfl, rfl, Lib.hid HN.out.symm, Lib.hid (fun y h => by injection h with h; rw [← h]; exact HQX.out), HBZ⟩
                    case measure => simp [intOf]; omega
                  · have hcz : ¬ 0 < cmpQ x y := fun e => hc (cmpQ_gt.1 e)
                    have HN := Lib.hid (show lowRow l i s0 (j + 1) = some y by rw [HX.out]; exact if_neg hc)
                    clear HX hc
                    generalize cmpQ x y = cz at *
                    go_wp2_with fail
                    refine (HO.out _).mono ?_
                    rintro e wz ⟨rfl, hbz⟩
                    have HBZ := Lib.hid (bel_to HBW.out hbz)
                    clear hbz HBW HO
                    go_wp2
                    go_roundw
                    case rel => exact ⟨j + 1, some y, by go_num, by omega, rfl, rfl, Lib.hid HN.out.symm, hq, HBZ⟩
                    case measure => simp [intOf]; omega
              · have hz : (a2 == 0) = false := by rw [beq_eq_false_iff_ne]; omega
                have HN := Lib.hid (show lowRow l i s0 (j + 1) = s by rw [HST.out, show crossQ i j (a1, a2) (b1, b2) = none from by unfold crossQ; rw [if_neg (by simp [h2]), if_neg (by simp; omega)]]; cases s <;> rfl)
                have HBW := Lib.hid HW.out.bel
                clear HST HW HFI HFJ
                go_wp2
                go_roundw
                case rel => exact ⟨j + 1, s, by go_num, by omega, rfl, rfl, Lib.hid HN.out.symm, hq, HBW⟩
                case measure => simp [intOf]; omega
            · by_cases h3 : a2 = 0
              · subst h3
                by_cases h4 : i = j
                · have HX := Lib.hid (show lowRow l i s0 (j + 1) = bestQ s (some ((a1 : Int) : Rat)) by rw [HST.out, show crossQ i j (a1, 0) (b1, b2) = some ((a1 : Int) : Rat) from by unfold crossQ; rw [if_neg (by simp), if_pos (by simp [h4])]])
                  have m5 := HFI.out.1
                  (try simp only at m5)
                  have HQX := Lib.hid (show Bq 18 ((a1 : Int) : Rat) from (int_bq (z := a1) (by omega)).mono (by decide))
                  have HWH := Lib.hid (fun W => whole_R a1 W (by omega) (by omega))
                  have hij : (((i : Nat) : Int) == ((j : Nat) : Int)) = true := by rw [beq_iff_eq]; omega
                  clear m5 HST HFI HFJ h4
                  go_wp2_with fail
                  refine (HWH.out _).mono ?_
                  rintro e w1 ⟨rfl, hb1⟩
                  have HW1 := Lib.hid (HW.out.to hb1)
                  clear ca1 ca2 cb1 cb2 hb1 HW HWH
                  have ca2 : w1.cell? ⟨A, 1, none⟩ = some (.int .i64 0) := HW1.out.ra.cell (i := 1) rfl
                  have HBW := Lib.hid HW1.out.bel
                  clear HW1 hij
                  generalize ((a1 : Int) : Rat) = x at *
                  cases s with
                  | none =>
                    have HN := Lib.hid (show lowRow l i s0 (j + 1) = some x from HX.out)
                    clear HX
                    go_wp2
                    go_roundw
                    case rel => exact ⟨j + 1, some x, by go_num, by omega, rfl, rfl, Lib.hid HN.out.symm, Lib.hid (fun y h => by injection h with h; rw [← h]; exact HQX.out), HBW⟩
                    case measure => simp [intOf]; omega
                  | some y =>
                    have HQY := Lib.hid (hq.out y rfl)
                    have HO : Hid (∀ W, Calls Tryz.prog 71 #[.string (bs (R x)), .string (bs (R y))] W (Ret W (.int .i64 (cmpQ x y)))) := Lib.hid (fun W => order_R x y W (HQX.out.sh (by decide) (by decide)) (HQY.out.sh (by decide) (by decide)))
                    by_cases hc : y < x
                    · have hcz : 0 < cmpQ x y := cmpQ_gt.2 hc
                      have HN := Lib.hid (show lowRow l i s0 (j + 1) = some x by rw [HX.out]; exact if_pos hc)
                      clear HX hc
                      generalize cmpQ x y = cz at *
                      go_wp2_with fail
                      refine (HO.out _).mono ?_
                      rintro e wz ⟨rfl, hbz⟩
                      have HBZ := Lib.hid (bel_to HBW.out hbz)
                      clear hbz HBW HO
                      go_wp2
                      go_roundw
                      case rel => exact ⟨j + 1, some x, by go_num, by omega, rfl, rfl, Lib.hid HN.out.symm, Lib.hid (fun y h => by injection h with h; rw [← h]; exact HQX.out), HBZ⟩
                      case measure => simp [intOf]; omega
                    · have hcz : ¬ 0 < cmpQ x y := fun e => hc (cmpQ_gt.1 e)
                      have HN := Lib.hid (show lowRow l i s0 (j + 1) = some y by rw [HX.out]; exact if_neg hc)
                      clear HX hc
                      generalize cmpQ x y = cz at *
                      go_wp2_with fail
                      refine (HO.out _).mono ?_
                      rintro e wz ⟨rfl, hbz⟩
                      have HBZ := Lib.hid (bel_to HBW.out hbz)
                      clear hbz HBW HO
                      go_wp2
                      go_roundw
                      case rel => exact ⟨j + 1, some y, by go_num, by omega, rfl, rfl, Lib.hid HN.out.symm, hq, HBZ⟩
                      case measure => simp [intOf]; omega
                · have hij : (((i : Nat) : Int) == ((j : Nat) : Int)) = false := by rw [beq_eq_false_iff_ne]; omega
                  have HN := Lib.hid (show lowRow l i s0 (j + 1) = s by rw [HST.out, show crossQ i j (a1, 0) (b1, b2) = none from by unfold crossQ; rw [if_neg (by simp), if_neg (by simp [h4])]]; cases s <;> rfl)
                  have HBW := Lib.hid HW.out.bel
                  clear HST HW HFI HFJ
                  go_wp2
                  go_roundw
                  case rel => exact ⟨j + 1, s, by go_num, by omega, rfl, rfl, Lib.hid HN.out.symm, hq, HBW⟩
                  case measure => simp [intOf]; omega
              · have hz : (a2 == 0) = false := by rw [beq_eq_false_iff_ne]; exact h3
                have HN := Lib.hid (show lowRow l i s0 (j + 1) = s by rw [HST.out, show crossQ i j (a1, a2) (b1, b2) = none from by unfold crossQ; rw [if_neg (by simp [h1]), if_neg (by simp [h3])]]; cases s <;> rfl)
                have HBW := Lib.hid HW.out.bel
                clear HST HW HFI HFJ
                go_wp2
                go_roundw
                case rel => exact ⟨j + 1, s, by go_num, by omega, rfl, rfl, Lib.hid HN.out.symm, hq, HBW⟩
                case measure => simp [intOf]; omega
          · refine genw (fun W => LB w W (wr.heap.size + 1) wr.heap.size a1 a2 b1 b2) (LB.new1 hb.out a1 a2 b1 b2) ?_
            intro W hW
            generalize wr.heap.size + 1 = A at *
            generalize wr.heap.size = B at *
            have HW := Lib.hid hW
            have ca1 : W.cell? ⟨A, 0, none⟩ = some (.int .i64 a1) := hW.ra.cell (i := 0) rfl
            have ca2 : W.cell? ⟨A, 1, none⟩ = some (.int .i64 a2) := hW.ra.cell (i := 1) rfl
            have cb1 : W.cell? ⟨B, 0, none⟩ = some (.int .i64 b1) := hW.rb.cell (i := 0) rfl
            have cb2 : W.cell? ⟨B, 1, none⟩ = some (.int .i64 b2) := hW.rb.cell (i := 1) rfl
            clear hW x1 x2 x1a x2a x1b x2b y1 y2 y1a y2a y1b y2b hb
            by_cases h1 : a2 < 0
            · by_cases h2 : 0 < b2
              · have HX := Lib.hid (show lowRow l i s0 (j + 1) = bestQ s (some (Rat.divInt (a1 * b2 - b1 * a2) (b2 - a2))) by rw [HST.out, show crossQ i j (a1, a2) (b1, b2) = some (Rat.divInt (a1 * b2 - b1 * a2) (b2 - a2)) from by unfold crossQ; rw [if_pos (by simp [h1, h2]), Rat.divInt_eq_div]])
                have m1 := mul_in HFI.out.1 HFJ.out.2
                have m2 := mul_in HFJ.out.1 HFI.out.2
                have m3 := HFI.out.2
                have m4 := HFJ.out.2
                have m5 := HFI.out.1
                (try simp only at m1 m2 m3 m4 m5)
                have hd0 : b2 - a2 ≠ 0 := by omega
                have HQX := Lib.hid (show Bq 18 (Rat.divInt (a1 * b2 - b1 * a2) (b2 - a2)) from Bq_div hd0 (by omega) (by omega))
                have HOV := Lib.hid (fun W => rover (a1 * b2 - b1 * a2) (b2 - a2) W (by omega) (by omega) hd0)
                have HWH := Lib.hid (fun W => whole_R a1 W (by omega) (by omega))
                have s1 : wrap64 (a1 * b2) = a1 * b2 := wr_big (by omega) (by omega)
                have s2 : wrap64 (b1 * a2) = b1 * a2 := wr_big (by omega) (by omega)
                have s3 : wrap64 (a1 * b2 - b1 * a2) = a1 * b2 - b1 * a2 := wr_big (by omega) (by omega)
                have s4 : wrap64 (b2 - a2) = b2 - a2 := wr_big (by omega) (by omega)
                have hnz : (a2 != 0) = true := by rw [bne_iff_ne]; omega
                clear m1 m2 m3 m4 m5 hd0 HST HFI HFJ
                go_wp2_with fail
                refine (HWH.out _).mono ?_
                rintro e w1 ⟨rfl, hb1⟩
                have HW1 := Lib.hid (HW.out.to hb1)
                clear ca1 ca2 cb1 cb2 hb1 HW HWH
                have ca1 : w1.cell? ⟨A, 0, none⟩ = some (.int .i64 a1) := HW1.out.ra.cell (i := 0) rfl
                have ca2 : w1.cell? ⟨A, 1, none⟩ = some (.int .i64 a2) := HW1.out.ra.cell (i := 1) rfl
                have cb1 : w1.cell? ⟨B, 0, none⟩ = some (.int .i64 b1) := HW1.out.rb.cell (i := 0) rfl
                have cb2 : w1.cell? ⟨B, 1, none⟩ = some (.int .i64 b2) := HW1.out.rb.cell (i := 1) rfl
                go_wp2_with fail
                refine (HOV.out _).mono ?_
                rintro e w2 ⟨rfl, hb2⟩
                have HBW := Lib.hid (bel_to HW1.out.bel hb2)
                clear ca1 ca2 cb1 cb2 hb2 HW1 HOV s1 s2 s3 s4 hnz h1 h2
                generalize Rat.divInt (a1 * b2 - b1 * a2) (b2 - a2) = x at *
                cases s with
                | none =>
                  have HN := Lib.hid (show lowRow l i s0 (j + 1) = some x from HX.out)
                  clear HX
                  go_wp2
                  go_roundw
                  case rel => exact ⟨j + 1, some x, by go_num, by omega, rfl, rfl, Lib.hid HN.out.symm, Lib.hid (fun y h => by injection h with h; rw [← h]; exact HQX.out), HBW⟩
                  case measure => simp [intOf]; omega
                | some y =>
                  have HQY := Lib.hid (hq.out y rfl)
                  have HO : Hid (∀ W, Calls Tryz.prog 71 #[.string (bs (R x)), .string (bs (R y))] W (Ret W (.int .i64 (cmpQ x y)))) := Lib.hid (fun W => order_R x y W (HQX.out.sh (by decide) (by decide)) (HQY.out.sh (by decide) (by decide)))
                  by_cases hc : y < x
                  · have hcz : 0 < cmpQ x y := cmpQ_gt.2 hc
                    have HN := Lib.hid (show lowRow l i s0 (j + 1) = some x by rw [HX.out]; exact if_pos hc)
                    clear HX hc
                    generalize cmpQ x y = cz at *
                    go_wp2_with fail
                    refine (HO.out _).mono ?_
                    rintro e wz ⟨rfl, hbz⟩
                    have HBZ := Lib.hid (bel_to HBW.out hbz)
                    clear hbz HBW HO
                    go_wp2
                    go_roundw
                    case rel => exact ⟨j + 1, some x, by go_num, by omega, rfl, rfl, Lib.hid HN.out.symm, Lib.hid (fun y h => by injection h with h; rw [← h]; exact HQX.out), HBZ⟩
                    case measure => simp [intOf]; omega
                  · have hcz : ¬ 0 < cmpQ x y := fun e => hc (cmpQ_gt.1 e)
                    have HN := Lib.hid (show lowRow l i s0 (j + 1) = some y by rw [HX.out]; exact if_neg hc)
                    clear HX hc
                    generalize cmpQ x y = cz at *
                    go_wp2_with fail
                    refine (HO.out _).mono ?_
                    rintro e wz ⟨rfl, hbz⟩
                    have HBZ := Lib.hid (bel_to HBW.out hbz)
                    clear hbz HBW HO
                    go_wp2
                    go_roundw
                    case rel => exact ⟨j + 1, some y, by go_num, by omega, rfl, rfl, Lib.hid HN.out.symm, hq, HBZ⟩
                    case measure => simp [intOf]; omega
              · have hz : (a2 == 0) = false := by rw [beq_eq_false_iff_ne]; omega
                have HN := Lib.hid (show lowRow l i s0 (j + 1) = s by rw [HST.out, show crossQ i j (a1, a2) (b1, b2) = none from by unfold crossQ; rw [if_neg (by simp [h2]), if_neg (by simp; omega)]]; cases s <;> rfl)
                have HBW := Lib.hid HW.out.bel
                clear HST HW HFI HFJ
                go_wp2
                go_roundw
                case rel => exact ⟨j + 1, s, by go_num, by omega, rfl, rfl, Lib.hid HN.out.symm, hq, HBW⟩
                case measure => simp [intOf]; omega
            · by_cases h3 : a2 = 0
              · subst h3
                by_cases h4 : i = j
                · have HX := Lib.hid (show lowRow l i s0 (j + 1) = bestQ s (some ((a1 : Int) : Rat)) by rw [HST.out, show crossQ i j (a1, 0) (b1, b2) = some ((a1 : Int) : Rat) from by unfold crossQ; rw [if_neg (by simp), if_pos (by simp [h4])]])
                  have m5 := HFI.out.1
                  (try simp only at m5)
                  have HQX := Lib.hid (show Bq 18 ((a1 : Int) : Rat) from (int_bq (z := a1) (by omega)).mono (by decide))
                  have HWH := Lib.hid (fun W => whole_R a1 W (by omega) (by omega))
                  have hij : (((i : Nat) : Int) == ((j : Nat) : Int)) = true := by rw [beq_iff_eq]; omega
                  clear m5 HST HFI HFJ h4
                  go_wp2_with fail
                  refine (HWH.out _).mono ?_
                  rintro e w1 ⟨rfl, hb1⟩
                  have HW1 := Lib.hid (HW.out.to hb1)
                  clear ca1 ca2 cb1 cb2 hb1 HW HWH
                  have ca2 : w1.cell? ⟨A, 1, none⟩ = some (.int .i64 0) := HW1.out.ra.cell (i := 1) rfl
                  have HBW := Lib.hid HW1.out.bel
                  clear HW1 hij
                  generalize ((a1 : Int) : Rat) = x at *
                  cases s with
                  | none =>
                    have HN := Lib.hid (show lowRow l i s0 (j + 1) = some x from HX.out)
                    clear HX
                    go_wp2
                    go_roundw
                    case rel => exact ⟨j + 1, some x, by go_num, by omega, rfl, rfl, Lib.hid HN.out.symm, Lib.hid (fun y h => by injection h with h; rw [← h]; exact HQX.out), HBW⟩
                    case measure => simp [intOf]; omega
                  | some y =>
                    have HQY := Lib.hid (hq.out y rfl)
                    have HO : Hid (∀ W, Calls Tryz.prog 71 #[.string (bs (R x)), .string (bs (R y))] W (Ret W (.int .i64 (cmpQ x y)))) := Lib.hid (fun W => order_R x y W (HQX.out.sh (by decide) (by decide)) (HQY.out.sh (by decide) (by decide)))
                    by_cases hc : y < x
                    · have hcz : 0 < cmpQ x y := cmpQ_gt.2 hc
                      have HN := Lib.hid (show lowRow l i s0 (j + 1) = some x by rw [HX.out]; exact if_pos hc)
                      clear HX hc
                      generalize cmpQ x y = cz at *
                      go_wp2_with fail
                      refine (HO.out _).mono ?_
                      rintro e wz ⟨rfl, hbz⟩
                      have HBZ := Lib.hid (bel_to HBW.out hbz)
                      clear hbz HBW HO
                      go_wp2
                      go_roundw
                      case rel => exact ⟨j + 1, some x, by go_num, by omega, rfl, rfl, Lib.hid HN.out.symm, Lib.hid (fun y h => by injection h with h; rw [← h]; exact HQX.out), HBZ⟩
                      case measure => simp [intOf]; omega
                    · have hcz : ¬ 0 < cmpQ x y := fun e => hc (cmpQ_gt.1 e)
                      have HN := Lib.hid (show lowRow l i s0 (j + 1) = some y by rw [HX.out]; exact if_neg hc)
                      clear HX hc
                      generalize cmpQ x y = cz at *
                      go_wp2_with fail
                      refine (HO.out _).mono ?_
                      rintro e wz ⟨rfl, hbz⟩
                      have HBZ := Lib.hid (bel_to HBW.out hbz)
                      clear hbz HBW HO
                      go_wp2
                      go_roundw
                      case rel => exact ⟨j + 1, some y, by go_num, by omega, rfl, rfl, Lib.hid HN.out.symm, hq, HBZ⟩
                      case measure => simp [intOf]; omega
                · have hij : (((i : Nat) : Int) == ((j : Nat) : Int)) = false := by rw [beq_eq_false_iff_ne]; omega
                  have HN := Lib.hid (show lowRow l i s0 (j + 1) = s by rw [HST.out, show crossQ i j (a1, 0) (b1, b2) = none from by unfold crossQ; rw [if_neg (by simp), if_neg (by simp [h4])]]; cases s <;> rfl)
                  have HBW := Lib.hid HW.out.bel
                  clear HST HW HFI HFJ
                  go_wp2
                  go_roundw
                  case rel => exact ⟨j + 1, s, by go_num, by omega, rfl, rfl, Lib.hid HN.out.symm, hq, HBW⟩
                  case measure => simp [intOf]; omega
              · have hz : (a2 == 0) = false := by rw [beq_eq_false_iff_ne]; exact h3
                have HN := Lib.hid (show lowRow l i s0 (j + 1) = s by rw [HST.out, show crossQ i j (a1, a2) (b1, b2) = none from by unfold crossQ; rw [if_neg (by simp [h1]), if_neg (by simp [h3])]]; cases s <;> rfl)
                have HBW := Lib.hid HW.out.bel
                clear HST HW HFI HFJ
                go_wp2
                go_roundw
                case rel => exact ⟨j + 1, s, by go_num, by omega, rfl, rfl, Lib.hid HN.out.symm, hq, HBW⟩
                case measure => simp [intOf]; omega
        · obtain rfl : j = l.length := by omega
          have hs2 := hs.out
          rw [HROW.out] at hs2
          have HS2 := Lib.hid hs2
          clear hs hs2
          go_wp2
          go_roundw
          case rel => exact ⟨i + 1, s, by go_num, by omega, rfl, rfl, HS2, hq, hb⟩
          case measure => simp [intOf]; omega
    · obtain rfl : i = l.length := by omega
      have HE := Lib.hid (show R (s.getD 0) = R (lowestQ l) by rw [HEND.out, hs.out])
      clear hs
      go_wp2
      go_ret
      exact Ret.of (by rw [HE.out]; rfl) hb.out
end W
end Go.Proofs.YtfcffheboncmbaaGreatDoor
end
