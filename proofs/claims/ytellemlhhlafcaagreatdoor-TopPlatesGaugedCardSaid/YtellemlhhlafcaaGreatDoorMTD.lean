/-
  Chapter 12 of the program: differences, products, squared distances of places, signs.
  Chapter 12 of the program: the witnesses, one after the other ('witnesses').
-/
import Derived.Test.YtellemlhhlafcaaGreatDoorMT
import Derived.Test.YtellemlhhlafcaaGreatDoorMQ
import Derived.RangeFuncNested
import Derived.RangeFuncBound
import Derived.RangeFuncCalls
import Derived.RangeFuncLeaves
import Derived.RangeFuncBox
import Derived.WalkKit
import Derived.OwnWalkIn
import Derived.TacticsInMore
import Derived.LoopNIn
import Derived.LoopIn
import Derived.Test.YtellemlhhlafcaaGreatDoorMS
section
namespace Go.Proofs.YtellemlhhlafcaaGreatDoor
open Go Go.RowKit Go.Deep Go.Sort
theorem pl_storeD {w0 w : World} {A : Nat} {x0 y0 : Value} (x y : Value) (hr : Row w A 88 [x0, y0]) (hA : w0.heap.size ≤ A) (hb : Below w0.heap.size w0 w) :
    Row ((w.setCell ⟨A, 0, none⟩ x).setCell ⟨A, 1, none⟩ y) A 88 [x, y] ∧ Below w0.heap.size w0 ((w.setCell ⟨A, 0, none⟩ x).setCell ⟨A, 1, none⟩ y) :=
  ⟨(hr.set 0 x).set 1 y, (hb.setCell (p := ⟨A, 0, none⟩) hA x).setCell (p := ⟨A, 1, none⟩) hA y⟩
abbrev plV (x y : List UInt8) : Value := .agg #[.string (bs x), .string (bs y)]
abbrev plO (x y : List UInt8) : Obj := .cells #[.string (bs x), .string (bs y)] 88 (0, 0)
abbrev plZ : Obj := .cells #[.string ⟨#[]⟩, .string ⟨#[]⟩] 88 (0, 0)
structure Pl3 (w W : World) (b : Nat) (x y x' y' : List UInt8) : Prop where
  r1 : Row W b 88 [.string (bs x), .string (bs y)]
  r2 : Row W (b + 1) 88 [.string (bs x'), .string (bs y')]
  r3 : Row W (b + 1 + 1) 88 [.string ⟨#[]⟩, .string ⟨#[]⟩]
  bel : Below w.heap.size w W
theorem Pl3.new (w : World) (x y x' y' : List UInt8) : Pl3 w (((w.alloc (plO x y)).alloc (plO x' y')).alloc plZ) w.heap.size x y x' y' :=
  ⟨(rnw.alloc _).alloc _, (rnew0 (World.size_alloc _ _).symm).alloc _, rnew0 (by simp), (bel_al2 _ _ _).alloc (bel_al2 _ _ _).size _⟩
structure Pl2 (w W : World) (b : Nat) (x y x' y' : List UInt8) : Prop where
  r1 : Row W b 88 [.string (bs x), .string (bs y)]
  r2 : Row W (b + 1) 88 [.string (bs x'), .string (bs y')]
  bel : Below w.heap.size w W
theorem Pl2.new (w : World) (x y x' y' : List UInt8) : Pl2 w ((w.alloc (plO x y)).alloc (plO x' y')) w.heap.size x y x' y' :=
  ⟨rnw.alloc _, rnew0 (World.size_alloc _ _).symm, bel_al2 _ _ _⟩
namespace W
open M
attribute [local go_sem] bs_size bs_toList bs_get bs_extract bs_append bs_lit0 bs_lit1 lit1_bs
set_option maxHeartbeats 4000000
set_option maxRecDepth 20000
theorem kless (b : Nat) (ax ay cx cy : Rat) (j k : Nat) (w : World) (hg : Glob w) (hs : NoErrD w b) (h1 : Bq j ax) (h2 : Bq j ay) (h3 : Bq k cx) (h4 : Bq k cy) (hjk : j + k + 1 ≤ 1024) :
    Calls Tryz.prog 146 #[.pointer (some ⟨b, 0, none⟩), plV (R ax) (R ay), plV (R cx) (R cy)] w (Ret w (plV (R (ax - cx)) (R (ay - cy)))) := by
  have HX := Lib.hid (fun W (hW : Below w.heap.size w W) => ksub b ax cx j k W (hg.of hW) (hs.below' hW) h1 h3 hjk)
  have HY := Lib.hid (fun W (hW : Below w.heap.size w W) => ksub b ay cy j k W (hg.of hW) (hs.below' hW) h2 h4 hjk)
  clear hs h1 h2 h3 h4 hg hjk
  unfold plV
  generalize R (ax - cx) = s1 at *
  generalize R (ay - cy) = s2 at *
  generalize R ax = t1 at *
  generalize R ay = t2 at *
  generalize R cx = t3 at *
  generalize R cy = t4 at *
  have HR := Lib.hid (Pl3.new w t1 t2 t3 t4)
  unfold plO plZ at HR
  go_enter Tryz.func146, Tryz.ntmps146
  go_wp2_with fail
  generalize (((w.alloc (.cells #[.string (bs t1), .string (bs t2)] 88 (0, 0))).alloc (.cells #[.string (bs t3), .string (bs t4)] 88 (0, 0))).alloc (.cells #[.string ⟨#[]⟩, .string ⟨#[]⟩] 88 (0, 0))) = W at *
  have m0 := cell_regrown (HR.out.r1.cell (i := 0) rfl)
  have m1 := cell_regrown (HR.out.r1.cell (i := 1) rfl)
  have m2 := cell_regrown (HR.out.r2.cell (i := 0) rfl)
  have m3 := cell_regrown (HR.out.r2.cell (i := 1) rfl)
  have k1 := reg_of (w := W) (fun E hE => HX.out E (bel_to HR.out.bel hE))
  have k2 := reg_of (w := W) (fun E hE => HY.out E (bel_to HR.out.bel hE))
  have e1 : ∀ args w, (callFunc 145 args).run Tryz.prog w = .ok (.enter 145 args) w := enters_of Tryz.func145 (by kernel_rfl) rfl
  refine region_below_tail 12 (by kernel_rfl) (by kernel_rfl) ?_
  simp only [List.take_succ_cons, List.take_zero, List.drop_succ_cons, List.drop_zero]
  repeat (go_big_quiet_step (fail))
  go_big_quiet_step (exact k1 _ _)
  repeat (go_big_quiet_step (fail))
  go_big_quiet_step (exact k2 _ _)
  repeat (go_big_quiet_step (fail))
  refine wpQuiet_nil ?_
  intro W6 hw'
  have hb6 : Below W.heap.size W W6 := by obtain ⟨p, e⟩ := hw'; rw [e]; exact below_regrown W p.d p.os
  clear hw'
  have hr3 := HR.out.r3.below' hb6
  have f0 := hr3.free 0
  have f1 := (hr3.set 0 (.string (bs s1))).free 1
  have c0 := hr3.cell (i := 0) rfl
  have c1 := (hr3.set 0 (.string (bs s1))).cell (i := 1) rfl
  have HQ := Lib.hid (pl_storeD (.string (bs s1)) (.string (bs s2)) hr3 (by omega) (bel_to HR.out.bel hb6))
  clear k1 k2 e1 m0 m1 m2 m3 HR hr3 hb6
  go_wp2
  have q0 := HQ.out.1.cell (i := 0) rfl
  have q1 := HQ.out.1.cell (i := 1) rfl
  refine bodyPost_ret (v := .agg #[.string (bs s1), .string (bs s2)]) (by simp [results, Tryz.results146, go_sem, q0, q1]) rfl ⟨rfl, HQ.out.2⟩
theorem kdot (b : Nat) (ax ay cx cy : Rat) (j k : Nat) (w : World) (hg : Glob w) (hs : NoErrD w b) (h1 : Bq j ax) (h2 : Bq j ay) (h3 : Bq k cx) (h4 : Bq k cy) (hjk : (j + k) + (j + k) + 1 ≤ 1024) :
    Calls Tryz.prog 147 #[.pointer (some ⟨b, 0, none⟩), plV (R ax) (R ay), plV (R cx) (R cy)] w (Ret w (.string (bs (R (ax * cx + ay * cy))))) := by
  have HX := Lib.hid (fun W (hW : Below w.heap.size w W) => kmul b ax cx j k W (hg.of hW) (hs.below' hW) h1 h3 (by omega))
  have HY := Lib.hid (fun W (hW : Below w.heap.size w W) => kmul b ay cy j k W (hg.of hW) (hs.below' hW) h2 h4 (by omega))
  have HZ := Lib.hid (fun W (hW : Below w.heap.size w W) => kadd b (ax * cx) (ay * cy) (j + k) (j + k) W (hg.of hW) (hs.below' hW) (h1.mul h3) (h2.mul h4) (by omega))
  clear hs h1 h2 h3 h4 hg hjk
  unfold plV
  generalize R (ax * cx + ay * cy) = s3 at *
  generalize R (ax * cx) = s1 at *
  generalize R (ay * cy) = s2 at *
  generalize R ax = t1 at *
  generalize R ay = t2 at *
  generalize R cx = t3 at *
  generalize R cy = t4 at *
  have HR := Lib.hid (Pl2.new w t1 t2 t3 t4)
  unfold plO at HR
  go_enter Tryz.func147, Tryz.ntmps147
  go_wp2_with fail
  generalize ((w.alloc (.cells #[.string (bs t1), .string (bs t2)] 88 (0, 0))).alloc (.cells #[.string (bs t3), .string (bs t4)] 88 (0, 0))) = W at *
  have m0 := cell_regrown (HR.out.r1.cell (i := 0) rfl)
  have m1 := cell_regrown (HR.out.r1.cell (i := 1) rfl)
  have m2 := cell_regrown (HR.out.r2.cell (i := 0) rfl)
  have m3 := cell_regrown (HR.out.r2.cell (i := 1) rfl)
  have k1 := reg_of (w := W) (fun E hE => HX.out E (bel_to HR.out.bel hE))
  have k2 := reg_of (w := W) (fun E hE => HY.out E (bel_to HR.out.bel hE))
  have k3 := reg_of (w := W) (fun E hE => HZ.out E (bel_to HR.out.bel hE))
  have e1 : ∀ args w, (callFunc 193 args).run Tryz.prog w = .ok (.enter 193 args) w := enters_of Tryz.func193 (by kernel_rfl) rfl
  have e2 : ∀ args w, (callFunc 192 args).run Tryz.prog w = .ok (.enter 192 args) w := enters_of Tryz.func192 (by kernel_rfl) rfl
  refine wp_region_quiet_below (by kernel_rfl) (by kernel_rfl) ?_
  repeat (go_big_quiet_step (fail))
  go_big_quiet_step (exact k1 _ _)
  repeat (go_big_quiet_step (fail))
  go_big_quiet_step (exact k2 _ _)
  repeat (go_big_quiet_step (fail))
  go_big_quiet_step (exact k3 _ _)
  repeat (go_big_quiet_step (fail))
  refine wpQuiet_nil ?_
  intro W6 hw'
  have hb6 : Below W.heap.size W W6 := by obtain ⟨p, e⟩ := hw'; rw [e]; exact below_regrown W p.d p.os
  clear hw'
  have HB6 := Lib.hid (bel_to HR.out.bel hb6)
  clear hb6 k1 k2 k3 e1 e2 m0 m1 m2 m3 HR
  go_wp2
  go_ret
  exact Ret.of rfl HB6.out
theorem kroot (b : Nat) (x y c : Rat) (j k m : Nat) (w : World) (hg : Glob w) (hs : NoErrD w b) (hx : Bq j x) (hy : Bq k y) (hc : Bq m c) (h0 : 0 ≤ c) (hjk : 2 * (j + k + m) + 1 ≤ 1024) :
    Calls Tryz.prog 144 #[.pointer (some ⟨b, 0, none⟩), .string (bs (R x)), .string (bs (R y)), .string (bs (R c))] w (Ret w (.int .i64 (rootR x y c))) := by
  have hcl := hs.cell
  have HM := Lib.hid (sroot1 x y c j k m w hg hx hy hc h0 hjk)
  have HS := Lib.hid hs
  clear hs hx hy hc hg
  generalize rootR x y c = r at *
  generalize R x = t1 at *
  generalize R y = t2 at *
  generalize R c = t3 at *
  go_enter Tryz.func144, Tryz.ntmps144
  go_wp2_with fail
  refine (HM.out).mono ?_
  rintro e w1 ⟨rfl, hb1⟩
  have hs1 := HS.out.below' hb1
  have hc1 := hs1.cell
  have hf1 := hs1.free
  have HS1 := Lib.hid hs1
  clear hs1 hcl
  go_wp2
  go_ret
  exact Ret.of rfl (Below.sameD hb1 HS1.out)
end W
end Go.Proofs.YtellemlhhlafcaaGreatDoor
end
section
namespace Go.Proofs.YtellemlhhlafcaaGreatDoor
open Go Go.RowKit Go.Deep Go.Sort
def KC (W W' : World) : Prop := W.heap.size ≤ W'.heap.size ∧ ∀ (b : Nat) (o : Obj), W.heap[b]? = some o → o.isCells = true → W'.heap[b]? = some o
theorem KC.refl (W : World) : KC W W := ⟨Nat.le_refl _, fun _ _ h _ => h⟩
theorem KC.trans {A B C : World} (h : KC A B) (k : KC B C) : KC A C := ⟨Nat.le_trans h.1 k.1, fun b o hb ho => k.2 b o (h.2 b o hb ho) ho⟩
theorem KC.of_below {W W' : World} (h : Below W.heap.size W W') : KC W W' := ⟨h.size, fun b _ hb _ => (h.block b (Array.getElem?_eq_some_iff.1 hb).1).trans hb⟩
theorem KC.alloc {A W : World} (h : KC A W) (o : Obj) : KC A (W.alloc o) := h.trans (KC.of_below (bel_al W o))
theorem KC.put (W : World) (l : Nat) (o o' : Obj) (h : W.heap[l]? = some o) (h1 : o.isCells = false) : KC W (W.putObj l o') :=
  ⟨by rw [World.putObj_size]; exact Nat.le_refl _, fun b ob hb ho => by
    have hne : b ≠ l := fun e => by rw [e, h] at hb; injection hb with hb; rw [hb, ho] at h1; cases h1
    exact (World.putObj_heap_other hne).trans hb⟩
theorem KC.boxed {W W' : World} {B : Nat} {t : TypeId} {v : Value} (h : KC W W') (hb : Boxed W B t v) : Boxed W' B t v := h.2 B _ hb rfl
theorem KC.row {W W' : World} {B : Nat} {t : TypeId} {xs : List Value} (h : KC W W') (hb : Row W B t xs) : Row W' B t xs := h.2 B _ hb rfl
abbrev VW (m : Nat) := {x : M.Wn // x.i < m ∧ x.j < m}
abbrev wnV (x : M.Wn) : Value := .agg #[.int .i64 (x.i : Int), .int .i64 (x.j : Int), .int .i64 x.side]
abbrev encW {m : Nat} (x : VW m) : Array Value := #[wnV x.1]
namespace M
theorem pre_len {m : Nat} {pre : List (VW m)} {x : Wn} {rest : List Wn} (h : pre.map (·.1) ++ (x :: rest) = allW m) : pre.length < (allW m).length := by
  rw [← h, List.length_append, List.length_map, List.length_cons]; omega
theorem pre_snoc {m : Nat} {pre : List (VW m)} {x : VW m} {rest : List Wn} (h : pre.map (·.1) ++ (x.1 :: rest) = allW m) : (pre ++ [x]).map (·.1) ++ rest = allW m := by
  rw [← h, List.map_append, List.append_assoc]; rfl
end M
namespace W
open M
attribute [local go_sem] bs_size bs_toList bs_get bs_extract bs_append bs_lit0 bs_lit1 lit1_bs
attribute [local go_sem] Oper.semAt_some
set_option maxHeartbeats 4000000
set_option maxRecDepth 100000
theorem pwitnesses (m : Nat) (w : World) :
    Calls Tryz.prog 121 #[.int .i64 (m : Int)] w fun e w' => e = .returned (.func (.func 161) #[] #[.pointer (some ⟨w.heap.size, 0, none⟩)]) ∧ w' = w.alloc (.cells #[.int .i64 (m : Int)] 3 (0, 0)) := by
  go_enter Tryz.func121, Tryz.ntmps121
  go_wp2
  go_ret
  exact ⟨rfl, rfl⟩
theorem wit_in (F : Fence) (n : Nat) (hF : F.fn 161) (hro : F.round = none) (hn : 1 ≤ n) (l Bs m : Nat) (hm : m ≤ 64) (J Jx : List (VW m) → World → Prop)
    (hJa : ∀ pre A o, J pre A → J pre (A.alloc o))
    (hY : ∀ pre x W, J pre W → pre.length < (allW m).length → YieldAt F (n - 1) Tryz.prog l (encW x) W fun e W' =>
      (e = .returned (.bool true) ∧ J (pre ++ [x]) W' ∧ KC W W') ∨ (e = .returned (.bool false) ∧ Jx (pre ++ [x]) W'))
    (W : World) (hBs : Boxed W Bs 3 (.int .i64 (m : Int))) (h0 : J [] W) :
    CallsIn F n Tryz.prog 161 #[.func (.yield l) #[] #[], .pointer (some ⟨Bs, 0, none⟩)] W fun e W' => (∃ v, e = .returned v) ∧
      ((∃ ys : List (VW m), ys.map (·.1) = allW m ∧ J ys W') ∨ (∃ pre : List (VW m), (∃ rest, pre.map (·.1) ++ rest = allW m) ∧ Jx pre W')) := by
  have hcb := hBs.cell
  have HBS := Lib.hid hBs
  refine callsIn_of_wp Tryz.func161 rfl hF ?_ hro
  simp only [Tryz.ntmps161, List.size_toArray, List.length_cons, List.length_nil, Nat.reduceAdd, Nat.reduceSub, Array.replicate_succ, Array.replicate_zero, List.push_toArray, List.append_toArray, List.nil_append, List.cons_append]
  gi_wp2
  gi_loopw [9] (fun iv wr => ∃ (i : Nat) (pre : List (VW m)), iv = .int .i64 (i : Int) ∧ i ≤ m ∧ Hid (pre.map (·.1) ++ (cenR m i ++ allR m 0) = allW m) ∧ J pre wr ∧ Hid (KC W wr))
    (fun iv _ => m - (intOf iv).toNat)
  case atStart => exact ⟨0, [], rfl, by omega, ((allW_eq m).symm : ([] : List (VW m)).map (·.1) ++ (cenR m 0 ++ allR m 0) = allW m), h0, KC.refl _⟩
  case round =>
    obtain ⟨i, pre, rfl, hi, hpre, hJs, hk⟩ := hrel
    by_cases hlt : i < m
    · have hp := hpre.out
      rw [cenR_cons hlt, List.cons_append] at hp
      obtain ⟨fn, tmps, assign, body, hy, hR⟩ := hY pre ⟨⟨i, i, 0⟩, hlt, hlt⟩ wr hJs (pre_len hp)
      dsimp only [encW] at hy
      have HP := Lib.hid (pre_snoc (x := ⟨⟨i, i, 0⟩, hlt, hlt⟩) hp)
      clear hpre hp
      gi_wp2
      refine hR.mono ?_
      rintro e W3 (⟨rfl, hJ3, hk3⟩ | ⟨rfl, hJx3⟩)
      · have HK3 := Lib.hid (hk.out.trans hk3)
        clear hk3
        gi_wp2
        go_roundw
        case rel => exact ⟨i + 1, _, by go_num, by omega, HP, hJ3, HK3⟩
        case measure => simp [intOf]; omega
      · gi_wp2
        refine bodyPost_ret (results_none rfl _ _ _) rfl ?_
        exact ⟨⟨_, rfl⟩, .inr ⟨_, ⟨_, HP.out⟩, hJx3⟩⟩
    · obtain rfl : m = i := by omega
      have hp := hpre.out
      rw [cenR_none (Nat.le_refl _), List.nil_append] at hp
      obtain ⟨WA, hWA⟩ : ∃ WA, WA = wr := ⟨_, rfl⟩
      subst hWA
      have HP := Lib.hid hp
      have hcb2 := (hk.out.boxed HBS.out).cell
      clear hpre hp hcb
      gi_wp2
      gi_loopw [20] (fun iv wr => ∃ (i : Nat) (pre : List (VW m)), iv = .int .i64 (i : Int) ∧ i ≤ m ∧ Hid (pre.map (·.1) ++ allR m i = allW m) ∧ J pre wr ∧ Hid (KC W wr))
        (fun iv _ => m - (intOf iv).toNat)
      case atStart => exact ⟨0, pre, rfl, by omega, HP, hJs, hk⟩
      case round =>
        clear HP hcb2 hJs hk
        obtain ⟨i, pre2, rfl, hi2, hpre2, hJ2, hk2⟩ := hrel
        obtain ⟨WB, hWB⟩ : ∃ WB, WB = wr := ⟨_, rfl⟩
        subst hWB
        by_cases hlt : i < m
        · have hp := hpre2.out
          rw [allR_cons hlt] at hp
          have HP2 := Lib.hid hp
          clear hpre2 hp
          gi_wp2
          gi_loopw [5] (fun jv wr => ∃ (j : Nat) (pre : List (VW m)), jv = .int .i64 (j : Int) ∧ j ≤ m ∧ Hid (pre.map (·.1) ++ (rowR m i j ++ allR m (i + 1)) = allW m) ∧ J pre wr ∧ Hid (KC W wr))
            (fun jv _ => m - (intOf jv).toNat)
          case atStart => exact ⟨i + 1, pre2, by go_num, by omega, HP2, hJ2, hk2⟩
          case round =>
            clear HP2 hJ2 hk2
            obtain ⟨j, pre3, rfl, hj3, hpre3, hJ3, hk3⟩ := hrel
            obtain ⟨WC, hWC⟩ : ∃ WC, WC = wr := ⟨_, rfl⟩
            subst hWC
            have hcb3 := (hk3.out.boxed HBS.out).cell
            by_cases hjl : j < m
            · have hp := hpre3.out
              rw [rowR_cons hjl, List.append_assoc] at hp
              have HP3 := Lib.hid hp
              clear hpre3 hp
              have HRW := Lib.hid (rnw (w := WC) (t := 3) (xs := [.int .i64 0, .int .i64 1, .int .i64 (-1)]))
              have HJ4 := Lib.hid (hJa pre3 WC (.cells #[.int .i64 0, .int .i64 1, .int .i64 (-1)] 3 (0, 0)) hJ3)
              have HK4 := Lib.hid (hk3.out.alloc (.cells #[.int .i64 0, .int .i64 1, .int .i64 (-1)] 3 (0, 0)))
              clear hJ3 hk3
              gi_wp2
              gi_loopw [32] (fun sv wr => ∃ (s : Nat) (pre : List (VW m)), sv = .int .i64 (s : Int) ∧ s ≤ 3 ∧ Hid (pre.map (·.1) ++ ((tri i j).drop s ++ (rowR m i (j + 1) ++ allR m (i + 1))) = allW m) ∧ J pre wr ∧ Hid (KC W wr ∧ Row wr WC.heap.size 3 [.int .i64 0, .int .i64 1, .int .i64 (-1)]))
                (fun sv _ => 3 - (intOf sv).toNat)
              case atStart => exact ⟨0, pre3, rfl, by omega, HP3, HJ4.out, HK4.out, HRW.out⟩
              case round =>
                clear HP3 HJ4 HK4 HRW hcb3
                obtain ⟨s, pre4, rfl, hs4, hpre4, hJ4, hk4⟩ := hrel
                by_cases hs : s < 3
                · obtain ⟨sd, hsd, htr⟩ : ∃ sd : Int, wr.cell? ⟨WC.heap.size, s, none⟩ = some (.int .i64 sd) ∧ (tri i j).drop s = ⟨i, j, sd⟩ :: (tri i j).drop (s + 1) := by
                    match s, hs with
                    | 0, _ => exact ⟨0, hk4.out.2.cell (i := 0) rfl, rfl⟩
                    | 1, _ => exact ⟨1, hk4.out.2.cell (i := 1) rfl, rfl⟩
                    | 2, _ => exact ⟨-1, hk4.out.2.cell (i := 2) rfl, rfl⟩
                  have hp := hpre4.out
                  rw [htr, List.cons_append] at hp
                  obtain ⟨fn, tmps, assign, body, hy, hR⟩ := hY pre4 ⟨⟨i, j, sd⟩, hlt, hjl⟩ wr hJ4 (pre_len hp)
                  dsimp only [encW] at hy
                  have HP5 := Lib.hid (pre_snoc (x := ⟨⟨i, j, sd⟩, hlt, hjl⟩) hp)
                  clear hpre4 hp htr
                  gi_wp2
                  refine hR.mono ?_
                  rintro e W3 (⟨rfl, hJ5, hk5⟩ | ⟨rfl, hJx5⟩)
                  · have HK5 := Lib.hid (And.intro (hk4.out.1.trans hk5) (hk5.row hk4.out.2))
                    clear hk5
                    gi_wp2
                    go_roundw
                    case rel => exact ⟨s + 1, _, by go_num, by omega, HP5, hJ5, HK5⟩
                    case measure => simp [intOf]; omega
                  · gi_wp2
                    refine bodyPost_ret (results_none rfl _ _ _) rfl ?_
                    exact ⟨⟨_, rfl⟩, .inr ⟨_, ⟨_, HP5.out⟩, hJx5⟩⟩
                · obtain rfl : s = 3 := by omega
                  have HP5 := Lib.hid (show pre4.map (·.1) ++ (rowR m i (j + 1) ++ allR m (i + 1)) = allW m from hpre4.out)
                  have HK5 := Lib.hid hk4.out.1
                  clear hpre4 hk4
                  gi_wp2
                  go_roundw
                  case rel => exact ⟨j + 1, _, by go_num, by omega, HP5, hJ4, HK5⟩
                  case measure => simp [intOf]; omega
            · obtain rfl : m = j := by omega
              have hp := hpre3.out
              rw [rowR_none (Nat.le_refl _), List.nil_append] at hp
              have HP3 := Lib.hid hp
              clear hpre3 hp
              gi_wp2
              go_roundw
              case rel => exact ⟨i + 1, _, by go_num, by omega, HP3, hJ3, hk3⟩
              case measure => simp [intOf]; omega
        · obtain rfl : m = i := by omega
          have hp := hpre2.out
          rw [allR_none (Nat.le_refl _), List.append_nil] at hp
          have HP2 := Lib.hid hp
          clear hpre2 hp
          gi_wp2
          go_end0
          exact ⟨⟨_, rfl⟩, .inl ⟨pre2, HP2.out, hJ2⟩⟩
theorem wit_stops (F : Fence) (n : Nat) (hF : F.fn 161) (hro : F.round = none) (hn : 1 ≤ n) (Bs m : Nat) (hm : m ≤ 64) (w : World) (hBs : Boxed w Bs 3 (.int .i64 (m : Int))) :
    SeqStopsK F n Tryz.prog 161 #[.pointer (some ⟨Bs, 0, none⟩)] (encW (m := m)) KC (fun ys => ys.map (·.1) = allW m) (fun pre => ∃ rest, pre.map (·.1) ++ rest = allW m) (allW m).length w := fun l J Jx W hW hJ _ hY h0 =>
  wit_in F n hF hro hn l Bs m hm J Jx (fun pre A o h => hJ pre A _ none h (World.grownBy_alloc _ _ none) (fun r e => by cases e)) hY W ((hW.block Bs hBs.lt).trans hBs) h0
end W
end Go.Proofs.YtellemlhhlafcaaGreatDoor
end
