/-
  Chapter 46, the reference: 'greatest' and 'Range'. (Printed by wip/rrange.py.)
  Chapter 46, the reference: 'Shift'. (Printed by wip/rshift.py.)
  Chapter 46, the reference: lists of conditions for the excess. (Printed by wip/ecb.py.)
  Chapter 46, the reference: 'Lines'.
  Chapter 46, the reference: 'Lowest'. (Printed by wip/low.py.)
  Chapter 46: plain lists of the laws: greater tolerances, the order, places moved and exchanged.
  Chapter 46, the reference: 'Over'.
  Chapter 46, the reference: 'Keeps'.
  Chapter 46: PatternExcess.
  Chapter 46: PatternChecks. (Printed by wip/checks.py.)
-/
import Derived.Test.YtnaikafamjebdaaGreatDoorKPW
import Derived.Test.YtnaikafamjebdaaGreatDoorKPV
import Derived.Test.YtnaikafamjebdaaGreatDoorKPR
import Derived.Test.YtnaikafamjebdaaGreatDoorKPU
import Derived.Deep.RegionHeld3
section
namespace Go.Proofs.YtnaikafamjebdaaGreatDoor
open Go Go.RowKit Go.Deep
theorem infoIn : (Tryz.prog.info? 3).map (fun i => (i.zero, i.size, i.bytes)) = some (some (.int .i64 0), 1, 8) := by kernel_rfl
theorem run_appI_at {w : World} {B : Nat} {v xv : Value} {l : List Int} {z : Int} (ty : TypeId) (h : OwnI w B v l) {A : Nat} (hxv : xv = .slice (some ⟨A, 0, none⟩) 1 1) (hsrc : w.cell? ⟨A, 0, none⟩ = some (.int .i64 z)) (hB : B ≤ w.heap.size) (hn : l.length + 1 ≤ 1000000000) :
    ∃ v' w', (Builtin.append_ #[68, 68] ty #[v, xv]).run Tryz.prog w = .ok v' w' ∧ OwnI w' B v' (l ++ [z]) ∧ w.grownBy w' v.ownBlock ∧ (v'.ownBlock = v.ownBlock ∨ v'.ownBlock = some w.heap.size) := by
  obtain ⟨i, h1, h2, h3, h4⟩ := info_parts infoIn
  subst hxv
  have hadd : ∀ j, (⟨A, 0, none⟩ : Addr).add j = ⟨A, j, none⟩ := fun j => by unfold Addr.add; split <;> simp_all
  obtain ⟨v', w', k1, k2, k3, _, k5⟩ := run_append_own_at (P := Tryz.prog) w B _ ty _ i _ 1 8 Tryz.underlying68 h1 h2 h3 h4 rfl (by decide) v l.length (IntC l) h ⟨A, 0, none⟩ 1 1 (IntC [z]) rfl
    (fun j u hj => by
      rw [hadd]
      obtain rfl : j = 0 := by have := (List.getElem?_eq_some_iff.1 hj).1; simpa [IntC] using this
      rw [hsrc]
      simpa [IntC] using hj) (fun u hu => by simp [IntC] at hu; rw [hu]; rfl) (by unfold maxLen; omega) (by omega) hB
  refine ⟨v', w', k1, ?_, k3, k5⟩
  unfold OwnI
  rw [List.length_append, show IntC (l ++ [z]) = IntC l ++ IntC [z] by simp [IntC]]
  exact k2
theorem wpList_appI_at {ops : Array Oper} {rest : List Oper} {o : Oper} {a : Act} {Q : Exit → Act → World → Prop} {w : World} {B : Nat} {v xv : Value} {l : List Int} {z : Int} {A : Nat} (hgd : o.guard = none) (s x : Operand)
    (ho : o.op = .call { callee := .builtin .append, args := #[s, x], argTypes := #[68, 68] }) (hs : a.eval s = v) (hx : a.eval x = xv)
    (h : OwnI w B v l) (hxv : xv = .slice (some ⟨A, 0, none⟩) 1 1) (hsrc : w.cell? ⟨A, 0, none⟩ = some (.int .i64 z)) (hB : B ≤ w.heap.size) (hn : l.length + 1 ≤ 1000000000)
    (hK : ∀ v' w', OwnI w' B v' (l ++ [z]) → w.grownBy w' v.ownBlock → (v'.ownBlock = v.ownBlock ∨ v'.ownBlock = some w.heap.size) → wpList Tryz.prog ops Q rest (a.put o.dst v') w') : wpList Tryz.prog ops Q (o :: rest) a w :=
  wpList_plain hgd fun _ hK2 => by
    obtain ⟨v', w', hr, h2, h3, h4⟩ := run_appI_at o.type h hxv hsrc hB hn
    unfold Oper.wp execOp
    simp only [ho, resolve, invoke, builtin, Sem.run_bind, Sem.run_pure, Result.andThen_ok, List.map_toArray, List.map_cons, List.map_nil, hs, hx, hr]
    exact hK2 _ _ (hK v' w' h2 h3 h4)
theorem OwnI.shape {w : World} {B : Nat} {v : Value} {l : List Int} (h : OwnI w B v l) : ∃ A cap, v = .slice A l.length cap := h.rd.len
structure TwI (w0 w : World) (v1 v2 : Value) (l1 l2 : List Int) : Prop where
  o1 : OwnI w w0.heap.size v1 l1
  o2 : OwnI w w0.heap.size v2 l2
  d1 : v1.ownBlock = none ∨ v1.ownBlock ≠ v2.ownBlock
  d2 : v2.ownBlock = none ∨ v2.ownBlock ≠ v1.ownBlock
  bel : Below w0.heap.size w0 w
theorem TwI.to {w0 w w' : World} {v1 v2 : Value} {l1 l2 : List Int} (h : TwI w0 w v1 v2 l1 l2) (hb : Below w.heap.size w w') : TwI w0 w' v1 v2 l1 l2 := ⟨h.o1.below hb, h.o2.below hb, h.d1, h.d2, bel_to h.bel hb⟩
theorem TwI.nil (w : World) : TwI w w (.slice none 0 0) (.slice none 0 0) [] [] := ⟨World.ownsRow_nil _ _ _ _, World.ownsRow_nil _ _ _ _, Or.inl rfl, Or.inl rfl, Below.refl _ _⟩
theorem TwI.swap {w0 w : World} {v1 v2 : Value} {l1 l2 : List Int} (h : TwI w0 w v1 v2 l1 l2) : TwI w0 w v2 v1 l2 l1 := ⟨h.o2, h.o1, h.d2, h.d1, h.bel⟩
theorem TwI.app {w0 w w' : World} {v1 v2 v' : Value} {l1 l2 l' : List Int} (h : TwI w0 w v1 v2 l1 l2) (ho : OwnI w' w0.heap.size v' l') (hg : w.grownBy w' v1.ownBlock) (hd : v'.ownBlock = v1.ownBlock ∨ v'.ownBlock = some w.heap.size) : TwI w0 w' v' v2 l' l2 := by
  have hlt : v2.ownBlock ≠ some w.heap.size := fun e => by
    have := (World.ownsRow.lt h.o2 _ e).2
    omega
  refine ⟨ho, World.ownsRow.kept h.o2 hg h.d2, ?_, ?_, h.bel.grown hg h.bel.size fun b hb => (World.ownsRow.lt h.o1 b hb).1⟩
  · rcases hd with hd | hd
    · rw [hd]; exact h.d1
    · exact Or.inr (by rw [hd]; exact fun e => hlt e.symm)
  · rcases hd with hd | hd
    · rw [hd]; exact h.d2
    · exact Or.inr (by rw [hd]; exact hlt)
namespace W
open M
attribute [local go_sem] bs_size bs_toList bs_get bs_extract bs_append bs_lit0 bs_lit1 lit1_bs
set_option maxHeartbeats 2000000
set_option maxRecDepth 20000
theorem rgreatest (va : Value) (l : List Int) (w : World) (ha : RdI w va l) (hl : 0 < l.length) (hn : l.length ≤ 1000000) :
    Calls Tryz.prog 82 #[va] w (Ret w (.int .i64 (mxZ l))) := by
  obtain ⟨A, ca, rfl⟩ := ha.len
  have HA := Lib.hid ha
  obtain ⟨b0, o0, rfl, hb0, hc0⟩ := ha.row 0 hl
  have c0 := hc0 0 hl
  rw [Nat.add_zero] at c0
  have hl0 : (0 : Int) < (l.length : Int) := by omega
  have h0 : l.getD 0 0 = l[0] := by simp [hl]
  have HM := Lib.hid (show mxZ l = mxTo l l.length from rfl)
  generalize mxZ l = res at *
  clear ha hb0 hc0
  go_enter Tryz.func82, Tryz.ntmps82
  go_wp2
  go_loopw [3, 4] (fun mv iv wr => ∃ i : Nat, iv = .int .i64 (i : Int) ∧ mv = .int .i64 (mxTo l i) ∧ i ≤ l.length ∧ Below w.heap.size w wr) (fun _ iv _ => l.length - (intOf iv).toNat)
  case atStart => exact ⟨0, rfl, congrArg (Value.int .i64) h0.symm, by omega, Below.refl _ _⟩
  case round =>
    clear c0
    obtain ⟨i, rfl, rfl, hi, hbw⟩ := hrel
    by_cases hlt : i < l.length
    · obtain ⟨b1, o1, e1, hb1, hc1⟩ := (HA.out.below hbw).row i hlt
      injection e1 with e1
      injection e1 with e1 e2 e3
      subst e1 e2
      have c1 := hc1 i hlt
      have HS : Hid (mxTo l (i + 1) = max (mxTo l i) l[i]) := Lib.hid (by rw [mxTo, show l.getD i 0 = l[i] by simp [hlt]])
      have hi1 : (i : Int) < (l.length : Int) := by omega
      clear hc1 e3 hb1
      generalize mxTo l i = mx at *
      generalize l[i] = x at *
      go_wp2
      go_roundw
      case rel => exact ⟨i + 1, by go_num, by rw [HS.out], by omega, hbw⟩
      case measure => simp [intOf]; omega
    · obtain rfl : i = l.length := by omega
      go_wp2
      go_ret
      exact Ret.of (by rw [HM.out]; rfl) hbw
theorem rrangeX (vt vc : Value) (ts : List Tg) (cs : List Cc) (w : World) (ht : RdG w vt ts) (hc : RdC w vc cs) (hok : chk46 ts cs = 0) :
    Calls Tryz.prog 44 #[vt, vc, .bool false] w (Ret w (.tuple #[.int .i64 (mxZ ((ts.zip cs).map lowX)), .int .i64 (-(mxZ ((ts.zip cs).map fun p => -highX p)))])) := by
  obtain ⟨h1, h16, hlen, hrt⟩ := chk46_iff.1 hok
  have hzl : (ts.zip cs).length = ts.length := by rw [List.length_zip]; omega
  have hg : ∀ i (hi : i < ts.length) (hi2 : i < cs.length) (h3 : i < (ts.zip cs).length), (ts.zip cs)[i]'h3 = (ts[i], cs[i]) := fun i hi hi2 h3 => by simp
  have HRT : Hid (∀ i (hi : i < ts.length) (hi2 : i < cs.length), RtH (ts[i], cs[i])) := Lib.hid (fun i hi hi2 => hrt _ (by rw [← hg i hi hi2 (by omega)]; exact List.getElem_mem _))
  have HT1 : Hid (∀ i (hi : i < ts.length) (hi2 : i < cs.length), ((ts.zip cs).map lowX).take (i + 1) = ((ts.zip cs).map lowX).take i ++ [lowX (ts[i], cs[i])]) := Lib.hid (fun i hi hi2 => by
    rw [List.take_add_one, List.getElem?_map, List.getElem?_eq_getElem (by omega), hg i hi hi2 (by omega)]; rfl)
  have HT2 : Hid (∀ i (hi : i < ts.length) (hi2 : i < cs.length), ((ts.zip cs).map fun p => -highX p).take (i + 1) = ((ts.zip cs).map fun p => -highX p).take i ++ [-highX (ts[i], cs[i])]) := Lib.hid (fun i hi hi2 => by
    rw [List.take_add_one, List.getElem?_map, List.getElem?_eq_getElem (by omega), hg i hi hi2 (by omega)]; rfl)
  have hb : ∀ l : List Int, 0 < l.length → (∀ z ∈ l, z.natAbs < 10 ^ 8) → (mxZ l).natAbs < 10 ^ 8 := fun l h0 h => by
    obtain ⟨k, hk, e⟩ := mxTo_mem l h0 l.length (Nat.le_refl _)
    unfold mxZ
    rw [e, show l.getD k 0 = l[k] by simp [hk]]
    exact h _ (List.getElem_mem _)
  have hm1 := hb ((ts.zip cs).map fun p => -highX p) (by rw [List.length_map]; omega) (fun z hz => by
    obtain ⟨p, hp, rfl⟩ := List.mem_map.1 hz
    have := (end_bd (hrt p hp) 0).2
    rw [show endZ 0 p = highX p from rfl] at this
    omega)
  have hl1 : ((ts.zip cs).map lowX).length = ts.length := by rw [List.length_map, hzl]
  have hl2 : ((ts.zip cs).map fun p => -highX p).length = ts.length := by rw [List.length_map, hzl]
  have HLL := Lib.hid (And.intro hl1 hl2)
  have HLC := Lib.hid (show ∀ i, i < ts.length → i < cs.length from fun i hi => by omega)
  have HT := Lib.hid ht
  have HC := Lib.hid hc
  have HH := Lib.hid (And.intro h1 h16)
  obtain ⟨At, ct, rfl⟩ := ht.len
  obtain ⟨Ac, cc, rfl⟩ := hc.len
  have z9 : IntKind.i64.wrap (-(mxZ ((ts.zip cs).map fun p => -highX p))) = -(mxZ ((ts.zip cs).map fun p => -highX p)) := IntWalk.i64_in _ (by omega)
  have HZ9 := Lib.hid z9
  clear ht hc hok hlen hrt hzl hg h1 h16 hb hm1 hl1 hl2 z9
  generalize (ts.zip cs).map lowX = L1 at *
  generalize ((ts.zip cs).map fun p => -highX p) = L2 at *
  go_enter Tryz.func44, Tryz.ntmps44
  go_wp2
  go_loopw [8, 9, 10] (fun v1 v2 iv wr => ∃ i : Nat, iv = .int .i64 (i : Int) ∧ i ≤ ts.length ∧ Hid (TwI w wr v1 v2 (L1.take i) (L2.take i))) (fun _ _ iv _ => ts.length - (intOf iv).toNat)
  case atStart => exact ⟨0, rfl, by omega, Lib.hid (TwI.nil w)⟩
  case round =>
    obtain ⟨i, rfl, hi, hin⟩ := hrel
    obtain ⟨A1, c1, e1⟩ := OwnI.shape hin.out.o1
    obtain ⟨A2, c2, e2⟩ := OwnI.shape hin.out.o2
    generalize hn1 : (L1.take i).length = n1 at e1
    generalize hn2 : (L2.take i).length = n2 at e2
    subst e1 e2
    have HN12 := Lib.hid (And.intro hn1 hn2)
    clear hn1 hn2
    by_cases hlt : i < ts.length
    · have hlc := HLC.out i hlt
      have HPI := Lib.hid (HRT.out i hlt hlc)
      have HE1 := Lib.hid (HT1.out i hlt hlc)
      have HE2 := Lib.hid (HT2.out i hlt hlc)
      obtain ⟨bt, ot, rfl, hst⟩ := HT.out.row i hlt
      obtain ⟨bc, oc, rfl, hsc⟩ := HC.out.row i hlc
      have HVI := Lib.hid (fun W (hW : Below w.heap.size w W) => (hst.below' hW).val i hlt)
      have HDI := Lib.hid (fun W (hW : Below w.heap.size w W) => (hsc.below' hW).val i hlc)
      have hi0 : (0 : Int) ≤ (i : Int) := by omega
      have hit : (i : Int) < (ts.length : Int) := by omega
      have hic : (i : Int) < (cs.length : Int) := by omega
      have HW1 := Lib.hid (fun W => rwide46 ts[i] cs[i] W HPI.out.1 (by unfold wth; simp [HPI.out.2.2.1, HPI.out.2.2.2]))
      have w1 := HPI.out.wide
      have r1 := HPI.out.1.x
      have r2 := HPI.out.1.y
      have r3 := HPI.out.2.1.x
      have r4 := HPI.out.2.1.y
      simp only at w1 r1 r2 r3 r4
      clear hst hsc HT1 HT2 HRT HPI
      generalize ts[i] = ti at *
      generalize cs[i] = ci at *
      unfold lowX at HE1
      unfold highX at HE2
      generalize wide ti ci = n at *
      obtain ⟨tx, ty, tlo, thi, ttol, tmat, tpin⟩ := ti
      obtain ⟨cx, cy, cd⟩ := ci
      simp only at w1 r1 r2 r3 r4 HE1 HE2
      have z0 : IntKind.i64.wrap (tx - cx) = tx - cx := IntWalk.i64_in _ (by omega)
      have z1 : IntKind.i64.wrap (2 * (tx - cx)) = 2 * (tx - cx) := IntWalk.i64_in _ (by omega)
      have z2 : IntKind.i64.wrap (ty - cy) = ty - cy := IntWalk.i64_in _ (by omega)
      have z3 : IntKind.i64.wrap (2 * (ty - cy)) = 2 * (ty - cy) := IntWalk.i64_in _ (by omega)
      obtain ⟨p1, hp1⟩ : ∃ p, p = 2 * (tx - cx) - n := ⟨_, rfl⟩
      obtain ⟨p2, hp2⟩ : ∃ p, p = 2 * (tx - cx) + n := ⟨_, rfl⟩
      obtain ⟨p3, hp3⟩ : ∃ p, p = -p2 := ⟨_, rfl⟩
      rw [← hp1] at HE1
      rw [← hp2, ← hp3] at HE2
      obtain ⟨dx, hdx⟩ : ∃ p, p = 2 * (tx - cx) := ⟨_, rfl⟩
      obtain ⟨dy, hdy⟩ : ∃ p, p = 2 * (ty - cy) := ⟨_, rfl⟩
      rw [← hdx] at z1
      rw [← hdy] at z3
      have z1' : IntKind.i64.wrap (2 * (tx - cx)) = dx := by rw [hdx]; exact IntWalk.i64_in _ (by omega)
      have z3' : IntKind.i64.wrap (2 * (ty - cy)) = dy := by rw [hdy]; exact IntWalk.i64_in _ (by omega)
      have z4 : IntKind.i64.wrap (dx - n) = p1 := by rw [hp1, ← hdx]; exact IntWalk.i64_in _ (by omega)
      have z5 : IntKind.i64.wrap (dx + n) = p2 := by rw [hp2, ← hdx]; exact IntWalk.i64_in _ (by omega)
      have z6 : IntKind.i64.wrap (-p2) = p3 := by rw [hp3]; exact IntWalk.i64_in _ (by omega)
      clear z1 z3 w1 r1 r2 r3 r4 hp1 hp2 hp3 hdx hdy
      have a0 := (HVI.out _ hin.out.bel).1
      have b0 := (HDI.out _ hin.out.bel).1
      go_wp2_with fail
      go_quiet (fail)
      clear a0 b0
      go_wp2_with fail
      refine genw (fun W => TwI w W (.slice A1 n1 c1) (.slice A2 n2 c2) (L1.take i) (L2.take i)) (hin.out.to (below_drewN (Below.refl _ _) _)) ?_
      intro W5 hW5
      have HI5 := Lib.hid hW5
      clear hW5 hin
      obtain ⟨a0, a1, a2, a3, a4, a5, a6⟩ := HVI.out _ HI5.out.bel
      obtain ⟨d0, d1, d2⟩ := HDI.out _ HI5.out.bel
      have ma0 := cell_regrown a0
      have ma1 := cell_regrown a1
      have ma2 := cell_regrown a2
      have ma3 := cell_regrown a3
      have ma4 := cell_regrown a4
      have ma5 := cell_regrown a5
      have ma6 := cell_regrown a6
      have md0 := cell_regrown d0
      have md1 := cell_regrown d1
      have md2 := cell_regrown d2
      have e1 : ∀ args w, (callFunc 68 args).run Tryz.prog w = .ok (.enter 68 args) w := enters_of Tryz.func68 (by kernel_rfl) rfl
      have k1 := reg_of (w := W5) (fun W _ => HW1.out W)
      clear a0 a1 a2 a3 a4 a5 a6 d0 d1 d2
      go_wp2_with fail
      refine wp_region_quiet_below (by kernel_rfl) (by kernel_rfl) ?_
      repeat (go_big_quiet_step (fail))
      go_big_quiet_step (exact k1 _ _)
      repeat (go_big_quiet_step (fail))
      refine wpQuiet_nil ?_
      intro W6 hw'
      have hb6 : Below W5.heap.size W5 W6 := by obtain ⟨p, e⟩ := hw'; rw [e]; exact below_regrown W5 p.d p.os
      clear hw'
      have HI6 := Lib.hid (HI5.out.to hb6)
      clear ma0 ma1 ma2 ma3 ma4 ma5 ma6 md0 md1 md2 e1 k1 hb6 HI5 HW1
      have hi16 : i + 1 < 100 := by have := HH.out.2; omega
      have HL1 := Lib.hid (show (L1.take i).length + 1 ≤ 1000000000 by rw [List.length_take]; have := HLL.out.1; have := HH.out.2; omega)
      have HL2 := Lib.hid (show (L2.take i).length + 1 ≤ 1000000000 by rw [List.length_take]; have := HLL.out.2; have := HH.out.2; omega)
      have H1 := Lib.hid (HI6.out.to (bel_al _ (.cells #[.int .i64 p1] 3 (0, 0))))
      have HN1 := Lib.hid ((rnw (w := W6) (t := 3) (xs := [.int .i64 p1])).cell (i := 0) rfl)
      clear HI6
      go_wp2_with (first
        | (at_builtin; refine wpList_appI_at rfl (.tmp 57) (.tmp 61) rfl rfl rfl H1.out.o1 rfl HN1.out H1.out.bel.size HL1.out ?_; intro v9 w9 ho9 hk9 hd9; obtain ⟨A9, c9, e9⟩ := OwnI.shape ho9; generalize (L1.take i ++ [p1]).length = n9 at e9; subst e9; have H9 := Lib.hid ((H1.out.app ho9 hk9 hd9).to (bel_al _ (.cells #[.int .i64 p3] 3 (0, 0)))); have HN2 := Lib.hid ((rnw (w := w9) (t := 3) (xs := [.int .i64 p3])).cell (i := 0) rfl); clear ho9 hk9 hd9)
        | (at_builtin; refine wpList_appI_at rfl (.tmp 63) (.tmp 68) rfl rfl rfl H9.out.o2 rfl HN2.out H9.out.bel.size HL2.out ?_; intro v8 w8 ho8 hk8 hd8; obtain ⟨A8, c8, e8⟩ := OwnI.shape ho8; generalize (L2.take i ++ [p3]).length = n8 at e8; subst e8; have H8 := Lib.hid (H9.out.swap.app ho8 hk8 hd8).swap; clear ho8 hk8 hd8))
      go_wp2
      go_roundw
      case rel => exact ⟨i + 1, by go_num, by omega, Lib.hid (by rw [HE1.out, HE2.out]; exact H8.out)⟩
      case measure => simp [intOf]; omega
    · obtain rfl : i = ts.length := by omega
      have hx := hin.out
      rw [List.take_of_length_le (by have := HLL.out.1; omega), List.take_of_length_le (by have := HLL.out.2; omega)] at hx
      have HX := Lib.hid hx
      have HG1 := Lib.hid (fun W (hW : Below wr.heap.size wr W) => rgreatest _ L1 W ((HX.out.to hW).o1.rd) (by have := HLL.out.1; have := HH.out; omega) (by have := HLL.out.1; have := HH.out; omega))
      have HG2 := Lib.hid (fun W (hW : Below wr.heap.size wr W) => rgreatest _ L2 W ((HX.out.to hW).o2.rd) (by have := HLL.out.2; have := HH.out; omega) (by have := HLL.out.2; have := HH.out; omega))
      have z9 := HZ9.out
      generalize mxZ L1 = m1 at *
      generalize mxZ L2 = m2 at *
      generalize hq : -m2 = m3 at *
      clear hx hin
      go_wp2_with fail
      refine (HG1.out _ (Below.refl _ _)).mono ?_
      rintro e w6 ⟨rfl, hb6⟩
      have HB6 := Lib.hid hb6
      clear hb6
      go_wp2_with fail
      refine (HG2.out _ HB6.out).mono ?_
      rintro e w7 ⟨rfl, hb7⟩
      have HB7 := Lib.hid (bel_to HX.out.bel (bel_to HB6.out hb7))
      clear hb7
      go_wp2
      go_ret2
      exact ⟨rfl, HB7.out⟩
theorem rrangeY (vt vc : Value) (ts : List Tg) (cs : List Cc) (w : World) (ht : RdG w vt ts) (hc : RdC w vc cs) (hok : chk46 ts cs = 0) :
    Calls Tryz.prog 44 #[vt, vc, .bool true] w (Ret w (.tuple #[.int .i64 (mxZ ((ts.zip cs).map lowY)), .int .i64 (-(mxZ ((ts.zip cs).map fun p => -highY p)))])) := by
  obtain ⟨h1, h16, hlen, hrt⟩ := chk46_iff.1 hok
  have hzl : (ts.zip cs).length = ts.length := by rw [List.length_zip]; omega
  have hg : ∀ i (hi : i < ts.length) (hi2 : i < cs.length) (h3 : i < (ts.zip cs).length), (ts.zip cs)[i]'h3 = (ts[i], cs[i]) := fun i hi hi2 h3 => by simp
  have HRT : Hid (∀ i (hi : i < ts.length) (hi2 : i < cs.length), RtH (ts[i], cs[i])) := Lib.hid (fun i hi hi2 => hrt _ (by rw [← hg i hi hi2 (by omega)]; exact List.getElem_mem _))
  have HT1 : Hid (∀ i (hi : i < ts.length) (hi2 : i < cs.length), ((ts.zip cs).map lowY).take (i + 1) = ((ts.zip cs).map lowY).take i ++ [lowY (ts[i], cs[i])]) := Lib.hid (fun i hi hi2 => by
    rw [List.take_add_one, List.getElem?_map, List.getElem?_eq_getElem (by omega), hg i hi hi2 (by omega)]; rfl)
  have HT2 : Hid (∀ i (hi : i < ts.length) (hi2 : i < cs.length), ((ts.zip cs).map fun p => -highY p).take (i + 1) = ((ts.zip cs).map fun p => -highY p).take i ++ [-highY (ts[i], cs[i])]) := Lib.hid (fun i hi hi2 => by
    rw [List.take_add_one, List.getElem?_map, List.getElem?_eq_getElem (by omega), hg i hi hi2 (by omega)]; rfl)
  have hb : ∀ l : List Int, 0 < l.length → (∀ z ∈ l, z.natAbs < 10 ^ 8) → (mxZ l).natAbs < 10 ^ 8 := fun l h0 h => by
    obtain ⟨k, hk, e⟩ := mxTo_mem l h0 l.length (Nat.le_refl _)
    unfold mxZ
    rw [e, show l.getD k 0 = l[k] by simp [hk]]
    exact h _ (List.getElem_mem _)
  have hm1 := hb ((ts.zip cs).map fun p => -highY p) (by rw [List.length_map]; omega) (fun z hz => by
    obtain ⟨p, hp, rfl⟩ := List.mem_map.1 hz
    have := (end_bd (hrt p hp) 2).2
    rw [show endZ 2 p = highY p from rfl] at this
    omega)
  have hl1 : ((ts.zip cs).map lowY).length = ts.length := by rw [List.length_map, hzl]
  have hl2 : ((ts.zip cs).map fun p => -highY p).length = ts.length := by rw [List.length_map, hzl]
  have HLL := Lib.hid (And.intro hl1 hl2)
  have HLC := Lib.hid (show ∀ i, i < ts.length → i < cs.length from fun i hi => by omega)
  have HT := Lib.hid ht
  have HC := Lib.hid hc
  have HH := Lib.hid (And.intro h1 h16)
  obtain ⟨At, ct, rfl⟩ := ht.len
  obtain ⟨Ac, cc, rfl⟩ := hc.len
  have z9 : IntKind.i64.wrap (-(mxZ ((ts.zip cs).map fun p => -highY p))) = -(mxZ ((ts.zip cs).map fun p => -highY p)) := IntWalk.i64_in _ (by omega)
  have HZ9 := Lib.hid z9
  clear ht hc hok hlen hrt hzl hg h1 h16 hb hm1 hl1 hl2 z9
  generalize (ts.zip cs).map lowY = L1 at *
  generalize ((ts.zip cs).map fun p => -highY p) = L2 at *
  go_enter Tryz.func44, Tryz.ntmps44
  go_wp2
  go_loopw [8, 9, 10] (fun v1 v2 iv wr => ∃ i : Nat, iv = .int .i64 (i : Int) ∧ i ≤ ts.length ∧ Hid (TwI w wr v1 v2 (L1.take i) (L2.take i))) (fun _ _ iv _ => ts.length - (intOf iv).toNat)
  case atStart => exact ⟨0, rfl, by omega, Lib.hid (TwI.nil w)⟩
  case round =>
    obtain ⟨i, rfl, hi, hin⟩ := hrel
    obtain ⟨A1, c1, e1⟩ := OwnI.shape hin.out.o1
    obtain ⟨A2, c2, e2⟩ := OwnI.shape hin.out.o2
    generalize hn1 : (L1.take i).length = n1 at e1
    generalize hn2 : (L2.take i).length = n2 at e2
    subst e1 e2
    have HN12 := Lib.hid (And.intro hn1 hn2)
    clear hn1 hn2
    by_cases hlt : i < ts.length
    · have hlc := HLC.out i hlt
      have HPI := Lib.hid (HRT.out i hlt hlc)
      have HE1 := Lib.hid (HT1.out i hlt hlc)
      have HE2 := Lib.hid (HT2.out i hlt hlc)
      obtain ⟨bt, ot, rfl, hst⟩ := HT.out.row i hlt
      obtain ⟨bc, oc, rfl, hsc⟩ := HC.out.row i hlc
      have HVI := Lib.hid (fun W (hW : Below w.heap.size w W) => (hst.below' hW).val i hlt)
      have HDI := Lib.hid (fun W (hW : Below w.heap.size w W) => (hsc.below' hW).val i hlc)
      have hi0 : (0 : Int) ≤ (i : Int) := by omega
      have hit : (i : Int) < (ts.length : Int) := by omega
      have hic : (i : Int) < (cs.length : Int) := by omega
      have HW1 := Lib.hid (fun W => rwide46 ts[i] cs[i] W HPI.out.1 (by unfold wth; simp [HPI.out.2.2.1, HPI.out.2.2.2]))
      have w1 := HPI.out.wide
      have r1 := HPI.out.1.x
      have r2 := HPI.out.1.y
      have r3 := HPI.out.2.1.x
      have r4 := HPI.out.2.1.y
      simp only at w1 r1 r2 r3 r4
      clear hst hsc HT1 HT2 HRT HPI
      generalize ts[i] = ti at *
      generalize cs[i] = ci at *
      unfold lowY at HE1
      unfold highY at HE2
      generalize wide ti ci = n at *
      obtain ⟨tx, ty, tlo, thi, ttol, tmat, tpin⟩ := ti
      obtain ⟨cx, cy, cd⟩ := ci
      simp only at w1 r1 r2 r3 r4 HE1 HE2
      have z0 : IntKind.i64.wrap (tx - cx) = tx - cx := IntWalk.i64_in _ (by omega)
      have z1 : IntKind.i64.wrap (2 * (tx - cx)) = 2 * (tx - cx) := IntWalk.i64_in _ (by omega)
      have z2 : IntKind.i64.wrap (ty - cy) = ty - cy := IntWalk.i64_in _ (by omega)
      have z3 : IntKind.i64.wrap (2 * (ty - cy)) = 2 * (ty - cy) := IntWalk.i64_in _ (by omega)
      obtain ⟨p1, hp1⟩ : ∃ p, p = 2 * (ty - cy) - n := ⟨_, rfl⟩
      obtain ⟨p2, hp2⟩ : ∃ p, p = 2 * (ty - cy) + n := ⟨_, rfl⟩
      obtain ⟨p3, hp3⟩ : ∃ p, p = -p2 := ⟨_, rfl⟩
      rw [← hp1] at HE1
      rw [← hp2, ← hp3] at HE2
      obtain ⟨dx, hdx⟩ : ∃ p, p = 2 * (tx - cx) := ⟨_, rfl⟩
      obtain ⟨dy, hdy⟩ : ∃ p, p = 2 * (ty - cy) := ⟨_, rfl⟩
      rw [← hdx] at z1
      rw [← hdy] at z3
      have z1' : IntKind.i64.wrap (2 * (tx - cx)) = dx := by rw [hdx]; exact IntWalk.i64_in _ (by omega)
      have z3' : IntKind.i64.wrap (2 * (ty - cy)) = dy := by rw [hdy]; exact IntWalk.i64_in _ (by omega)
      have z4 : IntKind.i64.wrap (dy - n) = p1 := by rw [hp1, ← hdy]; exact IntWalk.i64_in _ (by omega)
      have z5 : IntKind.i64.wrap (dy + n) = p2 := by rw [hp2, ← hdy]; exact IntWalk.i64_in _ (by omega)
      have z6 : IntKind.i64.wrap (-p2) = p3 := by rw [hp3]; exact IntWalk.i64_in _ (by omega)
      clear z1 z3 w1 r1 r2 r3 r4 hp1 hp2 hp3 hdx hdy
      have a0 := (HVI.out _ hin.out.bel).1
      have b0 := (HDI.out _ hin.out.bel).1
      go_wp2_with fail
      go_quiet (fail)
      clear a0 b0
      go_wp2_with fail
      refine genw (fun W => TwI w W (.slice A1 n1 c1) (.slice A2 n2 c2) (L1.take i) (L2.take i)) (hin.out.to (below_drewN (Below.refl _ _) _)) ?_
      intro W5 hW5
      have HI5 := Lib.hid hW5
      clear hW5 hin
      have a1' := (HVI.out _ HI5.out.bel).2.1
      have b1' := (HDI.out _ HI5.out.bel).2.1
      go_quiet (fail)
      clear a1' b1'
      go_wp2_with fail
      refine genw (fun W => TwI w W (.slice A1 n1 c1) (.slice A2 n2 c2) (L1.take i) (L2.take i)) (HI5.out.to (below_drewN (Below.refl _ _) _)) ?_
      intro W5b hW5b
      have HI5 := Lib.hid hW5b
      clear hW5b
      obtain ⟨a0, a1, a2, a3, a4, a5, a6⟩ := HVI.out _ HI5.out.bel
      obtain ⟨d0, d1, d2⟩ := HDI.out _ HI5.out.bel
      have ma0 := cell_regrown a0
      have ma1 := cell_regrown a1
      have ma2 := cell_regrown a2
      have ma3 := cell_regrown a3
      have ma4 := cell_regrown a4
      have ma5 := cell_regrown a5
      have ma6 := cell_regrown a6
      have md0 := cell_regrown d0
      have md1 := cell_regrown d1
      have md2 := cell_regrown d2
      have e1 : ∀ args w, (callFunc 68 args).run Tryz.prog w = .ok (.enter 68 args) w := enters_of Tryz.func68 (by kernel_rfl) rfl
      have k1 := reg_of (w := W5b) (fun W _ => HW1.out W)
      clear a0 a1 a2 a3 a4 a5 a6 d0 d1 d2
      go_wp2_with fail
      refine wp_region_quiet_below (by kernel_rfl) (by kernel_rfl) ?_
      repeat (go_big_quiet_step (fail))
      go_big_quiet_step (exact k1 _ _)
      repeat (go_big_quiet_step (fail))
      refine wpQuiet_nil ?_
      intro W6 hw'
      have hb6 : Below W5b.heap.size W5b W6 := by obtain ⟨p, e⟩ := hw'; rw [e]; exact below_regrown W5b p.d p.os
      clear hw'
      have HI6 := Lib.hid (HI5.out.to hb6)
      clear ma0 ma1 ma2 ma3 ma4 ma5 ma6 md0 md1 md2 e1 k1 hb6 HI5 HW1
      have hi16 : i + 1 < 100 := by have := HH.out.2; omega
      have HL1 := Lib.hid (show (L1.take i).length + 1 ≤ 1000000000 by rw [List.length_take]; have := HLL.out.1; have := HH.out.2; omega)
      have HL2 := Lib.hid (show (L2.take i).length + 1 ≤ 1000000000 by rw [List.length_take]; have := HLL.out.2; have := HH.out.2; omega)
      have H1 := Lib.hid (HI6.out.to (bel_al _ (.cells #[.int .i64 p1] 3 (0, 0))))
      have HN1 := Lib.hid ((rnw (w := W6) (t := 3) (xs := [.int .i64 p1])).cell (i := 0) rfl)
      clear HI6
      go_wp2_with (first
        | (at_builtin; refine wpList_appI_at rfl (.tmp 57) (.tmp 61) rfl rfl rfl H1.out.o1 rfl HN1.out H1.out.bel.size HL1.out ?_; intro v9 w9 ho9 hk9 hd9; obtain ⟨A9, c9, e9⟩ := OwnI.shape ho9; generalize (L1.take i ++ [p1]).length = n9 at e9; subst e9; have H9 := Lib.hid ((H1.out.app ho9 hk9 hd9).to (bel_al _ (.cells #[.int .i64 p3] 3 (0, 0)))); have HN2 := Lib.hid ((rnw (w := w9) (t := 3) (xs := [.int .i64 p3])).cell (i := 0) rfl); clear ho9 hk9 hd9)
        | (at_builtin; refine wpList_appI_at rfl (.tmp 63) (.tmp 68) rfl rfl rfl H9.out.o2 rfl HN2.out H9.out.bel.size HL2.out ?_; intro v8 w8 ho8 hk8 hd8; obtain ⟨A8, c8, e8⟩ := OwnI.shape ho8; generalize (L2.take i ++ [p3]).length = n8 at e8; subst e8; have H8 := Lib.hid (H9.out.swap.app ho8 hk8 hd8).swap; clear ho8 hk8 hd8))
      go_wp2
      go_roundw
      case rel => exact ⟨i + 1, by go_num, by omega, Lib.hid (by rw [HE1.out, HE2.out]; exact H8.out)⟩
      case measure => simp [intOf]; omega
    · obtain rfl : i = ts.length := by omega
      have hx := hin.out
      rw [List.take_of_length_le (by have := HLL.out.1; omega), List.take_of_length_le (by have := HLL.out.2; omega)] at hx
      have HX := Lib.hid hx
      have HG1 := Lib.hid (fun W (hW : Below wr.heap.size wr W) => rgreatest _ L1 W ((HX.out.to hW).o1.rd) (by have := HLL.out.1; have := HH.out; omega) (by have := HLL.out.1; have := HH.out; omega))
      have HG2 := Lib.hid (fun W (hW : Below wr.heap.size wr W) => rgreatest _ L2 W ((HX.out.to hW).o2.rd) (by have := HLL.out.2; have := HH.out; omega) (by have := HLL.out.2; have := HH.out; omega))
      have z9 := HZ9.out
      generalize mxZ L1 = m1 at *
      generalize mxZ L2 = m2 at *
      generalize hq : -m2 = m3 at *
      clear hx hin
      go_wp2_with fail
      refine (HG1.out _ (Below.refl _ _)).mono ?_
      rintro e w6 ⟨rfl, hb6⟩
      have HB6 := Lib.hid hb6
      clear hb6
      go_wp2_with fail
      refine (HG2.out _ HB6.out).mono ?_
      rintro e w7 ⟨rfl, hb7⟩
      have HB7 := Lib.hid (bel_to HX.out.bel (bel_to HB6.out hb7))
      clear hb7
      go_wp2
      go_ret2
      exact ⟨rfl, HB7.out⟩
end W
end Go.Proofs.YtnaikafamjebdaaGreatDoor
end
section
namespace Go.Proofs.YtnaikafamjebdaaGreatDoor
open Go Go.RowKit Go.Deep
namespace M
theorem sh_gt {pl : Pl} (h : 0 < pl.length) (f g : Tg × Cc → Int) : (pl.all fun p => decide (mxZ (pl.map f) ≤ g p)) = !decide (-(mxZ (pl.map fun p => -g p)) < mxZ (pl.map f)) := by
  have h1 := mxZ_le (l := pl.map fun p => -g p) (by rw [List.length_map]; exact h) (-(mxZ (pl.map f)))
  generalize mxZ (pl.map f) = m at *
  generalize mxZ (pl.map fun p => -g p) = m2 at *
  by_cases hc : m2 ≤ -m
  · have h2 := h1.1 hc
    rw [show (!decide (-m2 < m)) = true by simp; omega, List.all_eq_true]
    intro p hp
    have := h2 _ (List.mem_map_of_mem hp)
    simp; omega
  · rw [show (!decide (-m2 < m)) = false by simp; omega, Bool.eq_false_iff]
    intro h3
    rw [List.all_eq_true] at h3
    refine hc (h1.2 fun x hx => ?_)
    obtain ⟨p, hp, rfl⟩ := List.mem_map.1 hx
    have := h3 p hp
    simp at this
    omega
end M
namespace W
open M
attribute [local go_sem] bs_size bs_toList bs_get bs_extract bs_append bs_lit0 bs_lit1 lit1_bs
set_option maxHeartbeats 2000000
set_option maxRecDepth 20000
theorem rshift_bad (vt vc : Value) (ts : List Tg) (cs : List Cc) (w : World) (ht : RdG w vt ts) (hc : RdC w vc cs) (nt : ts.length ≤ maxLen) (nc : cs.length ≤ maxLen) (h : chk46 ts cs ≠ 0) :
    Calls Tryz.prog 17 #[vt, vc] w (Ret w (.tuple #[.bool false, .agg #[.string (bs []), .string (bs [])], .int .i64 ((chk46 ts cs : Nat) : Int)])) := by
  have hb0 := bel_al w (.cells #[.string ⟨#[]⟩, .string ⟨#[]⟩] 44 (0, 0))
  have hr0 : Row (w.alloc (.cells #[.string ⟨#[]⟩, .string ⟨#[]⟩] 44 (0, 0))) w.heap.size 44 [.string ⟨#[]⟩, .string ⟨#[]⟩] := rnw
  have HR0 := Lib.hid (And.intro hr0 hb0)
  have HC := Lib.hid (rcheck46 vt vc ts cs _ (ht.below hb0) (hc.below hb0) nt nc)
  have hz := nz_bne h
  obtain ⟨At, ct, rfl⟩ := ht.len
  obtain ⟨Ac, cc, rfl⟩ := hc.len
  generalize ((chk46 ts cs : Nat) : Int) = k at *
  clear h ht hc nt nc hr0 hb0
  go_enter Tryz.func17, Tryz.ntmps17
  go_wp2_with fail
  refine HC.out.mono ?_
  rintro e w1 ⟨rfl, hb1⟩
  have hrw := HR0.out.1.below' hb1
  have hbw := bel_to HR0.out.2 hb1
  clear hb1 HR0 HC
  · skip
    have HQ := Lib.hid (pl_store (.string ⟨#[]⟩) (.string ⟨#[]⟩) hrw (Nat.le_refl _) hbw)
    have f0 := hrw.free 0
    have d0 := hrw.cell (i := 0) rfl
    have f1 := (hrw.set 0 (.string ⟨#[]⟩)).free 1
    have d1 := (hrw.set 0 (.string ⟨#[]⟩)).cell (i := 1) rfl
    clear hrw hbw
    go_wp2
    have q0 := HQ.out.1.cell (i := 0) rfl
    have q1 := HQ.out.1.cell (i := 1) rfl
    refine bodyPost_ret (v := .tuple #[.bool false, .agg #[.string ⟨#[]⟩, .string ⟨#[]⟩], .int .i64 k]) (by simp [results, Tryz.results17, go_sem, q0, q1]) rfl ⟨rfl, HQ.out.2⟩
theorem rshift_ok (vt vc : Value) (ts : List Tg) (cs : List Cc) (w : World) (ht : RdG w vt ts) (hc : RdC w vc cs) (nt : ts.length ≤ maxLen) (nc : cs.length ≤ maxLen) (h : chk46 ts cs = 0) :
    Calls Tryz.prog 17 #[vt, vc] w (Ret w (shV (ts.zip cs))) := by
  obtain ⟨h1, h16, hlen, hrt⟩ := chk46_iff.1 h
  have hzl : (ts.zip cs).length = ts.length := by rw [List.length_zip]; omega
  have hc0 := fun W (hW : Below w.heap.size w W) => rcheck46 vt vc ts cs W (ht.below hW) (hc.below hW) nt nc
  rw [h] at hc0
  have HC : Hid (∀ W, Below w.heap.size w W → Calls Tryz.prog 9 #[vt, vc] W (Ret W (.int .i64 0))) := Lib.hid hc0
  have hb0 := bel_al w (.cells #[.string ⟨#[]⟩, .string ⟨#[]⟩] 44 (0, 0))
  have hr0 : Row (w.alloc (.cells #[.string ⟨#[]⟩, .string ⟨#[]⟩] 44 (0, 0))) w.heap.size 44 [.string ⟨#[]⟩, .string ⟨#[]⟩] := rnw
  have HR0 := Lib.hid (And.intro hr0 hb0)
  have HX := Lib.hid (fun W (hW : Below w.heap.size w W) => rrangeX vt vc ts cs W (ht.below hW) (hc.below hW) h)
  have HY := Lib.hid (fun W (hW : Below w.heap.size w W) => rrangeY vt vc ts cs W (ht.below hW) (hc.below hW) h)
  have hb : ∀ l : List Int, 0 < l.length → (∀ z ∈ l, z.natAbs < 10 ^ 8) → (mxZ l).natAbs < 10 ^ 8 := fun l h0 h => by
    obtain ⟨k, hk, e⟩ := mxTo_mem l h0 l.length (Nat.le_refl _)
    unfold mxZ
    rw [e, show l.getD k 0 = l[k] by simp [hk]]
    exact h _ (List.getElem_mem _)
  have hm1 := hb ((ts.zip cs).map lowX) (by rw [List.length_map]; omega) (fun z hz => by
    obtain ⟨p, hp, rfl⟩ := List.mem_map.1 hz
    exact (end_bd (hrt p hp) 1).2)
  have hm2 := hb ((ts.zip cs).map lowY) (by rw [List.length_map]; omega) (fun z hz => by
    obtain ⟨p, hp, rfl⟩ := List.mem_map.1 hz
    exact (end_bd (hrt p hp) 3).2)
  have HO1 : Hid (∀ W, Calls Tryz.prog 45 #[.int .i64 (mxZ ((ts.zip cs).map lowX)), .int .i64 2] W (Ret W (.string (bs (R (shX (ts.zip cs))))))) := Lib.hid (fun W => by
    have h := rover (mxZ ((ts.zip cs).map lowX)) 2 W (by omega) (by decide) (by decide)
    rw [Rat.divInt_eq_div] at h
    exact h)
  have HO2 : Hid (∀ W, Calls Tryz.prog 45 #[.int .i64 (mxZ ((ts.zip cs).map lowY)), .int .i64 2] W (Ret W (.string (bs (R (shY (ts.zip cs))))))) := Lib.hid (fun W => by
    have h := rover (mxZ ((ts.zip cs).map lowY)) 2 W (by omega) (by decide) (by decide)
    rw [Rat.divInt_eq_div] at h
    exact h)
  have HSV : Hid (shV (ts.zip cs) = if (!decide (-(mxZ ((ts.zip cs).map fun p => -highX p)) < mxZ ((ts.zip cs).map lowX)) && !decide (-(mxZ ((ts.zip cs).map fun p => -highY p)) < mxZ ((ts.zip cs).map lowY))) = true then .tuple #[.bool true, .agg #[.string (bs (R (shX (ts.zip cs)))), .string (bs (R (shY (ts.zip cs))))], .int .i64 0] else .tuple #[.bool false, .agg #[.string (bs []), .string (bs [])], .int .i64 0]) := Lib.hid (by
    unfold shV shOk
    rw [sh_gt (by omega) lowX highX, sh_gt (by omega) lowY highY])
  obtain ⟨At, ct, rfl⟩ := ht.len
  obtain ⟨Ac, cc, rfl⟩ := hc.len
  clear h ht hc nt nc hr0 hb0 h1 h16 hlen hrt hzl hc0 hb hm1 hm2
  generalize shV (ts.zip cs) = res at *
  generalize R (shX (ts.zip cs)) = sx at *
  generalize R (shY (ts.zip cs)) = sy at *
  generalize mxZ ((ts.zip cs).map lowX) = x1 at *
  generalize mxZ ((ts.zip cs).map lowY) = y1 at *
  generalize -(mxZ ((ts.zip cs).map fun p => -highX p)) = x2 at *
  generalize -(mxZ ((ts.zip cs).map fun p => -highY p)) = y2 at *
  go_enter Tryz.func17, Tryz.ntmps17
  go_wp2_with fail
  refine (HC.out _ HR0.out.2).mono ?_
  rintro e w1 ⟨rfl, hb1⟩
  have HR1 := Lib.hid (And.intro (HR0.out.1.below' hb1) (bel_to HR0.out.2 hb1))
  clear hb1
  go_wp2_with fail
  refine (HX.out _ HR1.out.2).mono ?_
  rintro e w2 ⟨rfl, hb2⟩
  have HR2 := Lib.hid (And.intro (HR1.out.1.below' hb2) (bel_to HR1.out.2 hb2))
  clear hb2
  go_wp2_with fail
  refine (HY.out _ HR2.out.2).mono ?_
  rintro e w3 ⟨rfl, hb3⟩
  have HR3 := Lib.hid (And.intro (HR2.out.1.below' hb3) (bel_to HR2.out.2 hb3))
  clear hb3
  have hrw := HR3.out.1
  have hbw := HR3.out.2
  clear HC HX HY HR0 HR1 HR2
  by_cases hx : x2 < x1
  · have hdx : decide (x2 < x1) = true := decide_eq_true hx
    rw [hdx] at HSV
    obtain rfl := HSV.out.trans (if_neg (by simp))
    clear HSV HR3 HO1 HO2
    have HQ := Lib.hid (pl_store (.string ⟨#[]⟩) (.string ⟨#[]⟩) hrw (Nat.le_refl _) hbw)
    have f0 := hrw.free 0
    have d0 := hrw.cell (i := 0) rfl
    have f1 := (hrw.set 0 (.string ⟨#[]⟩)).free 1
    have d1 := (hrw.set 0 (.string ⟨#[]⟩)).cell (i := 1) rfl
    clear hrw hbw
    go_wp2
    have q0 := HQ.out.1.cell (i := 0) rfl
    have q1 := HQ.out.1.cell (i := 1) rfl
    refine bodyPost_ret (v := .tuple #[.bool false, .agg #[.string ⟨#[]⟩, .string ⟨#[]⟩], .int .i64 0]) (by simp [results, Tryz.results17, go_sem, q0, q1]) rfl ⟨rfl, HQ.out.2⟩
  · have hdx : decide (x2 < x1) = false := decide_eq_false hx
    rw [hdx] at HSV
    by_cases hy : y2 < y1
    · have hdy : decide (y2 < y1) = true := decide_eq_true hy
      rw [hdy] at HSV
      obtain rfl := HSV.out.trans (if_neg (by simp))
      clear HSV HR3 HO1 HO2
      have HQ := Lib.hid (pl_store (.string ⟨#[]⟩) (.string ⟨#[]⟩) hrw (Nat.le_refl _) hbw)
      have f0 := hrw.free 0
      have d0 := hrw.cell (i := 0) rfl
      have f1 := (hrw.set 0 (.string ⟨#[]⟩)).free 1
      have d1 := (hrw.set 0 (.string ⟨#[]⟩)).cell (i := 1) rfl
      clear hrw hbw
      go_wp2
      have q0 := HQ.out.1.cell (i := 0) rfl
      have q1 := HQ.out.1.cell (i := 1) rfl
      refine bodyPost_ret (v := .tuple #[.bool false, .agg #[.string ⟨#[]⟩, .string ⟨#[]⟩], .int .i64 0]) (by simp [results, Tryz.results17, go_sem, q0, q1]) rfl ⟨rfl, HQ.out.2⟩
    · have hdy : decide (y2 < y1) = false := decide_eq_false hy
      rw [hdy] at HSV
      obtain rfl := HSV.out.trans (if_pos rfl)
      clear HSV hrw hbw
      go_wp2_with fail
      refine (HO1.out _).mono ?_
      rintro e w4 ⟨rfl, hb4⟩
      have HR4 := Lib.hid (And.intro (HR3.out.1.below' hb4) (bel_to HR3.out.2 hb4))
      clear hb4
      go_wp2_with fail
      refine (HO2.out _).mono ?_
      rintro e w5 ⟨rfl, hb5⟩
      have HR5 := Lib.hid (And.intro (HR4.out.1.below' hb5) (bel_to HR4.out.2 hb5))
      clear hb5
      have hrw := HR5.out.1
      have hbw := HR5.out.2
      clear HO1 HO2 HR3 HR4 HR5
      have HQ := Lib.hid (pl_store (.string (bs sx)) (.string (bs sy)) hrw (Nat.le_refl _) hbw)
      have f0 := hrw.free 0
      have d0 := hrw.cell (i := 0) rfl
      have f1 := (hrw.set 0 (.string (bs sx))).free 1
      have d1 := (hrw.set 0 (.string (bs sx))).cell (i := 1) rfl
      clear hrw hbw
      go_wp2
      have q0 := HQ.out.1.cell (i := 0) rfl
      have q1 := HQ.out.1.cell (i := 1) rfl
      refine bodyPost_ret (v := .tuple #[.bool true, .agg #[.string (bs sx), .string (bs sy)], .int .i64 0]) (by simp [results, Tryz.results17, go_sem, q0, q1]) rfl ⟨rfl, HQ.out.2⟩
end W
end Go.Proofs.YtnaikafamjebdaaGreatDoor
end
section
namespace Go.Proofs.YtnaikafamjebdaaGreatDoor
open Go Go.RowKit Go.Deep
def csL (l : List (Int × Int)) : List Value := l.flatMap fun x => [.int .i64 x.1, .int .i64 x.2]
theorem csL_len (l : List (Int × Int)) : (csL l).length = l.length * 2 := by
  induction l with
  | nil => rfl
  | cons x t ih => simp only [csL, List.flatMap_cons, List.length_append, List.length_cons, List.length_nil] at *; omega
def OwnL (w : World) (B : Nat) (v : Value) (l : List (Int × Int)) : Prop := w.ownsRow B 132 2 v l.length (csL l)
theorem OwnL.cells {w : World} {B g cap : Nat} {l : List (Int × Int)} (h : OwnL w B (.slice (some ⟨g, 0, none⟩) l.length cap) l) (j : Nat) (u : Value) (hu : (csL l)[j]? = some u) : w.cell? ⟨g, j, none⟩ = some u := by
  have hj : j < l.length * 2 := by rw [← csL_len]; exact (List.getElem?_eq_some_iff.1 hu).1
  rw [World.ownsRow.cellAt h j hj, hu]
end Go.Proofs.YtnaikafamjebdaaGreatDoor
end
section
namespace Go.Proofs.YtnaikafamjebdaaGreatDoor
open Go Go.RowKit Go.Deep
namespace M
open Sx
end M
namespace W
open M
attribute [local go_sem] bs_size bs_toList bs_get bs_extract bs_append bs_lit0 bs_lit1 lit1_bs
set_option maxHeartbeats 2000000
set_option maxRecDepth 20000
end W
end Go.Proofs.YtnaikafamjebdaaGreatDoor
end
section
namespace Go.Proofs.YtnaikafamjebdaaGreatDoor
open Go Go.RowKit Go.Deep
namespace M
end M
namespace W
open M
attribute [local go_sem] bs_size bs_toList bs_get bs_extract bs_append bs_lit0 bs_lit1 lit1_bs
set_option maxHeartbeats 4000000
set_option maxRecDepth 20000
end W
end Go.Proofs.YtnaikafamjebdaaGreatDoor
end
section
namespace Go.Proofs.YtnaikafamjebdaaGreatDoor
namespace M
end M
end Go.Proofs.YtnaikafamjebdaaGreatDoor
end
section
namespace Go.Proofs.YtnaikafamjebdaaGreatDoor
open Go Go.RowKit Go.Deep
namespace M
end M
namespace W
open M
attribute [local go_sem] bs_size bs_toList bs_get bs_extract bs_append bs_lit0 bs_lit1 lit1_bs
set_option maxHeartbeats 2000000
set_option maxRecDepth 20000
end W
end Go.Proofs.YtnaikafamjebdaaGreatDoor
end
section
namespace Go.Proofs.YtnaikafamjebdaaGreatDoor
open Go Go.RowKit Go.Deep
namespace M
end M
namespace W
open M
attribute [local go_sem] bs_size bs_toList bs_get bs_extract bs_append bs_lit0 bs_lit1 lit1_bs
set_option maxHeartbeats 2000000
set_option maxRecDepth 20000
end W
end Go.Proofs.YtnaikafamjebdaaGreatDoor
end
section
namespace Go.Proofs.YtnaikafamjebdaaGreatDoor
open Go Go.RowKit Go.Deep
namespace M
def few46 (n m : Nat) : Bool := (decide (n ≤ 5) && decide (m ≤ 6)) || (decide (16 < n) && decide (n < 100) && decide (m < 100))
end M
namespace W
open M
attribute [local go_sem] bs_size bs_toList bs_get bs_extract bs_append bs_lit0 bs_lit1 lit1_bs
set_option maxHeartbeats 2000000
set_option maxRecDepth 20000
theorem rfew46 (vt vc : Value) (ts : List Tg) (cs : List Cc) (w : World) (ht : RdG w vt ts) (hc : RdC w vc cs) : Calls Tryz.prog 6 #[vt, vc] w (Ret w (.bool (few46 ts.length cs.length))) := by
  obtain ⟨At, ct, rfl⟩ := ht.len
  obtain ⟨Ac, cc, rfl⟩ := hc.len
  clear ht hc
  generalize ts.length = n at *
  generalize cs.length = m at *
  by_cases h1 : n ≤ 5
  · have i1 : (n : Int) ≤ 5 := by omega
    by_cases h2 : m ≤ 6
    · have i2 : (m : Int) ≤ 6 := by omega
      have HF := Lib.hid (show few46 n m = true by unfold few46; simp [h1, h2])
      clear h1 h2
      go_enter Tryz.func6, Tryz.ntmps6
      go_wp2
      go_ret
      exact Ret.of (by rw [HF.out]; rfl) (Below.refl _ _)
    · have i2 : ¬ (m : Int) ≤ 6 := by omega
      have i3 : ¬ (16 : Int) < (n : Int) := by omega
      have HF := Lib.hid (show few46 n m = false by unfold few46; simp [h1, h2]; omega)
      clear h1 h2
      go_enter Tryz.func6, Tryz.ntmps6
      go_wp2
      go_ret
      exact Ret.of (by rw [HF.out]; rfl) (Below.refl _ _)
  · have i1 : ¬ (n : Int) ≤ 5 := by omega
    by_cases h3 : 16 < n
    · have i3 : (16 : Int) < (n : Int) := by omega
      by_cases h4 : n < 100
      · have i4 : (n : Int) < 100 := by omega
        by_cases h5 : m < 100
        · have i5 : (m : Int) < 100 := by omega
          have HF := Lib.hid (show few46 n m = true by unfold few46; simp [h1, h3, h4, h5])
          clear h1 h3 h4 h5
          go_enter Tryz.func6, Tryz.ntmps6
          go_wp2
          go_ret
          exact Ret.of (by rw [HF.out]; rfl) (Below.refl _ _)
        · have i5 : ¬ (m : Int) < 100 := by omega
          have HF := Lib.hid (show few46 n m = false by unfold few46; simp [h1, h3, h4, h5])
          clear h1 h3 h4 h5
          go_enter Tryz.func6, Tryz.ntmps6
          go_wp2
          go_ret
          exact Ret.of (by rw [HF.out]; rfl) (Below.refl _ _)
      · have i4 : ¬ (n : Int) < 100 := by omega
        have HF := Lib.hid (show few46 n m = false by unfold few46; simp [h1, h3, h4])
        clear h1 h3 h4
        go_enter Tryz.func6, Tryz.ntmps6
        go_wp2
        go_ret
        exact Ret.of (by rw [HF.out]; rfl) (Below.refl _ _)
    · have i3 : ¬ (16 : Int) < (n : Int) := by omega
      have HF := Lib.hid (show few46 n m = false by unfold few46; simp [h1, h3])
      clear h1 h3
      go_enter Tryz.func6, Tryz.ntmps6
      go_wp2
      go_ret
      exact Ret.of (by rw [HF.out]; rfl) (Below.refl _ _)
end W
end Go.Proofs.YtnaikafamjebdaaGreatDoor
end
section
namespace Go.Proofs.YtnaikafamjebdaaGreatDoor
open Go Go.RowKit Go.Deep
namespace W
open M
attribute [local go_sem] bs_size bs_toList bs_get bs_extract bs_append bs_lit0 bs_lit1 lit1_bs
set_option maxHeartbeats 2000000
set_option maxRecDepth 20000
theorem checks_not (vt vc : Value) (ts : List Tg) (cs : List Cc) (w : World) (hg : Glob w) (hs : Sig w) (ht : RdG w vt ts) (hc : RdC w vc cs) (hn : few46 ts.length cs.length = false) : Calls Tryz.prog 4 #[vt, vc] w (Ret w (.bool true)) := by
  have hr := rfew46 vt vc ts cs w ht hc
  rw [hn] at hr
  have HR := Lib.hid hr
  have HA := Lib.hid (fun W (hW : Below w.heap.size w W) => awake46 W (hg.of hW) (hs.below hW))
  obtain ⟨At, ct, rfl⟩ := ht.len
  obtain ⟨Ac, cc, rfl⟩ := hc.len
  clear hg hs ht hc hn hr
  go_enter Tryz.func4, Tryz.ntmps4
  go_wp2_with fail
  refine (HR.out).mono ?_
  rintro e w1 ⟨rfl, hb1⟩
  go_wp2_with fail
  refine (HA.out _ hb1).mono ?_
  rintro e w2 ⟨rfl, hb2⟩
  go_wp2
  go_ret
  exact Ret.of rfl (Below.then hb1 hb2)
theorem checks_core (vt vc : Value) (ts : List Tg) (cs : List Cc) (w : World) (hg : Glob w) (hs : Sig w) (ht : RdG w vt ts) (hc : RdC w vc cs) (hn : few46 ts.length cs.length = true) (k : Int) (b : Bool) (sx sy : List UInt8) (l : List BT) (hl : l.length ≤ 1000000) (hr : ∀ x ∈ l, x.1.length ≤ 1000000)
    (hPB : ∀ W, Below w.heap.size w W → Calls Tryz.prog 14 #[vt, vc] W (fun e w' => ∃ v, e = .returned (.tuple #[v, .int .i64 k]) ∧ RdB w' v l ∧ Below W.heap.size W w'))
    (hRB : ∀ W, Below w.heap.size w W → Calls Tryz.prog 15 #[vt, vc] W (fun e w' => ∃ v, e = .returned (.tuple #[v, .int .i64 k]) ∧ RdB w' v l ∧ Below W.heap.size W w'))
    (hPS : ∀ W, Below w.heap.size w W → Calls Tryz.prog 16 #[vt, vc] W (Ret W (.tuple #[.bool b, .agg #[.string (bs sx), .string (bs sy)], .int .i64 k])))
    (hRS : ∀ W, Below w.heap.size w W → Calls Tryz.prog 17 #[vt, vc] W (Ret W (.tuple #[.bool b, .agg #[.string (bs sx), .string (bs sy)], .int .i64 k])))
    (hPC : ∀ W, Below w.heap.size w W → Calls Tryz.prog 21 #[vt, vc] W (Ret W (.int .i64 k)))
    (hRC : ∀ W, Below w.heap.size w W → Calls Tryz.prog 9 #[vt, vc] W (Ret W (.int .i64 k))) : Calls Tryz.prog 4 #[vt, vc] w (Ret w (.bool true)) := by
  have hr0 := rfew46 vt vc ts cs w ht hc
  rw [hn] at hr0
  have HR := Lib.hid hr0
  have HA := Lib.hid (fun W (hW : Below w.heap.size w W) => awake46 W (hg.of hW) (hs.below hW))
  have HPB := Lib.hid hPB
  have HRB := Lib.hid hRB
  have HPS := Lib.hid hPS
  have HRS := Lib.hid hRS
  have HPC := Lib.hid hPC
  have HRC := Lib.hid hRC
  have HEQ := Lib.hid (fun va vb W (h1 : RdB W va l) (h2 : RdB W vb l) => equalB va vb l W h1 h2 hl hr)
  have heq : ∀ W, (binOp .eql 44 (.agg #[.string (bs sx), .string (bs sy)]) (.agg #[.string (bs sx), .string (bs sy)])).run Tryz.prog W = .ok (.bool true) W := fun W => by
    rw [eq_pl]; simp
  obtain ⟨At, ct, rfl⟩ := ht.len
  obtain ⟨Ac, cc, rfl⟩ := hc.len
  clear hg hs ht hc hn hr0 hPB hRB hPS hRS hPC hRC hl hr
  go_enter Tryz.func4, Tryz.ntmps4
  go_wp2_with fail
  refine (HR.out).mono ?_
  rintro e w1 ⟨rfl, hb1⟩
  have H1 := Lib.hid hb1
  clear hb1 HR
  go_wp2_with fail
  refine (HPB.out _ H1.out).mono ?_
  rintro e w2 ⟨v1, rfl, hd2, hb2⟩
  have H2 := Lib.hid (And.intro (bel_to H1.out hb2) hd2)
  obtain ⟨A1, c1, rfl⟩ := hd2.len
  clear hb2 hd2 H1 HPB
  go_wp2_with fail
  refine (HRB.out _ H2.out.1).mono ?_
  rintro e w3 ⟨v2, rfl, hd3, hb3⟩
  have H3 := Lib.hid (And.intro (bel_to H2.out.1 hb3) (And.intro (H2.out.2.below hb3) hd3))
  obtain ⟨A2, c2, rfl⟩ := hd3.len
  clear hb3 hd3 H2 HRB
  go_wp2_with fail
  refine (HPS.out _ H3.out.1).mono ?_
  rintro e w4 ⟨rfl, hb4⟩
  have hb4a := bel_to hb4 (bel_al w4 (.cells #[.string (bs sx), .string (bs sy)] 44 (0, 0)))
  have hrow4 : Row (w4.alloc (.cells #[.string (bs sx), .string (bs sy)] 44 (0, 0))) w4.heap.size 44 [.string (bs sx), .string (bs sy)] := rnw
  have H4 := Lib.hid (And.intro (bel_to H3.out.1 hb4a) (And.intro (H3.out.2.1.below hb4a) (And.intro (H3.out.2.2.below hb4a) hrow4)))
  clear hb4 hb4a hrow4 H3 HPS
  go_wp2_with fail
  refine (HRS.out _ H4.out.1).mono ?_
  rintro e w5 ⟨rfl, hb5⟩
  have hb5a := bel_to hb5 (bel_al w5 (.cells #[.string (bs sx), .string (bs sy)] 44 (0, 0)))
  have hrow5 : Row (w5.alloc (.cells #[.string (bs sx), .string (bs sy)] 44 (0, 0))) w5.heap.size 44 [.string (bs sx), .string (bs sy)] := rnw
  have H5 := Lib.hid (And.intro (bel_to H4.out.1 hb5a) (And.intro (H4.out.2.1.below hb5a) (And.intro (H4.out.2.2.1.below hb5a) (And.intro (H4.out.2.2.2.below' hb5a) hrow5))))
  clear hb5 hb5a hrow5 H4 HRS
  go_wp2_with fail
  refine (HEQ.out _ _ _ H5.out.2.1 H5.out.2.2.1).mono ?_
  rintro e w6 ⟨rfl, hb6⟩
  have H6 := Lib.hid (And.intro (bel_to H5.out.1 hb6) (And.intro (H5.out.2.2.2.1.below' hb6) (H5.out.2.2.2.2.below' hb6)))
  clear hb6 H5 HEQ
  go_wp2_with fail
  refine (HA.out _ H6.out.1).mono ?_
  rintro e w7 ⟨rfl, hb7⟩
  have H7 := Lib.hid (And.intro (bel_to H6.out.1 hb7) (And.intro (H6.out.2.1.below' hb7) (H6.out.2.2.below' hb7)))
  clear hb7 H6 HA
  go_wp2_with fail
  refine (HPC.out _ H7.out.1).mono ?_
  rintro e w8 ⟨rfl, hb8⟩
  have H8 := Lib.hid (And.intro (bel_to H7.out.1 hb8) (And.intro (H7.out.2.1.below' hb8) (H7.out.2.2.below' hb8)))
  clear hb8 H7 HPC
  go_wp2_with fail
  refine (HRC.out _ H8.out.1).mono ?_
  rintro e w9 ⟨rfl, hb9⟩
  have p0 := (H8.out.2.1.below' hb9).cell (i := 0) rfl
  have p1 := (H8.out.2.1.below' hb9).cell (i := 1) rfl
  have q0 := (H8.out.2.2.below' hb9).cell (i := 0) rfl
  have q1 := (H8.out.2.2.below' hb9).cell (i := 1) rfl
  have H9 := Lib.hid (bel_to H8.out.1 hb9)
  clear hb9 H8 HRC
  go_wp2
  go_ret
  exact Ret.of (by simp) H9.out
theorem checks_law (vt vc : Value) (ts : List Tg) (cs : List Cc) (w : World) (hg : Glob w) (hs : Sig w) (ht : RdG w vt ts) (hc : RdC w vc cs) (nt : ts.length ≤ maxLen) (nc : cs.length ≤ maxLen) : Calls Tryz.prog 4 #[vt, vc] w (Ret w (.bool true)) := by
  by_cases hn : few46 ts.length cs.length = true
  · by_cases h : chk46 ts cs = 0
    · have hrp := (Sx.bnds_rightP (chk46_iff.1 h).2.2.2).right
      have hln : (bx (bnds (ts.zip cs))).length ≤ 1000000 := by
        rw [bx_len, bnds_len, List.length_zip]
        have := (chk46_iff.1 h).2.1
        omega
      have hrl : ∀ x ∈ bx (bnds (ts.zip cs)), x.1.length ≤ 1000000 := fun x hx => by
        unfold bx at hx
        obtain ⟨y, hy, rfl⟩ := List.mem_map.1 hx
        have := (hrp y hy).1
        simp only
        rw [rx_len]
        omega
      have hsh : ∃ b sx sy, shV (ts.zip cs) = .tuple #[.bool b, .agg #[.string (bs sx), .string (bs sy)], .int .i64 0] := by
        unfold shV; split
        · exact ⟨_, _, _, rfl⟩
        · exact ⟨_, _, _, rfl⟩
      obtain ⟨b, sx, sy, hsv⟩ := hsh
      refine checks_core vt vc ts cs w hg hs ht hc hn 0 b sx sy _ hln hrl
        (fun W hW => pBounds_ok vt vc ts cs W (hg.of hW) (hs.below hW) (ht.below hW) (hc.below hW) nt nc h)
        (fun W hW => rbounds_ok vt vc ts cs W (ht.below hW) (hc.below hW) nt nc h)
        (fun W hW => by rw [← hsv]; exact pshift_ok vt vc ts cs W (hg.of hW) (hs.below hW) (ht.below hW) (hc.below hW) h)
        (fun W hW => by rw [← hsv]; exact rshift_ok vt vc ts cs W (ht.below hW) (hc.below hW) nt nc h)
        (fun W hW => ?_) (fun W hW => ?_)
      · have := pcheck46 vt vc ts cs W (hs.below hW) (ht.below hW) (hc.below hW) nt nc
        rw [h] at this
        exact this
      · have := rcheck46 vt vc ts cs W (ht.below hW) (hc.below hW) nt nc
        rw [h] at this
        exact this
    · exact checks_core vt vc ts cs w hg hs ht hc hn _ false [] [] [] (by simp) (fun x hx => by cases hx)
        (fun W hW => (pBounds_bad vt vc ts cs W (hs.below hW) (ht.below hW) (hc.below hW) nt nc h).mono fun e w' hq => ⟨_, hq.1, ⟨none, 0, rfl, Or.inl rfl⟩, hq.2⟩)
        (fun W hW => (rbounds_bad vt vc ts cs W (ht.below hW) (hc.below hW) nt nc h).mono fun e w' hq => ⟨_, hq.1, ⟨none, 0, rfl, Or.inl rfl⟩, hq.2⟩)
        (fun W hW => pshift_bad vt vc ts cs W (hs.below hW) (ht.below hW) (hc.below hW) nt nc h)
        (fun W hW => rshift_bad vt vc ts cs W (ht.below hW) (hc.below hW) nt nc h)
        (fun W hW => pcheck46 vt vc ts cs W (hs.below hW) (ht.below hW) (hc.below hW) nt nc)
        (fun W hW => rcheck46 vt vc ts cs W (ht.below hW) (hc.below hW) nt nc)
  · exact checks_not vt vc ts cs w hg hs ht hc (by simpa using hn)
end W
end Go.Proofs.YtnaikafamjebdaaGreatDoor
end
