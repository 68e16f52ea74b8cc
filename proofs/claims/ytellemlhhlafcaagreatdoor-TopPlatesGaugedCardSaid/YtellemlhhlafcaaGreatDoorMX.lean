/-
  Chapter 12 of the program: a place in a disc ('keeps').
  Chapter 12 of the program: whether a witness proves ('proves').
  Chapter 12 of the program: the first witness that proves ('first').
  Chapter 12 of the program: 'Check', 'list' and 'Common' at small discs.
-/
import Derived.Test.YtellemlhhlafcaaGreatDoorMW
section
namespace Go.Proofs.YtellemlhhlafcaaGreatDoor
open Go Go.RowKit Go.Deep Go.Sort
abbrev skC (p : M.Sp) : List Value := [.string (bs (M.R p.fx)), .string (bs (M.R p.fy)), .string (bs (M.R p.ax)), .string (bs (M.R p.ay)), .string (bs (M.R p.h))]
abbrev skV (p : M.Sp) : Value := .agg #[.string (bs (M.R p.fx)), .string (bs (M.R p.fy)), .string (bs (M.R p.ax)), .string (bs (M.R p.ay)), .string (bs (M.R p.h))]
abbrev dkV (d : M.Dk) : Value := .agg #[.string (bs (M.R d.x)), .string (bs (M.R d.y)), .string (bs (M.R d.s))]
namespace M
structure SmP (p : Sp) : Prop where
  fx : Bq 31 p.fx
  fy : Bq 31 p.fy
  ax : Bq 9 p.ax
  ay : Bq 9 p.ay
  h : Bq 61 p.h
  nn : 0 ≤ p.h
end M
namespace M
theorem reach_sm {l : List Dk} {x : Wn} {p : Sp} (hS : ∀ d ∈ l, SmD d) (hi : x.i < l.length) (hj : x.j < l.length) (h : reachD l x = some p) : SmP p := by
  have ea : atD l x.i = l[x.i] := by unfold atD; rw [List.getD_eq_getElem?_getD, List.getElem?_eq_getElem hi]; rfl
  have ec : atD l x.j = l[x.j] := by unfold atD; rw [List.getD_eq_getElem?_getD, List.getElem?_eq_getElem hj]; rfl
  have sa := hS _ (List.getElem_mem hi)
  have sc := hS _ (List.getElem_mem hj)
  unfold reachD at h
  rw [ea, ec] at h
  generalize l[x.i] = a at *
  generalize l[x.j] = c at *
  obtain ⟨q1, q2, q3, _⟩ := sa.bq
  split at h
  · split at h
    · cases h
      exact ⟨q1.mono (by decide), q2.mono (by decide), Bq_nil.mono (by decide), Bq_nil.mono (by decide), Bq_nil.mono (by decide), Rat.le_refl⟩
    · cases h
  · split at h
    · cases h
    · rename_i hf
      split at h
      · rename_i h1
        cases h
        obtain ⟨t1, t2⟩ := sa.bt sc hf
        obtain ⟨dx, dy, e1, e2, d1, d2⟩ := sa.far sc
        have bx : Bq 7 (c.x - a.x) := by rw [e1]; exact Bq_int (by decide) d1
        have bY : Bq 7 (c.y - a.y) := by rw [e2]; exact Bq_int (by decide) d2
        refine ⟨q1.add (t1.mul bx), q2.add (t1.mul bY), ?_, ?_, (Bq.div q3 t2 hf).sub (t1.mul t1), h1.1⟩
        · unfold crossD; dsimp only; split
          · exact bY.mono (by decide)
          · exact Bq_nil.sub bY
        · unfold crossD; dsimp only; split
          · exact Bq_nil.sub bx
          · exact bx.mono (by decide)
      · cases h
end M
structure DkP (w W : World) (b : Nat) (d1 d2 d3 f1 f2 f3 f4 f5 : List UInt8) : Prop where
  rd : Row W b 127 [.string (bs d1), .string (bs d2), .string (bs d3)]
  rp : Row W (b + 1) 270 [.string (bs f1), .string (bs f2), .string (bs f3), .string (bs f4), .string (bs f5)]
  bel : Below w.heap.size w W
theorem DkP.to {w W W' : World} {b : Nat} {d1 d2 d3 f1 f2 f3 f4 f5 : List UInt8} (h : DkP w W b d1 d2 d3 f1 f2 f3 f4 f5) (hb : Below W.heap.size W W') : DkP w W' b d1 d2 d3 f1 f2 f3 f4 f5 :=
  ⟨h.rd.below' hb, h.rp.below' hb, bel_to h.bel hb⟩
namespace W
open M
attribute [local go_sem] bs_size bs_toList bs_get bs_extract bs_append bs_lit0 bs_lit1 lit1_bs
set_option maxHeartbeats 1000000
set_option maxRecDepth 20000
theorem kkeeps (b : Nat) (d : Dk) (p : Sp) (w : World) (hg : Glob w) (hs : NoErrD w b) (hd : SmD d) (hp : SmP p) :
    Calls Tryz.prog 164 #[.pointer (some ⟨b, 0, none⟩), dkV d, skV p] w (Ret w (.bool (keepD p d))) := by
  obtain ⟨q1, q2, q3, _⟩ := hd.bq
  have m1 := hp.fx.sub q1
  have m2 := hp.fy.sub q2
  have HL := Lib.hid (fun W (hW : Below w.heap.size w W) => kless b p.fx p.fy d.x d.y 31 6 W (hg.of hW) (hs.below' hW) hp.fx hp.fy q1 q2 (by decide))
  have H19 := Lib.hid (fun W (hW : Below w.heap.size w W) => kdot b (p.fx - d.x) (p.fy - d.y) (p.fx - d.x) (p.fy - d.y) 38 38 W (hg.of hW) (hs.below' hW) m1 m2 m1 m2 (by decide))
  have H28 := Lib.hid (fun W (hW : Below w.heap.size w W) => kdot b p.ax p.ay p.ax p.ay 9 9 W (hg.of hW) (hs.below' hW) hp.ax hp.ay hp.ax hp.ay (by decide))
  have b19 : Bq 153 ((p.fx - d.x) * (p.fx - d.x) + (p.fy - d.y) * (p.fy - d.y)) := (m1.mul m1).add (m2.mul m2)
  have b28 : Bq 37 (p.ax * p.ax + p.ay * p.ay) := (hp.ax.mul hp.ax).add (hp.ay.mul hp.ay)
  have H29 := Lib.hid (fun W (hW : Below w.heap.size w W) => kmul b p.h (p.ax * p.ax + p.ay * p.ay) 61 37 W (hg.of hW) (hs.below' hW) hp.h b28 (by decide))
  have b29 : Bq 98 (p.h * (p.ax * p.ax + p.ay * p.ay)) := hp.h.mul b28
  have H30 := Lib.hid (fun W (hW : Below w.heap.size w W) => kadd b _ _ 153 98 W (hg.of hW) (hs.below' hW) b19 b29 (by decide))
  have b30 : Bq 252 ((p.fx - d.x) * (p.fx - d.x) + (p.fy - d.y) * (p.fy - d.y) + p.h * (p.ax * p.ax + p.ay * p.ay)) := b19.add b29
  have H36 := Lib.hid (fun W (hW : Below w.heap.size w W) => ksub b _ d.s 252 11 W (hg.of hW) (hs.below' hW) b30 q3 (by decide))
  have b36 : Bq 264 (keepX d p) := b30.sub q3
  have H42 := Lib.hid (fun W (hW : Below w.heap.size w W) => kdot b (p.fx - d.x) (p.fy - d.y) p.ax p.ay 38 9 W (hg.of hW) (hs.below' hW) m1 m2 hp.ax hp.ay (by decide))
  have b42 : Bq 95 ((p.fx - d.x) * p.ax + (p.fy - d.y) * p.ay) := (m1.mul hp.ax).add (m2.mul hp.ay)
  have h43 := fun W (hW : Below w.heap.size w W) => kmul b 2 ((p.fx - d.x) * p.ax + (p.fy - d.y) * p.ay) 1 95 W (hg.of hW) (hs.below' hW) Bq_two b42 (by decide)
  rw [R_two] at h43
  have H43 := Lib.hid h43
  have b43 : Bq 96 (keepY d p) := Bq_two.mul b42
  have H46 := Lib.hid (fun W (hW : Below w.heap.size w W) => kroot b (keepX d p) (keepY d p) p.h 264 96 61 W (hg.of hW) (hs.below' hW) b36 b43 hp.h hp.nn (by decide))
  unfold keepD
  rw [show (p.fx - d.x) * (p.fx - d.x) + (p.fy - d.y) * (p.fy - d.y) + p.h * (p.ax * p.ax + p.ay * p.ay) - d.s = keepX d p from rfl] at H36
  rw [show 2 * ((p.fx - d.x) * p.ax + (p.fy - d.y) * p.ay) = keepY d p from rfl] at H43
  clear m1 m2 b19 b28 b29 b30 b36 b42 b43 h43 q1 q2 q3 hp hd hs hg
  generalize rootR (keepX d p) (keepY d p) p.h = rr at *
  generalize R (keepX d p) = sX at *
  generalize R (keepY d p) = sY at *
  generalize R ((p.fx - d.x) * (p.fx - d.x) + (p.fy - d.y) * (p.fy - d.y) + p.h * (p.ax * p.ax + p.ay * p.ay)) = s30 at *
  generalize R (p.h * (p.ax * p.ax + p.ay * p.ay)) = s29 at *
  generalize R (p.ax * p.ax + p.ay * p.ay) = s28 at *
  generalize R ((p.fx - d.x) * (p.fx - d.x) + (p.fy - d.y) * (p.fy - d.y)) = s19 at *
  generalize R ((p.fx - d.x) * p.ax + (p.fy - d.y) * p.ay) = s42 at *
  generalize R (p.fx - d.x) = mx at *
  generalize R (p.fy - d.y) = my at *
  unfold dkV skV
  generalize R p.fx = f1 at *
  generalize R p.fy = f2 at *
  generalize R p.ax = f3 at *
  generalize R p.ay = f4 at *
  generalize R p.h = f5 at *
  generalize R d.x = d1 at *
  generalize R d.y = d2 at *
  generalize R d.s = d3 at *
  have HR : Hid (DkP w ((w.alloc (.cells #[.string (bs d1), .string (bs d2), .string (bs d3)] 127 (0, 0))).alloc (.cells #[.string (bs f1), .string (bs f2), .string (bs f3), .string (bs f4), .string (bs f5)] 270 (0, 0))) w.heap.size d1 d2 d3 f1 f2 f3 f4 f5) :=
    Lib.hid ⟨rnw.alloc _, rnew0 (World.size_alloc _ _).symm, bel_al2 _ _ _⟩
  have u1 := HR.out.rd.cell (i := 0) rfl
  have u2 := HR.out.rd.cell (i := 1) rfl
  have v1 := HR.out.rp.cell (i := 0) rfl
  have v2 := HR.out.rp.cell (i := 1) rfl
  go_enter Tryz.func164, Tryz.ntmps164
  go_wp2_with fail
  refine (HL.out _ HR.out.bel).mono ?_
  rintro e w1 ⟨rfl, hb1⟩
  have H1 := Lib.hid (HR.out.to hb1)
  clear hb1 u1 u2 v1 v2 HR HL
  have hb2 := bel_al w1 (.cells #[.string (bs mx), .string (bs my)] 88 (0, 0))
  have hrm : Row (w1.alloc (.cells #[.string (bs mx), .string (bs my)] 88 (0, 0))) w1.heap.size 88 [.string (bs mx), .string (bs my)] := rnw
  have H2 := Lib.hid (And.intro (H1.out.to hb2) hrm)
  clear hb2 hrm H1
  go_wp2_with fail
  generalize w1.alloc (.cells #[.string (bs mx), .string (bs my)] 88 (0, 0)) = W at *
  generalize w1.heap.size = D at *
  have m0 := cell_regrown (H2.out.2.cell (i := 0) rfl)
  have m1 := cell_regrown (H2.out.2.cell (i := 1) rfl)
  have v3 := cell_regrown (H2.out.1.rp.cell (i := 2) rfl)
  have v4 := cell_regrown (H2.out.1.rp.cell (i := 3) rfl)
  have v5 := cell_regrown (H2.out.1.rp.cell (i := 4) rfl)
  have k1 := reg_of (w := W) (fun E hE => H19.out E (bel_to H2.out.1.bel hE))
  have k2 := reg_of (w := W) (fun E hE => H28.out E (bel_to H2.out.1.bel hE))
  have k3 := reg_of (w := W) (fun E hE => H29.out E (bel_to H2.out.1.bel hE))
  have k4 := reg_of (w := W) (fun E hE => H30.out E (bel_to H2.out.1.bel hE))
  have e1 : ∀ args w, (callFunc 147 args).run Tryz.prog w = .ok (.enter 147 args) w := enters_of Tryz.func147 (by kernel_rfl) rfl
  have e2 : ∀ args w, (callFunc 193 args).run Tryz.prog w = .ok (.enter 193 args) w := enters_of Tryz.func193 (by kernel_rfl) rfl
  have e3 : ∀ args w, (callFunc 192 args).run Tryz.prog w = .ok (.enter 192 args) w := enters_of Tryz.func192 (by kernel_rfl) rfl
  have e4 : ∀ args w, (callFunc 145 args).run Tryz.prog w = .ok (.enter 145 args) w := enters_of Tryz.func145 (by kernel_rfl) rfl
  have e5 : ∀ args w, (callFunc 144 args).run Tryz.prog w = .ok (.enter 144 args) w := enters_of Tryz.func144 (by kernel_rfl) rfl
  refine wp_region_quiet_below (by kernel_rfl) (by kernel_rfl) ?_
  repeat (go_big_quiet_step (fail))
  go_big_quiet_step (exact k1 _ _)
  repeat (go_big_quiet_step (fail))
  go_big_quiet_step (exact k2 _ _)
  repeat (go_big_quiet_step (fail))
  go_big_quiet_step (exact k3 _ _)
  repeat (go_big_quiet_step (fail))
  go_big_quiet_step (exact k4 _ _)
  repeat (go_big_quiet_step (fail))
  refine wpQuiet_nil ?_
  intro W6 hw'
  have hb6 : Below W.heap.size W W6 := by obtain ⟨p, e⟩ := hw'; rw [e]; exact below_regrown W p.d p.os
  clear hw'
  have H6 := Lib.hid (And.intro (H2.out.1.to hb6) (H2.out.2.below' hb6))
  clear hb6 k1 k2 k3 k4 m0 m1 v3 v4 v5 H2 H19 H28 H29 H30
  go_wp2_with fail
  have m0 := cell_regrown (H6.out.2.cell (i := 0) rfl)
  have m1 := cell_regrown (H6.out.2.cell (i := 1) rfl)
  have v3 := cell_regrown (H6.out.1.rp.cell (i := 2) rfl)
  have v4 := cell_regrown (H6.out.1.rp.cell (i := 3) rfl)
  have v5 := cell_regrown (H6.out.1.rp.cell (i := 4) rfl)
  have u3 := cell_regrown (H6.out.1.rd.cell (i := 2) rfl)
  have k1 := reg_of (w := W6) (fun E hE => H36.out E (bel_to H6.out.1.bel hE))
  have k2 := reg_of (w := W6) (fun E hE => H42.out E (bel_to H6.out.1.bel hE))
  have k3 := reg_of (w := W6) (fun E hE => H43.out E (bel_to H6.out.1.bel hE))
  have k4 := reg_of (w := W6) (fun E hE => H46.out E (bel_to H6.out.1.bel hE))
  generalize W6 = V at *
  refine wp_region_quiet_below (by kernel_rfl) (by kernel_rfl) ?_
  repeat (go_big_quiet_step (fail))
  go_big_quiet_step (exact k1 _ _)
  repeat (go_big_quiet_step (fail))
  go_big_quiet_step (exact k2 _ _)
  repeat (go_big_quiet_step (fail))
  go_big_quiet_step (exact k3 _ _)
  repeat (go_big_quiet_step (fail))
  go_big_quiet_step (exact k4 _ _)
  repeat (go_big_quiet_step (fail))
  refine wpQuiet_nil ?_
  intro W6 hw'
  have hb6 : Below V.heap.size V W6 := by obtain ⟨p, e⟩ := hw'; rw [e]; exact below_regrown V p.d p.os
  clear hw'
  have HB := Lib.hid (bel_to H6.out.1.bel hb6)
  clear hb6 k1 k2 k3 k4 m0 m1 v3 v4 v5 u3 H6 H36 H42 H43 H46 e1 e2 e3 e4 e5
  go_wp2
  go_ret
  exact Ret.of rfl HB.out
end W
end Go.Proofs.YtellemlhhlafcaaGreatDoor
end
section
namespace Go.Proofs.YtellemlhhlafcaaGreatDoor
open Go Go.RowKit Go.Deep Go.Sort
namespace W
open M
attribute [local go_sem] bs_size bs_toList bs_get bs_extract bs_append bs_lit0 bs_lit1 lit1_bs
set_option maxHeartbeats 1000000
set_option maxRecDepth 20000
theorem kindex (f : Nat) (cp : Value) (p : Dk → Bool) (vl : Value) (l : List Dk) (w : World) (hf : Enters Tryz.prog f) (hl : RdK w vl l) (hn : l.length ≤ 4096)
    (hF : ∀ wx, Below w.heap.size w wx → ∀ x ∈ l, Calls Tryz.prog f #[dkV x, cp] wx (Ret wx (.bool (p x)))) :
    Calls Tryz.prog 204 #[vl, .func (.func f) #[] #[cp]] w (fun e w' => ∃ k : Int, e = .returned (.int .i64 k) ∧ decide (0 ≤ k) = l.any p ∧ Below w.heap.size w w') := by
  obtain ⟨A, cap, rfl⟩ := hl.len
  have HW := Lib.hid hl
  have HF := Lib.hid hF
  unfold Enters at hf
  clear hl hF
  go_enter Tryz.func204, Tryz.ntmps204
  go_wp2
  go_loopw [8] (fun iv wr => ∃ i : Nat, iv = .int .i64 (i : Int) ∧ i ≤ l.length ∧ Hid ((l.take i).any p = false) ∧ Below w.heap.size w wr) (fun iv _ => l.length - (intOf iv).toNat)
  case atStart => exact ⟨0, rfl, by omega, (by simp : (l.take 0).any p = false), Below.refl _ _⟩
  case round =>
    obtain ⟨i, rfl, hi, HN, hbw⟩ := hrel
    by_cases hlt : i < l.length
    · obtain ⟨b, o, rfl, hsl⟩ := RdK.row (n := l.length) (HW.out.below hbw) i hlt
      obtain ⟨v0, v1, v2⟩ := hsl.val i hlt
      have hm := List.getElem_mem hlt
      have HX := Lib.hid (HF.out wr hbw _ hm)
      have hany : (l.take (i + 1)).any p = p l[i] := by
        rw [List.take_succ_eq_append_getElem hlt, List.any_append, HN.out]; simp
      have HA := Lib.hid hany
      have HY := Lib.hid (fun (hp : p l[i] = true) => show l.any p = true from List.any_eq_true.2 ⟨_, hm, hp⟩)
      clear hsl hm hany HN
      unfold dkV at HX
      generalize R (l[i]).x = s1 at *
      generalize R (l[i]).y = s2 at *
      generalize R (l[i]).s = s3 at *
      generalize hpx : p l[i] = px at *
      have HP := Lib.hid hpx
      clear hpx
      go_wp2_with fail
      refine (HX.out).mono ?_
      rintro e w1 ⟨rfl, hb1⟩
      have hb1' := hbw.trans (hb1.mono hbw.size)
      cases px with
      | true =>
        have HT := Lib.hid (HY.out rfl)
        clear HY HA HP
        go_wp2
        go_ret
        exact ⟨_, rfl, by rw [HT.out]; simp, hb1'⟩
      | false =>
        go_wp2
        go_roundw
        case rel => exact ⟨i + 1, by go_num, by omega, HA, hb1'⟩
        case measure => simp [intOf]; omega
    · obtain rfl : i = l.length := by omega
      have hno := HN.out
      rw [List.take_length] at hno
      have HZ := Lib.hid hno
      clear hno HN
      go_wp2
      go_ret
      exact ⟨_, rfl, by rw [HZ.out]; decide, hbw⟩
theorem kcontains (f : Nat) (cp : Value) (p : Dk → Bool) (vl : Value) (l : List Dk) (w : World) (hf : Enters Tryz.prog f) (hl : RdK w vl l) (hn : l.length ≤ 4096)
    (hF : ∀ wx, Below w.heap.size w wx → ∀ x ∈ l, Calls Tryz.prog f #[dkV x, cp] wx (Ret wx (.bool (p x)))) :
    Calls Tryz.prog 165 #[vl, .func (.func f) #[] #[cp]] w (Ret w (.bool (l.any p))) := by
  have HI := Lib.hid (kindex f cp p vl l w hf hl hn hF)
  obtain ⟨A, cap, rfl⟩ := hl.len
  clear hf hl hn hF
  generalize l.any p = a at *
  go_enter Tryz.func165, Tryz.ntmps165
  go_wp2_with fail
  refine (HI.out).mono ?_
  rintro e w1 ⟨k, rfl, hk, hb1⟩
  have HK := Lib.hid hk
  clear hk
  go_wp2
  go_ret
  exact Ret.of (by rw [← HK.out]; rfl) hb1
theorem ent_prv2 : Enters Tryz.prog 166 := enters_of Tryz.func166 (by kernel_rfl) rfl
theorem kprv1 (sb pb b : Nat) (d : Dk) (p : Sp) (w : World) (hg : Glob w) (hs : NoErrD w b) (hb : Row w sb 151 [.pointer (some ⟨b, 0, none⟩)]) (hp : Row w pb 270 (skC p)) (hd : SmD d) (hpp : SmP p) :
    Calls Tryz.prog 163 #[dkV d, .pointer (some ⟨sb, 0, none⟩), .pointer (some ⟨pb, 0, none⟩)] w (Ret w (.bool (keepD p d))) := by
  have HK := Lib.hid (fun W (hW : Below w.heap.size w W) => kkeeps b d p W (hg.of hW) (hs.below' hW) hd hpp)
  have hal := bel_al w (.cells #[.string (bs (R d.x)), .string (bs (R d.y)), .string (bs (R d.s))] 127 (0, 0))
  have hr : Row (w.alloc (.cells #[.string (bs (R d.x)), .string (bs (R d.y)), .string (bs (R d.s))] 127 (0, 0))) w.heap.size 127 [.string (bs (R d.x)), .string (bs (R d.y)), .string (bs (R d.s))] := rnw
  have d0 := hr.cell (i := 0) rfl
  have d1 := hr.cell (i := 1) rfl
  have d2 := hr.cell (i := 2) rfl
  have s0 := (hb.below' hal).cell (i := 0) rfl
  have p0 := (hp.below' hal).cell (i := 0) rfl
  have p1 := (hp.below' hal).cell (i := 1) rfl
  have p2 := (hp.below' hal).cell (i := 2) rfl
  have p3 := (hp.below' hal).cell (i := 3) rfl
  have p4 := (hp.below' hal).cell (i := 4) rfl
  have HB := Lib.hid hal
  clear hal hr hg hs hb hp hd hpp
  unfold dkV skV at *
  generalize keepD p d = kk at *
  generalize R d.x = s1 at *
  generalize R d.y = s2 at *
  generalize R d.s = s3 at *
  generalize R p.fx = f1 at *
  generalize R p.fy = f2 at *
  generalize R p.ax = f3 at *
  generalize R p.ay = f4 at *
  generalize R p.h = f5 at *
  go_enter Tryz.func163, Tryz.ntmps163
  go_wp2_with fail
  refine (HK.out _ HB.out).mono ?_
  rintro e w1 ⟨rfl, hb1⟩
  go_wp2
  go_ret
  exact Ret.of rfl (bel_to HB.out hb1)
theorem kprv2 (sb pb fb b : Nat) (d : Dk) (p : Sp) (w : World) (hg : Glob w) (hs : NoErrD w b) (hb : Row w sb 151 [.pointer (some ⟨b, 0, none⟩)]) (hp : Row w pb 270 (skC p))
    (hf : Row w fb 274 [.func (.func 163) #[] #[.pointer (some ⟨sb, 0, none⟩), .pointer (some ⟨pb, 0, none⟩)]]) (hd : SmD d) (hpp : SmP p) :
    Calls Tryz.prog 166 #[dkV d, .pointer (some ⟨fb, 0, none⟩)] w (Ret w (.bool (!keepD p d))) := by
  have HK := Lib.hid (fun W (hW : Below w.heap.size w W) => kprv1 sb pb b d p W (hg.of hW) (hs.below' hW) (hb.below' hW) (hp.below' hW) hd hpp)
  have hal := bel_al w (.cells #[.string (bs (R d.x)), .string (bs (R d.y)), .string (bs (R d.s))] 127 (0, 0))
  have hr : Row (w.alloc (.cells #[.string (bs (R d.x)), .string (bs (R d.y)), .string (bs (R d.s))] 127 (0, 0))) w.heap.size 127 [.string (bs (R d.x)), .string (bs (R d.y)), .string (bs (R d.s))] := rnw
  have d0 := hr.cell (i := 0) rfl
  have d1 := hr.cell (i := 1) rfl
  have d2 := hr.cell (i := 2) rfl
  have s0 := (hf.below' hal).cell (i := 0) rfl
  have HB := Lib.hid hal
  have e1 : ∀ args w, (callFunc 163 args).run Tryz.prog w = .ok (.enter 163 args) w := enters_of Tryz.func163 (by kernel_rfl) rfl
  clear hal hr hg hs hb hp hd hpp hf
  unfold dkV at *
  generalize keepD p d = kk at *
  generalize R d.x = s1 at *
  generalize R d.y = s2 at *
  generalize R d.s = s3 at *
  go_enter Tryz.func166, Tryz.ntmps166
  go_wp2_with fail
  refine (HK.out _ HB.out).mono ?_
  rintro e w1 ⟨rfl, hb1⟩
  go_wp2
  go_ret
  exact Ret.of rfl (bel_to HB.out hb1)
theorem any_not (l : List Dk) (p : Sp) : (!l.any fun d => !keepD p d) = l.all (keepD p) := by
  induction l with
  | nil => rfl
  | cons x t ih => simp only [List.any_cons, List.all_cons, Bool.not_or, Bool.not_not, ih]
theorem kproves (vl : Value) (l : List Dk) (x : Wn) (b : Nat) (w : World) (hg : Glob w) (hs : NoErrD w b) (hl : RdK w vl l) (hi : x.i < l.length) (hj : x.j < l.length) (hn : l.length ≤ 64) (hS : ∀ d ∈ l, SmD d) :
    Calls Tryz.prog 122 #[.pointer (some ⟨b, 0, none⟩), vl, wnV x] w (Ret w (.bool (provD l x))) := by
  have HN := Lib.hid (fun W (hW : Below w.heap.size w W) => knamed vl l x b W (hg.of hW) (hs.below' hW) (hl.below hW) hi hj hn hS)
  have HC := Lib.hid (fun W (hW : Below w.heap.size w W) (sb pb fb : Nat) (p : Sp) (hpp : SmP p) (hb : Row W sb 151 [.pointer (some ⟨b, 0, none⟩)]) (hp : Row W pb 270 (skC p))
    (hf : Row W fb 274 [.func (.func 163) #[] #[.pointer (some ⟨sb, 0, none⟩), .pointer (some ⟨pb, 0, none⟩)]]) =>
    kcontains 166 (.pointer (some ⟨fb, 0, none⟩)) (fun d => !keepD p d) vl l W ent_prv2 (hl.below hW) (by omega) (fun wx hx d hd => kprv2 sb pb fb b d p wx (hg.of (bel_to hW hx)) (hs.below' (bel_to hW hx)) (hb.below' hx) (hp.below' hx) (hf.below' hx) (hS d hd) hpp))
  have HNE := Lib.hid (fun W (hW : Below w.heap.size w W) => hs.below' hW)
  have HSM := Lib.hid (fun p (h : reachD l x = some p) => reach_sm hS hi hj h)
  obtain ⟨pv, hpv0⟩ : ∃ pv, pv = provD l x := ⟨_, rfl⟩
  rw [← hpv0]
  have HPW : Hid (pv = match reachD l x with
    | none => false
    | some p => l.all (keepD p)) := Lib.hid (by rw [hpv0]; rfl)
  obtain ⟨re, hre⟩ : ∃ re, re = reachD l x := ⟨_, rfl⟩
  rw [← hre] at HPW
  have HRE := Lib.hid hre
  clear hpv0 hre
  obtain ⟨A, cap, rfl⟩ := hl.len
  have hb0 := bel_al2 w (.cells #[.pointer (some ⟨b, 0, none⟩)] 151 (0, 0)) (.cells #[.int .i64 (x.i : Int), .int .i64 (x.j : Int), .int .i64 x.side] 42 (0, 0))
  have hsb : Row ((w.alloc (.cells #[.pointer (some ⟨b, 0, none⟩)] 151 (0, 0))).alloc (.cells #[.int .i64 (x.i : Int), .int .i64 (x.j : Int), .int .i64 x.side] 42 (0, 0))) w.heap.size 151 [.pointer (some ⟨b, 0, none⟩)] := rnw.alloc _
  have hwb : Row ((w.alloc (.cells #[.pointer (some ⟨b, 0, none⟩)] 151 (0, 0))).alloc (.cells #[.int .i64 (x.i : Int), .int .i64 (x.j : Int), .int .i64 x.side] 42 (0, 0))) (w.heap.size + 1) 42 [.int .i64 (x.i : Int), .int .i64 (x.j : Int), .int .i64 x.side] := rnew0 (World.size_alloc _ _).symm
  have HR := Lib.hid (And.intro hsb hb0)
  have s0 := hsb.cell (i := 0) rfl
  have x0 := hwb.cell (i := 0) rfl
  have x1 := hwb.cell (i := 1) rfl
  have x2 := hwb.cell (i := 2) rfl
  have hmf : ∀ (fn : Fn) (first cap : Array Value) (w : World), (Instr.makeFunc fn first cap).run Tryz.prog w = .ok (.func fn first cap) w := fun _ _ _ _ => rfl
  have hsf := fun (a : Addr) (c : Array Value) (w : World) => run_store Tryz.prog w a (.func (.func 163) #[] c) .plain rfl
  clear hb0 hsb hwb hg hs hl hi hj hn hS
  go_enter Tryz.func122, Tryz.ntmps122
  go_wp2_with fail
  refine (HN.out _ HR.out.2).mono ?_
  rintro e w1 ⟨f0, f1, f2, f3, f4, rfl, hb1, hp⟩
  have hal := bel_al w1 (.cells #[.string (bs f0), .string (bs f1), .string (bs f2), .string (bs f3), .string (bs f4)] 270 (0, 0))
  have hpr : Row (w1.alloc (.cells #[.string (bs f0), .string (bs f1), .string (bs f2), .string (bs f3), .string (bs f4)] 270 (0, 0))) w1.heap.size 270 [.string (bs f0), .string (bs f1), .string (bs f2), .string (bs f3), .string (bs f4)] := rnw
  have hb2 := bel_to hb1 hal
  have H2 := Lib.hid (And.intro (HR.out.1.below' hb2) (And.intro hpr (bel_to HR.out.2 hb2)))
  clear hb1 hal hpr hb2 s0 x0 x1 x2 HN HR
  have hb3 := bel_al (w1.alloc (.cells #[.string (bs f0), .string (bs f1), .string (bs f2), .string (bs f3), .string (bs f4)] 270 (0, 0))) (.cells #[.func (.func 163) #[] #[.pointer (some ⟨w.heap.size, 0, none⟩), .pointer (some ⟨w1.heap.size, 0, none⟩)]] 274 (0, 0))
  have hfr : Row ((w1.alloc (.cells #[.string (bs f0), .string (bs f1), .string (bs f2), .string (bs f3), .string (bs f4)] 270 (0, 0))).alloc (.cells #[.func (.func 163) #[] #[.pointer (some ⟨w.heap.size, 0, none⟩), .pointer (some ⟨w1.heap.size, 0, none⟩)]] 274 (0, 0))) (w1.heap.size + 1) 274 [.func (.func 163) #[] #[.pointer (some ⟨w.heap.size, 0, none⟩), .pointer (some ⟨w1.heap.size, 0, none⟩)]] := rnew0 (World.size_alloc _ _).symm
  have H3 := Lib.hid (And.intro (H2.out.1.below' hb3) (And.intro (H2.out.2.1.below' hb3) (And.intro hfr (bel_to H2.out.2.2 hb3))))
  clear hb3 hfr H2
  have s1 := H3.out.1.cell (i := 0) rfl
  rw [← HRE.out] at hp HSM ⊢
  clear HRE
  cases re with
  | none =>
    have HV : Hid (pv = false) := HPW
    clear hp HC HSM HNE HPW
    go_wp2
    go_ret
    exact Ret.of (by rw [HV.out]; rfl) H3.out.2.2.2
  | some p =>
    obtain ⟨rfl, rfl, rfl, rfl, rfl⟩ := hp p rfl
    have hc := HC.out _ H3.out.2.2.2 w.heap.size w1.heap.size (w1.heap.size + 1) p (HSM.out p rfl) H3.out.1 H3.out.2.1 H3.out.2.2.1
    have hpv := (show pv = l.all (keepD p) from HPW.out).trans (any_not l p).symm
    have HV := Lib.hid hpv
    have HC2 := Lib.hid hc
    clear hpv hc hp HC HSM HPW
    generalize (l.any fun d => !keepD p d) = an at *
    go_wp2_with fail
    refine HC2.out.mono ?_
    rintro e w4 ⟨rfl, hb4⟩
    have hb5 := bel_to H3.out.2.2.2 hb4
    have s2 := (H3.out.1.below' hb4).cell (i := 0) rfl
    have er := (HNE.out _ hb5).cell
    have HB := Lib.hid hb5
    clear hb4 hb5 HC2 H3 s1
    cases an with
    | true =>
      go_wp2
      go_ret
      exact Ret.of (by rw [HV.out]; rfl) HB.out
    | false =>
      go_wp2
      go_ret
      exact Ret.of (by rw [HV.out]; rfl) HB.out
end W
end Go.Proofs.YtellemlhhlafcaaGreatDoor
end
section
namespace Go.Proofs.YtellemlhhlafcaaGreatDoor
open Go Go.RowKit Go.Deep Go.Sort
theorem three_store {w : World} {A : Nat} {t : TypeId} {x0 x1 x2 : Value} (y0 y1 y2 : Value) (hr : Row w A t [x0, x1, x2]) :
    (w.frozen? ⟨A, 0, none⟩ = false ∧ w.cell? ⟨A, 0, none⟩ = some x0) ∧
    ((w.setCell ⟨A, 0, none⟩ y0).frozen? ⟨A, 1, none⟩ = false ∧ (w.setCell ⟨A, 0, none⟩ y0).cell? ⟨A, 1, none⟩ = some x1) ∧
    (((w.setCell ⟨A, 0, none⟩ y0).setCell ⟨A, 1, none⟩ y1).frozen? ⟨A, 2, none⟩ = false ∧ ((w.setCell ⟨A, 0, none⟩ y0).setCell ⟨A, 1, none⟩ y1).cell? ⟨A, 2, none⟩ = some x2) ∧
    Row (((w.setCell ⟨A, 0, none⟩ y0).setCell ⟨A, 1, none⟩ y1).setCell ⟨A, 2, none⟩ y2) A t [y0, y1, y2] := by
  have h1 := hr.set 0 y0
  have h2 := h1.set 1 y1
  exact ⟨⟨hr.free 0, hr.cell rfl⟩, ⟨h1.free 1, h1.cell rfl⟩, ⟨h2.free 2, h2.cell rfl⟩, h2.set 2 y2⟩
theorem three_below {w0 w : World} {A : Nat} (y0 y1 y2 : Value) (hb : Below w0.heap.size w0 w) (hA : w0.heap.size ≤ A) :
    Below w0.heap.size w0 (((w.setCell ⟨A, 0, none⟩ y0).setCell ⟨A, 1, none⟩ y1).setCell ⟨A, 2, none⟩ y2) :=
  ((hb.setCell (p := ⟨A, 0, none⟩) hA y0).setCell (p := ⟨A, 1, none⟩) hA y1).setCell (p := ⟨A, 2, none⟩) hA y2
def bodyPostN (F : Fence) (n : Nat) (P : Program) (fn : Func) (R : Ending → World → Prop) : Exit → Act → World → Prop
  | .normal, a, w | .ret, a, w => LeavesInM F n P fn a.tmps R a.defers .returning w
  | .outgrown, _, w => R .outgrown w
  | _, _, _ => False
theorem bodyPostN_M {F : Fence} {n : Nat} {P : Program} {fn : Func} {R : Ending → World → Prop} : ∀ (e : Exit) (a : Act) (w : World), bodyPostN F n P fn R e a w → bodyPostM F n P fn R e a w := by
  intro e a w h
  cases e <;> first | exact h | exact h.elim
theorem keeps_below {W W' : World} (h : Below W.heap.size W W') : KeepsOthers W W' := ⟨h.size, fun k _ hk _ => (h.block k (Array.getElem?_eq_some_iff.1 hk).1).trans hk⟩
theorem row_own {β : Type} (B : Nat) (t : TypeId) (xs : β → List Value) : Own (fun (s : β) W => Row W B t (xs s)) := fun s X Y row hs hg hrow =>
  (hg.block B (Row.lt hs) (fun e' => by obtain ⟨o, ho, hc⟩ := hrow B e'.symm; rw [show X.heap[B]? = _ from hs] at ho; cases ho; cases hc)).trans hs
theorem rf_boxedX {F : Fence} {n : Nat} {P : Program} {α : Type} {g : Operand} {ps : Array Tmp} {assign body : Code} {Q : Exit → Act → World → Prop} {a : Act} {w : World}
    (hro : F.round = none) (h1 : 1 ≤ n) {gf : Nat} {lb : Array Value} (hg : a.eval g = .func (.func gf) #[] lb) (hFg : F.fn gf) (eg : ∀ args w, (callFunc gf args).run P w = .ok (.enter gf args) w)
    {encs : α → Array Value} {Kp : World → World → Prop} {S Sp : List α → Prop} {N : Nat} {w0 : World} (hseq : SeqStopsK F (n - 1) P gf lb encs Kp S Sp N w0)
    (hKt : ∀ {A B C : World}, Kp A B → Kp B C → Kp A C) (hKb : ∀ (W : World) (l : Nat) (o o' : Obj), w.heap.size ≤ l → W.heap[l]? = some o → o.isCells = false → o.isWalk = false → Kp W (W.putObj l o')) (hb0 : Below w0.heap.size w0 w) (hps : ∀ x, (encs x).size = ps.size)
    (I : List α → World → Prop) (Ix : Code → List α → World → Prop) (hI : OwnFrom w.heap.size I) (hIx : ∀ c, OwnFrom w.heap.size (Ix c)) (h0 : I [] w) (slot : Nat) (RB : α → Nat → World → Prop) (hRB : ∀ x B, OwnFrom w.heap.size (fun (_ : Unit) W => RB x B W))
    (hassign : ∀ (l : Nat) (pre : List α) (x : α) (W : World) (K : Act → World → Prop), I pre W →
      (∀ B W', KeepsFrom w.heap.size W W' → Kp W W' → I pre W' → RB x B W' → K { tmps := ((ps.zip (encs x)).foldl (fun t (p, v) => t.setIfInBounds p v) a.tmps).setIfInBounds slot (.pointer (some ⟨B, 0, none⟩)), defers := [] } W') →
      assign.wpIn (F.inRound l) (n - 1 - 1) P (Exit.then K (fun _ _ _ => False)) { tmps := (ps.zip (encs x)).foldl (fun t (p, v) => t.setIfInBounds p v) a.tmps, defers := [] } W)
    (hbody : ∀ (l : Nat) (pre : List α) (x : α) (B : Nat) (W : World), w.heap.size ≤ l → (∃ r, W.heap[l]? = some (.loop r)) → I pre W → RB x B W → pre.length < N →
      body.wpIn (F.inRound l) (n - 1 - 1) P (ownPostG w.heap.size Kp I Ix (pre ++ [x]) W) { tmps := ((ps.zip (encs x)).foldl (fun t (p, v) => t.setIfInBounds p v) a.tmps).setIfInBounds slot (.pointer (some ⟨B, 0, none⟩)), defers := [] } W)
    (hdone : ∀ (D : Nat) (xs : List α) (W : World), w.heap.size ≤ D → S xs → I xs W → W.heap[D]? = some (.deferred (some [])) → Q .normal { a with defers := { target := .collected D, args := #[] } :: a.defers } W)
    (hstop : ∀ (D : Nat) (c : Code) (pre : List α) (W : World), w.heap.size ≤ D → Sp pre → Ix c pre W → W.heap[D]? = some (.deferred (some [])) → c.wpIn F n P Q { a with defers := { target := .collected D, args := #[] } :: a.defers } W) :
    (Code.rangeFunc g ps assign body).wpIn F n P Q a w :=
  wpIn_rangeFunc_ownH hro h1 hg hFg eg hseq hKt hKb hb0 hps I Ix hI hIx h0
    (fun x a' W => ∃ B, RB x B W ∧ a' = { tmps := ((ps.zip (encs x)).foldl (fun t (p, v) => t.setIfInBounds p v) a.tmps).setIfInBounds slot (.pointer (some ⟨B, 0, none⟩)), defers := [] })
    (fun x _ s A B row hs hg' hr => by obtain ⟨Bx, h2, h3⟩ := hs; exact ⟨Bx, hRB x Bx s A B row h2 hg' hr, h3⟩)
    (fun l pre x W K hi hK => hassign l pre x W K hi fun B W' a1 a2 a3 a4 => hK _ W' a1 a2 a3 ⟨B, a4, rfl⟩)
    (fun l pre x a' W hl hr hi hA hlt => by obtain ⟨B, h2, rfl⟩ := hA; exact hbody l pre x B W hl hr hi h2 hlt)
    hdone hstop
abbrev wnC (x : M.Wn) : List Value := [.int .i64 (x.i : Int), .int .i64 (x.j : Int), .int .i64 x.side]
structure Fi4 (w W : World) (b : Nat) (lv : Value) (x : M.Wn) (ok : Bool) : Prop where
  s : Row W w.heap.size 151 [.pointer (some ⟨b, 0, none⟩)]
  l : Row W (w.heap.size + 1) 93 [lv]
  r : Row W (w.heap.size + 1 + 1) 42 (wnC x)
  k : Row W (w.heap.size + 1 + 1 + 1) 4 [.bool ok]
  bel : Below w.heap.size w W
theorem Fi4.to {w W W' : World} {b : Nat} {lv : Value} {x : M.Wn} {ok : Bool} (h : Fi4 w W b lv x ok) (hb : Below W.heap.size W W') : Fi4 w W' b lv x ok :=
  ⟨h.s.below' hb, h.l.below' hb, h.r.below' hb, h.k.below' hb, bel_to h.bel hb⟩
theorem fi4_own {β : Type} {w : World} {b n : Nat} {lv : Value} {ok : Bool} (x : β → M.Wn) (hn : w.heap.size ≤ n) : OwnFrom n (fun (s : β) W => Fi4 w W b lv (x s) ok) := fun s X Y row hs hg hr =>
  ⟨Own.from (row_own _ _ fun _ => _) n s X Y row hs.s hg hr, Own.from (row_own _ _ fun _ => _) n s X Y row hs.l hg hr, Own.from (row_own _ _ fun s => wnC (x s)) n s X Y row hs.r hg hr, Own.from (row_own _ _ fun _ => _) n s X Y row hs.k hg hr,
   ownFrom_below (β := β) (Nat.le_refl _) hn s X Y row hs.bel hg hr⟩
theorem Fi4.new (w : World) (b : Nat) (lv : Value) : Fi4 w ((((w.alloc (.cells #[.pointer (some ⟨b, 0, none⟩)] 151 (0, 0))).alloc (.cells #[lv] 93 (0, 0))).alloc (.cells #[.int .i64 0, .int .i64 0, .int .i64 0] 42 (0, 0))).alloc (.cells #[.bool false] 4 (0, 0))) b lv ⟨0, 0, 0⟩ false :=
  ⟨((rnw.alloc _).alloc _).alloc _, ((rnew0 (World.size_alloc _ _).symm).alloc _).alloc _, (rnew0 (by simp)).alloc _, rnew0 (by simp), ((bel_al2 _ _ _).alloc (bel_al2 _ _ _).size _).alloc (((bel_al2 _ _ _).alloc (bel_al2 _ _ _).size _).size) _⟩
def lastW {m : Nat} (pre : List (VW m)) : M.Wn := ((pre.getLast?).map (·.1)).getD ⟨0, 0, 0⟩
theorem lastW_snoc {m : Nat} (pre : List (VW m)) (x : VW m) : lastW (pre ++ [x]) = x.1 := by unfold lastW; simp
theorem Fi4.stored {w W : World} {b : Nat} {lv : Value} {x0 : M.Wn} {ok0 : Bool} (h : Fi4 w W b lv x0 ok0) (x : M.Wn) (ok : Bool) :
    Fi4 w ((((W.setCell ⟨w.heap.size + 1 + 1, 0, none⟩ (.int .i64 (x.i : Int))).setCell ⟨w.heap.size + 1 + 1, 1, none⟩ (.int .i64 (x.j : Int))).setCell ⟨w.heap.size + 1 + 1, 2, none⟩ (.int .i64 x.side)).setCell ⟨w.heap.size + 1 + 1 + 1, 0, none⟩ (.bool ok)) b lv x ok := by
  have hr := ((h.r.set 0 (.int .i64 (x.i : Int))).set 1 (.int .i64 (x.j : Int))).set 2 (.int .i64 x.side)
  have go : ∀ {g : Nat} {t : TypeId} {xs : List Value}, Row W g t xs → g ≠ w.heap.size + 1 + 1 → Row (((W.setCell ⟨w.heap.size + 1 + 1, 0, none⟩ (.int .i64 (x.i : Int))).setCell ⟨w.heap.size + 1 + 1, 1, none⟩ (.int .i64 (x.j : Int))).setCell ⟨w.heap.size + 1 + 1, 2, none⟩ (.int .i64 x.side)) g t xs :=
    fun hh hn => row_other (row_other (row_other hh hn _) hn _) hn _
  refine ⟨row_other (go h.s (by omega)) (by show w.heap.size ≠ w.heap.size + 1 + 1 + 1; omega) _, row_other (go h.l (by omega)) (by show w.heap.size + 1 ≠ w.heap.size + 1 + 1 + 1; omega) _, row_other hr (by show w.heap.size + 1 + 1 ≠ w.heap.size + 1 + 1 + 1; omega) _, (go h.k (by omega)).set 0 (.bool ok), ?_⟩
  exact (((h.bel.setCell (p := ⟨w.heap.size + 1 + 1, 0, none⟩) (by show w.heap.size ≤ w.heap.size + 1 + 1; omega) _).setCell (p := ⟨w.heap.size + 1 + 1, 1, none⟩) (by show w.heap.size ≤ w.heap.size + 1 + 1; omega) _).setCell (p := ⟨w.heap.size + 1 + 1, 2, none⟩) (by show w.heap.size ≤ w.heap.size + 1 + 1; omega) _).setCell (p := ⟨w.heap.size + 1 + 1 + 1, 0, none⟩) (by show w.heap.size ≤ w.heap.size + 1 + 1 + 1; omega) _
theorem keeps_stored (W : World) (p q r s : Addr) (a b c d : Value) : KeepsOthers W ((((W.setCell p a).setCell q b).setCell r c).setCell s d) :=
  (((KeepsOthers.setCell _ _ _).trans (KeepsOthers.setCell _ _ _)).trans (KeepsOthers.setCell _ _ _)).trans (KeepsOthers.setCell _ _ _)
theorem Fi4.put {w W : World} {b D : Nat} {lv : Value} {x : M.Wn} {ok : Bool} (h : Fi4 w W b lv x ok) (hD : w.heap.size ≤ D) (o' : Obj) {y : Option (List Deferred)} (hK : W.heap[D]? = some (.deferred y)) : Fi4 w (W.putObj D o') b lv x ok :=
  have k := KC.put W D _ o' hK rfl
  ⟨k.row h.s, k.row h.l, k.row h.r, k.row h.k, h.bel.trans (belowK_b (w := w) (Nat.le_refl _) W D _ _ hD hK rfl rfl)⟩
namespace W
open M
attribute [local go_sem] bs_size bs_toList bs_get bs_extract bs_append bs_lit0 bs_lit1 lit1_bs
attribute [local go_sem] Oper.semAt_some
set_option maxHeartbeats 1000000
set_option maxRecDepth 100000
theorem ent_wit1 : ∀ args w, (callFunc 161 args).run Tryz.prog w = .ok (.enter 161 args) w := enters_of Tryz.func161 (by kernel_rfl) rfl
theorem kfirst (vl : Value) (l : List Dk) (b : Nat) (w : World) (hg : Glob w) (hs : NoErrD w b) (hl : RdK w vl l) (hn : l.length ≤ 64) (hS : ∀ d ∈ l, SmD d) :
    Calls Tryz.prog 70 #[.pointer (some ⟨b, 0, none⟩), vl] w (Ret w (.tuple #[wnV ((firstD l).getD ⟨0, 0, 0⟩), .bool (firstD l).isSome])) := by
  have HPV := Lib.hid (fun (x : VW l.length) W (hW : Below w.heap.size w W) => kproves vl l x.1 b W (hg.of hW) (hs.below' hW) (hl.below hW) x.2.1 x.2.2 hn hS)
  obtain ⟨A, cap, rfl⟩ := hl.len
  have H0 := Lib.hid (Fi4.new w b (.slice A l.length cap))
  have s0 := H0.out.s.cell (i := 0) rfl
  have l0 := H0.out.l.cell (i := 0) rfl
  have HN := Lib.hid hn
  obtain ⟨fd, hfd⟩ : ∃ fd, fd = firstD l := ⟨_, rfl⟩
  have HNO := Lib.hid (fun (h : ∀ x ∈ allW l.length, provD l x = false) => hfd.trans (firstD_none h))
  have HSO := Lib.hid (fun (pre rest : List Wn) (x : Wn) (e : pre ++ [x] ++ rest = allW l.length) (h : ∀ y ∈ pre, provD l y = false) (hx : provD l x = true) => hfd.trans (firstD_at e h hx))
  rw [← hfd]
  obtain ⟨res, hres⟩ : ∃ res, res = Value.tuple #[wnV (fd.getD ⟨0, 0, 0⟩), .bool fd.isSome] := ⟨_, rfl⟩
  rw [← hres]
  have HRES := Lib.hid hres
  clear hg hs hl hn hS hfd hres
  refine (callsIn_wide (n := 3)).1 ?_
  refine callsIn_of_wp_marks Tryz.func70 rfl trivial ?_ rfl
  simp only [Tryz.ntmps70, List.size_toArray, List.length_cons, List.length_nil, Nat.reduceAdd, Nat.reduceSub, Array.replicate_succ, Array.replicate_zero, List.push_toArray, List.append_toArray, List.nil_append, List.cons_append]
  refine wpIn_wide.2 ?_
  refine Code.wp_mono bodyPostN_M ?_
  go_wp2_with fail
  refine (pwitnesses _ _).mono ?_
  rintro e w' ⟨rfl, rfl⟩
  have hbx : Boxed (((((w.alloc (.cells #[.pointer (some ⟨b, 0, none⟩)] 151 (0, 0))).alloc (.cells #[.slice A l.length cap] 93 (0, 0))).alloc (.cells #[.int .i64 0, .int .i64 0, .int .i64 0] 42 (0, 0))).alloc (.cells #[.bool false] 4 (0, 0))).alloc (.cells #[.int .i64 (l.length : Int)] 3 (0, 0))) (w.heap.size + 1 + 1 + 1 + 1) 3 (.int .i64 (l.length : Int)) := by
    have := Boxed.new ((((w.alloc (.cells #[.pointer (some ⟨b, 0, none⟩)] 151 (0, 0))).alloc (.cells #[.slice A l.length cap] 93 (0, 0))).alloc (.cells #[.int .i64 0, .int .i64 0, .int .i64 0] 42 (0, 0))).alloc (.cells #[.bool false] 4 (0, 0))) 3 (.int .i64 (l.length : Int))
    simpa only [World.size_alloc] using this
  have H1 := Lib.hid (And.intro (H0.out.to (bel_al _ (.cells #[.int .i64 (l.length : Int)] 3 (0, 0)))) hbx)
  clear hbx H0 s0 l0
  go_wp2
  generalize (((((w.alloc (.cells #[.pointer (some ⟨b, 0, none⟩)] 151 (0, 0))).alloc (.cells #[.slice A l.length cap] 93 (0, 0))).alloc (.cells #[.int .i64 0, .int .i64 0, .int .i64 0] 42 (0, 0))).alloc (.cells #[.bool false] 4 (0, 0))).alloc (.cells #[.int .i64 (l.length : Int)] 3 (0, 0))) = V at *
  have hwV := H1.out.1.bel.size
  refine (wpIn_wide (n := 3)).1 ?_
  refine rf_boxedX (F := Fence.wide) (n := 3) (encs := encW (m := l.length)) rfl (by decide) (gf := 161) (lb := #[.pointer (some ⟨w.heap.size + 1 + 1 + 1 + 1, 0, none⟩)]) rfl trivial ent_wit1
    (wit_stops Fence.wide 2 trivial rfl (by decide) _ l.length HN.out V H1.out.2) KC.trans (fun W l o o' _ h h1 _ => KC.put W l o o' h h1) (Below.refl _ _) (fun _ => rfl)
    (fun pre W => (∀ x ∈ pre, provD l x.1 = false) ∧ Fi4 w W b (.slice A l.length cap) ⟨0, 0, 0⟩ false)
    (fun c pre W => (c = .ret ∧ ∃ init x, pre = init ++ [x] ∧ (∀ y ∈ init, provD l y.1 = false) ∧ provD l x.1 = true) ∧ Fi4 w W b (.slice A l.length cap) (lastW pre) true)
    (OwnFrom.and (ownFrom_pure _ _) (fi4_own (fun _ => ⟨0, 0, 0⟩) hwV)) (fun c => OwnFrom.and (ownFrom_pure _ _) (fi4_own lastW hwV))
    ⟨(fun x hx => by cases hx), H1.out.1⟩ 6
    (fun x B W => Row W B 42 (wnC x.1))
    (fun x B => Own.from (row_own B _ fun _ => wnC x.1) _) ?assign ?body ?done ?stop
  case assign =>
    rintro lp pre x W K ⟨hp, hf⟩ hK
    simp [encW] at hK
    dsimp only [encW]
    gi_wp2
    exact hK _ _ ((KeepsOthers.alloc _ _).from _) (KC.of_below (bel_al _ _)) (fun a h1 h2 => hp ⟨a, h1⟩ h2) (hf.to (bel_al _ _)) rnw
  case body =>
    rintro lp pre x B W hlp ⟨r, hr⟩ ⟨hp, hf⟩ hB hlt
    have HPX := Lib.hid (HPV.out x W hf.bel)
    have HP := Lib.hid hp
    have HF := Lib.hid (And.intro hf hB)
    have s0 := hf.s.cell (i := 0) rfl
    have l0 := hf.l.cell (i := 0) rfl
    have x0 := hB.cell (i := 0) rfl
    have x1 := hB.cell (i := 1) rfl
    have x2 := hB.cell (i := 2) rfl
    clear hp hf hB hr hlt H1 HNO HSO HRES
    obtain ⟨px, hpx⟩ : ∃ px, px = provD l x.1 := ⟨_, rfl⟩
    rw [← hpx] at HPX
    have HX := Lib.hid hpx
    clear hpx
    dsimp only [encW]
    gi_wp2_with fail
    refine ⟨trivial, (CallsIn.inRound lp (callsIn_wide.2 HPX.out)).mono ?_⟩
    rintro e W2 ⟨rfl, hb2⟩
    have H2 := Lib.hid (And.intro (HF.out.1.to hb2) (And.intro (HF.out.2.below' hb2) hb2))
    clear hb2 HPX HF s0 l0 x0 x1 x2
    cases px with
    | false =>
      gi_wp2
      exact ⟨(keeps_below H2.out.2.2).from _, KC.of_below H2.out.2.2, fun y hy => (List.mem_append.1 hy).elim (HP.out y) (fun hy => by rw [List.mem_singleton.1 hy]; exact HX.out.symm), H2.out.1⟩
    | true =>
      have x0 := H2.out.2.1.cell (i := 0) rfl
      have x1 := H2.out.2.1.cell (i := 1) rfl
      have x2 := H2.out.2.1.cell (i := 2) rfl
      obtain ⟨⟨f0, m0⟩, ⟨f1, m1⟩, ⟨f2, m2⟩, hrow⟩ := three_store (.int .i64 (x.1.i : Int)) (.int .i64 (x.1.j : Int)) (.int .i64 x.1.side) H2.out.1.r
      have hk2 : Row (((W2.setCell ⟨w.heap.size + 1 + 1, 0, none⟩ (.int .i64 (x.1.i : Int))).setCell ⟨w.heap.size + 1 + 1, 1, none⟩ (.int .i64 (x.1.j : Int))).setCell ⟨w.heap.size + 1 + 1, 2, none⟩ (.int .i64 x.1.side)) (w.heap.size + 1 + 1 + 1) 4 [.bool false] :=
        row_other (row_other (row_other H2.out.1.k (by show w.heap.size + 1 + 1 + 1 ≠ w.heap.size + 1 + 1; omega) _) (by show w.heap.size + 1 + 1 + 1 ≠ w.heap.size + 1 + 1; omega) _) (by show w.heap.size + 1 + 1 + 1 ≠ w.heap.size + 1 + 1; omega) _
      have f3 := hk2.free 0
      have m3 := hk2.cell (i := 0) rfl
      clear hrow hk2
      gi_wp2
      refine ⟨((keeps_below H2.out.2.2).trans (keeps_stored _ _ _ _ _ _ _ _ _)).from _, ⟨rfl, pre, x, rfl, HP.out, HX.out.symm⟩, ?_⟩
      rw [lastW_snoc]
      exact H2.out.1.stored x.1 true
  case done =>
    rintro D ys W hD hS ⟨hp, hf⟩ hK
    have hno : fd = none := HNO.out (fun x hx => by
      rw [← hS] at hx
      obtain ⟨y, hy, rfl⟩ := List.mem_map.1 hx
      exact hp y hy)
    have hr2 := HRES.out
    rw [hno] at hr2
    have HR2 := Lib.hid hr2
    have HF := Lib.hid (And.intro hf hK)
    obtain ⟨⟨f0, m0⟩, ⟨f1, m1⟩, ⟨f2, m2⟩, hrow⟩ := three_store (.int .i64 0) (.int .i64 0) (.int .i64 0) hf.r
    have hk2 : Row (((W.setCell ⟨w.heap.size + 1 + 1, 0, none⟩ (.int .i64 0)).setCell ⟨w.heap.size + 1 + 1, 1, none⟩ (.int .i64 0)).setCell ⟨w.heap.size + 1 + 1, 2, none⟩ (.int .i64 0)) (w.heap.size + 1 + 1 + 1) 4 [.bool false] :=
      row_other (row_other (row_other hf.k (by show w.heap.size + 1 + 1 + 1 ≠ w.heap.size + 1 + 1; omega) _) (by show w.heap.size + 1 + 1 + 1 ≠ w.heap.size + 1 + 1; omega) _) (by show w.heap.size + 1 + 1 + 1 ≠ w.heap.size + 1 + 1; omega) _
    have f3 := hk2.free 0
    have m3 := hk2.cell (i := 0) rfl
    clear hrow hk2 hno hp hf hK hS H1 HNO HSO HRES HPV hr2
    go_wp2
    have hst : Fi4 w ((((W.setCell ⟨w.heap.size + 1 + 1, 0, none⟩ (.int .i64 0)).setCell ⟨w.heap.size + 1 + 1, 1, none⟩ (.int .i64 0)).setCell ⟨w.heap.size + 1 + 1, 2, none⟩ (.int .i64 0)).setCell ⟨w.heap.size + 1 + 1 + 1, 0, none⟩ (.bool false)) b (.slice A l.length cap) ⟨0, 0, 0⟩ false := HF.out.1.stored ⟨0, 0, 0⟩ false
    have hKz := (keeps_stored W ⟨w.heap.size + 1 + 1, 0, none⟩ ⟨w.heap.size + 1 + 1, 1, none⟩ ⟨w.heap.size + 1 + 1, 2, none⟩ ⟨w.heap.size + 1 + 1 + 1, 0, none⟩ (.int .i64 0) (.int .i64 0) (.int .i64 0) (.bool false)).same _ _ HF.out.2 rfl
    generalize ((((W.setCell ⟨w.heap.size + 1 + 1, 0, none⟩ (.int .i64 0)).setCell ⟨w.heap.size + 1 + 1, 1, none⟩ (.int .i64 0)).setCell ⟨w.heap.size + 1 + 1, 2, none⟩ (.int .i64 0)).setCell ⟨w.heap.size + 1 + 1 + 1, 0, none⟩ (.bool false)) = Z at *
    refine ⟨by simp, .inl ⟨_, _, rfl, run_takeDeferred hKz, ?_⟩⟩
    have hpt := hst.put (by omega) (.deferred none) hKz
    have q0 : (Z.putObj D (.deferred none)).cell? ⟨w.heap.size + 1 + 1, 0, none⟩ = some (.int .i64 0) := hpt.r.cell (i := 0) rfl
    have q1 : (Z.putObj D (.deferred none)).cell? ⟨w.heap.size + 1 + 1, 1, none⟩ = some (.int .i64 0) := hpt.r.cell (i := 1) rfl
    have q2 : (Z.putObj D (.deferred none)).cell? ⟨w.heap.size + 1 + 1, 2, none⟩ = some (.int .i64 0) := hpt.r.cell (i := 2) rfl
    have q3 : (Z.putObj D (.deferred none)).cell? ⟨w.heap.size + 1 + 1 + 1, 0, none⟩ = some (.bool false) := hpt.k.cell (i := 0) rfl
    refine ⟨.tuple #[.agg #[.int .i64 0, .int .i64 0, .int .i64 0], .bool false], ?_, ?_, hpt.bel⟩
    · simp [results, Tryz.results70, go_sem, q0, q1, q2, q3]
    · rw [HR2.out]; rfl
  case stop =>
    rintro D c pre W hD ⟨rest, hrest⟩ ⟨⟨rfl, init, x, rfl, hi, hx⟩, hf⟩ hK
    rw [lastW_snoc] at hf
    have hso : fd = some x.1 := HSO.out (init.map (·.1)) rest x.1 (by rw [← hrest, List.map_append]; rfl) (fun y hy => by
      obtain ⟨z, hz, rfl⟩ := List.mem_map.1 hy
      exact hi z hz) hx
    have hr2 := HRES.out
    rw [hso] at hr2
    have HR2 := Lib.hid hr2
    have HF := Lib.hid (And.intro hf hK)
    clear hso hf hK hrest hi hx H1 HNO HSO HRES HPV hr2
    gi_wp2
    have hpt := HF.out.1.put (by omega) (.deferred none) HF.out.2
    have q0 := hpt.r.cell (i := 0) rfl
    have q1 := hpt.r.cell (i := 1) rfl
    have q2 := hpt.r.cell (i := 2) rfl
    have q3 := hpt.k.cell (i := 0) rfl
    refine ⟨by simp, .inl ⟨_, _, rfl, run_takeDeferred HF.out.2, ?_⟩⟩
    refine ⟨.tuple #[.agg #[.int .i64 (x.1.i : Int), .int .i64 (x.1.j : Int), .int .i64 x.1.side], .bool true], ?_, ?_, hpt.bel⟩
    · simp [results, Tryz.results70, go_sem, q0, q1, q2, q3]
    · rw [HR2.out]; rfl
end W
end Go.Proofs.YtellemlhhlafcaaGreatDoor
end
section
namespace Go.Proofs.YtellemlhhlafcaaGreatDoor
open Go Go.RowKit Go.Deep Go.Sort
namespace W
open M
attribute [local go_sem] bs_size bs_toList bs_get bs_extract bs_append bs_lit0 bs_lit1 lit1_bs
set_option maxHeartbeats 1000000
set_option maxRecDepth 20000
theorem kcheck (d : Dk) (w : World) (hg : Glob w) (hd : SmD d) : Calls Tryz.prog 98 #[dkV d] w (Ret w (.int .i64 0)) := by
  obtain ⟨q1, q2, q3, q4⟩ := hd.bq
  have l1 := q1.R_len (by decide)
  have l2 := q2.R_len (by decide)
  have l3 := q3.R_len (by decide)
  have h1 := fun W (hW : Glob W) => vcheckR (R d.x) W hW (by omega)
  have h2 := fun W (hW : Glob W) => vcheckR (R d.y) W hW (by omega)
  have h3 := fun W (hW : Glob W) => vcheckR (R d.s) W hW (by omega)
  rw [q1.chk (by decide)] at h1
  rw [q2.chk (by decide)] at h2
  rw [q3.chk (by decide)] at h3
  obtain ⟨ch, ct, hct, hc45⟩ := R_head d.s
  rw [decide_eq_false (Rat.not_lt.2 q4)] at hc45
  unfold dkV
  rw [hct] at h3 ⊢
  have hcd : ((ch.toNat : Int) == 45) = false := by
    rw [beq_eq_false_iff_ne] at hc45
    have h1 : ch.toNat ≠ 45 := fun e => hc45 (UInt8.toNat_inj.1 (by rw [e]; rfl))
    simp; omega
  have H1 := Lib.hid h1
  have H2 := Lib.hid h2
  have H3 := Lib.hid h3
  generalize R d.x = s1 at *
  generalize R d.y = s2 at *
  have hb0 := bel_al2 w (.cells #[.string (bs s1), .string (bs s2), .string (bs (ch :: ct))] 127 (0, 0)) (.cells #[.string (bs s1), .string (bs s2), .string (bs (ch :: ct))] 86 (0, 0))
  have hr1 : Row ((w.alloc (.cells #[.string (bs s1), .string (bs s2), .string (bs (ch :: ct))] 127 (0, 0))).alloc (.cells #[.string (bs s1), .string (bs s2), .string (bs (ch :: ct))] 86 (0, 0))) w.heap.size 127 [.string (bs s1), .string (bs s2), .string (bs (ch :: ct))] := rnw.alloc _
  have hr2 : Row ((w.alloc (.cells #[.string (bs s1), .string (bs s2), .string (bs (ch :: ct))] 127 (0, 0))).alloc (.cells #[.string (bs s1), .string (bs s2), .string (bs (ch :: ct))] 86 (0, 0))) (w.heap.size + 1) 86 [.string (bs s1), .string (bs s2), .string (bs (ch :: ct))] := rnew0 (World.size_alloc _ _).symm
  have HR := Lib.hid (And.intro hr1 (And.intro hr2 hb0))
  have HG := Lib.hid hg
  clear hr1 hr2 hb0 h1 h2 h3 l1 l2 l3 q1 q2 q3 q4 hct hc45 hd hg
  have e0 := (rnw (w := w) (t := 127) (xs := [.string (bs s1), .string (bs s2), .string (bs (ch :: ct))])).cell (i := 0) rfl
  have e1 := (rnw (w := w) (t := 127) (xs := [.string (bs s1), .string (bs s2), .string (bs (ch :: ct))])).cell (i := 1) rfl
  have e2 := (rnw (w := w) (t := 127) (xs := [.string (bs s1), .string (bs s2), .string (bs (ch :: ct))])).cell (i := 2) rfl
  have y0 := HR.out.2.1.cell (i := 0) rfl
  go_enter Tryz.func98, Tryz.ntmps98
  go_wp2
  refine wp_loop_rounds 4 ?_
  rw [rounds_succ]
  go_wp2_with fail
  refine (H1.out _ (HG.out.of HR.out.2.2)).mono ?_
  rintro e w1 ⟨rfl, hb1⟩
  have K1 := Lib.hid (And.intro (HR.out.1.below' hb1) (And.intro (HR.out.2.1.below' hb1) (bel_to HR.out.2.2 hb1)))
  have y1 := K1.out.2.1.cell (i := 1) rfl
  clear y0 hb1 HR e0 e1 e2
  go_wp2
  rw [rounds_succ]
  go_wp2_with fail
  refine (H2.out _ (HG.out.of K1.out.2.2)).mono ?_
  rintro e w2 ⟨rfl, hb2⟩
  have K2 := Lib.hid (And.intro (K1.out.1.below' hb2) (And.intro (K1.out.2.1.below' hb2) (bel_to K1.out.2.2 hb2)))
  have y2 := K2.out.2.1.cell (i := 2) rfl
  clear y1 hb2 K1
  go_wp2
  rw [rounds_succ]
  go_wp2_with fail
  refine (H3.out _ (HG.out.of K2.out.2.2)).mono ?_
  rintro e w3 ⟨rfl, hb3⟩
  have K3 := Lib.hid (And.intro (K2.out.1.below' hb3) (bel_to K2.out.2.2 hb3))
  have x2 := K3.out.1.cell (i := 2) rfl
  clear y2 hb3 K2
  go_wp2
  rw [rounds_succ]
  go_wp2
  go_ret
  exact Ret.of rfl K3.out.2
theorem klist (vl : Value) (l : List Dk) (w : World) (hg : Glob w) (hl : RdK w vl l) (hn : l.length ≤ 64) (h0 : 0 < l.length) (hS : ∀ d ∈ l, SmD d) :
    Calls Tryz.prog 69 #[vl] w (Ret w (.int .i64 0)) := by
  have HC := Lib.hid (fun i (hi : i < l.length) W (hW : Below w.heap.size w W) => kcheck l[i] W (hg.of hW) (hS _ (List.getElem_mem hi)))
  obtain ⟨A, cap, rfl⟩ := hl.len
  have HW := Lib.hid hl
  have hd : decide (64 < (l.length : Int)) = false := by simp; omega
  have hz : ((l.length : Int) == 0) = false := by rw [beq_eq_false_iff_ne]; omega
  clear hl hg hS
  go_enter Tryz.func69, Tryz.ntmps69
  go_wp2
  go_loopw [11] (fun iv wr => ∃ i : Nat, iv = .int .i64 (i : Int) ∧ i ≤ l.length ∧ Below w.heap.size w wr) (fun iv _ => l.length - (intOf iv).toNat)
  case atStart => exact ⟨0, rfl, by omega, Below.refl _ _⟩
  case round =>
    obtain ⟨i, rfl, hi, hbw⟩ := hrel
    by_cases hlt : i < l.length
    · obtain ⟨b, o, rfl, hsl⟩ := RdK.row (n := l.length) (HW.out.below hbw) i hlt
      obtain ⟨v0, v1, v2⟩ := hsl.val i hlt
      have HX := Lib.hid (HC.out i hlt)
      clear hsl
      unfold dkV at HX
      generalize R (l[i]).x = s1 at *
      generalize R (l[i]).y = s2 at *
      generalize R (l[i]).s = s3 at *
      have hal := bel_to hbw (bel_al wr (.cells #[.string (bs s1), .string (bs s2), .string (bs s3)] 127 (0, 0)))
      have hr : Row (wr.alloc (.cells #[.string (bs s1), .string (bs s2), .string (bs s3)] 127 (0, 0))) wr.heap.size 127 [.string (bs s1), .string (bs s2), .string (bs s3)] := rnw
      have x0 := hr.cell (i := 0) rfl
      have x1 := hr.cell (i := 1) rfl
      have x2 := hr.cell (i := 2) rfl
      have HB := Lib.hid hal
      clear hr hal
      go_wp2_with fail
      refine (HX.out _ HB.out).mono ?_
      rintro e w1 ⟨rfl, hb1⟩
      have hb := bel_to HB.out hb1
      clear hb1
      go_wp2
      go_roundw
      case rel => exact ⟨i + 1, by go_num, by omega, hb⟩
      case measure => simp [intOf]; omega
    · obtain rfl : l.length = i := by omega
      go_wp2
      go_ret
      exact Ret.of rfl hbw
theorem kcommon (vl : Value) (l : List Dk) (w : World) (hg : Glob w) (hl : RdK w vl l) (hn : l.length ≤ 64) (h0 : 0 < l.length) (hS : ∀ d ∈ l, SmD d) :
    Calls Tryz.prog 32 #[vl] w (Ret w (.tuple #[.bool (firstD l).isSome, wnV ((firstD l).getD ⟨0, 0, 0⟩), .int .i64 0])) := by
  have HL := Lib.hid (fun W (hW : Below w.heap.size w W) => klist vl l W (hg.of hW) (hl.below hW) hn h0 hS)
  have HF := Lib.hid (fun b W (hW : Below w.heap.size w W) (hs : NoErrD W b) => kfirst vl l b W (hg.of hW) hs (hl.below hW) hn hS)
  generalize firstD l = fd at *
  obtain ⟨ok, hok⟩ : ∃ ok, ok = fd.isSome := ⟨_, rfl⟩
  obtain ⟨x, hx⟩ : ∃ x, x = fd.getD ⟨0, 0, 0⟩ := ⟨_, rfl⟩
  rw [← hok, ← hx] at HF ⊢
  clear hok hx
  obtain ⟨A, cap, rfl⟩ := hl.len
  have hb0 := bel_al w (.cells #[.int .i64 0, .int .i64 0, .int .i64 0] 42 (0, 0))
  have HR := Lib.hid (And.intro (rnw (w := w) (t := 42) (xs := [.int .i64 0, .int .i64 0, .int .i64 0])) hb0)
  clear hg hl hn h0 hS hb0
  go_enter Tryz.func32, Tryz.ntmps32
  go_wp2_with fail
  refine (HL.out _ HR.out.2).mono ?_
  rintro e w1 ⟨rfl, hb1⟩
  have hb2 := bel_to hb1 (bel_al w1 (.cells #[.int .i64 0] 153 (0, 0)))
  have H2 := Lib.hid (And.intro (HR.out.1.below' hb2) (And.intro (show NoErrD (w1.alloc (.cells #[.int .i64 0] 153 (0, 0))) w1.heap.size from rnw) (bel_to HR.out.2 hb2)))
  clear hb1 hb2 HR HL
  go_wp2_with fail
  refine (HF.out _ _ H2.out.2.2 H2.out.2.1).mono ?_
  rintro e w3 ⟨rfl, hb3⟩
  have hlt3 : w.heap.size < w3.heap.size := Nat.lt_of_lt_of_le (Row.lt H2.out.1) hb3.size
  generalize w1.heap.size = g at *
  have hal := bel_to hb3 (bel_al w3 (.cells #[.int .i64 (x.i : Int), .int .i64 (x.j : Int), .int .i64 x.side] 42 (0, 0)))
  have hrn : Row (w3.alloc (.cells #[.int .i64 (x.i : Int), .int .i64 (x.j : Int), .int .i64 x.side] 42 (0, 0))) w3.heap.size 42 [.int .i64 (x.i : Int), .int .i64 (x.j : Int), .int .i64 x.side] := rnw
  have H4 := Lib.hid (And.intro (H2.out.1.below' hal) (And.intro (H2.out.2.1.below' hal) (And.intro hrn (bel_to H2.out.2.2 hal))))
  clear hal hrn hb3 H2 HF
  have er := H4.out.2.1.cell
  have n1 : w3.heap.size ≠ w.heap.size := by omega
  go_wp2_with fail
  generalize w3.alloc (.cells #[.int .i64 (x.i : Int), .int .i64 (x.j : Int), .int .i64 x.side] 42 (0, 0)) = V at *
  generalize w3.heap.size = g4 at *
  have x0 := H4.out.2.2.1.cell (i := 0) rfl
  have x1 := H4.out.2.2.1.cell (i := 1) rfl
  have x2 := H4.out.2.2.1.cell (i := 2) rfl
  obtain ⟨⟨f0, m0⟩, ⟨f1, m1⟩, ⟨f2, m2⟩, hrow⟩ := three_store (.int .i64 (x.i : Int)) (.int .i64 (x.j : Int)) (.int .i64 x.side) H4.out.1
  have HQ := Lib.hid (And.intro hrow (three_below (.int .i64 (x.i : Int)) (.int .i64 (x.j : Int)) (.int .i64 x.side) H4.out.2.2.2 (A := w.heap.size) (Nat.le_refl _)))
  clear hrow
  go_region
  have hq := HQ.out.1.below' (RowKit.Below.drew (Below.refl _ _))
  have q0 := hq.cell (i := 0) rfl
  have q1 := hq.cell (i := 1) rfl
  have q2 := hq.cell (i := 2) rfl
  clear hq f0 f1 f2 m0 m1 m2 x0 x1 x2 er n1
  go_wp2
  refine bodyPost_ret (v := .tuple #[.bool ok, .agg #[.int .i64 (x.i : Int), .int .i64 (x.j : Int), .int .i64 x.side], .int .i64 0]) (by simp [results, Tryz.results32, go_sem, q0, q1, q2]) rfl ⟨rfl, RowKit.Below.drew HQ.out.2⟩
end W
end Go.Proofs.YtellemlhhlafcaaGreatDoor
end
