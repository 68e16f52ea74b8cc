/-
  Chapter 45 of the program: 'Check', 'around', 'targets', 'Zones', 'Feasible' at right plates.
  Chapter 45 of the program: 'limited', 'Zones', 'Feasible', and a place in all zones ('Does').
  Chapters 12 and 45 of the program: 'Contains', 'limited' with a play, 'Does'.
  Chapter 45 of the program: 'limited' and 'Zones' with the play 0, 'Does'.
-/
import Derived.Test.YtellemlhhlafcaaGreatDoorKX
import Derived.Test.YtellemlhhlafcaaGreatDoorKS
import Derived.BigRegion
section
namespace Go.Proofs.YtellemlhhlafcaaGreatDoor
open Go Go.RowKit Go.Deep Go.Sort
namespace M
theorem dkP_sm {p : Tg × Cc} (h : RtH p) : SmD (dkP p) := by
  obtain ⟨ht, hc, h1, h2⟩ := h
  have hw := RtH.wide ⟨ht, hc, h1, h2⟩
  have q1 := ht.x
  have q2 := ht.y
  have q3 := hc.x
  have q4 := hc.y
  refine ⟨⟨p.1.x - p.2.x, p.1.y - p.2.y, wide p.1 p.2 * wide p.1 p.2, rfl, by omega, by omega, Int.mul_nonneg hw.1 hw.1, ?_⟩⟩
  have h3 : wide p.1 p.2 * wide p.1 p.2 ≤ 200000 * 200000 := Int.mul_le_mul hw.2 hw.2 hw.1 (by decide)
  have h4 : 0 ≤ wide p.1 p.2 * wide p.1 p.2 := Int.mul_nonneg hw.1 hw.1
  omega
end M
abbrev tkV (vt vc : Value) (p : Int) : Value := .agg #[vt, vc, .int .i64 p]
theorem OwnK.base {w : World} {B B' : Nat} {v : Value} {l : List M.Dk} (h : OwnK w B v l) (hB : B' ≤ B) : OwnK w B' v l := by
  refine ⟨h.1, ?_⟩
  rcases h.2 with h2 | ⟨g, cap, cur, h2, h3, h4⟩
  · exact Or.inl h2
  · exact Or.inr ⟨g, cap, cur, h2, Nat.le_trans hB h3, h4⟩
theorem row_grownK {w w' : World} {B g : Nat} {v : Value} {t : TypeId} {xs : List Value} {l : List M.Dk} (h : Row w g t xs) (ho : OwnK w B v l) (hg : w.grownBy w' v.ownBlock) (hlt : g < B) : Row w' g t xs := by
  have hne : some g ≠ v.ownBlock := fun e => by have := (World.ownsRow.lt ho g e.symm).1; omega
  exact (hg.block g (Row.lt h) hne).trans h
theorem srcK_one (V : World) (d : M.Dk) (j : Nat) (u : Value) (hu : (csK [d])[j]? = some u) (g : Nat) (hg : g = V.heap.size) : (V.alloc (.cells #[.string (bs (M.R d.x)), .string (bs (M.R d.y)), .string (bs (M.R d.s))] 127 (0, 0))).cell? ((⟨g, 0, none⟩ : Addr).add j) = some u := by
  subst hg
  have hr : Row (V.alloc (.cells #[.string (bs (M.R d.x)), .string (bs (M.R d.y)), .string (bs (M.R d.s))] 127 (0, 0))) V.heap.size 127 [.string (bs (M.R d.x)), .string (bs (M.R d.y)), .string (bs (M.R d.s))] := rnw
  have hadd : (⟨V.heap.size, 0, none⟩ : Addr).add j = ⟨V.heap.size, j, none⟩ := by unfold Addr.add; split <;> simp_all
  rw [hadd]
  exact hr.cell (by simpa [csK] using hu)
namespace W
open M
attribute [local go_sem] bs_size bs_toList bs_get bs_extract bs_append bs_lit0 bs_lit1 lit1_bs
set_option maxHeartbeats 1000000
set_option maxRecDepth 20000
theorem scheck (vt vc : Value) (ts : List Tg) (cs : List Cc) (p : Int) (w : World) (ht : RdG w vt ts) (hc : RdC w vc cs) (h : chk46 ts cs = 0) (p1 : -1 ≤ p) (p2 : p ≤ 100000) :
    Calls Tryz.prog 66 #[tkV vt vc p] w (Ret w (.int .i64 0)) := by
  obtain ⟨h1, h16, hlen, hrt⟩ := chk46_iff.1 h
  have hpl : chkPl ts cs = 0 := by
    unfold chk46 at h
    by_cases h2 : chkPl ts cs = 0
    · exact h2
    · rw [if_pos h2] at h; exact absurd h h2
  have hP := fun W (hW : Below w.heap.size w W) => bplate vt vc ts cs W (ht.below hW) (hc.below hW) (by unfold maxLen; omega) (by unfold maxLen; omega)
  rw [hpl] at hP
  have HP := Lib.hid hP
  have HH := Lib.hid (fun i (hi : i < ts.length) (hj : i < cs.length) => (hrt (ts[i], cs[i]) (by rw [show (ts[i], cs[i]) = (ts.zip cs)[i]'(by rw [List.length_zip]; omega) by simp]; exact List.getElem_mem _)).2.2)
  obtain ⟨At, ct, rfl⟩ := ht.len
  obtain ⟨Ac, cc, rfl⟩ := hc.len
  have hb0 := bel_al w (.cells #[.slice At ts.length ct, .slice Ac cs.length cc, .int .i64 p] 40 (0, 0))
  have HR := Lib.hid (And.intro (rnw (w := w) (t := 40) (xs := [.slice At ts.length ct, .slice Ac cs.length cc, .int .i64 p])) hb0)
  have HT := Lib.hid (And.intro ht hc)
  have z1 : ((ts.length : Int) == 0) = false := by rw [beq_eq_false_iff_ne]; omega
  have d1 : decide (p < -1) = false := decide_eq_false (by omega)
  have d2 : decide (100000 < p) = false := decide_eq_false (by omega)
  have HLN := Lib.hid hlen
  have b0 := HR.out.1.cell (i := 0) rfl
  have b1 := HR.out.1.cell (i := 1) rfl
  clear ht hc h hpl hP hrt hb0 hlen
  unfold tkV
  go_enter Tryz.func66, Tryz.ntmps66
  go_wp2_with fail
  refine (HP.out _ HR.out.2).mono ?_
  rintro e w1 ⟨rfl, hb1⟩
  have H1 := Lib.hid (And.intro (HR.out.1.below' hb1) (bel_to HR.out.2 hb1))
  have b0 := H1.out.1.cell (i := 0) rfl
  clear hb1 HR
  go_wp2
  go_loopw [22] (fun iv wr => ∃ i : Nat, iv = .int .i64 (i : Int) ∧ i ≤ ts.length ∧ Hid (Row wr w.heap.size 40 [.slice At ts.length ct, .slice Ac cs.length cc, .int .i64 p] ∧ Below w.heap.size w wr)) (fun iv _ => ts.length - (intOf iv).toNat)
  case atStart => exact ⟨0, rfl, by omega, H1⟩
  case round =>
    clear H1 b0
    obtain ⟨i, rfl, hi, hk⟩ := hrel
    by_cases hlt : i < ts.length
    · have hj : i < cs.length := by have := HLN.out; omega
      obtain ⟨bt, ot, rfl, hst⟩ := RdG.row (n := ts.length) (HT.out.1.below hk.out.2) i hlt
      obtain ⟨bc, oc, rfl, hsc⟩ := RdC.row (n := cs.length) (HT.out.2.below hk.out.2) i hj
      obtain ⟨t0, t1, t2, t3, t4, t5, t6⟩ := hst.val i hlt
      have hal := bel_al wr (tgO ts[i])
      obtain ⟨_, _, c2⟩ := (hsc.below' hal).val i hj
      obtain ⟨e1, e2⟩ := HH.out i hlt hj
      have hi0 : (0 : Int) ≤ (i : Int) := by omega
      have hi1 : (i : Int) < (ts.length : Int) := by omega
      have hi2 : (i : Int) < (cs.length : Int) := by have := HLN.out; omega
      have hr : Row (wr.alloc (tgO ts[i])) wr.heap.size 27 (tgC ts[i]) := rnw
      have b1 := (hk.out.1.below' hal).cell (i := 1) rfl
      unfold tgC at hr
      have r2 := hr.cell (i := 2) rfl
      have r3 := hr.cell (i := 3) rfl
      have HB := Lib.hid (And.intro (hk.out.1.below' hal) (bel_to hk.out.2 hal))
      unfold tgO at *
      clear hst hsc hal hr hk
      generalize ts[i].x = tx at *
      generalize ts[i].y = ty at *
      generalize ts[i].lo = tl at *
      generalize ts[i].hi = th at *
      generalize ts[i].tol = tt at *
      generalize ts[i].mat = tm at *
      generalize ts[i].pin = tp at *
      generalize cs[i].d = cd at *
      have d3 : decide (cd < tl) = false := decide_eq_false (by omega)
      have d4 : decide (th < cd) = false := decide_eq_false (by omega)
      go_wp2
      go_roundw
      case rel => exact ⟨i + 1, by go_num, by omega, HB⟩
      case measure => simp [intOf]; omega
    · obtain rfl : ts.length = i := by omega
      have b2 := hk.out.1.cell (i := 2) rfl
      go_wp2
      go_ret
      exact Ret.of rfl hk.out.2
theorem saround (x y n : Int) (w : World) (hg : Glob w) (h1 : x.natAbs < 10 ^ 6) (h2 : y.natAbs < 10 ^ 6) (h3 : 0 ≤ n) (h4 : n ≤ 300000) :
    Calls Tryz.prog 120 #[.int .i64 x, .int .i64 y, .int .i64 n] w (Ret w (.tuple #[dkV ⟨(x : Rat), (y : Rat), ((n * n : Int) : Rat) / 4⟩, .int .i64 0])) := by
  have hnn : n * n ≤ 300000 * 300000 := Int.mul_le_mul h4 h4 h3 (by decide)
  have hn0 : 0 ≤ n * n := Int.mul_nonneg h3 h3
  have hO := fun W (hW : Below w.heap.size w W) => ratOf (n * n) 4 W (hg.of hW) (by omega) (by decide) (by decide)
  rw [Rat.divInt_eq_div, show ((4 : Int) : Rat) = 4 from rfl] at hO
  have HO := Lib.hid hO
  have HX := Lib.hid (fun W (hW : Below w.heap.size w W) => ratWhole x W (hg.of hW) (by omega) (by omega))
  have HY := Lib.hid (fun W (hW : Below w.heap.size w W) => ratWhole y W (hg.of hW) (by omega) (by omega))
  have hw1 : wrap64 (n * n) = n * n := IntWalk.wrap64_in _ (by omega)
  obtain ⟨sx, hsx⟩ : ∃ s, s = R (x : Rat) := ⟨_, rfl⟩
  obtain ⟨sy, hsy⟩ : ∃ s, s = R (y : Rat) := ⟨_, rfl⟩
  obtain ⟨ss, hss⟩ : ∃ s, s = R (((n * n : Int) : Rat) / 4) := ⟨_, rfl⟩
  unfold dkV
  simp only
  rw [← hsx] at HX ⊢
  rw [← hsy] at HY ⊢
  rw [← hss] at HO ⊢
  have hb0 := bel_al w (.cells #[.string ⟨#[]⟩, .string ⟨#[]⟩, .string ⟨#[]⟩] 127 (0, 0))
  have HR := Lib.hid (And.intro (rnw (w := w) (t := 127) (xs := [.string ⟨#[]⟩, .string ⟨#[]⟩, .string ⟨#[]⟩])) hb0)
  clear hO hnn hn0 h1 h2 h3 h4 hsx hsy hss hg hb0
  go_enter Tryz.func120, Tryz.ntmps120
  go_wp2_with fail
  refine (HO.out _ HR.out.2).mono ?_
  rintro e w1 ⟨rfl, hb1⟩
  have H1 := Lib.hid (And.intro (HR.out.1.below' hb1) (bel_to HR.out.2 hb1))
  clear hb1 HR HO
  go_wp2_with fail
  refine (HX.out _ H1.out.2).mono ?_
  rintro e w2 ⟨rfl, hb2⟩
  have H2 := Lib.hid (And.intro (H1.out.1.below' hb2) (bel_to H1.out.2 hb2))
  clear hb2 H1 HX
  go_wp2_with fail
  refine (HY.out _ H2.out.2).mono ?_
  rintro e w3 ⟨rfl, hb3⟩
  have H3 := Lib.hid (And.intro (H2.out.1.below' hb3) (bel_to H2.out.2 hb3))
  clear hb3 H2 HY
  obtain ⟨⟨f0, m0⟩, ⟨f1, m1⟩, ⟨f2, m2⟩, hrow⟩ := three_store (.string (bs sx)) (.string (bs sy)) (.string (bs ss)) H3.out.1
  have HQ := Lib.hid (And.intro hrow (three_below (.string (bs sx)) (.string (bs sy)) (.string (bs ss)) H3.out.2 (A := w.heap.size) (Nat.le_refl _)))
  clear hrow H3
  go_wp2
  have q0 := HQ.out.1.cell (i := 0) rfl
  have q1 := HQ.out.1.cell (i := 1) rfl
  have q2 := HQ.out.1.cell (i := 2) rfl
  refine bodyPost_ret (v := .tuple #[.agg #[.string (bs sx), .string (bs sy), .string (bs ss)], .int .i64 0]) (by simp [results, Tryz.results120, go_sem, q0, q1, q2]) rfl ⟨rfl, HQ.out.2⟩
theorem stargets (vt vc : Value) (ts : List Tg) (cs : List Cc) (p : Int) (w : World) (hg : Glob w) (hs : Sig w) (ht : RdG w vt ts) (hc : RdC w vc cs) (h : chk46 ts cs = 0) :
    Calls Tryz.prog 67 #[tkV vt vc p] w (fun e w' => ∃ v, e = .returned (.tuple #[v, .int .i64 0]) ∧ OwnK w' w.heap.size v ((ts.zip cs).map dkP) ∧ Below w.heap.size w w') := by
  obtain ⟨h1, h16, hlen, hrt⟩ := chk46_iff.1 h
  have HH := Lib.hid (fun i (hi : i < ts.length) (hj : i < cs.length) => (hrt (ts[i], cs[i]) (by rw [show (ts[i], cs[i]) = (ts.zip cs)[i]'(by rw [List.length_zip]; omega) by simp]; exact List.getElem_mem _)))
  have HA := Lib.hid (fun i (hi : i < ts.length) (hj : i < cs.length) W (hW : Below w.heap.size w W) => show Calls Tryz.prog 30 #[tgV ts[i], .int .i64 cs[i].d] W (Ret W (.tuple #[.int .i64 (wide ts[i] cs[i]), .int .i64 0])) from by
    have hr := HH.out i hi hj
    have := ballowed ts[i] cs[i].d W (hs.below hW)
    obtain ⟨e1, _⟩ := bon_ok ((chkT_iff ts[i]).2 hr.1) (show wth ts[i] cs[i].d = true from by unfold wth; simp [hr.2.2.1, hr.2.2.2])
    rw [e1, if_pos rfl] at this
    exact this)
  have HD := Lib.hid (fun i (hi : i < ts.length) (hj : i < cs.length) W (hW : Below w.heap.size w W) => show Calls Tryz.prog 120 #[.int .i64 (ts[i].x - cs[i].x), .int .i64 (ts[i].y - cs[i].y), .int .i64 (wide ts[i] cs[i])] W (Ret W (.tuple #[dkV (dkP (ts[i], cs[i])), .int .i64 0])) from by
    have hr := HH.out i hi hj
    have hw : 0 ≤ wide ts[i] cs[i] ∧ wide ts[i] cs[i] ≤ 200000 := hr.wide
    have q1 := hr.1.x
    have q2 := hr.1.y
    have q3 := hr.2.1.x
    have q4 := hr.2.1.y
    exact saround _ _ _ W (hg.of hW) (by simp only at *; omega) (by simp only at *; omega) hw.1 (by omega))
  have HXY := Lib.hid (fun i (hi : i < ts.length) (hj : i < cs.length) => show wrap64 (ts[i].x - cs[i].x) = ts[i].x - cs[i].x ∧ wrap64 (ts[i].y - cs[i].y) = ts[i].y - cs[i].y from by
    have hr := HH.out i hi hj
    have q1 := hr.1.x
    have q2 := hr.1.y
    have q3 := hr.2.1.x
    have q4 := hr.2.1.y
    simp only at *
    exact ⟨IntWalk.wrap64_in _ (by omega), IntWalk.wrap64_in _ (by omega)⟩)
  have HTK := Lib.hid (fun i (hi : i < ts.length) (hj : i < cs.length) => show ((ts.zip cs).map dkP).take (i + 1) = ((ts.zip cs).map dkP).take i ++ [dkP (ts[i], cs[i])] from by
    rw [List.take_succ_eq_append_getElem (by rw [List.length_map, List.length_zip]; omega)]
    simp)
  have HFU : Hid (((ts.zip cs).map dkP).take ts.length = (ts.zip cs).map dkP) := Lib.hid (List.take_of_length_le (by rw [List.length_map, List.length_zip]; omega))
  have HLT := Lib.hid (fun i (hi : i ≤ ts.length) => show (((ts.zip cs).map dkP).take i).length ≤ 16 from by rw [List.length_take]; omega)
  obtain ⟨At, ct, rfl⟩ := ht.len
  obtain ⟨Ac, cc, rfl⟩ := hc.len
  have hb0 := bel_al w (.cells #[.slice At ts.length ct, .slice Ac cs.length cc, .int .i64 p] 40 (0, 0))
  have HR := Lib.hid (And.intro (rnw (w := w) (t := 40) (xs := [.slice At ts.length ct, .slice Ac cs.length cc, .int .i64 p])) hb0)
  have HT := Lib.hid (And.intro ht hc)
  have HLN := Lib.hid hlen
  have b0 := HR.out.1.cell (i := 0) rfl
  clear ht hc h hrt hb0 hlen hs hg HH
  generalize (ts.zip cs).map dkP = dl at *
  unfold tkV
  go_enter Tryz.func67, Tryz.ntmps67
  go_wp2
  go_loopw [4, 14] (fun ov iv wr => ∃ (i : Nat) (vo : Value), iv = .int .i64 (i : Int) ∧ ov = vo ∧ i ≤ ts.length ∧ Hid (Row wr w.heap.size 40 [.slice At ts.length ct, .slice Ac cs.length cc, .int .i64 p] ∧ OwnK wr (w.heap.size + 2) vo (dl.take i) ∧ Below w.heap.size w wr)) (fun _ iv _ => ts.length - (intOf iv).toNat)
  case atStart => exact ⟨0, _, rfl, rfl, by omega, Lib.hid ⟨HR.out.1, by rw [List.take_zero]; exact OwnK.nil _ _, HR.out.2⟩⟩
  case round =>
    clear b0 HR
    obtain ⟨i, vo, rfl, e4, hi, hk⟩ := hrel
    obtain ⟨VA, vn, vc, hv⟩ := hk.out.2.1.shape
    subst hv
    subst e4
    by_cases hlt : i < ts.length
    · have hj : i < cs.length := by have := HLN.out; omega
      obtain ⟨bt, ot, rfl, hst⟩ := RdG.row (n := ts.length) (HT.out.1.below hk.out.2.2) i hlt
      obtain ⟨bc, oc, rfl, hsc⟩ := RdC.row (n := cs.length) (HT.out.2.below hk.out.2.2) i hj
      obtain ⟨t0, t1, t2, t3, t4, t5, t6⟩ := hst.val i hlt
      have hal := bel_al wr (tgO ts[i])
      obtain ⟨c0, c1, c2⟩ := (hsc.below' hal).val i hj
      have hi0 : (0 : Int) ≤ (i : Int) := by omega
      have hi1 : (i : Int) < (ts.length : Int) := by omega
      have hi2 : (i : Int) < (cs.length : Int) := by have := HLN.out; omega
      have b1 := (hk.out.1.below' hal).cell (i := 1) rfl
      have hal2 := bel_al2 wr (tgO ts[i]) (ccO cs[i])
      have hrt : Row ((wr.alloc (tgO ts[i])).alloc (ccO cs[i])) wr.heap.size 27 (tgC ts[i]) := rnw.alloc _
      have hrc : Row ((wr.alloc (tgO ts[i])).alloc (ccO cs[i])) (wr.heap.size + 1) 30 (ccC cs[i]) := rnew0 (World.size_alloc _ _).symm
      have H1 := Lib.hid (And.intro (hk.out.1.below' hal2) (And.intro (hk.out.2.1.below hal2) (And.intro (bel_to hk.out.2.2 hal2) (And.intro hrt hrc))))
      have HA1 := Lib.hid (HA.out i hlt hj)
      have HD1 := Lib.hid (HD.out i hlt hj)
      obtain ⟨hx1, hx2⟩ := HXY.out i hlt hj
      have HTK1 := Lib.hid (HTK.out i hlt hj)
      have HLT1 := Lib.hid (HLT.out i (by omega))
      clear hst hsc hal hal2 hrt hrc hk
      unfold tgO ccO at H1
      unfold tgO at c0 c1 c2 b1
      unfold tgC ccC at H1
      have r0 := H1.out.2.2.2.1.cell (i := 0) rfl
      have r1 := H1.out.2.2.2.1.cell (i := 1) rfl
      have r2 := H1.out.2.2.2.1.cell (i := 2) rfl
      have r3 := H1.out.2.2.2.1.cell (i := 3) rfl
      have r4 := H1.out.2.2.2.1.cell (i := 4) rfl
      have r5 := H1.out.2.2.2.1.cell (i := 5) rfl
      have r6 := H1.out.2.2.2.1.cell (i := 6) rfl
      have u2 := H1.out.2.2.2.2.cell (i := 2) rfl
      unfold tgV at HA1
      generalize dkP (ts[i], cs[i]) = dd at *
      generalize wide ts[i] cs[i] = wd at *
      unfold dkV at HD1
      generalize ts[i].x = tx at *
      generalize ts[i].y = ty at *
      generalize ts[i].lo = tl at *
      generalize ts[i].hi = th at *
      generalize ts[i].tol = tt at *
      generalize ts[i].mat = tm at *
      generalize ts[i].pin = tp at *
      generalize cs[i].x = cx at *
      generalize cs[i].y = cy at *
      generalize cs[i].d = cd at *
      go_wp2_with fail
      refine (HA1.out _ H1.out.2.2.1).mono ?_
      rintro e w2 ⟨rfl, hb2⟩
      have H2 := Lib.hid (And.intro (H1.out.1.below' hb2) (And.intro (H1.out.2.1.below hb2) (And.intro (bel_to H1.out.2.2.1 hb2) (And.intro (H1.out.2.2.2.1.below' hb2) (H1.out.2.2.2.2.below' hb2)))))
      clear hb2 H1 HA1 t0 t1 t2 t3 t4 t5 t6 c0 c1 c2 b1 r0 r1 r2 r3 r4 r5 r6 u2
      have r0 := H2.out.2.2.2.1.cell (i := 0) rfl
      have r1 := H2.out.2.2.2.1.cell (i := 1) rfl
      have u0 := H2.out.2.2.2.2.cell (i := 0) rfl
      have u1 := H2.out.2.2.2.2.cell (i := 1) rfl
      go_wp2_with fail
      refine (HD1.out _ H2.out.2.2.1).mono ?_
      rintro e w3 ⟨rfl, hb3⟩
      have H3 := Lib.hid (And.intro (H2.out.1.below' hb3) (And.intro (H2.out.2.1.below hb3) (bel_to H2.out.2.2.1 hb3)))
      clear hb3 H2 HD1 r0 r1 u0 u1
      have HC := Lib.hid (fun j u hu => srcK_one (w3.alloc (.cells #[.string (bs (R dd.x)), .string (bs (R dd.y)), .string (bs (R dd.s))] 127 (0, 0))) dd j u hu (w3.heap.size + 1) (World.size_alloc _ _).symm)
      have hal := bel_al w3 (.cells #[.string (bs (R dd.x)), .string (bs (R dd.y)), .string (bs (R dd.s))] 127 (0, 0))
      have hrd : Row (w3.alloc (.cells #[.string (bs (R dd.x)), .string (bs (R dd.y)), .string (bs (R dd.s))] 127 (0, 0))) w3.heap.size 127 [.string (bs (R dd.x)), .string (bs (R dd.y)), .string (bs (R dd.s))] := rnw
      have k0 := hrd.cell (i := 0) rfl
      have k1 := hrd.cell (i := 1) rfl
      have k2 := hrd.cell (i := 2) rfl
      have hal2 := bel_to hal (bel_al (w3.alloc (.cells #[.string (bs (R dd.x)), .string (bs (R dd.y)), .string (bs (R dd.s))] 127 (0, 0))) (.cells #[.string (bs (R dd.x)), .string (bs (R dd.y)), .string (bs (R dd.s))] 127 (0, 0)))
      have HSZ := Lib.hid (show w.heap.size + 2 ≤ ((w3.alloc (.cells #[.string (bs (R dd.x)), .string (bs (R dd.y)), .string (bs (R dd.s))] 127 (0, 0))).alloc (.cells #[.string (bs (R dd.x)), .string (bs (R dd.y)), .string (bs (R dd.s))] 127 (0, 0))).heap.size from by
        have := H3.out.2.2.size
        rw [World.size_alloc, World.size_alloc]; omega)
      have H4 := Lib.hid (And.intro (H3.out.1.below' hal2) (And.intro (H3.out.2.1.below hal2) (bel_to H3.out.2.2 hal2)))
      clear hal hrd hal2 H3
      go_wp2_with (at_builtin; refine wpList_app_OwnK (m := [dd]) rfl _ _ rfl rfl rfl rfl H4.out.2.1 HC.out HSZ.out (by have := HLT1.out; simp only [List.length_cons, List.length_nil]; omega) ?_; intro v2 w4 ho2 hg2)
      have HN := Lib.hid (And.intro (row_grownK H4.out.1 H4.out.2.1 hg2 (by omega)) (And.intro (by rw [HTK1.out]; exact ho2 : OwnK w4 (w.heap.size + 2) v2 (dl.take (i + 1))) (app_belOwnK H4.out.2.1 H4.out.2.2 (by omega) hg2)))
      clear ho2 hg2 H4 HC HSZ k0 k1 k2
      go_wp2
      go_roundw
      case rel => exact ⟨i + 1, _, by go_num, rfl, by omega, HN⟩
      case measure => simp [intOf]; omega
    · obtain rfl : ts.length = i := by omega
      have hk2 := hk.out
      rw [HFU.out] at hk2
      have HK := Lib.hid hk2
      clear hk hk2
      go_wp2
      refine bodyPost_ret (v := .tuple #[.slice VA vn vc, .int .i64 0]) (by simp [results, Tryz.results67, go_sem]) rfl ⟨_, rfl, HK.out.2.1.base (by omega), HK.out.2.2⟩
end W
end Go.Proofs.YtellemlhhlafcaaGreatDoor
end
section
namespace Go.Proofs.YtellemlhhlafcaaGreatDoor
open Go Go.RowKit Go.Deep Go.Sort
theorem run_app_growK {w : World} {b o cap : Nat} {l : List M.Dk} {d : M.Dk} {ad : Addr} (ty : TypeId) (h : SlK w b o l) (hl : l.length ≤ 100000) (hc : ∀ j u, (csK [d])[j]? = some u → w.cell? (ad.add j) = some u) :
    ∃ v' w', (Builtin.append_ #[93, 93] ty #[.slice (some ⟨b, o, none⟩) l.length l.length, .slice (some ad) 1 cap]).run Tryz.prog w = .ok v' w' ∧ RdK w' v' (l ++ [d]) ∧ Below w.heap.size w w' := by
  obtain ⟨i, h1, h2, h3, h4⟩ := info_parts infoDsc
  have holds : ∀ j v, (csK l)[j]? = some v → w.cell? ((⟨b, o, none⟩ : Addr).add j) = some v := by
    intro j u hu
    have hj : j < l.length * 3 := by rw [← csK_len]; exact (List.getElem?_eq_some_iff.1 hu).1
    have hi : j / 3 < l.length := by omega
    have hadd : (⟨b, o, none⟩ : Addr).add j = ⟨b, o + j, none⟩ := by unfold Addr.add; split <;> simp_all
    rw [hadd]
    have hg := csK_get l (j / 3) hi
    have hv := h.val (j / 3) hi
    rcases (by omega : j = j / 3 * 3 ∨ j = j / 3 * 3 + 1 ∨ j = j / 3 * 3 + 2) with e | e | e
    · rw [e, hg.1] at hu
      rw [e, ← Option.some.inj hu]
      exact hv.1
    · rw [e, hg.2.1] at hu
      rw [e, ← Option.some.inj hu]
      exact (by rw [← Nat.add_assoc]; exact hv.2.1)
    · rw [e, hg.2.2] at hu
      rw [e, ← Option.some.inj hu]
      exact (by rw [← Nat.add_assoc]; exact hv.2.2)
  have hr := run_append_grow (P := Tryz.prog) (w := w) 93 ty 127 i _ Tryz.underlying93 h1 h2 ⟨b, o, none⟩ l.length l.length (csK l) (by rw [csK_len, h3]) holds ad 1 cap (csK [d]) (by rw [csK_len, h3]; rfl) hc (by omega) (by omega) (by rw [h4]; exact growslice_fits (by omega) (by omega))
  refine ⟨_, _, hr, ⟨_, _, by rw [List.length_append]; rfl, Or.inr ⟨_, 0, rfl, ?_, ?_⟩⟩, ?_⟩
  · show w.heap.size < (w.drew.alloc _).heap.size
    rw [World.size_alloc]; exact Nat.lt_succ_self _
  · intro k hk
    have hg := csK_get (l ++ [d]) k hk
    have hcell : ∀ j u, (csK (l ++ [d]))[j]? = some u → (w.drew.alloc (.cells ((csK l).toArray ++ (csK [d]).toArray ++ Builtin.zeroCells (Value.agg #[.string ⟨#[]⟩, .string ⟨#[]⟩, .string ⟨#[]⟩]).cells (grownCap w (l.length + 1) l.length 127 - (l.length + 1))) 127)).cell? ⟨w.heap.size, j, none⟩ = some u := by
      intro j u hu
      rw [csK_append] at hu
      have := World.cell?_alloc_new w.drew ((csK l).toArray ++ (csK [d]).toArray ++ Builtin.zeroCells (Value.agg #[.string ⟨#[]⟩, .string ⟨#[]⟩, .string ⟨#[]⟩]).cells (grownCap w (l.length + 1) l.length 127 - (l.length + 1))) 127 j
      refine this.trans ?_
      have hj := (List.getElem?_eq_some_iff.1 hu).1
      rw [Array.getElem?_append_left (by simpa using hj)]
      simpa using hu
    rw [Nat.zero_add]
    exact ⟨hcell _ _ hg.1, hcell _ _ hg.2.1, hcell _ _ hg.2.2⟩
  · exact (RowKit.Below.drew (Below.refl _ _)).alloc (Nat.le_refl _) _
theorem step_app_growK {ops : Array Oper} {o : Oper} {a : Act} {K : Act → World → Prop} {Q : Exit → Act → World → Prop} {E : Prop} {w : World} {v xv : Value} {l : List M.Dk} {d : M.Dk} {ad : Addr} {b of cap : Nat} (hgd : o.guard = none) (s x : Operand)
    (ho : o.op = .call { callee := .builtin .append, args := #[s, x], argTypes := #[93, 93] }) (hs : a.eval s = v) (hx : a.eval x = xv) (hxv : xv = .slice (some ad) 1 cap) (hv : v = .slice (some ⟨b, of, none⟩) l.length l.length)
    (h : SlK w b of l) (hl : l.length ≤ 100000) (hc : ∀ j u, (csK [d])[j]? = some u → w.cell? (ad.add j) = some u)
    (hK : ∀ v' w', RdK w' v' (l ++ [d]) → Below w.heap.size w w' → K (a.put o.dst v') w') : if Region.wanted o (yielded ops a.tmps) = true then Oper.wp Tryz.prog o a w K Q else E := by
  have hw : Region.wanted o (yielded ops a.tmps) = true := by simp [Region.wanted, hgd]
  rw [if_pos hw]
  subst hxv
  subst hv
  obtain ⟨v', w', hr, h2, h3⟩ := run_app_growK (cap := cap) o.type h hl hc
  unfold Oper.wp execOp
  simp only [ho, resolve, invoke, builtin, Sem.run_bind, Sem.run_pure, Result.andThen_ok, List.map_toArray, List.map_cons, List.map_nil, hs, hx, hr]
  exact hK v' w' h2 h3
namespace W
open M
attribute [local go_sem] bs_size bs_toList bs_get bs_extract bs_append bs_lit0 bs_lit1 lit1_bs
set_option maxHeartbeats 1000000
set_option maxRecDepth 20000
theorem slimited_no (vl : Value) (l : List Dk) (w : World) (hl : RdK w vl l) :
    Calls Tryz.prog 68 #[vl, .int .i64 (-1)] w (fun e w' => e = .returned (.tuple #[vl, .int .i64 0]) ∧ w = w') := by
  obtain ⟨A, cap, rfl⟩ := hl.len
  clear hl
  go_enter Tryz.func68, Tryz.ntmps68
  go_wp2
  go_ret2
  exact ⟨rfl, rfl⟩
theorem szones_no (vt vc : Value) (ts : List Tg) (cs : List Cc) (w : World) (hg : Glob w) (hs : Sig w) (ht : RdG w vt ts) (hc : RdC w vc cs) (h : chk46 ts cs = 0) :
    Calls Tryz.prog 31 #[tkV vt vc (-1)] w (fun e w' => ∃ v, e = .returned (.tuple #[v, .int .i64 0]) ∧ RdK w' v ((ts.zip cs).map dkP) ∧ Below w.heap.size w w') := by
  have HC := Lib.hid (fun W (hW : Below w.heap.size w W) => scheck vt vc ts cs (-1) W (ht.below hW) (hc.below hW) h (by decide) (by decide))
  have HT := Lib.hid (fun W (hW : Below w.heap.size w W) => stargets vt vc ts cs (-1) W (hg.of hW) (hs.below hW) (ht.below hW) (hc.below hW) h)
  generalize (ts.zip cs).map dkP = dl at *
  have HL := Lib.hid (fun v W (hv : RdK W v dl) => slimited_no v dl W hv)
  obtain ⟨At, ct, rfl⟩ := ht.len
  obtain ⟨Ac, cc, rfl⟩ := hc.len
  have HR := Lib.hid (And.intro (rnw (w := w) (t := 40) (xs := [.slice At ts.length ct, .slice Ac cs.length cc, .int .i64 (-1)])) (bel_al w (.cells #[.slice At ts.length ct, .slice Ac cs.length cc, .int .i64 (-1)] 40 (0, 0))))
  have x0 := HR.out.1.cell (i := 0) rfl
  have x1 := HR.out.1.cell (i := 1) rfl
  have x2 := HR.out.1.cell (i := 2) rfl
  clear hg hs ht hc h
  unfold tkV at *
  go_enter Tryz.func31, Tryz.ntmps31
  go_wp2_with fail
  refine (HC.out _ HR.out.2).mono ?_
  rintro e w1 ⟨rfl, hb1⟩
  have H1 := Lib.hid (And.intro (HR.out.1.below' hb1) (bel_to HR.out.2 hb1))
  clear hb1 HR HC x0 x1 x2
  have x0 := H1.out.1.cell (i := 0) rfl
  have x1 := H1.out.1.cell (i := 1) rfl
  have x2 := H1.out.1.cell (i := 2) rfl
  go_wp2_with fail
  refine (HT.out _ H1.out.2).mono ?_
  rintro e w2 ⟨v, rfl, hv, hb2⟩
  obtain ⟨VA, vn, vc, hvs⟩ := hv.shape
  subst hvs
  have H2 := Lib.hid (And.intro (H1.out.1.below' hb2) (And.intro hv.rd (bel_to H1.out.2 hb2)))
  clear hb2 hv H1 HT x0 x1 x2
  have x2 := H2.out.1.cell (i := 2) rfl
  go_wp2_with fail
  refine (HL.out _ _ H2.out.2.1).mono ?_
  rintro e w3 ⟨rfl, rfl⟩
  go_wp2
  go_ret2
  exact ⟨_, rfl, H2.out.2.1, H2.out.2.2⟩
theorem sfeasible (vt vc : Value) (ts : List Tg) (cs : List Cc) (w : World) (hg : Glob w) (hs : Sig w) (ht : RdG w vt ts) (hc : RdC w vc cs) (h : chk46 ts cs = 0) :
    Calls Tryz.prog 10 #[tkV vt vc (-1)] w (Ret w (.tuple #[.bool (firstD ((ts.zip cs).map dkP)).isSome, wnV ((firstD ((ts.zip cs).map dkP)).getD ⟨0, 0, 0⟩), .int .i64 0])) := by
  obtain ⟨h1, h16, hlen, hrt⟩ := chk46_iff.1 h
  have hll : ((ts.zip cs).map dkP).length = ts.length := by rw [List.length_map, List.length_zip]; omega
  have HZ := Lib.hid (fun W (hW : Below w.heap.size w W) => szones_no vt vc ts cs W (hg.of hW) (hs.below hW) (ht.below hW) (hc.below hW) h)
  have HC := Lib.hid (fun v W (hW : Below w.heap.size w W) (hv : RdK W v ((ts.zip cs).map dkP)) => kcommon v _ W (hg.of hW) hv (by omega) (by omega) (fun d hd => by obtain ⟨p, hp, rfl⟩ := List.mem_map.1 hd; exact dkP_sm (hrt p hp)))
  generalize (ts.zip cs).map dkP = dl at *
  generalize firstD dl = fd at *
  obtain ⟨ok, hok⟩ : ∃ ok, ok = fd.isSome := ⟨_, rfl⟩
  obtain ⟨x, hx⟩ : ∃ x, x = fd.getD ⟨0, 0, 0⟩ := ⟨_, rfl⟩
  rw [← hok, ← hx] at HC ⊢
  obtain ⟨At, ct, rfl⟩ := ht.len
  obtain ⟨Ac, cc, rfl⟩ := hc.len
  have hb0 := bel_al2 w (.cells #[.slice At ts.length ct, .slice Ac cs.length cc, .int .i64 (-1)] 40 (0, 0)) (.cells #[.int .i64 0, .int .i64 0, .int .i64 0] 42 (0, 0))
  have hr1 : Row ((w.alloc (.cells #[.slice At ts.length ct, .slice Ac cs.length cc, .int .i64 (-1)] 40 (0, 0))).alloc (.cells #[.int .i64 0, .int .i64 0, .int .i64 0] 42 (0, 0))) w.heap.size 40 [.slice At ts.length ct, .slice Ac cs.length cc, .int .i64 (-1)] := rnw.alloc _
  have hr2 : Row ((w.alloc (.cells #[.slice At ts.length ct, .slice Ac cs.length cc, .int .i64 (-1)] 40 (0, 0))).alloc (.cells #[.int .i64 0, .int .i64 0, .int .i64 0] 42 (0, 0))) (w.heap.size + 1) 42 [.int .i64 0, .int .i64 0, .int .i64 0] := rnew0 (World.size_alloc _ _).symm
  have HR := Lib.hid (And.intro hr2 hb0)
  have x0 := hr1.cell (i := 0) rfl
  have x1 := hr1.cell (i := 1) rfl
  have x2 := hr1.cell (i := 2) rfl
  clear hr1 hr2 hb0 hg hs ht hc h h1 h16 hlen hrt hll hok hx
  unfold tkV at *
  go_enter Tryz.func10, Tryz.ntmps10
  go_wp2_with fail
  refine (HZ.out _ HR.out.2).mono ?_
  rintro e w1 ⟨v, rfl, hv, hb1⟩
  obtain ⟨VA, vcp, hvs⟩ := hv.len
  subst hvs
  have H1 := Lib.hid (And.intro (HR.out.1.below' hb1) (And.intro hv (bel_to HR.out.2 hb1)))
  clear hb1 hv HR HZ x0 x1 x2
  go_wp2_with fail
  refine (HC.out _ _ H1.out.2.2 H1.out.2.1).mono ?_
  rintro e w2 ⟨rfl, hb2⟩
  have H2 := Lib.hid (And.intro (H1.out.1.below' hb2) (bel_to H1.out.2.2 hb2))
  clear hb2 H1 HC
  obtain ⟨⟨f0, m0⟩, ⟨f1, m1⟩, ⟨f2, m2⟩, hrow⟩ := three_store (.int .i64 (x.i : Int)) (.int .i64 (x.j : Int)) (.int .i64 x.side) H2.out.1
  have HQ := Lib.hid (And.intro hrow (three_below (.int .i64 (x.i : Int)) (.int .i64 (x.j : Int)) (.int .i64 x.side) H2.out.2 (A := w.heap.size + 1) (by omega)))
  clear hrow H2
  go_wp2
  have q0 := HQ.out.1.cell (i := 0) rfl
  have q1 := HQ.out.1.cell (i := 1) rfl
  have q2 := HQ.out.1.cell (i := 2) rfl
  refine bodyPost_ret (v := .tuple #[.bool ok, .agg #[.int .i64 (x.i : Int), .int .i64 (x.j : Int), .int .i64 x.side], .int .i64 0]) (by simp [results, Tryz.results10, go_sem, q0, q1, q2]) rfl ⟨rfl, HQ.out.2⟩
end W
end Go.Proofs.YtellemlhhlafcaaGreatDoor
end
section
namespace Go.Proofs.YtellemlhhlafcaaGreatDoor
open Go Go.RowKit Go.Deep Go.Sort
namespace M
theorem sign_le0 {q : Rat} : Int.sign q.num ≤ 0 ↔ q ≤ 0 := by
  rcases sgQ_cases q with ⟨h, e⟩ | ⟨h, e⟩ | ⟨h, e⟩
  · rw [e]; exact ⟨fun _ => Rat.le_of_lt h, fun _ => by decide⟩
  · rw [e, h]; exact ⟨fun _ => Rat.le_refl, fun _ => by decide⟩
  · rw [e]; exact ⟨fun h2 => absurd h2 (by decide), fun h2 => absurd h (Rat.not_lt.2 h2)⟩
end M
structure DkR (w W : World) (d1 d2 d3 f1 f2 : List UInt8) : Prop where
  rd : Row W w.heap.size 127 [.string (bs d1), .string (bs d2), .string (bs d3)]
  rp : Row W (w.heap.size + 1) 88 [.string (bs f1), .string (bs f2)]
  bel : Below w.heap.size w W
theorem DkR.to {w W W' : World} {d1 d2 d3 f1 f2 : List UInt8} (h : DkR w W d1 d2 d3 f1 f2) (hb : Below W.heap.size W W') : DkR w W' d1 d2 d3 f1 f2 :=
  ⟨h.rd.below' hb, h.rp.below' hb, bel_to h.bel hb⟩
namespace W
open M
attribute [local go_sem] bs_size bs_toList bs_get bs_extract bs_append bs_lit0 bs_lit1 lit1_bs
set_option maxHeartbeats 1000000
set_option maxRecDepth 20000
theorem kinside (d : Dk) (x y : Rat) (w : World) (hg : Glob w) (hd : SmD d) (hx : Bq 8 x) (hy : Bq 8 y) :
    Calls Tryz.prog 57 #[dkV d, plV (R x) (R y)] w (Ret w (.tuple #[.bool (decide (powD d x y ≤ 0)), .int .i64 0])) := by
  obtain ⟨q1, q2, q3, q4⟩ := hd.bq
  have HC := Lib.hid (fun W (hW : Below w.heap.size w W) => kcheck d W (hg.of hW) hd)
  have l1 := hx.R_len (by decide)
  have l2 := hy.R_len (by decide)
  have h1 := fun W (hW : Below w.heap.size w W) => vcheckR (R x) W (hg.of hW) (by omega)
  have h2 := fun W (hW : Below w.heap.size w W) => vcheckR (R y) W (hg.of hW) (by omega)
  rw [hx.chk (by decide)] at h1
  rw [hy.chk (by decide)] at h2
  have HX := Lib.hid h1
  have HY := Lib.hid h2
  have b1 := q1.sub hx
  have b2 := q2.sub hy
  have bf : Bq 61 ((d.x - x) * (d.x - x) + (d.y - y) * (d.y - y)) := (b1.mul b1).add (b2.mul b2)
  have HF := Lib.hid (fun b W (hW : Below w.heap.size w W) (hs : NoErrD W b) => kfar b d.x d.y x y 6 8 W (hg.of hW) hs q1 q2 hx hy (by decide))
  have HO := Lib.hid (fun b W (hW : Below w.heap.size w W) (hs : NoErrD W b) => korder b ((d.x - x) * (d.x - x) + (d.y - y) * (d.y - y)) d.s 61 11 W (hg.of hW) hs bf q3 (by decide))
  have hres : decide (powD d x y ≤ 0) = decide (Int.sign ((d.x - x) * (d.x - x) + (d.y - y) * (d.y - y) - d.s).num ≤ 0) := by
    refine decide_eq_decide.2 ?_
    rw [sign_le0]
    unfold powD
    constructor <;> intro h <;> grind
  rw [hres]
  clear hres bf b1 b2 h1 h2 l1 l2 q1 q2 q3 q4 hd hx hy
  generalize Int.sign ((d.x - x) * (d.x - x) + (d.y - y) * (d.y - y) - d.s).num = sg at *
  generalize R ((d.x - x) * (d.x - x) + (d.y - y) * (d.y - y)) = sf at *
  unfold dkV plV at *
  generalize R d.x = s1 at *
  generalize R d.y = s2 at *
  generalize R d.s = s3 at *
  generalize R x = t1 at *
  generalize R y = t2 at *
  obtain ⟨bo, hbo⟩ : ∃ bo, bo = decide (sg ≤ 0) := ⟨_, rfl⟩
  have hdd : decide (sg ≤ 0) = bo := hbo.symm
  rw [hdd]
  have HR : Hid (DkR w ((w.alloc (.cells #[.string (bs s1), .string (bs s2), .string (bs s3)] 127 (0, 0))).alloc (.cells #[.string (bs t1), .string (bs t2)] 88 (0, 0))) s1 s2 s3 t1 t2) := Lib.hid ⟨rnw.alloc _, rnew0 (World.size_alloc _ _).symm, bel_al2 _ _ _⟩
  have x0 := HR.out.rd.cell (i := 0) rfl
  have x1 := HR.out.rd.cell (i := 1) rfl
  have x2 := HR.out.rd.cell (i := 2) rfl
  have HG := Lib.hid hg
  clear hg hbo
  go_enter Tryz.func57, Tryz.ntmps57
  go_wp2_with fail
  refine (HC.out _ HR.out.bel).mono ?_
  rintro e w1 ⟨rfl, hb1⟩
  have H1 := Lib.hid (HR.out.to hb1)
  clear hb1 HR HC x0 x1 x2
  have y0 := H1.out.rp.cell (i := 0) rfl
  have y1 := H1.out.rp.cell (i := 1) rfl
  have hal := bel_al w1 (.cells #[.string (bs t1), .string (bs t2)] 86 (0, 0))
  have hrl : Row (w1.alloc (.cells #[.string (bs t1), .string (bs t2)] 86 (0, 0))) w1.heap.size 86 [.string (bs t1), .string (bs t2)] := rnw
  have H2 := Lib.hid (And.intro (H1.out.to hal) hrl)
  have r0 := hrl.cell (i := 0) rfl
  clear hal hrl
  go_wp2
  refine wp_loop_rounds 3 ?_
  rw [rounds_succ]
  generalize w1.heap.size = g1 at *
  go_wp2_with fail
  refine (HX.out _ H2.out.1.bel).mono ?_
  rintro e w3 ⟨rfl, hb3⟩
  have H3 := Lib.hid (And.intro (H2.out.1.to hb3) (H2.out.2.below' hb3))
  have r1 := H3.out.2.cell (i := 1) rfl
  clear hb3 H2 H1 HX r0 y0 y1
  go_wp2
  rw [rounds_succ]
  go_wp2_with fail
  refine (HY.out _ H3.out.1.bel).mono ?_
  rintro e w4 ⟨rfl, hb4⟩
  have H4 := Lib.hid (H3.out.1.to hb4)
  clear hb4 H3 HY r1
  go_wp2
  rw [rounds_succ]
  go_wp2_with fail
  have hal := bel_al w4 (.cells #[.int .i64 0] 153 (0, 0))
  have hns : NoErrD (w4.alloc (.cells #[.int .i64 0] 153 (0, 0))) w4.heap.size := rnw
  have H5 := Lib.hid (And.intro (H4.out.to hal) hns)
  clear hal hns H4
  generalize w4.alloc (.cells #[.int .i64 0] 153 (0, 0)) = V at *
  generalize w4.heap.size = sb at *
  have m0 := cell_regrown (H5.out.1.rd.cell (i := 0) rfl)
  have m1 := cell_regrown (H5.out.1.rd.cell (i := 1) rfl)
  have m2 := cell_regrown (H5.out.1.rd.cell (i := 2) rfl)
  have m3 := cell_regrown (H5.out.1.rp.cell (i := 0) rfl)
  have m4 := cell_regrown (H5.out.1.rp.cell (i := 1) rfl)
  have k1 := reg_of (w := V) (fun E hE => HF.out sb E (bel_to H5.out.1.bel hE) (H5.out.2.below' hE))
  have k2 := reg_of (w := V) (fun E hE => HO.out sb E (bel_to H5.out.1.bel hE) (H5.out.2.below' hE))
  have e1 : ∀ args w, (callFunc 100 args).run Tryz.prog w = .ok (.enter 100 args) w := enters_of Tryz.func100 (by kernel_rfl) rfl
  have e2 : ∀ args w, (callFunc 99 args).run Tryz.prog w = .ok (.enter 99 args) w := enters_of Tryz.func99 (by kernel_rfl) rfl
  refine wp_region_quiet_below (by kernel_rfl) (by kernel_rfl) ?_
  repeat (go_big_quiet_step (fail))
  go_big_quiet_step (exact k1 _ _)
  repeat (go_big_quiet_step (fail))
  go_big_quiet_step (exact k2 _ _)
  repeat (go_big_quiet_step (fail))
  refine wpQuiet_nil ?_
  intro W6 hw'
  have hb6 : Below V.heap.size V W6 := by obtain ⟨p, e⟩ := hw'; rw [e]; exact below_regrown V p.d p.os
  clear hw'
  have H6 := Lib.hid (And.intro (bel_to H5.out.1.bel hb6) (H5.out.2.below' hb6))
  clear hb6 k1 k2 m0 m1 m2 m3 m4 e1 e2 H5 HF HO
  have er := H6.out.2.cell
  cases bo with
  | true =>
    go_wp2_with fail
    go_region
    go_wp2
    go_ret2
    exact Ret.of rfl (RowKit.Below.drew H6.out.1)
  | false =>
    go_wp2_with fail
    go_region
    go_wp2
    go_ret2
    exact Ret.of rfl (RowKit.Below.drew H6.out.1)
end W
end Go.Proofs.YtellemlhhlafcaaGreatDoor
end
section
namespace Go.Proofs.YtellemlhhlafcaaGreatDoor
open Go Go.RowKit Go.Deep Go.Sort
namespace W
open M
attribute [local go_sem] bs_size bs_toList bs_get bs_extract bs_append bs_lit0 bs_lit1 lit1_bs
set_option maxHeartbeats 1000000
set_option maxRecDepth 20000
theorem zero4 : (0 : Rat) / 4 = 0 := by grind
theorem dz_sm : SmD (⟨0, 0, 0⟩ : Dk) := ⟨⟨0, 0, 0, by simp [zero4], by decide, by decide, by decide, by decide⟩⟩
theorem slimited (g cap : Nat) (l : List Dk) (w : World) (hg : Glob w) (hl : SlK w g 0 l) (hc : l.length ≤ cap) (h20 : l.length ≤ 20) :
    Calls Tryz.prog 68 #[.slice (some ⟨g, 0, none⟩) l.length cap, .int .i64 0] w (fun e w' => ∃ v, e = .returned (.tuple #[v, .int .i64 0]) ∧ RdK w' v (l ++ [⟨0, 0, 0⟩]) ∧ Below w.heap.size w w') := by
  have ha := fun W (hW : Below w.heap.size w W) => saround 0 0 0 W (hg.of hW) (by decide) (by decide) (by decide) (by decide)
  rw [show (⟨((0 : Int) : Rat), ((0 : Int) : Rat), ((0 * 0 : Int) : Rat) / 4⟩ : Dk) = ⟨0, 0, 0⟩ by simp [zero4]] at ha
  obtain ⟨dz, hdz⟩ : ∃ dz, dz = (⟨0, 0, 0⟩ : Dk) := ⟨_, rfl⟩
  rw [← hdz] at ha ⊢
  have HA := Lib.hid ha
  have HL := Lib.hid hl
  have HN := Lib.hid (And.intro hc h20)
  have c1 : (0 : Int) ≤ (l.length : Int) := by omega
  have c2 : (l.length : Int) ≤ (cap : Int) := by omega
  clear ha hl hg hdz hc h20
  unfold dkV at HA
  go_enter Tryz.func68, Tryz.ntmps68
  go_wp2_with fail
  refine (HA.out _ (Below.refl _ _)).mono ?_
  rintro e w1 ⟨rfl, hb1⟩
  have hal := bel_to hb1 (bel_al w1 (.cells #[.string (bs (R dz.x)), .string (bs (R dz.y)), .string (bs (R dz.s))] 127 (0, 0)))
  have hr : Row (w1.alloc (.cells #[.string (bs (R dz.x)), .string (bs (R dz.y)), .string (bs (R dz.s))] 127 (0, 0))) w1.heap.size 127 [.string (bs (R dz.x)), .string (bs (R dz.y)), .string (bs (R dz.s))] := rnw
  have H1 := Lib.hid (And.intro hal hr)
  clear hb1 hal hr HA
  go_wp2_with fail
  generalize w1.alloc (.cells #[.string (bs (R dz.x)), .string (bs (R dz.y)), .string (bs (R dz.s))] 127 (0, 0)) = V at *
  generalize w1.heap.size = g1 at *
  have hbd := RowKit.Below.drew (Below.refl V.heap.size V)
  have k0 := (H1.out.2.below' hbd).cell (i := 0) rfl
  have k1 := (H1.out.2.below' hbd).cell (i := 1) rfl
  have k2 := (H1.out.2.below' hbd).cell (i := 2) rfl
  have x0 := H1.out.2.cell (i := 0) rfl
  have x1 := H1.out.2.cell (i := 1) rfl
  have x2 := H1.out.2.cell (i := 2) rfl
  have hb2 := bel_to hbd (bel_al V.drew (.cells #[.string (bs (R dz.x)), .string (bs (R dz.y)), .string (bs (R dz.s))] 127 (0, 0)))
  have HS := Lib.hid (HL.out.below' (bel_to H1.out.1 hb2))
  have HSRC := Lib.hid (fun j u hu => srcK_one V.drew dz j u hu V.heap.size rfl)
  have HB := Lib.hid (bel_to H1.out.1 hb2)
  clear hb2
  go_region_law (first
    | (refine step_app_growK (d := dz) (l := l) rfl (.tmp 24) (.tmp 26) rfl rfl rfl rfl rfl HS.out (by have := HN.out; omega) HSRC.out ?_; intro v' w5 hr5 hb5; obtain ⟨VA, vcp, hvs⟩ := hr5.len; subst hvs; have H5 := Lib.hid (And.intro hr5 (bel_to HB.out hb5)); clear hr5 hb5))
  all_goals
    go_wp2
    go_ret2
    exact ⟨_, rfl, (by have h := H5.out.1; rw [List.length_append] at h; exact h), H5.out.2⟩
theorem szones_zero (vt vc : Value) (ts : List Tg) (cs : List Cc) (w : World) (hg : Glob w) (hs : Sig w) (ht : RdG w vt ts) (hc : RdC w vc cs) (h : chk46 ts cs = 0) :
    Calls Tryz.prog 31 #[tkV vt vc 0] w (fun e w' => ∃ v, e = .returned (.tuple #[v, .int .i64 0]) ∧ RdK w' v ((ts.zip cs).map dkP ++ [⟨0, 0, 0⟩]) ∧ Below w.heap.size w w') := by
  obtain ⟨h1, h16, hlen, hrt⟩ := chk46_iff.1 h
  have hll : ((ts.zip cs).map dkP).length = ts.length := by rw [List.length_map, List.length_zip]; omega
  have HC := Lib.hid (fun W (hW : Below w.heap.size w W) => scheck vt vc ts cs 0 W (ht.below hW) (hc.below hW) h (by decide) (by decide))
  have HT := Lib.hid (fun W (hW : Below w.heap.size w W) => stargets vt vc ts cs 0 W (hg.of hW) (hs.below hW) (ht.below hW) (hc.below hW) h)
  generalize (ts.zip cs).map dkP = dl at *
  have HL := Lib.hid (fun g cap W (hW : Below w.heap.size w W) (hv : SlK W g 0 dl) (hcp : dl.length ≤ cap) => slimited g cap dl W (hg.of hW) hv hcp (by omega))
  have HP : Hid (0 < dl.length) := Lib.hid (by omega)
  obtain ⟨At, ct, rfl⟩ := ht.len
  obtain ⟨Ac, cc, rfl⟩ := hc.len
  have HR := Lib.hid (And.intro (rnw (w := w) (t := 40) (xs := [.slice At ts.length ct, .slice Ac cs.length cc, .int .i64 0])) (bel_al w (.cells #[.slice At ts.length ct, .slice Ac cs.length cc, .int .i64 0] 40 (0, 0))))
  have x0 := HR.out.1.cell (i := 0) rfl
  have x1 := HR.out.1.cell (i := 1) rfl
  have x2 := HR.out.1.cell (i := 2) rfl
  clear hg hs ht hc h h1 h16 hlen hrt hll
  unfold tkV at *
  go_enter Tryz.func31, Tryz.ntmps31
  go_wp2_with fail
  refine (HC.out _ HR.out.2).mono ?_
  rintro e w1 ⟨rfl, hb1⟩
  have H1 := Lib.hid (And.intro (HR.out.1.below' hb1) (bel_to HR.out.2 hb1))
  clear hb1 HR HC x0 x1 x2
  have x0 := H1.out.1.cell (i := 0) rfl
  have x1 := H1.out.1.cell (i := 1) rfl
  have x2 := H1.out.1.cell (i := 2) rfl
  go_wp2_with fail
  refine (HT.out _ H1.out.2).mono ?_
  rintro e w2 ⟨v, rfl, hv, hb2⟩
  obtain ⟨g, cap, hvs, hcp⟩ : ∃ g cap, v = .slice (some ⟨g, 0, none⟩) dl.length cap ∧ dl.length ≤ cap := by
    rcases hv.2 with ⟨_, h2⟩ | ⟨g, cap, cur, h2, _, _, h3, _⟩
    · have := HP.out; omega
    · exact ⟨g, cap, h2, h3⟩
  subst hvs
  have hsl : SlK w2 g 0 dl := by
    obtain ⟨b, o, e1, h2⟩ := RdK.row (n := dl.length) hv.rd 0 HP.out
    injection e1 with e1
    injection e1 with e1 e2 e3
    subst e1 e2
    exact h2
  have H2 := Lib.hid (And.intro (H1.out.1.below' hb2) (And.intro hsl (And.intro hcp (bel_to H1.out.2 hb2))))
  clear hb2 hv hsl hcp H1 HT x0 x1 x2
  have x2 := H2.out.1.cell (i := 2) rfl
  go_wp2_with fail
  refine (HL.out _ _ _ H2.out.2.2.2 H2.out.2.1 H2.out.2.2.1).mono ?_
  rintro e w3 ⟨v, rfl, hv, hb3⟩
  obtain ⟨VA, vcp, hvs⟩ := hv.len
  subst hvs
  have H3 := Lib.hid (And.intro hv (bel_to H2.out.2.2.2 hb3))
  clear hv hb3 H2 HL x2
  go_wp2
  go_ret2
  exact ⟨_, rfl, (by have h := H3.out.1; rw [List.length_append] at h; exact h), H3.out.2⟩
theorem sdoes (vt vc : Value) (ts : List Tg) (cs : List Cc) (p : Int) (zs : List Dk) (x y : Rat) (w : World) (hg : Glob w) (ht : RdG w vt ts) (hc : RdC w vc cs)
    (HZ0 : ∀ W, Below w.heap.size w W → Calls Tryz.prog 31 #[tkV vt vc p] W (fun e w' => ∃ v, e = .returned (.tuple #[v, .int .i64 0]) ∧ RdK w' v zs ∧ Below W.heap.size W w'))
    (hS : ∀ d ∈ zs, SmD d) (hn : zs.length ≤ 64) (hx : Bq 8 x) (hy : Bq 8 y) (hall : ∀ d ∈ zs, powD d x y ≤ 0) :
    Calls Tryz.prog 27 #[tkV vt vc p, plV (R x) (R y)] w (Ret w (.tuple #[.bool true, .int .i64 0])) := by
  have HZ := Lib.hid HZ0
  have l1 := hx.R_len (by decide)
  have l2 := hy.R_len (by decide)
  have h1 := fun W (hW : Below w.heap.size w W) => vcheckR (R x) W (hg.of hW) (by omega)
  have h2 := fun W (hW : Below w.heap.size w W) => vcheckR (R y) W (hg.of hW) (by omega)
  rw [hx.chk (by decide)] at h1
  rw [hy.chk (by decide)] at h2
  have HX := Lib.hid h1
  have HY := Lib.hid h2
  have HI := Lib.hid (fun i (hi : i < zs.length) W (hW : Below w.heap.size w W) => show Calls Tryz.prog 57 #[dkV zs[i], plV (R x) (R y)] W (Ret W (.tuple #[.bool true, .int .i64 0])) from by
    have := kinside zs[i] x y W (hg.of hW) (hS _ (List.getElem_mem hi)) hx hy
    rwa [decide_eq_true (hall _ (List.getElem_mem hi))] at this)
  obtain ⟨At, ct, rfl⟩ := ht.len
  obtain ⟨Ac, cc, rfl⟩ := hc.len
  clear HZ0 l1 l2 h1 h2 hx hy hall hS hg ht hc
  unfold tkV plV at *
  generalize R x = t1 at *
  generalize R y = t2 at *
  have hb0 := bel_al2 w (.cells #[.slice At ts.length ct, .slice Ac cs.length cc, .int .i64 p] 40 (0, 0)) (.cells #[.string (bs t1), .string (bs t2)] 88 (0, 0))
  have hr1 : Row ((w.alloc (.cells #[.slice At ts.length ct, .slice Ac cs.length cc, .int .i64 p] 40 (0, 0))).alloc (.cells #[.string (bs t1), .string (bs t2)] 88 (0, 0))) w.heap.size 40 [.slice At ts.length ct, .slice Ac cs.length cc, .int .i64 p] := rnw.alloc _
  have hr2 : Row ((w.alloc (.cells #[.slice At ts.length ct, .slice Ac cs.length cc, .int .i64 p] 40 (0, 0))).alloc (.cells #[.string (bs t1), .string (bs t2)] 88 (0, 0))) (w.heap.size + 1) 88 [.string (bs t1), .string (bs t2)] := rnew0 (World.size_alloc _ _).symm
  have HR := Lib.hid (And.intro hr2 hb0)
  have x0 := hr1.cell (i := 0) rfl
  have x1 := hr1.cell (i := 1) rfl
  have x2 := hr1.cell (i := 2) rfl
  clear hr1 hr2 hb0
  go_enter Tryz.func27, Tryz.ntmps27
  go_wp2_with fail
  refine (HZ.out _ HR.out.2).mono ?_
  rintro e w1 ⟨v, rfl, hv, hb1⟩
  obtain ⟨VA, vcp, hvs⟩ := hv.len
  subst hvs
  have H1 := Lib.hid (And.intro (HR.out.1.below' hb1) (And.intro hv (bel_to HR.out.2 hb1)))
  clear hb1 hv HR HZ x0 x1 x2
  have y0 := H1.out.1.cell (i := 0) rfl
  have y1 := H1.out.1.cell (i := 1) rfl
  have hal := bel_al w1 (.cells #[.string (bs t1), .string (bs t2)] 86 (0, 0))
  have hrl : Row (w1.alloc (.cells #[.string (bs t1), .string (bs t2)] 86 (0, 0))) w1.heap.size 86 [.string (bs t1), .string (bs t2)] := rnw
  have H2 := Lib.hid (And.intro (H1.out.1.below' hal) (And.intro (H1.out.2.1.below hal) (And.intro (bel_to H1.out.2.2 hal) hrl)))
  have r0 := hrl.cell (i := 0) rfl
  clear hal hrl
  go_wp2
  refine wp_loop_rounds 3 ?_
  rw [rounds_succ]
  generalize w1.heap.size = g1 at *
  go_wp2_with fail
  refine (HX.out _ H2.out.2.2.1).mono ?_
  rintro e w3 ⟨rfl, hb3⟩
  have H3 := Lib.hid (And.intro (H2.out.1.below' hb3) (And.intro (H2.out.2.1.below hb3) (And.intro (bel_to H2.out.2.2.1 hb3) (H2.out.2.2.2.below' hb3))))
  have r1 := H3.out.2.2.2.cell (i := 1) rfl
  clear hb3 H2 H1 HX r0 y0 y1
  go_wp2
  rw [rounds_succ]
  go_wp2_with fail
  refine (HY.out _ H3.out.2.2.1).mono ?_
  rintro e w4 ⟨rfl, hb4⟩
  have H4 := Lib.hid (And.intro (H3.out.1.below' hb4) (And.intro (H3.out.2.1.below hb4) (bel_to H3.out.2.2.1 hb4)))
  clear hb4 H3 HY r1
  go_wp2
  rw [rounds_succ]
  go_wp2
  go_loopw [41] (fun iv wr => ∃ i : Nat, iv = .int .i64 (i : Int) ∧ i ≤ zs.length ∧ Hid (Row wr (w.heap.size + 1) 88 [.string (bs t1), .string (bs t2)] ∧ RdK wr (.slice VA zs.length vcp) zs ∧ Below w.heap.size w wr)) (fun iv _ => zs.length - (intOf iv).toNat)
  case atStart => exact ⟨0, rfl, by omega, H4⟩
  case round =>
    clear H4
    obtain ⟨i, rfl, hi, hk⟩ := hrel
    by_cases hlt : i < zs.length
    · obtain ⟨b, o, rfl, hsl⟩ := RdK.row (n := zs.length) hk.out.2.1 i hlt
      obtain ⟨v0, v1, v2⟩ := hsl.val i hlt
      have HX := Lib.hid (HI.out i hlt)
      clear hsl
      unfold dkV at HX
      generalize R (zs[i]).x = s1 at *
      generalize R (zs[i]).y = s2 at *
      generalize R (zs[i]).s = s3 at *
      have hal := bel_al wr (.cells #[.string (bs s1), .string (bs s2), .string (bs s3)] 127 (0, 0))
      have hr : Row (wr.alloc (.cells #[.string (bs s1), .string (bs s2), .string (bs s3)] 127 (0, 0))) wr.heap.size 127 [.string (bs s1), .string (bs s2), .string (bs s3)] := rnw
      have x0 := hr.cell (i := 0) rfl
      have x1 := hr.cell (i := 1) rfl
      have x2 := hr.cell (i := 2) rfl
      have HB := Lib.hid (And.intro (hk.out.1.below' hal) (And.intro (hk.out.2.1.below hal) (bel_to hk.out.2.2 hal)))
      have y0 := HB.out.1.cell (i := 0) rfl
      have y1 := HB.out.1.cell (i := 1) rfl
      clear hr hal hk
      go_wp2_with fail
      refine (HX.out _ HB.out.2.2).mono ?_
      rintro e w1 ⟨rfl, hb1⟩
      have HN := Lib.hid (And.intro (HB.out.1.below' hb1) (And.intro (HB.out.2.1.below hb1) (bel_to HB.out.2.2 hb1)))
      clear hb1 HB HX x0 x1 x2 y0 y1 v0 v1 v2
      go_wp2
      go_roundw
      case rel => exact ⟨i + 1, by go_num, by omega, HN⟩
      case measure => simp [intOf]; omega
    · obtain rfl : zs.length = i := by omega
      go_wp2
      go_ret2
      exact Ret.of rfl hk.out.2.2
end W
end Go.Proofs.YtellemlhhlafcaaGreatDoor
end
