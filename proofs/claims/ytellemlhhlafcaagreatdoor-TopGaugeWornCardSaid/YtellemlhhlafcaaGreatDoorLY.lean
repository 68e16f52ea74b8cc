/-
  Chapter 45 of the program: 'Check', 'around', 'targets', 'Zones', 'Feasible' at right plates.
  Chapter 45 of the program: 'limited', 'Zones', 'Feasible', and a place in all zones ('Does').
-/
import Derived.Test.YtellemlhhlafcaaGreatDoorLX
import Derived.Test.YtellemlhhlafcaaGreatDoorLS
import Derived.BigRegion
section
namespace Go.Proofs.YtellemlhhlafcaaGreatDoor
open Go Go.RowKit Go.Deep Go.Sort
namespace M
theorem dkP_sm {p : Tg × Cc} (h : RtH p) : SmD (dkP p) := by
  obtain ⟨ht, hc, h1, h2⟩ := h
  have hw := RtH.wide ⟨ht, hc, h1, h2⟩
  have q1 := ht.x
  have q2 := ht.y
  have q3 := hc.x
  have q4 := hc.y
  refine ⟨⟨p.1.x - p.2.x, p.1.y - p.2.y, wide p.1 p.2 * wide p.1 p.2, rfl, by omega, by omega, Int.mul_nonneg hw.1 hw.1, ?_⟩⟩
  have h3 : wide p.1 p.2 * wide p.1 p.2 ≤ 200000 * 200000 := Int.mul_le_mul hw.2 hw.2 hw.1 (by decide)
  have h4 : 0 ≤ wide p.1 p.2 * wide p.1 p.2 := Int.mul_nonneg hw.1 hw.1
  omega
end M
abbrev tkV (vt vc : Value) (p : Int) : Value := .agg #[vt, vc, .int .i64 p]
theorem OwnK.base {w : World} {B B' : Nat} {v : Value} {l : List M.Dk} (h : OwnK w B v l) (hB : B' ≤ B) : OwnK w B' v l := by
  refine ⟨h.1, ?_⟩
  rcases h.2 with h2 | ⟨g, cap, cur, h2, h3, h4⟩
  · exact Or.inl h2
  · exact Or.inr ⟨g, cap, cur, h2, Nat.le_trans hB h3, h4⟩
theorem row_grownK {w w' : World} {B g : Nat} {v : Value} {t : TypeId} {xs : List Value} {l : List M.Dk} (h : Row w g t xs) (ho : OwnK w B v l) (hg : w.grownBy w' v.ownBlock) (hlt : g < B) : Row w' g t xs := by
  have hne : some g ≠ v.ownBlock := fun e => by have := (World.ownsRow.lt ho g e.symm).1; omega
  exact (hg.block g (Row.lt h) hne).trans h
theorem srcK_one (V : World) (d : M.Dk) (j : Nat) (u : Value) (hu : (csK [d])[j]? = some u) (g : Nat) (hg : g = V.heap.size) : (V.alloc (.cells #[.string (bs (M.R d.x)), .string (bs (M.R d.y)), .string (bs (M.R d.s))] 127 (0, 0))).cell? ((⟨g, 0, none⟩ : Addr).add j) = some u := by
  subst hg
  have hr : Row (V.alloc (.cells #[.string (bs (M.R d.x)), .string (bs (M.R d.y)), .string (bs (M.R d.s))] 127 (0, 0))) V.heap.size 127 [.string (bs (M.R d.x)), .string (bs (M.R d.y)), .string (bs (M.R d.s))] := rnw
  have hadd : (⟨V.heap.size, 0, none⟩ : Addr).add j = ⟨V.heap.size, j, none⟩ := by unfold Addr.add; split <;> simp_all
  rw [hadd]
  exact hr.cell (by simpa [csK] using hu)
namespace W
open M
attribute [local go_sem] bs_size bs_toList bs_get bs_extract bs_append bs_lit0 bs_lit1 lit1_bs
set_option maxHeartbeats 1000000
set_option maxRecDepth 20000
theorem scheck (vt vc : Value) (ts : List Tg) (cs : List Cc) (p : Int) (w : World) (ht : RdG w vt ts) (hc : RdC w vc cs) (h : chk46 ts cs = 0) (p1 : -1 ≤ p) (p2 : p ≤ 100000) :
    Calls Tryz.prog 66 #[tkV vt vc p] w (Ret w (.int .i64 0)) := by
  obtain ⟨h1, h16, hlen, hrt⟩ := chk46_iff.1 h
  have hpl : chkPl ts cs = 0 := by
    unfold chk46 at h
    by_cases h2 : chkPl ts cs = 0
    · exact h2
    · rw [if_pos h2] at h; exact absurd h h2
  have hP := fun W (hW : Below w.heap.size w W) => bplate vt vc ts cs W (ht.below hW) (hc.below hW) (by unfold maxLen; omega) (by unfold maxLen; omega)
  rw [hpl] at hP
  have HP := Lib.hid hP
  have HH := Lib.hid (fun i (hi : i < ts.length) (hj : i < cs.length) => (hrt (ts[i], cs[i]) (by rw [show (ts[i], cs[i]) = (ts.zip cs)[i]'(by rw [List.length_zip]; omega) by simp]; exact List.getElem_mem _)).2.2)
  obtain ⟨At, ct, rfl⟩ := ht.len
  obtain ⟨Ac, cc, rfl⟩ := hc.len
  have hb0 := bel_al w (.cells #[.slice At ts.length ct, .slice Ac cs.length cc, .int .i64 p] 40 (0, 0))
  have HR := Lib.hid (And.intro (rnw (w := w) (t := 40) (xs := [.slice At ts.length ct, .slice Ac cs.length cc, .int .i64 p])) hb0)
  have HT := Lib.hid (And.intro ht hc)
  have z1 : ((ts.length : Int) == 0) = false := by rw [beq_eq_false_iff_ne]; omega
  have d1 : decide (p < -1) = false := decide_eq_false (by omega)
  have d2 : decide (100000 < p) = false := decide_eq_false (by omega)
  have HLN := Lib.hid hlen
  have b0 := HR.out.1.cell (i := 0) rfl
  have b1 := HR.out.1.cell (i := 1) rfl
  clear ht hc h hpl hP hrt hb0 hlen
  unfold tkV
  go_enter Tryz.func66, Tryz.ntmps66
  go_wp2_with fail
  refine (HP.out _ HR.out.2).mono ?_
  rintro e w1 ⟨rfl, hb1⟩
  have H1 := Lib.hid (And.intro (HR.out.1.below' hb1) (bel_to HR.out.2 hb1))
  have b0 := H1.out.1.cell (i := 0) rfl
  clear hb1 HR
  go_wp2
  go_loopw [22] (fun iv wr => ∃ i : Nat, iv = .int .i64 (i : Int) ∧ i ≤ ts.length ∧ Hid (Row wr w.heap.size 40 [.slice At ts.length ct, .slice Ac cs.length cc, .int .i64 p] ∧ Below w.heap.size w wr)) (fun iv _ => ts.length - (intOf iv).toNat)
  case atStart => exact ⟨0, rfl, by omega, H1⟩
  case round =>
    clear H1 b0
    obtain ⟨i, rfl, hi, hk⟩ := hrel
    by_cases hlt : i < ts.length
    · have hj : i < cs.length := by have := HLN.out; omega
      obtain ⟨bt, ot, rfl, hst⟩ := RdG.row (n := ts.length) (HT.out.1.below hk.out.2) i hlt
      obtain ⟨bc, oc, rfl, hsc⟩ := RdC.row (n := cs.length) (HT.out.2.below hk.out.2) i hj
      obtain ⟨t0, t1, t2, t3, t4, t5, t6⟩ := hst.val i hlt
      have hal := bel_al wr (tgO ts[i])
      obtain ⟨_, _, c2⟩ := (hsc.below' hal).val i hj
      obtain ⟨e1, e2⟩ := HH.out i hlt hj
      have hi0 : (0 : Int) ≤ (i : Int) := by omega
      have hi1 : (i : Int) < (ts.length : Int) := by omega
      have hi2 : (i : Int) < (cs.length : Int) := by have := HLN.out; omega
      have hr : Row (wr.alloc (tgO ts[i])) wr.heap.size 27 (tgC ts[i]) := rnw
      have b1 := (hk.out.1.below' hal).cell (i := 1) rfl
      unfold tgC at hr
      have r2 := hr.cell (i := 2) rfl
      have r3 := hr.cell (i := 3) rfl
      have HB := Lib.hid (And.intro (hk.out.1.below' hal) (bel_to hk.out.2 hal))
      unfold tgO at *
      clear hst hsc hal hr hk
      generalize ts[i].x = tx at *
      generalize ts[i].y = ty at *
      generalize ts[i].lo = tl at *
      generalize ts[i].hi = th at *
      generalize ts[i].tol = tt at *
      generalize ts[i].mat = tm at *
      generalize ts[i].pin = tp at *
      generalize cs[i].d = cd at *
      have d3 : decide (cd < tl) = false := decide_eq_false (by omega)
      have d4 : decide (th < cd) = false := decide_eq_false (by omega)
      go_wp2
      go_roundw
      case rel => exact ⟨i + 1, by go_num, by omega, HB⟩
      case measure => simp [intOf]; omega
    · obtain rfl : ts.length = i := by omega
      have b2 := hk.out.1.cell (i := 2) rfl
      go_wp2
      go_ret
      exact Ret.of rfl hk.out.2
theorem saround (x y n : Int) (w : World) (hg : Glob w) (h1 : x.natAbs < 10 ^ 6) (h2 : y.natAbs < 10 ^ 6) (h3 : 0 ≤ n) (h4 : n ≤ 300000) :
    Calls Tryz.prog 120 #[.int .i64 x, .int .i64 y, .int .i64 n] w (Ret w (.tuple #[dkV ⟨(x : Rat), (y : Rat), ((n * n : Int) : Rat) / 4⟩, .int .i64 0])) := by
  have hnn : n * n ≤ 300000 * 300000 := Int.mul_le_mul h4 h4 h3 (by decide)
  have hn0 : 0 ≤ n * n := Int.mul_nonneg h3 h3
  have hO := fun W (hW : Below w.heap.size w W) => ratOf (n * n) 4 W (hg.of hW) (by omega) (by decide) (by decide)
  rw [Rat.divInt_eq_div, show ((4 : Int) : Rat) = 4 from rfl] at hO
  have HO := Lib.hid hO
  have HX := Lib.hid (fun W (hW : Below w.heap.size w W) => ratWhole x W (hg.of hW) (by omega) (by omega))
  have HY := Lib.hid (fun W (hW : Below w.heap.size w W) => ratWhole y W (hg.of hW) (by omega) (by omega))
  have hw1 : wrap64 (n * n) = n * n := IntWalk.wrap64_in _ (by omega)
  obtain ⟨sx, hsx⟩ : ∃ s, s = R (x : Rat) := ⟨_, rfl⟩
  obtain ⟨sy, hsy⟩ : ∃ s, s = R (y : Rat) := ⟨_, rfl⟩
  obtain ⟨ss, hss⟩ : ∃ s, s = R (((n * n : Int) : Rat) / 4) := ⟨_, rfl⟩
  unfold dkV
  simp only
  rw [← hsx] at HX ⊢
  rw [← hsy] at HY ⊢
  rw [← hss] at HO ⊢
  have hb0 := bel_al w (.cells #[.string ⟨#[]⟩, .string ⟨#[]⟩, .string ⟨#[]⟩] 127 (0, 0))
  have HR := Lib.hid (And.intro (rnw (w := w) (t := 127) (xs := [.string ⟨#[]⟩, .string ⟨#[]⟩, .string ⟨#[]⟩])) hb0)
  clear hO hnn hn0 h1 h2 h3 h4 hsx hsy hss hg hb0
  go_enter Tryz.func120, Tryz.ntmps120
  go_wp2_with fail
  refine (HO.out _ HR.out.2).mono ?_
  rintro e w1 ⟨rfl, hb1⟩
  have H1 := Lib.hid (And.intro (HR.out.1.below' hb1) (bel_to HR.out.2 hb1))
  clear hb1 HR HO
  go_wp2_with fail
  refine (HX.out _ H1.out.2).mono ?_
  rintro e w2 ⟨rfl, hb2⟩
  have H2 := Lib.hid (And.intro (H1.out.1.below' hb2) (bel_to H1.out.2 hb2))
  clear hb2 H1 HX
  go_wp2_with fail
  refine (HY.out _ H2.out.2).mono ?_
  rintro e w3 ⟨rfl, hb3⟩
  have H3 := Lib.hid (And.intro (H2.out.1.below' hb3) (bel_to H2.out.2 hb3))
  clear hb3 H2 HY
  obtain ⟨⟨f0, m0⟩, ⟨f1, m1⟩, ⟨f2, m2⟩, hrow⟩ := three_store (.string (bs sx)) (.string (bs sy)) (.string (bs ss)) H3.out.1
  have HQ := Lib.hid (And.intro hrow (three_below (.string (bs sx)) (.string (bs sy)) (.string (bs ss)) H3.out.2 (A := w.heap.size) (Nat.le_refl _)))
  clear hrow H3
  go_wp2
  have q0 := HQ.out.1.cell (i := 0) rfl
  have q1 := HQ.out.1.cell (i := 1) rfl
  have q2 := HQ.out.1.cell (i := 2) rfl
  refine bodyPost_ret (v := .tuple #[.agg #[.string (bs sx), .string (bs sy), .string (bs ss)], .int .i64 0]) (by simp [results, Tryz.results120, go_sem, q0, q1, q2]) rfl ⟨rfl, HQ.out.2⟩
theorem stargets (vt vc : Value) (ts : List Tg) (cs : List Cc) (p : Int) (w : World) (hg : Glob w) (hs : Sig w) (ht : RdG w vt ts) (hc : RdC w vc cs) (h : chk46 ts cs = 0) :
    Calls Tryz.prog 67 #[tkV vt vc p] w (fun e w' => ∃ v, e = .returned (.tuple #[v, .int .i64 0]) ∧ OwnK w' w.heap.size v ((ts.zip cs).map dkP) ∧ Below w.heap.size w w') := by
  obtain ⟨h1, h16, hlen, hrt⟩ := chk46_iff.1 h
  have HH := Lib.hid (fun i (hi : i < ts.length) (hj : i < cs.length) => (hrt (ts[i], cs[i]) (by rw [show (ts[i], cs[i]) = (ts.zip cs)[i]'(by rw [List.length_zip]; omega) by simp]; exact List.getElem_mem _)))
  have HA := Lib.hid (fun i (hi : i < ts.length) (hj : i < cs.length) W (hW : Below w.heap.size w W) => show Calls Tryz.prog 30 #[tgV ts[i], .int .i64 cs[i].d] W (Ret W (.tuple #[.int .i64 (wide ts[i] cs[i]), .int .i64 0])) from by
    have hr := HH.out i hi hj
    have := ballowed ts[i] cs[i].d W (hs.below hW)
    obtain ⟨e1, _⟩ := bon_ok ((chkT_iff ts[i]).2 hr.1) (show wth ts[i] cs[i].d = true from by unfold wth; simp [hr.2.2.1, hr.2.2.2])
    rw [e1, if_pos rfl] at this
    exact this)
  have HD := Lib.hid (fun i (hi : i < ts.length) (hj : i < cs.length) W (hW : Below w.heap.size w W) => show Calls Tryz.prog 120 #[.int .i64 (ts[i].x - cs[i].x), .int .i64 (ts[i].y - cs[i].y), .int .i64 (wide ts[i] cs[i])] W (Ret W (.tuple #[dkV (dkP (ts[i], cs[i])), .int .i64 0])) from by
    have hr := HH.out i hi hj
    have hw : 0 ≤ wide ts[i] cs[i] ∧ wide ts[i] cs[i] ≤ 200000 := hr.wide
    have q1 := hr.1.x
    have q2 := hr.1.y
    have q3 := hr.2.1.x
    have q4 := hr.2.1.y
    exact saround _ _ _ W (hg.of hW) (by simp only at *; omega) (by simp only at *; omega) hw.1 (by omega))
  have HXY := Lib.hid (fun i (hi : i < ts.length) (hj : i < cs.length) => show wrap64 (ts[i].x - cs[i].x) = ts[i].x - cs[i].x ∧ wrap64 (ts[i].y - cs[i].y) = ts[i].y - cs[i].y from by
    have hr := HH.out i hi hj
    have q1 := hr.1.x
    have q2 := hr.1.y
    have q3 := hr.2.1.x
    have q4 := hr.2.1.y
    simp only at *
    exact ⟨IntWalk.wrap64_in _ (by omega), IntWalk.wrap64_in _ (by omega)⟩)
  have HTK := Lib.hid (fun i (hi : i < ts.length) (hj : i < cs.length) => show ((ts.zip cs).map dkP).take (i + 1) = ((ts.zip cs).map dkP).take i ++ [dkP (ts[i], cs[i])] from by
    rw [List.take_succ_eq_append_getElem (by rw [List.length_map, List.length_zip]; omega)]
    simp)
  have HFU : Hid (((ts.zip cs).map dkP).take ts.length = (ts.zip cs).map dkP) := Lib.hid (List.take_of_length_le (by rw [List.length_map, List.length_zip]; omega))
  have HLT := Lib.hid (fun i (hi : i ≤ ts.length) => show (((ts.zip cs).map dkP).take i).length ≤ 16 from by rw [List.length_take]; omega)
  obtain ⟨At, ct, rfl⟩ := ht.len
  obtain ⟨Ac, cc, rfl⟩ := hc.len
  have hb0 := bel_al w (.cells #[.slice At ts.length ct, .slice Ac cs.length cc, .int .i64 p] 40 (0, 0))
  have HR := Lib.hid (And.intro (rnw (w := w) (t := 40) (xs := [.slice At ts.length ct, .slice Ac cs.length cc, .int .i64 p])) hb0)
  have HT := Lib.hid (And.intro ht hc)
  have HLN := Lib.hid hlen
  have b0 := HR.out.1.cell (i := 0) rfl
  clear ht hc h hrt hb0 hlen hs hg HH
  generalize (ts.zip cs).map dkP = dl at *
  unfold tkV
  go_enter Tryz.func67, Tryz.ntmps67
  go_wp2
  go_loopw [4, 14] (fun ov iv wr => ∃ (i : Nat) (vo : Value), iv = .int .i64 (i : Int) ∧ ov = vo ∧ i ≤ ts.length ∧ Hid (Row wr w.heap.size 40 [.slice At ts.length ct, .slice Ac cs.length cc, .int .i64 p] ∧ OwnK wr (w.heap.size + 2) vo (dl.take i) ∧ Below w.heap.size w wr)) (fun _ iv _ => ts.length - (intOf iv).toNat)
  case atStart => exact ⟨0, _, rfl, rfl, by omega, Lib.hid ⟨HR.out.1, by rw [List.take_zero]; exact OwnK.nil _ _, HR.out.2⟩⟩
  case round =>
    clear b0 HR
    obtain ⟨i, vo, rfl, e4, hi, hk⟩ := hrel
    obtain ⟨VA, vn, vc, hv⟩ := hk.out.2.1.shape
    subst hv
    subst e4
    by_cases hlt : i < ts.length
    · have hj : i < cs.length := by have := HLN.out; omega
      obtain ⟨bt, ot, rfl, hst⟩ := RdG.row (n := ts.length) (HT.out.1.below hk.out.2.2) i hlt
      obtain ⟨bc, oc, rfl, hsc⟩ := RdC.row (n := cs.length) (HT.out.2.below hk.out.2.2) i hj
      obtain ⟨t0, t1, t2, t3, t4, t5, t6⟩ := hst.val i hlt
      have hal := bel_al wr (tgO ts[i])
      obtain ⟨c0, c1, c2⟩ := (hsc.below' hal).val i hj
      have hi0 : (0 : Int) ≤ (i : Int) := by omega
      have hi1 : (i : Int) < (ts.length : Int) := by omega
      have hi2 : (i : Int) < (cs.length : Int) := by have := HLN.out; omega
      have b1 := (hk.out.1.below' hal).cell (i := 1) rfl
      have hal2 := bel_al2 wr (tgO ts[i]) (ccO cs[i])
      have hrt : Row ((wr.alloc (tgO ts[i])).alloc (ccO cs[i])) wr.heap.size 27 (tgC ts[i]) := rnw.alloc _
      have hrc : Row ((wr.alloc (tgO ts[i])).alloc (ccO cs[i])) (wr.heap.size + 1) 30 (ccC cs[i]) := rnew0 (World.size_alloc _ _).symm
      have H1 := Lib.hid (And.intro (hk.out.1.below' hal2) (And.intro (hk.out.2.1.below hal2) (And.intro (bel_to hk.out.2.2 hal2) (And.intro hrt hrc))))
      have HA1 := Lib.hid (HA.out i hlt hj)
      have HD1 := Lib.hid (HD.out i hlt hj)
      obtain ⟨hx1, hx2⟩ := HXY.out i hlt hj
      have HTK1 := Lib.hid (HTK.out i hlt hj)
      have HLT1 := Lib.hid (HLT.out i (by omega))
      clear hst hsc hal hal2 hrt hrc hk
      unfold tgO ccO at H1
      unfold tgO at c0 c1 c2 b1
      unfold tgC ccC at H1
      have r0 := H1.out.2.2.2.1.cell (i := 0) rfl
      have r1 := H1.out.2.2.2.1.cell (i := 1) rfl
      have r2 := H1.out.2.2.2.1.cell (i := 2) rfl
      have r3 := H1.out.2.2.2.1.cell (i := 3) rfl
      have r4 := H1.out.2.2.2.1.cell (i := 4) rfl
      have r5 := H1.out.2.2.2.1.cell (i := 5) rfl
      have r6 := H1.out.2.2.2.1.cell (i := 6) rfl
      have u2 := H1.out.2.2.2.2.cell (i := 2) rfl
      unfold tgV at HA1
      generalize dkP (ts[i], cs[i]) = dd at *
      generalize wide ts[i] cs[i] = wd at *
      unfold dkV at HD1
      generalize ts[i].x = tx at *
      generalize ts[i].y = ty at *
      generalize ts[i].lo = tl at *
      generalize ts[i].hi = th at *
      generalize ts[i].tol = tt at *
      generalize ts[i].mat = tm at *
      generalize ts[i].pin = tp at *
      generalize cs[i].x = cx at *
      generalize cs[i].y = cy at *
      generalize cs[i].d = cd at *
      go_wp2_with fail
      refine (HA1.out _ H1.out.2.2.1).mono ?_
      rintro e w2 ⟨rfl, hb2⟩
      have H2 := Lib.hid (And.intro (H1.out.1.below' hb2) (And.intro (H1.out.2.1.below hb2) (And.intro (bel_to H1.out.2.2.1 hb2) (And.intro (H1.out.2.2.2.1.below' hb2) (H1.out.2.2.2.2.below' hb2)))))
      clear hb2 H1 HA1 t0 t1 t2 t3 t4 t5 t6 c0 c1 c2 b1 r0 r1 r2 r3 r4 r5 r6 u2
      have r0 := H2.out.2.2.2.1.cell (i := 0) rfl
      have r1 := H2.out.2.2.2.1.cell (i := 1) rfl
      have u0 := H2.out.2.2.2.2.cell (i := 0) rfl
      have u1 := H2.out.2.2.2.2.cell (i := 1) rfl
      go_wp2_with fail
      refine (HD1.out _ H2.out.2.2.1).mono ?_
      rintro e w3 ⟨rfl, hb3⟩
      have H3 := Lib.hid (And.intro (H2.out.1.below' hb3) (And.intro (H2.out.2.1.below hb3) (bel_to H2.out.2.2.1 hb3)))
      clear hb3 H2 HD1 r0 r1 u0 u1
      have HC := Lib.hid (fun j u hu => srcK_one (w3.alloc (.cells #[.string (bs (R dd.x)), .string (bs (R dd.y)), .string (bs (R dd.s))] 127 (0, 0))) dd j u hu (w3.heap.size + 1) (World.size_alloc _ _).symm)
      have hal := bel_al w3 (.cells #[.string (bs (R dd.x)), .string (bs (R dd.y)), .string (bs (R dd.s))] 127 (0, 0))
      have hrd : Row (w3.alloc (.cells #[.string (bs (R dd.x)), .string (bs (R dd.y)), .string (bs (R dd.s))] 127 (0, 0))) w3.heap.size 127 [.string (bs (R dd.x)), .string (bs (R dd.y)), .string (bs (R dd.s))] := rnw
      have k0 := hrd.cell (i := 0) rfl
      have k1 := hrd.cell (i := 1) rfl
      have k2 := hrd.cell (i := 2) rfl
      have hal2 := bel_to hal (bel_al (w3.alloc (.cells #[.string (bs (R dd.x)), .string (bs (R dd.y)), .string (bs (R dd.s))] 127 (0, 0))) (.cells #[.string (bs (R dd.x)), .string (bs (R dd.y)), .string (bs (R dd.s))] 127 (0, 0)))
      have HSZ := Lib.hid (show w.heap.size + 2 ≤ ((w3.alloc (.cells #[.string (bs (R dd.x)), .string (bs (R dd.y)), .string (bs (R dd.s))] 127 (0, 0))).alloc (.cells #[.string (bs (R dd.x)), .string (bs (R dd.y)), .string (bs (R dd.s))] 127 (0, 0))).heap.size from by
        have := H3.out.2.2.size
        rw [World.size_alloc, World.size_alloc]; omega)
      have H4 := Lib.hid (And.intro (H3.out.1.below' hal2) (And.intro (H3.out.2.1.below hal2) (bel_to H3.out.2.2 hal2)))
      clear hal hrd hal2 H3
      go_wp2_with (at_builtin; refine wpList_app_OwnK (m := [dd]) rfl _ _ rfl rfl rfl rfl H4.out.2.1 HC.out HSZ.out (by have := HLT1.out; simp only [List.length_cons, List.length_nil]; omega) ?_; intro v2 w4 ho2 hg2)
      have HN := Lib.hid (And.intro (row_grownK H4.out.1 H4.out.2.1 hg2 (by omega)) (And.intro (by rw [HTK1.out]; exact ho2 : OwnK w4 (w.heap.size + 2) v2 (dl.take (i + 1))) (app_belOwnK H4.out.2.1 H4.out.2.2 (by omega) hg2)))
      clear ho2 hg2 H4 HC HSZ k0 k1 k2
      go_wp2
      go_roundw
      case rel => exact ⟨i + 1, _, by go_num, rfl, by omega, HN⟩
      case measure => simp [intOf]; omega
    · obtain rfl : ts.length = i := by omega
      have hk2 := hk.out
      rw [HFU.out] at hk2
      have HK := Lib.hid hk2
      clear hk hk2
      go_wp2
      refine bodyPost_ret (v := .tuple #[.slice VA vn vc, .int .i64 0]) (by simp [results, Tryz.results67, go_sem]) rfl ⟨_, rfl, HK.out.2.1.base (by omega), HK.out.2.2⟩
end W
end Go.Proofs.YtellemlhhlafcaaGreatDoor
end
section
namespace Go.Proofs.YtellemlhhlafcaaGreatDoor
open Go Go.RowKit Go.Deep Go.Sort
namespace W
open M
attribute [local go_sem] bs_size bs_toList bs_get bs_extract bs_append bs_lit0 bs_lit1 lit1_bs
set_option maxHeartbeats 1000000
set_option maxRecDepth 20000
theorem slimited_no (vl : Value) (l : List Dk) (w : World) (hl : RdK w vl l) :
    Calls Tryz.prog 68 #[vl, .int .i64 (-1)] w (fun e w' => e = .returned (.tuple #[vl, .int .i64 0]) ∧ w = w') := by
  obtain ⟨A, cap, rfl⟩ := hl.len
  clear hl
  go_enter Tryz.func68, Tryz.ntmps68
  go_wp2
  go_ret2
  exact ⟨rfl, rfl⟩
theorem szones_no (vt vc : Value) (ts : List Tg) (cs : List Cc) (w : World) (hg : Glob w) (hs : Sig w) (ht : RdG w vt ts) (hc : RdC w vc cs) (h : chk46 ts cs = 0) :
    Calls Tryz.prog 31 #[tkV vt vc (-1)] w (fun e w' => ∃ v, e = .returned (.tuple #[v, .int .i64 0]) ∧ RdK w' v ((ts.zip cs).map dkP) ∧ Below w.heap.size w w') := by
  have HC := Lib.hid (fun W (hW : Below w.heap.size w W) => scheck vt vc ts cs (-1) W (ht.below hW) (hc.below hW) h (by decide) (by decide))
  have HT := Lib.hid (fun W (hW : Below w.heap.size w W) => stargets vt vc ts cs (-1) W (hg.of hW) (hs.below hW) (ht.below hW) (hc.below hW) h)
  generalize (ts.zip cs).map dkP = dl at *
  have HL := Lib.hid (fun v W (hv : RdK W v dl) => slimited_no v dl W hv)
  obtain ⟨At, ct, rfl⟩ := ht.len
  obtain ⟨Ac, cc, rfl⟩ := hc.len
  have HR := Lib.hid (And.intro (rnw (w := w) (t := 40) (xs := [.slice At ts.length ct, .slice Ac cs.length cc, .int .i64 (-1)])) (bel_al w (.cells #[.slice At ts.length ct, .slice Ac cs.length cc, .int .i64 (-1)] 40 (0, 0))))
  have x0 := HR.out.1.cell (i := 0) rfl
  have x1 := HR.out.1.cell (i := 1) rfl
  have x2 := HR.out.1.cell (i := 2) rfl
  clear hg hs ht hc h
  unfold tkV at *
  go_enter Tryz.func31, Tryz.ntmps31
  go_wp2_with fail
  refine (HC.out _ HR.out.2).mono ?_
  rintro e w1 ⟨rfl, hb1⟩
  have H1 := Lib.hid (And.intro (HR.out.1.below' hb1) (bel_to HR.out.2 hb1))
  clear hb1 HR HC x0 x1 x2
  have x0 := H1.out.1.cell (i := 0) rfl
  have x1 := H1.out.1.cell (i := 1) rfl
  have x2 := H1.out.1.cell (i := 2) rfl
  go_wp2_with fail
  refine (HT.out _ H1.out.2).mono ?_
  rintro e w2 ⟨v, rfl, hv, hb2⟩
  obtain ⟨VA, vn, vc, hvs⟩ := hv.shape
  subst hvs
  have H2 := Lib.hid (And.intro (H1.out.1.below' hb2) (And.intro hv.rd (bel_to H1.out.2 hb2)))
  clear hb2 hv H1 HT x0 x1 x2
  have x2 := H2.out.1.cell (i := 2) rfl
  go_wp2_with fail
  refine (HL.out _ _ H2.out.2.1).mono ?_
  rintro e w3 ⟨rfl, rfl⟩
  go_wp2
  go_ret2
  exact ⟨_, rfl, H2.out.2.1, H2.out.2.2⟩
theorem sfeasible (vt vc : Value) (ts : List Tg) (cs : List Cc) (w : World) (hg : Glob w) (hs : Sig w) (ht : RdG w vt ts) (hc : RdC w vc cs) (h : chk46 ts cs = 0) :
    Calls Tryz.prog 10 #[tkV vt vc (-1)] w (Ret w (.tuple #[.bool (firstD ((ts.zip cs).map dkP)).isSome, wnV ((firstD ((ts.zip cs).map dkP)).getD ⟨0, 0, 0⟩), .int .i64 0])) := by
  obtain ⟨h1, h16, hlen, hrt⟩ := chk46_iff.1 h
  have hll : ((ts.zip cs).map dkP).length = ts.length := by rw [List.length_map, List.length_zip]; omega
  have HZ := Lib.hid (fun W (hW : Below w.heap.size w W) => szones_no vt vc ts cs W (hg.of hW) (hs.below hW) (ht.below hW) (hc.below hW) h)
  have HC := Lib.hid (fun v W (hW : Below w.heap.size w W) (hv : RdK W v ((ts.zip cs).map dkP)) => kcommon v _ W (hg.of hW) hv (by omega) (by omega) (fun d hd => by obtain ⟨p, hp, rfl⟩ := List.mem_map.1 hd; exact dkP_sm (hrt p hp)))
  generalize (ts.zip cs).map dkP = dl at *
  generalize firstD dl = fd at *
  obtain ⟨ok, hok⟩ : ∃ ok, ok = fd.isSome := ⟨_, rfl⟩
  obtain ⟨x, hx⟩ : ∃ x, x = fd.getD ⟨0, 0, 0⟩ := ⟨_, rfl⟩
  rw [← hok, ← hx] at HC ⊢
  obtain ⟨At, ct, rfl⟩ := ht.len
  obtain ⟨Ac, cc, rfl⟩ := hc.len
  have hb0 := bel_al2 w (.cells #[.slice At ts.length ct, .slice Ac cs.length cc, .int .i64 (-1)] 40 (0, 0)) (.cells #[.int .i64 0, .int .i64 0, .int .i64 0] 42 (0, 0))
  have hr1 : Row ((w.alloc (.cells #[.slice At ts.length ct, .slice Ac cs.length cc, .int .i64 (-1)] 40 (0, 0))).alloc (.cells #[.int .i64 0, .int .i64 0, .int .i64 0] 42 (0, 0))) w.heap.size 40 [.slice At ts.length ct, .slice Ac cs.length cc, .int .i64 (-1)] := rnw.alloc _
  have hr2 : Row ((w.alloc (.cells #[.slice At ts.length ct, .slice Ac cs.length cc, .int .i64 (-1)] 40 (0, 0))).alloc (.cells #[.int .i64 0, .int .i64 0, .int .i64 0] 42 (0, 0))) (w.heap.size + 1) 42 [.int .i64 0, .int .i64 0, .int .i64 0] := rnew0 (World.size_alloc _ _).symm
  have HR := Lib.hid (And.intro hr2 hb0)
  have x0 := hr1.cell (i := 0) rfl
  have x1 := hr1.cell (i := 1) rfl
  have x2 := hr1.cell (i := 2) rfl
  clear hr1 hr2 hb0 hg hs ht hc h h1 h16 hlen hrt hll hok hx
  unfold tkV at *
  go_enter Tryz.func10, Tryz.ntmps10
  go_wp2_with fail
  refine (HZ.out _ HR.out.2).mono ?_
  rintro e w1 ⟨v, rfl, hv, hb1⟩
  obtain ⟨VA, vcp, hvs⟩ := hv.len
  subst hvs
  have H1 := Lib.hid (And.intro (HR.out.1.below' hb1) (And.intro hv (bel_to HR.out.2 hb1)))
  clear hb1 hv HR HZ x0 x1 x2
  go_wp2_with fail
  refine (HC.out _ _ H1.out.2.2 H1.out.2.1).mono ?_
  rintro e w2 ⟨rfl, hb2⟩
  have H2 := Lib.hid (And.intro (H1.out.1.below' hb2) (bel_to H1.out.2.2 hb2))
  clear hb2 H1 HC
  obtain ⟨⟨f0, m0⟩, ⟨f1, m1⟩, ⟨f2, m2⟩, hrow⟩ := three_store (.int .i64 (x.i : Int)) (.int .i64 (x.j : Int)) (.int .i64 x.side) H2.out.1
  have HQ := Lib.hid (And.intro hrow (three_below (.int .i64 (x.i : Int)) (.int .i64 (x.j : Int)) (.int .i64 x.side) H2.out.2 (A := w.heap.size + 1) (by omega)))
  clear hrow H2
  go_wp2
  have q0 := HQ.out.1.cell (i := 0) rfl
  have q1 := HQ.out.1.cell (i := 1) rfl
  have q2 := HQ.out.1.cell (i := 2) rfl
  refine bodyPost_ret (v := .tuple #[.bool ok, .agg #[.int .i64 (x.i : Int), .int .i64 (x.j : Int), .int .i64 x.side], .int .i64 0]) (by simp [results, Tryz.results10, go_sem, q0, q1, q2]) rfl ⟨rfl, HQ.out.2⟩
end W
end Go.Proofs.YtellemlhhlafcaaGreatDoor
end
