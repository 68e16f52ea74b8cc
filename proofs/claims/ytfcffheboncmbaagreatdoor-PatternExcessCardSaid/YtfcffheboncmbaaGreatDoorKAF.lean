/-
  Chapter 46, the reference: 'bound' and 'All'.
  Chapter 46, the reference: 'All'. (Printed by wip/allr.py.)
-/
import Derived.Test.YtfcffheboncmbaaGreatDoorKAC
import Derived.Test.YtfcffheboncmbaaGreatDoorKAD
import Derived.Test.YtfcffheboncmbaaGreatDoorKZ
import Derived.Deep.RegionHeld3
section
namespace Go.Proofs.YtfcffheboncmbaaGreatDoor
open Go Go.RowKit Go.Deep
theorem OwnS.lit3 (w : World) (B : Nat) (hB : B ≤ w.heap.size) (x y z : List UInt8) : OwnS (w.alloc (.cells #[.string (bs x), .string (bs y), .string (bs z)] 40 (0, 0))) B (.slice (some ⟨w.heap.size, 0, none⟩) 3 3) [x, y, z] :=
  World.ownsRow_lit w #[.string (bs x), .string (bs y), .string (bs z)] 3 hB (by decide) rfl
theorem OwnS.lit3' (w : World) (B g : Nat) (hg : g = w.heap.size) (hB : B ≤ g) (x y z : List UInt8) : OwnS (w.alloc (.cells #[.string (bs x), .string (bs y), .string (bs z)] 40 (0, 0))) B (.slice (some ⟨g, 0, none⟩) 3 3) [x, y, z] := by
  subst hg; exact OwnS.lit3 w B hB x y z
theorem bd_store {w0 w : World} {A : Nat} {x0 y0 : Value} (x y : Value) (hr : Row w A 79 [x0, y0]) (hA : w0.heap.size ≤ A) (hb : Below w0.heap.size w0 w) :
    Row ((w.setCell ⟨A, 0, none⟩ x).setCell ⟨A, 1, none⟩ y) A 79 [x, y] ∧ Below w0.heap.size w0 ((w.setCell ⟨A, 0, none⟩ x).setCell ⟨A, 1, none⟩ y) :=
  ⟨(hr.set 0 x).set 1 y, Below.setCell (p := ⟨A, 1, none⟩) (Below.setCell (p := ⟨A, 0, none⟩) hb hA x) hA y⟩
namespace W
open M
attribute [local go_sem] bs_size bs_toList bs_get bs_extract bs_append bs_lit0 bs_lit1 lit1_bs
set_option maxHeartbeats 1000000
set_option maxRecDepth 20000
theorem rbound46 (a b c : Int) (s : List UInt8) (w : World) (ha : a.natAbs < 10 ^ 8) (hb : b.natAbs < 10 ^ 8) (hc : c.natAbs < 10 ^ 8) :
    Calls Tryz.prog 108 #[.int .i64 a, .int .i64 b, .int .i64 c, .string (bs s)] w (fun e w' => ∃ v, e = .returned v ∧ Below w.heap.size w w' ∧ IsBd (rx (castL [a, b, c]), s) w' v) := by
  have hb0 := bel_al w (.cells #[.slice none 0 0, .string ⟨#[]⟩] 79 (0, 0))
  have hr0 : Row (w.alloc (.cells #[.slice none 0 0, .string ⟨#[]⟩] 79 (0, 0))) w.heap.size 79 [.slice none 0 0, .string ⟨#[]⟩] := rnw
  have HR0 := Lib.hid (And.intro hr0 hb0)
  have HA := Lib.hid (fun W => whole_R a W (by omega) (by omega))
  have HB := Lib.hid (fun W => whole_R b W (by omega) (by omega))
  have HC := Lib.hid (fun W => whole_R c W (by omega) (by omega))
  have HX := Lib.hid (show rx (castL [a, b, c]) = [R (a : Rat), R (b : Rat), R (c : Rat)] from rfl)
  clear ha hb hc hr0 hb0
  generalize rx (castL [a, b, c]) = row at *
  generalize R (a : Rat) = ra at *
  generalize R (b : Rat) = rb at *
  generalize R (c : Rat) = rc at *
  go_enter Tryz.func108, Tryz.ntmps108
  go_wp2_with fail
  refine (HA.out _).mono ?_
  rintro e w1 ⟨rfl, hb1⟩
  go_wp2_with fail
  refine (HB.out _).mono ?_
  rintro e w2 ⟨rfl, hb2⟩
  go_wp2_with fail
  refine (HC.out _).mono ?_
  rintro e w3 ⟨rfl, hb3⟩
  have hb123 := Below.then (Below.then hb1 hb2) hb3
  have hrw := HR0.out.1.below' hb123
  have hbw := bel_to HR0.out.2 hb123
  have f0 := hrw.free 0
  have f1 := (hrw.set 0 (.slice (some ⟨w3.heap.size, 0, none⟩) 3 3)).free 1
  have c0 := hrw.cell (i := 0) rfl
  have c1 := (hrw.set 0 (.slice (some ⟨w3.heap.size, 0, none⟩) 3 3)).cell (i := 1) rfl
  have hlt : w.heap.size < w3.heap.size := hrw.lt
  have hrA : Row (w3.alloc (.cells #[.string (bs ra), .string (bs rb), .string (bs rc)] 40 (0, 0))) w.heap.size 79 [.slice none 0 0, .string ⟨#[]⟩] := hrw.alloc _
  have g0 := hrA.free 0
  have g1 := (hrA.set 0 (.slice (some ⟨w3.heap.size, 0, none⟩) 3 3)).free 1
  have d0 := hrA.cell (i := 0) rfl
  have d1 := (hrA.set 0 (.slice (some ⟨w3.heap.size, 0, none⟩) 3 3)).cell (i := 1) rfl
  have hrB : Row ((w3.setCell ⟨w.heap.size, 0, none⟩ (.slice (some ⟨w3.heap.size, 0, none⟩) 3 3)).alloc (.cells #[.string (bs ra), .string (bs rb), .string (bs rc)] 40 (0, 0))) w.heap.size 79 [(.slice (some ⟨w3.heap.size, 0, none⟩) 3 3), .string ⟨#[]⟩] := (hrw.set 0 _).alloc _
  have i1 := hrB.free 1
  have j1 := hrB.cell (i := 1) rfl
  have hst := bd_store (.slice (some ⟨w3.heap.size, 0, none⟩) 3 3) (.string (bs s)) hrw (Nat.le_refl _) hbw
  have HQ : Hid (Row (((w3.setCell ⟨w.heap.size, 0, none⟩ (.slice (some ⟨w3.heap.size, 0, none⟩) 3 3)).setCell ⟨w.heap.size, 1, none⟩ (.string (bs s))).alloc (.cells #[.string (bs ra), .string (bs rb), .string (bs rc)] 40 (0, 0))) w.heap.size 79 [.slice (some ⟨w3.heap.size, 0, none⟩) 3 3, .string (bs s)] ∧ Below w.heap.size w (((w3.setCell ⟨w.heap.size, 0, none⟩ (.slice (some ⟨w3.heap.size, 0, none⟩) 3 3)).setCell ⟨w.heap.size, 1, none⟩ (.string (bs s))).alloc (.cells #[.string (bs ra), .string (bs rb), .string (bs rc)] 40 (0, 0)))) := Lib.hid ⟨hst.1.alloc _, bel_to hst.2 (bel_al _ _)⟩
  have HO := Lib.hid (OwnS.lit3' ((w3.setCell ⟨w.heap.size, 0, none⟩ (.slice (some ⟨w3.heap.size, 0, none⟩) 3 3)).setCell ⟨w.heap.size, 1, none⟩ (.string (bs s))) w3.heap.size w3.heap.size (by simp) (Nat.le_refl _) ra rb rc)
  clear hb1 hb2 hb3 hb123 hrw hbw HR0 HA HB HC hst hrA hrB
  go_wp2
  have q0 := HQ.out.1.cell (i := 0) rfl
  have q1 := HQ.out.1.cell (i := 1) rfl
  refine bodyPost_ret (v := .agg #[.slice (some ⟨w3.heap.size, 0, none⟩) 3 3, .string (bs s)]) (by simp [results, Tryz.results108, go_sem, q0, q1]) rfl ⟨_, rfl, HQ.out.2, _, _, rfl, by rw [HX.out]; exact HO.out⟩
end W
end Go.Proofs.YtfcffheboncmbaaGreatDoor
end
section
namespace Go.Proofs.YtfcffheboncmbaaGreatDoor
open Go Go.RowKit Go.Deep
theorem good_two {W : World} {B1 B2 : Nat} {v1 v2 : Value} {r1 r2 : List (List UInt8)} {q q2 : List UInt8} (h1 : OwnS W B1 v1 r1) (h2 : OwnS W B2 v2 r2) : GoodT W [(v1, (r1, q)), (v2, (r2, q2))] := fun x hx => by
  simp only [List.mem_cons, List.not_mem_nil, or_false] at hx
  rcases hx with rfl | rfl
  · exact ⟨_, h1⟩
  · exact ⟨_, h2⟩
namespace W
open M
attribute [local go_sem] bs_size bs_toList bs_get bs_extract bs_append bs_lit0 bs_lit1 lit1_bs
set_option maxHeartbeats 4000000
set_option maxRecDepth 20000
theorem rall46 (vt vc : Value) (ts : List Tg) (cs : List Cc) (w : World) (ht : RdG w vt ts) (hc : RdC w vc cs) (hok : chk46 ts cs = 0) :
    Calls Tryz.prog 63 #[vt, vc] w (fun e w' => ∃ v es, e = .returned v ∧ ExS w w' v es ∧ es.map (·.2) = bx (bnds (ts.zip cs))) := by
  obtain ⟨h1, h16, hlen, hrt⟩ := chk46_iff.1 hok
  have hzl : (ts.zip cs).length = ts.length := by rw [List.length_zip]; omega
  have hg : ∀ i (hi : i < ts.length) (hi2 : i < cs.length) (h3 : i < (ts.zip cs).length), (ts.zip cs)[i]'h3 = (ts[i], cs[i]) := fun i hi hi2 h3 => by simp
  have HRT : Hid (∀ i (hi : i < ts.length) (hi2 : i < cs.length), RtH (ts[i], cs[i])) := Lib.hid (fun i hi hi2 => hrt _ (by rw [← hg i hi hi2 (by omega)]; exact List.getElem_mem _))
  have HTK : Hid (∀ i (hi : i < ts.length) (hi2 : i < cs.length), bx (bnds ((ts.zip cs).take (i + 1))) = bx (bnds ((ts.zip cs).take i)) ++ bx (bnd4 ts[i] cs[i])) := Lib.hid (fun i hi hi2 => by
    have h := bnds_take (ts.zip cs) i (by omega)
    rw [hg i hi hi2 (by omega)] at h
    exact h)
  have HSZ : Hid (∀ i, i < ts.length → ((bx (bnds ((ts.zip cs).take i))).length + 4) * 40 ≤ 140737488355328) := Lib.hid (fun i hi => by
    rw [bx_len, bnds_len, List.length_take]; omega)
  have HEND := Lib.hid (show bx (bnds ((ts.zip cs).take ts.length)) = bx (bnds (ts.zip cs)) by rw [← hzl, List.take_length])
  have HLC := Lib.hid (show ∀ i, i < ts.length → i < cs.length from fun i hi => by omega)
  have HE0 : Hid (ExS w w (.slice none 0 0) []) := Lib.hid ⟨World.ownsRow_nil _ _ _ _, (fun x hx => by cases hx), Below.refl _ _⟩
  have HT := Lib.hid ht
  have HC := Lib.hid hc
  obtain ⟨At, ct, rfl⟩ := ht.len
  obtain ⟨Ac, cc, rfl⟩ := hc.len
  clear ht hc hok hlen hrt hzl hg h1
  generalize ts.zip cs = pl at *
  go_enter Tryz.func63, Tryz.ntmps63
  go_wp2
  go_loopw [5, 6] (fun vo iv wr => ∃ (i : Nat) (es : List (Value × BT)), iv = .int .i64 (i : Int) ∧ i ≤ ts.length ∧ Hid (ExS w wr vo es) ∧ Hid (es.map (·.2) = bx (bnds (pl.take i)))) (fun _ iv _ => ts.length - (intOf iv).toNat)
  case atStart => exact ⟨0, [], rfl, by omega, HE0, Lib.hid rfl⟩
  case round =>
    clear HE0
    obtain ⟨i, es, rfl, hi, hin, hes⟩ := hrel
    obtain ⟨Av, nv, cv, rfl⟩ := OwnE.shape hin.out.own
    by_cases hlt : i < ts.length
    · have hlc := HLC.out i hlt
      have HPI := Lib.hid (HRT.out i hlt hlc)
      have htk := HTK.out i hlt hlc
      have hsz := HSZ.out i hlt
      have hel := congrArg List.length hes.out
      rw [List.length_map] at hel
      rw [← hel] at hsz
      have HSI := Lib.hid hsz
      obtain ⟨bt, ot, rfl, hst⟩ := HT.out.row i hlt
      obtain ⟨bc, oc, rfl, hsc⟩ := HC.out.row i hlc
      have HVI := Lib.hid (fun W (hW : Below w.heap.size w W) => (hst.below' hW).val i hlt)
      have HDI := Lib.hid (fun W (hW : Below w.heap.size w W) => (hsc.below' hW).val i hlc)
      have hi0 : (0 : Int) ≤ (i : Int) := by omega
      have hit : (i : Int) < (ts.length : Int) := by omega
      have hic : (i : Int) < (cs.length : Int) := by omega
      have HW1 := Lib.hid (fun W => rwide46 ts[i] cs[i] W HPI.out.1 (by unfold wth; simp [HPI.out.2.2.1, HPI.out.2.2.2]))
      have w1 := HPI.out.wide
      have r1 := HPI.out.1.x
      have r2 := HPI.out.1.y
      have r3 := HPI.out.2.1.x
      have r4 := HPI.out.2.1.y
      simp only at w1 r1 r2 r3 r4
      rw [← bnd4_bx] at htk
      have HTKI := Lib.hid htk
      clear htk hsz hel hst hsc HTK HSZ HRT HPI
      generalize ts[i] = ti at *
      generalize cs[i] = ci at *
      generalize wide ti ci = n at *
      obtain ⟨tx, ty, tlo, thi, ttol, tmat, tpin⟩ := ti
      obtain ⟨cx, cy, cd⟩ := ci
      simp only at w1 r1 r2 r3 r4
      (try simp only at HTKI)
      obtain ⟨p1, hp1⟩ : ∃ p, p = 2 * (tx - cx) + n := ⟨_, rfl⟩
      obtain ⟨p2, hp2⟩ : ∃ p, p = 2 * (cx - tx) + n := ⟨_, rfl⟩
      obtain ⟨p3, hp3⟩ : ∃ p, p = 2 * (ty - cy) + n := ⟨_, rfl⟩
      obtain ⟨p4, hp4⟩ : ∃ p, p = 2 * (cy - ty) + n := ⟨_, rfl⟩
      obtain ⟨ny, hny⟩ : ∃ p, p = -cy := ⟨_, rfl⟩
      obtain ⟨nx, hnx⟩ : ∃ p, p = -cx := ⟨_, rfl⟩
      have z0 : IntKind.i64.wrap (tx - cx) = tx - cx := IntWalk.i64_in _ (by omega)
      have z1 : IntKind.i64.wrap (2 * (tx - cx)) = 2 * (tx - cx) := IntWalk.i64_in _ (by omega)
      have z2 : IntKind.i64.wrap (2 * (tx - cx) + n) = p1 := by rw [hp1]; exact IntWalk.i64_in _ (by omega)
      have z3 : IntKind.i64.wrap (cx - tx) = cx - tx := IntWalk.i64_in _ (by omega)
      have z4 : IntKind.i64.wrap (2 * (cx - tx)) = 2 * (cx - tx) := IntWalk.i64_in _ (by omega)
      have z5 : IntKind.i64.wrap (2 * (cx - tx) + n) = p2 := by rw [hp2]; exact IntWalk.i64_in _ (by omega)
      have z6 : IntKind.i64.wrap (ty - cy) = ty - cy := IntWalk.i64_in _ (by omega)
      have z7 : IntKind.i64.wrap (2 * (ty - cy)) = 2 * (ty - cy) := IntWalk.i64_in _ (by omega)
      have z8 : IntKind.i64.wrap (2 * (ty - cy) + n) = p3 := by rw [hp3]; exact IntWalk.i64_in _ (by omega)
      have z9 : IntKind.i64.wrap (cy - ty) = cy - ty := IntWalk.i64_in _ (by omega)
      have z10 : IntKind.i64.wrap (2 * (cy - ty)) = 2 * (cy - ty) := IntWalk.i64_in _ (by omega)
      have z11 : IntKind.i64.wrap (2 * (cy - ty) + n) = p4 := by rw [hp4]; exact IntWalk.i64_in _ (by omega)
      have z12 : IntKind.i64.wrap (-cy) = ny := by rw [hny]; exact IntWalk.i64_in _ (by omega)
      have z13 : IntKind.i64.wrap (-cx) = nx := by rw [hnx]; exact IntWalk.i64_in _ (by omega)
      have HO1 : Hid (∀ W, Calls Tryz.prog 84 #[.int .i64 p1, .int .i64 2] W (Ret W (.string (bs (R (((2 * (tx - cx) + n : Int) : Rat) / 2)))))) := Lib.hid (fun W => by
        have h := rover (2 * (tx - cx) + n) 2 W (by omega) (by decide) (by decide)
        rw [Rat.divInt_eq_div, ← hp1] at h
        rw [← hp1]
        exact h)
      have HN1 : Hid (∀ W, Calls Tryz.prog 108 #[.int .i64 1, .int .i64 0, .int .i64 ny, .string (bs (R (((2 * (tx - cx) + n : Int) : Rat) / 2)))] W (fun e w' => ∃ v, e = .returned v ∧ Below W.heap.size W w' ∧ IsBd (rx (castL [1, 0, ny]), R (((2 * (tx - cx) + n : Int) : Rat) / 2)) w' v)) := Lib.hid (fun W => by have h := rbound46 1 0 ny (R (((2 * (tx - cx) + n : Int) : Rat) / 2)) W (by omega) (by omega) (by omega); exact h)
      have HO2 : Hid (∀ W, Calls Tryz.prog 84 #[.int .i64 p2, .int .i64 2] W (Ret W (.string (bs (R (((2 * (cx - tx) + n : Int) : Rat) / 2)))))) := Lib.hid (fun W => by
        have h := rover (2 * (cx - tx) + n) 2 W (by omega) (by decide) (by decide)
        rw [Rat.divInt_eq_div, ← hp2] at h
        rw [← hp2]
        exact h)
      have HN2 : Hid (∀ W, Calls Tryz.prog 108 #[.int .i64 (-1), .int .i64 0, .int .i64 cy, .string (bs (R (((2 * (cx - tx) + n : Int) : Rat) / 2)))] W (fun e w' => ∃ v, e = .returned v ∧ Below W.heap.size W w' ∧ IsBd (rx (castL [-1, 0, cy]), R (((2 * (cx - tx) + n : Int) : Rat) / 2)) w' v)) := Lib.hid (fun W => by have h := rbound46 (-1) 0 cy (R (((2 * (cx - tx) + n : Int) : Rat) / 2)) W (by omega) (by omega) (by omega); exact h)
      have HO3 : Hid (∀ W, Calls Tryz.prog 84 #[.int .i64 p3, .int .i64 2] W (Ret W (.string (bs (R (((2 * (ty - cy) + n : Int) : Rat) / 2)))))) := Lib.hid (fun W => by
        have h := rover (2 * (ty - cy) + n) 2 W (by omega) (by decide) (by decide)
        rw [Rat.divInt_eq_div, ← hp3] at h
        rw [← hp3]
        exact h)
      have HN3 : Hid (∀ W, Calls Tryz.prog 108 #[.int .i64 0, .int .i64 1, .int .i64 cx, .string (bs (R (((2 * (ty - cy) + n : Int) : Rat) / 2)))] W (fun e w' => ∃ v, e = .returned v ∧ Below W.heap.size W w' ∧ IsBd (rx (castL [0, 1, cx]), R (((2 * (ty - cy) + n : Int) : Rat) / 2)) w' v)) := Lib.hid (fun W => by have h := rbound46 0 1 cx (R (((2 * (ty - cy) + n : Int) : Rat) / 2)) W (by omega) (by omega) (by omega); exact h)
      have HO4 : Hid (∀ W, Calls Tryz.prog 84 #[.int .i64 p4, .int .i64 2] W (Ret W (.string (bs (R (((2 * (cy - ty) + n : Int) : Rat) / 2)))))) := Lib.hid (fun W => by
        have h := rover (2 * (cy - ty) + n) 2 W (by omega) (by decide) (by decide)
        rw [Rat.divInt_eq_div, ← hp4] at h
        rw [← hp4]
        exact h)
      have HN4 : Hid (∀ W, Calls Tryz.prog 108 #[.int .i64 0, .int .i64 (-1), .int .i64 nx, .string (bs (R (((2 * (cy - ty) + n : Int) : Rat) / 2)))] W (fun e w' => ∃ v, e = .returned v ∧ Below W.heap.size W w' ∧ IsBd (rx (castL [0, -1, nx]), R (((2 * (cy - ty) + n : Int) : Rat) / 2)) w' v)) := Lib.hid (fun W => by have h := rbound46 0 (-1) nx (R (((2 * (cy - ty) + n : Int) : Rat) / 2)) W (by omega) (by omega) (by omega); exact h)
      rw [← hny, ← hnx] at HTKI
      clear w1 r1 r2 r3 r4 hp1 hp2 hp3 hp4 hny hnx
      generalize R (((2 * (tx - cx) + n : Int) : Rat) / 2) = q1 at *
      generalize rx (castL [1, 0, ny]) = row1 at *
      generalize R (((2 * (cx - tx) + n : Int) : Rat) / 2) = q2 at *
      generalize rx (castL [-1, 0, cy]) = row2 at *
      generalize R (((2 * (ty - cy) + n : Int) : Rat) / 2) = q3 at *
      generalize rx (castL [0, 1, cx]) = row3 at *
      generalize R (((2 * (cy - ty) + n : Int) : Rat) / 2) = q4 at *
      generalize rx (castL [0, -1, nx]) = row4 at *
      have c0 := (HDI.out _ hin.out.bel).1
      have c1 := (HDI.out _ hin.out.bel).2.1
      go_wp2_with fail
      go_quiet (fail)
      clear c0 c1
      go_wp2_with fail
      refine genw (fun W => ExS w W (.slice Av nv cv) es) (hin.out.to (below_drewN (Below.refl _ _) _)) ?_
      intro W5 hW5
      have HI5 := Lib.hid hW5
      clear hW5 hin
      obtain ⟨a0, a1, a2, a3, a4, a5, a6⟩ := HVI.out _ HI5.out.bel
      obtain ⟨d0, d1, d2⟩ := HDI.out _ HI5.out.bel
      have ma0 := cell_regrown a0
      have ma1 := cell_regrown a1
      have ma2 := cell_regrown a2
      have ma3 := cell_regrown a3
      have ma4 := cell_regrown a4
      have ma5 := cell_regrown a5
      have ma6 := cell_regrown a6
      have md0 := cell_regrown d0
      have md1 := cell_regrown d1
      have md2 := cell_regrown d2
      have e1 : ∀ args w, (callFunc 50 args).run Tryz.prog w = .ok (.enter 50 args) w := enters_of Tryz.func50 (by kernel_rfl) rfl
      have k1 := reg_of (w := W5) (fun W _ => HW1.out W)
      clear a0 a1 a2 a3 a4 a5 a6 d0 d1 d2
      go_wp2_with fail
      refine wp_region_quiet_below (by kernel_rfl) (by kernel_rfl) ?_
      repeat (go_big_quiet_step (fail))
      go_big_quiet_step (exact k1 _ _)
      repeat (go_big_quiet_step (fail))
      refine wpQuiet_nil ?_
      intro W6 hw'
      have hb6 : Below W5.heap.size W5 W6 := by obtain ⟨p, e⟩ := hw'; rw [e]; exact below_regrown W5 p.d p.os
      clear hw'
      have HI6 := Lib.hid (HI5.out.to hb6)
      clear ma0 ma1 ma2 ma3 ma4 ma5 ma6 md0 md1 md2 e1 k1 hb6 HI5 HW1
      go_wp2_with fail
      refine genw (fun W => ExS w W (.slice Av nv cv) es) HI6.out ?_
      intro W hW
      have H7 := Lib.hid hW
      clear hW HI6
      have HBD := Lib.hid (RowKit.Below.drew (Below.refl W.heap.size W))
      have HLN2 := Lib.hid (show ((es).length + 2) * 40 ≤ 140737488355328 by have := HSI.out; omega)
      go_region_held3 (fun E => E.cell? ⟨bt, ot + i * 7, none⟩ = some (.int .i64 tx))
        (first | exact (HVI.out _ HI9.out.bel).1 | exact (HVI.out _ HX.out.bel).1 | exact (HVI.out _ (bel_to H7.out.bel HB4.out)).1 | exact (HVI.out _ (bel_to H7.out.bel HB3.out)).1 | exact (HVI.out _ (bel_to H7.out.bel HB2.out)).1 | exact (HVI.out _ (bel_to H7.out.bel HB1.out)).1 | exact (HVI.out _ (bel_to H7.out.bel HBD.out)).1 | exact (HVI.out _ H7.out.bel).1 | exact (HVI.out _ (bel_to H7.out.bel (bel_to HB4.out (bel_al u4 (Obj.cells (bcs [((.slice A1 n1 c1 : Value), ((row1, q1) : BT)), ((.slice A2 n2 c2 : Value), ((row2, q2) : BT))]).toArray 79 (0, 0)))))).1)
        (first
        | (go_at_call 84; first
          | (have hz2 := HB2; clear hz2; refine (HO2.out _).mono ?_; rintro e u3 ⟨rfl, hb3⟩; have HB3 := Lib.hid (bel_to HB2.out hb3); have HV3 := Lib.hid (OwnS.below HV1.out hb3); clear hb3)
          | (refine (HO1.out _).mono ?_; rintro e u1 ⟨rfl, hb1⟩; have HB1 := Lib.hid (bel_to HBD.out hb1); clear hb1))
        | (go_at_call 108; first
          | (have hz3 := HB3; clear hz3; refine (HN2.out _).mono ?_; rintro e u4 ⟨v2, rfl, hb4, hv2⟩; have HB4 := Lib.hid (bel_to HB3.out hb4); obtain ⟨vr2, B2, rfl, ho2⟩ := hv2; obtain ⟨A2, n2, c2, rfl⟩ := OwnS.shape ho2; have HX := Lib.hid (H7.out.to (bel_to HB4.out (bel_al u4 (Obj.cells (bcs [((.slice A1 n1 c1 : Value), ((row1, q1) : BT)), ((.slice A2 n2 c2 : Value), ((row2, q2) : BT))]).toArray 79 (0, 0))))); have HGG := Lib.hid (good_two ((OwnS.below HV3.out hb4).below (bel_al u4 (Obj.cells (bcs [((.slice A1 n1 c1 : Value), ((row1, q1) : BT)), ((.slice A2 n2 c2 : Value), ((row2, q2) : BT))]).toArray 79 (0, 0)))) (OwnS.below ho2 (bel_al u4 (Obj.cells (bcs [((.slice A1 n1 c1 : Value), ((row1, q1) : BT)), ((.slice A2 n2 c2 : Value), ((row2, q2) : BT))]).toArray 79 (0, 0)))) (q := q1) (q2 := q2)); clear hb4 ho2)
          | (refine (HN1.out _).mono ?_; rintro e u2 ⟨v1, rfl, hb2, hv1⟩; have HB2 := Lib.hid (bel_to HB1.out hb2); obtain ⟨vr1, B1, rfl, ho1⟩ := hv1; obtain ⟨A1, n1, c1, rfl⟩ := OwnS.shape ho1; have HV1 := Lib.hid ho1; clear hb2 ho1))
        | (refine step_app_e rfl (.tmp 37) (.tmp 67) rfl rfl rfl HX.out.own (srcE_new u4 [((.slice A1 n1 c1 : Value), ((row1, q1) : BT)), ((.slice A2 n2 c2 : Value), ((row2, q2) : BT))]) HGG.out.good HX.out.bel.size HLN2.out ?_; intro v9 w9 ho9 hg9; obtain ⟨A9, n9, c9, rfl⟩ := OwnE.shape ho9; have HI9 := Lib.hid (ExS.app HX.out HGG.out ho9 hg9); clear ho9 hg9))
      all_goals
        refine genw (fun W => ExS w W (.slice A9 n9 c9) (es ++ [((.slice A1 n1 c1 : Value), ((row1, q1) : BT)), ((.slice A2 n2 c2 : Value), ((row2, q2) : BT))])) HI9.out ?_
        intro W8 hW
        have hes1 : ((es ++ [((.slice A1 n1 c1 : Value), ((row1, q1) : BT)), ((.slice A2 n2 c2 : Value), ((row2, q2) : BT))])).map (·.2) = es.map (·.2) ++ [((row1, q1) : BT), (row2, q2)] := by rw [List.map_append]; rfl
        have hlen1 : ((es ++ [((.slice A1 n1 c1 : Value), ((row1, q1) : BT)), ((.slice A2 n2 c2 : Value), ((row2, q2) : BT))])).length = es.length + 2 := by simp
        have H8 := Lib.hid hW
        clear hW HI9 HX HB1 HB2 HB3 HB4 HV1 HV3 HGG HBD HLN2 H7
        generalize (es ++ [((.slice A1 n1 c1 : Value), ((row1, q1) : BT)), ((.slice A2 n2 c2 : Value), ((row2, q2) : BT))]) = es1 at *
        have HES1 := Lib.hid hes1
        have HLE1 := Lib.hid hlen1
        clear hes1 hlen1
        go_wp2_with fail
        refine genw (fun W => ExS w W (.slice A9 n9 c9) es1) H8.out ?_
        clear H8
        intro W hW
        have H7 := Lib.hid hW
        clear hW
        have HBD := Lib.hid (RowKit.Below.drew (Below.refl W.heap.size W))
        have HLN2 := Lib.hid (show ((es1).length + 2) * 40 ≤ 140737488355328 by have := HSI.out; have := HLE1.out; omega)
        go_region_held3 (fun E => E.cell? ⟨bt, ot + i * 7 + 1, none⟩ = some (.int .i64 ty))
          (first | exact (HVI.out _ HI9.out.bel).2.1 | exact (HVI.out _ HX.out.bel).2.1 | exact (HVI.out _ (bel_to H7.out.bel HB4.out)).2.1 | exact (HVI.out _ (bel_to H7.out.bel HB3.out)).2.1 | exact (HVI.out _ (bel_to H7.out.bel HB2.out)).2.1 | exact (HVI.out _ (bel_to H7.out.bel HB1.out)).2.1 | exact (HVI.out _ (bel_to H7.out.bel HBD.out)).2.1 | exact (HVI.out _ H7.out.bel).2.1 | exact (HVI.out _ (bel_to H7.out.bel (bel_to HB4.out (bel_al u4 (Obj.cells (bcs [((.slice A1 n1 c1 : Value), ((row3, q3) : BT)), ((.slice A2 n2 c2 : Value), ((row4, q4) : BT))]).toArray 79 (0, 0)))))).2.1)
          (first
          | (go_at_call 84; first
            | (have hz2 := HB2; clear hz2; refine (HO4.out _).mono ?_; rintro e u3 ⟨rfl, hb3⟩; have HB3 := Lib.hid (bel_to HB2.out hb3); have HV3 := Lib.hid (OwnS.below HV1.out hb3); clear hb3)
            | (refine (HO3.out _).mono ?_; rintro e u1 ⟨rfl, hb1⟩; have HB1 := Lib.hid (bel_to HBD.out hb1); clear hb1))
          | (go_at_call 108; first
            | (have hz3 := HB3; clear hz3; refine (HN4.out _).mono ?_; rintro e u4 ⟨v2, rfl, hb4, hv2⟩; have HB4 := Lib.hid (bel_to HB3.out hb4); obtain ⟨vr2, B2, rfl, ho2⟩ := hv2; obtain ⟨A2, n2, c2, rfl⟩ := OwnS.shape ho2; have HX := Lib.hid (H7.out.to (bel_to HB4.out (bel_al u4 (Obj.cells (bcs [((.slice A1 n1 c1 : Value), ((row3, q3) : BT)), ((.slice A2 n2 c2 : Value), ((row4, q4) : BT))]).toArray 79 (0, 0))))); have HGG := Lib.hid (good_two ((OwnS.below HV3.out hb4).below (bel_al u4 (Obj.cells (bcs [((.slice A1 n1 c1 : Value), ((row3, q3) : BT)), ((.slice A2 n2 c2 : Value), ((row4, q4) : BT))]).toArray 79 (0, 0)))) (OwnS.below ho2 (bel_al u4 (Obj.cells (bcs [((.slice A1 n1 c1 : Value), ((row3, q3) : BT)), ((.slice A2 n2 c2 : Value), ((row4, q4) : BT))]).toArray 79 (0, 0)))) (q := q3) (q2 := q4)); clear hb4 ho2)
            | (refine (HN3.out _).mono ?_; rintro e u2 ⟨v1, rfl, hb2, hv1⟩; have HB2 := Lib.hid (bel_to HB1.out hb2); obtain ⟨vr1, B1, rfl, ho1⟩ := hv1; obtain ⟨A1, n1, c1, rfl⟩ := OwnS.shape ho1; have HV1 := Lib.hid ho1; clear hb2 ho1))
          | (refine step_app_e rfl (.tmp 69) (.tmp 99) rfl rfl rfl HX.out.own (srcE_new u4 [((.slice A1 n1 c1 : Value), ((row3, q3) : BT)), ((.slice A2 n2 c2 : Value), ((row4, q4) : BT))]) HGG.out.good HX.out.bel.size HLN2.out ?_; intro v9 w9 ho9 hg9; obtain ⟨A9, n9, c9, rfl⟩ := OwnE.shape ho9; have HI9 := Lib.hid (ExS.app HX.out HGG.out ho9 hg9); clear ho9 hg9))
        all_goals
          have hes2 : ((es1 ++ [((.slice A1 n1 c1 : Value), ((row3, q3) : BT)), ((.slice A2 n2 c2 : Value), ((row4, q4) : BT))])).map (·.2) = bx (bnds (pl.take (i + 1))) := by
            rw [List.map_append, HES1.out, hes.out, HTKI.out, List.append_assoc]
            rfl
          have HES2 := Lib.hid hes2
          clear hes2 HX HB1 HB2 HB3 HB4 HV1 HV3 HGG HBD HLN2 H7 HES1 HLE1 hes
          go_wp2
          go_roundw
          case rel => exact ⟨i + 1, _, by go_num, by omega, HI9, HES2⟩
          case measure => simp [intOf]; omega
    · obtain rfl : i = ts.length := by omega
      have hes2 := hes.out
      rw [HEND.out] at hes2
      have HE := Lib.hid (And.intro hin.out hes2)
      clear hes hes2 hin
      go_wp2
      go_ret
      exact ⟨_, es, rfl, HE.out.1, HE.out.2⟩
end W
end Go.Proofs.YtfcffheboncmbaaGreatDoor
end
