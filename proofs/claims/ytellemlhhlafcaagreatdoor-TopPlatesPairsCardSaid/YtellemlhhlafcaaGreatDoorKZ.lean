/-
  Chapter 46: the four bounds of a circle.
-/
import Derived.Test.YtellemlhhlafcaaGreatDoorKU
section
namespace Go.Proofs.YtellemlhhlafcaaGreatDoor
open Go Go.RowKit Go.Deep
def GoodT (w : World) (es : List (Value × M.BT)) : Prop := ∀ x ∈ es, ∃ B, OwnS w B x.1 x.2.1
theorem OwnS.shp {w : World} {B : Nat} {v : Value} {l : List (List UInt8)} (h : OwnS w B v l) : Shp v := by
  rcases h.2 with ⟨hv, _⟩ | ⟨g, cap, cur, hv, _⟩
  · exact Or.inl hv
  · exact Or.inr ⟨_, _, _, hv⟩
theorem GoodT.below {w w' : World} {es : List (Value × M.BT)} (h : GoodT w es) (hb : Below w.heap.size w w') : GoodT w' es := fun x hx => by
  obtain ⟨B, h1⟩ := h x hx
  exact ⟨B, h1.below hb⟩
theorem GoodT.good {w : World} {es : List (Value × M.BT)} (h : GoodT w es) : GoodE w es := fun x hx => by
  obtain ⟨B, h1⟩ := h x hx
  exact ⟨h1.rd, h1.shp⟩
theorem GoodT.append {w : World} {a b : List (Value × M.BT)} (h : GoodT w a) (h2 : GoodT w b) : GoodT w (a ++ b) := fun x hx => (List.mem_append.1 hx).elim (h x) (h2 x)
theorem ratBound : 86 ≠ 138 := by decide
theorem GoodT.grown {w w' : World} {B : Nat} {v : Value} {es es0 : List (Value × M.BT)} (h : GoodT w es) (ho : OwnE w B v es0) (hg : w.grownBy w' v.ownBlock) : GoodT w' es := fun x hx => by
  obtain ⟨B1, h1⟩ := h x hx
  refine ⟨B1, World.ownsRow.kept h1 hg ?_⟩
  rcases h1.2 with ⟨hv, _⟩ | ⟨g, cap, cur, hv, _, hh, _⟩
  · exact Or.inl (by rw [hv]; rfl)
  · right
    rw [hv]
    rcases ho.2 with ⟨hv2, _⟩ | ⟨g2, cap2, cur2, hv2, _, hh2, _⟩
    · rw [hv2]; intro e; cases e
    · rw [hv2]
      intro e
      injection e with e
      simp only at e
      rw [e, hh2] at hh
      injection hh with hh
      injection hh with _ hh _
      exact ratBound hh.symm
def IsBd (b : M.BT) (w : World) (v : Value) : Prop := ∃ vr B, v = .agg #[vr, .string (bs b.2)] ∧ OwnS w B vr b.1
theorem IsBd.below {b : M.BT} {w w' : World} {v : Value} (hb : Below w.heap.size w w') (h : IsBd b w v) : IsBd b w' v := by
  obtain ⟨vr, B, e, h1⟩ := h
  exact ⟨vr, B, e, h1.below hb⟩
def IsBs (l : List M.BT) (w : World) (v : Value) : Prop := ∃ es, l = es.map (·.2) ∧ GoodT w es ∧ ∃ g, v = .slice (some ⟨g, 0, none⟩) es.length es.length ∧ Row w g 138 (bcs es)
theorem IsBs.below {l : List M.BT} {w w' : World} {v : Value} (hb : Below w.heap.size w w') (h : IsBs l w v) : IsBs l w' v := by
  obtain ⟨es, e, h1, g, h2, h3⟩ := h
  exact ⟨es, e, h1.below hb, g, h2, h3.below' hb⟩
theorem IsBs.src {l : List M.BT} {w : World} {v : Value} (h : IsBs l w v) : ∃ es, l = es.map (·.2) ∧ GoodT w es ∧ SrcE w v es := by
  obtain ⟨es, e, h1, g, rfl, h3⟩ := h
  refine ⟨es, e, h1, Or.inr ⟨⟨g, 0, none⟩, es.length, rfl, fun j u hj => ?_⟩⟩
  have hadd : (⟨g, 0, none⟩ : Addr).add j = ⟨g, j, none⟩ := by unfold Addr.add; split <;> simp_all
  rw [hadd]
  exact h3.cell hj
def bd4c (C : Value) (i : Nat) (ab xb : Nat) (tx ty cx cy : Int) : List (Nat × Value) :=
  [(1, .int .i64 (i : Int)), (5, .pointer (some ⟨ab, 0, none⟩)), (6, .pointer (some ⟨xb, 0, none⟩)), (7, C),
   (22, C), (23, .int .i64 (i : Int)), (24, .pointer (some ⟨ab, 0, none⟩)), (25, .int .i64 tx), (26, .pointer (some ⟨xb, 0, none⟩)), (27, .int .i64 cx), (28, .int .i64 (tx - cx)), (29, .pointer (some ⟨xb, 1, none⟩)), (30, .int .i64 cy), (31, .int .i64 (-cy)),
   (34, C), (35, .int .i64 (i : Int)), (36, .pointer (some ⟨xb, 0, none⟩)), (37, .int .i64 cx), (38, .pointer (some ⟨ab, 0, none⟩)), (39, .int .i64 tx), (40, .int .i64 (cx - tx)), (41, .pointer (some ⟨xb, 1, none⟩)), (42, .int .i64 cy),
   (45, C), (46, .int .i64 (i : Int)), (47, .pointer (some ⟨ab, 1, none⟩)), (48, .int .i64 ty), (49, .pointer (some ⟨xb, 1, none⟩)), (50, .int .i64 cy), (51, .int .i64 (ty - cy)), (52, .pointer (some ⟨xb, 0, none⟩)), (53, .int .i64 cx),
   (56, C), (57, .int .i64 (i : Int)), (58, .pointer (some ⟨xb, 1, none⟩)), (59, .int .i64 cy), (60, .pointer (some ⟨ab, 1, none⟩)), (61, .int .i64 ty), (62, .int .i64 (cy - ty)), (63, .pointer (some ⟨xb, 0, none⟩)), (64, .int .i64 cx), (65, .int .i64 (-cx))]
def bd4r (r1 r2 r3 r4 : List Int) (b1 b2 b3 b4 : M.BT) : List (Nat × (World → Value → Prop)) :=
  [(32, fun w v => RdI w v r1), (33, IsBd b1), (43, fun w v => RdI w v r2), (44, IsBd b2), (54, fun w v => RdI w v r3), (55, IsBd b3), (66, fun w v => RdI w v r4), (67, IsBd b4), (68, IsBs [b1, b2, b3, b4]), (4, IsBs [b1, b2, b3, b4])]
theorem bd4r_st (r1 r2 r3 r4 : List Int) (b1 b2 b3 b4 : M.BT) : ∀ p ∈ bd4r r1 r2 r3 r4 b1 b2 b3 b4, ∀ w w' v, Below w.heap.size w w' → p.2 w v → p.2 w' v := by
  intro p hp w w' v hb h
  simp only [bd4r, List.mem_cons, List.not_mem_nil, or_false] at hp
  rcases hp with rfl | rfl | rfl | rfl | rfl | rfl | rfl | rfl | rfl | rfl
  · exact RdI.below h hb
  · exact IsBd.below hb h
  · exact RdI.below h hb
  · exact IsBd.below hb h
  · exact RdI.below h hb
  · exact IsBd.below hb h
  · exact RdI.below h hb
  · exact IsBd.below hb h
  · exact IsBs.below hb h
  · exact IsBs.below hb h
namespace W
open M
attribute [local go_sem] bs_size bs_toList bs_get bs_extract bs_append bs_lit0 bs_lit1 lit1_bs
set_option maxHeartbeats 4000000
set_option maxRecDepth 20000
theorem pbound_is (va vt vc vw : Value) (al row : List Int) (i : Nat) (off : Int) (w : World) (hg : Glob w) (ha : RdI w va al) (hw : RdI w vw row) (hi : i < al.length) (hz : al[i].natAbs < 10 ^ 8) (ho : off.natAbs < 10 ^ 8) (hr : row.length ≤ 8) (hrz : ∀ z ∈ row, z.natAbs < 10 ^ 8) :
    Calls Tryz.prog 148 #[.agg #[va, vt, vc], .int .i64 (i : Int), .int .i64 off, vw] w (fun e w' => ∃ v, e = .returned v ∧ Below w.heap.size w w' ∧ IsBd (rx (castL row), R (((2 * off + al[i] : Int) : Rat) / 2)) w' v) := by
  refine (pbound va vt vc vw al row i off w hg ha hw hi hz ho hr hrz).mono ?_
  rintro e w' ⟨vr, rfl, h1, h2⟩
  exact ⟨_, rfl, h2, vr, _, rfl, h1⟩
theorem pbounds (va vt vc : Value) (al : List Int) (ts : List Tg) (cs : List Cc) (i : Nat) (w : World) (hg : Glob w) (ha : RdI w va al) (ht : RdG w vt ts) (hc : RdC w vc cs) (hi : i < al.length) (hit : i < ts.length) (hic : i < cs.length)
    (hz : al[i].natAbs < 10 ^ 7) (hrt : RtT ts[i]) (hrc : RtC cs[i]) :
    Calls Tryz.prog 102 #[.agg #[va, vt, vc], .int .i64 (i : Int)] w (fun e w' => ∃ v, e = .returned v ∧ IsBs [(rx (castL [1, 0, -cs[i].y]), R (((2 * (ts[i].x - cs[i].x) + al[i] : Int) : Rat) / 2)), (rx (castL [-1, 0, cs[i].y]), R (((2 * (cs[i].x - ts[i].x) + al[i] : Int) : Rat) / 2)),
      (rx (castL [0, 1, cs[i].x]), R (((2 * (ts[i].y - cs[i].y) + al[i] : Int) : Rat) / 2)), (rx (castL [0, -1, -cs[i].x]), R (((2 * (cs[i].y - ts[i].y) + al[i] : Int) : Rat) / 2))] w' v ∧ Below w.heap.size w w') := by
  have HPB := Lib.hid (fun (row : List Int) (off : Int) vw W (hW : Below w.heap.size w W) (hv : RdI W vw row) (ho : off.natAbs < 10 ^ 8) (hr : row.length ≤ 8) (hrz : ∀ z ∈ row, z.natAbs < 10 ^ 8) => pbound_is va vt vc vw al row i off W (hg.of hW) (ha.below hW) hv hi (by omega) ho hr hrz)
  have q1 := hrt.x
  have q2 := hrt.y
  have q3 := hrc.x
  have q4 := hrc.y
  obtain ⟨A0, c0, rfl⟩ := ha.len
  obtain ⟨At, ct, rfl⟩ := ht.len
  obtain ⟨Ac, cc, rfl⟩ := hc.len
  have hmf : ∀ (fn : Fn) (first cap : Array Value) (w : World), (Instr.makeFunc fn first cap).run Tryz.prog w = .ok (.func fn first cap) w := fun _ _ _ _ => rfl
  have hb0 := bel_al w (.cells #[.slice A0 al.length c0, .slice At ts.length ct, .slice Ac cs.length cc] 132 (0, 0))
  obtain ⟨b1, o1, rfl, hw⟩ := (ht.below hb0).row i hit
  obtain ⟨b2, o2, rfl, hv⟩ := (hc.below hb0).row i hic
  obtain ⟨t0, t1, tz⟩ := hw.val i hit
  obtain ⟨d0, d1, dz⟩ := hv.val i hic
  clear tz dz
  have hi0 : (0 : Int) ≤ (i : Int) := by omega
  have hi1 : (i : Int) < (ts.length : Int) := by omega
  have hi2 : (i : Int) < (cs.length : Int) := by omega
  have t0B : ∀ o : Obj, ((w.alloc (.cells #[.slice A0 al.length c0, .slice (some ⟨b1, o1, none⟩) ts.length ct, .slice (some ⟨b2, o2, none⟩) cs.length cc] 132 (0, 0))).alloc o).cell? ⟨b1, o1 + i * 7, none⟩ = some (.int .i64 ts[i].x) := fun o => ((hw.below' (bel_al _ o)).val i hit).1
  have t0C : ∀ o o' : Obj, (((w.alloc (.cells #[.slice A0 al.length c0, .slice (some ⟨b1, o1, none⟩) ts.length ct, .slice (some ⟨b2, o2, none⟩) cs.length cc] 132 (0, 0))).alloc o).alloc o').cell? ⟨b1, o1 + i * 7, none⟩ = some (.int .i64 ts[i].x) := fun o o' => ((hw.below' (bel_al2 _ o o')).val i hit).1
  have t1B : ∀ o : Obj, ((w.alloc (.cells #[.slice A0 al.length c0, .slice (some ⟨b1, o1, none⟩) ts.length ct, .slice (some ⟨b2, o2, none⟩) cs.length cc] 132 (0, 0))).alloc o).cell? ⟨b1, o1 + i * 7 + 1, none⟩ = some (.int .i64 ts[i].y) := fun o => ((hw.below' (bel_al _ o)).val i hit).2.1
  have t1C : ∀ o o' : Obj, (((w.alloc (.cells #[.slice A0 al.length c0, .slice (some ⟨b1, o1, none⟩) ts.length ct, .slice (some ⟨b2, o2, none⟩) cs.length cc] 132 (0, 0))).alloc o).alloc o').cell? ⟨b1, o1 + i * 7 + 1, none⟩ = some (.int .i64 ts[i].y) := fun o o' => ((hw.below' (bel_al2 _ o o')).val i hit).2.1
  have d0B : ∀ o : Obj, ((w.alloc (.cells #[.slice A0 al.length c0, .slice (some ⟨b1, o1, none⟩) ts.length ct, .slice (some ⟨b2, o2, none⟩) cs.length cc] 132 (0, 0))).alloc o).cell? ⟨b2, o2 + i * 3, none⟩ = some (.int .i64 cs[i].x) := fun o => ((hv.below' (bel_al _ o)).val i hic).1
  have d0C : ∀ o o' : Obj, (((w.alloc (.cells #[.slice A0 al.length c0, .slice (some ⟨b1, o1, none⟩) ts.length ct, .slice (some ⟨b2, o2, none⟩) cs.length cc] 132 (0, 0))).alloc o).alloc o').cell? ⟨b2, o2 + i * 3, none⟩ = some (.int .i64 cs[i].x) := fun o o' => ((hv.below' (bel_al2 _ o o')).val i hic).1
  have d1B : ∀ o : Obj, ((w.alloc (.cells #[.slice A0 al.length c0, .slice (some ⟨b1, o1, none⟩) ts.length ct, .slice (some ⟨b2, o2, none⟩) cs.length cc] 132 (0, 0))).alloc o).cell? ⟨b2, o2 + i * 3 + 1, none⟩ = some (.int .i64 cs[i].y) := fun o => ((hv.below' (bel_al _ o)).val i hic).2.1
  have d1C : ∀ o o' : Obj, (((w.alloc (.cells #[.slice A0 al.length c0, .slice (some ⟨b1, o1, none⟩) ts.length ct, .slice (some ⟨b2, o2, none⟩) cs.length cc] 132 (0, 0))).alloc o).alloc o').cell? ⟨b2, o2 + i * 3 + 1, none⟩ = some (.int .i64 cs[i].y) := fun o o' => ((hv.below' (bel_al2 _ o o')).val i hic).2.1
  generalize ts[i].x = tx at *
  generalize ts[i].y = ty at *
  generalize cs[i].x = cx at *
  generalize cs[i].y = cy at *
  generalize al[i] = n at *
  have hsub1 : wrap64 (tx - cx) = tx - cx := by unfold wrap64; omega
  have hsub2 : wrap64 (cx - tx) = cx - tx := by unfold wrap64; omega
  have hsub3 : wrap64 (ty - cy) = ty - cy := by unfold wrap64; omega
  have hsub4 : wrap64 (cy - ty) = cy - ty := by unfold wrap64; omega
  have hneg1 : wrap64 (-cx) = -cx := by unfold wrap64; omega
  have hneg2 : wrap64 (-cy) = -cy := by unfold wrap64; omega
  have hsub5 : IntKind.i64.wrap (tx - cx) = tx - cx := IntWalk.i64_in _ (by omega)
  have hsub6 : IntKind.i64.wrap (cx - tx) = cx - tx := IntWalk.i64_in _ (by omega)
  have hsub7 : IntKind.i64.wrap (ty - cy) = ty - cy := IntWalk.i64_in _ (by omega)
  have hsub8 : IntKind.i64.wrap (cy - ty) = cy - ty := IntWalk.i64_in _ (by omega)
  have hneg3 : IntKind.i64.wrap (-cx) = -cx := IntWalk.i64_in _ (by omega)
  have hneg4 : IntKind.i64.wrap (-cy) = -cy := IntWalk.i64_in _ (by omega)
  have hr3 : ∀ {a b c : Int} {z : Int}, a.natAbs < 10 ^ 8 → b.natAbs < 10 ^ 8 → c.natAbs < 10 ^ 8 → z ∈ [a, b, c] → z.natAbs < 10 ^ 8 := fun ha hb hc h => by
    simp only [List.mem_cons, List.not_mem_nil, or_false] at h
    rcases h with rfl | rfl | rfl
    · exact ha
    · exact hb
    · exact hc
  have HP1 := Lib.hid (fun vw W hW hv => HPB.out [1, 0, -cy] (tx - cx) vw W hW hv (by omega) (by simp) (fun z h => hr3 (by decide) (by decide) (by omega) h))
  have HP2 := Lib.hid (fun vw W hW hv => HPB.out [-1, 0, cy] (cx - tx) vw W hW hv (by omega) (by simp) (fun z h => hr3 (by decide) (by decide) (by omega) h))
  have HP3 := Lib.hid (fun vw W hW hv => HPB.out [0, 1, cx] (ty - cy) vw W hW hv (by omega) (by simp) (fun z h => hr3 (by decide) (by decide) (by omega) h))
  have HP4 := Lib.hid (fun vw W hW hv => HPB.out [0, -1, -cx] (cy - ty) vw W hW hv (by omega) (by simp) (fun z h => hr3 (by decide) (by decide) (by omega) h))
  obtain ⟨B1, hB1⟩ : ∃ B1 : BT, B1 = (rx (castL [1, 0, -cy]), R (((2 * (tx - cx) + n : Int) : Rat) / 2)) := ⟨_, rfl⟩
  obtain ⟨B2, hB2⟩ : ∃ B2 : BT, B2 = (rx (castL [-1, 0, cy]), R (((2 * (cx - tx) + n : Int) : Rat) / 2)) := ⟨_, rfl⟩
  obtain ⟨B3, hB3⟩ : ∃ B3 : BT, B3 = (rx (castL [0, 1, cx]), R (((2 * (ty - cy) + n : Int) : Rat) / 2)) := ⟨_, rfl⟩
  obtain ⟨B4, hB4⟩ : ∃ B4 : BT, B4 = (rx (castL [0, -1, -cx]), R (((2 * (cy - ty) + n : Int) : Rat) / 2)) := ⟨_, rfl⟩
  rw [← hB1] at HP1 ⊢
  rw [← hB2] at HP2 ⊢
  rw [← hB3] at HP3 ⊢
  rw [← hB4] at HP4 ⊢
  clear hw hv HPB hB1 hB2 hB3 hB4 hr3 q1 q2 q3 q4 hrt hrc hz hg ha ht hc hb0
  go_enter Tryz.func102, Tryz.ntmps102
  go_wp2
  go_region
  all_goals go_wp2
  all_goals clear t0 t1 d0 d1 t0B t1B d0B d1B t0C t1C d0C d1C
  · have hbW : Below w.heap.size w ((((w.alloc (.cells #[.slice A0 al.length c0, .slice (some ⟨b1, o1, none⟩) ts.length ct, .slice (some ⟨b2, o2, none⟩) cs.length cc] 132 (0, 0))).alloc (.cells #[.int .i64 tx, .int .i64 ty] 23 (0, 0))).alloc (.cells #[.int .i64 cx, .int .i64 cy] 23 (0, 0))).drew) := RowKit.Below.drew ((bel_al2 _ _ _).alloc (bel_al2 _ _ _).size _)
    have hr1 : Row ((((w.alloc (.cells #[.slice A0 al.length c0, .slice (some ⟨b1, o1, none⟩) ts.length ct, .slice (some ⟨b2, o2, none⟩) cs.length cc] 132 (0, 0))).alloc (.cells #[.int .i64 tx, .int .i64 ty] 23 (0, 0))).alloc (.cells #[.int .i64 cx, .int .i64 cy] 23 (0, 0))).drew) (w.heap.size + 1) 23 [.int .i64 tx, .int .i64 ty] := (rnew0 (World.size_alloc _ _).symm).alloc _
    have hr2 : Row ((((w.alloc (.cells #[.slice A0 al.length c0, .slice (some ⟨b1, o1, none⟩) ts.length ct, .slice (some ⟨b2, o2, none⟩) cs.length cc] 132 (0, 0))).alloc (.cells #[.int .i64 tx, .int .i64 ty] 23 (0, 0))).alloc (.cells #[.int .i64 cx, .int .i64 cy] 23 (0, 0))).drew) (w.heap.size + 1 + 1) 23 [.int .i64 cx, .int .i64 cy] := rnew0 (by rw [World.size_alloc, World.size_alloc])
    have HBW := Lib.hid hbW
    have HRA := Lib.hid hr1
    have HRX := Lib.hid hr2
    clear hbW hr1 hr2
    generalize (((w.alloc (.cells #[.slice A0 al.length c0, .slice (some ⟨b1, o1, none⟩) ts.length ct, .slice (some ⟨b2, o2, none⟩) cs.length cc] 132 (0, 0))).alloc (.cells #[.int .i64 tx, .int .i64 ty] 23 (0, 0))).alloc (.cells #[.int .i64 cx, .int .i64 cy] 23 (0, 0))).drew = W at *
    generalize w.heap.size + 1 + 1 = xb at *
    generalize w.heap.size + 1 = ab at *
    have HCL : Hid (∀ w', Below W.heap.size W w' → w'.cell? ⟨ab, 0, none⟩ = some (.int .i64 tx) ∧ w'.cell? ⟨ab, 1, none⟩ = some (.int .i64 ty) ∧ w'.cell? ⟨xb, 0, none⟩ = some (.int .i64 cx) ∧ w'.cell? ⟨xb, 1, none⟩ = some (.int .i64 cy)) :=
      Lib.hid fun w' hb => ⟨(HRA.out.below' hb).cell rfl, (HRA.out.below' hb).cell rfl, (HRX.out.below' hb).cell rfl, (HRX.out.below' hb).cell rfl⟩
    clear HRA HRX
    obtain ⟨C, hC⟩ : ∃ C, C = Value.func (.func 148) #[.agg #[.slice A0 al.length c0, .slice (some ⟨b1, o1, none⟩) ts.length ct, .slice (some ⟨b2, o2, none⟩) cs.length cc]] #[] := ⟨_, rfl⟩
    have HC := Lib.hid hC
    have HPB33 := Lib.hid (fun w' (hb : Below W.heap.size W w') vs hv => HP1.out vs w' (bel_to HBW.out hb) hv)
    have HPB44 := Lib.hid (fun w' (hb : Below W.heap.size W w') vs hv => HP2.out vs w' (bel_to HBW.out hb) hv)
    have HPB55 := Lib.hid (fun w' (hb : Below W.heap.size W w') vs hv => HP3.out vs w' (bel_to HBW.out hb) hv)
    have HPB67 := Lib.hid (fun w' (hb : Below W.heap.size W w') vs hv => HP4.out vs w' (bel_to HBW.out hb) hv)
    clear hC
    refine region_grow (ψ := psi (bd4c C i ab xb tx ty cx cy) (bd4r [1, 0, -cy] [-1, 0, cy] [0, 1, cx] [0, -1, -cx] B1 B2 B3 B4)) 69 (by kernel_rfl) (by kernel_rfl) (psi_st (bd4r_st _ _ _ _ _ _ _ _)) rfl ?_ ?_ ?_
    · intro t ht hno
      unfold psi
      split
      · rename_i c hc
        have hm := lookup_mem hc
        simp only [bd4c, List.mem_cons, List.not_mem_nil, or_false, Prod.mk.injEq] at hm
        repeat' (rcases hm with ⟨rfl, rfl⟩ | hm)
        all_goals first
          | rfl
          | exact Bool.noConfusion (show true = false from hno)
          | (rw [HC.out]; rfl)
          | (obtain ⟨rfl, rfl⟩ := hm; exact Bool.noConfusion (show true = false from hno))
      · split
        · rename_i p hp
          have hm := lookup_mem hp
          simp only [bd4r, List.mem_cons, List.not_mem_nil, or_false, Prod.mk.injEq] at hm
          repeat' (rcases hm with ⟨rfl, rfl⟩ | hm)
          all_goals first
            | exact Bool.noConfusion (show true = false from hno)
            | (obtain ⟨rfl, rfl⟩ := hm; exact Bool.noConfusion (show true = false from hno))
        · trivial
    · repeat' (first | exact List.forall_mem_nil _ | refine List.forall_mem_cons.2 ⟨?_, ?_⟩)
      · intro a w' hb hN hpre
        have h7 : a.tmps.getD 7 undef = (C : Value) := hpre 7 (by simp [Op.operands])
        exact step_val (v := C) rfl (by rw [← h7]; rfl) rfl
      · intro a w' hb hN hpre
        have h1 : a.tmps.getD 1 undef = (.int .i64 (i : Int) : Value) := hpre 1 (by simp [Op.operands])
        exact step_val (v := .int .i64 (i : Int)) rfl (by rw [← h1]; rfl) rfl
      · intro a w' hb hN hpre
        have h5 : a.tmps.getD 5 undef = (.pointer (some ⟨ab, 0, none⟩) : Value) := hpre 5 (by simp [Op.operands])
        exact step_val (v := .pointer (some ⟨ab, 0, none⟩)) rfl (by simp only [execOp, Act.eval, h5]; go_simp) rfl
      · intro a w' hb hN hpre
        have h24 : a.tmps.getD 24 undef = (.pointer (some ⟨ab, 0, none⟩) : Value) := hpre 24 (by simp [Op.operands])
        obtain ⟨x0, x1, x2, x3⟩ := HCL.out w' hb
        exact step_val (v := .int .i64 tx) rfl (by simp only [execOp, Act.eval, h24]; go_simp) rfl
      · intro a w' hb hN hpre
        have h6 : a.tmps.getD 6 undef = (.pointer (some ⟨xb, 0, none⟩) : Value) := hpre 6 (by simp [Op.operands])
        exact step_val (v := .pointer (some ⟨xb, 0, none⟩)) rfl (by simp only [execOp, Act.eval, h6]; go_simp) rfl
      · intro a w' hb hN hpre
        have h26 : a.tmps.getD 26 undef = (.pointer (some ⟨xb, 0, none⟩) : Value) := hpre 26 (by simp [Op.operands])
        obtain ⟨x0, x1, x2, x3⟩ := HCL.out w' hb
        exact step_val (v := .int .i64 cx) rfl (by simp only [execOp, Act.eval, h26]; go_simp) rfl
      · intro a w' hb hN hpre
        have h25 : a.tmps.getD 25 undef = (.int .i64 tx : Value) := hpre 25 (by simp [Op.operands])
        have h27 : a.tmps.getD 27 undef = (.int .i64 cx : Value) := hpre 27 (by simp [Op.operands])
        exact step_val (v := .int .i64 (tx - cx)) rfl (by simp only [execOp, Act.eval, h25, h27]; go_simp) rfl
      · intro a w' hb hN hpre
        have h6 : a.tmps.getD 6 undef = (.pointer (some ⟨xb, 0, none⟩) : Value) := hpre 6 (by simp [Op.operands])
        exact step_val (v := .pointer (some ⟨xb, 1, none⟩)) rfl (by simp only [execOp, Act.eval, h6]; go_simp) rfl
      · intro a w' hb hN hpre
        have h29 : a.tmps.getD 29 undef = (.pointer (some ⟨xb, 1, none⟩) : Value) := hpre 29 (by simp [Op.operands])
        obtain ⟨x0, x1, x2, x3⟩ := HCL.out w' hb
        exact step_val (v := .int .i64 cy) rfl (by simp only [execOp, Act.eval, h29]; go_simp) rfl
      · intro a w' hb hN hpre
        have h30 : a.tmps.getD 30 undef = (.int .i64 cy : Value) := hpre 30 (by simp [Op.operands])
        exact step_val (v := .int .i64 (-cy)) rfl (by simp only [execOp, Act.eval, h30]; go_simp) rfl
      · intro a w' hb hN hpre
        have h31 : a.tmps.getD 31 undef = (.int .i64 (-cy) : Value) := hpre 31 (by simp [Op.operands])
        exact step_grow (w1 := w'.alloc (.cells (IntC [1, 0, -cy]).toArray 3 (0, 0))) rfl (by simp only [execOp, List.map_toArray, List.map_cons, List.map_nil, Act.eval, h31]; go_simp) (bel_al _ _) (rdI_new w' [1, 0, -cy])
      · intro a w' hb hN hpre
        have h22 : a.tmps.getD 22 undef = C := hpre 22 (by simp [Op.operands, Call.operands])
        have h23 : a.tmps.getD 23 undef = (.int .i64 (i : Int) : Value) := hpre 23 (by simp [Op.operands, Call.operands])
        have h28 : a.tmps.getD 28 undef = (.int .i64 (tx - cx) : Value) := hpre 28 (by simp [Op.operands, Call.operands])
        have h32 : RdI w' (a.tmps.getD 32 undef) [1, 0, -cy] := hpre 32 (by simp [Op.operands, Call.operands])
        obtain ⟨vs, hvs⟩ : ∃ vs, vs = a.tmps.getD 32 undef := ⟨_, rfl⟩
        rw [← hvs] at h32
        have hvs2 := hvs.symm
        clear hvs
        exact step_call (f := 148) rfl (by rw [HC.out] at h22; go_simp) (HPB33.out w' hb vs h32)
      · intro a w' hb hN hpre
        have h7 : a.tmps.getD 7 undef = (C : Value) := hpre 7 (by simp [Op.operands])
        exact step_val (v := C) rfl (by rw [← h7]; rfl) rfl
      · intro a w' hb hN hpre
        have h1 : a.tmps.getD 1 undef = (.int .i64 (i : Int) : Value) := hpre 1 (by simp [Op.operands])
        exact step_val (v := .int .i64 (i : Int)) rfl (by rw [← h1]; rfl) rfl
      · intro a w' hb hN hpre
        have h6 : a.tmps.getD 6 undef = (.pointer (some ⟨xb, 0, none⟩) : Value) := hpre 6 (by simp [Op.operands])
        exact step_val (v := .pointer (some ⟨xb, 0, none⟩)) rfl (by simp only [execOp, Act.eval, h6]; go_simp) rfl
      · intro a w' hb hN hpre
        have h36 : a.tmps.getD 36 undef = (.pointer (some ⟨xb, 0, none⟩) : Value) := hpre 36 (by simp [Op.operands])
        obtain ⟨x0, x1, x2, x3⟩ := HCL.out w' hb
        exact step_val (v := .int .i64 cx) rfl (by simp only [execOp, Act.eval, h36]; go_simp) rfl
      · intro a w' hb hN hpre
        have h5 : a.tmps.getD 5 undef = (.pointer (some ⟨ab, 0, none⟩) : Value) := hpre 5 (by simp [Op.operands])
        exact step_val (v := .pointer (some ⟨ab, 0, none⟩)) rfl (by simp only [execOp, Act.eval, h5]; go_simp) rfl
      · intro a w' hb hN hpre
        have h38 : a.tmps.getD 38 undef = (.pointer (some ⟨ab, 0, none⟩) : Value) := hpre 38 (by simp [Op.operands])
        obtain ⟨x0, x1, x2, x3⟩ := HCL.out w' hb
        exact step_val (v := .int .i64 tx) rfl (by simp only [execOp, Act.eval, h38]; go_simp) rfl
      · intro a w' hb hN hpre
        have h37 : a.tmps.getD 37 undef = (.int .i64 cx : Value) := hpre 37 (by simp [Op.operands])
        have h39 : a.tmps.getD 39 undef = (.int .i64 tx : Value) := hpre 39 (by simp [Op.operands])
        exact step_val (v := .int .i64 (cx - tx)) rfl (by simp only [execOp, Act.eval, h37, h39]; go_simp) rfl
      · intro a w' hb hN hpre
        have h6 : a.tmps.getD 6 undef = (.pointer (some ⟨xb, 0, none⟩) : Value) := hpre 6 (by simp [Op.operands])
        exact step_val (v := .pointer (some ⟨xb, 1, none⟩)) rfl (by simp only [execOp, Act.eval, h6]; go_simp) rfl
      · intro a w' hb hN hpre
        have h41 : a.tmps.getD 41 undef = (.pointer (some ⟨xb, 1, none⟩) : Value) := hpre 41 (by simp [Op.operands])
        obtain ⟨x0, x1, x2, x3⟩ := HCL.out w' hb
        exact step_val (v := .int .i64 cy) rfl (by simp only [execOp, Act.eval, h41]; go_simp) rfl
      · intro a w' hb hN hpre
        have h42 : a.tmps.getD 42 undef = (.int .i64 cy : Value) := hpre 42 (by simp [Op.operands])
        exact step_grow (w1 := w'.alloc (.cells (IntC [-1, 0, cy]).toArray 3 (0, 0))) rfl (by simp only [execOp, List.map_toArray, List.map_cons, List.map_nil, Act.eval, h42]; go_simp) (bel_al _ _) (rdI_new w' [-1, 0, cy])
      · intro a w' hb hN hpre
        have h34 : a.tmps.getD 34 undef = C := hpre 34 (by simp [Op.operands, Call.operands])
        have h35 : a.tmps.getD 35 undef = (.int .i64 (i : Int) : Value) := hpre 35 (by simp [Op.operands, Call.operands])
        have h40 : a.tmps.getD 40 undef = (.int .i64 (cx - tx) : Value) := hpre 40 (by simp [Op.operands, Call.operands])
        have h43 : RdI w' (a.tmps.getD 43 undef) [-1, 0, cy] := hpre 43 (by simp [Op.operands, Call.operands])
        obtain ⟨vs, hvs⟩ : ∃ vs, vs = a.tmps.getD 43 undef := ⟨_, rfl⟩
        rw [← hvs] at h43
        have hvs2 := hvs.symm
        clear hvs
        exact step_call (f := 148) rfl (by rw [HC.out] at h34; go_simp) (HPB44.out w' hb vs h43)
      · intro a w' hb hN hpre
        have h7 : a.tmps.getD 7 undef = (C : Value) := hpre 7 (by simp [Op.operands])
        exact step_val (v := C) rfl (by rw [← h7]; rfl) rfl
      · intro a w' hb hN hpre
        have h1 : a.tmps.getD 1 undef = (.int .i64 (i : Int) : Value) := hpre 1 (by simp [Op.operands])
        exact step_val (v := .int .i64 (i : Int)) rfl (by rw [← h1]; rfl) rfl
      · intro a w' hb hN hpre
        have h5 : a.tmps.getD 5 undef = (.pointer (some ⟨ab, 0, none⟩) : Value) := hpre 5 (by simp [Op.operands])
        exact step_val (v := .pointer (some ⟨ab, 1, none⟩)) rfl (by simp only [execOp, Act.eval, h5]; go_simp) rfl
      · intro a w' hb hN hpre
        have h47 : a.tmps.getD 47 undef = (.pointer (some ⟨ab, 1, none⟩) : Value) := hpre 47 (by simp [Op.operands])
        obtain ⟨x0, x1, x2, x3⟩ := HCL.out w' hb
        exact step_val (v := .int .i64 ty) rfl (by simp only [execOp, Act.eval, h47]; go_simp) rfl
      · intro a w' hb hN hpre
        have h6 : a.tmps.getD 6 undef = (.pointer (some ⟨xb, 0, none⟩) : Value) := hpre 6 (by simp [Op.operands])
        exact step_val (v := .pointer (some ⟨xb, 1, none⟩)) rfl (by simp only [execOp, Act.eval, h6]; go_simp) rfl
      · intro a w' hb hN hpre
        have h49 : a.tmps.getD 49 undef = (.pointer (some ⟨xb, 1, none⟩) : Value) := hpre 49 (by simp [Op.operands])
        obtain ⟨x0, x1, x2, x3⟩ := HCL.out w' hb
        exact step_val (v := .int .i64 cy) rfl (by simp only [execOp, Act.eval, h49]; go_simp) rfl
      · intro a w' hb hN hpre
        have h48 : a.tmps.getD 48 undef = (.int .i64 ty : Value) := hpre 48 (by simp [Op.operands])
        have h50 : a.tmps.getD 50 undef = (.int .i64 cy : Value) := hpre 50 (by simp [Op.operands])
        exact step_val (v := .int .i64 (ty - cy)) rfl (by simp only [execOp, Act.eval, h48, h50]; go_simp) rfl
      · intro a w' hb hN hpre
        have h6 : a.tmps.getD 6 undef = (.pointer (some ⟨xb, 0, none⟩) : Value) := hpre 6 (by simp [Op.operands])
        exact step_val (v := .pointer (some ⟨xb, 0, none⟩)) rfl (by simp only [execOp, Act.eval, h6]; go_simp) rfl
      · intro a w' hb hN hpre
        have h52 : a.tmps.getD 52 undef = (.pointer (some ⟨xb, 0, none⟩) : Value) := hpre 52 (by simp [Op.operands])
        obtain ⟨x0, x1, x2, x3⟩ := HCL.out w' hb
        exact step_val (v := .int .i64 cx) rfl (by simp only [execOp, Act.eval, h52]; go_simp) rfl
      · intro a w' hb hN hpre
        have h53 : a.tmps.getD 53 undef = (.int .i64 cx : Value) := hpre 53 (by simp [Op.operands])
        exact step_grow (w1 := w'.alloc (.cells (IntC [0, 1, cx]).toArray 3 (0, 0))) rfl (by simp only [execOp, List.map_toArray, List.map_cons, List.map_nil, Act.eval, h53]; go_simp) (bel_al _ _) (rdI_new w' [0, 1, cx])
      · intro a w' hb hN hpre
        have h45 : a.tmps.getD 45 undef = C := hpre 45 (by simp [Op.operands, Call.operands])
        have h46 : a.tmps.getD 46 undef = (.int .i64 (i : Int) : Value) := hpre 46 (by simp [Op.operands, Call.operands])
        have h51 : a.tmps.getD 51 undef = (.int .i64 (ty - cy) : Value) := hpre 51 (by simp [Op.operands, Call.operands])
        have h54 : RdI w' (a.tmps.getD 54 undef) [0, 1, cx] := hpre 54 (by simp [Op.operands, Call.operands])
        obtain ⟨vs, hvs⟩ : ∃ vs, vs = a.tmps.getD 54 undef := ⟨_, rfl⟩
        rw [← hvs] at h54
        have hvs2 := hvs.symm
        clear hvs
        exact step_call (f := 148) rfl (by rw [HC.out] at h45; go_simp) (HPB55.out w' hb vs h54)
      · intro a w' hb hN hpre
        have h7 : a.tmps.getD 7 undef = (C : Value) := hpre 7 (by simp [Op.operands])
        exact step_val (v := C) rfl (by rw [← h7]; rfl) rfl
      · intro a w' hb hN hpre
        have h1 : a.tmps.getD 1 undef = (.int .i64 (i : Int) : Value) := hpre 1 (by simp [Op.operands])
        exact step_val (v := .int .i64 (i : Int)) rfl (by rw [← h1]; rfl) rfl
      · intro a w' hb hN hpre
        have h6 : a.tmps.getD 6 undef = (.pointer (some ⟨xb, 0, none⟩) : Value) := hpre 6 (by simp [Op.operands])
        exact step_val (v := .pointer (some ⟨xb, 1, none⟩)) rfl (by simp only [execOp, Act.eval, h6]; go_simp) rfl
      · intro a w' hb hN hpre
        have h58 : a.tmps.getD 58 undef = (.pointer (some ⟨xb, 1, none⟩) : Value) := hpre 58 (by simp [Op.operands])
        obtain ⟨x0, x1, x2, x3⟩ := HCL.out w' hb
        exact step_val (v := .int .i64 cy) rfl (by simp only [execOp, Act.eval, h58]; go_simp) rfl
      · intro a w' hb hN hpre
        have h5 : a.tmps.getD 5 undef = (.pointer (some ⟨ab, 0, none⟩) : Value) := hpre 5 (by simp [Op.operands])
        exact step_val (v := .pointer (some ⟨ab, 1, none⟩)) rfl (by simp only [execOp, Act.eval, h5]; go_simp) rfl
      · intro a w' hb hN hpre
        have h60 : a.tmps.getD 60 undef = (.pointer (some ⟨ab, 1, none⟩) : Value) := hpre 60 (by simp [Op.operands])
        obtain ⟨x0, x1, x2, x3⟩ := HCL.out w' hb
        exact step_val (v := .int .i64 ty) rfl (by simp only [execOp, Act.eval, h60]; go_simp) rfl
      · intro a w' hb hN hpre
        have h59 : a.tmps.getD 59 undef = (.int .i64 cy : Value) := hpre 59 (by simp [Op.operands])
        have h61 : a.tmps.getD 61 undef = (.int .i64 ty : Value) := hpre 61 (by simp [Op.operands])
        exact step_val (v := .int .i64 (cy - ty)) rfl (by simp only [execOp, Act.eval, h59, h61]; go_simp) rfl
      · intro a w' hb hN hpre
        have h6 : a.tmps.getD 6 undef = (.pointer (some ⟨xb, 0, none⟩) : Value) := hpre 6 (by simp [Op.operands])
        exact step_val (v := .pointer (some ⟨xb, 0, none⟩)) rfl (by simp only [execOp, Act.eval, h6]; go_simp) rfl
      · intro a w' hb hN hpre
        have h63 : a.tmps.getD 63 undef = (.pointer (some ⟨xb, 0, none⟩) : Value) := hpre 63 (by simp [Op.operands])
        obtain ⟨x0, x1, x2, x3⟩ := HCL.out w' hb
        exact step_val (v := .int .i64 cx) rfl (by simp only [execOp, Act.eval, h63]; go_simp) rfl
      · intro a w' hb hN hpre
        have h64 : a.tmps.getD 64 undef = (.int .i64 cx : Value) := hpre 64 (by simp [Op.operands])
        exact step_val (v := .int .i64 (-cx)) rfl (by simp only [execOp, Act.eval, h64]; go_simp) rfl
      · intro a w' hb hN hpre
        have h65 : a.tmps.getD 65 undef = (.int .i64 (-cx) : Value) := hpre 65 (by simp [Op.operands])
        exact step_grow (w1 := w'.alloc (.cells (IntC [0, -1, -cx]).toArray 3 (0, 0))) rfl (by simp only [execOp, List.map_toArray, List.map_cons, List.map_nil, Act.eval, h65]; go_simp) (bel_al _ _) (rdI_new w' [0, -1, -cx])
      · intro a w' hb hN hpre
        have h56 : a.tmps.getD 56 undef = C := hpre 56 (by simp [Op.operands, Call.operands])
        have h57 : a.tmps.getD 57 undef = (.int .i64 (i : Int) : Value) := hpre 57 (by simp [Op.operands, Call.operands])
        have h62 : a.tmps.getD 62 undef = (.int .i64 (cy - ty) : Value) := hpre 62 (by simp [Op.operands, Call.operands])
        have h66 : RdI w' (a.tmps.getD 66 undef) [0, -1, -cx] := hpre 66 (by simp [Op.operands, Call.operands])
        obtain ⟨vs, hvs⟩ : ∃ vs, vs = a.tmps.getD 66 undef := ⟨_, rfl⟩
        rw [← hvs] at h66
        have hvs2 := hvs.symm
        clear hvs
        exact step_call (f := 148) rfl (by rw [HC.out] at h56; go_simp) (HPB67.out w' hb vs h66)
      · intro a w' hb hN hpre
        obtain ⟨v1, g1, e1, r1⟩ := (show IsBd B1 w' (a.tmps.getD 33 undef) from hpre 33 (by simp [Op.operands]))
        obtain ⟨v2, g2, e2, r2⟩ := (show IsBd B2 w' (a.tmps.getD 44 undef) from hpre 44 (by simp [Op.operands]))
        obtain ⟨v3, g3, e3, r3⟩ := (show IsBd B3 w' (a.tmps.getD 55 undef) from hpre 55 (by simp [Op.operands]))
        obtain ⟨v4, g4, e4, r4⟩ := (show IsBd B4 w' (a.tmps.getD 67 undef) from hpre 67 (by simp [Op.operands]))
        have HGT : GoodT w' [(v1, B1), (v2, B2), (v3, B3), (v4, B4)] := fun x hx => by
          simp only [List.mem_cons, List.not_mem_nil, or_false] at hx
          rcases hx with rfl | rfl | rfl | rfl
          · exact ⟨_, r1⟩
          · exact ⟨_, r2⟩
          · exact ⟨_, r3⟩
          · exact ⟨_, r4⟩
        exact step_grow (w1 := w'.alloc (.cells (bcs [(v1, B1), (v2, B2), (v3, B3), (v4, B4)]).toArray 138 (0, 0))) (v := .slice (some ⟨w'.heap.size, 0, none⟩) 4 4) rfl (by simp only [execOp, List.map_toArray, List.map_cons, List.map_nil, Act.eval, e1, e2, e3, e4]; go_simp; rfl) (bel_al _ _) ⟨_, rfl, HGT.below (bel_al _ _), _, rfl, rnw⟩
      · intro a w' hb hN hpre
        exact step_val (v := a.tmps.getD 68 undef) rfl rfl (show IsBs [B1, B2, B3, B4] w' (a.tmps.getD 68 undef) from hpre 68 (by simp [Op.operands]))
    · intro a' w' hb hd hN hpre
      have h4 : IsBs [B1, B2, B3, B4] w' (a'.tmps.getD 4 undef) := hpre 4 (by decide)
      have HF := Lib.hid (show ∃ v, a'.tmps.getD 4 undef = v ∧ IsBs [B1, B2, B3, B4] w' v ∧ Below w.heap.size w w' from ⟨_, rfl, h4, bel_to HBW.out hb⟩)
      have hd2 : a'.defers = [] := hd
      clear hpre h4 hb hd
      go_wp2
      obtain ⟨v, hv, h1, h2⟩ := HF.out
      have hv2 : a'.tmps[4]?.getD undef = v := by simpa using hv
      refine ⟨hd2, v, ?_, v, rfl, h1, h2⟩
      simp [results, Tryz.results102, hv2]
  · have hbW : Below w.heap.size w ((((w.alloc (.cells #[.slice A0 al.length c0, .slice (some ⟨b1, o1, none⟩) ts.length ct, .slice (some ⟨b2, o2, none⟩) cs.length cc] 132 (0, 0))).alloc (.cells #[.int .i64 cx, .int .i64 cy] 23 (0, 0))).alloc (.cells #[.int .i64 tx, .int .i64 ty] 23 (0, 0))).drew) := RowKit.Below.drew ((bel_al2 _ _ _).alloc (bel_al2 _ _ _).size _)
    have hr1 : Row ((((w.alloc (.cells #[.slice A0 al.length c0, .slice (some ⟨b1, o1, none⟩) ts.length ct, .slice (some ⟨b2, o2, none⟩) cs.length cc] 132 (0, 0))).alloc (.cells #[.int .i64 cx, .int .i64 cy] 23 (0, 0))).alloc (.cells #[.int .i64 tx, .int .i64 ty] 23 (0, 0))).drew) (w.heap.size + 1) 23 [.int .i64 cx, .int .i64 cy] := (rnew0 (World.size_alloc _ _).symm).alloc _
    have hr2 : Row ((((w.alloc (.cells #[.slice A0 al.length c0, .slice (some ⟨b1, o1, none⟩) ts.length ct, .slice (some ⟨b2, o2, none⟩) cs.length cc] 132 (0, 0))).alloc (.cells #[.int .i64 cx, .int .i64 cy] 23 (0, 0))).alloc (.cells #[.int .i64 tx, .int .i64 ty] 23 (0, 0))).drew) (w.heap.size + 1 + 1) 23 [.int .i64 tx, .int .i64 ty] := rnew0 (by rw [World.size_alloc, World.size_alloc])
    have HBW := Lib.hid hbW
    have HRA := Lib.hid hr2
    have HRX := Lib.hid hr1
    clear hbW hr1 hr2
    generalize (((w.alloc (.cells #[.slice A0 al.length c0, .slice (some ⟨b1, o1, none⟩) ts.length ct, .slice (some ⟨b2, o2, none⟩) cs.length cc] 132 (0, 0))).alloc (.cells #[.int .i64 cx, .int .i64 cy] 23 (0, 0))).alloc (.cells #[.int .i64 tx, .int .i64 ty] 23 (0, 0))).drew = W at *
    generalize w.heap.size + 1 + 1 = ab at *
    generalize w.heap.size + 1 = xb at *
    have HCL : Hid (∀ w', Below W.heap.size W w' → w'.cell? ⟨ab, 0, none⟩ = some (.int .i64 tx) ∧ w'.cell? ⟨ab, 1, none⟩ = some (.int .i64 ty) ∧ w'.cell? ⟨xb, 0, none⟩ = some (.int .i64 cx) ∧ w'.cell? ⟨xb, 1, none⟩ = some (.int .i64 cy)) :=
      Lib.hid fun w' hb => ⟨(HRA.out.below' hb).cell rfl, (HRA.out.below' hb).cell rfl, (HRX.out.below' hb).cell rfl, (HRX.out.below' hb).cell rfl⟩
    clear HRA HRX
    obtain ⟨C, hC⟩ : ∃ C, C = Value.func (.func 148) #[.agg #[.slice A0 al.length c0, .slice (some ⟨b1, o1, none⟩) ts.length ct, .slice (some ⟨b2, o2, none⟩) cs.length cc]] #[] := ⟨_, rfl⟩
    have HC := Lib.hid hC
    have HPB33 := Lib.hid (fun w' (hb : Below W.heap.size W w') vs hv => HP1.out vs w' (bel_to HBW.out hb) hv)
    have HPB44 := Lib.hid (fun w' (hb : Below W.heap.size W w') vs hv => HP2.out vs w' (bel_to HBW.out hb) hv)
    have HPB55 := Lib.hid (fun w' (hb : Below W.heap.size W w') vs hv => HP3.out vs w' (bel_to HBW.out hb) hv)
    have HPB67 := Lib.hid (fun w' (hb : Below W.heap.size W w') vs hv => HP4.out vs w' (bel_to HBW.out hb) hv)
    clear hC
    refine region_grow (ψ := psi (bd4c C i ab xb tx ty cx cy) (bd4r [1, 0, -cy] [-1, 0, cy] [0, 1, cx] [0, -1, -cx] B1 B2 B3 B4)) 69 (by kernel_rfl) (by kernel_rfl) (psi_st (bd4r_st _ _ _ _ _ _ _ _)) rfl ?_ ?_ ?_
    · intro t ht hno
      unfold psi
      split
      · rename_i c hc
        have hm := lookup_mem hc
        simp only [bd4c, List.mem_cons, List.not_mem_nil, or_false, Prod.mk.injEq] at hm
        repeat' (rcases hm with ⟨rfl, rfl⟩ | hm)
        all_goals first
          | rfl
          | exact Bool.noConfusion (show true = false from hno)
          | (rw [HC.out]; rfl)
          | (obtain ⟨rfl, rfl⟩ := hm; exact Bool.noConfusion (show true = false from hno))
      · split
        · rename_i p hp
          have hm := lookup_mem hp
          simp only [bd4r, List.mem_cons, List.not_mem_nil, or_false, Prod.mk.injEq] at hm
          repeat' (rcases hm with ⟨rfl, rfl⟩ | hm)
          all_goals first
            | exact Bool.noConfusion (show true = false from hno)
            | (obtain ⟨rfl, rfl⟩ := hm; exact Bool.noConfusion (show true = false from hno))
        · trivial
    · repeat' (first | exact List.forall_mem_nil _ | refine List.forall_mem_cons.2 ⟨?_, ?_⟩)
      · intro a w' hb hN hpre
        have h7 : a.tmps.getD 7 undef = (C : Value) := hpre 7 (by simp [Op.operands])
        exact step_val (v := C) rfl (by rw [← h7]; rfl) rfl
      · intro a w' hb hN hpre
        have h1 : a.tmps.getD 1 undef = (.int .i64 (i : Int) : Value) := hpre 1 (by simp [Op.operands])
        exact step_val (v := .int .i64 (i : Int)) rfl (by rw [← h1]; rfl) rfl
      · intro a w' hb hN hpre
        have h5 : a.tmps.getD 5 undef = (.pointer (some ⟨ab, 0, none⟩) : Value) := hpre 5 (by simp [Op.operands])
        exact step_val (v := .pointer (some ⟨ab, 0, none⟩)) rfl (by simp only [execOp, Act.eval, h5]; go_simp) rfl
      · intro a w' hb hN hpre
        have h24 : a.tmps.getD 24 undef = (.pointer (some ⟨ab, 0, none⟩) : Value) := hpre 24 (by simp [Op.operands])
        obtain ⟨x0, x1, x2, x3⟩ := HCL.out w' hb
        exact step_val (v := .int .i64 tx) rfl (by simp only [execOp, Act.eval, h24]; go_simp) rfl
      · intro a w' hb hN hpre
        have h6 : a.tmps.getD 6 undef = (.pointer (some ⟨xb, 0, none⟩) : Value) := hpre 6 (by simp [Op.operands])
        exact step_val (v := .pointer (some ⟨xb, 0, none⟩)) rfl (by simp only [execOp, Act.eval, h6]; go_simp) rfl
      · intro a w' hb hN hpre
        have h26 : a.tmps.getD 26 undef = (.pointer (some ⟨xb, 0, none⟩) : Value) := hpre 26 (by simp [Op.operands])
        obtain ⟨x0, x1, x2, x3⟩ := HCL.out w' hb
        exact step_val (v := .int .i64 cx) rfl (by simp only [execOp, Act.eval, h26]; go_simp) rfl
      · intro a w' hb hN hpre
        have h25 : a.tmps.getD 25 undef = (.int .i64 tx : Value) := hpre 25 (by simp [Op.operands])
        have h27 : a.tmps.getD 27 undef = (.int .i64 cx : Value) := hpre 27 (by simp [Op.operands])
        exact step_val (v := .int .i64 (tx - cx)) rfl (by simp only [execOp, Act.eval, h25, h27]; go_simp) rfl
      · intro a w' hb hN hpre
        have h6 : a.tmps.getD 6 undef = (.pointer (some ⟨xb, 0, none⟩) : Value) := hpre 6 (by simp [Op.operands])
        exact step_val (v := .pointer (some ⟨xb, 1, none⟩)) rfl (by simp only [execOp, Act.eval, h6]; go_simp) rfl
      · intro a w' hb hN hpre
        have h29 : a.tmps.getD 29 undef = (.pointer (some ⟨xb, 1, none⟩) : Value) := hpre 29 (by simp [Op.operands])
        obtain ⟨x0, x1, x2, x3⟩ := HCL.out w' hb
        exact step_val (v := .int .i64 cy) rfl (by simp only [execOp, Act.eval, h29]; go_simp) rfl
      · intro a w' hb hN hpre
        have h30 : a.tmps.getD 30 undef = (.int .i64 cy : Value) := hpre 30 (by simp [Op.operands])
        exact step_val (v := .int .i64 (-cy)) rfl (by simp only [execOp, Act.eval, h30]; go_simp) rfl
      · intro a w' hb hN hpre
        have h31 : a.tmps.getD 31 undef = (.int .i64 (-cy) : Value) := hpre 31 (by simp [Op.operands])
        exact step_grow (w1 := w'.alloc (.cells (IntC [1, 0, -cy]).toArray 3 (0, 0))) rfl (by simp only [execOp, List.map_toArray, List.map_cons, List.map_nil, Act.eval, h31]; go_simp) (bel_al _ _) (rdI_new w' [1, 0, -cy])
      · intro a w' hb hN hpre
        have h22 : a.tmps.getD 22 undef = C := hpre 22 (by simp [Op.operands, Call.operands])
        have h23 : a.tmps.getD 23 undef = (.int .i64 (i : Int) : Value) := hpre 23 (by simp [Op.operands, Call.operands])
        have h28 : a.tmps.getD 28 undef = (.int .i64 (tx - cx) : Value) := hpre 28 (by simp [Op.operands, Call.operands])
        have h32 : RdI w' (a.tmps.getD 32 undef) [1, 0, -cy] := hpre 32 (by simp [Op.operands, Call.operands])
        obtain ⟨vs, hvs⟩ : ∃ vs, vs = a.tmps.getD 32 undef := ⟨_, rfl⟩
        rw [← hvs] at h32
        have hvs2 := hvs.symm
        clear hvs
        exact step_call (f := 148) rfl (by rw [HC.out] at h22; go_simp) (HPB33.out w' hb vs h32)
      · intro a w' hb hN hpre
        have h7 : a.tmps.getD 7 undef = (C : Value) := hpre 7 (by simp [Op.operands])
        exact step_val (v := C) rfl (by rw [← h7]; rfl) rfl
      · intro a w' hb hN hpre
        have h1 : a.tmps.getD 1 undef = (.int .i64 (i : Int) : Value) := hpre 1 (by simp [Op.operands])
        exact step_val (v := .int .i64 (i : Int)) rfl (by rw [← h1]; rfl) rfl
      · intro a w' hb hN hpre
        have h6 : a.tmps.getD 6 undef = (.pointer (some ⟨xb, 0, none⟩) : Value) := hpre 6 (by simp [Op.operands])
        exact step_val (v := .pointer (some ⟨xb, 0, none⟩)) rfl (by simp only [execOp, Act.eval, h6]; go_simp) rfl
      · intro a w' hb hN hpre
        have h36 : a.tmps.getD 36 undef = (.pointer (some ⟨xb, 0, none⟩) : Value) := hpre 36 (by simp [Op.operands])
        obtain ⟨x0, x1, x2, x3⟩ := HCL.out w' hb
        exact step_val (v := .int .i64 cx) rfl (by simp only [execOp, Act.eval, h36]; go_simp) rfl
      · intro a w' hb hN hpre
        have h5 : a.tmps.getD 5 undef = (.pointer (some ⟨ab, 0, none⟩) : Value) := hpre 5 (by simp [Op.operands])
        exact step_val (v := .pointer (some ⟨ab, 0, none⟩)) rfl (by simp only [execOp, Act.eval, h5]; go_simp) rfl
      · intro a w' hb hN hpre
        have h38 : a.tmps.getD 38 undef = (.pointer (some ⟨ab, 0, none⟩) : Value) := hpre 38 (by simp [Op.operands])
        obtain ⟨x0, x1, x2, x3⟩ := HCL.out w' hb
        exact step_val (v := .int .i64 tx) rfl (by simp only [execOp, Act.eval, h38]; go_simp) rfl
      · intro a w' hb hN hpre
        have h37 : a.tmps.getD 37 undef = (.int .i64 cx : Value) := hpre 37 (by simp [Op.operands])
        have h39 : a.tmps.getD 39 undef = (.int .i64 tx : Value) := hpre 39 (by simp [Op.operands])
        exact step_val (v := .int .i64 (cx - tx)) rfl (by simp only [execOp, Act.eval, h37, h39]; go_simp) rfl
      · intro a w' hb hN hpre
        have h6 : a.tmps.getD 6 undef = (.pointer (some ⟨xb, 0, none⟩) : Value) := hpre 6 (by simp [Op.operands])
        exact step_val (v := .pointer (some ⟨xb, 1, none⟩)) rfl (by simp only [execOp, Act.eval, h6]; go_simp) rfl
      · intro a w' hb hN hpre
        have h41 : a.tmps.getD 41 undef = (.pointer (some ⟨xb, 1, none⟩) : Value) := hpre 41 (by simp [Op.operands])
        obtain ⟨x0, x1, x2, x3⟩ := HCL.out w' hb
        exact step_val (v := .int .i64 cy) rfl (by simp only [execOp, Act.eval, h41]; go_simp) rfl
      · intro a w' hb hN hpre
        have h42 : a.tmps.getD 42 undef = (.int .i64 cy : Value) := hpre 42 (by simp [Op.operands])
        exact step_grow (w1 := w'.alloc (.cells (IntC [-1, 0, cy]).toArray 3 (0, 0))) rfl (by simp only [execOp, List.map_toArray, List.map_cons, List.map_nil, Act.eval, h42]; go_simp) (bel_al _ _) (rdI_new w' [-1, 0, cy])
      · intro a w' hb hN hpre
        have h34 : a.tmps.getD 34 undef = C := hpre 34 (by simp [Op.operands, Call.operands])
        have h35 : a.tmps.getD 35 undef = (.int .i64 (i : Int) : Value) := hpre 35 (by simp [Op.operands, Call.operands])
        have h40 : a.tmps.getD 40 undef = (.int .i64 (cx - tx) : Value) := hpre 40 (by simp [Op.operands, Call.operands])
        have h43 : RdI w' (a.tmps.getD 43 undef) [-1, 0, cy] := hpre 43 (by simp [Op.operands, Call.operands])
        obtain ⟨vs, hvs⟩ : ∃ vs, vs = a.tmps.getD 43 undef := ⟨_, rfl⟩
        rw [← hvs] at h43
        have hvs2 := hvs.symm
        clear hvs
        exact step_call (f := 148) rfl (by rw [HC.out] at h34; go_simp) (HPB44.out w' hb vs h43)
      · intro a w' hb hN hpre
        have h7 : a.tmps.getD 7 undef = (C : Value) := hpre 7 (by simp [Op.operands])
        exact step_val (v := C) rfl (by rw [← h7]; rfl) rfl
      · intro a w' hb hN hpre
        have h1 : a.tmps.getD 1 undef = (.int .i64 (i : Int) : Value) := hpre 1 (by simp [Op.operands])
        exact step_val (v := .int .i64 (i : Int)) rfl (by rw [← h1]; rfl) rfl
      · intro a w' hb hN hpre
        have h5 : a.tmps.getD 5 undef = (.pointer (some ⟨ab, 0, none⟩) : Value) := hpre 5 (by simp [Op.operands])
        exact step_val (v := .pointer (some ⟨ab, 1, none⟩)) rfl (by simp only [execOp, Act.eval, h5]; go_simp) rfl
      · intro a w' hb hN hpre
        have h47 : a.tmps.getD 47 undef = (.pointer (some ⟨ab, 1, none⟩) : Value) := hpre 47 (by simp [Op.operands])
        obtain ⟨x0, x1, x2, x3⟩ := HCL.out w' hb
        exact step_val (v := .int .i64 ty) rfl (by simp only [execOp, Act.eval, h47]; go_simp) rfl
      · intro a w' hb hN hpre
        have h6 : a.tmps.getD 6 undef = (.pointer (some ⟨xb, 0, none⟩) : Value) := hpre 6 (by simp [Op.operands])
        exact step_val (v := .pointer (some ⟨xb, 1, none⟩)) rfl (by simp only [execOp, Act.eval, h6]; go_simp) rfl
      · intro a w' hb hN hpre
        have h49 : a.tmps.getD 49 undef = (.pointer (some ⟨xb, 1, none⟩) : Value) := hpre 49 (by simp [Op.operands])
        obtain ⟨x0, x1, x2, x3⟩ := HCL.out w' hb
        exact step_val (v := .int .i64 cy) rfl (by simp only [execOp, Act.eval, h49]; go_simp) rfl
      · intro a w' hb hN hpre
        have h48 : a.tmps.getD 48 undef = (.int .i64 ty : Value) := hpre 48 (by simp [Op.operands])
        have h50 : a.tmps.getD 50 undef = (.int .i64 cy : Value) := hpre 50 (by simp [Op.operands])
        exact step_val (v := .int .i64 (ty - cy)) rfl (by simp only [execOp, Act.eval, h48, h50]; go_simp) rfl
      · intro a w' hb hN hpre
        have h6 : a.tmps.getD 6 undef = (.pointer (some ⟨xb, 0, none⟩) : Value) := hpre 6 (by simp [Op.operands])
        exact step_val (v := .pointer (some ⟨xb, 0, none⟩)) rfl (by simp only [execOp, Act.eval, h6]; go_simp) rfl
      · intro a w' hb hN hpre
        have h52 : a.tmps.getD 52 undef = (.pointer (some ⟨xb, 0, none⟩) : Value) := hpre 52 (by simp [Op.operands])
        obtain ⟨x0, x1, x2, x3⟩ := HCL.out w' hb
        exact step_val (v := .int .i64 cx) rfl (by simp only [execOp, Act.eval, h52]; go_simp) rfl
      · intro a w' hb hN hpre
        have h53 : a.tmps.getD 53 undef = (.int .i64 cx : Value) := hpre 53 (by simp [Op.operands])
        exact step_grow (w1 := w'.alloc (.cells (IntC [0, 1, cx]).toArray 3 (0, 0))) rfl (by simp only [execOp, List.map_toArray, List.map_cons, List.map_nil, Act.eval, h53]; go_simp) (bel_al _ _) (rdI_new w' [0, 1, cx])
      · intro a w' hb hN hpre
        have h45 : a.tmps.getD 45 undef = C := hpre 45 (by simp [Op.operands, Call.operands])
        have h46 : a.tmps.getD 46 undef = (.int .i64 (i : Int) : Value) := hpre 46 (by simp [Op.operands, Call.operands])
        have h51 : a.tmps.getD 51 undef = (.int .i64 (ty - cy) : Value) := hpre 51 (by simp [Op.operands, Call.operands])
        have h54 : RdI w' (a.tmps.getD 54 undef) [0, 1, cx] := hpre 54 (by simp [Op.operands, Call.operands])
        obtain ⟨vs, hvs⟩ : ∃ vs, vs = a.tmps.getD 54 undef := ⟨_, rfl⟩
        rw [← hvs] at h54
        have hvs2 := hvs.symm
        clear hvs
        exact step_call (f := 148) rfl (by rw [HC.out] at h45; go_simp) (HPB55.out w' hb vs h54)
      · intro a w' hb hN hpre
        have h7 : a.tmps.getD 7 undef = (C : Value) := hpre 7 (by simp [Op.operands])
        exact step_val (v := C) rfl (by rw [← h7]; rfl) rfl
      · intro a w' hb hN hpre
        have h1 : a.tmps.getD 1 undef = (.int .i64 (i : Int) : Value) := hpre 1 (by simp [Op.operands])
        exact step_val (v := .int .i64 (i : Int)) rfl (by rw [← h1]; rfl) rfl
      · intro a w' hb hN hpre
        have h6 : a.tmps.getD 6 undef = (.pointer (some ⟨xb, 0, none⟩) : Value) := hpre 6 (by simp [Op.operands])
        exact step_val (v := .pointer (some ⟨xb, 1, none⟩)) rfl (by simp only [execOp, Act.eval, h6]; go_simp) rfl
      · intro a w' hb hN hpre
        have h58 : a.tmps.getD 58 undef = (.pointer (some ⟨xb, 1, none⟩) : Value) := hpre 58 (by simp [Op.operands])
        obtain ⟨x0, x1, x2, x3⟩ := HCL.out w' hb
        exact step_val (v := .int .i64 cy) rfl (by simp only [execOp, Act.eval, h58]; go_simp) rfl
      · intro a w' hb hN hpre
        have h5 : a.tmps.getD 5 undef = (.pointer (some ⟨ab, 0, none⟩) : Value) := hpre 5 (by simp [Op.operands])
        exact step_val (v := .pointer (some ⟨ab, 1, none⟩)) rfl (by simp only [execOp, Act.eval, h5]; go_simp) rfl
      · intro a w' hb hN hpre
        have h60 : a.tmps.getD 60 undef = (.pointer (some ⟨ab, 1, none⟩) : Value) := hpre 60 (by simp [Op.operands])
        obtain ⟨x0, x1, x2, x3⟩ := HCL.out w' hb
        exact step_val (v := .int .i64 ty) rfl (by simp only [execOp, Act.eval, h60]; go_simp) rfl
      · intro a w' hb hN hpre
        have h59 : a.tmps.getD 59 undef = (.int .i64 cy : Value) := hpre 59 (by simp [Op.operands])
        have h61 : a.tmps.getD 61 undef = (.int .i64 ty : Value) := hpre 61 (by simp [Op.operands])
        exact step_val (v := .int .i64 (cy - ty)) rfl (by simp only [execOp, Act.eval, h59, h61]; go_simp) rfl
      · intro a w' hb hN hpre
        have h6 : a.tmps.getD 6 undef = (.pointer (some ⟨xb, 0, none⟩) : Value) := hpre 6 (by simp [Op.operands])
        exact step_val (v := .pointer (some ⟨xb, 0, none⟩)) rfl (by simp only [execOp, Act.eval, h6]; go_simp) rfl
      · intro a w' hb hN hpre
        have h63 : a.tmps.getD 63 undef = (.pointer (some ⟨xb, 0, none⟩) : Value) := hpre 63 (by simp [Op.operands])
        obtain ⟨x0, x1, x2, x3⟩ := HCL.out w' hb
        exact step_val (v := .int .i64 cx) rfl (by simp only [execOp, Act.eval, h63]; go_simp) rfl
      · intro a w' hb hN hpre
        have h64 : a.tmps.getD 64 undef = (.int .i64 cx : Value) := hpre 64 (by simp [Op.operands])
        exact step_val (v := .int .i64 (-cx)) rfl (by simp only [execOp, Act.eval, h64]; go_simp) rfl
      · intro a w' hb hN hpre
        have h65 : a.tmps.getD 65 undef = (.int .i64 (-cx) : Value) := hpre 65 (by simp [Op.operands])
        exact step_grow (w1 := w'.alloc (.cells (IntC [0, -1, -cx]).toArray 3 (0, 0))) rfl (by simp only [execOp, List.map_toArray, List.map_cons, List.map_nil, Act.eval, h65]; go_simp) (bel_al _ _) (rdI_new w' [0, -1, -cx])
      · intro a w' hb hN hpre
        have h56 : a.tmps.getD 56 undef = C := hpre 56 (by simp [Op.operands, Call.operands])
        have h57 : a.tmps.getD 57 undef = (.int .i64 (i : Int) : Value) := hpre 57 (by simp [Op.operands, Call.operands])
        have h62 : a.tmps.getD 62 undef = (.int .i64 (cy - ty) : Value) := hpre 62 (by simp [Op.operands, Call.operands])
        have h66 : RdI w' (a.tmps.getD 66 undef) [0, -1, -cx] := hpre 66 (by simp [Op.operands, Call.operands])
        obtain ⟨vs, hvs⟩ : ∃ vs, vs = a.tmps.getD 66 undef := ⟨_, rfl⟩
        rw [← hvs] at h66
        have hvs2 := hvs.symm
        clear hvs
        exact step_call (f := 148) rfl (by rw [HC.out] at h56; go_simp) (HPB67.out w' hb vs h66)
      · intro a w' hb hN hpre
        obtain ⟨v1, g1, e1, r1⟩ := (show IsBd B1 w' (a.tmps.getD 33 undef) from hpre 33 (by simp [Op.operands]))
        obtain ⟨v2, g2, e2, r2⟩ := (show IsBd B2 w' (a.tmps.getD 44 undef) from hpre 44 (by simp [Op.operands]))
        obtain ⟨v3, g3, e3, r3⟩ := (show IsBd B3 w' (a.tmps.getD 55 undef) from hpre 55 (by simp [Op.operands]))
        obtain ⟨v4, g4, e4, r4⟩ := (show IsBd B4 w' (a.tmps.getD 67 undef) from hpre 67 (by simp [Op.operands]))
        have HGT : GoodT w' [(v1, B1), (v2, B2), (v3, B3), (v4, B4)] := fun x hx => by
          simp only [List.mem_cons, List.not_mem_nil, or_false] at hx
          rcases hx with rfl | rfl | rfl | rfl
          · exact ⟨_, r1⟩
          · exact ⟨_, r2⟩
          · exact ⟨_, r3⟩
          · exact ⟨_, r4⟩
        exact step_grow (w1 := w'.alloc (.cells (bcs [(v1, B1), (v2, B2), (v3, B3), (v4, B4)]).toArray 138 (0, 0))) (v := .slice (some ⟨w'.heap.size, 0, none⟩) 4 4) rfl (by simp only [execOp, List.map_toArray, List.map_cons, List.map_nil, Act.eval, e1, e2, e3, e4]; go_simp; rfl) (bel_al _ _) ⟨_, rfl, HGT.below (bel_al _ _), _, rfl, rnw⟩
      · intro a w' hb hN hpre
        exact step_val (v := a.tmps.getD 68 undef) rfl rfl (show IsBs [B1, B2, B3, B4] w' (a.tmps.getD 68 undef) from hpre 68 (by simp [Op.operands]))
    · intro a' w' hb hd hN hpre
      have h4 : IsBs [B1, B2, B3, B4] w' (a'.tmps.getD 4 undef) := hpre 4 (by decide)
      have HF := Lib.hid (show ∃ v, a'.tmps.getD 4 undef = v ∧ IsBs [B1, B2, B3, B4] w' v ∧ Below w.heap.size w w' from ⟨_, rfl, h4, bel_to HBW.out hb⟩)
      have hd2 : a'.defers = [] := hd
      clear hpre h4 hb hd
      go_wp2
      obtain ⟨v, hv, h1, h2⟩ := HF.out
      have hv2 : a'.tmps[4]?.getD undef = v := by simpa using hv
      refine ⟨hd2, v, ?_, v, rfl, h1, h2⟩
      simp [results, Tryz.results102, hv2]
end W
end Go.Proofs.YtellemlhhlafcaaGreatDoor
end
