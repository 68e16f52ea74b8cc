/-
  Chapter 46: all bounds of a plate.
  Chapter 46: 'Check' and 'Bounds' of the program.
  Chapter 46: 'Fits' of the program.
  Chapter 46: a list of texts is copied; 'Excess' of the program.
  Chapter 46: 'Excess' of the program.
  Chapter 46: 'least' of the program.
  Chapter 46: four lists that grow in one array.
-/
import Derived.Test.YtlmolhblmlojnaaGreatDoorKZ
import Derived.Test.YtlmolhblmlojnaaGreatDoorKRE
import Derived.Deep.RegionHeld3
import Derived.Maps.AppendAt
section
namespace Go.Proofs.YtlmolhblmlojnaaGreatDoor
open Go Go.RowKit Go.Deep
namespace M
theorem bnd4_bx (t : Tg) (c : Cc) : [(rx (W.castL [1, 0, -c.y]), R (((2 * (t.x - c.x) + wide t c : Int) : Rat) / 2)), (rx (W.castL [-1, 0, c.y]), R (((2 * (c.x - t.x) + wide t c : Int) : Rat) / 2)),
      (rx (W.castL [0, 1, c.x]), R (((2 * (t.y - c.y) + wide t c : Int) : Rat) / 2)), (rx (W.castL [0, -1, -c.x]), R (((2 * (c.y - t.y) + wide t c : Int) : Rat) / 2))] = bx (bnd4 t c) := by
  unfold bx bnd4
  rfl
theorem bnds_take (pl : Pl) (k : Nat) (h : k < pl.length) : bx (bnds (pl.take (k + 1))) = bx (bnds (pl.take k)) ++ bx (bnd4 pl[k].1 pl[k].2) := by
  have e : pl.take (k + 1) = pl.take k ++ [pl[k]] := by rw [List.take_add_one, List.getElem?_eq_getElem h]; rfl
  rw [e]
  unfold bnds bx
  rw [List.flatMap_append, List.map_append]
  simp
end M
structure AlS (w0 w : World) (vo : Value) (es : List (Value × M.BT)) : Prop where
  own : OwnE w (w0.heap.size + 1) vo es
  good : GoodT w es
  bel : Below w0.heap.size w0 w
  sz : w0.heap.size + 1 ≤ w.heap.size
theorem AlS.to {w0 w w' : World} {vo : Value} {es : List (Value × M.BT)} (h : AlS w0 w vo es) (hb : Below w.heap.size w w') : AlS w0 w' vo es := ⟨h.own.below hb, h.good.below hb, bel_to h.bel hb, Nat.le_trans h.sz hb.size⟩
theorem AlS.app {w0 w w' : World} {vo v' : Value} {es es2 : List (Value × M.BT)} (h : AlS w0 w vo es) (h2 : GoodT w es2) (ho : OwnE w' (w0.heap.size + 1) v' (es ++ es2)) (hg : w.grownBy w' vo.ownBlock) : AlS w0 w' v' (es ++ es2) :=
  ⟨ho, (h.good.append h2).grown h.own hg, app_belE h.own h.bel (Nat.le_succ _) hg, Nat.le_trans h.sz hg.size⟩
theorem OwnE.shape {w : World} {B : Nat} {v : Value} {l : List (Value × M.BT)} (h : OwnE w B v l) : ∃ A n c, v = .slice A n c := by
  rcases h.2 with ⟨hv, _⟩ | ⟨g, cap, cur, hv, _⟩
  · exact ⟨_, _, _, hv⟩
  · exact ⟨_, _, _, hv⟩
namespace W
open M
attribute [local go_sem] bs_size bs_toList bs_get bs_extract bs_append bs_lit0 bs_lit1 lit1_bs
set_option maxHeartbeats 2000000
set_option maxRecDepth 20000
theorem pall (va vt vc : Value) (ts : List Tg) (cs : List Cc) (w : World) (hg : Glob w) (ha : RdI w va (zoneNs ts cs)) (ht : RdG w vt ts) (hc : RdC w vc cs) (hok : chk46 ts cs = 0) :
    Calls Tryz.prog 49 #[.agg #[va, vt, vc]] w (fun e w' => ∃ v es, e = .returned v ∧ OwnE w' (w.heap.size + 1) v es ∧ GoodT w' es ∧ es.map (·.2) = bx (bnds (ts.zip cs)) ∧ Below w.heap.size w w') := by
  obtain ⟨h1, h16, hlen, hrt⟩ := chk46_iff.1 hok
  have hzl : (ts.zip cs).length = cs.length := by rw [List.length_zip]; omega
  have hb : ∀ (k : Nat) (hk : k < (ts.zip cs).length) (W : World) (_ : Below w.heap.size w W), Calls Tryz.prog 35 #[.agg #[va, vt, vc], .int .i64 (k : Int)] W (fun e w' => ∃ v, e = .returned v ∧ IsBs (bx (bnd4 (ts.zip cs)[k].1 (ts.zip cs)[k].2)) w' v ∧ Below W.heap.size W w') := fun k hk W hW => by
    have hk3 : k < cs.length := by omega
    have hk1 : k < (zoneNs ts cs).length := by rw [zoneNs_len hlen]; omega
    have hk2 : k < ts.length := by omega
    have e2 : (ts.zip cs)[k] = (ts[k], cs[k]) := by simp
    have hr := hrt (ts[k], cs[k]) (by rw [← e2]; exact List.getElem_mem hk)
    have hw := hr.wide
    have e : (zoneNs ts cs)[k] = wide ts[k] cs[k] := by simp [zoneNs]
    have h := pbounds va vt vc (zoneNs ts cs) ts cs k W (hg.of hW) (ha.below hW) (ht.below hW) (hc.below hW) hk1 hk2 hk3 (by rw [e]; simp only at hw; omega) hr.1 hr.2.1
    rw [e, bnd4_bx] at h
    rw [e2]
    exact h
  have HB := Lib.hid hb
  have HLZ := Lib.hid (show ∀ k, k < cs.length → k < (ts.zip cs).length from fun k hk => by omega)
  have HFIN := Lib.hid (show (ts.zip cs).take cs.length = ts.zip cs by rw [← hzl, List.take_length])
  have hbl : ∀ k, k < cs.length → ((bnds ((ts.zip cs).take k)).length + 4) * 40 ≤ 140737488355328 := fun k hk => by
    rw [bnds_len, List.length_take]; omega
  have HSZ := Lib.hid hbl
  clear hbl
  have hcs : cs.length ≤ 16 := by omega
  obtain ⟨A0, c0, rfl⟩ := ha.len
  obtain ⟨At, ct, rfl⟩ := ht.len
  obtain ⟨Ac, cc, rfl⟩ := hc.len
  have hmf : ∀ (fn : Fn) (first cap : Array Value) (w : World), (Instr.makeFunc fn first cap).run Tryz.prog w = .ok (.func fn first cap) w := fun _ _ _ _ => rfl
  have HA0 : Hid (AlS w (w.alloc (.cells #[.slice A0 (zoneNs ts cs).length c0, .slice At ts.length ct, .slice Ac cs.length cc] 100 (0, 0))) (.slice none 0 0) []) :=
    Lib.hid ⟨World.ownsRow_nil _ _ _ _, (fun x hx => by cases hx), bel_al _ _, by rw [World.size_alloc]; omega⟩
  generalize (zoneNs ts cs).length = nz at *
  clear hb h1 h16 hlen hrt hzl hok ha ht hc hg
  generalize ts.zip cs = pl at *
  go_enter Tryz.func49, Tryz.ntmps49
  go_wp2
  generalize w.alloc (.cells #[.slice A0 nz c0, .slice At ts.length ct, .slice Ac cs.length cc] 100 (0, 0)) = w0 at *
  go_loopw [3, 11] (fun vo iv wr => ∃ (k : Nat) (es : List (Value × BT)), iv = .int .i64 (k : Int) ∧ k ≤ cs.length ∧ Hid (AlS w wr vo es) ∧ Hid (es.map (·.2) = bx (bnds (pl.take k)))) (fun _ iv _ => cs.length - (intOf iv).toNat)
  case atStart => exact ⟨0, [], rfl, by omega, HA0, Lib.hid rfl⟩
  case round =>
    clear HA0
    obtain ⟨k, es, rfl, hk, hin, hes⟩ := hrel
    by_cases hlt : k < cs.length
    · have hlz := HLZ.out k hlt
      have HBK := Lib.hid (HB.out k hlz _ hin.out.bel)
      have HTK := Lib.hid (bnds_take pl k hlz)
      have HSK := Lib.hid (HSZ.out k hlt)
      have hel := congrArg List.length hes.out
      rw [List.length_map, bx_len] at hel
      have HEL := Lib.hid hel
      clear hel
      obtain ⟨Av, nv, cv, rfl⟩ := OwnE.shape hin.out.own
      go_wp2_with fail
      refine HBK.out.mono ?_
      rintro e w1 ⟨v, rfl, hbs, hb1⟩
      obtain ⟨es2, he2, hg2, hs2⟩ := hbs.src
      have HI1 := Lib.hid (hin.out.to hb1)
      have he4 := congrArg List.length he2
      rw [bx_len, List.length_map] at he4
      have HE2 := Lib.hid (And.intro he2 (And.intro hg2 (And.intro hs2 (show es2.length = 4 from he4.symm))))
      clear hb1 hin HBK he2 hg2 hs2 he4 hbs
      go_wp2_with (at_builtin; refine wpList_app_e rfl (.tmp 14) (.tmp 17) rfl rfl rfl HI1.out.own HE2.out.2.2.1 HE2.out.2.1.good HI1.out.sz (by rw [HE2.out.2.2.2, HEL.out]; exact HSK.out) ?_; intro v2 w2 ho2 hk2; have HI2 := Lib.hid (HI1.out.app HE2.out.2.1 ho2 hk2); clear ho2 hk2)
      go_wp2
      go_roundw
      case rel => exact ⟨k + 1, _, by go_num, by omega, HI2, Lib.hid (by rw [List.map_append, hes.out, HTK.out, ← HE2.out.1])⟩
      case measure => simp [intOf]; omega
    · obtain rfl : k = cs.length := by omega
      have hes2 := hes.out
      rw [HFIN.out] at hes2
      have HE := Lib.hid hes2
      obtain ⟨Av, nv, cv, rfl⟩ := OwnE.shape hin.out.own
      clear hes hes2
      go_wp2
      go_ret
      exact ⟨_, es, rfl, hin.out.own, hin.out.good, HE.out, hin.out.bel⟩
end W
end Go.Proofs.YtlmolhblmlojnaaGreatDoor
end
section
namespace Go.Proofs.YtlmolhblmlojnaaGreatDoor
open Go Go.RowKit Go.Deep
namespace W
open M
attribute [local go_sem] bs_size bs_toList bs_get bs_extract bs_append bs_lit0 bs_lit1 lit1_bs
set_option maxHeartbeats 2000000
set_option maxRecDepth 20000
end W
end Go.Proofs.YtlmolhblmlojnaaGreatDoor
end
section
namespace Go.Proofs.YtlmolhblmlojnaaGreatDoor
open Go Go.RowKit Go.Deep
abbrev arV (p : List (List UInt8)) : Value := .agg #[.string (bs (p.getD 0 [])), .string (bs (p.getD 1 [])), .string (bs (p.getD 2 []))]
theorem ar_store {w0 w : World} {A : Nat} {x0 y0 z0 : Value} (x y z : Value) (hr : Row w A 61 [x0, y0, z0]) (hA : w0.heap.size ≤ A) (hb : Below w0.heap.size w0 w) :
    Row (((w.setCell ⟨A, 0, none⟩ x).setCell ⟨A, 1, none⟩ y).setCell ⟨A, 2, none⟩ z) A 61 [x, y, z] ∧ Below w0.heap.size w0 (((w.setCell ⟨A, 0, none⟩ x).setCell ⟨A, 1, none⟩ y).setCell ⟨A, 2, none⟩ z) :=
  ⟨((hr.set 0 x).set 1 y).set 2 z, ((hb.setCell (p := ⟨A, 0, none⟩) hA x).setCell (p := ⟨A, 1, none⟩) hA y).setCell (p := ⟨A, 2, none⟩) hA z⟩
def FitP (w : World) : List Rat ⊕ List Rat → Ending → World → Prop
  | .inl p, e, w' => e = .returned (.tuple #[.bool true, arV (M.rx p), .slice none 0 0, .int .i64 0]) ∧ Below w.heap.size w w'
  | .inr q, e, w' => ∃ v, e = .returned (.tuple #[.bool false, arV [], v, .int .i64 0]) ∧ RdT w' v (M.rx q) ∧ Shp v ∧ Below w.heap.size w w'
namespace M
theorem bnds_few {ts : List Tg} {cs : List Cc} (hok : chk46 ts cs = 0) (h5 : ts.length ≤ 5) : Sx.RightP 3 (bnds (ts.zip cs)) ∧ (bnds (ts.zip cs)).length ≤ 20 ∧ 1 ≤ (bnds (ts.zip cs)).length := by
  obtain ⟨h1, h2, h3, h4⟩ := chk46_iff.1 hok
  refine ⟨Sx.bnds_rightP h4, ?_, ?_⟩ <;> rw [bnds_len, List.length_zip] <;> omega
end M
namespace W
open M
attribute [local go_sem] bs_size bs_toList bs_get bs_extract bs_append bs_lit0 bs_lit1 lit1_bs
set_option maxHeartbeats 2000000
set_option maxRecDepth 20000
theorem pfits_ok (ts : List Tg) (cs : List Cc) (h : chk46 ts cs = 0) (h5 : ts.length ≤ 5) : ∃ r : List Rat ⊕ List Rat, (match r with
      | .inl p => Sx.Keeps 3 (bnds (ts.zip cs)) p ∧ ∀ x ∈ p, Bq 30 x
      | .inr w => Sx.Contra 3 (bnds (ts.zip cs)) w ∧ ∀ x ∈ w, Bq 30 x) ∧
    ∀ (vt vc : Value) (w : World), Glob w → Sig w → RdG w vt ts → RdC w vc cs → Calls Tryz.prog 21 #[vt, vc] w (FitP w r) := by
  obtain ⟨hp, hl20, hl1⟩ := bnds_few h h5
  obtain ⟨f, r, hf, hr⟩ := Sx.feas_plate hp hl20
  refine ⟨r, hr, fun vt vc w hg hs ht hc => ?_⟩
  have hlen := (chk46_iff.1 h).2.2.1
  have nt : ts.length ≤ maxLen := by unfold maxLen; omega
  have nc : cs.length ≤ maxLen := by unfold maxLen; omega
  have HFE := Lib.hid (fun v W (hW : Below w.heap.size w W) (hv : RdB W v (bx (bnds (ts.zip cs)))) => pfeas 30 f 3 (by decide) (by decide) _ r hf v W (hg.of hW) hv (by decide) (by decide) hp.right hl1 (by omega))
  have HA := Lib.hid (fun va W (hW : Below w.heap.size w W) hv => pall va vt vc ts cs W (hg.of hW) hv (ht.below hW) (hc.below hW) h)
  have hb0 := bel_al w (.cells #[.string ⟨#[]⟩, .string ⟨#[]⟩, .string ⟨#[]⟩] 61 (0, 0))
  have hr0 : Row (w.alloc (.cells #[.string ⟨#[]⟩, .string ⟨#[]⟩, .string ⟨#[]⟩] 61 (0, 0))) w.heap.size 61 [.string ⟨#[]⟩, .string ⟨#[]⟩, .string ⟨#[]⟩] := rnw
  have HR0 := Lib.hid (And.intro hr0 hb0)
  obtain ⟨At, ct, rfl⟩ := ht.len
  obtain ⟨Ac, cc, rfl⟩ := hc.len
  have HP := Lib.hid (pplate_ok _ _ ts cs _ (hs.below hb0) (ht.below hb0) (hc.below hb0) nt nc h)
  have HRR := Lib.hid hr
  have HLN := Lib.hid hlen
  clear h hs ht hc nt nc hg hr0 hb0 hp hl20 hl1 hf hr hlen
  go_enter Tryz.func21, Tryz.ntmps21
  go_wp2_with fail
  refine HP.out.mono ?_
  rintro e w1 ⟨va, rfl, hv, hb1⟩
  have hb2 := bel_to hb1 (bel_al w1 (.cells #[va, .slice At ts.length ct, .slice Ac cs.length cc] 100 (0, 0)))
  have HA1 := Lib.hid (HA.out va _ (bel_to HR0.out.2 hb2) (hv.below (bel_al _ _)))
  have HR1 := Lib.hid (And.intro (HR0.out.1.below' hb2) (bel_to HR0.out.2 hb2))
  obtain ⟨Av, cv, rfl⟩ := hv.len
  clear hv hb1 hb2 HP HA HR0
  go_wp2_with fail
  refine HA1.out.mono ?_
  rintro e w2 ⟨v, es, rfl, ho, hgd, he, hb2⟩
  have HR2 := Lib.hid (And.intro (HR1.out.1.below' hb2) (bel_to HR1.out.2 hb2))
  have HFE2 := Lib.hid (HFE.out v w2 HR2.out.2 (by rw [← he]; exact OwnE.rd ho hgd.good))
  obtain ⟨Ao, no, co, rfl⟩ := OwnE.shape ho
  clear ho hgd he hb2 HA1 HR1 HFE
  cases r with
  | inl p =>
    obtain ⟨dx, dy, tw, rfl⟩ := Sx.len3 HRR.out.1.1
    go_wp2_with fail
    refine HFE2.out.mono ?_
    rintro e w3 ⟨v1, rfl, ho3, hb3⟩
    obtain ⟨g, cap, rfl, hBg, hgl, hts⟩ := OwnS.form ho3 (by simp [rx])
    have hrw := HR2.out.1.below' hb3
    have hbw := bel_to HR2.out.2 hb3
    have s0 : w3.cell? ⟨g, 0, none⟩ = some (.string (bs (R dx))) := hts 0 (by simp [rx])
    have s1 : w3.cell? ⟨g, 1, none⟩ = some (.string (bs (R dy))) := hts 1 (by simp [rx])
    have s2 : w3.cell? ⟨g, 2, none⟩ = some (.string (bs (R tw))) := hts 2 (by simp [rx])
    have hsp : ∀ W : World, (Instr.arrayAt 61 (.slice (some ⟨g, 0, none⟩) 3 cap)).run Tryz.prog W = .ok (.pointer (some ⟨g, 0, none⟩)) W := fun W => by
      unfold Instr.arrayAt
      simp [go_sem]
    rw [show (rx [dx, dy, tw]).length = 3 from rfl]
    have f0 := hrw.free 0
    have f1 := (hrw.set 0 (.string (bs (R dx)))).free 1
    have f2 := ((hrw.set 0 (.string (bs (R dx)))).set 1 (.string (bs (R dy)))).free 2
    have c0 := hrw.cell (i := 0) rfl
    have c1 := (hrw.set 0 (.string (bs (R dx)))).cell (i := 1) rfl
    have c2 := ((hrw.set 0 (.string (bs (R dx)))).set 1 (.string (bs (R dy)))).cell (i := 2) rfl
    have HQ := Lib.hid (ar_store (.string (bs (R dx))) (.string (bs (R dy))) (.string (bs (R tw))) hrw (Nat.le_refl _) hbw)
    clear hb3 hrw hbw HR2 HFE2 ho3 hts HRR
    go_wp2
    go_region
    all_goals
      go_wp2
      have q0 := HQ.out.1.cell (i := 0) rfl
      have q1 := HQ.out.1.cell (i := 1) rfl
      have q2 := HQ.out.1.cell (i := 2) rfl
      refine bodyPost_ret (v := .tuple #[.bool true, .agg #[.string (bs (R dx)), .string (bs (R dy)), .string (bs (R tw))], .slice none 0 0, .int .i64 0]) (by simp [results, Tryz.results21, go_sem, q0, q1, q2]) rfl ⟨rfl, RowKit.Below.drew HQ.out.2⟩
  | inr q =>
    go_wp2_with fail
    refine HFE2.out.mono ?_
    rintro e w3 ⟨v2, rfl, ho3, hb3⟩
    have hrw := HR2.out.1.below' hb3
    have hbw := bel_to HR2.out.2 hb3
    have hsl : w.heap.size < w2.heap.size := HR2.out.1.lt
    have f0 := hrw.free 0
    have f1 := (hrw.set 0 (.string ⟨#[]⟩)).free 1
    have f2 := ((hrw.set 0 (.string ⟨#[]⟩)).set 1 (.string ⟨#[]⟩)).free 2
    have c0 := hrw.cell (i := 0) rfl
    have c1 := (hrw.set 0 (.string ⟨#[]⟩)).cell (i := 1) rfl
    have c2 := ((hrw.set 0 (.string ⟨#[]⟩)).set 1 (.string ⟨#[]⟩)).cell (i := 2) rfl
    have HQ := Lib.hid (ar_store (.string ⟨#[]⟩) (.string ⟨#[]⟩) (.string ⟨#[]⟩) hrw (Nat.le_refl _) hbw)
    have HV := Lib.hid (own_setS (j := 2) (u := .string ⟨#[]⟩) hsl (own_setS (j := 1) (u := .string ⟨#[]⟩) hsl (own_setS (j := 0) (u := .string ⟨#[]⟩) hsl ho3)))
    obtain ⟨Aq, nq, cq, rfl⟩ := OwnS.shape ho3
    clear hb3 hrw hbw HR2 HFE2 ho3 HRR hsl
    go_wp2
    have q0 := HQ.out.1.cell (i := 0) rfl
    have q1 := HQ.out.1.cell (i := 1) rfl
    have q2 := HQ.out.1.cell (i := 2) rfl
    refine bodyPost_ret (v := .tuple #[.bool false, .agg #[.string ⟨#[]⟩, .string ⟨#[]⟩, .string ⟨#[]⟩], .slice Aq nq cq, .int .i64 0]) (by simp [results, Tryz.results21, go_sem, q0, q1, q2]) rfl ⟨_, rfl, HV.out.rd, HV.out.shp, HQ.out.2⟩
end W
end Go.Proofs.YtlmolhblmlojnaaGreatDoor
end
section
namespace Go.Proofs.YtlmolhblmlojnaaGreatDoor
open Go Go.RowKit Go.Deep
theorem wpList_app_t {ops : Array Oper} {rest : List Oper} {o : Oper} {a : Act} {Q : Exit → Act → World → Prop} {w : World} {B : Nat} {v xv : Value} {l m : List (List UInt8)} (hgd : o.guard = none) (s x : Operand)
    (ho : o.op = .call { callee := .builtin .append, args := #[s, x], argTypes := #[62, 62] }) (hs : a.eval s = v) (hx : a.eval x = xv)
    (h : OwnS w B v l) (hsrc : SrcT w xv m) (hB : B ≤ w.heap.size) (hn : l.length + m.length ≤ 1000000000)
    (hK : ∀ v' w', OwnS w' B v' (l ++ m) → w.grownBy w' v.ownBlock → wpList Tryz.prog ops Q rest (a.put o.dst v') w') : wpList Tryz.prog ops Q (o :: rest) a w :=
  wpList_plain hgd fun _ hK2 => by
    have h0 := step_app_t (ops := #[]) (E := True) (K := _) (Q := Q) hgd s x ho hs hx h hsrc hB hn fun v' w' h2 h3 => hK2 _ _ (hK v' w' h2 h3)
    rwa [if_pos (by simp [Region.wanted, hgd])] at h0
theorem ApS.of {W E w' : World} {v : Value} {l : List (List UInt8)} (hE : Below W.heap.size W E) (ho : OwnS w' E.heap.size v l) (hb : Below E.heap.size E w') : ApS W w' v l :=
  ⟨ownsRow_base ho hE.size, bel_to hE hb⟩
structure ExS (w0 w : World) (vo : Value) (es : List (Value × M.BT)) : Prop where
  own : OwnE w w0.heap.size vo es
  good : GoodT w es
  bel : Below w0.heap.size w0 w
theorem ExS.to {w0 w w' : World} {vo : Value} {es : List (Value × M.BT)} (h : ExS w0 w vo es) (hb : Below w.heap.size w w') : ExS w0 w' vo es := ⟨h.own.below hb, h.good.below hb, bel_to h.bel hb⟩
theorem ExS.app {w0 w w' : World} {vo v' : Value} {es es2 : List (Value × M.BT)} (h : ExS w0 w vo es) (h2 : GoodT w es2) (ho : OwnE w' w0.heap.size v' (es ++ es2)) (hg : w.grownBy w' vo.ownBlock) : ExS w0 w' v' (es ++ es2) :=
  ⟨ho, (h.good.append h2).grown h.own hg, app_belE h.own h.bel (Nat.le_refl _) hg⟩
theorem ApS.good {W w : World} {v : Value} {l : List (List UInt8)} {q : List UInt8} (h : ApS W w v l) : GoodT w [(v, (l, q))] := fun x hx => by
  rw [List.mem_singleton.1 hx]; exact ⟨_, h.1⟩
namespace W
open M
attribute [local go_sem] bs_size bs_toList bs_get bs_extract bs_append bs_lit0 bs_lit1 lit1_bs
set_option maxHeartbeats 2000000
set_option maxRecDepth 20000
theorem pcloneS (vl : Value) (l : List (List UInt8)) (w : World) (hs : RdT w vl l) (hp : Shp vl) (hn : l.length ≤ 1000000) :
    Calls Tryz.prog 69 #[vl] w (fun e w' => ∃ v', e = .returned v' ∧ OwnS w' w.heap.size v' l ∧ Below w.heap.size w w') := by
  rcases SrcT.of hs hp with ⟨rfl, rfl⟩ | ⟨a, cap, rfl, hc⟩
  · have hq : ∀ w, (binOp .eql 62 (.slice none 0 0) (.slice none 0 0)).run Tryz.prog w = .ok (.bool true) w := fun w => rfl
    clear hs hp
    go_enter Tryz.func69, Tryz.ntmps69
    go_wp2
    go_ret
    exact ⟨_, rfl, World.ownsRow_nil _ _ _ _, Below.refl _ _⟩
  · have hq : ∀ w, (binOp .eql 62 (.slice (some a) l.length cap) (.slice none 0 0)).run Tryz.prog w = .ok (.bool false) w := fun w => rfl
    have hb0 : Below w.heap.size w (w.alloc (.cells #[] 26 (0, 0))) := bel_alloc (Below.refl _ _) _
    have HS := Lib.hid (And.intro (SrcT.of (hs.below hb0) hp) hb0)
    clear hs hp hc hb0
    go_enter Tryz.func69, Tryz.ntmps69
    go_wp2_with (at_builtin; refine wpList_app_t rfl (.tmp 5) (.tmp 6) rfl rfl rfl (OwnS.fresh w w.heap.size w.heap.size rfl (Nat.le_refl _)) HS.out.1 HS.out.2.size (by simp; omega) ?_; intro v2 w2 ho2 hk2)
    rw [List.nil_append] at ho2
    have HF := Lib.hid (And.intro ho2 (app_belS (OwnS.fresh w w.heap.size w.heap.size rfl (Nat.le_refl _)) HS.out.2 (Nat.le_refl _) hk2))
    clear ho2 hk2 HS
    go_wp2
    go_ret
    exact ⟨_, rfl, HF.out.1, HF.out.2⟩
end W
end Go.Proofs.YtlmolhblmlojnaaGreatDoor
end
section
namespace Go.Proofs.YtlmolhblmlojnaaGreatDoor
open Go Go.RowKit Go.Deep
namespace M
def lit12 : List UInt8 := [45, 49, 47, 50]
theorem R_half : R (-1 / 2) = lit12 := by kernel_rfl
theorem bx_bndsE (pl : Pl) : bx (bndsE pl) = (bx (bnds pl)).map fun b => (b.1 ++ [lit12], b.2) := by
  unfold bndsE bx
  rw [List.map_map, List.map_map]
  refine List.map_congr_left fun b _ => ?_
  simp [rx, R_half]
theorem goal_rx : rx [0, 0, 0, -1] = [[48], [48], [48], [45, 49]] := by kernel_rfl
end M
theorem genw {w : World} (P : World → Prop) {G : World → Prop} (h : P w) (k : ∀ W, P W → G W) : G w := k w h
theorem ex_in {w0 W w6 : World} {v9 v6 : Value} {es : List (Value × M.BT)} {l : List (List UInt8)} {q : List UInt8} (h : ExS w0 W v9 es) (h2 : ApS W w6 v6 l) :
    ExS w0 (w6.alloc (.cells #[v6, .string (bs q)] 107 (0, 0))) v9 es ∧ GoodT (w6.alloc (.cells #[v6, .string (bs q)] 107 (0, 0))) [(v6, (l, q))] :=
  ⟨h.to (bel_to h2.2 (bel_al _ _)), (ApS.good h2).below (bel_al _ _)⟩
theorem OwnS.form2 {w : World} {B : Nat} {v : Value} {l : List (List UInt8)} (h : OwnS w B v l) (hn : l ≠ []) :
    ∃ g cap, v = .slice (some ⟨g, 0, none⟩) l.length cap ∧ B ≤ g ∧ g < w.heap.size ∧ l.length ≤ cap ∧ ∀ i (hi : i < l.length), w.cell? ⟨g, i, none⟩ = some (.string (bs l[i])) := by
  obtain ⟨h1, h2⟩ := h
  rcases h2 with ⟨_, hn2⟩ | ⟨g, cap, cur, hv, hB, hh, hc, _, _, ht⟩
  · exact absurd (List.length_eq_zero_iff.1 hn2) hn
  · refine ⟨g, cap, hv, hB, lt_of_block hh, hc, fun i hi => ?_⟩
    have : (Strs l)[i]? = some (.string (bs l[i])) := by simp [Strs, hi]
    rw [← ht, List.getElem?_take] at this
    split at this
    · simp [World.cell?, hh]; simpa using this
    · cases this
namespace W
open M
attribute [local go_sem] bs_size bs_toList bs_get bs_extract bs_append bs_lit0 bs_lit1 lit1_bs
set_option maxHeartbeats 2000000
set_option maxRecDepth 20000
theorem pexcess_ok (ts : List Tg) (cs : List Cc) (h : chk46 ts cs = 0) (h5 : ts.length ≤ 5) : ∃ dx dy tw x : Rat, Sx.Exc (ts.zip cs) x ∧ Sx.Fz (ts.zip cs) dx dy tw x ∧ (∀ q ∈ [dx, dy, tw, x], Bq 37 q) ∧
    ∀ (vt vc : Value) (w : World), Glob w → Sig w → RdG w vt ts → RdC w vc cs → Calls Tryz.prog 33 #[vt, vc] w (Ret w (.tuple #[.string (bs (R x)), arV (rx [dx, dy, tw]), .int .i64 0])) := by
  obtain ⟨_, hl20, hl1⟩ := bnds_few h h5
  have hrt := (chk46_iff.1 h).2.2.2
  have hpl := Sx.bndsE_rightP hrt
  have hlE : (bndsE (ts.zip cs)).length = (bnds (ts.zip cs)).length := by rw [bndsE_len, bnds_len]
  have hne : ts.zip cs ≠ [] := fun e => by rw [e] at hl1; simp [bnds] at hl1
  obtain ⟨f, r, hf, hr⟩ := Sx.most_plate (goal := [0, 0, 0, -1]) hpl (fun x hx => by
    simp only [List.mem_cons, List.not_mem_nil, or_false] at hx
    rcases hx with rfl | rfl | rfl | rfl
    · exact Or.inl rfl
    · exact Or.inl rfl
    · exact Or.inl rfl
    · exact Or.inr (Or.inr rfl)) (by omega)
  obtain ⟨dx, dy, tw, x, wt, rfl, hx, hfz, hq⟩ := Sx.found_exc hne hr
  refine ⟨dx, dy, tw, x, hx, hfz, hq, fun vt vc w hg hs ht hc => ?_⟩
  have hlen := (chk46_iff.1 h).2.2.1
  have nt : ts.length ≤ maxLen := by unfold maxLen; omega
  have nc : cs.length ≤ maxLen := by unfold maxLen; omega
  have HMO := Lib.hid (fun vl vg W (hW : Below w.heap.size w W) (hv : RdB W vl (bx (bndsE (ts.zip cs)))) (hvg : RdT W vg [[48], [48], [48], [45, 49]]) => pmost 37 f 4 (by decide) (by decide) (by decide) _ [0, 0, 0, -1] _ hf vl vg W (hg.of hW) hv (by rw [goal_rx]; exact hvg) (by decide) (by decide) hpl.right (by omega) (by omega) rfl (by decide +kernel))
  have hng := fun W (hW : Below w.heap.size w W) => ratNeg (-x) 37 W (hg.of hW) (Bq.neg (hq x (by simp))) (by decide)
  rw [show - -x = x by grind] at hng
  have HNG := Lib.hid hng
  clear hng
  have HA := Lib.hid (fun va W (hW : Below w.heap.size w W) hv => pall va vt vc ts cs W (hg.of hW) hv (ht.below hW) (hc.below hW) h)
  have hb0 := bel_al w (.cells #[.string ⟨#[]⟩, .string ⟨#[]⟩, .string ⟨#[]⟩] 61 (0, 0))
  have hr0 : Row (w.alloc (.cells #[.string ⟨#[]⟩, .string ⟨#[]⟩, .string ⟨#[]⟩] 61 (0, 0))) w.heap.size 61 [.string ⟨#[]⟩, .string ⟨#[]⟩, .string ⟨#[]⟩] := rnw
  have HR0 := Lib.hid (And.intro hr0 hb0)
  have HBX := Lib.hid (bx_bndsE (ts.zip cs))
  have HBL : Hid (∀ b ∈ bx (bnds (ts.zip cs)), b.1.length ≤ 10) := Lib.hid (fun b hb => by
    obtain ⟨c, hc, rfl⟩ := List.mem_map.1 hb
    have := (Sx.bnds_rightP hrt c hc).1
    simp only [rx_len]; omega)
  have HB2 : (bx (bnds (ts.zip cs))).length ≤ 20 := by rw [bx_len]; exact hl20
  obtain ⟨At, ct, rfl⟩ := ht.len
  obtain ⟨Ac, cc, rfl⟩ := hc.len
  have HP := Lib.hid (pplate_ok _ _ ts cs _ (hs.below hb0) (ht.below hb0) (hc.below hb0) nt nc h)
  clear h hs ht hc nt nc hg hr0 hb0 hpl hl20 hl1 hf hr hlen hrt hne hx hfz hq hlE
  go_enter Tryz.func33, Tryz.ntmps33
  go_wp2_with fail
  refine HP.out.mono ?_
  rintro e w1 ⟨va, rfl, hv, hb1⟩
  have hb2 := bel_to hb1 (bel_al w1 (.cells #[va, .slice At ts.length ct, .slice Ac cs.length cc] 100 (0, 0)))
  have HA1 := Lib.hid (HA.out va _ (bel_to HR0.out.2 hb2) (hv.below (bel_al _ _)))
  have HR1 := Lib.hid (And.intro (HR0.out.1.below' hb2) (bel_to HR0.out.2 hb2))
  obtain ⟨Av, cv, rfl⟩ := hv.len
  clear hv hb1 hb2 HP HA HR0
  go_wp2_with fail
  refine HA1.out.mono ?_
  rintro e w2 ⟨v, es, rfl, ho, hgd, he, hb2⟩
  have HR2 := Lib.hid (And.intro (HR1.out.1.below' hb2) (bel_to HR1.out.2 hb2))
  have hrb : RdB w2 v (bx (bnds (ts.zip cs))) := by rw [← he]; exact OwnE.rd ho hgd.good
  generalize bx (bnds (ts.zip cs)) = B at *
  obtain ⟨Ao, co, rfl⟩ := hrb.len
  have HRB := Lib.hid hrb
  clear ho hgd he hb2 HA1 HR1 hrb
  go_wp2_with fail
  go_loopw [9, 28] (fun vo iv wr => ∃ (k : Nat) (es : List (Value × BT)), iv = .int .i64 (k : Int) ∧ k ≤ B.length ∧ Hid (ExS w2 wr vo es) ∧ Hid (es.map (·.2) = (B.take k).map fun b => (b.1 ++ [lit12], b.2))) (fun _ iv _ => B.length - (intOf iv).toNat)
  case atStart => exact ⟨0, [], rfl, by omega, Lib.hid ⟨World.ownsRow_nil _ _ _ _, (fun x hx => by cases hx), Below.refl _ _⟩, Lib.hid rfl⟩
  case round =>
    obtain ⟨k, es, rfl, hk, hin, hes⟩ := hrel
    by_cases hlt : k < B.length
    · have hel := congrArg List.length hes.out
      rw [List.length_map, List.length_map, List.length_take] at hel
      have HEL : Hid (es.length ≤ 20) := Lib.hid (by omega)
      have HTK : Hid ((B.take (k + 1)).map (fun b => (b.1 ++ [lit12], b.2)) = (B.take k).map (fun b => (b.1 ++ [lit12], b.2)) ++ [(B[k].1 ++ [lit12], B[k].2)]) := Lib.hid (by
        rw [List.take_add_one, List.getElem?_eq_getElem hlt, List.map_append]; rfl)
      have hb10 := HBL.out _ (List.getElem_mem hlt)
      obtain ⟨b1, o1, rfl, hw⟩ := HRB.out.row k hlt
      have hw := hw.below' hin.out.bel
      obtain ⟨vr, c0, hvr, hsr⟩ := hw.row k hlt
      have c1 := hw.most k hlt
      generalize B[k] = bb at *
      obtain ⟨row, q⟩ := bb
      simp only at *
      have hrow : Row (wr.alloc (.cells #[vr, .string (bs q)] 107 (0, 0))) wr.heap.size 107 [vr, .string (bs q)] := rnw
      have HW0 := Lib.hid (And.intro hrow (And.intro (hin.out.to (bel_al wr (.cells #[vr, .string (bs q)] 107 (0, 0)))) (And.intro (hvr.below (bel_al wr (.cells #[vr, .string (bs q)] 107 (0, 0)))) hsr)))
      have HB10 := Lib.hid hb10
      obtain ⟨Ar, nr, cr, hvr2⟩ : ∃ A n c, vr = .slice A n c := by
        obtain ⟨A, c, e⟩ := hvr.len
        exact ⟨_, _, _, e⟩
      subst hvr2
      obtain ⟨Av2, nv2, cv2, rfl⟩ := OwnE.shape hin.out.own
      have HNE : Hid (some wr.heap.size ≠ (Value.slice Av2 nv2 cv2).ownBlock) := Lib.hid (fun e => by
        have := (World.ownsRow.lt hin.out.own _ e.symm).2
        omega)
      have hi0 : (0 : Int) ≤ (k : Int) := by omega
      have hi1 : (k : Int) < (B.length : Int) := by omega
      clear hw hvr hsr hrow hel hb10 hin
      go_wp2_with fail
      refine genw (fun W => Row W wr.heap.size 107 [.slice Ar nr cr, .string (bs q)] ∧ ExS w2 W (.slice Av2 nv2 cv2) es ∧ RdT W (.slice Ar nr cr) row ∧ Shp (.slice Ar nr cr)) HW0.out ?_
      intro W hW
      have HW1 := Lib.hid hW
      clear hW HW0 c0 c1
      generalize wr.heap.size = xb at *
      have HCL := Lib.hid (fun E (hE : Below W.heap.size W E) => And.intro ((HW1.out.1.below' hE).cell (i := 0) rfl) ((HW1.out.1.below' hE).cell (i := 1) rfl))
      have HC := Lib.hid (fun E (hE : Below W.heap.size W E) => pcloneS (.slice Ar nr cr) row E (HW1.out.2.2.1.below hE) HW1.out.2.2.2 (by have := HB10.out; omega))
      have HBD := Lib.hid (RowKit.Below.drew (Below.refl W.heap.size W))
      have HBL1 := Lib.hid (RowKit.Below.drew ((Below.refl W.heap.size W).alloc (Nat.le_refl _) (Obj.cells #[.string ⟨#[45, 49, 47, 50]⟩] 26 (0, 0))))
      have HBL2 := Lib.hid ((RowKit.Below.drew (Below.refl W.heap.size W)).alloc (Nat.le_refl _) (Obj.cells #[.string ⟨#[45, 49, 47, 50]⟩] 26 (0, 0)))
      have HL1 := Lib.hid (show Row (W.alloc (Obj.cells #[.string (bs lit12)] 26 (0, 0))).drew W.heap.size 26 [.string (bs lit12)] from rnw)
      have HLN : Hid (row.length + [lit12].length ≤ 1000000000 ∧ (es.length + 1) * 40 ≤ 140737488355328) := Lib.hid (by
        have h1 := HB10.out
        have h2 := HEL.out
        simp only [List.length_cons, List.length_nil]
        omega)
      clear HB10 HEL
      go_region_held3 (fun E => E.cell? ⟨xb, 0, none⟩ = some (.slice Ar nr cr) ∧ E.cell? ⟨xb, 1, none⟩ = some (.string (bs q)))
        (first | exact And.intro (HC7.out.cell (i := 0) rfl) (HC7.out.cell (i := 1) rfl) | exact HCL.out _ (HA2.out.2.alloc HA2.out.2.size _) | exact HCL.out _ HA2.out.2 | exact HCL.out _ (HA1.out.2.alloc HA1.out.2.size _) | exact HCL.out _ HA1.out.2 | exact HCL.out _ (Below.refl _ _) | exact HCL.out _ HBD.out | exact HCL.out _ HBL1.out | exact HCL.out _ HBL2.out)
        (first
        | (go_at_call 69; first
          | (refine (HC.out _ HBD.out).mono ?_; rintro e w5 ⟨v5, rfl, ho5, hb5⟩; have HA1 := Lib.hid (ApS.of HBD.out ho5 hb5); obtain ⟨A5, n5, c5, rfl⟩ := OwnS.shape ho5; clear ho5 hb5)
          | (refine (HC.out _ HBL1.out).mono ?_; rintro e w5 ⟨v5, rfl, ho5, hb5⟩; have HA1 := Lib.hid (ApS.of HBL1.out ho5 hb5); have HXR := Lib.hid (SrcT.row (HL1.out.below' hb5)); obtain ⟨A5, n5, c5, rfl⟩ := OwnS.shape ho5; clear ho5 hb5)
          | (refine (HC.out _ HBL2.out).mono ?_; rintro e w5 ⟨v5, rfl, ho5, hb5⟩; have HA1 := Lib.hid (ApS.of HBL2.out ho5 hb5); have HXR := Lib.hid (SrcT.row (HL1.out.below' hb5)); obtain ⟨A5, n5, c5, rfl⟩ := OwnS.shape ho5; clear ho5 hb5))
        | (refine step_app_t rfl (.tmp 35) (.tmp 36) rfl rfl rfl HA1.out.1 HXR.out HA1.out.2.size HLN.out.1 ?_; intro v6 w6 ho6 hg6; obtain ⟨A6, n6, c6, rfl⟩ := OwnS.shape ho6; have HA2 := Lib.hid (show ApS W w6 (.slice A6 n6 c6) (row ++ [lit12]) from ⟨ho6, app_belS HA1.out.1 HA1.out.2 (Nat.le_refl _) hg6⟩); clear ho6 hg6)
        | (refine step_app_t rfl (.tmp 35) (.tmp 36) rfl rfl rfl (OwnS.alloc HA1.out.1 _) (SrcT.new w5 lit12) (HA1.out.2.alloc HA1.out.2.size _).size HLN.out.1 ?_; intro v6 w6 ho6 hg6; obtain ⟨A6, n6, c6, rfl⟩ := OwnS.shape ho6; have HA2 := Lib.hid (show ApS W w6 (.slice A6 n6 c6) (row ++ [lit12]) from ⟨ho6, app_belS (OwnS.alloc HA1.out.1 _) (HA1.out.2.alloc HA1.out.2.size _) (Nat.le_refl _) hg6⟩); clear ho6 hg6)
        | (refine step_app_e rfl (.tmp 32) (.tmp 41) rfl rfl rfl (ex_in (q := q) HW1.out.2.1 HA2.out).1.own (SrcE.new w6 (.slice A6 n6 c6) (row ++ [lit12], q)) (ex_in (q := q) HW1.out.2.1 HA2.out).2.good (ex_in (q := q) HW1.out.2.1 HA2.out).1.bel.size HLN.out.2 ?_; intro v7 w7 ho7 hg7; have HA3 := Lib.hid (ExS.app (ex_in (q := q) HW1.out.2.1 HA2.out).1 (ex_in (q := q) HW1.out.2.1 HA2.out).2 ho7 hg7); have HC7 := Lib.hid (row_grown (HW1.out.1.below' (bel_to HA2.out.2 (bel_al _ _))) hg7 HNE.out); clear ho7 hg7))
      all_goals
        go_wp2
        go_roundw
        case rel => exact ⟨k + 1, _, by go_num, by omega, HA3, Lib.hid (by rw [List.map_append, hes.out, HTK.out]; rfl)⟩
        case measure => simp [intOf]; omega
    · obtain rfl : k = B.length := by omega
      have hes2 := hes.out
      rw [List.take_length, ← HBX.out] at hes2
      obtain ⟨Av2, nv2, cv2, rfl⟩ := OwnE.shape hin.out.own
      have hv3 : RdB wr (.slice Av2 nv2 cv2) (bx (bndsE (ts.zip cs))) := by rw [← hes2]; exact OwnE.rd hin.out.own hin.out.good.good
      have hbw := bel_to HR2.out.2 hin.out.bel
      have hbg := bel_al wr (.cells (Strs [[48], [48], [48], [45, 49]]).toArray 26 (0, 0))
      have hvg := (OwnS.new wr [[48], [48], [48], [45, 49]] (Strs [[48], [48], [48], [45, 49]]).toArray 0 4 wr.heap.size rfl rfl rfl (Nat.zero_le _) (by decide)).rd
      have HM1 := Lib.hid (HMO.out (.slice Av2 nv2 cv2) _ _ (bel_to hbw hbg) (hv3.below hbg) hvg)
      have HR3 := Lib.hid (And.intro (HR2.out.1.below' (bel_to hin.out.bel hbg)) (bel_to hbw hbg))
      clear hes hes2 hv3 hbw hbg hvg hin HMO HR2 HRB HBL
      go_wp2_with fail
      refine HM1.out.mono ?_
      rintro e w3 ⟨v1, v2, rfl, ho1, ho2, hb3⟩
      obtain ⟨g, cap, rfl, hBg, hgl, hcap, hts⟩ := OwnS.form2 ho1 (by simp [rx])
      obtain ⟨Aw, nw, cw, rfl⟩ := OwnS.shape ho2
      have HR4 := Lib.hid (And.intro (HR3.out.1.below' hb3) (bel_to HR3.out.2 hb3))
      have HTS := Lib.hid (And.intro hgl hts)
      have HCP := Lib.hid hcap
      have HN1 := Lib.hid (HNG.out w3 HR4.out.2)
      rw [show (rx [dx, dy, tw, x]).length = 4 from rfl]
      clear ho1 ho2 hb3 HM1 HR3 hBg hgl hts hcap HNG
      go_wp2_with fail
      refine HN1.out.mono ?_
      rintro e w4 ⟨rfl, hb4⟩
      have hts4 : ∀ i (hi : i < (rx [dx, dy, tw, x]).length), w4.cell? ⟨g, i, none⟩ = some (.string (bs (rx [dx, dy, tw, x])[i])) := fun i hi => (hb4.cell (p := ⟨g, i, none⟩) HTS.out.1).trans (HTS.out.2 i hi)
      have hrw := HR4.out.1.below' hb4
      have hbw := bel_to HR4.out.2 hb4
      have s0 : w4.cell? ⟨g, 0, none⟩ = some (.string (bs (R dx))) := hts4 0 (by simp [rx])
      have s1 : w4.cell? ⟨g, 1, none⟩ = some (.string (bs (R dy))) := hts4 1 (by simp [rx])
      have s2 : w4.cell? ⟨g, 2, none⟩ = some (.string (bs (R tw))) := hts4 2 (by simp [rx])
      have hsp : ∀ W : World, (Instr.arrayAt 61 (.slice (some ⟨g, 0, none⟩) 3 cap)).run Tryz.prog W = .ok (.pointer (some ⟨g, 0, none⟩)) W := fun W => by
        unfold Instr.arrayAt
        simp [go_sem]
      have hc4 : (4 : Nat) ≤ cap := HCP.out
      have h3c : (3 : Int) ≤ (cap : Int) := by omega
      have f0 := hrw.free 0
      have f1 := (hrw.set 0 (.string (bs (R dx)))).free 1
      have f2 := ((hrw.set 0 (.string (bs (R dx)))).set 1 (.string (bs (R dy)))).free 2
      have c0 := hrw.cell (i := 0) rfl
      have c1 := (hrw.set 0 (.string (bs (R dx)))).cell (i := 1) rfl
      have c2 := ((hrw.set 0 (.string (bs (R dx)))).set 1 (.string (bs (R dy)))).cell (i := 2) rfl
      have HQ := Lib.hid (ar_store (.string (bs (R dx))) (.string (bs (R dy))) (.string (bs (R tw))) hrw (Nat.le_refl _) hbw)
      clear hb4 hrw hbw HR4 HN1 hts4 HTS HCP hc4
      go_wp2
      go_region
      all_goals
        go_wp2
        have q0 := HQ.out.1.cell (i := 0) rfl
        have q1 := HQ.out.1.cell (i := 1) rfl
        have q2 := HQ.out.1.cell (i := 2) rfl
        refine bodyPost_ret (v := .tuple #[.string (bs (R x)), .agg #[.string (bs (R dx)), .string (bs (R dy)), .string (bs (R tw))], .int .i64 0]) (by simp [results, Tryz.results33, go_sem, q0, q1, q2]) rfl ⟨rfl, RowKit.Below.drew HQ.out.2⟩
end W
end Go.Proofs.YtlmolhblmlojnaaGreatDoor
end
section
namespace Go.Proofs.YtlmolhblmlojnaaGreatDoor
open Go Go.RowKit Go.Deep
namespace M
def hv (z : Int) : Rat := (z : Rat) / 2
def hts (l : List Int) : List (List UInt8) := l.map fun z => R (hv z)
theorem hts_len (l : List Int) : (hts l).length = l.length := List.length_map _
theorem hv_lt {a b : Int} : hv a < hv b ↔ a < b := by
  unfold hv
  rw [← Rat.intCast_lt_intCast]
  constructor <;> intro h <;> grind
def leastV (lo hi : List Int) : Value := if hi.all (fun z => decide (mxZ lo ≤ z)) = true then .tuple #[.string (bs (R (hv (mxZ lo)))), .bool true] else .tuple #[.string (bs []), .bool false]
theorem leastV_bad {lo hi : List Int} {k : Nat} (hk : k < hi.length) (h : hi[k] < mxZ lo) : leastV lo hi = .tuple #[.string (bs []), .bool false] := by
  unfold leastV
  rw [if_neg]
  intro e
  have := of_decide_eq_true (List.all_eq_true.1 e _ (List.getElem_mem hk))
  omega
theorem leastV_good {lo hi : List Int} (h : ∀ k (hk : k < hi.length), mxZ lo ≤ hi[k]) : leastV lo hi = .tuple #[.string (bs (R (hv (mxZ lo)))), .bool true] := by
  unfold leastV
  rw [if_pos]
  rw [List.all_eq_true]
  intro x hx
  obtain ⟨k, hk, rfl⟩ := List.mem_iff_getElem.1 hx
  exact decide_eq_true (h k hk)
end M
namespace W
open M
attribute [local go_sem] bs_size bs_toList bs_get bs_extract bs_append bs_lit0 bs_lit1 lit1_bs
set_option maxHeartbeats 2000000
set_option maxRecDepth 20000
theorem hv_bq {z : Int} (h : z.natAbs < 10 ^ 8) : Bq 8 (hv z) := by
  have h1 := half_bq h
  rw [Rat.divInt_eq_div] at h1
  exact h1
theorem pleast (vl vh : Value) (lo hi : List Int) (w : World) (hg : Glob w) (hl : RdT w vl (hts lo)) (hh : RdT w vh (hts hi)) (n1 : lo.length ≤ 1000000) (n2 : hi.length ≤ 1000000) (h0 : 0 < lo.length)
    (b1 : ∀ z ∈ lo, z.natAbs < 10 ^ 8) (b2 : ∀ z ∈ hi, z.natAbs < 10 ^ 8) : Calls Tryz.prog 37 #[vl, vh] w (Ret w (leastV lo hi)) := by
  have HC := Lib.hid (fun (a b : Int) W (hW : Below w.heap.size w W) (ha : a.natAbs < 10 ^ 8) (hb : b.natAbs < 10 ^ 8) => ratCompare (hv a) (hv b) 8 8 W (hg.of hW) (hv_bq ha) (hv_bq hb) (by decide))
  have HMX : Hid (∀ i, i ≤ lo.length → (mxTo lo i).natAbs < 10 ^ 8) := Lib.hid (fun i hi => by
    obtain ⟨k, hk, e⟩ := mxTo_mem lo h0 i hi
    rw [e, show lo.getD k 0 = lo[k] by simp [hk]]
    exact b1 _ (List.getElem_mem hk))
  have HLO : Hid (∀ i (h : i < lo.length), lo[i].natAbs < 10 ^ 8) := Lib.hid (fun i h => b1 _ (List.getElem_mem h))
  have HHI : Hid (∀ i (h : i < hi.length), hi[i].natAbs < 10 ^ 8) := Lib.hid (fun i h => b2 _ (List.getElem_mem h))
  have HWL := Lib.hid hl
  have HWH := Lib.hid hh
  obtain ⟨A, ca, rfl⟩ := hl.len
  obtain ⟨B, cb, rfl⟩ := hh.len
  have HBAD := Lib.hid (fun k (hk : k < hi.length) => leastV_bad (lo := lo) hk)
  have HGOOD := Lib.hid (leastV_good (lo := lo) (hi := hi))
  obtain ⟨ba, oa, rfl, hwa⟩ := hl.row 0 (by rw [hts_len]; exact h0)
  have c00 : w.cell? ⟨ba, oa + 0, none⟩ = some (.string (bs (R (hv (lo.getD 0 0))))) := by
    rw [hwa.val 0 (by rw [hts_len]; exact h0)]
    simp [hts, h0]
  rw [Nat.add_zero] at c00
  generalize leastV lo hi = res at *
  rw [hts_len] at HWL
  rw [hts_len] at HWH
  rw [hts_len, hts_len]
  clear hl hh hg b1 b2 hwa
  have hl0 : (0 : Int) < (lo.length : Int) := by omega
  have hz : (0 : Int) ≤ 0 := by omega
  go_enter Tryz.func37, Tryz.ntmps37
  go_wp2
  go_loopw [6, 20] (fun bv iv wr => ∃ (i : Nat), iv = .int .i64 (i : Int) ∧ bv = .string (bs (R (hv (mxTo lo i)))) ∧ i ≤ lo.length ∧ Hid (Below w.heap.size w wr)) (fun _ iv _ => lo.length - (intOf iv).toNat)
  case atStart => exact ⟨0, rfl, by simp [mxTo, h0], by omega, Lib.hid (Below.refl _ _)⟩
  case round =>
    clear c00
    obtain ⟨i, rfl, rfl, hi2, hin⟩ := hrel
    by_cases hlt : i < lo.length
    · have HW2 := HWL.out
      have hlt' : i < (hts lo).length := by rw [hts_len]; exact hlt
      rw [← hts_len lo] at HW2
      obtain ⟨b1, o1, hab, hw⟩ := HW2.row i hlt'
      injection hab with hab
      injection hab with h1 h2 h3
      subst h1 h2
      have c0 := (hw.below' hin.out).val i hlt'
      rw [show (hts lo)[i] = R (hv lo[i]) by simp [hts]] at c0
      have HCC := Lib.hid (HC.out lo[i] (mxTo lo i) wr hin.out (HLO.out i hlt) (HMX.out i hi2))
      have HST : Hid (mxTo lo (i + 1) = max (mxTo lo i) lo[i]) := Lib.hid (by rw [mxTo, show lo.getD i 0 = lo[i] by simp [hlt]])
      have hcm : decide (0 < cmpQ (hv lo[i]) (hv (mxTo lo i))) = decide (mxTo lo i < lo[i]) := by rw [decide_eq_decide, cmpQ_gt]; exact hv_lt
      clear hw HW2 hlt' h3
      generalize mxTo lo i = mx at *
      generalize lo[i] = x at *
      generalize cmpQ (hv x) (hv mx) = cm at *
      have hi0 : (0 : Int) ≤ (i : Int) := by omega
      have hi1 : (i : Int) < (lo.length : Int) := by omega
      go_wp2_with fail
      refine HCC.out.mono ?_
      rintro e w1 ⟨rfl, hb1⟩
      have HB1 := Lib.hid (bel_to hin.out hb1)
      clear hb1 hin HCC
      by_cases hgt : mx < x
      · rw [decide_eq_true hgt] at hcm
        have he := HST.out
        rw [show max mx x = x by omega] at he
        go_wp2
        go_roundw
        case rel => exact ⟨i + 1, by go_num, by rw [he], by omega, HB1⟩
        case measure => simp [intOf]; omega
      · rw [decide_eq_false hgt] at hcm
        have he := HST.out
        rw [show max mx x = mx by omega] at he
        go_wp2
        go_roundw
        case rel => exact ⟨i + 1, by go_num, by rw [he], by omega, HB1⟩
        case measure => simp [intOf]; omega
    · obtain rfl : i = lo.length := by omega
      have hmx := HMX.out lo.length (Nat.le_refl _)
      have HGD := Lib.hid HGOOD.out
      have HBD := Lib.hid HBAD.out
      clear HMX HGOOD HBAD HLO HWL
      unfold mxZ at HGD HBD
      generalize mxTo lo lo.length = mx at *
      have HMX := Lib.hid hmx
      clear hmx
      go_wp2
      go_loopw [36] (fun jv wr => ∃ (j : Nat), jv = .int .i64 (j : Int) ∧ j ≤ hi.length ∧ Hid (Below w.heap.size w wr) ∧ Hid (∀ k (hk : k < hi.length), k < j → mx ≤ hi[k])) (fun jv _ => hi.length - (intOf jv).toNat)
      case atStart => exact ⟨0, rfl, by omega, hin, Lib.hid (fun k hk h => by omega)⟩
      case round =>
        clear hin
        obtain ⟨j, rfl, hj, hin, hall⟩ := hrel
        by_cases hlt : j < hi.length
        · have HW2 := HWH.out
          have hlt' : j < (hts hi).length := by rw [hts_len]; exact hlt
          rw [← hts_len hi] at HW2
          obtain ⟨b1, o1, rfl, hw⟩ := HW2.row j hlt'
          have c0 := (hw.below' hin.out).val j hlt'
          rw [show (hts hi)[j] = R (hv hi[j]) by simp [hts]] at c0
          have HCC := Lib.hid (HC.out hi[j] mx _ hin.out (HHI.out j hlt) HMX.out)
          have hcm : decide (cmpQ (hv hi[j]) (hv mx) < 0) = decide (hi[j] < mx) := by rw [decide_eq_decide, cmpQ_lt]; exact hv_lt
          have HB := Lib.hid (HBD.out j hlt)
          have HNX : Hid (mx ≤ hi[j] → ∀ k (hk : k < hi.length), k < j + 1 → mx ≤ hi[k]) := Lib.hid (fun h k hk h2 => by
            rcases Nat.lt_or_eq_of_le (Nat.le_of_lt_succ h2) with h3 | rfl
            · exact hall.out k hk h3
            · exact h)
          clear hw HW2 hlt' hall
          generalize hi[j] = x at *
          generalize cmpQ (hv x) (hv mx) = cm at *
          have hi0 : (0 : Int) ≤ (j : Int) := by omega
          have hi1 : (j : Int) < (hi.length : Int) := by omega
          go_wp2_with fail
          refine HCC.out.mono ?_
          rintro e w1 ⟨rfl, hb1⟩
          have HB1 := Lib.hid (bel_to hin.out hb1)
          clear hb1 hin HCC
          by_cases hgt : x < mx
          · rw [decide_eq_true hgt] at hcm
            obtain rfl := HB.out hgt
            go_wp2
            go_ret2
            exact ⟨rfl, HB1.out⟩
          · rw [decide_eq_false hgt] at hcm
            go_wp2
            go_roundw
            case rel => exact ⟨j + 1, by go_num, by omega, HB1, Lib.hid (HNX.out (by omega))⟩
            case measure => simp [intOf]; omega
        · obtain rfl : j = hi.length := by omega
          obtain rfl := HGD.out (fun k hk => hall.out k hk hk)
          clear hall HGD HBD
          go_wp2
          go_ret2
          exact ⟨rfl, hin.out⟩
end W
end Go.Proofs.YtlmolhblmlojnaaGreatDoor
end
section
namespace Go.Proofs.YtlmolhblmlojnaaGreatDoor
open Go Go.RowKit Go.Deep
namespace M
def mst (p : Tg × Cc) (k : Nat) : Int := if k = 0 then highX p else if k = 1 then -lowX p else if k = 2 then highY p else -lowY p
def endZ (k : Nat) (p : Tg × Cc) : Int := if k = 0 then highX p else if k = 1 then lowX p else if k = 2 then highY p else lowY p
theorem bnd4_len (t : Tg) (c : Cc) : (bx (bnd4 t c)).length = 4 := rfl
theorem bnd4_most (p : Tg × Cc) (k : Nat) (h : k < 4) (h2 : k < (bx (bnd4 p.1 p.2)).length) : ((bx (bnd4 p.1 p.2))[k]).2 = R (hv (mst p k)) := by
  have e : ∀ a b : Int, a = b → R ((a : Rat) / 2) = R (hv b) := fun a b h => by rw [h]; rfl
  match k, h with
  | 0, _ => exact e _ _ (by simp only [mst, highX]; rfl)
  | 1, _ => exact e _ _ (by simp only [mst, lowX]; simp; omega)
  | 2, _ => exact e _ _ (by simp only [mst, highY]; rfl)
  | 3, _ => exact e _ _ (by simp only [mst, lowY]; simp; omega)
theorem mst_end (p : Tg × Cc) (k : Nat) (h : k < 4) : (if k % 2 = 1 then -mst p k else mst p k) = endZ k p := by
  match k, h with
  | 0, _ => rfl
  | 1, _ => simp [mst, endZ]
  | 2, _ => rfl
  | 3, _ => simp [mst, endZ]
theorem hv_neg (z : Int) : -hv z = hv (-z) := by
  unfold hv
  rw [Rat.intCast_neg]
  grind
theorem end_bd {p : Tg × Cc} (h : RtH p) (k : Nat) : (mst p k).natAbs < 10 ^ 8 ∧ (endZ k p).natAbs < 10 ^ 8 := by
  have h1 := h.1.x
  have h2 := h.1.y
  have h3 := h.2.1.x
  have h4 := h.2.1.y
  have h5 := h.wide
  unfold mst endZ highX lowX highY lowY
  constructor <;> (repeat' split) <;> omega
def eL (pl : Pl) (i : Nat) (p : Tg × Cc) (j k : Nat) : List (List UInt8) := hts ((pl.take i).map (endZ k)) ++ if k < j then [R (hv (endZ k p))] else []
theorem eL_zero (pl : Pl) (i : Nat) (p : Tg × Cc) (k : Nat) : eL pl i p 0 k = hts ((pl.take i).map (endZ k)) := by
  unfold eL; rw [if_neg (by omega), List.append_nil]
theorem eL_four (pl : Pl) (i : Nat) (h : i < pl.length) (k : Nat) (hk : k < 4) : eL pl i pl[i] 4 k = hts ((pl.take (i + 1)).map (endZ k)) := by
  unfold eL hts
  rw [if_pos hk, List.take_add_one, List.getElem?_eq_getElem h, List.map_append, List.map_append]
  rfl
theorem eL_succ (pl : Pl) (i : Nat) (p : Tg × Cc) (j k : Nat) : (if k = j then eL pl i p j j ++ [R (hv (endZ j p))] else eL pl i p j k) = eL pl i p (j + 1) k := by
  unfold eL
  by_cases h : k = j
  · subst h
    rw [if_pos rfl, if_neg (by omega), if_pos (by omega), List.append_nil]
  · rw [if_neg h]
    by_cases h2 : k < j
    · rw [if_pos h2, if_pos (by omega)]
    · rw [if_neg h2, if_neg (by omega)]
end M
theorem run_app_at {w : World} {B : Nat} {v xv : Value} {l : List (List UInt8)} {q : List UInt8} (ty : TypeId) (h : OwnS w B v l) {A : Nat} (hxv : xv = .slice (some ⟨A, 0, none⟩) 1 1) (hsrc : w.cell? ⟨A, 0, none⟩ = some (.string (bs q))) (hB : B ≤ w.heap.size) (hn : l.length + 1 ≤ 1000000000) :
    ∃ v' w', (Builtin.append_ #[62, 62] ty #[v, xv]).run Tryz.prog w = .ok v' w' ∧ OwnS w' B v' (l ++ [q]) ∧ w.grownBy w' v.ownBlock ∧ (v'.ownBlock = v.ownBlock ∨ v'.ownBlock = some w.heap.size) := by
  obtain ⟨i, h1, h2, h3, h4⟩ := info_parts infoRt
  subst hxv
  have hadd : ∀ j, (⟨A, 0, none⟩ : Addr).add j = ⟨A, j, none⟩ := fun j => by unfold Addr.add; split <;> simp_all
  obtain ⟨v', w', k1, k2, k3, _, k5⟩ := run_append_own_at (P := Tryz.prog) w B _ ty _ i _ 1 16 Tryz.underlying62 h1 h2 h3 h4 rfl (by decide) v l.length (Strs l) h ⟨A, 0, none⟩ 1 1 (Strs [q]) rfl
    (fun j u hj => by
      rw [hadd]
      obtain rfl : j = 0 := by have := (List.getElem?_eq_some_iff.1 hj).1; simpa [Strs] using this
      rw [hsrc]
      simpa [Strs] using hj) (fun u hu => by simp [Strs] at hu; rw [hu]; rfl) (by unfold maxLen; omega) (by omega) hB
  refine ⟨v', w', k1, ?_, k3, k5⟩
  unfold OwnS
  rw [List.length_append, show Strs (l ++ [q]) = Strs l ++ Strs [q] by simp [Strs]]
  exact k2
theorem wpList_app_at {ops : Array Oper} {rest : List Oper} {o : Oper} {a : Act} {Q : Exit → Act → World → Prop} {w : World} {B : Nat} {v xv : Value} {l : List (List UInt8)} {q : List UInt8} {A : Nat} (hgd : o.guard = none) (s x : Operand)
    (ho : o.op = .call { callee := .builtin .append, args := #[s, x], argTypes := #[62, 62] }) (hs : a.eval s = v) (hx : a.eval x = xv)
    (h : OwnS w B v l) (hxv : xv = .slice (some ⟨A, 0, none⟩) 1 1) (hsrc : w.cell? ⟨A, 0, none⟩ = some (.string (bs q))) (hB : B ≤ w.heap.size) (hn : l.length + 1 ≤ 1000000000)
    (hK : ∀ v' w', OwnS w' B v' (l ++ [q]) → w.grownBy w' v.ownBlock → (v'.ownBlock = v.ownBlock ∨ v'.ownBlock = some w.heap.size) → wpList Tryz.prog ops Q rest (a.put o.dst v') w') : wpList Tryz.prog ops Q (o :: rest) a w :=
  wpList_plain hgd fun _ hK2 => by
    obtain ⟨v', w', hr, h2, h3, h4⟩ := run_app_at o.type h hxv hsrc hB hn
    unfold Oper.wp execOp
    simp only [ho, resolve, invoke, builtin, Sem.run_bind, Sem.run_pure, Result.andThen_ok, List.map_toArray, List.map_cons, List.map_nil, hs, hx, hr]
    exact hK2 _ _ (hK v' w' h2 h3 h4)
structure ES (w0 w : World) (v : Nat → Value) (l : Nat → List (List UInt8)) : Prop where
  row : Row w w0.heap.size 103 [v 0, v 1, v 2, v 3]
  own : ∀ k, k < 4 → OwnS w (w0.heap.size + 1) (v k) (l k)
  dis : ∀ i j, i < 4 → j < 4 → i ≠ j → (v i).ownBlock = none ∨ (v i).ownBlock ≠ (v j).ownBlock
  bel : Below w0.heap.size w0 w
theorem ES.to {w0 w w' : World} {v : Nat → Value} {l : Nat → List (List UInt8)} (h : ES w0 w v l) (hb : Below w.heap.size w w') : ES w0 w' v l :=
  ⟨h.row.below' hb, fun k hk => (h.own k hk).below hb, h.dis, bel_to h.bel hb⟩
theorem ES.cast {w0 w : World} {v : Nat → Value} {l l' : Nat → List (List UInt8)} (h : ES w0 w v l) (e : ∀ k, k < 4 → l k = l' k) : ES w0 w v l' :=
  ⟨h.row, fun k hk => by rw [← e k hk]; exact h.own k hk, h.dis, h.bel⟩
theorem ES.size {w0 w : World} {v : Nat → Value} {l : Nat → List (List UInt8)} (h : ES w0 w v l) : w0.heap.size + 1 ≤ w.heap.size := h.row.lt
theorem ES.new (w0 : World) : ES w0 (w0.alloc (.cells #[.slice none 0 0, .slice none 0 0, .slice none 0 0, .slice none 0 0] 103 (0, 0))) (fun _ => .slice none 0 0) (fun _ => []) :=
  ⟨rnw, fun _ _ => World.ownsRow_nil _ _ _ _, fun _ _ _ _ _ => Or.inl rfl, bel_al _ _⟩
theorem ES.cell {w0 w : World} {v : Nat → Value} {l : Nat → List (List UInt8)} (h : ES w0 w v l) {k : Nat} (hk : k < 4) : w.cell? ⟨w0.heap.size, k, none⟩ = some (v k) := by
  match k, hk with
  | 0, _ => exact h.row.cell (i := 0) rfl
  | 1, _ => exact h.row.cell (i := 1) rfl
  | 2, _ => exact h.row.cell (i := 2) rfl
  | 3, _ => exact h.row.cell (i := 3) rfl
theorem ES.grown_row {w0 w w' : World} {v : Nat → Value} {l : Nat → List (List UInt8)} (h : ES w0 w v l) {k : Nat} (hk : k < 4) (hg : w.grownBy w' (v k).ownBlock) : Row w' w0.heap.size 103 [v 0, v 1, v 2, v 3] :=
  row_grown h.row hg fun e => by
    have := (World.ownsRow.lt (h.own k hk) _ e.symm).1
    omega
theorem ES.put {w0 w w' : World} {v : Nat → Value} {l : Nat → List (List UInt8)} {k : Nat} {v' : Value} {l' : List (List UInt8)} (h : ES w0 w v l) (hk : k < 4) (ho : OwnS w' (w0.heap.size + 1) v' l') (hg : w.grownBy w' (v k).ownBlock)
    (hd : v'.ownBlock = (v k).ownBlock ∨ v'.ownBlock = some w.heap.size) : ES w0 (w'.setCell ⟨w0.heap.size, k, none⟩ v') (fun j => if j = k then v' else v j) (fun j => if j = k then l' else l j) := by
  have hr := h.grown_row hk hg
  have hlt : ∀ j, j < 4 → (v j).ownBlock ≠ some w.heap.size := fun j hj e => by
    have := (World.ownsRow.lt (h.own j hj) _ e).2
    omega
  refine ⟨?_, fun j hj => ?_, fun i j hi hj hij => ?_, ?_⟩
  · match k, hk with
    | 0, _ => exact hr.set 0 v'
    | 1, _ => exact hr.set 1 v'
    | 2, _ => exact hr.set 2 v'
    | 3, _ => exact hr.set 3 v'
  · by_cases e : j = k
    · subst e
      simp only [if_true]
      exact own_setS (by omega) ho
    · simp only [if_neg e]
      refine own_setS (by omega) ?_
      exact World.ownsRow.kept (h.own j hj) hg (h.dis j k hj hk e)
  · by_cases e : i = k
    · have e2 : j ≠ k := fun e2 => hij (e.trans e2.symm)
      simp only [if_pos e, if_neg e2]
      rcases hd with hd | hd
      · rw [hd]; exact h.dis k j hk hj (fun e3 => e2 e3.symm)
      · exact Or.inr (by rw [hd]; exact fun e3 => hlt j hj e3.symm)
    · simp only [if_neg e]
      by_cases e2 : j = k
      · simp only [if_pos e2]
        rcases hd with hd | hd
        · rw [hd]; exact h.dis i k hi hk e
        · exact Or.inr (by rw [hd]; exact hlt i hi)
      · simp only [if_neg e2]
        exact h.dis i j hi hj hij
  · have hb : Below w0.heap.size w0 w' := h.bel.grown hg h.bel.size fun b hb => by
      have := (World.ownsRow.lt (h.own k hk) b hb).1
      omega
    exact hb.setCell (p := ⟨w0.heap.size, k, none⟩) (Nat.le_refl _) v'
theorem row_grownT {w w' : World} {g B : Nat} {v : Value} {xs : List Value} {l : List (List UInt8)} (h : Row w g 107 xs) (ho : OwnS w B v l) (hg : w.grownBy w' v.ownBlock) : Row w' g 107 xs := by
  refine row_grown h hg ?_
  rcases ho.2 with ⟨hv, _⟩ | ⟨g2, cap, cur, hv, _, hh, _⟩
  · rw [hv]; intro e; cases e
  · rw [hv]
    intro e
    injection e with e
    simp only at e
    unfold Row at h
    rw [e, hh] at h
    injection h with h
    injection h with _ h _
    exact ratBound h
end Go.Proofs.YtlmolhblmlojnaaGreatDoor
end
