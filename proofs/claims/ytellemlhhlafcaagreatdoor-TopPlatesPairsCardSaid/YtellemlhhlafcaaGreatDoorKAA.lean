/-
  Chapter 46: all bounds of a plate.
  Chapter 46: 'Check' and 'Bounds' of the program.
  Chapter 46: 'Fits' of the program.
  Chapter 46: a list of texts is copied; 'Excess' of the program.
  Chapter 46: 'Excess' of the program.
  Chapter 46: 'least' of the program.
  Chapter 46: four lists that grow in one array.
-/
import Derived.Test.YtellemlhhlafcaaGreatDoorKZ
import Derived.Test.YtellemlhhlafcaaGreatDoorKRE
import Derived.Deep.RegionHeld3
import Derived.Maps.AppendAt
section
namespace Go.Proofs.YtellemlhhlafcaaGreatDoor
open Go Go.RowKit Go.Deep
namespace M
theorem bnd4_bx (t : Tg) (c : Cc) : [(rx (W.castL [1, 0, -c.y]), R (((2 * (t.x - c.x) + wide t c : Int) : Rat) / 2)), (rx (W.castL [-1, 0, c.y]), R (((2 * (c.x - t.x) + wide t c : Int) : Rat) / 2)),
      (rx (W.castL [0, 1, c.x]), R (((2 * (t.y - c.y) + wide t c : Int) : Rat) / 2)), (rx (W.castL [0, -1, -c.x]), R (((2 * (c.y - t.y) + wide t c : Int) : Rat) / 2))] = bx (bnd4 t c) := by
  unfold bx bnd4
  rfl
theorem bnds_take (pl : Pl) (k : Nat) (h : k < pl.length) : bx (bnds (pl.take (k + 1))) = bx (bnds (pl.take k)) ++ bx (bnd4 pl[k].1 pl[k].2) := by
  have e : pl.take (k + 1) = pl.take k ++ [pl[k]] := by rw [List.take_add_one, List.getElem?_eq_getElem h]; rfl
  rw [e]
  unfold bnds bx
  rw [List.flatMap_append, List.map_append]
  simp
end M
structure AlS (w0 w : World) (vo : Value) (es : List (Value × M.BT)) : Prop where
  own : OwnE w (w0.heap.size + 1) vo es
  good : GoodT w es
  bel : Below w0.heap.size w0 w
  sz : w0.heap.size + 1 ≤ w.heap.size
theorem AlS.to {w0 w w' : World} {vo : Value} {es : List (Value × M.BT)} (h : AlS w0 w vo es) (hb : Below w.heap.size w w') : AlS w0 w' vo es := ⟨h.own.below hb, h.good.below hb, bel_to h.bel hb, Nat.le_trans h.sz hb.size⟩
theorem AlS.app {w0 w w' : World} {vo v' : Value} {es es2 : List (Value × M.BT)} (h : AlS w0 w vo es) (h2 : GoodT w es2) (ho : OwnE w' (w0.heap.size + 1) v' (es ++ es2)) (hg : w.grownBy w' vo.ownBlock) : AlS w0 w' v' (es ++ es2) :=
  ⟨ho, (h.good.append h2).grown h.own hg, app_belE h.own h.bel (Nat.le_succ _) hg, Nat.le_trans h.sz hg.size⟩
theorem OwnE.shape {w : World} {B : Nat} {v : Value} {l : List (Value × M.BT)} (h : OwnE w B v l) : ∃ A n c, v = .slice A n c := by
  rcases h.2 with ⟨hv, _⟩ | ⟨g, cap, cur, hv, _⟩
  · exact ⟨_, _, _, hv⟩
  · exact ⟨_, _, _, hv⟩
namespace W
open M
attribute [local go_sem] bs_size bs_toList bs_get bs_extract bs_append bs_lit0 bs_lit1 lit1_bs
set_option maxHeartbeats 2000000
set_option maxRecDepth 20000
theorem pall (va vt vc : Value) (ts : List Tg) (cs : List Cc) (w : World) (hg : Glob w) (ha : RdI w va (zoneNs ts cs)) (ht : RdG w vt ts) (hc : RdC w vc cs) (hok : chk46 ts cs = 0) :
    Calls Tryz.prog 59 #[.agg #[va, vt, vc]] w (fun e w' => ∃ v es, e = .returned v ∧ OwnE w' (w.heap.size + 1) v es ∧ GoodT w' es ∧ es.map (·.2) = bx (bnds (ts.zip cs)) ∧ Below w.heap.size w w') := by
  obtain ⟨h1, h16, hlen, hrt⟩ := chk46_iff.1 hok
  have hzl : (ts.zip cs).length = cs.length := by rw [List.length_zip]; omega
  have hb : ∀ (k : Nat) (hk : k < (ts.zip cs).length) (W : World) (_ : Below w.heap.size w W), Calls Tryz.prog 102 #[.agg #[va, vt, vc], .int .i64 (k : Int)] W (fun e w' => ∃ v, e = .returned v ∧ IsBs (bx (bnd4 (ts.zip cs)[k].1 (ts.zip cs)[k].2)) w' v ∧ Below W.heap.size W w') := fun k hk W hW => by
    have hk3 : k < cs.length := by omega
    have hk1 : k < (zoneNs ts cs).length := by rw [zoneNs_len hlen]; omega
    have hk2 : k < ts.length := by omega
    have e2 : (ts.zip cs)[k] = (ts[k], cs[k]) := by simp
    have hr := hrt (ts[k], cs[k]) (by rw [← e2]; exact List.getElem_mem hk)
    have hw := hr.wide
    have e : (zoneNs ts cs)[k] = wide ts[k] cs[k] := by simp [zoneNs]
    have h := pbounds va vt vc (zoneNs ts cs) ts cs k W (hg.of hW) (ha.below hW) (ht.below hW) (hc.below hW) hk1 hk2 hk3 (by rw [e]; simp only at hw; omega) hr.1 hr.2.1
    rw [e, bnd4_bx] at h
    rw [e2]
    exact h
  have HB := Lib.hid hb
  have HLZ := Lib.hid (show ∀ k, k < cs.length → k < (ts.zip cs).length from fun k hk => by omega)
  have HFIN := Lib.hid (show (ts.zip cs).take cs.length = ts.zip cs by rw [← hzl, List.take_length])
  have hbl : ∀ k, k < cs.length → ((bnds ((ts.zip cs).take k)).length + 4) * 40 ≤ 140737488355328 := fun k hk => by
    rw [bnds_len, List.length_take]; omega
  have HSZ := Lib.hid hbl
  clear hbl
  have hcs : cs.length ≤ 16 := by omega
  obtain ⟨A0, c0, rfl⟩ := ha.len
  obtain ⟨At, ct, rfl⟩ := ht.len
  obtain ⟨Ac, cc, rfl⟩ := hc.len
  have hmf : ∀ (fn : Fn) (first cap : Array Value) (w : World), (Instr.makeFunc fn first cap).run Tryz.prog w = .ok (.func fn first cap) w := fun _ _ _ _ => rfl
  have HA0 : Hid (AlS w (w.alloc (.cells #[.slice A0 (zoneNs ts cs).length c0, .slice At ts.length ct, .slice Ac cs.length cc] 132 (0, 0))) (.slice none 0 0) []) :=
    Lib.hid ⟨World.ownsRow_nil _ _ _ _, (fun x hx => by cases hx), bel_al _ _, by rw [World.size_alloc]; omega⟩
  generalize (zoneNs ts cs).length = nz at *
  clear hb h1 h16 hlen hrt hzl hok ha ht hc hg
  generalize ts.zip cs = pl at *
  go_enter Tryz.func59, Tryz.ntmps59
  go_wp2
  generalize w.alloc (.cells #[.slice A0 nz c0, .slice At ts.length ct, .slice Ac cs.length cc] 132 (0, 0)) = w0 at *
  go_loopw [3, 11] (fun vo iv wr => ∃ (k : Nat) (es : List (Value × BT)), iv = .int .i64 (k : Int) ∧ k ≤ cs.length ∧ Hid (AlS w wr vo es) ∧ Hid (es.map (·.2) = bx (bnds (pl.take k)))) (fun _ iv _ => cs.length - (intOf iv).toNat)
  case atStart => exact ⟨0, [], rfl, by omega, HA0, Lib.hid rfl⟩
  case round =>
    clear HA0
    obtain ⟨k, es, rfl, hk, hin, hes⟩ := hrel
    by_cases hlt : k < cs.length
    · have hlz := HLZ.out k hlt
      have HBK := Lib.hid (HB.out k hlz _ hin.out.bel)
      have HTK := Lib.hid (bnds_take pl k hlz)
      have HSK := Lib.hid (HSZ.out k hlt)
      have hel := congrArg List.length hes.out
      rw [List.length_map, bx_len] at hel
      have HEL := Lib.hid hel
      clear hel
      obtain ⟨Av, nv, cv, rfl⟩ := OwnE.shape hin.out.own
      go_wp2_with fail
      refine HBK.out.mono ?_
      rintro e w1 ⟨v, rfl, hbs, hb1⟩
      obtain ⟨es2, he2, hg2, hs2⟩ := hbs.src
      have HI1 := Lib.hid (hin.out.to hb1)
      have he4 := congrArg List.length he2
      rw [bx_len, List.length_map] at he4
      have HE2 := Lib.hid (And.intro he2 (And.intro hg2 (And.intro hs2 (show es2.length = 4 from he4.symm))))
      clear hb1 hin HBK he2 hg2 hs2 he4 hbs
      go_wp2_with (at_builtin; refine wpList_app_e rfl (.tmp 14) (.tmp 17) rfl rfl rfl HI1.out.own HE2.out.2.2.1 HE2.out.2.1.good HI1.out.sz (by rw [HE2.out.2.2.2, HEL.out]; exact HSK.out) ?_; intro v2 w2 ho2 hk2; have HI2 := Lib.hid (HI1.out.app HE2.out.2.1 ho2 hk2); clear ho2 hk2)
      go_wp2
      go_roundw
      case rel => exact ⟨k + 1, _, by go_num, by omega, HI2, Lib.hid (by rw [List.map_append, hes.out, HTK.out, ← HE2.out.1])⟩
      case measure => simp [intOf]; omega
    · obtain rfl : k = cs.length := by omega
      have hes2 := hes.out
      rw [HFIN.out] at hes2
      have HE := Lib.hid hes2
      obtain ⟨Av, nv, cv, rfl⟩ := OwnE.shape hin.out.own
      clear hes hes2
      go_wp2
      go_ret
      exact ⟨_, es, rfl, hin.out.own, hin.out.good, HE.out, hin.out.bel⟩
end W
end Go.Proofs.YtellemlhhlafcaaGreatDoor
end
section
namespace Go.Proofs.YtellemlhhlafcaaGreatDoor
open Go Go.RowKit Go.Deep
namespace W
open M
attribute [local go_sem] bs_size bs_toList bs_get bs_extract bs_append bs_lit0 bs_lit1 lit1_bs
set_option maxHeartbeats 2000000
set_option maxRecDepth 20000
end W
end Go.Proofs.YtellemlhhlafcaaGreatDoor
end
section
namespace Go.Proofs.YtellemlhhlafcaaGreatDoor
open Go Go.RowKit Go.Deep
abbrev arV (p : List (List UInt8)) : Value := .agg #[.string (bs (p.getD 0 [])), .string (bs (p.getD 1 [])), .string (bs (p.getD 2 []))]
theorem ar_store {w0 w : World} {A : Nat} {x0 y0 z0 : Value} (x y z : Value) (hr : Row w A 89 [x0, y0, z0]) (hA : w0.heap.size ≤ A) (hb : Below w0.heap.size w0 w) :
    Row (((w.setCell ⟨A, 0, none⟩ x).setCell ⟨A, 1, none⟩ y).setCell ⟨A, 2, none⟩ z) A 89 [x, y, z] ∧ Below w0.heap.size w0 (((w.setCell ⟨A, 0, none⟩ x).setCell ⟨A, 1, none⟩ y).setCell ⟨A, 2, none⟩ z) :=
  ⟨((hr.set 0 x).set 1 y).set 2 z, ((hb.setCell (p := ⟨A, 0, none⟩) hA x).setCell (p := ⟨A, 1, none⟩) hA y).setCell (p := ⟨A, 2, none⟩) hA z⟩
namespace M
theorem bnds_few {ts : List Tg} {cs : List Cc} (hok : chk46 ts cs = 0) (h5 : ts.length ≤ 5) : Sx.RightP 3 (bnds (ts.zip cs)) ∧ (bnds (ts.zip cs)).length ≤ 20 ∧ 1 ≤ (bnds (ts.zip cs)).length := by
  obtain ⟨h1, h2, h3, h4⟩ := chk46_iff.1 hok
  refine ⟨Sx.bnds_rightP h4, ?_, ?_⟩ <;> rw [bnds_len, List.length_zip] <;> omega
end M
namespace W
open M
attribute [local go_sem] bs_size bs_toList bs_get bs_extract bs_append bs_lit0 bs_lit1 lit1_bs
set_option maxHeartbeats 2000000
set_option maxRecDepth 20000
end W
end Go.Proofs.YtellemlhhlafcaaGreatDoor
end
section
namespace Go.Proofs.YtellemlhhlafcaaGreatDoor
open Go Go.RowKit Go.Deep
theorem wpList_app_t {ops : Array Oper} {rest : List Oper} {o : Oper} {a : Act} {Q : Exit → Act → World → Prop} {w : World} {B : Nat} {v xv : Value} {l m : List (List UInt8)} (hgd : o.guard = none) (s x : Operand)
    (ho : o.op = .call { callee := .builtin .append, args := #[s, x], argTypes := #[60, 60] }) (hs : a.eval s = v) (hx : a.eval x = xv)
    (h : OwnS w B v l) (hsrc : SrcT w xv m) (hB : B ≤ w.heap.size) (hn : l.length + m.length ≤ 1000000000)
    (hK : ∀ v' w', OwnS w' B v' (l ++ m) → w.grownBy w' v.ownBlock → wpList Tryz.prog ops Q rest (a.put o.dst v') w') : wpList Tryz.prog ops Q (o :: rest) a w :=
  wpList_plain hgd fun _ hK2 => by
    have h0 := step_app_t (ops := #[]) (E := True) (K := _) (Q := Q) hgd s x ho hs hx h hsrc hB hn fun v' w' h2 h3 => hK2 _ _ (hK v' w' h2 h3)
    rwa [if_pos (by simp [Region.wanted, hgd])] at h0
theorem ApS.of {W E w' : World} {v : Value} {l : List (List UInt8)} (hE : Below W.heap.size W E) (ho : OwnS w' E.heap.size v l) (hb : Below E.heap.size E w') : ApS W w' v l :=
  ⟨ownsRow_base ho hE.size, bel_to hE hb⟩
structure ExS (w0 w : World) (vo : Value) (es : List (Value × M.BT)) : Prop where
  own : OwnE w w0.heap.size vo es
  good : GoodT w es
  bel : Below w0.heap.size w0 w
theorem ExS.to {w0 w w' : World} {vo : Value} {es : List (Value × M.BT)} (h : ExS w0 w vo es) (hb : Below w.heap.size w w') : ExS w0 w' vo es := ⟨h.own.below hb, h.good.below hb, bel_to h.bel hb⟩
theorem ExS.app {w0 w w' : World} {vo v' : Value} {es es2 : List (Value × M.BT)} (h : ExS w0 w vo es) (h2 : GoodT w es2) (ho : OwnE w' w0.heap.size v' (es ++ es2)) (hg : w.grownBy w' vo.ownBlock) : ExS w0 w' v' (es ++ es2) :=
  ⟨ho, (h.good.append h2).grown h.own hg, app_belE h.own h.bel (Nat.le_refl _) hg⟩
theorem ApS.good {W w : World} {v : Value} {l : List (List UInt8)} {q : List UInt8} (h : ApS W w v l) : GoodT w [(v, (l, q))] := fun x hx => by
  rw [List.mem_singleton.1 hx]; exact ⟨_, h.1⟩
namespace W
open M
attribute [local go_sem] bs_size bs_toList bs_get bs_extract bs_append bs_lit0 bs_lit1 lit1_bs
set_option maxHeartbeats 2000000
set_option maxRecDepth 20000
theorem pcloneS (vl : Value) (l : List (List UInt8)) (w : World) (hs : RdT w vl l) (hp : Shp vl) (hn : l.length ≤ 1000000) :
    Calls Tryz.prog 60 #[vl] w (fun e w' => ∃ v', e = .returned v' ∧ OwnS w' w.heap.size v' l ∧ Below w.heap.size w w') := by
  rcases SrcT.of hs hp with ⟨rfl, rfl⟩ | ⟨a, cap, rfl, hc⟩
  · have hq : ∀ w, (binOp .eql 60 (.slice none 0 0) (.slice none 0 0)).run Tryz.prog w = .ok (.bool true) w := fun w => rfl
    clear hs hp
    go_enter Tryz.func60, Tryz.ntmps60
    go_wp2
    go_ret
    exact ⟨_, rfl, World.ownsRow_nil _ _ _ _, Below.refl _ _⟩
  · have hq : ∀ w, (binOp .eql 60 (.slice (some a) l.length cap) (.slice none 0 0)).run Tryz.prog w = .ok (.bool false) w := fun w => rfl
    have hb0 : Below w.heap.size w (w.alloc (.cells #[] 86 (0, 0))) := bel_alloc (Below.refl _ _) _
    have HS := Lib.hid (And.intro (SrcT.of (hs.below hb0) hp) hb0)
    clear hs hp hc hb0
    go_enter Tryz.func60, Tryz.ntmps60
    go_wp2_with (at_builtin; refine wpList_app_t rfl (.tmp 5) (.tmp 6) rfl rfl rfl (OwnS.fresh w w.heap.size w.heap.size rfl (Nat.le_refl _)) HS.out.1 HS.out.2.size (by simp; omega) ?_; intro v2 w2 ho2 hk2)
    rw [List.nil_append] at ho2
    have HF := Lib.hid (And.intro ho2 (app_belS (OwnS.fresh w w.heap.size w.heap.size rfl (Nat.le_refl _)) HS.out.2 (Nat.le_refl _) hk2))
    clear ho2 hk2 HS
    go_wp2
    go_ret
    exact ⟨_, rfl, HF.out.1, HF.out.2⟩
end W
end Go.Proofs.YtellemlhhlafcaaGreatDoor
end
section
namespace Go.Proofs.YtellemlhhlafcaaGreatDoor
open Go Go.RowKit Go.Deep
namespace M
def lit12 : List UInt8 := [45, 49, 47, 50]
theorem R_half : R (-1 / 2) = lit12 := by kernel_rfl
theorem bx_bndsE (pl : Pl) : bx (bndsE pl) = (bx (bnds pl)).map fun b => (b.1 ++ [lit12], b.2) := by
  unfold bndsE bx
  rw [List.map_map, List.map_map]
  refine List.map_congr_left fun b _ => ?_
  simp [rx, R_half]
theorem goal_rx : rx [0, 0, 0, -1] = [[48], [48], [48], [45, 49]] := by kernel_rfl
end M
theorem genw {w : World} (P : World → Prop) {G : World → Prop} (h : P w) (k : ∀ W, P W → G W) : G w := k w h
theorem ex_in {w0 W w6 : World} {v9 v6 : Value} {es : List (Value × M.BT)} {l : List (List UInt8)} {q : List UInt8} (h : ExS w0 W v9 es) (h2 : ApS W w6 v6 l) :
    ExS w0 (w6.alloc (.cells #[v6, .string (bs q)] 138 (0, 0))) v9 es ∧ GoodT (w6.alloc (.cells #[v6, .string (bs q)] 138 (0, 0))) [(v6, (l, q))] :=
  ⟨h.to (bel_to h2.2 (bel_al _ _)), (ApS.good h2).below (bel_al _ _)⟩
theorem OwnS.form2 {w : World} {B : Nat} {v : Value} {l : List (List UInt8)} (h : OwnS w B v l) (hn : l ≠ []) :
    ∃ g cap, v = .slice (some ⟨g, 0, none⟩) l.length cap ∧ B ≤ g ∧ g < w.heap.size ∧ l.length ≤ cap ∧ ∀ i (hi : i < l.length), w.cell? ⟨g, i, none⟩ = some (.string (bs l[i])) := by
  obtain ⟨h1, h2⟩ := h
  rcases h2 with ⟨_, hn2⟩ | ⟨g, cap, cur, hv, hB, hh, hc, _, _, ht⟩
  · exact absurd (List.length_eq_zero_iff.1 hn2) hn
  · refine ⟨g, cap, hv, hB, lt_of_block hh, hc, fun i hi => ?_⟩
    have : (Strs l)[i]? = some (.string (bs l[i])) := by simp [Strs, hi]
    rw [← ht, List.getElem?_take] at this
    split at this
    · simp [World.cell?, hh]; simpa using this
    · cases this
namespace W
open M
attribute [local go_sem] bs_size bs_toList bs_get bs_extract bs_append bs_lit0 bs_lit1 lit1_bs
set_option maxHeartbeats 2000000
set_option maxRecDepth 20000
theorem pexcess_ok (ts : List Tg) (cs : List Cc) (h : chk46 ts cs = 0) (h5 : ts.length ≤ 5) : ∃ dx dy tw x : Rat, Sx.Exc (ts.zip cs) x ∧ Sx.Fz (ts.zip cs) dx dy tw x ∧ (∀ q ∈ [dx, dy, tw, x], Bq 37 q) ∧
    ∀ (vt vc : Value) (w : World), Glob w → Sig w → RdG w vt ts → RdC w vc cs → Calls Tryz.prog 28 #[vt, vc] w (Ret w (.tuple #[.string (bs (R x)), arV (rx [dx, dy, tw]), .int .i64 0])) := by
  obtain ⟨_, hl20, hl1⟩ := bnds_few h h5
  have hrt := (chk46_iff.1 h).2.2.2
  have hpl := Sx.bndsE_rightP hrt
  have hlE : (bndsE (ts.zip cs)).length = (bnds (ts.zip cs)).length := by rw [bndsE_len, bnds_len]
  have hne : ts.zip cs ≠ [] := fun e => by rw [e] at hl1; simp [bnds] at hl1
  obtain ⟨f, r, hf, hr⟩ := Sx.most_plate (goal := [0, 0, 0, -1]) hpl (fun x hx => by
    simp only [List.mem_cons, List.not_mem_nil, or_false] at hx
    rcases hx with rfl | rfl | rfl | rfl
    · exact Or.inl rfl
    · exact Or.inl rfl
    · exact Or.inl rfl
    · exact Or.inr (Or.inr rfl)) (by omega)
  obtain ⟨dx, dy, tw, x, wt, rfl, hx, hfz, hq⟩ := Sx.found_exc hne hr
  refine ⟨dx, dy, tw, x, hx, hfz, hq, fun vt vc w hg hs ht hc => ?_⟩
  have hlen := (chk46_iff.1 h).2.2.1
  have nt : ts.length ≤ maxLen := by unfold maxLen; omega
  have nc : cs.length ≤ maxLen := by unfold maxLen; omega
  have HMO := Lib.hid (fun vl vg W (hW : Below w.heap.size w W) (hv : RdB W vl (bx (bndsE (ts.zip cs)))) (hvg : RdT W vg [[48], [48], [48], [45, 49]]) => pmost 37 f 4 (by decide) (by decide) (by decide) _ [0, 0, 0, -1] _ hf vl vg W (hg.of hW) hv (by rw [goal_rx]; exact hvg) (by decide) (by decide) hpl.right (by omega) (by omega) rfl (by decide +kernel))
  have hng := fun W (hW : Below w.heap.size w W) => ratNeg (-x) 37 W (hg.of hW) (Bq.neg (hq x (by simp))) (by decide)
  rw [show - -x = x by grind] at hng
  have HNG := Lib.hid hng
  clear hng
  have HA := Lib.hid (fun va W (hW : Below w.heap.size w W) hv => pall va vt vc ts cs W (hg.of hW) hv (ht.below hW) (hc.below hW) h)
  have hb0 := bel_al w (.cells #[.string ⟨#[]⟩, .string ⟨#[]⟩, .string ⟨#[]⟩] 89 (0, 0))
  have hr0 : Row (w.alloc (.cells #[.string ⟨#[]⟩, .string ⟨#[]⟩, .string ⟨#[]⟩] 89 (0, 0))) w.heap.size 89 [.string ⟨#[]⟩, .string ⟨#[]⟩, .string ⟨#[]⟩] := rnw
  have HR0 := Lib.hid (And.intro hr0 hb0)
  have HBX := Lib.hid (bx_bndsE (ts.zip cs))
  have HBL : Hid (∀ b ∈ bx (bnds (ts.zip cs)), b.1.length ≤ 10) := Lib.hid (fun b hb => by
    obtain ⟨c, hc, rfl⟩ := List.mem_map.1 hb
    have := (Sx.bnds_rightP hrt c hc).1
    simp only [rx_len]; omega)
  have HB2 : (bx (bnds (ts.zip cs))).length ≤ 20 := by rw [bx_len]; exact hl20
  obtain ⟨At, ct, rfl⟩ := ht.len
  obtain ⟨Ac, cc, rfl⟩ := hc.len
  have HP := Lib.hid (pplate_ok _ _ ts cs _ (hs.below hb0) (ht.below hb0) (hc.below hb0) nt nc h)
  clear h hs ht hc nt nc hg hr0 hb0 hpl hl20 hl1 hf hr hlen hrt hne hx hfz hq hlE
  go_enter Tryz.func28, Tryz.ntmps28
  go_wp2_with fail
  refine HP.out.mono ?_
  rintro e w1 ⟨va, rfl, hv, hb1⟩
  have hb2 := bel_to hb1 (bel_al w1 (.cells #[va, .slice At ts.length ct, .slice Ac cs.length cc] 132 (0, 0)))
  have HA1 := Lib.hid (HA.out va _ (bel_to HR0.out.2 hb2) (hv.below (bel_al _ _)))
  have HR1 := Lib.hid (And.intro (HR0.out.1.below' hb2) (bel_to HR0.out.2 hb2))
  obtain ⟨Av, cv, rfl⟩ := hv.len
  clear hv hb1 hb2 HP HA HR0
  go_wp2_with fail
  refine HA1.out.mono ?_
  rintro e w2 ⟨v, es, rfl, ho, hgd, he, hb2⟩
  have HR2 := Lib.hid (And.intro (HR1.out.1.below' hb2) (bel_to HR1.out.2 hb2))
  have hrb : RdB w2 v (bx (bnds (ts.zip cs))) := by rw [← he]; exact OwnE.rd ho hgd.good
  generalize bx (bnds (ts.zip cs)) = B at *
  obtain ⟨Ao, co, rfl⟩ := hrb.len
  have HRB := Lib.hid hrb
  clear ho hgd he hb2 HA1 HR1 hrb
  go_wp2_with fail
  go_loopw [9, 28] (fun vo iv wr => ∃ (k : Nat) (es : List (Value × BT)), iv = .int .i64 (k : Int) ∧ k ≤ B.length ∧ Hid (ExS w2 wr vo es) ∧ Hid (es.map (·.2) = (B.take k).map fun b => (b.1 ++ [lit12], b.2))) (fun _ iv _ => B.length - (intOf iv).toNat)
  case atStart => exact ⟨0, [], rfl, by omega, Lib.hid ⟨World.ownsRow_nil _ _ _ _, (fun x hx => by cases hx), Below.refl _ _⟩, Lib.hid rfl⟩
  case round =>
    obtain ⟨k, es, rfl, hk, hin, hes⟩ := hrel
    by_cases hlt : k < B.length
    · have hel := congrArg List.length hes.out
      rw [List.length_map, List.length_map, List.length_take] at hel
      have HEL : Hid (es.length ≤ 20) := Lib.hid (by omega)
      have HTK : Hid ((B.take (k + 1)).map (fun b => (b.1 ++ [lit12], b.2)) = (B.take k).map (fun b => (b.1 ++ [lit12], b.2)) ++ [(B[k].1 ++ [lit12], B[k].2)]) := Lib.hid (by
        rw [List.take_add_one, List.getElem?_eq_getElem hlt, List.map_append]; rfl)
      have hb10 := HBL.out _ (List.getElem_mem hlt)
      obtain ⟨b1, o1, rfl, hw⟩ := HRB.out.row k hlt
      have hw := hw.below' hin.out.bel
      obtain ⟨vr, c0, hvr, hsr⟩ := hw.row k hlt
      have c1 := hw.most k hlt
      generalize B[k] = bb at *
      obtain ⟨row, q⟩ := bb
      simp only at *
      have hrow : Row (wr.alloc (.cells #[vr, .string (bs q)] 138 (0, 0))) wr.heap.size 138 [vr, .string (bs q)] := rnw
      have HW0 := Lib.hid (And.intro hrow (And.intro (hin.out.to (bel_al wr (.cells #[vr, .string (bs q)] 138 (0, 0)))) (And.intro (hvr.below (bel_al wr (.cells #[vr, .string (bs q)] 138 (0, 0)))) hsr)))
      have HB10 := Lib.hid hb10
      obtain ⟨Ar, nr, cr, hvr2⟩ : ∃ A n c, vr = .slice A n c := by
        obtain ⟨A, c, e⟩ := hvr.len
        exact ⟨_, _, _, e⟩
      subst hvr2
      obtain ⟨Av2, nv2, cv2, rfl⟩ := OwnE.shape hin.out.own
      have HNE : Hid (some wr.heap.size ≠ (Value.slice Av2 nv2 cv2).ownBlock) := Lib.hid (fun e => by
        have := (World.ownsRow.lt hin.out.own _ e.symm).2
        omega)
      have hi0 : (0 : Int) ≤ (k : Int) := by omega
      have hi1 : (k : Int) < (B.length : Int) := by omega
      clear hw hvr hsr hrow hel hb10 hin
      go_wp2_with fail
      refine genw (fun W => Row W wr.heap.size 138 [.slice Ar nr cr, .string (bs q)] ∧ ExS w2 W (.slice Av2 nv2 cv2) es ∧ RdT W (.slice Ar nr cr) row ∧ Shp (.slice Ar nr cr)) HW0.out ?_
      intro W hW
      have HW1 := Lib.hid hW
      clear hW HW0 c0 c1
      generalize wr.heap.size = xb at *
      have HCL := Lib.hid (fun E (hE : Below W.heap.size W E) => And.intro ((HW1.out.1.below' hE).cell (i := 0) rfl) ((HW1.out.1.below' hE).cell (i := 1) rfl))
      have HC := Lib.hid (fun E (hE : Below W.heap.size W E) => pcloneS (.slice Ar nr cr) row E (HW1.out.2.2.1.below hE) HW1.out.2.2.2 (by have := HB10.out; omega))
      have HBD := Lib.hid (RowKit.Below.drew (Below.refl W.heap.size W))
      have HBL1 := Lib.hid (RowKit.Below.drew ((Below.refl W.heap.size W).alloc (Nat.le_refl _) (Obj.cells #[.string ⟨#[45, 49, 47, 50]⟩] 86 (0, 0))))
      have HBL2 := Lib.hid ((RowKit.Below.drew (Below.refl W.heap.size W)).alloc (Nat.le_refl _) (Obj.cells #[.string ⟨#[45, 49, 47, 50]⟩] 86 (0, 0)))
      have HL1 := Lib.hid (show Row (W.alloc (Obj.cells #[.string (bs lit12)] 86 (0, 0))).drew W.heap.size 86 [.string (bs lit12)] from rnw)
      have HLN : Hid (row.length + [lit12].length ≤ 1000000000 ∧ (es.length + 1) * 40 ≤ 140737488355328) := Lib.hid (by
        have h1 := HB10.out
        have h2 := HEL.out
        simp only [List.length_cons, List.length_nil]
        omega)
      clear HB10 HEL
      go_region_held3 (fun E => E.cell? ⟨xb, 0, none⟩ = some (.slice Ar nr cr) ∧ E.cell? ⟨xb, 1, none⟩ = some (.string (bs q)))
        (first | exact And.intro (HC7.out.cell (i := 0) rfl) (HC7.out.cell (i := 1) rfl) | exact HCL.out _ (HA2.out.2.alloc HA2.out.2.size _) | exact HCL.out _ HA2.out.2 | exact HCL.out _ (HA1.out.2.alloc HA1.out.2.size _) | exact HCL.out _ HA1.out.2 | exact HCL.out _ (Below.refl _ _) | exact HCL.out _ HBD.out | exact HCL.out _ HBL1.out | exact HCL.out _ HBL2.out)
        (first
        | (go_at_call 60; first
          | (refine (HC.out _ HBD.out).mono ?_; rintro e w5 ⟨v5, rfl, ho5, hb5⟩; have HA1 := Lib.hid (ApS.of HBD.out ho5 hb5); obtain ⟨A5, n5, c5, rfl⟩ := OwnS.shape ho5; clear ho5 hb5)
          | (refine (HC.out _ HBL1.out).mono ?_; rintro e w5 ⟨v5, rfl, ho5, hb5⟩; have HA1 := Lib.hid (ApS.of HBL1.out ho5 hb5); have HXR := Lib.hid (SrcT.row (HL1.out.below' hb5)); obtain ⟨A5, n5, c5, rfl⟩ := OwnS.shape ho5; clear ho5 hb5)
          | (refine (HC.out _ HBL2.out).mono ?_; rintro e w5 ⟨v5, rfl, ho5, hb5⟩; have HA1 := Lib.hid (ApS.of HBL2.out ho5 hb5); have HXR := Lib.hid (SrcT.row (HL1.out.below' hb5)); obtain ⟨A5, n5, c5, rfl⟩ := OwnS.shape ho5; clear ho5 hb5))
        | (refine step_app_t rfl (.tmp 35) (.tmp 36) rfl rfl rfl HA1.out.1 HXR.out HA1.out.2.size HLN.out.1 ?_; intro v6 w6 ho6 hg6; obtain ⟨A6, n6, c6, rfl⟩ := OwnS.shape ho6; have HA2 := Lib.hid (show ApS W w6 (.slice A6 n6 c6) (row ++ [lit12]) from ⟨ho6, app_belS HA1.out.1 HA1.out.2 (Nat.le_refl _) hg6⟩); clear ho6 hg6)
        | (refine step_app_t rfl (.tmp 35) (.tmp 36) rfl rfl rfl (OwnS.alloc HA1.out.1 _) (SrcT.new w5 lit12) (HA1.out.2.alloc HA1.out.2.size _).size HLN.out.1 ?_; intro v6 w6 ho6 hg6; obtain ⟨A6, n6, c6, rfl⟩ := OwnS.shape ho6; have HA2 := Lib.hid (show ApS W w6 (.slice A6 n6 c6) (row ++ [lit12]) from ⟨ho6, app_belS (OwnS.alloc HA1.out.1 _) (HA1.out.2.alloc HA1.out.2.size _) (Nat.le_refl _) hg6⟩); clear ho6 hg6)
        | (refine step_app_e rfl (.tmp 32) (.tmp 41) rfl rfl rfl (ex_in (q := q) HW1.out.2.1 HA2.out).1.own (SrcE.new w6 (.slice A6 n6 c6) (row ++ [lit12], q)) (ex_in (q := q) HW1.out.2.1 HA2.out).2.good (ex_in (q := q) HW1.out.2.1 HA2.out).1.bel.size HLN.out.2 ?_; intro v7 w7 ho7 hg7; have HA3 := Lib.hid (ExS.app (ex_in (q := q) HW1.out.2.1 HA2.out).1 (ex_in (q := q) HW1.out.2.1 HA2.out).2 ho7 hg7); have HC7 := Lib.hid (row_grown (HW1.out.1.below' (bel_to HA2.out.2 (bel_al _ _))) hg7 HNE.out); clear ho7 hg7))
      all_goals
        go_wp2
        go_roundw
        case rel => exact ⟨k + 1, _, by go_num, by omega, HA3, Lib.hid (by rw [List.map_append, hes.out, HTK.out]; rfl)⟩
        case measure => simp [intOf]; omega
    · obtain rfl : k = B.length := by omega
      have hes2 := hes.out
      rw [List.take_length, ← HBX.out] at hes2
      obtain ⟨Av2, nv2, cv2, rfl⟩ := OwnE.shape hin.out.own
      have hv3 : RdB wr (.slice Av2 nv2 cv2) (bx (bndsE (ts.zip cs))) := by rw [← hes2]; exact OwnE.rd hin.out.own hin.out.good.good
      have hbw := bel_to HR2.out.2 hin.out.bel
      have hbg := bel_al wr (.cells (Strs [[48], [48], [48], [45, 49]]).toArray 86 (0, 0))
      have hvg := (OwnS.new wr [[48], [48], [48], [45, 49]] (Strs [[48], [48], [48], [45, 49]]).toArray 0 4 wr.heap.size rfl rfl rfl (Nat.zero_le _) (by decide)).rd
      have HM1 := Lib.hid (HMO.out (.slice Av2 nv2 cv2) _ _ (bel_to hbw hbg) (hv3.below hbg) hvg)
      have HR3 := Lib.hid (And.intro (HR2.out.1.below' (bel_to hin.out.bel hbg)) (bel_to hbw hbg))
      clear hes hes2 hv3 hbw hbg hvg hin HMO HR2 HRB HBL
      go_wp2_with fail
      refine HM1.out.mono ?_
      rintro e w3 ⟨v1, v2, rfl, ho1, ho2, hb3⟩
      obtain ⟨g, cap, rfl, hBg, hgl, hcap, hts⟩ := OwnS.form2 ho1 (by simp [rx])
      obtain ⟨Aw, nw, cw, rfl⟩ := OwnS.shape ho2
      have HR4 := Lib.hid (And.intro (HR3.out.1.below' hb3) (bel_to HR3.out.2 hb3))
      have HTS := Lib.hid (And.intro hgl hts)
      have HCP := Lib.hid hcap
      have HN1 := Lib.hid (HNG.out w3 HR4.out.2)
      rw [show (rx [dx, dy, tw, x]).length = 4 from rfl]
      clear ho1 ho2 hb3 HM1 HR3 hBg hgl hts hcap HNG
      go_wp2_with fail
      refine HN1.out.mono ?_
      rintro e w4 ⟨rfl, hb4⟩
      have hts4 : ∀ i (hi : i < (rx [dx, dy, tw, x]).length), w4.cell? ⟨g, i, none⟩ = some (.string (bs (rx [dx, dy, tw, x])[i])) := fun i hi => (hb4.cell (p := ⟨g, i, none⟩) HTS.out.1).trans (HTS.out.2 i hi)
      have hrw := HR4.out.1.below' hb4
      have hbw := bel_to HR4.out.2 hb4
      have s0 : w4.cell? ⟨g, 0, none⟩ = some (.string (bs (R dx))) := hts4 0 (by simp [rx])
      have s1 : w4.cell? ⟨g, 1, none⟩ = some (.string (bs (R dy))) := hts4 1 (by simp [rx])
      have s2 : w4.cell? ⟨g, 2, none⟩ = some (.string (bs (R tw))) := hts4 2 (by simp [rx])
      have hsp : ∀ W : World, (Instr.arrayAt 89 (.slice (some ⟨g, 0, none⟩) 3 cap)).run Tryz.prog W = .ok (.pointer (some ⟨g, 0, none⟩)) W := fun W => by
        unfold Instr.arrayAt
        simp [go_sem]
      have hc4 : (4 : Nat) ≤ cap := HCP.out
      have h3c : (3 : Int) ≤ (cap : Int) := by omega
      have f0 := hrw.free 0
      have f1 := (hrw.set 0 (.string (bs (R dx)))).free 1
      have f2 := ((hrw.set 0 (.string (bs (R dx)))).set 1 (.string (bs (R dy)))).free 2
      have c0 := hrw.cell (i := 0) rfl
      have c1 := (hrw.set 0 (.string (bs (R dx)))).cell (i := 1) rfl
      have c2 := ((hrw.set 0 (.string (bs (R dx)))).set 1 (.string (bs (R dy)))).cell (i := 2) rfl
      have HQ := Lib.hid (ar_store (.string (bs (R dx))) (.string (bs (R dy))) (.string (bs (R tw))) hrw (Nat.le_refl _) hbw)
      clear hb4 hrw hbw HR4 HN1 hts4 HTS HCP hc4
      go_wp2
      go_region
      all_goals
        go_wp2
        have q0 := HQ.out.1.cell (i := 0) rfl
        have q1 := HQ.out.1.cell (i := 1) rfl
        have q2 := HQ.out.1.cell (i := 2) rfl
        refine bodyPost_ret (v := .tuple #[.string (bs (R x)), .agg #[.string (bs (R dx)), .string (bs (R dy)), .string (bs (R tw))], .int .i64 0]) (by simp [results, Tryz.results28, go_sem, q0, q1, q2]) rfl ⟨rfl, RowKit.Below.drew HQ.out.2⟩
end W
end Go.Proofs.YtellemlhhlafcaaGreatDoor
end
section
namespace Go.Proofs.YtellemlhhlafcaaGreatDoor
open Go Go.RowKit Go.Deep
namespace M
def hv (z : Int) : Rat := (z : Rat) / 2
def hts (l : List Int) : List (List UInt8) := l.map fun z => R (hv z)
end M
namespace W
open M
attribute [local go_sem] bs_size bs_toList bs_get bs_extract bs_append bs_lit0 bs_lit1 lit1_bs
set_option maxHeartbeats 2000000
set_option maxRecDepth 20000
end W
end Go.Proofs.YtellemlhhlafcaaGreatDoor
end
section
namespace Go.Proofs.YtellemlhhlafcaaGreatDoor
open Go Go.RowKit Go.Deep
namespace M
end M
end Go.Proofs.YtellemlhhlafcaaGreatDoor
end
