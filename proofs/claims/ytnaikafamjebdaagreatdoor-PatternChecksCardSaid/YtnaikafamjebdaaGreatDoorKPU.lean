/-
  Chapter 46: all bounds of a plate.
  Chapter 46: 'Check' and 'Bounds' of the program.
  Chapter 46, plain: the excess.
  Chapter 46, plain: the excess by pairs of conditions ('Lowest'); what changes it; the size of the simplex' numbers.
  Chapter 46: 'Fits' of the program.
  Chapter 46: a list of texts is copied; 'Excess' of the program.
-/
import Derived.Test.YtnaikafamjebdaaGreatDoorKPT
import Derived.Test.YtnaikafamjebdaaGreatDoorKPQ
import Derived.Test.YtnaikafamjebdaaGreatDoorKPH
section
namespace Go.Proofs.YtnaikafamjebdaaGreatDoor
open Go Go.RowKit Go.Deep
namespace M
theorem bnd4_bx (t : Tg) (c : Cc) : [(rx (W.castL [1, 0, -c.y]), R (((2 * (t.x - c.x) + wide t c : Int) : Rat) / 2)), (rx (W.castL [-1, 0, c.y]), R (((2 * (c.x - t.x) + wide t c : Int) : Rat) / 2)),
      (rx (W.castL [0, 1, c.x]), R (((2 * (t.y - c.y) + wide t c : Int) : Rat) / 2)), (rx (W.castL [0, -1, -c.x]), R (((2 * (c.y - t.y) + wide t c : Int) : Rat) / 2))] = bx (bnd4 t c) := by
  unfold bx bnd4
  rfl
theorem bnds_take (pl : Pl) (k : Nat) (h : k < pl.length) : bx (bnds (pl.take (k + 1))) = bx (bnds (pl.take k)) ++ bx (bnd4 pl[k].1 pl[k].2) := by
  have e : pl.take (k + 1) = pl.take k ++ [pl[k]] := by rw [List.take_add_one, List.getElem?_eq_getElem h]; rfl
  rw [e]
  unfold bnds bx
  rw [List.flatMap_append, List.map_append]
  simp
end M
structure AlS (w0 w : World) (vo : Value) (es : List (Value × M.BT)) : Prop where
  own : OwnE w (w0.heap.size + 1) vo es
  good : GoodT w es
  bel : Below w0.heap.size w0 w
  sz : w0.heap.size + 1 ≤ w.heap.size
theorem AlS.to {w0 w w' : World} {vo : Value} {es : List (Value × M.BT)} (h : AlS w0 w vo es) (hb : Below w.heap.size w w') : AlS w0 w' vo es := ⟨h.own.below hb, h.good.below hb, bel_to h.bel hb, Nat.le_trans h.sz hb.size⟩
theorem AlS.app {w0 w w' : World} {vo v' : Value} {es es2 : List (Value × M.BT)} (h : AlS w0 w vo es) (h2 : GoodT w es2) (ho : OwnE w' (w0.heap.size + 1) v' (es ++ es2)) (hg : w.grownBy w' vo.ownBlock) : AlS w0 w' v' (es ++ es2) :=
  ⟨ho, (h.good.append h2).grown h.own hg, app_belE h.own h.bel (Nat.le_succ _) hg, Nat.le_trans h.sz hg.size⟩
theorem OwnE.shape {w : World} {B : Nat} {v : Value} {l : List (Value × M.BT)} (h : OwnE w B v l) : ∃ A n c, v = .slice A n c := by
  rcases h.2 with ⟨hv, _⟩ | ⟨g, cap, cur, hv, _⟩
  · exact ⟨_, _, _, hv⟩
  · exact ⟨_, _, _, hv⟩
namespace W
open M
attribute [local go_sem] bs_size bs_toList bs_get bs_extract bs_append bs_lit0 bs_lit1 lit1_bs
set_option maxHeartbeats 2000000
set_option maxRecDepth 20000
theorem pall (va vt vc : Value) (ts : List Tg) (cs : List Cc) (w : World) (hg : Glob w) (ha : RdI w va (zoneNs ts cs)) (ht : RdG w vt ts) (hc : RdC w vc cs) (hok : chk46 ts cs = 0) :
    Calls Tryz.prog 29 #[.agg #[va, vt, vc]] w (fun e w' => ∃ v es, e = .returned v ∧ OwnE w' (w.heap.size + 1) v es ∧ GoodT w' es ∧ es.map (·.2) = bx (bnds (ts.zip cs)) ∧ Below w.heap.size w w') := by
  obtain ⟨h1, h16, hlen, hrt⟩ := chk46_iff.1 hok
  have hzl : (ts.zip cs).length = cs.length := by rw [List.length_zip]; omega
  have hb : ∀ (k : Nat) (hk : k < (ts.zip cs).length) (W : World) (_ : Below w.heap.size w W), Calls Tryz.prog 41 #[.agg #[va, vt, vc], .int .i64 (k : Int)] W (fun e w' => ∃ v, e = .returned v ∧ IsBs (bx (bnd4 (ts.zip cs)[k].1 (ts.zip cs)[k].2)) w' v ∧ Below W.heap.size W w') := fun k hk W hW => by
    have hk3 : k < cs.length := by omega
    have hk1 : k < (zoneNs ts cs).length := by rw [zoneNs_len hlen]; omega
    have hk2 : k < ts.length := by omega
    have e2 : (ts.zip cs)[k] = (ts[k], cs[k]) := by simp
    have hr := hrt (ts[k], cs[k]) (by rw [← e2]; exact List.getElem_mem hk)
    have hw := hr.wide
    have e : (zoneNs ts cs)[k] = wide ts[k] cs[k] := by simp [zoneNs]
    have h := pbounds va vt vc (zoneNs ts cs) ts cs k W (hg.of hW) (ha.below hW) (ht.below hW) (hc.below hW) hk1 hk2 hk3 (by rw [e]; simp only at hw; omega) hr.1 hr.2.1
    rw [e, bnd4_bx] at h
    rw [e2]
    exact h
  have HB := Lib.hid hb
  have HLZ := Lib.hid (show ∀ k, k < cs.length → k < (ts.zip cs).length from fun k hk => by omega)
  have HFIN := Lib.hid (show (ts.zip cs).take cs.length = ts.zip cs by rw [← hzl, List.take_length])
  have hbl : ∀ k, k < cs.length → ((bnds ((ts.zip cs).take k)).length + 4) * 40 ≤ 140737488355328 := fun k hk => by
    rw [bnds_len, List.length_take]; omega
  have HSZ := Lib.hid hbl
  clear hbl
  have hcs : cs.length ≤ 16 := by omega
  obtain ⟨A0, c0, rfl⟩ := ha.len
  obtain ⟨At, ct, rfl⟩ := ht.len
  obtain ⟨Ac, cc, rfl⟩ := hc.len
  have hmf : ∀ (fn : Fn) (first cap : Array Value) (w : World), (Instr.makeFunc fn first cap).run Tryz.prog w = .ok (.func fn first cap) w := fun _ _ _ _ => rfl
  have HA0 : Hid (AlS w (w.alloc (.cells #[.slice A0 (zoneNs ts cs).length c0, .slice At ts.length ct, .slice Ac cs.length cc] 72 (0, 0))) (.slice none 0 0) []) :=
    Lib.hid ⟨World.ownsRow_nil _ _ _ _, (fun x hx => by cases hx), bel_al _ _, by rw [World.size_alloc]; omega⟩
  generalize (zoneNs ts cs).length = nz at *
  clear hb h1 h16 hlen hrt hzl hok ha ht hc hg
  generalize ts.zip cs = pl at *
  go_enter Tryz.func29, Tryz.ntmps29
  go_wp2
  generalize w.alloc (.cells #[.slice A0 nz c0, .slice At ts.length ct, .slice Ac cs.length cc] 72 (0, 0)) = w0 at *
  go_loopw [3, 11] (fun vo iv wr => ∃ (k : Nat) (es : List (Value × BT)), iv = .int .i64 (k : Int) ∧ k ≤ cs.length ∧ Hid (AlS w wr vo es) ∧ Hid (es.map (·.2) = bx (bnds (pl.take k)))) (fun _ iv _ => cs.length - (intOf iv).toNat)
  case atStart => exact ⟨0, [], rfl, by omega, HA0, Lib.hid rfl⟩
  case round =>
    clear HA0
    obtain ⟨k, es, rfl, hk, hin, hes⟩ := hrel
    by_cases hlt : k < cs.length
    · have hlz := HLZ.out k hlt
      have HBK := Lib.hid (HB.out k hlz _ hin.out.bel)
      have HTK := Lib.hid (bnds_take pl k hlz)
      have HSK := Lib.hid (HSZ.out k hlt)
      have hel := congrArg List.length hes.out
      rw [List.length_map, bx_len] at hel
      have HEL := Lib.hid hel
      clear hel
      obtain ⟨Av, nv, cv, rfl⟩ := OwnE.shape hin.out.own
      go_wp2_with fail
      refine HBK.out.mono ?_
      rintro e w1 ⟨v, rfl, hbs, hb1⟩
      obtain ⟨es2, he2, hg2, hs2⟩ := hbs.src
      have HI1 := Lib.hid (hin.out.to hb1)
      have he4 := congrArg List.length he2
      rw [bx_len, List.length_map] at he4
      have HE2 := Lib.hid (And.intro he2 (And.intro hg2 (And.intro hs2 (show es2.length = 4 from he4.symm))))
      clear hb1 hin HBK he2 hg2 hs2 he4 hbs
      go_wp2_with (at_builtin; refine wpList_app_e rfl (.tmp 14) (.tmp 17) rfl rfl rfl HI1.out.own HE2.out.2.2.1 HE2.out.2.1.good HI1.out.sz (by rw [HE2.out.2.2.2, HEL.out]; exact HSK.out) ?_; intro v2 w2 ho2 hk2; have HI2 := Lib.hid (HI1.out.app HE2.out.2.1 ho2 hk2); clear ho2 hk2)
      go_wp2
      go_roundw
      case rel => exact ⟨k + 1, _, by go_num, by omega, HI2, Lib.hid (by rw [List.map_append, hes.out, HTK.out, ← HE2.out.1])⟩
      case measure => simp [intOf]; omega
    · obtain rfl : k = cs.length := by omega
      have hes2 := hes.out
      rw [HFIN.out] at hes2
      have HE := Lib.hid hes2
      obtain ⟨Av, nv, cv, rfl⟩ := OwnE.shape hin.out.own
      clear hes hes2
      go_wp2
      go_ret
      exact ⟨_, es, rfl, hin.out.own, hin.out.good, HE.out, hin.out.bel⟩
end W
end Go.Proofs.YtnaikafamjebdaaGreatDoor
end
section
namespace Go.Proofs.YtnaikafamjebdaaGreatDoor
open Go Go.RowKit Go.Deep
namespace W
open M
attribute [local go_sem] bs_size bs_toList bs_get bs_extract bs_append bs_lit0 bs_lit1 lit1_bs
set_option maxHeartbeats 2000000
set_option maxRecDepth 20000
theorem pcheck46 (vt vc : Value) (ts : List Tg) (cs : List Cc) (w : World) (hs : Sig w) (ht : RdG w vt ts) (hc : RdC w vc cs) (nt : ts.length ≤ maxLen) (nc : cs.length ≤ maxLen) :
    Calls Tryz.prog 21 #[vt, vc] w (Ret w (.int .i64 ((chk46 ts cs : Nat) : Int))) := by
  obtain ⟨At, ct, rfl⟩ := ht.len
  obtain ⟨Ac, cc, rfl⟩ := hc.len
  by_cases h : chk46 ts cs = 0
  · have HP := Lib.hid (pplate_ok _ _ ts cs w hs ht hc nt nc h)
    rw [h]
    clear h hs ht hc nt nc
    go_enter Tryz.func21, Tryz.ntmps21
    go_wp2_with fail
    refine HP.out.mono ?_
    rintro e w1 ⟨va, rfl, hv, hb1⟩
    obtain ⟨Av, cv, rfl⟩ := hv.len
    clear hv HP
    go_wp2
    go_ret
    exact Ret.of rfl (bel_to hb1 (bel_al _ _))
  · have HP := Lib.hid (pplate_bad _ _ ts cs w hs ht hc nt nc h)
    generalize ((chk46 ts cs : Nat) : Int) = k at *
    clear h hs ht hc nt nc
    go_enter Tryz.func21, Tryz.ntmps21
    go_wp2_with fail
    refine HP.out.mono ?_
    rintro e w1 ⟨rfl, hb1⟩
    clear HP
    go_wp2
    go_ret
    exact Ret.of rfl (bel_to hb1 (bel_al _ _))
theorem pBounds_bad (vt vc : Value) (ts : List Tg) (cs : List Cc) (w : World) (hs : Sig w) (ht : RdG w vt ts) (hc : RdC w vc cs) (nt : ts.length ≤ maxLen) (nc : cs.length ≤ maxLen) (h : chk46 ts cs ≠ 0) :
    Calls Tryz.prog 14 #[vt, vc] w (Ret w (.tuple #[.slice none 0 0, .int .i64 ((chk46 ts cs : Nat) : Int)])) := by
  obtain ⟨At, ct, rfl⟩ := ht.len
  obtain ⟨Ac, cc, rfl⟩ := hc.len
  have HP := Lib.hid (pplate_bad _ _ ts cs w hs ht hc nt nc h)
  have hz := nz_bne h
  generalize ((chk46 ts cs : Nat) : Int) = k at *
  clear h hs ht hc nt nc
  go_enter Tryz.func14, Tryz.ntmps14
  go_wp2_with fail
  refine HP.out.mono ?_
  rintro e w1 ⟨rfl, hb1⟩
  clear HP
  go_wp2
  go_ret2
  exact Ret.of rfl (bel_to hb1 (bel_al _ _))
theorem pBounds_ok (vt vc : Value) (ts : List Tg) (cs : List Cc) (w : World) (hg : Glob w) (hs : Sig w) (ht : RdG w vt ts) (hc : RdC w vc cs) (nt : ts.length ≤ maxLen) (nc : cs.length ≤ maxLen) (h : chk46 ts cs = 0) :
    Calls Tryz.prog 14 #[vt, vc] w (fun e w' => ∃ v, e = .returned (.tuple #[v, .int .i64 0]) ∧ RdB w' v (bx (bnds (ts.zip cs))) ∧ Below w.heap.size w w') := by
  have HA := Lib.hid (fun va W (hW : Below w.heap.size w W) hv => pall va vt vc ts cs W (hg.of hW) hv (ht.below hW) (hc.below hW) h)
  obtain ⟨At, ct, rfl⟩ := ht.len
  obtain ⟨Ac, cc, rfl⟩ := hc.len
  have HP := Lib.hid (pplate_ok _ _ ts cs w hs ht hc nt nc h)
  clear h hs ht hc nt nc hg
  go_enter Tryz.func14, Tryz.ntmps14
  go_wp2_with fail
  refine HP.out.mono ?_
  rintro e w1 ⟨va, rfl, hv, hb1⟩
  have HA1 := Lib.hid (HA.out va _ (bel_to hb1 (bel_al w1 (.cells #[va, .slice At ts.length ct, .slice Ac cs.length cc] 72 (0, 0)))) (hv.below (bel_al _ _)))
  have HB1 := Lib.hid (bel_to hb1 (bel_al w1 (.cells #[va, .slice At ts.length ct, .slice Ac cs.length cc] 72 (0, 0))))
  obtain ⟨Av, cv, rfl⟩ := hv.len
  clear hv hb1 HP HA
  go_wp2_with fail
  refine HA1.out.mono ?_
  rintro e w2 ⟨v, es, rfl, ho, hgd, he, hb2⟩
  have HF := Lib.hid (show RdB w2 v (bx (bnds (ts.zip cs))) ∧ Below w.heap.size w w2 from ⟨by rw [← he]; exact OwnE.rd ho hgd.good, bel_to HB1.out hb2⟩)
  obtain ⟨Ao, no, co, rfl⟩ := OwnE.shape ho
  clear ho hgd he hb2 HA1 HB1
  go_wp2
  go_ret2
  exact ⟨_, rfl, HF.out⟩
end W
end Go.Proofs.YtnaikafamjebdaaGreatDoor
end
section
namespace Go.Proofs.YtnaikafamjebdaaGreatDoor
open Go
namespace Sx
open M
def FzH (p : Tg × Cc) (dx dy w e : Rat) : Prop :=
  dx - w * p.2.y ≤ (p.1.x - p.2.x) + (wide p.1 p.2 + e) / 2 ∧ (p.1.x - p.2.x) - (wide p.1 p.2 + e) / 2 ≤ dx - w * p.2.y ∧
  dy + w * p.2.x ≤ (p.1.y - p.2.y) + (wide p.1 p.2 + e) / 2 ∧ (p.1.y - p.2.y) - (wide p.1 p.2 + e) / 2 ≤ dy + w * p.2.x
def Fz (pl : Pl) (dx dy w e : Rat) : Prop := ∀ p ∈ pl, FzH p dx dy w e
theorem d3 (a b c x y z : Rat) : dotP [a, b, c] [x, y, z] 3 = a * x + b * y + c * z := by
  simp only [dotP, nth, List.getD_cons_zero, List.getD_cons_succ]; grind
theorem d4 (a b c d x y z u : Rat) : dotP [a, b, c, d] [x, y, z, u] 4 = a * x + b * y + c * z + d * u := by
  simp only [dotP, nth, List.getD_cons_zero, List.getD_cons_succ]; grind
theorem bnd_iff (p : Tg × Cc) (dx dy w e : Rat) : (∀ b ∈ bnd4 p.1 p.2, dotP (b.1 ++ [-1 / 2]) [dx, dy, w, e] 4 ≤ b.2) ↔ FzH p dx dy w e := by
  unfold bnd4 FzH
  simp only [List.mem_cons, List.not_mem_nil, or_false, forall_eq_or_imp, forall_eq, List.cons_append, List.nil_append, d4, Rat.intCast_add, Rat.intCast_sub, Rat.intCast_mul, Rat.intCast_neg, Rat.intCast_ofNat]
  constructor
  · rintro ⟨a, b, c, d⟩
    refine ⟨?_, ?_, ?_, ?_⟩ <;> grind
  · rintro ⟨a, b, c, d⟩
    refine ⟨?_, ?_, ?_, ?_⟩ <;> grind
theorem bnd_iff0 (p : Tg × Cc) (dx dy w : Rat) : (∀ b ∈ bnd4 p.1 p.2, dotP b.1 [dx, dy, w] 3 ≤ b.2) ↔ FzH p dx dy w 0 := by
  unfold bnd4 FzH
  simp only [List.mem_cons, List.not_mem_nil, or_false, forall_eq_or_imp, forall_eq, d3, Rat.intCast_add, Rat.intCast_sub, Rat.intCast_mul, Rat.intCast_neg, Rat.intCast_ofNat]
  constructor
  · rintro ⟨a, b, c, d⟩
    refine ⟨?_, ?_, ?_, ?_⟩ <;> grind
  · rintro ⟨a, b, c, d⟩
    refine ⟨?_, ?_, ?_, ?_⟩ <;> grind
theorem keepsE_iff {pl : Pl} {dx dy w e : Rat} : Keeps 4 (bndsE pl) [dx, dy, w, e] ↔ Fz pl dx dy w e := by
  unfold Keeps Fz bndsE bnds
  constructor
  · rintro ⟨_, h⟩ p hp
    exact (bnd_iff p dx dy w e).1 fun b hb => h (b.1 ++ [-1 / 2], b.2) (List.mem_map.2 ⟨b, List.mem_flatMap.2 ⟨p, hp, hb⟩, rfl⟩)
  · intro h
    refine ⟨rfl, fun b hb => ?_⟩
    obtain ⟨b', hb', rfl⟩ := List.mem_map.1 hb
    obtain ⟨p, hp, hb2⟩ := List.mem_flatMap.1 hb'
    exact (bnd_iff p dx dy w e).2 (h p hp) b' hb2
theorem keeps3_iff {pl : Pl} {dx dy w : Rat} : Keeps 3 (bnds pl) [dx, dy, w] ↔ Fz pl dx dy w 0 := by
  unfold Keeps Fz bnds
  constructor
  · rintro ⟨_, h⟩ p hp
    exact (bnd_iff0 p dx dy w).1 fun b hb => h b (List.mem_flatMap.2 ⟨p, hp, hb⟩)
  · intro h
    refine ⟨rfl, fun b hb => ?_⟩
    obtain ⟨p, hp, hb2⟩ := List.mem_flatMap.1 hb
    exact (bnd_iff0 p dx dy w).2 (h p hp) b hb2
theorem len3 {p : List Rat} (h : p.length = 3) : ∃ a b c, p = [a, b, c] := by
  match p, h with
  | [a, b, c], _ => exact ⟨a, b, c, rfl⟩
theorem len4 {p : List Rat} (h : p.length = 4) : ∃ a b c d, p = [a, b, c, d] := by
  match p, h with
  | [a, b, c, d], _ => exact ⟨a, b, c, d, rfl⟩
def Exc (pl : Pl) (x : Rat) : Prop := (∃ dx dy w, Fz pl dx dy w x) ∧ ∀ dx dy w e, Fz pl dx dy w e → x ≤ e
theorem FzH.mono {p : Tg × Cc} {dx dy w e e' : Rat} (h : FzH p dx dy w e) (he : e ≤ e') : FzH p dx dy w e' := by
  obtain ⟨a, b, c, d⟩ := h
  refine ⟨?_, ?_, ?_, ?_⟩ <;> grind
theorem fz_some : ∀ pl : Pl, ∃ e, Fz pl 0 0 0 e
  | [] => ⟨0, fun p hp => (by cases hp)⟩
  | p :: t => by
    obtain ⟨e, he⟩ := fz_some t
    have h1 : ∃ e', e ≤ e' ∧ FzH p 0 0 0 e' := by
      refine ⟨ab e + 2 * ab (p.1.x - p.2.x) + 2 * ab (p.1.y - p.2.y) + ab (wide p.1 p.2), ?_, ?_⟩
      · unfold ab; repeat' split
        all_goals grind
      · unfold FzH
        have a1 : ab e + 2 * ab (p.1.x - p.2.x) + 2 * ab (p.1.y - p.2.y) + ab (wide p.1 p.2) ≥ 2 * ab (p.1.x - p.2.x) + ab (wide p.1 p.2) := by
          have := ab_nonneg e
          have := ab_nonneg ((p.1.y : Rat) - p.2.y)
          grind
        have a2 : ab e + 2 * ab (p.1.x - p.2.x) + 2 * ab (p.1.y - p.2.y) + ab (wide p.1 p.2) ≥ 2 * ab (p.1.y - p.2.y) + ab (wide p.1 p.2) := by
          have := ab_nonneg e
          have := ab_nonneg ((p.1.x : Rat) - p.2.x)
          grind
        have le_ab : ∀ z : Rat, z ≤ ab z ∧ -z ≤ ab z := fun z => by unfold ab; split <;> constructor <;> grind
        have b1 := le_ab ((p.1.x : Rat) - p.2.x)
        have b2 := le_ab ((p.1.y : Rat) - p.2.y)
        have b3 := le_ab (wide p.1 p.2 : Rat)
        refine ⟨?_, ?_, ?_, ?_⟩ <;> grind
    obtain ⟨e', h2, h3⟩ := h1
    refine ⟨e', fun q hq => ?_⟩
    rcases List.mem_cons.1 hq with rfl | hq
    · exact h3
    · exact (he q hq).mono h2
theorem found_exc {e : Nat} {pl : Pl} {r : (Rat × List Rat × List Rat) ⊕ Nat} (hne : pl ≠ []) (h : Found e 4 (bndsE pl) [0, 0, 0, -1] r) :
    ∃ dx dy w x wt, r = .inl (-x, [dx, dy, w, x], wt) ∧ Exc pl x ∧ Fz pl dx dy w x ∧ ∀ q ∈ [dx, dy, w, x], Bq e q := by
  have hval : ∀ dx dy w x : Rat, dotP [0, 0, 0, -1] [dx, dy, w, x] 4 = -x := fun dx dy w x => by rw [d4]; grind
  obtain ⟨e0, he0⟩ := fz_some pl
  have hk0 := keepsE_iff.2 he0
  match r, h with
  | .inl (v, p, wt), h =>
    have hp := h.1.keeps
    obtain ⟨dx, dy, w, x, rfl⟩ := len4 hp.1
    have hv := h.1.2.1
    rw [hval] at hv
    refine ⟨dx, dy, w, x, wt, by rw [hv], ⟨⟨dx, dy, w, keepsE_iff.1 hp⟩, fun dx' dy' w' x' h2 => ?_⟩, keepsE_iff.1 hp, h.2.1⟩
    have h3 := h.1.le (keepsE_iff.2 h2)
    rw [hval] at h3
    grind
  | .inr k, h =>
    rcases h with ⟨_, wt, hw⟩ | ⟨_, p, q, hp, hq, hq2, hq3⟩
    · exact (keeps_contra hk0 hw).elim
    · exfalso
      obtain ⟨dx, dy, w, x, rfl⟩ := len4 hq
      rw [hval] at hq3
      obtain ⟨p0, t, rfl⟩ : ∃ p0 t, pl = p0 :: t := by
        cases pl with
        | nil => exact absurd rfl hne
        | cons a b => exact ⟨a, b, rfl⟩
      have m1 := hq2 ([1, 0, ((-p0.2.y : Int) : Rat), -1 / 2], _) (by unfold bndsE bnds; exact List.mem_map.2 ⟨_, List.mem_flatMap.2 ⟨p0, List.mem_cons_self, List.mem_cons_self⟩, rfl⟩)
      have m2 := hq2 ([-1, 0, ((p0.2.y : Int) : Rat), -1 / 2], _) (by unfold bndsE bnds; exact List.mem_map.2 ⟨_, List.mem_flatMap.2 ⟨p0, List.mem_cons_self, List.mem_cons_of_mem _ List.mem_cons_self⟩, rfl⟩)
      simp only [d4, Rat.intCast_neg] at m1 m2
      grind
end Sx
end Go.Proofs.YtnaikafamjebdaaGreatDoor
end
section
namespace Go.Proofs.YtnaikafamjebdaaGreatDoor
open Go
namespace M
def ln1 (p q : Tg × Cc) : Int × Int := (2 * (p.1.x - p.2.x) - 2 * (q.1.x - q.2.x) - (wide p.1 p.2 + wide q.1 q.2), 2 * (p.2.y - q.2.y))
def ln2 (p q : Tg × Cc) : Int × Int := (2 * (p.1.y - p.2.y) - 2 * (q.1.y - q.2.y) - (wide p.1 p.2 + wide q.1 q.2), 2 * (q.2.x - p.2.x))
def linesZ (pl : Pl) : List (Int × Int) := pl.flatMap fun p => pl.flatMap fun q => [ln1 p q, ln2 p q]
def crossQ (i j : Nat) (a b : Int × Int) : Option Rat :=
  if (decide (a.2 < 0) && decide (0 < b.2)) = true then some (((a.1 * b.2 - b.1 * a.2 : Int) : Rat) / ((b.2 - a.2 : Int) : Rat))
  else if (decide (a.2 = 0) && decide (i = j)) = true then some ((a.1 : Int) : Rat) else none
def bestQ : Option Rat → Option Rat → Option Rat
  | s, none => s
  | none, some x => some x
  | some y, some x => if y < x then some x else some y
def lowRow (l : List (Int × Int)) (i : Nat) (s : Option Rat) : Nat → Option Rat
  | 0 => s
  | j + 1 => bestQ (lowRow l i s j) (crossQ i j (l.getD i (0, 0)) (l.getD j (0, 0)))
def lowAll (l : List (Int × Int)) : Nat → Option Rat
  | 0 => none
  | i + 1 => lowRow l i (lowAll l i) l.length
def lowestQ (l : List (Int × Int)) : Rat := (lowAll l l.length).getD 0
def overQ (pl : Pl) : Rat := lowestQ (linesZ pl) / 2
end M
namespace Sx
open M
def BestOf (S : Rat → Prop) (s : Option Rat) : Prop := match s with
  | none => ∀ x, ¬ S x
  | some y => S y ∧ ∀ x, S x → x ≤ y
theorem best_step {S : Rat → Prop} {s c : Option Rat} (h : BestOf S s) : BestOf (fun x => S x ∨ c = some x) (bestQ s c) := by
  cases c with
  | none =>
    cases s with
    | none => exact fun x hx => hx.elim (h x) (fun e => by cases e)
    | some y => exact ⟨Or.inl h.1, fun x hx => hx.elim (h.2 x) (fun e => by cases e)⟩
  | some z =>
    cases s with
    | none => exact ⟨Or.inr rfl, fun x hx => hx.elim (fun e => absurd e (h x)) (fun e => by injection e with e; rw [e]; exact Rat.le_refl)⟩
    | some y =>
      unfold bestQ
      simp only
      split
      · rename_i h1
        exact ⟨Or.inr rfl, fun x hx => hx.elim (fun e => by have := h.2 x e; grind) (fun e => by injection e with e; rw [e]; exact Rat.le_refl)⟩
      · rename_i h1
        exact ⟨Or.inl h.1, fun x hx => hx.elim (h.2 x) (fun e => by injection e with e; rw [← e]; exact Rat.not_lt.1 h1)⟩
theorem BestOf.congr {S T : Rat → Prop} {s : Option Rat} (h : BestOf S s) (e : ∀ x, S x ↔ T x) : BestOf T s := by
  rw [show T = S from funext fun x => propext (e x).symm]; exact h
theorem lowRow_best (l : List (Int × Int)) (i : Nat) {S : Rat → Prop} {s : Option Rat} (h : BestOf S s) : ∀ j, BestOf (fun x => S x ∨ ∃ k, k < j ∧ crossQ i k (l.getD i (0, 0)) (l.getD k (0, 0)) = some x) (lowRow l i s j)
  | 0 => h.congr fun x => ⟨Or.inl, fun h => h.elim id fun ⟨k, hk, _⟩ => by omega⟩
  | j + 1 => (best_step (lowRow_best l i h j)).congr fun x => by
    constructor
    · rintro ((h | ⟨k, hk, e⟩) | e)
      · exact Or.inl h
      · exact Or.inr ⟨k, by omega, e⟩
      · exact Or.inr ⟨j, by omega, e⟩
    · rintro (h | ⟨k, hk, e⟩)
      · exact Or.inl (Or.inl h)
      · rcases Nat.lt_or_eq_of_le (Nat.le_of_lt_succ hk) with h1 | rfl
        · exact Or.inl (Or.inr ⟨k, h1, e⟩)
        · exact Or.inr e
theorem lowAll_best (l : List (Int × Int)) : ∀ i, BestOf (fun x => ∃ a b, a < i ∧ b < l.length ∧ crossQ a b (l.getD a (0, 0)) (l.getD b (0, 0)) = some x) (lowAll l i)
  | 0 => fun x => by rintro ⟨a, b, h, _⟩; omega
  | i + 1 => (lowRow_best l i (lowAll_best l i) l.length).congr fun x => by
    constructor
    · rintro (⟨a, b, h1, h2, e⟩ | ⟨k, hk, e⟩)
      · exact ⟨a, b, by omega, h2, e⟩
      · exact ⟨i, k, by omega, hk, e⟩
    · rintro ⟨a, b, h1, h2, e⟩
      rcases Nat.lt_or_eq_of_le (Nat.le_of_lt_succ h1) with h3 | rfl
      · exact Or.inl ⟨a, b, h3, h2, e⟩
      · exact Or.inr ⟨b, h2, e⟩
theorem between : ∀ (lo hi : List Rat), (∀ a ∈ lo, ∀ b ∈ hi, a ≤ b) → ∃ x, (∀ a ∈ lo, a ≤ x) ∧ ∀ b ∈ hi, x ≤ b
  | [], [], _ => ⟨0, (fun a h => by cases h), fun a h => by cases h⟩
  | [], b :: t, _ => by
      obtain ⟨x, _, h2⟩ := between [] t (fun a h => by cases h)
      by_cases hx : x ≤ b
      · exact ⟨x, (fun a h => by cases h), fun c hc => (List.mem_cons.1 hc).elim (fun e => e ▸ hx) (h2 c)⟩
      · refine ⟨b, (fun a h => by cases h), fun c hc => (List.mem_cons.1 hc).elim (fun e2 => e2 ▸ Rat.le_refl) fun hc => ?_⟩
        have := h2 c hc
        grind
  | a :: t, hi, h => by
    obtain ⟨x, h1, h2⟩ := between t hi fun c hc => h c (List.mem_cons_of_mem _ hc)
    have h3 := h a List.mem_cons_self
    by_cases hx : a ≤ x
    · exact ⟨x, fun c hc => (List.mem_cons.1 hc).elim (fun e => e ▸ hx) (h1 c), h2⟩
    · refine ⟨a, fun c hc => (List.mem_cons.1 hc).elim (fun e2 => e2 ▸ Rat.le_refl) fun hc => ?_, h3⟩
      have := h1 c hc
      grind
theorem getD_get {α} (l : List α) (d : α) {i : Nat} (h : i < l.length) : l.getD i d = l[i] := by simp [h]
theorem lowest_spec (l : List (Int × Int)) (h0 : ∃ a ∈ l, a.2 = 0) : (∃ w : Rat, ∀ a ∈ l, (a.1 : Rat) + a.2 * w ≤ lowestQ l) ∧ ∀ (w g : Rat), (∀ a ∈ l, (a.1 : Rat) + a.2 * w ≤ g) → lowestQ l ≤ g := by
  have hb := lowAll_best l l.length
  obtain ⟨a0, ha0, hz⟩ := h0
  obtain ⟨i0, hi0, rfl⟩ := List.mem_iff_getElem.1 ha0
  unfold lowestQ
  cases hl : lowAll l l.length with
  | none =>
    exfalso
    rw [hl] at hb
    refine hb ((l[i0].1 : Int) : Rat) ⟨i0, i0, hi0, hi0, ?_⟩
    unfold crossQ
    rw [getD_get _ _ hi0, if_neg (by simp [hz]), if_pos (by simp [hz])]
  | some m =>
    rw [hl] at hb
    obtain ⟨⟨a, b, ha, hb1, hc⟩, hmax⟩ := hb
    show (∃ w : Rat, ∀ a ∈ l, (a.1 : Rat) + a.2 * w ≤ m) ∧ ∀ (w g : Rat), (∀ a ∈ l, (a.1 : Rat) + a.2 * w ≤ g) → m ≤ g
    refine ⟨?_, fun w g hg => ?_⟩
    · obtain ⟨w, h1, h2⟩ := between ((l.filter fun a => decide (a.2 < 0)).map fun a => (m - a.1) / a.2) ((l.filter fun a => decide (0 < a.2)).map fun a => (m - a.1) / a.2) fun x hx y hy => by
        obtain ⟨p, hp, rfl⟩ := List.mem_map.1 hx
        obtain ⟨q, hq, rfl⟩ := List.mem_map.1 hy
        obtain ⟨hp1, hp2⟩ := List.mem_filter.1 hp
        obtain ⟨hq1, hq2⟩ := List.mem_filter.1 hq
        simp only [decide_eq_true_eq] at hp2 hq2
        obtain ⟨i, hi, rfl⟩ := List.mem_iff_getElem.1 hp1
        obtain ⟨j, hj, rfl⟩ := List.mem_iff_getElem.1 hq1
        have h3 := hmax (((l[i].1 * l[j].2 - l[j].1 * l[i].2 : Int) : Rat) / ((l[j].2 - l[i].2 : Int) : Rat)) ⟨i, j, hi, hj, by unfold crossQ; rw [getD_get _ _ hi, getD_get _ _ hj, if_pos (by simp [hp2, hq2])]⟩
        have e1 : (l[i].2 : Rat) < 0 := Rat.intCast_lt_intCast.2 hp2
        have e2 : (0 : Rat) < (l[j].2 : Rat) := Rat.intCast_lt_intCast.2 hq2
        generalize l[i].1 = a1 at *
        generalize l[i].2 = b1 at *
        generalize l[j].1 = a2 at *
        generalize l[j].2 = b2 at *
        rw [Rat.intCast_sub, Rat.intCast_mul, Rat.intCast_mul, Rat.intCast_sub] at h3
        have h4 : (0 : Rat) < (b2 : Rat) - b1 := by grind
        have h5 := Rat.mul_le_mul_of_nonneg_right h3 (Rat.le_of_lt h4)
        rw [Rat.div_mul_cancel (by grind)] at h5
        -- (m - a1) / b1 ≤ (m - a2) / b2
        have h6 : (m - a1) / b1 = (a1 - m) / (-b1) := by grind
        rw [h6]
        have h7 : (0 : Rat) < -(b1 : Rat) := by grind
        have h8 := Rat.mul_pos h7 e2
        refine Classical.byContradiction fun h9 => ?_
        have h9 := Rat.not_le.1 h9
        have h10 := Rat.mul_lt_mul_of_pos_right h9 h8
        have h11 : (a1 - m) / (-b1 : Rat) * (-b1 * b2) = (a1 - m) * b2 := by
          have : (-b1 : Rat) ≠ 0 := by grind
          rw [show (a1 - m) / (-b1 : Rat) * (-b1 * b2) = ((a1 - m) / (-b1 : Rat) * -b1) * b2 by grind, Rat.div_mul_cancel this]
        have h12 : (m - a2) / (b2 : Rat) * (-b1 * b2) = (m - a2) * -b1 := by
          have : (b2 : Rat) ≠ 0 := by grind
          rw [show (m - a2) / (b2 : Rat) * (-b1 * b2) = ((m - a2) / (b2 : Rat) * b2) * -b1 by grind, Rat.div_mul_cancel this]
        rw [h11, h12] at h10
        grind
      refine ⟨w, fun p hp => ?_⟩
      obtain ⟨i, hi, e⟩ := List.mem_iff_getElem.1 hp
      rcases Int.lt_trichotomy p.2 0 with h3 | h3 | h3
      · have h4 := h1 ((m - p.1) / p.2) (List.mem_map.2 ⟨p, List.mem_filter.2 ⟨hp, by simpa using h3⟩, rfl⟩)
        have e1 : (p.2 : Rat) < 0 := Rat.intCast_lt_intCast.2 h3
        have h5 : (0 : Rat) ≤ -(p.2 : Rat) := by grind
        have h6 := Rat.mul_le_mul_of_nonneg_right h4 h5
        have h7 : (m - p.1) / (p.2 : Rat) * -p.2 = -(m - p.1) := by
          have : (p.2 : Rat) ≠ 0 := by grind
          rw [show (m - p.1) / (p.2 : Rat) * -p.2 = -((m - p.1) / (p.2 : Rat) * p.2) by grind, Rat.div_mul_cancel this]
        rw [h7] at h6
        grind
      · have h4 := hmax ((p.1 : Int) : Rat) ⟨i, i, hi, hi, by unfold crossQ; rw [getD_get _ _ hi, e, if_neg (by simp [h3]), if_pos (by simp [h3])]⟩
        rw [h3, show ((0 : Int) : Rat) = 0 from rfl]
        grind
      · have h4 := h2 ((m - p.1) / p.2) (List.mem_map.2 ⟨p, List.mem_filter.2 ⟨hp, by simpa using h3⟩, rfl⟩)
        have e1 : (0 : Rat) < (p.2 : Rat) := Rat.intCast_lt_intCast.2 h3
        have h6 := Rat.mul_le_mul_of_nonneg_right h4 (Rat.le_of_lt e1)
        rw [Rat.div_mul_cancel (by grind)] at h6
        grind
    · unfold crossQ at hc
      rw [getD_get _ _ ha, getD_get _ _ hb1] at hc
      have ga := hg _ (List.getElem_mem ha)
      have gb := hg _ (List.getElem_mem hb1)
      generalize l[a] = p at *
      generalize l[b] = q at *
      split at hc
      · rename_i h1
        simp only [Bool.and_eq_true, decide_eq_true_eq] at h1
        have e1 : (p.2 : Rat) < 0 := Rat.intCast_lt_intCast.2 h1.1
        have e2 : (0 : Rat) < (q.2 : Rat) := Rat.intCast_lt_intCast.2 h1.2
        injection hc with hc
        rw [← hc, Rat.intCast_sub, Rat.intCast_mul, Rat.intCast_mul, Rat.intCast_sub]
        have h4 : (0 : Rat) < (q.2 : Rat) - p.2 := by grind
        refine Classical.byContradiction fun h9 => ?_
        have h10 := Rat.mul_lt_mul_of_pos_right (Rat.not_le.1 h9) h4
        rw [Rat.div_mul_cancel (by grind)] at h10
        have g1 := Rat.mul_le_mul_of_nonneg_right ga (Rat.le_of_lt e2)
        have g2 := Rat.mul_le_mul_of_nonneg_right gb (show (0 : Rat) ≤ -(p.2 : Rat) by grind)
        grind
      · split at hc
        · rename_i h1
          simp only [Bool.and_eq_true, decide_eq_true_eq] at h1
          injection hc with hc
          rw [← hc]
          rw [h1.1, show ((0 : Int) : Rat) = 0 from rfl] at ga
          grind
        · cases hc
theorem shifts_iff (pl : Pl) (w e : Rat) : (∃ dx dy, Fz pl dx dy w e) ↔ ∀ a ∈ linesZ pl, (a.1 : Rat) + a.2 * w ≤ 2 * e := by
  have hmem : ∀ a, a ∈ linesZ pl ↔ ∃ p ∈ pl, ∃ q ∈ pl, a = ln1 p q ∨ a = ln2 p q := fun a => by
    unfold linesZ
    simp only [List.mem_flatMap, List.mem_cons, List.not_mem_nil, or_false]
  constructor
  · rintro ⟨dx, dy, h⟩ a ha
    obtain ⟨p, hp, q, hq, h2⟩ := (hmem a).1 ha
    obtain ⟨a1, a2, a3, a4⟩ := h p hp
    obtain ⟨b1, b2, b3, b4⟩ := h q hq
    rcases h2 with rfl | rfl
    · unfold ln1
      simp only [Rat.intCast_sub, Rat.intCast_mul, Rat.intCast_add, Rat.intCast_ofNat]
      grind
    · unfold ln2
      simp only [Rat.intCast_sub, Rat.intCast_mul, Rat.intCast_add, Rat.intCast_ofNat]
      grind
  · intro h
    obtain ⟨dx, x1, x2⟩ := between (pl.map fun p => (p.1.x - p.2.x : Rat) - (wide p.1 p.2 + e) / 2 + w * p.2.y) (pl.map fun p => (p.1.x - p.2.x : Rat) + (wide p.1 p.2 + e) / 2 + w * p.2.y) fun a ha b hb => by
      obtain ⟨p, hp, rfl⟩ := List.mem_map.1 ha
      obtain ⟨q, hq, rfl⟩ := List.mem_map.1 hb
      have h1 := h (ln1 p q) ((hmem _).2 ⟨p, hp, q, hq, Or.inl rfl⟩)
      unfold ln1 at h1
      simp only [Rat.intCast_sub, Rat.intCast_mul, Rat.intCast_add, Rat.intCast_ofNat] at h1
      grind
    obtain ⟨dy, y1, y2⟩ := between (pl.map fun p => (p.1.y - p.2.y : Rat) - (wide p.1 p.2 + e) / 2 - w * p.2.x) (pl.map fun p => (p.1.y - p.2.y : Rat) + (wide p.1 p.2 + e) / 2 - w * p.2.x) fun a ha b hb => by
      obtain ⟨p, hp, rfl⟩ := List.mem_map.1 ha
      obtain ⟨q, hq, rfl⟩ := List.mem_map.1 hb
      have h1 := h (ln2 p q) ((hmem _).2 ⟨p, hp, q, hq, Or.inr rfl⟩)
      unfold ln2 at h1
      simp only [Rat.intCast_sub, Rat.intCast_mul, Rat.intCast_add, Rat.intCast_ofNat] at h1
      grind
    refine ⟨dx, dy, fun p hp => ?_⟩
    have a1 := x1 _ (List.mem_map.2 ⟨p, hp, rfl⟩)
    have a2 := x2 _ (List.mem_map.2 ⟨p, hp, rfl⟩)
    have a3 := y1 _ (List.mem_map.2 ⟨p, hp, rfl⟩)
    have a4 := y2 _ (List.mem_map.2 ⟨p, hp, rfl⟩)
    unfold FzH
    refine ⟨?_, ?_, ?_, ?_⟩ <;> grind
theorem exc_over {pl : Pl} (h : pl ≠ []) : Exc pl (overQ pl) := by
  obtain ⟨p, t, rfl⟩ : ∃ p t, pl = p :: t := by
    cases pl with
    | nil => exact absurd rfl h
    | cons a b => exact ⟨a, b, rfl⟩
  have h0 : ∃ a ∈ linesZ (p :: t), a.2 = 0 := by
    refine ⟨ln1 p p, ?_, ?_⟩
    · unfold linesZ
      exact List.mem_flatMap.2 ⟨p, List.mem_cons_self, List.mem_flatMap.2 ⟨p, List.mem_cons_self, List.mem_cons_self⟩⟩
    · unfold ln1; simp only; omega
  obtain ⟨⟨w, h1⟩, h2⟩ := lowest_spec _ h0
  unfold overQ
  refine ⟨?_, fun dx dy w' e h3 => ?_⟩
  · obtain ⟨dx, dy, h3⟩ := (shifts_iff (p :: t) w (lowestQ (linesZ (p :: t)) / 2)).2 fun a ha => by
      have := h1 a ha
      grind
    exact ⟨dx, dy, w, h3⟩
  · have h4 := h2 w' (2 * e) ((shifts_iff (p :: t) w' e).1 ⟨dx, dy, h3⟩)
    grind
theorem FzH.tol {t : Tg} {c : Cc} {k : Int} {dx dy w e : Rat} : FzH ({t with tol := t.tol + k}, c) dx dy w e ↔ FzH (t, c) dx dy w (e + k) := by
  have e1 : wide {t with tol := t.tol + k} c = wide t c + k := by unfold wide extr; simp only; omega
  unfold FzH
  rw [e1, Rat.intCast_add]
  constructor
  · rintro ⟨a, b, c, d⟩; refine ⟨?_, ?_, ?_, ?_⟩ <;> grind
  · rintro ⟨a, b, c, d⟩; refine ⟨?_, ?_, ?_, ?_⟩ <;> grind
theorem exc_fewer {pl pl' : Pl} {x y : Rat} (h : Exc pl x) (h' : Exc pl' y) (hs : ∀ p ∈ pl', p ∈ pl) : y ≤ x := by
  obtain ⟨⟨dx, dy, w, h1⟩, _⟩ := h
  exact h'.2 dx dy w x fun p hp => h1 p (hs p hp)
def HalfI (z : Nat) (x : Rat) : Prop := ∃ k : Int, 2 * x = k ∧ k.natAbs ≤ z
def RightP (n : Nat) (l : List BQ) : Prop := ∀ b ∈ l, b.1.length = n ∧ (∀ x ∈ b.1, HalfI 200000 x) ∧ HalfI 600000 b.2
theorem HalfI.bq {z : Nat} {x : Rat} (h : HalfI z x) (hz : z < 10 ^ 8) : Bq 8 x := by
  obtain ⟨k, h1, h2⟩ := h
  have e : x = (k : Rat) / ((2 : Int) : Rat) := by
    rw [show ((2 : Int) : Rat) = 2 from rfl]; grind
  have h3 := frac_parts (y := x) (P := (k : Rat)) (Q := 2) (a := 10 ^ 8) (d := 3) ⟨k, rfl⟩ ⟨2, rfl⟩ (by decide +kernel) (by grind) (by
    rw [ab_int]; exact Rat.natCast_lt_natCast.2 (by omega)) (by decide +kernel)
  exact ⟨h3.1, Nat.lt_trans h3.2 (by decide)⟩
theorem RightP.right {n : Nat} {l : List BQ} (h : RightP n l) : RightB n l := fun b hb => ⟨(h b hb).1, fun x hx => ((h b hb).2.1 x hx).bq (by decide), (h b hb).2.2.bq (by decide)⟩
theorem HalfI.int {z : Nat} {k : Int} (h : 2 * k.natAbs ≤ z) : HalfI z (k : Rat) := ⟨2 * k, by rw [Rat.intCast_mul]; rfl, by omega⟩
theorem HalfI.zero (z : Nat) : HalfI z 0 := ⟨0, by decide +kernel, by omega⟩
theorem half_half {z : Nat} {k : Int} (h : k.natAbs ≤ z) : HalfI z ((k : Rat) / 2) := ⟨k, by grind, h⟩
def Unit1 (x : Rat) : Prop := x = 0 ∨ x = 1 ∨ x = -1
theorem nth_half {l : List Rat} {z : Nat} (h : ∀ x ∈ l, HalfI z x) (k : Nat) : HalfI z (nth l k) := by
  unfold nth
  by_cases hk : k < l.length
  · rw [show l.getD k 0 = l[k] by simp [hk]]; exact h _ (List.getElem_mem hk)
  · rw [show l.getD k 0 = 0 by simp [Nat.not_lt.1 hk]]; exact HalfI.zero _
theorem nth_unit1 {l : List Rat} (h : ∀ x ∈ l, Unit1 x) (k : Nat) : Unit1 (nth l k) := by
  unfold nth
  by_cases hk : k < l.length
  · rw [show l.getD k 0 = l[k] by simp [hk]]; exact h _ (List.getElem_mem hk)
  · rw [show l.getD k 0 = 0 by simp [Nat.not_lt.1 hk]]; exact Or.inl rfl
theorem HalfI.neg {z : Nat} {x : Rat} (h : HalfI z x) : HalfI z (-x) := by
  obtain ⟨k, h1, h2⟩ := h
  exact ⟨-k, by rw [Rat.intCast_neg, ← h1]; grind, by omega⟩
theorem HalfI.ab {z : Nat} {x : Rat} (h : HalfI z x) : IsI (2 * x) ∧ ab (2 * x) ≤ ((z : Nat) : Rat) := by
  obtain ⟨k, h1, h2⟩ := h
  refine ⟨⟨k, h1⟩, ?_⟩
  rw [h1, ab_int]
  exact Rat.natCast_le_natCast.2 h2
theorem Unit1.ab {x : Rat} (h : Unit1 x) : IsI (2 * x) ∧ ab (2 * x) ≤ ((2 : Nat) : Rat) := by
  rcases h with rfl | rfl | rfl
  · exact ⟨⟨0, by decide +kernel⟩, by decide +kernel⟩
  · exact ⟨⟨2, by decide +kernel⟩, by decide +kernel⟩
  · exact ⟨⟨-2, by decide +kernel⟩, by decide +kernel⟩
theorem Unit1.neg {x : Rat} (h : Unit1 x) : Unit1 (-x) := by
  rcases h with rfl | rfl | rfl
  · exact Or.inl (by grind)
  · exact Or.inr (Or.inr rfl)
  · exact Or.inr (Or.inl (by grind))
theorem szd_plate {n : Nat} {l : List BQ} {goal : List Rat} (hr : RightP n l) (hg : ∀ x ∈ goal, Unit1 x) (hm : l.length ≤ 20) : Szd n l.length (laidA n l) (goalF n goal) ((12000000 : Nat) : Rat) := by
  have hart : goalF n goal (2 * n + l.length) = 0 := by unfold goalF; rw [if_neg (by omega), if_neg (by omega)]
  refine ⟨fun j _ => by unfold goalF; rw [if_neg (by omega), if_neg (by omega)], by rw [hart]; exact ⟨0, rfl⟩, by rw [hart]; decide +kernel, ?_⟩
  have keyR : ∀ k, (k < 2 * n ∨ k = 2 * n + l.length + 1) → ∀ r, r < l.length → HalfI (if k < 2 * n then 200000 else 600000) (laidA n l r k) := fun k hk r hr2 => by
    have hb := hr _ (getD_mem hr2)
    unfold laidA wdt
    rw [if_pos hr2]
    by_cases h1 : k < n
    · rw [if_pos h1, if_pos (by omega)]; exact nth_half hb.2.1 _
    · rw [if_neg h1]
      by_cases h2 : k < 2 * n
      · rw [if_pos h2, if_pos h2]; exact (nth_half hb.2.1 _).neg
      · rw [if_neg h2, if_neg h2, if_neg (by omega), if_neg (by omega), if_pos (by omega)]; exact hb.2.2
  have keyG : ∀ k, (k < 2 * n ∨ k = 2 * n + l.length + 1) → Unit1 (goalF n goal k) ∧ (¬ k < 2 * n → goalF n goal k = 0) := fun k hk => by
    unfold goalF
    by_cases h1 : k < n
    · rw [if_pos h1]; exact ⟨nth_unit1 hg _, fun h => by omega⟩
    · rw [if_neg h1]
      by_cases h2 : k < 2 * n
      · rw [if_pos h2]; exact ⟨(nth_unit1 hg _).neg, fun h => by omega⟩
      · rw [if_neg h2]; exact ⟨Or.inl rfl, fun _ => rfl⟩
  refine ⟨fun _ => 2, fun k hk => ⟨⟨2, rfl⟩, (by decide +kernel : (1 : Rat) ≤ 2), (by decide +kernel : (2 : Rat) ≤ ((12000000 : Nat) : Rat)), fun r hr2 => ?_, ?_⟩⟩
  · cases r with
    | zero => exact (keyG k hk).1.ab.1
    | succ r => exact (keyR k hk r (by omega)).ab.1
  · rw [sm_head]
    have h1 : sm l.length (fun r => ab (2 * xt (laidA n l) (goalF n goal) k (r + 1))) ≤ sm l.length (fun _ => (((if k < 2 * n then 200000 else 600000) : Nat) : Rat)) := sm_le fun r hr2 => (keyR k hk r hr2).ab.2
    rw [sm_const, ← Rat.natCast_mul] at h1
    have h2 : ab (2 * xt (laidA n l) (goalF n goal) k 0) ≤ (((if k < 2 * n then 2 else 0) : Nat) : Rat) := by
      show ab (2 * goalF n goal k) ≤ _
      by_cases h3 : k < 2 * n
      · rw [if_pos h3]; exact (keyG k hk).1.ab.2
      · rw [if_neg h3, (keyG k hk).2 h3]; decide +kernel
    have h4 : ((if k < 2 * n then 2 else 0) + l.length * (if k < 2 * n then 200000 else 600000) : Nat) ≤ 12000000 := by split <;> omega
    have h5 := Rat.natCast_le_natCast.2 h4
    rw [Rat.natCast_add] at h5
    grind
theorem fitsP3 : ∀ m, m < 21 → 12000000 ^ 3 * (m + 1) * 12000000 < 10 ^ 30 := by decide +kernel
theorem fitsP4 : ∀ m, m < 21 → 12000000 ^ 4 * (m + 1) * 12000000 < 10 ^ 37 := by decide +kernel
theorem most_plate {l : List BQ} {goal : List Rat} (hr : RightP 4 l) (hg : ∀ x ∈ goal, Unit1 x) (hm : l.length ≤ 20) :
    ∃ f r, mostT 37 f 4 l goal = some r ∧ Found 37 4 l goal r :=
  most_end (szd_plate hr hg hm) (fits_of (by omega) (Or.inl (fitsP4 _ (by omega)))) (fun x hx => by
    rcases hg x hx with rfl | rfl | rfl
    · exact Bq_nil.mono (by decide)
    · exact ⟨by decide +kernel, by decide +kernel⟩
    · exact ⟨by decide +kernel, by decide +kernel⟩) (by decide)
theorem feas_plate {l : List BQ} (hr : RightP 3 l) (hm : l.length ≤ 20) :
    ∃ f r, feasT 30 f 3 l = some r ∧ match r with
      | .inl p => Keeps 3 l p ∧ ∀ x ∈ p, Bq 30 x
      | .inr w => Contra 3 l w ∧ ∀ x ∈ w, Bq 30 x :=
  feas_end (szd_plate (goal := []) hr (fun x hx => by cases hx) hm) (fits_of (by omega) (Or.inl (fitsP3 _ (by omega)))) (by decide)
theorem half_int {z : Nat} {k : Int} (h : 2 * k.natAbs ≤ z) : HalfI z (k : Rat) := HalfI.int h
theorem bnd_right {p : Tg × Cc} (h : RtH p) : ∀ b ∈ bnd4 p.1 p.2, b.1.length = 3 ∧ (∀ x ∈ b.1, HalfI 200000 x) ∧ HalfI 600000 b.2 := by
  have hw := h.wide
  have a1 := h.1.x
  have a2 := h.1.y
  have a3 := h.2.1.x
  have a4 := h.2.1.y
  have o1 : HalfI 200000 1 := half_int (k := 1) (by decide)
  have o2 : HalfI 200000 (-1) := half_int (k := -1) (by decide)
  have o3 : HalfI 200000 0 := HalfI.zero _
  unfold bnd4
  simp only [List.mem_cons, List.not_mem_nil, or_false, forall_eq_or_imp, forall_eq]
  exact ⟨⟨rfl, ⟨o1, o3, half_int (by omega)⟩, half_half (by omega)⟩, ⟨rfl, ⟨o2, o3, half_int (by omega)⟩, half_half (by omega)⟩, ⟨rfl, ⟨o3, o1, half_int (by omega)⟩, half_half (by omega)⟩, ⟨rfl, ⟨o3, o2, half_int (by omega)⟩, half_half (by omega)⟩⟩
theorem bnds_rightP {pl : Pl} (h : ∀ p ∈ pl, RtH p) : RightP 3 (bnds pl) := fun b hb => by
  obtain ⟨p, hp, hb2⟩ := List.mem_flatMap.1 hb
  exact bnd_right (h p hp) b hb2
theorem bndsE_rightP {pl : Pl} (h : ∀ p ∈ pl, RtH p) : RightP 4 (bndsE pl) := fun b hb => by
  obtain ⟨b', hb', rfl⟩ := List.mem_map.1 hb
  obtain ⟨h1, h2, h3⟩ := bnds_rightP h b' hb'
  refine ⟨by rw [List.length_append, h1]; rfl, fun x hx => ?_, h3⟩
  rcases List.mem_append.1 hx with hx | hx
  · exact h2 x hx
  · rw [List.mem_singleton.1 hx]; exact ⟨-1, by decide +kernel, by decide⟩
end Sx
end Go.Proofs.YtnaikafamjebdaaGreatDoor
end
section
namespace Go.Proofs.YtnaikafamjebdaaGreatDoor
open Go Go.RowKit Go.Deep
abbrev arV (p : List (List UInt8)) : Value := .agg #[.string (bs (p.getD 0 [])), .string (bs (p.getD 1 [])), .string (bs (p.getD 2 []))]
theorem ar_store {w0 w : World} {A : Nat} {x0 y0 z0 : Value} (x y z : Value) (hr : Row w A 27 [x0, y0, z0]) (hA : w0.heap.size ≤ A) (hb : Below w0.heap.size w0 w) :
    Row (((w.setCell ⟨A, 0, none⟩ x).setCell ⟨A, 1, none⟩ y).setCell ⟨A, 2, none⟩ z) A 27 [x, y, z] ∧ Below w0.heap.size w0 (((w.setCell ⟨A, 0, none⟩ x).setCell ⟨A, 1, none⟩ y).setCell ⟨A, 2, none⟩ z) :=
  ⟨((hr.set 0 x).set 1 y).set 2 z, ((hb.setCell (p := ⟨A, 0, none⟩) hA x).setCell (p := ⟨A, 1, none⟩) hA y).setCell (p := ⟨A, 2, none⟩) hA z⟩
def FitP (w : World) : List Rat ⊕ List Rat → Ending → World → Prop
  | .inl p, e, w' => e = .returned (.tuple #[.bool true, arV (M.rx p), .slice none 0 0, .int .i64 0]) ∧ Below w.heap.size w w'
  | .inr q, e, w' => ∃ v, e = .returned (.tuple #[.bool false, arV [], v, .int .i64 0]) ∧ RdT w' v (M.rx q) ∧ Shp v ∧ Below w.heap.size w w'
namespace M
theorem bnds_few {ts : List Tg} {cs : List Cc} (hok : chk46 ts cs = 0) (h5 : ts.length ≤ 5) : Sx.RightP 3 (bnds (ts.zip cs)) ∧ (bnds (ts.zip cs)).length ≤ 20 ∧ 1 ≤ (bnds (ts.zip cs)).length := by
  obtain ⟨h1, h2, h3, h4⟩ := chk46_iff.1 hok
  refine ⟨Sx.bnds_rightP h4, ?_, ?_⟩ <;> rw [bnds_len, List.length_zip] <;> omega
end M
namespace W
open M
attribute [local go_sem] bs_size bs_toList bs_get bs_extract bs_append bs_lit0 bs_lit1 lit1_bs
set_option maxHeartbeats 2000000
set_option maxRecDepth 20000
theorem pfits_ok (ts : List Tg) (cs : List Cc) (h : chk46 ts cs = 0) (h5 : ts.length ≤ 5) : ∃ r : List Rat ⊕ List Rat, (match r with
      | .inl p => Sx.Keeps 3 (bnds (ts.zip cs)) p ∧ ∀ x ∈ p, Bq 30 x
      | .inr w => Sx.Contra 3 (bnds (ts.zip cs)) w ∧ ∀ x ∈ w, Bq 30 x) ∧
    ∀ (vt vc : Value) (w : World), Glob w → Sig w → RdG w vt ts → RdC w vc cs → Calls Tryz.prog 8 #[vt, vc] w (FitP w r) := by
  obtain ⟨hp, hl20, hl1⟩ := bnds_few h h5
  obtain ⟨f, r, hf, hr⟩ := Sx.feas_plate hp hl20
  refine ⟨r, hr, fun vt vc w hg hs ht hc => ?_⟩
  have hlen := (chk46_iff.1 h).2.2.1
  have nt : ts.length ≤ maxLen := by unfold maxLen; omega
  have nc : cs.length ≤ maxLen := by unfold maxLen; omega
  have HFE := Lib.hid (fun v W (hW : Below w.heap.size w W) (hv : RdB W v (bx (bnds (ts.zip cs)))) => pfeas 30 f 3 (by decide) (by decide) _ r hf v W (hg.of hW) hv (by decide) (by decide) hp.right hl1 (by omega))
  have HA := Lib.hid (fun va W (hW : Below w.heap.size w W) hv => pall va vt vc ts cs W (hg.of hW) hv (ht.below hW) (hc.below hW) h)
  have hb0 := bel_al w (.cells #[.string ⟨#[]⟩, .string ⟨#[]⟩, .string ⟨#[]⟩] 27 (0, 0))
  have hr0 : Row (w.alloc (.cells #[.string ⟨#[]⟩, .string ⟨#[]⟩, .string ⟨#[]⟩] 27 (0, 0))) w.heap.size 27 [.string ⟨#[]⟩, .string ⟨#[]⟩, .string ⟨#[]⟩] := rnw
  have HR0 := Lib.hid (And.intro hr0 hb0)
  obtain ⟨At, ct, rfl⟩ := ht.len
  obtain ⟨Ac, cc, rfl⟩ := hc.len
  have HP := Lib.hid (pplate_ok _ _ ts cs _ (hs.below hb0) (ht.below hb0) (hc.below hb0) nt nc h)
  have HRR := Lib.hid hr
  have HLN := Lib.hid hlen
  clear h hs ht hc nt nc hg hr0 hb0 hp hl20 hl1 hf hr hlen
  go_enter Tryz.func8, Tryz.ntmps8
  go_wp2_with fail
  refine HP.out.mono ?_
  rintro e w1 ⟨va, rfl, hv, hb1⟩
  have hb2 := bel_to hb1 (bel_al w1 (.cells #[va, .slice At ts.length ct, .slice Ac cs.length cc] 72 (0, 0)))
  have HA1 := Lib.hid (HA.out va _ (bel_to HR0.out.2 hb2) (hv.below (bel_al _ _)))
  have HR1 := Lib.hid (And.intro (HR0.out.1.below' hb2) (bel_to HR0.out.2 hb2))
  obtain ⟨Av, cv, rfl⟩ := hv.len
  clear hv hb1 hb2 HP HA HR0
  go_wp2_with fail
  refine HA1.out.mono ?_
  rintro e w2 ⟨v, es, rfl, ho, hgd, he, hb2⟩
  have HR2 := Lib.hid (And.intro (HR1.out.1.below' hb2) (bel_to HR1.out.2 hb2))
  have HFE2 := Lib.hid (HFE.out v w2 HR2.out.2 (by rw [← he]; exact OwnE.rd ho hgd.good))
  obtain ⟨Ao, no, co, rfl⟩ := OwnE.shape ho
  clear ho hgd he hb2 HA1 HR1 HFE
  cases r with
  | inl p =>
    obtain ⟨dx, dy, tw, rfl⟩ := Sx.len3 HRR.out.1.1
    go_wp2_with fail
    refine HFE2.out.mono ?_
    rintro e w3 ⟨v1, rfl, ho3, hb3⟩
    obtain ⟨g, cap, rfl, hBg, hgl, hts⟩ := OwnS.form ho3 (by simp [rx])
    have hrw := HR2.out.1.below' hb3
    have hbw := bel_to HR2.out.2 hb3
    have s0 : w3.cell? ⟨g, 0, none⟩ = some (.string (bs (R dx))) := hts 0 (by simp [rx])
    have s1 : w3.cell? ⟨g, 1, none⟩ = some (.string (bs (R dy))) := hts 1 (by simp [rx])
    have s2 : w3.cell? ⟨g, 2, none⟩ = some (.string (bs (R tw))) := hts 2 (by simp [rx])
    have hsp : ∀ W : World, (Instr.arrayAt 27 (.slice (some ⟨g, 0, none⟩) 3 cap)).run Tryz.prog W = .ok (.pointer (some ⟨g, 0, none⟩)) W := fun W => by
      unfold Instr.arrayAt
      simp [go_sem]
    rw [show (rx [dx, dy, tw]).length = 3 from rfl]
    have f0 := hrw.free 0
    have f1 := (hrw.set 0 (.string (bs (R dx)))).free 1
    have f2 := ((hrw.set 0 (.string (bs (R dx)))).set 1 (.string (bs (R dy)))).free 2
    have c0 := hrw.cell (i := 0) rfl
    have c1 := (hrw.set 0 (.string (bs (R dx)))).cell (i := 1) rfl
    have c2 := ((hrw.set 0 (.string (bs (R dx)))).set 1 (.string (bs (R dy)))).cell (i := 2) rfl
    have HQ := Lib.hid (ar_store (.string (bs (R dx))) (.string (bs (R dy))) (.string (bs (R tw))) hrw (Nat.le_refl _) hbw)
    clear hb3 hrw hbw HR2 HFE2 ho3 hts HRR
    go_wp2
    go_region
    all_goals
      go_wp2
      have q0 := HQ.out.1.cell (i := 0) rfl
      have q1 := HQ.out.1.cell (i := 1) rfl
      have q2 := HQ.out.1.cell (i := 2) rfl
      refine bodyPost_ret (v := .tuple #[.bool true, .agg #[.string (bs (R dx)), .string (bs (R dy)), .string (bs (R tw))], .slice none 0 0, .int .i64 0]) (by simp [results, Tryz.results8, go_sem, q0, q1, q2]) rfl ⟨rfl, RowKit.Below.drew HQ.out.2⟩
  | inr q =>
    go_wp2_with fail
    refine HFE2.out.mono ?_
    rintro e w3 ⟨v2, rfl, ho3, hb3⟩
    have hrw := HR2.out.1.below' hb3
    have hbw := bel_to HR2.out.2 hb3
    have hsl : w.heap.size < w2.heap.size := HR2.out.1.lt
    have f0 := hrw.free 0
    have f1 := (hrw.set 0 (.string ⟨#[]⟩)).free 1
    have f2 := ((hrw.set 0 (.string ⟨#[]⟩)).set 1 (.string ⟨#[]⟩)).free 2
    have c0 := hrw.cell (i := 0) rfl
    have c1 := (hrw.set 0 (.string ⟨#[]⟩)).cell (i := 1) rfl
    have c2 := ((hrw.set 0 (.string ⟨#[]⟩)).set 1 (.string ⟨#[]⟩)).cell (i := 2) rfl
    have HQ := Lib.hid (ar_store (.string ⟨#[]⟩) (.string ⟨#[]⟩) (.string ⟨#[]⟩) hrw (Nat.le_refl _) hbw)
    have HV := Lib.hid (own_setS (j := 2) (u := .string ⟨#[]⟩) hsl (own_setS (j := 1) (u := .string ⟨#[]⟩) hsl (own_setS (j := 0) (u := .string ⟨#[]⟩) hsl ho3)))
    obtain ⟨Aq, nq, cq, rfl⟩ := OwnS.shape ho3
    clear hb3 hrw hbw HR2 HFE2 ho3 HRR hsl
    go_wp2
    have q0 := HQ.out.1.cell (i := 0) rfl
    have q1 := HQ.out.1.cell (i := 1) rfl
    have q2 := HQ.out.1.cell (i := 2) rfl
    refine bodyPost_ret (v := .tuple #[.bool false, .agg #[.string ⟨#[]⟩, .string ⟨#[]⟩, .string ⟨#[]⟩], .slice Aq nq cq, .int .i64 0]) (by simp [results, Tryz.results8, go_sem, q0, q1, q2]) rfl ⟨_, rfl, HV.out.rd, HV.out.shp, HQ.out.2⟩
end W
end Go.Proofs.YtnaikafamjebdaaGreatDoor
end
section
namespace Go.Proofs.YtnaikafamjebdaaGreatDoor
open Go Go.RowKit Go.Deep
theorem wpList_app_t {ops : Array Oper} {rest : List Oper} {o : Oper} {a : Act} {Q : Exit → Act → World → Prop} {w : World} {B : Nat} {v xv : Value} {l m : List (List UInt8)} (hgd : o.guard = none) (s x : Operand)
    (ho : o.op = .call { callee := .builtin .append, args := #[s, x], argTypes := #[28, 28] }) (hs : a.eval s = v) (hx : a.eval x = xv)
    (h : OwnS w B v l) (hsrc : SrcT w xv m) (hB : B ≤ w.heap.size) (hn : l.length + m.length ≤ 1000000000)
    (hK : ∀ v' w', OwnS w' B v' (l ++ m) → w.grownBy w' v.ownBlock → wpList Tryz.prog ops Q rest (a.put o.dst v') w') : wpList Tryz.prog ops Q (o :: rest) a w :=
  wpList_plain hgd fun _ hK2 => by
    have h0 := step_app_t (ops := #[]) (E := True) (K := _) (Q := Q) hgd s x ho hs hx h hsrc hB hn fun v' w' h2 h3 => hK2 _ _ (hK v' w' h2 h3)
    rwa [if_pos (by simp [Region.wanted, hgd])] at h0
theorem ApS.of {W E w' : World} {v : Value} {l : List (List UInt8)} (hE : Below W.heap.size W E) (ho : OwnS w' E.heap.size v l) (hb : Below E.heap.size E w') : ApS W w' v l :=
  ⟨ownsRow_base ho hE.size, bel_to hE hb⟩
structure ExS (w0 w : World) (vo : Value) (es : List (Value × M.BT)) : Prop where
  own : OwnE w w0.heap.size vo es
  good : GoodT w es
  bel : Below w0.heap.size w0 w
theorem ExS.to {w0 w w' : World} {vo : Value} {es : List (Value × M.BT)} (h : ExS w0 w vo es) (hb : Below w.heap.size w w') : ExS w0 w' vo es := ⟨h.own.below hb, h.good.below hb, bel_to h.bel hb⟩
theorem ExS.app {w0 w w' : World} {vo v' : Value} {es es2 : List (Value × M.BT)} (h : ExS w0 w vo es) (h2 : GoodT w es2) (ho : OwnE w' w0.heap.size v' (es ++ es2)) (hg : w.grownBy w' vo.ownBlock) : ExS w0 w' v' (es ++ es2) :=
  ⟨ho, (h.good.append h2).grown h.own hg, app_belE h.own h.bel (Nat.le_refl _) hg⟩
theorem ApS.good {W w : World} {v : Value} {l : List (List UInt8)} {q : List UInt8} (h : ApS W w v l) : GoodT w [(v, (l, q))] := fun x hx => by
  rw [List.mem_singleton.1 hx]; exact ⟨_, h.1⟩
namespace W
open M
attribute [local go_sem] bs_size bs_toList bs_get bs_extract bs_append bs_lit0 bs_lit1 lit1_bs
set_option maxHeartbeats 2000000
set_option maxRecDepth 20000
theorem pcloneS (vl : Value) (l : List (List UInt8)) (w : World) (hs : RdT w vl l) (hp : Shp vl) (hn : l.length ≤ 1000000) :
    Calls Tryz.prog 50 #[vl] w (fun e w' => ∃ v', e = .returned v' ∧ OwnS w' w.heap.size v' l ∧ Below w.heap.size w w') := by
  rcases SrcT.of hs hp with ⟨rfl, rfl⟩ | ⟨a, cap, rfl, hc⟩
  · have hq : ∀ w, (binOp .eql 28 (.slice none 0 0) (.slice none 0 0)).run Tryz.prog w = .ok (.bool true) w := fun w => rfl
    clear hs hp
    go_enter Tryz.func50, Tryz.ntmps50
    go_wp2
    go_ret
    exact ⟨_, rfl, World.ownsRow_nil _ _ _ _, Below.refl _ _⟩
  · have hq : ∀ w, (binOp .eql 28 (.slice (some a) l.length cap) (.slice none 0 0)).run Tryz.prog w = .ok (.bool false) w := fun w => rfl
    have hb0 : Below w.heap.size w (w.alloc (.cells #[] 26 (0, 0))) := bel_alloc (Below.refl _ _) _
    have HS := Lib.hid (And.intro (SrcT.of (hs.below hb0) hp) hb0)
    clear hs hp hc hb0
    go_enter Tryz.func50, Tryz.ntmps50
    go_wp2_with (at_builtin; refine wpList_app_t rfl (.tmp 5) (.tmp 6) rfl rfl rfl (OwnS.fresh w w.heap.size w.heap.size rfl (Nat.le_refl _)) HS.out.1 HS.out.2.size (by simp; omega) ?_; intro v2 w2 ho2 hk2)
    rw [List.nil_append] at ho2
    have HF := Lib.hid (And.intro ho2 (app_belS (OwnS.fresh w w.heap.size w.heap.size rfl (Nat.le_refl _)) HS.out.2 (Nat.le_refl _) hk2))
    clear ho2 hk2 HS
    go_wp2
    go_ret
    exact ⟨_, rfl, HF.out.1, HF.out.2⟩
end W
end Go.Proofs.YtnaikafamjebdaaGreatDoor
end
