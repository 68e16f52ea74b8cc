/-
  Chapter 3's reference: Normal, Union, Holds, Length.
  Chapter 3's reference: Length, Union.
-/
import Derived.Test.YtpjaoapnangccaaGreatDoorKS
import Derived.Test.YtpjaoapnangccaaGreatDoorKO
namespace Go.Proofs.YtpjaoapnangccaaGreatDoor
open Go Go.RowKit Go.Deep Go.Sort
namespace W
open M
attribute [local go_sem] bs_size bs_toList bs_get bs_extract bs_append bs_lit0 bs_lit1 lit1_bs
set_option maxHeartbeats 1000000
set_option maxRecDepth 20000
theorem SpB.up {j k : Nat} {a : SQ} (h : SpB j a) (hk : j ≤ k) : SpB k a := ⟨h.1, h.2.1.mono hk, h.2.2.mono hk⟩
/-- What Tidy's list is when it is handed on. -/
theorem tid_lst {l : List SQ} {w : World} {e : Ending} {w' : World} (h : TidP l w e w') : ∃ A cap, e = .returned (.slice A l.length cap) ∧ RdP w' (.slice A l.length cap) (sx l) ∧ Below w.heap.size w w' := by
  obtain ⟨v, rfl, ho, hb⟩ := h
  obtain ⟨A, cap, rfl⟩ := ho.rd.len
  have hr := ho.rd
  rw [sx_len] at hr ⊢
  exact ⟨A, cap, rfl, hr, hb⟩
theorem LstP.of {l : List SQ} {w w' : World} {A : Option Addr} {cap : Nat} (hr : RdP w' (.slice A l.length cap) (sx l)) (hb : Below w.heap.size w w') : LstP (sx l) w (.returned (.tuple #[.slice A l.length cap, .int .i64 0])) w' :=
  ⟨A, cap, by rw [sx_len], by rw [sx_len]; exact hr, hb⟩
theorem rnormal_bad (la : List PT) (va : Value) (w : World) (ha : RdP w va la) (fa : FewS la) (na : la.length ≤ maxLen) (hc : setC la ≠ 0) :
    Calls Tryz.prog 38 #[va] w (Ret w (.tuple #[.slice none 0 0, .int .i64 ((setC la : Nat) : Int)])) := by
  have HS := Lib.hid (rset va la w ha fa na)
  have hz : (((setC la : Nat) : Int) != 0) = true := by simp; exact hc
  clear ha hc
  generalize ((setC la : Nat) : Int) = c at *
  go_enter Tryz.func38, Tryz.ntmps38
  go_wp2_with fail
  refine (HS.out).mono ?_
  rintro e w1 ⟨rfl, hb1⟩
  go_wp2
  go_ret2
  exact Ret.of rfl hb1
theorem rnormal_ok (l : List SQ) (va : Value) (w : World) (ha : RdP w va (sx l)) (nl : l.length ≤ 60) (hl : ∀ s ∈ l, SpB 30 s) :
    Calls Tryz.prog 38 #[va] w (LstP (sx (tidy l)) w) := by
  have hs := rset va (sx l) w ha (fewS_sx nl hl) (by rw [sx_len]; unfold maxLen; omega)
  rw [setC_yes nl hl] at hs
  have HS := Lib.hid hs
  have HT := Lib.hid (fun W (hW : Below w.heap.size w W) => rtidy va l W (ha.below hW) (by omega) fun s h => SpB.up (hl s h) (by decide))
  have ht := (tidy_sp hl).2
  clear ha hl hs
  generalize tidy l = t at *
  go_enter Tryz.func38, Tryz.ntmps38
  go_wp2_with fail
  refine (HS.out).mono ?_
  rintro e w1 ⟨rfl, hb1⟩
  go_wp2_with fail
  refine (HT.out w1 hb1).mono ?_
  intro e w2 htd
  obtain ⟨A, cap, rfl, hr, hb2⟩ := tid_lst htd
  have HR := Lib.hid hr
  have HB := Lib.hid (Below.then hb1 hb2)
  have HL := Lib.hid (rlimited A t.length cap w2 (by omega))
  clear hr hb1 hb2 htd
  go_wp2_with fail
  refine (HL.out).mono ?_
  rintro e w3 ⟨rfl, rfl⟩
  go_wp2
  go_ret2
  exact LstP.of HR.out HB.out
theorem runion_bad (la lb : List PT) (va vb : Value) (w : World) (ha : RdP w va la) (hb : RdP w vb lb) (fa : FewS la) (fb : FewS lb) (na : la.length ≤ maxLen) (nb : lb.length ≤ maxLen) (hc : setsC la lb ≠ 0) :
    Calls Tryz.prog 20 #[va, vb] w (Ret w (.tuple #[.slice none 0 0, .int .i64 ((setsC la lb : Nat) : Int)])) := by
  have HS := Lib.hid (rsets va vb la lb w ha hb fa fb na nb)
  have hz : (((setsC la lb : Nat) : Int) != 0) = true := by simp; exact hc
  clear ha hb hc
  generalize ((setsC la lb : Nat) : Int) = c at *
  go_enter Tryz.func20, Tryz.ntmps20
  go_wp2_with fail
  refine (HS.out).mono ?_
  rintro e w1 ⟨rfl, hb1⟩
  go_wp2
  go_ret2
  exact Ret.of rfl hb1
theorem rholds_bad1 (la : List PT) (va : Value) (px : List UInt8) (w : World) (ha : RdP w va la) (fa : FewS la) (na : la.length ≤ maxLen) (hc : setC la ≠ 0) :
    Calls Tryz.prog 40 #[va, .string (bs px)] w (Ret w (.tuple #[.bool false, .int .i64 ((setC la : Nat) : Int)])) := by
  have HS := Lib.hid (rset va la w ha fa na)
  have hz : (((setC la : Nat) : Int) != 0) = true := by simp; exact hc
  clear ha hc
  generalize ((setC la : Nat) : Int) = c at *
  go_enter Tryz.func40, Tryz.ntmps40
  go_wp2_with fail
  refine (HS.out).mono ?_
  rintro e w1 ⟨rfl, hb1⟩
  go_wp2
  go_ret2
  exact Ret.of rfl hb1
theorem rholds_bad2 (la : List PT) (va : Value) (px : List UInt8) (w : World) (ha : RdP w va la) (fa : FewS la) (na : la.length ≤ maxLen) (h0 : setC la = 0) (hx : px.length ≤ 2100) (hc : chkR px ≠ 0) :
    Calls Tryz.prog 40 #[va, .string (bs px)] w (Ret w (.tuple #[.bool false, .int .i64 ((chkR px : Nat) : Int)])) := by
  have hs := rset va la w ha fa na
  rw [h0] at hs
  have HS := Lib.hid hs
  have HC := Lib.hid (fun W => check2_any px W (by omega))
  have hz : (((chkR px : Nat) : Int) != 0) = true := by simp; exact hc
  clear ha hc hs h0
  generalize ((chkR px : Nat) : Int) = c at *
  go_enter Tryz.func40, Tryz.ntmps40
  go_wp2_with fail
  refine (HS.out).mono ?_
  rintro e w1 ⟨rfl, hb1⟩
  go_wp2_with fail
  refine (HC.out _).mono ?_
  rintro e w2 ⟨rfl, hb2⟩
  go_wp2
  go_ret2
  exact Ret.of rfl (Below.then hb1 hb2)
theorem rholds_ok (l : List SQ) (va : Value) (x : Rat) (w : World) (ha : RdP w va (sx l)) (nl : l.length ≤ 60) (hl : ∀ s ∈ l, SpB 30 s) (hx : Bq 30 x) :
    Calls Tryz.prog 40 #[va, .string (bs (R x))] w (Ret w (.tuple #[.bool (hasB l x), .int .i64 0])) := by
  have hs := rset va (sx l) w ha (fewS_sx nl hl) (by rw [sx_len]; unfold maxLen; omega)
  rw [setC_yes nl hl] at hs
  have HS := Lib.hid hs
  have hc := fun W => check2_any (R x) W (by have := hx.R_len (by decide); omega)
  rw [show chkR (R x) = 0 from hx.chk (by decide)] at hc
  have HC := Lib.hid hc
  have HH := Lib.hid (fun W (hW : Below w.heap.size w W) => rhas va l x W (ha.below hW) (by omega) (fun s h => ⟨(hl s h).2.1.mono (by decide), (hl s h).2.2.mono (by decide)⟩) (hx.mono (by decide)))
  clear ha hl hs hx hc
  generalize hasB l x = b at *
  generalize R x = px at *
  go_enter Tryz.func40, Tryz.ntmps40
  go_wp2_with fail
  refine (HS.out).mono ?_
  rintro e w1 ⟨rfl, hb1⟩
  go_wp2_with fail
  refine (HC.out _).mono ?_
  rintro e w2 ⟨rfl, hb2⟩
  have hb2' := Below.then hb1 hb2
  go_wp2_with fail
  refine (HH.out _ hb2').mono ?_
  rintro e w3 ⟨rfl, hb3⟩
  go_wp2
  go_ret2
  exact Ret.of rfl (Below.then hb2' hb3)
end W
end Go.Proofs.YtpjaoapnangccaaGreatDoor
namespace Go.Proofs.YtpjaoapnangccaaGreatDoor
open Go Go.RowKit Go.Deep Go.Sort
/-- Whatever slice may be appended. -/
def SrcA (w : World) (x : Value) (m : List M.PT) : Prop :=
  (x = .slice none 0 0 ∧ m = []) ∨ ∃ a cap, x = .slice (some a) m.length cap ∧ ∀ j u, (pcs m)[j]? = some u → w.cell? (a.add j) = some u
/-- A slice as the language has it: nil, or with a block. -/
def Shp (v : Value) : Prop := v = .slice none 0 0 ∨ ∃ a n c, v = .slice (some a) n c
theorem SrcA.of {w : World} {v : Value} {l : List M.PT} (h : RdP w v l) (hs : Shp v) : SrcA w v l := by
  obtain ⟨A, cap, rfl, h2⟩ := h
  rcases hs with e | ⟨a, n, c, e⟩
  · injection e with e1 e2 e3
    subst e1 e3
    exact Or.inl ⟨by rw [e2], List.length_eq_zero_iff.1 e2⟩
  · injection e with e1 e2 e3
    subst e1
    refine Or.inr ⟨a, cap, rfl, ?_⟩
    rcases h2 with rfl | ⟨b, o, e4, h5⟩
    · intro j u hj; simp [pcs] at hj
    · injection e4 with e4
      subst e4
      intro j u hj
      have hadd : (⟨b, o, none⟩ : Addr).add j = ⟨b, o + j, none⟩ := by unfold Addr.add; split <;> simp_all
      rw [hadd]
      exact pcs_cells h5 j u hj
theorem wpList_app_a {ops : Array Oper} {rest : List Oper} {o : Oper} {a : Act} {Q : Exit → Act → World → Prop} {w : World} {B : Nat} {v xv : Value} {l m : List M.PT} (hgd : o.guard = none) (s x : Operand)
    (ho : o.op = .call { callee := .builtin .append, args := #[s, x], argTypes := #[36, 36] }) (hs : a.eval s = v) (hx : a.eval x = xv)
    (h : OwnP w B v l) (hsrc : SrcA w xv m) (hB : B ≤ w.heap.size) (hn : l.length + m.length ≤ 1000000000)
    (hK : ∀ v' w', OwnP w' B v' (l ++ m) → w.grownBy w' v.ownBlock → wpList Tryz.prog ops Q rest (a.put o.dst v') w') : wpList Tryz.prog ops Q (o :: rest) a w := by
  refine wpList_plain hgd fun _ hK2 => ?_
  have hr : ∃ v' w', (Builtin.append_ #[36, 36] o.type #[v, xv]).run Tryz.prog w = .ok v' w' ∧ OwnP w' B v' (l ++ m) ∧ w.grownBy w' v.ownBlock := by
    obtain ⟨i, h1, h2, h3, h4⟩ := info_parts infoPt
    rcases hsrc with ⟨rfl, rfl⟩ | ⟨ad, cap, rfl, hc⟩
    · refine ⟨v, w, run_append_owned_none (P := Tryz.prog) (w := w) B _ o.type _ i 2 Tryz.underlying36 h1 v l.length (pcs l) h, ?_, grown_refl _ _⟩
      rw [List.append_nil]; exact h
    · obtain ⟨v', w', k1, k2, k3, _⟩ := run_append_own (P := Tryz.prog) w B _ o.type _ i _ 2 32 Tryz.underlying36 h1 h2 h3 h4 rfl (by decide) v l.length (pcs l) h ad m.length cap (pcs m) (pcs_len m)
        hc (pcs_one m) (by unfold maxLen; omega) (by omega) hB
      refine ⟨v', w', k1, ?_, k3⟩
      unfold OwnP
      rw [pcs_append, List.length_append]
      exact k2
  obtain ⟨v', w', hr, h2, h3⟩ := hr
  unfold Oper.wp execOp
  simp only [ho, resolve, invoke, builtin, Sem.run_bind, Sem.run_pure, Result.andThen_ok, List.map_toArray, List.map_cons, List.map_nil, hs, hx, hr]
  exact hK2 _ _ (hK v' w' h2 h3)
namespace W
open M
attribute [local go_sem] bs_size bs_toList bs_get bs_extract bs_append bs_lit0 bs_lit1 lit1_bs
set_option maxHeartbeats 1000000
set_option maxRecDepth 20000
theorem rlength_bad (la : List PT) (va : Value) (w : World) (ha : RdP w va la) (fa : FewS la) (na : la.length ≤ maxLen) (hc : setC la ≠ 0) :
    Calls Tryz.prog 41 #[va] w (Ret w (.tuple #[.string (bs []), .int .i64 ((setC la : Nat) : Int)])) := by
  have HS := Lib.hid (rset va la w ha fa na)
  have hz : (((setC la : Nat) : Int) != 0) = true := by simp; exact hc
  clear ha hc
  generalize ((setC la : Nat) : Int) = c at *
  go_enter Tryz.func41, Tryz.ntmps41
  go_wp2_with fail
  refine (HS.out).mono ?_
  rintro e w1 ⟨rfl, hb1⟩
  go_wp2
  go_ret2
  exact Ret.of rfl hb1
theorem rlength_ok (l : List SQ) (va : Value) (w : World) (ha : RdP w va (sx l)) (nl : l.length ≤ 60) (hl : ∀ s ∈ l, SpB 30 s) (hs : ∀ k, Bq 900 (lenQ ((tidy l).take k))) :
    Calls Tryz.prog 41 #[va] w (Ret w (.tuple #[.string (bs (R (lenQ (tidy l)))), .int .i64 0])) := by
  have hst := rset va (sx l) w ha (fewS_sx nl hl) (by rw [sx_len]; unfold maxLen; omega)
  rw [setC_yes nl hl] at hst
  have HS := Lib.hid hst
  have HT := Lib.hid (fun W (hW : Below w.heap.size w W) => rtidy va l W (ha.below hW) (by omega) fun s h => SpB.up (hl s h) (by decide))
  have ht := tidy_sp hl
  have hls := ht.1
  have htl := ht.2
  clear ha hl hst ht
  generalize tidy l = t at *
  have HMI := Lib.hid (fun k (hk : k < t.length) W => minus_R t[k].2 t[k].1 W ((hls _ (List.getElem_mem hk)).2.2.sh (by decide) (by decide)) ((hls _ (List.getElem_mem hk)).2.1.sh (by decide) (by decide)))
  have HPL := Lib.hid (fun k (hk : k < t.length) W => plus_R (lenQ (t.take k)) (t[k].2 - t[k].1) W ((hs k).sh (by decide) (by decide)) (((hls _ (List.getElem_mem hk)).2.2.sub (hls _ (List.getElem_mem hk)).2.1).sh (by decide) (by decide)))
  clear hls hs
  go_enter Tryz.func41, Tryz.ntmps41
  go_wp2_with fail
  refine (HS.out).mono ?_
  rintro e w1 ⟨rfl, hb1⟩
  go_wp2_with fail
  refine (HT.out w1 hb1).mono ?_
  intro e w2 htd
  obtain ⟨A, cap, rfl, hr, hb2⟩ := tid_lst htd
  have HR := Lib.hid hr
  have HB := Lib.hid (Below.then hb1 hb2)
  clear hr hb1 hb2 htd HS HT
  go_wp2
  go_loopw [5, 7] (fun fv iv wr => ∃ k : Nat, iv = .int .i64 (k : Int) ∧ k ≤ t.length ∧ fv = .string (bs (R (lenQ (t.take k)))) ∧ Below w2.heap.size w2 wr) (fun _ iv _ => t.length - (intOf iv).toNat)
  case atStart => exact ⟨0, rfl, by omega, by rw [List.take_zero, show lenQ [] = 0 from rfl, R_zero]; rfl, Below.refl _ _⟩
  case round =>
    obtain ⟨k, rfl, hkn, rfl, hbr⟩ := hrel
    by_cases hlt : k < t.length
    · have hr2 := HR.out
      rw [← sx_len t] at hr2
      have hlt' : k < (sx t).length := by rw [sx_len]; exact hlt
      obtain ⟨b1, o1, rfl, hw⟩ := hr2.row k hlt'
      have hwr := hw.below' hbr
      have cv := hwr.val k hlt'
      have cw := hwr.wt k hlt'
      rw [sx_get t k hlt] at cv cw
      simp only at cv cw
      have k1 := reg_of (w := wr) (fun W _ => HMI.out k hlt W)
      have k2 := reg_of (w := wr) (fun W _ => HPL.out k hlt W)
      rw [← lenQ_take hlt] at k2
      have m0 := cell_regrown cv
      have m1 := cell_regrown cw
      have e1 : ∀ args w, (callFunc 80 args).run Tryz.prog w = .ok (.enter 80 args) w := enters_of Tryz.func80 (by kernel_rfl) rfl
      have e2 : ∀ args w, (callFunc 79 args).run Tryz.prog w = .ok (.enter 79 args) w := enters_of Tryz.func79 (by kernel_rfl) rfl
      have hk0 : (0 : Int) ≤ (k : Int) := by omega
      have hks : (k : Int) < (t.length : Int) := by omega
      clear hr2 hlt' hw hwr cv cw
      generalize R t[k].1 = p1 at *
      generalize R t[k].2 = p2 at *
      generalize R (t[k].2 - t[k].1) = pw at *
      generalize R (lenQ (t.take k)) = s1 at *
      generalize hs2 : R (lenQ (t.take (k + 1))) = s2 at *
      have HS2 := Lib.hid hs2
      clear hs2
      go_wp2_with fail
      refine wp_region_quiet_below (by kernel_rfl) (by kernel_rfl) ?_
      repeat (go_big_quiet_step (fail))
      go_big_quiet_step (exact k1 _ _)
      repeat (go_big_quiet_step (fail))
      go_big_quiet_step (exact k2 _ _)
      repeat (go_big_quiet_step (fail))
      refine wpQuiet_nil ?_
      intro W6 hw'
      have hb6 : Below wr.heap.size wr W6 := by obtain ⟨p, e⟩ := hw'; rw [e]; exact below_regrown wr p.d p.os
      have HB6 := Lib.hid (hbr.trans (hb6.mono hbr.size))
      clear k1 k2 m0 m1 e1 e2 hw' hb6
      go_wp2
      go_roundw
      case rel => exact ⟨k + 1, by go_num, hlt, by rw [HS2.out], HB6.out⟩
      case measure => simp [intOf]; omega
    · obtain rfl : k = t.length := by omega
      rw [List.take_length]
      have HB6 := Lib.hid (Below.then HB.out hbr)
      go_wp2
      go_ret2
      exact Ret.of rfl HB6.out
theorem runion_ok (a b : List SQ) (va vb : Value) (w : World) (ha : RdP w va (sx a)) (hb : RdP w vb (sx b)) (sa : Shp va) (sb : Shp vb) (na : a.length ≤ 60) (nb : b.length ≤ 60) (ra : ∀ s ∈ a, SpB 30 s) (rb : ∀ s ∈ b, SpB 30 s) :
    Calls Tryz.prog 20 #[va, vb] w (LstP (sx (tidy (a ++ b))) w) := by
  have hs := rsets va vb (sx a) (sx b) w ha hb (fewS_sx na ra) (fewS_sx nb rb) (by rw [sx_len]; unfold maxLen; omega) (by rw [sx_len]; unfold maxLen; omega)
  rw [setsC_yes na nb ra rb] at hs
  have HS := Lib.hid hs
  have rab : ∀ s ∈ a ++ b, SpB 30 s := fun s h => (List.mem_append.1 h).elim (ra s) (rb s)
  have HT := Lib.hid (fun v W (hv : RdP W v (sx (a ++ b))) => rtidy v (a ++ b) W hv (by rw [List.length_append]; omega) fun s h => SpB.up (rab s h) (by decide))
  have HSA := Lib.hid (fun E (hE : Below w.heap.size w E) => SrcA.of (ha.below hE) sa)
  have HSB := Lib.hid (fun E (hE : Below w.heap.size w E) => SrcA.of (hb.below hE) sb)
  have ht : (tidy (a ++ b)).length ≤ 256 := by have := (tidy_sp rab).2; rw [List.length_append] at this; omega
  obtain ⟨A0, c0, rfl⟩ := ha.len
  obtain ⟨B0, d0, rfl⟩ := hb.len
  have la : (sx a).length ≤ 60 := by rw [sx_len]; exact na
  have lb : (sx b).length ≤ 60 := by rw [sx_len]; exact nb
  have hsx := sx_append a b
  clear ha hb ra rb rab hs
  generalize tidy (a ++ b) = t at *
  generalize sx (a ++ b) = sab at *
  subst hsx
  go_enter Tryz.func20, Tryz.ntmps20
  go_wp2_with fail
  refine (HS.out).mono ?_
  rintro e w1 ⟨rfl, hb1⟩
  have HB1 := Lib.hid hb1
  have E1 := Lib.hid ((Below.refl w1.heap.size w1).alloc (Nat.le_refl _) (Obj.cells #[] 24 (0, 0)))
  have O1 := Lib.hid (OwnP.fresh w1 w1.heap.size w1.heap.size rfl (Nat.le_refl _))
  clear hb1
  go_wp2_with (first
    | (at_builtin; refine wpList_app_a rfl _ _ rfl rfl rfl HO1.out (HSB.out _ (Below.then HB1.out HB2.out)) HB2.out.size (by simp; omega) ?_; intro v2 w3 ho2 hg2)
    | (at_builtin; refine wpList_app_a rfl _ _ rfl rfl rfl O1.out (HSA.out _ (Below.then HB1.out E1.out)) E1.out.size (by simp; omega) ?_; intro v1 w2 ho1 hg1; have HB2 := Lib.hid (app_bel O1.out E1.out (Nat.le_refl _) hg1); have HO1 := Lib.hid ho1; clear hg1 ho1))
  have hbb := app_bel HO1.out HB2.out (Nat.le_refl _) hg2
  have HB3 := Lib.hid (Below.then HB1.out hbb)
  obtain ⟨A2, c2, rfl⟩ := ho2.rd.len
  have HT2 := Lib.hid (HT.out _ w3 ho2.rd)
  clear hg2 ho2 hbb HO1 O1 E1 HB2 HB1 HSA HSB HT
  go_wp2_with fail
  refine (HT2.out).mono ?_
  intro e w4 htd
  obtain ⟨A, cap, rfl, hr, hb2⟩ := tid_lst htd
  have HR := Lib.hid hr
  have HB := Lib.hid (Below.then HB3.out hb2)
  have HL := Lib.hid (rlimited A t.length cap w4 ht)
  clear hr hb2 htd
  go_wp2_with fail
  refine (HL.out).mono ?_
  rintro e w5 ⟨rfl, rfl⟩
  go_wp2
  go_ret2
  exact LstP.of HR.out HB.out
end W
end Go.Proofs.YtpjaoapnangccaaGreatDoor
