/-
  Chapter 3 of the program: Normal, Union, Intersection and Difference.
  Chapter 3 of the program: Holds and Length.
  Chapter 3 of the program: Length.
  Chapter 3's laws: the examples ('awake').
-/
import Derived.Test.YtpjaoapnangccaaGreatDoorKN
import Derived.Lib.QuietBelow
namespace Go.Proofs.YtpjaoapnangccaaGreatDoor
open Go Go.RowKit Go.Deep Go.Sort
namespace W
open M
attribute [local go_sem] bs_size bs_toList bs_get bs_extract bs_append bs_lit0 bs_lit1 lit1_bs
set_option maxHeartbeats 1000000
set_option maxRecDepth 20000
theorem ent_or : Enters Tryz.prog 58 := enters_of Tryz.func58 (by kernel_rfl) rfl
theorem ent_and : Enters Tryz.prog 62 := enters_of Tryz.func62 (by kernel_rfl) rfl
theorem ent_dif : Enters Tryz.prog 64 := enters_of Tryz.func64 (by kernel_rfl) rfl
theorem ent_fst : Enters Tryz.prog 66 := enters_of Tryz.func66 (by kernel_rfl) rfl
theorem keeps_or (p q : Bool) (w : World) : Calls Tryz.prog 58 #[.bool p, .bool q] w (fun e w' => e = .returned (.bool (rOr p q)) ∧ w' = w) := by
  cases p <;> cases q
  all_goals
    go_enter Tryz.func58, Tryz.ntmps58
    go_wp2
    go_ret
    exact ⟨rfl, rfl⟩
theorem keeps_and (p q : Bool) (w : World) : Calls Tryz.prog 62 #[.bool p, .bool q] w (fun e w' => e = .returned (.bool (rAnd p q)) ∧ w' = w) := by
  cases p <;> cases q
  all_goals
    go_enter Tryz.func62, Tryz.ntmps62
    go_wp2
    go_ret
    exact ⟨rfl, rfl⟩
theorem keeps_dif (p q : Bool) (w : World) : Calls Tryz.prog 64 #[.bool p, .bool q] w (fun e w' => e = .returned (.bool (rDif p q)) ∧ w' = w) := by
  cases p <;> cases q
  all_goals
    go_enter Tryz.func64, Tryz.ntmps64
    go_wp2
    go_ret
    exact ⟨rfl, rfl⟩
theorem keeps_fst (p q : Bool) (w : World) : Calls Tryz.prog 66 #[.bool p, .bool q] w (fun e w' => e = .returned (.bool (rFst p q)) ∧ w' = w) := by
  cases p <;> cases q
  all_goals
    go_enter Tryz.func66, Tryz.ntmps66
    go_wp2
    go_ret
    exact ⟨rfl, rfl⟩
theorem punion_ok (a b : List SQ) (va vb : Value) (w : World) (hg : Glob w) (ha : RdP w va (sx a)) (hb : RdP w vb (sx b)) (na : a.length ≤ 60) (nb : b.length ≤ 60) (ra : ∀ s ∈ a, SpB 30 s) (rb : ∀ s ∈ b, SpB 30 s) :
    Calls Tryz.prog 19 #[va, vb] w (CmbP (tidy (a ++ b)) w) := by
  have HC := combined_ok rOr 58 a b va vb w hg ha hb na nb ra rb ent_or keeps_or
  rw [comb_or (endsZ_ok _) (fun s hs => (List.mem_append.1 hs).elim (fun h => (ra s h).1) (fun h => (rb s h).1))] at HC
  have HC := Lib.hid HC
  clear ha hb ra rb
  go_enter Tryz.func19, Tryz.ntmps19
  go_wp2_with fail
  refine (HC.out).mono ?_
  rintro e w1 ⟨v, rfl, ho, hb1⟩
  go_wp2
  go_ret2
  exact ⟨v, rfl, ho, hb1⟩
theorem punion_bad (la lb : List PT) (va vb : Value) (w : World) (hg : Glob w) (ha : RdP w va la) (hb : RdP w vb lb) (fa : FewS la) (fb : FewS lb) (na : la.length ≤ maxLen) (nb : lb.length ≤ maxLen) (hc : setsC la lb ≠ 0) :
    Calls Tryz.prog 19 #[va, vb] w (Ret w (.tuple #[.slice none 0 0, .int .i64 ((setsC la lb : Nat) : Int)])) := by
  have HC := Lib.hid (combined_bad va vb (.func (.func 58) #[] #[]) la lb w hg ha hb fa fb na nb hc)
  clear ha hb hc
  generalize ((setsC la lb : Nat) : Int) = c at *
  go_enter Tryz.func19, Tryz.ntmps19
  go_wp2_with fail
  refine (HC.out).mono ?_
  rintro e w1 ⟨rfl, hb1⟩
  go_wp2
  go_ret2
  exact Ret.of rfl hb1
theorem pinter_ok (a b : List SQ) (va vb : Value) (w : World) (hg : Glob w) (ha : RdP w va (sx a)) (hb : RdP w vb (sx b)) (na : a.length ≤ 60) (nb : b.length ≤ 60) (ra : ∀ s ∈ a, SpB 30 s) (rb : ∀ s ∈ b, SpB 30 s) :
    Calls Tryz.prog 22 #[va, vb] w (CmbP (tidy (inter a b)) w) := by
  have HC := combined_ok rAnd 62 a b va vb w hg ha hb na nb ra rb ent_and keeps_and
  rw [comb_and (endsZ_ok _)] at HC
  have HC := Lib.hid HC
  clear ha hb ra rb
  go_enter Tryz.func22, Tryz.ntmps22
  go_wp2_with fail
  refine (HC.out).mono ?_
  rintro e w1 ⟨v, rfl, ho, hb1⟩
  go_wp2
  go_ret2
  exact ⟨v, rfl, ho, hb1⟩
theorem pinter_bad (la lb : List PT) (va vb : Value) (w : World) (hg : Glob w) (ha : RdP w va la) (hb : RdP w vb lb) (fa : FewS la) (fb : FewS lb) (na : la.length ≤ maxLen) (nb : lb.length ≤ maxLen) (hc : setsC la lb ≠ 0) :
    Calls Tryz.prog 22 #[va, vb] w (Ret w (.tuple #[.slice none 0 0, .int .i64 ((setsC la lb : Nat) : Int)])) := by
  have HC := Lib.hid (combined_bad va vb (.func (.func 62) #[] #[]) la lb w hg ha hb fa fb na nb hc)
  clear ha hb hc
  generalize ((setsC la lb : Nat) : Int) = c at *
  go_enter Tryz.func22, Tryz.ntmps22
  go_wp2_with fail
  refine (HC.out).mono ?_
  rintro e w1 ⟨rfl, hb1⟩
  go_wp2
  go_ret2
  exact Ret.of rfl hb1
theorem pdiff_ok (a b : List SQ) (va vb : Value) (w : World) (hg : Glob w) (ha : RdP w va (sx a)) (hb : RdP w vb (sx b)) (na : a.length ≤ 60) (nb : b.length ≤ 60) (ra : ∀ s ∈ a, SpB 30 s) (rb : ∀ s ∈ b, SpB 30 s) :
    Calls Tryz.prog 24 #[va, vb] w (CmbP (tidy (wo a b none (endsZ (a ++ b)))) w) := by
  have HC := combined_ok rDif 64 a b va vb w hg ha hb na nb ra rb ent_dif keeps_dif
  rw [comb_dif (endsZ_ok _)] at HC
  have HC := Lib.hid HC
  clear ha hb ra rb
  go_enter Tryz.func24, Tryz.ntmps24
  go_wp2_with fail
  refine (HC.out).mono ?_
  rintro e w1 ⟨v, rfl, ho, hb1⟩
  go_wp2
  go_ret2
  exact ⟨v, rfl, ho, hb1⟩
theorem pdiff_bad (la lb : List PT) (va vb : Value) (w : World) (hg : Glob w) (ha : RdP w va la) (hb : RdP w vb lb) (fa : FewS la) (fb : FewS lb) (na : la.length ≤ maxLen) (nb : lb.length ≤ maxLen) (hc : setsC la lb ≠ 0) :
    Calls Tryz.prog 24 #[va, vb] w (Ret w (.tuple #[.slice none 0 0, .int .i64 ((setsC la lb : Nat) : Int)])) := by
  have HC := Lib.hid (combined_bad va vb (.func (.func 64) #[] #[]) la lb w hg ha hb fa fb na nb hc)
  clear ha hb hc
  generalize ((setsC la lb : Nat) : Int) = c at *
  go_enter Tryz.func24, Tryz.ntmps24
  go_wp2_with fail
  refine (HC.out).mono ?_
  rintro e w1 ⟨rfl, hb1⟩
  go_wp2
  go_ret2
  exact Ret.of rfl hb1
theorem pnormal_ok (a : List SQ) (va : Value) (w : World) (hg : Glob w) (ha : RdP w va (sx a)) (na : a.length ≤ 60) (ra : ∀ s ∈ a, SpB 30 s) :
    Calls Tryz.prog 27 #[va] w (CmbP (tidy a) w) := by
  have HC := combined_ok rFst 66 a [] va (.slice none 0 0) w hg ha ⟨none, 0, rfl, Or.inl rfl⟩ na (by simp) ra (fun s hs => by cases hs) ent_fst keeps_fst
  rw [comb_fst (endsZ_ok _) (fun s h => (ra s h).1)] at HC
  have HC := Lib.hid HC
  clear ha ra
  go_enter Tryz.func27, Tryz.ntmps27
  go_wp2_with fail
  refine (HC.out).mono ?_
  rintro e w1 ⟨v, rfl, ho, hb1⟩
  go_wp2
  go_ret2
  exact ⟨v, rfl, ho, hb1⟩
theorem setsC_nil (la : List PT) : setsC la [] = setC la := by
  unfold setsC
  by_cases h : setC la = 0
  · rw [if_pos h, h]; rfl
  · rw [if_neg h]
theorem pnormal_bad (la : List PT) (va : Value) (w : World) (hg : Glob w) (ha : RdP w va la) (fa : FewS la) (na : la.length ≤ maxLen) (hc : setC la ≠ 0) :
    Calls Tryz.prog 27 #[va] w (Ret w (.tuple #[.slice none 0 0, .int .i64 ((setC la : Nat) : Int)])) := by
  have HC := combined_bad va (.slice none 0 0) (.func (.func 66) #[] #[]) la [] w hg ha ⟨none, 0, rfl, Or.inl rfl⟩ fa (Or.inr ⟨by simp, fun p hp => by cases hp⟩) na (by simp) (by rw [setsC_nil]; exact hc)
  rw [setsC_nil] at HC
  have HC := Lib.hid HC
  clear ha hc
  generalize ((setC la : Nat) : Int) = c at *
  go_enter Tryz.func27, Tryz.ntmps27
  go_wp2_with fail
  refine (HC.out).mono ?_
  rintro e w1 ⟨rfl, hb1⟩
  go_wp2
  go_ret2
  exact Ret.of rfl hb1
end W
end Go.Proofs.YtpjaoapnangccaaGreatDoor
namespace Go.Proofs.YtpjaoapnangccaaGreatDoor
open Go Go.RowKit Go.Deep Go.Sort
namespace W
open M
attribute [local go_sem] bs_size bs_toList bs_get bs_extract bs_append bs_lit0 bs_lit1 lit1_bs
set_option maxHeartbeats 1000000
set_option maxRecDepth 20000
theorem cmpQ_le {a b : Rat} : cmpQ a b ≤ 0 ↔ a ≤ b := by rw [← Int.not_lt, cmpQ_gt, Rat.not_lt]
theorem sin_ok (S : Nat) (a : SQ) (x : Rat) (w : World) (hg : Glob w) (hs : NoErI w S) (h1 : Bq 30 a.1) (h2 : Bq 30 a.2) (hx : Bq 30 x) :
    Calls Tryz.prog 77 #[.pointer (some ⟨S, 0, none⟩), spV (R a.1, R a.2), .string (bs (R x))] w (Ret w (.bool (decide (a.1 ≤ x) && decide (x ≤ a.2)))) := by
  have hb0 : Below w.heap.size w (w.alloc (.cells #[.string (bs (R a.1)), .string (bs (R a.2))] 24)) := (Below.refl _ _).alloc (Nat.le_refl _) _
  have HO1 := Lib.hid (sorder_ok S a.1 x _ (hg.of hb0) (hs.below' hb0) h1 hx)
  have HO2 := Lib.hid (fun W (hW : Below w.heap.size w W) => sorder_ok S x a.2 W (hg.of hW) (hs.below' hW) hx h2)
  have hrow := Row.new w 24 [.string (bs (R a.1)), .string (bs (R a.2))]
  have HRW := Lib.hid (And.intro hrow hb0)
  have HS := Lib.hid hs
  have e1 : decide (cmpQ a.1 x ≤ 0) = decide (a.1 ≤ x) := by simp only [cmpQ_le]
  have e2 : decide (cmpQ x a.2 ≤ 0) = decide (x ≤ a.2) := by simp only [cmpQ_le]
  clear hrow hb0 hs h1 h2 hx
  generalize cmpQ a.1 x = c1 at *
  generalize cmpQ x a.2 = c2 at *
  generalize R a.1 = p1 at *
  generalize R a.2 = p2 at *
  generalize R x = px at *
  rw [← e1, ← e2]
  clear e1 e2
  by_cases hc : c1 ≤ 0
  · have hd : decide (c1 ≤ 0) = true := decide_eq_true hc
    go_enter Tryz.func77, Tryz.ntmps77
    go_wp2_with fail
    refine (HO1.out).mono ?_
    rintro e w1 ⟨rfl, hb1⟩
    have q1 := (HRW.out.1.below' hb1).cell (i := 1) rfl
    have hb1' := HRW.out.2.trans (hb1.mono HRW.out.2.size)
    clear hb1
    go_wp2_with fail
    refine (HO2.out _ hb1').mono ?_
    rintro e w2 ⟨rfl, hb2⟩
    have q0 := (HS.out.below' (Below.then hb1' hb2)).cell
    go_wp2
    all_goals
      go_ret
      exact Ret.of (by simp [hc] <;> omega) (Below.then hb1' hb2)
  · have hd : decide (c1 ≤ 0) = false := decide_eq_false hc
    go_enter Tryz.func77, Tryz.ntmps77
    go_wp2_with fail
    refine (HO1.out).mono ?_
    rintro e w1 ⟨rfl, hb1⟩
    have hb1' := HRW.out.2.trans (hb1.mono HRW.out.2.size)
    go_wp2
    go_ret
    exact Ret.of (by simp; omega) hb1'
theorem holds_bad1 (la : List PT) (va : Value) (px : List UInt8) (w : World) (hg : Glob w) (ha : RdP w va la) (fa : FewS la) (na : la.length ≤ maxLen) (hc : setC la ≠ 0) :
    Calls Tryz.prog 39 #[va, .string (bs px)] w (Ret w (.tuple #[.bool false, .int .i64 ((setC la : Nat) : Int)])) := by
  have hr : Row (w.alloc (Obj.cells #[va] 36)) w.heap.size 36 [va] := rnew rfl rfl
  have hb2 : Below w.heap.size w (w.alloc (Obj.cells #[va] 36)) := (Below.refl _ _).alloc (Nat.le_refl _) _
  have HS := Lib.hid (psets1 va la w.heap.size _ (hg.of hb2) hr (ha.below hb2) fa na)
  have HB := Lib.hid hb2
  obtain ⟨A, cap, rfl⟩ := ha.len
  have hz : (((setC la : Nat) : Int) != 0) = true := by simp; exact hc
  clear hr hb2 ha hc
  generalize ((setC la : Nat) : Int) = c at *
  go_enter Tryz.func39, Tryz.ntmps39
  go_wp2_with fail
  refine (HS.out).mono ?_
  rintro e w1 ⟨rfl, hb1⟩
  go_wp2
  go_ret2
  exact Ret.of rfl (HB.out.trans (hb1.mono HB.out.size))
theorem setC_yes {a : List SQ} (na : a.length ≤ 60) (ra : ∀ s ∈ a, SpB 30 s) : setC (sx a) = 0 := by
  unfold setC; rw [sx_len, if_neg (by omega)]; exact chkL_sx ra
theorem holds_bad2 (a : List SQ) (va : Value) (px : List UInt8) (w : World) (hg : Glob w) (ha : RdP w va (sx a)) (na : a.length ≤ 60) (ra : ∀ s ∈ a, SpB 30 s) (hx : px.length ≤ 2100) (hc : chkR px ≠ 0) :
    Calls Tryz.prog 39 #[va, .string (bs px)] w (Ret w (.tuple #[.bool false, .int .i64 ((chkR px : Nat) : Int)])) := by
  have hr : Row (w.alloc (Obj.cells #[va] 36)) w.heap.size 36 [va] := rnew rfl rfl
  have hb2 : Below w.heap.size w (w.alloc (Obj.cells #[va] 36)) := (Below.refl _ _).alloc (Nat.le_refl _) _
  have hs := psets1 va (sx a) w.heap.size _ (hg.of hb2) hr (ha.below hb2) (fewS_sx na ra) (by rw [sx_len]; unfold maxLen; omega)
  rw [setC_yes na ra] at hs
  have HS := Lib.hid hs
  have HB := Lib.hid hb2
  have HX := Lib.hid (fun wx hgx => vcheckR px wx hgx (by omega))
  have HG := Lib.hid hg
  obtain ⟨A, cap, rfl⟩ := ha.len
  have hz : (((chkR px : Nat) : Int) != 0) = true := by simp; exact hc
  clear hr hb2 ha hc hs ra hx hg
  generalize ((chkR px : Nat) : Int) = c at *
  go_enter Tryz.func39, Tryz.ntmps39
  go_wp2_with fail
  refine (HS.out).mono ?_
  rintro e w1 ⟨rfl, hb1⟩
  have hb1' := HB.out.trans (hb1.mono HB.out.size)
  go_wp2_with fail
  refine (HX.out _ (HG.out.of hb1')).mono ?_
  rintro e w2 ⟨rfl, hb2⟩
  go_wp2
  go_ret2
  exact Ret.of rfl (Below.then hb1' hb2)
theorem holds_ok (a : List SQ) (va : Value) (x : Rat) (w : World) (hg : Glob w) (ha : RdP w va (sx a)) (na : a.length ≤ 60) (ra : ∀ s ∈ a, SpB 30 s) (hx : Bq 30 x) :
    Calls Tryz.prog 39 #[va, .string (bs (R x))] w (Ret w (.tuple #[.bool (hasB a x), .int .i64 0])) := by
  have hr : Row (w.alloc (Obj.cells #[va] 36)) w.heap.size 36 [va] := rnew rfl rfl
  have hb2 : Below w.heap.size w (w.alloc (Obj.cells #[va] 36)) := (Below.refl _ _).alloc (Nat.le_refl _) _
  have hs := psets1 va (sx a) w.heap.size _ (hg.of hb2) hr (ha.below hb2) (fewS_sx na ra) (by rw [sx_len]; unfold maxLen; omega)
  rw [setC_yes na ra] at hs
  have hv := fun wx hgx => vcheckR (R x) wx hgx (by have := hx.R_len (by decide); omega)
  rw [show chkR (R x) = 0 from hx.chk (by decide)] at hv
  have HS := Lib.hid hs
  have HB : Hid (Below w.heap.size w (w.alloc (Obj.cells #[va] 36))) := Lib.hid hb2
  have HX := Lib.hid hv
  have HG := Lib.hid hg
  have HR := Lib.hid ra
  have HRD := Lib.hid ha
  have HIN := Lib.hid (fun (S : Nat) (k : Nat) (hk : k < a.length) (W : World) (hW : Glob W) (hn : NoErI W S) => sin_ok S a[k] x W hW hn (ra _ (List.getElem_mem hk)).2.1 (ra _ (List.getElem_mem hk)).2.2 hx)
  obtain ⟨A, cap, rfl⟩ := ha.len
  rw [sx_len a] at HS HB ⊢
  clear hr hb2 ha hs hv ra hx hg
  go_enter Tryz.func39, Tryz.ntmps39
  go_wp2_with fail
  refine (HS.out).mono ?_
  rintro e w1 ⟨rfl, hb1⟩
  have hb1' := HB.out.trans (hb1.mono HB.out.size)
  go_wp2_with fail
  refine (HX.out _ (HG.out.of hb1')).mono ?_
  rintro e w2 ⟨rfl, hb2⟩
  have hb2' := Below.then hb1' hb2
  have hs0 : NoErI (w2.alloc (Obj.cells #[.int .i64 0] 74)) w2.heap.size := Row.new w2 74 [.int .i64 0]
  have HS0 := Lib.hid (And.intro hs0 (hb2'.alloc hb2'.size (Obj.cells #[.int .i64 0] 74)))
  clear hb1 hb2 hb1' hb2' hs0 HS HB HX
  go_wp2
  generalize w2.heap.size = S at *
  obtain ⟨w3, hw3⟩ : ∃ x, x = (w2.alloc (Obj.cells #[.int .i64 0] 74)) := ⟨_, rfl⟩
  rw [← hw3] at HS0 ⊢
  clear hw3
  go_loopw [9, 27] (fun fv iv wr => ∃ k : Nat, iv = .int .i64 (k : Int) ∧ k ≤ a.length ∧ fv = .bool (hasB (a.take k) x) ∧ Below w3.heap.size w3 wr) (fun _ iv _ => a.length - (intOf iv).toNat)
  case atStart => exact ⟨0, rfl, by omega, rfl, Below.refl _ _⟩
  case round =>
    obtain ⟨k, rfl, hkn, rfl, hbr⟩ := hrel
    by_cases hlt : k < a.length
    · have hsl : (sx a).length = a.length := sx_len a
      obtain ⟨b1, o1, rfl, hw⟩ : ∃ b o, A = some ⟨b, o, none⟩ ∧ PSl w b o (sx a) := by
        obtain ⟨A', cap', e, h⟩ := HRD.out
        injection e with e
        subst e
        exact h.resolve_left (fun e => by rw [e] at hsl; simp at hsl; omega)
      have hbw : Below w.heap.size w wr := HS0.out.2.trans (hbr.mono HS0.out.2.size)
      have hwr := hw.below' hbw
      have hlt' : k < (sx a).length := by rw [hsl]; exact hlt
      have cv := hwr.val k hlt'
      have cw := hwr.wt k hlt'
      rw [sx_get a k hlt] at cv cw
      simp only at cv cw
      have hTK : hasB (a.take (k + 1)) x = (hasB (a.take k) x || (decide (a[k].1 ≤ x) && decide (x ≤ a[k].2))) := by
        unfold hasB
        rw [List.take_succ_eq_append_getElem hlt, List.any_append]; simp
      have HTK := Lib.hid hTK
      have hba := hbr.alloc hbr.size (.cells #[.string (bs (R a[k].1)), .string (bs (R a[k].2))] 24)
      have hbb := hbw.alloc hbw.size (.cells #[.string (bs (R a[k].1)), .string (bs (R a[k].2))] 24)
      have HI := Lib.hid (HIN.out S k hlt _ (HG.out.of hbb) (HS0.out.1.below' hba))
      have HBA := Lib.hid hba
      have hrow := Row.new wr 24 [.string (bs (R a[k].1)), .string (bs (R a[k].2))]
      clear hsl hw hwr hlt' hTK hba hbb hbw
      generalize (decide (a[k].1 ≤ x) && decide (x ≤ a[k].2)) = d at *
      generalize R a[k].1 = p1 at *
      generalize R a[k].2 = p2 at *
      generalize hasB (a.take k) x = fd at *
      have HBR := Lib.hid hbr
      clear hrow hbr
      cases fd with
      | true =>
        go_wp2
        go_roundw
        case rel => exact ⟨k + 1, by simp, by omega, by rw [HTK.out]; rfl, HBA.out⟩
        case measure => simp [intOf]; omega
      | false =>
        go_wp2_with fail
        refine (HI.out).mono ?_
        rintro e w4 ⟨rfl, hb4⟩
        have hb4' := HBA.out.trans (hb4.mono HBA.out.size)
        have HB4 := Lib.hid hb4'
        clear hb4 hb4' HI
        go_wp2
        go_roundw
        case rel => exact ⟨k + 1, by simp, by omega, by rw [HTK.out]; rfl, HB4.out⟩
        case measure => simp [intOf]; omega
    · obtain rfl : k = a.length := by omega
      rw [List.take_length]
      have q0 := (HS0.out.1.below' hbr).cell
      have hbw : Below w.heap.size w wr := HS0.out.2.trans (hbr.mono HS0.out.2.size)
      have HBW := Lib.hid hbw
      clear hbw hbr
      cases hv : hasB a x with
      | true =>
        go_wp2
        go_quiet (fail)
        go_wp2
        go_ret2
        exact Ret.of (by rw [hv]; rfl) (below_drewN HBW.out _)
      | false =>
        go_wp2
        go_quiet (fail)
        go_wp2
        go_ret2
        exact Ret.of (by rw [hv]; rfl) (below_drewN HBW.out _)
end W
end Go.Proofs.YtpjaoapnangccaaGreatDoor
namespace Go.Proofs.YtpjaoapnangccaaGreatDoor
open Go Go.RowKit Go.Deep Go.Sort
namespace M
theorem lenQ_take {t : List SQ} {k : Nat} (h : k < t.length) : lenQ (t.take (k + 1)) = lenQ (t.take k) + (t[k].2 - t[k].1) := by
  unfold lenQ
  rw [List.take_succ_eq_append_getElem h, List.foldl_append]; rfl
end M
namespace W
open M
attribute [local go_sem] bs_size bs_toList bs_get bs_extract bs_append bs_lit0 bs_lit1 lit1_bs
set_option maxHeartbeats 1000000
set_option maxRecDepth 20000
theorem length_bad (la : List PT) (va : Value) (w : World) (hg : Glob w) (ha : RdP w va la) (fa : FewS la) (na : la.length ≤ maxLen) (hc : setC la ≠ 0) :
    Calls Tryz.prog 28 #[va] w (Ret w (.tuple #[.string (bs []), .int .i64 ((setC la : Nat) : Int)])) := by
  have HC := Lib.hid (pnormal_bad la va w hg ha fa na hc)
  have hz : (((setC la : Nat) : Int) != 0) = true := by simp; exact hc
  clear ha hc
  generalize ((setC la : Nat) : Int) = c at *
  go_enter Tryz.func28, Tryz.ntmps28
  go_wp2_with fail
  refine (HC.out).mono ?_
  rintro e w1 ⟨rfl, hb1⟩
  go_wp2
  go_ret2
  exact Ret.of rfl hb1
theorem length_ok (a : List SQ) (va : Value) (w : World) (hg : Glob w) (ha : RdP w va (sx a)) (na : a.length ≤ 60) (ra : ∀ s ∈ a, SpB 30 s) (nt : (tidy a).length ≤ 100) (rt : ∀ s ∈ tidy a, SpB 30 s)
    (hs : ∀ k, k ≤ (tidy a).length → Bq 900 (lenQ ((tidy a).take k))) :
    Calls Tryz.prog 28 #[va] w (Ret w (.tuple #[.string (bs (R (lenQ (tidy a)))), .int .i64 0])) := by
  have HC := Lib.hid (pnormal_ok a va w hg ha na ra)
  have HG := Lib.hid hg
  clear ha ra
  generalize tidy a = t at *
  have HW := Lib.hid (fun (k : Nat) (hk : k < t.length) (W : World) (hW : Glob W) => pwidth_ok t[k] W hW (rt _ (List.getElem_mem hk)))
  have HA := Lib.hid (fun (k : Nat) (hk : k < t.length) (W : World) (hW : Glob W) => ratAdd (lenQ (t.take k)) (t[k].2 - t[k].1) 900 61 W hW (hs k (Nat.le_of_lt hk)) ((rt _ (List.getElem_mem hk)).2.2.sub (rt _ (List.getElem_mem hk)).2.1) (by decide))
  clear hs rt hg
  go_enter Tryz.func28, Tryz.ntmps28
  go_wp2_with fail
  refine (HC.out).mono ?_
  rintro e w2 ⟨v, rfl, ho, hb2⟩
  obtain ⟨A, cap, rfl⟩ := ho.rd.len
  have HRD := Lib.hid (ho.rd.below ((Below.refl w2.heap.size w2).alloc (Nat.le_refl _) (Obj.cells #[.int .i64 0] 74)))
  rw [sx_len t] at HRD ⊢
  have hs0 : NoErI (w2.alloc (Obj.cells #[.int .i64 0] 74)) w2.heap.size := Row.new w2 74 [.int .i64 0]
  have HS0 := Lib.hid (And.intro hs0 (hb2.alloc hb2.size (Obj.cells #[.int .i64 0] 74)))
  clear hs0 ho hb2 HC
  go_wp2
  obtain ⟨S, hS⟩ : ∃ S, S = w2.heap.size := ⟨_, rfl⟩
  rw [← hS] at HS0 ⊢
  clear hS
  obtain ⟨w3, hw3⟩ : ∃ x, x = (w2.alloc (Obj.cells #[.int .i64 0] 74)) := ⟨_, rfl⟩
  rw [← hw3] at HS0 HRD ⊢
  clear hw3
  go_loopw [7, 23] (fun fv iv wr => ∃ k : Nat, iv = .int .i64 (k : Int) ∧ k ≤ t.length ∧ fv = .string (bs (R (lenQ (t.take k)))) ∧ Below w3.heap.size w3 wr) (fun _ iv _ => t.length - (intOf iv).toNat)
  case atStart => exact ⟨0, rfl, by omega, by rw [List.take_zero, show lenQ [] = 0 from rfl, R_zero]; rfl, Below.refl _ _⟩
  case round =>
    obtain ⟨k, rfl, hkn, rfl, hbr⟩ := hrel
    by_cases hlt : k < t.length
    · have hsl : (sx t).length = t.length := sx_len t
      obtain ⟨b1, o1, rfl, hw⟩ : ∃ b o, A = some ⟨b, o, none⟩ ∧ PSl w3 b o (sx t) := by
        obtain ⟨A', cap', e, h⟩ := HRD.out
        injection e with e
        subst e
        exact h.resolve_left (fun e => by rw [e] at hsl; simp at hsl; omega)
      have hwr := hw.below' hbr
      have hlt' : k < (sx t).length := by rw [hsl]; exact hlt
      have cv := hwr.val k hlt'
      have cw := hwr.wt k hlt'
      rw [sx_get t k hlt] at cv cw
      simp only at cv cw
      have HTK := Lib.hid (lenQ_take hlt)
      have HWK := Lib.hid (HW.out k hlt)
      have HAK := Lib.hid (HA.out k hlt)
      rw [← HTK.out] at HAK
      have hba := hbr.alloc hbr.size (.cells #[.string (bs (R t[k].1)), .string (bs (R t[k].2))] 24)
      have HBA := Lib.hid hba
      have HGW : Hid (∀ W, Below w3.heap.size w3 W → Glob W) := Lib.hid (fun W hW => HG.out.of (HS0.out.2.trans (hW.mono HS0.out.2.size)))
      clear hsl hw hwr hlt' hba hbr HTK
      unfold spV at HWK
      simp only at HWK
      generalize R t[k].1 = p1 at *
      generalize R t[k].2 = p2 at *
      generalize R (t[k].2 - t[k].1) = pw at *
      generalize R (lenQ (t.take k)) = s1 at *
      generalize hs2 : R (lenQ (t.take (k + 1))) = s2 at *
      have HS2 := Lib.hid hs2
      clear hs2
      go_wp2_with fail
      refine (HWK.out _ (HGW.out _ HBA.out)).mono ?_
      rintro e w4 ⟨rfl, hb4⟩
      have hb4' := HBA.out.trans (hb4.mono HBA.out.size)
      have HO1 := Lib.hid (sof_ok S pw _ (HS0.out.1.below' hb4'))
      have HB4 := Lib.hid hb4'
      clear hb4 hb4' HBA HWK cv cw
      go_wp2_with fail
      refine (HO1.out).mono ?_
      rintro e w5 ⟨rfl, hb5⟩
      have hb5' := HB4.out.trans (hb5.mono HB4.out.size)
      have q0 := (HS0.out.1.below' hb5').cell
      have HB5 := Lib.hid hb5'
      clear hb5 hb5' HB4 HO1
      go_wp2_with fail
      refine (HAK.out _ (HGW.out _ HB5.out)).mono ?_
      rintro e w6 ⟨rfl, hb6⟩
      have hb6' := HB5.out.trans (hb6.mono HB5.out.size)
      have HO2 := Lib.hid (sof_ok S s2 _ (HS0.out.1.below' hb6'))
      have HB6 := Lib.hid hb6'
      clear hb6 hb6' HB5 HAK q0
      go_wp2_with fail
      refine (HO2.out).mono ?_
      rintro e w7 ⟨rfl, hb7⟩
      have HB7 := Lib.hid (HB6.out.trans (hb7.mono HB6.out.size))
      clear hb7 HB6 HO2
      go_wp2
      go_roundw
      case rel => exact ⟨k + 1, by simp, by omega, by rw [HS2.out], HB7.out⟩
      case measure => simp [intOf]; omega
    · obtain rfl : k = t.length := by omega
      rw [List.take_length]
      have q0 := (HS0.out.1.below' hbr).cell
      have HBW := Lib.hid (HS0.out.2.trans (hbr.mono HS0.out.2.size))
      clear hbr
      go_wp2
      go_ret2
      exact Ret.of rfl HBW.out
end W
end Go.Proofs.YtpjaoapnangccaaGreatDoor
namespace Go.Proofs.YtpjaoapnangccaaGreatDoor
open Go Go.RowKit Go.Deep Go.Sort
namespace M
theorem r0 : R 0 = [48] := by decide +kernel
theorem r1 : R 1 = [49] := by decide +kernel
theorem r2 : R 2 = [50] := by decide +kernel
theorem r3 : R 3 = [51] := by decide +kernel
theorem r4 : R 4 = [52] := by decide +kernel
theorem r5 : R 5 = [53] := by decide +kernel
theorem rm2 : R (-2) = [45, 50] := by decide +kernel
theorem rm4 : R (-4) = [45, 52] := by decide +kernel
theorem rh : R (1/2) = [49, 47, 50] := by decide +kernel
theorem rmh : R (-1/2) = [45, 49, 47, 50] := by decide +kernel
theorem r52 : R (5/2) = [53, 47, 50] := by decide +kernel
theorem tid1 : tidy [(0, 1), (1, 2), (4, 4)] = [(0, 2), (4, 4)] := by decide +kernel
theorem dif1 : tidy (wo [(0, 2), (4, 4)] [(1, 3)] none (endsZ ([(0, 2), (4, 4)] ++ [(1, 3)]))) = [(0, 1), (4, 4)] := by decide +kernel
theorem dif2 : tidy (wo [(0, 2), (4, 4)] [(1, 1)] none (endsZ ([(0, 2), (4, 4)] ++ [(1, 1)]))) = [(0, 2), (4, 4)] := by decide +kernel
theorem len1 : lenQ [(0, 2), (4, 4)] = 2 := by decide +kernel
instance (k : Nat) (q : Rat) : Decidable (Bq k q) := by unfold Bq; exact inferInstance
instance (k : Nat) (a : SQ) : Decidable (SpB k a) := by unfold SpB; exact inferInstance
theorem sp1 : SpB 30 (1, 2) := by decide +kernel
theorem sp2 : SpB 30 (-1/2, 3) := by decide +kernel
end M
namespace W
open M
attribute [local go_sem] bs_size bs_toList bs_get bs_extract bs_append bs_lit0 bs_lit1 lit1_bs
set_option maxHeartbeats 1000000
set_option maxRecDepth 20000
theorem lspan_ok (p q : List UInt8) (w : World) : Calls Tryz.prog 44 #[.string (bs p), .string (bs q)] w (Ret w (spV (p, q))) := by
  have hr := Row.new w 24 [.string ⟨#[]⟩, .string ⟨#[]⟩]
  have f0 := hr.free 0
  have f1 := (hr.set 0 (.string (bs p))).free 1
  have c0 := hr.cell (i := 0) rfl
  have c1 := (hr.set 0 (.string (bs p))).cell (i := 1) rfl
  clear hr
  go_enter Tryz.func44, Tryz.ntmps44
  go_wp2
  refine bodyPost_ret (v := spV (p, q)) (by simp [results, Tryz.results44, go_sem]) rfl ⟨rfl, (Below.refl _ _).alloc (Nat.le_refl _) _⟩
theorem padd_t {a b : SQ} {p q r : PT} (hp : (R a.1, R a.2) = p) (hq : (R b.1, R b.2) = q) (hr : (R (a.1 + b.1), R (a.2 + b.2)) = r) (ha : SpB 30 a) (hb : SpB 30 b) (w : World) (hg : Glob w) :
    Calls Tryz.prog 12 #[spV p, spV q] w (Ret w (spR r 0)) := by subst hp hq hr; exact padd_ok a b w hg ha hb
theorem psub_t {a b : SQ} {p q r : PT} (hp : (R a.1, R a.2) = p) (hq : (R b.1, R b.2) = q) (hr : (R (a.1 - b.2), R (a.2 - b.1)) = r) (ha : SpB 30 a) (hb : SpB 30 b) (w : World) (hg : Glob w) :
    Calls Tryz.prog 14 #[spV p, spV q] w (Ret w (spR r 0)) := by subst hp hq hr; exact psub_ok a b w hg ha hb
theorem pscale_t {a : SQ} {k : Rat} {p r : PT} {t : List UInt8} (hp : (R a.1, R a.2) = p) (ht : R k = t) (hr : (R (sclQ a k).1, R (sclQ a k).2) = r) (ha : SpB 30 a) (hk : Bq 30 k) (w : World) (hg : Glob w) :
    Calls Tryz.prog 16 #[spV p, .string (bs t)] w (Ret w (spR r 0)) := by subst hp ht hr; exact pscale_ok a k w hg ha hk
/-- A list is returned. -/
def LstP (lt : List PT) (w : World) (e : Ending) (w' : World) : Prop := ∃ A cap, e = .returned (.tuple #[.slice A lt.length cap, .int .i64 0]) ∧ RdP w' (.slice A lt.length cap) lt ∧ Below w.heap.size w w'
theorem CmbP.lst {l : List SQ} {lt : List PT} (h : sx l = lt) {w : World} {e : Ending} {w' : World} (hc : CmbP l w e w') : LstP lt w e w' := by
  subst h
  obtain ⟨v, rfl, ho, hb⟩ := hc
  obtain ⟨A, cap, rfl⟩ := ho.rd.len
  exact ⟨A, cap, rfl, ho.rd, hb⟩
theorem pnormal_t {a t : List SQ} {la lt : List PT} (hp : sx a = la) (ht : tidy a = t) (hl : sx t = lt) (na : a.length ≤ 60) (ra : ∀ s ∈ a, SpB 30 s) (va : Value) (w : World) (hg : Glob w) (hv : RdP w va la) :
    Calls Tryz.prog 27 #[va] w (LstP lt w) := by
  subst hp ht; exact (pnormal_ok a va w hg hv na ra).mono fun _ _ h => h.lst hl
theorem pdiff_t {a b t : List SQ} {la lb lt : List PT} (hp : sx a = la) (hq : sx b = lb) (ht : tidy (wo a b none (endsZ (a ++ b))) = t) (hl : sx t = lt) (na : a.length ≤ 60) (nb : b.length ≤ 60) (ra : ∀ s ∈ a, SpB 30 s) (rb : ∀ s ∈ b, SpB 30 s) (va vb : Value) (w : World) (hg : Glob w)
    (hv : RdP w va la) (hw : RdP w vb lb) : Calls Tryz.prog 24 #[va, vb] w (LstP lt w) := by
  subst hp hq ht; exact (pdiff_ok a b va vb w hg hv hw na nb ra rb).mono fun _ _ h => h.lst hl
theorem plength_t {a : List SQ} {la : List PT} {s : List UInt8} (hp : sx a = la) (ht : tidy a = a) (hs : R (lenQ a) = s) (na : a.length ≤ 60) (ra : ∀ s ∈ a, SpB 30 s) (hk : ∀ k, k ≤ a.length → Bq 900 (lenQ (a.take k))) (va : Value) (w : World) (hg : Glob w) (hv : RdP w va la) :
    Calls Tryz.prog 28 #[va] w (Ret w (.tuple #[.string (bs s), .int .i64 0])) := by
  subst hp hs
  have h := length_ok a va w hg hv na ra (by rw [ht]; omega) (by rw [ht]; exact ra) (by rw [ht]; exact hk)
  rwa [ht] at h
theorem awake (w : World) (hg : Glob w) : Calls Tryz.prog 11 #[] w (Ret w (.bool true)) := by
  have HADD := Lib.hid (padd_t (a := (1, 2)) (b := (-1/2, 3)) (p := ([49], [50])) (q := ([45, 49, 47, 50], [51])) (r := ([49, 47, 50], [53])) (by decide +kernel) (by decide +kernel) (by decide +kernel) sp1 sp2)
  have HSUB := Lib.hid (psub_t (a := (1, 2)) (b := (-1/2, 3)) (p := ([49], [50])) (q := ([45, 49, 47, 50], [51])) (r := ([45, 50], [53, 47, 50])) (by decide +kernel) (by decide +kernel) (by decide +kernel) sp1 sp2)
  have HSCL := Lib.hid (pscale_t (a := (1, 2)) (k := -2) (p := ([49], [50])) (t := [45, 50]) (r := ([45, 52], [45, 50])) (by decide +kernel) (by decide +kernel) (by decide +kernel) sp1 (by decide +kernel))
  have HNOR := Lib.hid (pnormal_t (a := [(0, 1), (1, 2), (4, 4)]) (la := [([48], [49]), ([49], [50]), ([52], [52])]) (lt := [([48], [50]), ([52], [52])]) (by decide +kernel) tid1 (by decide +kernel) (by decide) (by decide +kernel))
  have HDI1 := Lib.hid (pdiff_t (a := [(0, 2), (4, 4)]) (b := [(1, 3)]) (la := [([48], [50]), ([52], [52])]) (lb := [([49], [51])]) (lt := [([48], [49]), ([52], [52])]) (by decide +kernel) (by decide +kernel) dif1 (by decide +kernel) (by decide) (by decide) (by decide +kernel) (by decide +kernel))
  have HDI2 := Lib.hid (pdiff_t (a := [(0, 2), (4, 4)]) (b := [(1, 1)]) (la := [([48], [50]), ([52], [52])]) (lb := [([49], [49])]) (lt := [([48], [50]), ([52], [52])]) (by decide +kernel) (by decide +kernel) dif2 (by decide +kernel) (by decide) (by decide) (by decide +kernel) (by decide +kernel))
  have HLEN := Lib.hid (plength_t (a := [(0, 2), (4, 4)]) (la := [([48], [50]), ([52], [52])]) (s := [50]) (by decide +kernel) (by decide +kernel) (by decide +kernel) (by decide) (by decide +kernel) (by decide +kernel))
  have HSA := Lib.hid (fun W => lspan_ok [49] [50] W)
  have HSB := Lib.hid (fun W => lspan_ok [45, 49, 47, 50] [51] W)
  have HG := Lib.hid hg
  unfold spV at HSA HSB HADD HSUB HSCL
  simp only at HSA HSB HADD HSUB HSCL
  clear hg
  go_enter Tryz.func11, Tryz.ntmps11
  go_wp2_with fail
  refine (HSA.out _).mono ?_
  rintro e w1 ⟨rfl, hb1⟩
  go_wp2_with fail
  refine (HSB.out _).mono ?_
  rintro e w2 ⟨rfl, hb2⟩
  have hb2' := hb1.trans (hb2.mono hb1.size)
  have HRA := Lib.hid (And.intro ((Row.new w2 24 [.string (bs [49]), .string (bs [50])]).alloc (.cells #[.string (bs [45, 49, 47, 50]), .string (bs [51])] 24))
    (And.intro (rnew (w := w2.alloc (.cells #[.string (bs [49]), .string (bs [50])] 24)) (t := 24) (xs := [.string (bs [45, 49, 47, 50]), .string (bs [51])]) (size1 _ _) rfl)
    ((hb2'.alloc hb2'.size (.cells #[.string (bs [49]), .string (bs [50])] 24)).alloc (by rw [size_alloc']; have := hb2'.size; omega) (.cells #[.string (bs [45, 49, 47, 50]), .string (bs [51])] 24))))
  clear hb1 hb2 hb2' HSA HSB
  go_wp2_with fail
  refine (HADD.out _ (HG.out.of HRA.out.2.2)).mono ?_
  rintro e w3 ⟨rfl, hb3⟩
  have k1 := HRA.out.1.below' hb3
  have k2 := HRA.out.2.1.below' hb3
  have k3 := HRA.out.2.2.trans (hb3.mono HRA.out.2.2.size)
  generalize w2.heap.size = bA at *
  generalize bA + 1 = bB at *
  have HK := Lib.hid (And.intro (k1.alloc (.cells #[.string (bs [49, 47, 50]), .string (bs [53])] 24)) (And.intro (k2.alloc (.cells #[.string (bs [49, 47, 50]), .string (bs [53])] 24)) (And.intro (Row.new w3 24 [.string (bs [49, 47, 50]), .string (bs [53])]) (k3.alloc k3.size (.cells #[.string (bs [49, 47, 50]), .string (bs [53])] 24)))))
  have a0 := HK.out.1.cell (i := 0) rfl
  have a1 := HK.out.1.cell (i := 1) rfl
  have b0 := HK.out.2.1.cell (i := 0) rfl
  have b1 := HK.out.2.1.cell (i := 1) rfl
  clear hb3 k1 k2 k3 HRA HADD
  go_wp2_with fail
  refine (HSUB.out _ (HG.out.of HK.out.2.2.2)).mono ?_
  rintro e w4 ⟨rfl, hb4⟩
  have k1 := HK.out.1.below' hb4
  have k2 := HK.out.2.2.1.below' hb4
  have k3 := HK.out.2.2.2.trans (hb4.mono HK.out.2.2.2.size)
  generalize w3.heap.size = bC at *
  have HL := Lib.hid (And.intro (k1.alloc (.cells #[.string (bs [45, 50]), .string (bs [53, 47, 50])] 24)) (And.intro (k2.alloc (.cells #[.string (bs [45, 50]), .string (bs [53, 47, 50])] 24)) (And.intro (Row.new w4 24 [.string (bs [45, 50]), .string (bs [53, 47, 50])]) (k3.alloc k3.size (.cells #[.string (bs [45, 50]), .string (bs [53, 47, 50])] 24)))))
  clear hb4 k1 k2 k3 HK HSUB a0 a1 b0 b1
  have a0 := HL.out.1.cell (i := 0) rfl
  have a1 := HL.out.1.cell (i := 1) rfl
  go_wp2_with fail
  refine (HSCL.out _ (HG.out.of HL.out.2.2.2)).mono ?_
  rintro e w5 ⟨rfl, hb5⟩
  have k2 := HL.out.2.1.below' hb5
  have k4 := HL.out.2.2.1.below' hb5
  have k3 := HL.out.2.2.2.trans (hb5.mono HL.out.2.2.2.size)
  generalize w4.heap.size = bD at *
  have hr5 := Row.new w5 24 [.string (bs [45, 52]), .string (bs [45, 50])]
  have k2 := k2.alloc (.cells #[.string (bs [45, 52]), .string (bs [45, 50])] 24)
  have k4 := k4.alloc (.cells #[.string (bs [45, 52]), .string (bs [45, 50])] 24)
  have k3 := k3.alloc k3.size (.cells #[.string (bs [45, 52]), .string (bs [45, 50])] 24)
  clear hb5 HL HSCL a0 a1
  go_wp2
  obtain ⟨W5, hW5⟩ : ∃ W5, w5.alloc (.cells #[.string (bs [45, 52]), .string (bs [45, 50])] 24) = W5 := ⟨_, rfl⟩
  rw [show ([Value.string (bs [45, 52]), Value.string (bs [45, 50])].toArray) = #[Value.string (bs [45, 52]), Value.string (bs [45, 50])] from rfl] at hr5
  rw [hW5] at k2 k4 k3 hr5 ⊢
  clear hW5
  generalize w5.heap.size = bE at *
  have c1 := reg_of (w := W5) (fun W _ => lspan_ok [49, 47, 50] [53] W)
  have c2 := reg_of (w := W5) (fun W _ => lspan_ok [45, 50] [53, 47, 50] W)
  have c3 := reg_of (w := W5) (fun W _ => lspan_ok [45, 52] [45, 50] W)
  have m0 := cell_regrown (k2.cell (i := 0) rfl)
  have m1 := cell_regrown (k2.cell (i := 1) rfl)
  have m2 := cell_regrown (k4.cell (i := 0) rfl)
  have m3 := cell_regrown (k4.cell (i := 1) rfl)
  have m4 := cell_regrown (hr5.cell (i := 0) rfl)
  have m5 := cell_regrown (hr5.cell (i := 1) rfl)
  have e1 : ∀ args w, (callFunc 44 args).run Tryz.prog w = .ok (.enter 44 args) w := enters_of Tryz.func44 (by kernel_rfl) rfl
  have n1 : ∀ w, (binOp .neq 24 (.agg #[.string (bs [49, 47, 50]), .string (bs [53])]) (.agg #[.string (bs [49, 47, 50]), .string (bs [53])])).run Tryz.prog w = .ok (.bool false) w := fun w => neq_pt [49, 47, 50] [49, 47, 50] [53] [53] w
  have n2 : ∀ w, (binOp .neq 24 (.agg #[.string (bs [45, 50]), .string (bs [53, 47, 50])]) (.agg #[.string (bs [45, 50]), .string (bs [53, 47, 50])])).run Tryz.prog w = .ok (.bool false) w := fun w => neq_pt [45, 50] [45, 50] [53, 47, 50] [53, 47, 50] w
  have n3 : ∀ w, (binOp .neq 24 (.agg #[.string (bs [45, 52]), .string (bs [45, 50])]) (.agg #[.string (bs [45, 52]), .string (bs [45, 50])])).run Tryz.prog w = .ok (.bool false) w := fun w => neq_pt [45, 52] [45, 52] [45, 50] [45, 50] w
  have HK3 := Lib.hid k3
  clear k2 k4 k3 hr5
  refine wp_region_quiet_below (by kernel_rfl) (by kernel_rfl) ?_
  repeat (go_big_quiet_step (fail))
  go_big_quiet_step (exact c1 _ _)
  repeat (go_big_quiet_step (fail))
  go_big_quiet_step (exact c2 _ _)
  repeat (go_big_quiet_step (fail))
  go_big_quiet_step (exact c3 _ _)
  repeat (go_big_quiet_step (fail))
  refine wpQuiet_nil ?_
  intro W6 hw'
  have hb6 : Below W5.heap.size W5 W6 := by obtain ⟨p, e⟩ := hw'; rw [e]; exact below_regrown W5 p.d p.os
  have hb6' := HK3.out.trans (hb6.mono HK3.out.size)
  clear hw' c1 c2 c3 m0 m1 m2 m3 m4 m5 e1 n1 n2 n3 hb6 HK3
  have HS1 := Lib.hid (fun W => lspan_ok [48] [49] W)
  have HS2 := Lib.hid (fun W => lspan_ok [49] [50] W)
  have HS3 := Lib.hid (fun W => lspan_ok [52] [52] W)
  unfold spV at HS1 HS2 HS3
  simp only at HS1 HS2 HS3
  go_wp2_with fail
  refine (HS1.out _).mono ?_
  rintro e w7 ⟨rfl, hb7⟩
  have hb7' := hb6'.trans (hb7.mono hb6'.size)
  clear hb7 hb6'
  go_wp2_with fail
  refine (HS2.out _).mono ?_
  rintro e w8 ⟨rfl, hb8⟩
  have hb8' := hb7'.trans (hb8.mono hb7'.size)
  clear hb8 hb7'
  go_wp2_with fail
  refine (HS3.out _).mono ?_
  rintro e w9 ⟨rfl, hb9⟩
  have hb9' := hb8'.trans (hb9.mono hb8'.size)
  clear hb9 hb8'
  have hrd := RdP.new w9 [([48], [49]), ([49], [50]), ([52], [52])] #[.string (bs [48]), .string (bs [49]), .string (bs [49]), .string (bs [50]), .string (bs [52]), .string (bs [52])] 3 rfl rfl
  have hbz := hb9'.alloc hb9'.size (.cells #[.string (bs [48]), .string (bs [49]), .string (bs [49]), .string (bs [50]), .string (bs [52]), .string (bs [52])] 24)
  have HN := Lib.hid (HNOR.out _ _ (HG.out.of hbz) hrd)
  have HBZ := Lib.hid hbz
  clear hrd hbz hb9' HNOR
  go_wp2_with fail
  refine (HN.out).mono ?_
  rintro e wA ⟨A1, cp1, rfl, hv1, hbA⟩
  have hbA' := HBZ.out.trans (hbA.mono HBZ.out.size)
  have HV1 := Lib.hid hv1
  have HBA := Lib.hid hbA'
  clear hv1 hbA hbA' HN HBZ
  go_wp2_with fail
  refine (HLEN.out _ _ (HG.out.of HBA.out) HV1.out).mono ?_
  rintro e w10 ⟨rfl, hb10⟩
  have HV2 := Lib.hid (HV1.out.below hb10)
  have HBB := Lib.hid (HBA.out.trans (hb10.mono HBA.out.size))
  clear hb10 HV1 HBA HLEN
  have HS4 := Lib.hid (fun W => lspan_ok [48] [50] W)
  have HS5 := Lib.hid (fun W => lspan_ok [49] [51] W)
  have HS6 := Lib.hid (fun W => lspan_ok [49] [49] W)
  unfold spV at HS4 HS5 HS6
  simp only at HS4 HS5 HS6
  have HV2 : Hid (RdP w10 (.slice A1 2 cp1) [([48], [50]), ([52], [52])]) := HV2
  clear HS2 k2 k3 k4
  go_wp2_with fail
  refine (HS4.out _).mono ?_
  rintro e w11 ⟨rfl, hb11⟩
  have hb11' := HBB.out.trans (hb11.mono HBB.out.size)
  have HV3 := Lib.hid (HV2.out.below hb11)
  clear hb11 HV2 HBB
  go_wp2_with fail
  refine (HS3.out _).mono ?_
  rintro e w12 ⟨rfl, hb12⟩
  have hb12' := hb11'.trans (hb12.mono hb11'.size)
  have HV4 := Lib.hid (HV3.out.below hb12)
  clear hb12 hb11' HV3
  have hrd := RdP.new w12 [([48], [50]), ([52], [52])] #[.string (bs [48]), .string (bs [50]), .string (bs [52]), .string (bs [52])] 2 rfl rfl
  have hbz := hb12'.alloc hb12'.size (.cells #[.string (bs [48]), .string (bs [50]), .string (bs [52]), .string (bs [52])] 24)
  have hv5 := HV4.out.below ((Below.refl w12.heap.size w12).alloc (Nat.le_refl _) (.cells #[.string (bs [48]), .string (bs [50]), .string (bs [52]), .string (bs [52])] 24))
  have HSM := Lib.hid (same_yes _ _ _ _ hv5 hrd (by decide))
  have HZ := Lib.hid (And.intro hbz hv5)
  clear hrd hbz hv5 HV4 hb12'
  go_wp2_with fail
  refine (HSM.out).mono ?_
  rintro e wB ⟨rfl, nB, rfl⟩
  have HZ2 := Lib.hid (And.intro (below_drewN HZ.out.1 nB) (HZ.out.2.below (below_drewN (Below.refl _ _) nB)))
  clear HSM HZ
  obtain ⟨wC, hwC⟩ : ∃ x, x = ((w12.alloc (.cells #[.string (bs [48]), .string (bs [50]), .string (bs [52]), .string (bs [52])] 24)).drewN nB) := ⟨_, rfl⟩
  rw [← hwC] at HZ2 ⊢
  clear hwC
  go_wp2_with fail
  refine (HS5.out _).mono ?_
  rintro e w13 ⟨rfl, hb13⟩
  have hb13' := HZ2.out.1.trans (hb13.mono HZ2.out.1.size)
  have HV5 := Lib.hid (HZ2.out.2.below hb13)
  clear hb13 HZ2
  have hrd := RdP.new w13 [([49], [51])] #[.string (bs [49]), .string (bs [51])] 1 rfl rfl
  have hbz := hb13'.alloc hb13'.size (.cells #[.string (bs [49]), .string (bs [51])] 24)
  have hv5 := HV5.out.below ((Below.refl w13.heap.size w13).alloc (Nat.le_refl _) (.cells #[.string (bs [49]), .string (bs [51])] 24))
  have HD1 := Lib.hid (HDI1.out _ _ _ (HG.out.of hbz) hv5 hrd)
  have HZ := Lib.hid (And.intro hbz hv5)
  clear hrd hbz hv5 HV5 hb13' HDI1
  go_wp2_with fail
  refine (HD1.out).mono ?_
  rintro e wD ⟨A2, cp2, rfl, hv2, hbD⟩
  have HZ2 : Hid (Below w.heap.size w wD ∧ RdP wD (.slice A1 2 cp1) [([48], [50]), ([52], [52])] ∧ RdP wD (.slice A2 2 cp2) [([48], [49]), ([52], [52])]) := Lib.hid ⟨HZ.out.1.trans (hbD.mono HZ.out.1.size), HZ.out.2.below hbD, hv2⟩
  clear hv2 hbD HD1 HZ
  go_wp2_with fail
  refine (HS6.out _).mono ?_
  rintro e w14 ⟨rfl, hb14⟩
  have hb14' := HZ2.out.1.trans (hb14.mono HZ2.out.1.size)
  have HV5 := Lib.hid (And.intro (HZ2.out.2.1.below hb14) (HZ2.out.2.2.below hb14))
  clear hb14 HZ2
  have hrd := RdP.new w14 [([49], [49])] #[.string (bs [49]), .string (bs [49])] 1 rfl rfl
  have hbz := hb14'.alloc hb14'.size (.cells #[.string (bs [49]), .string (bs [49])] 24)
  have hal := (Below.refl w14.heap.size w14).alloc (Nat.le_refl _) (.cells #[.string (bs [49]), .string (bs [49])] 24)
  have hv5 := HV5.out.1.below hal
  have hv6 := HV5.out.2.below hal
  have HD1 := Lib.hid (HDI2.out _ _ _ (HG.out.of hbz) hv5 hrd)
  have HZ := Lib.hid (And.intro hbz (And.intro hv5 hv6))
  clear hrd hbz hv5 hv6 hal HV5 hb14' HDI2
  go_wp2_with fail
  refine (HD1.out).mono ?_
  rintro e wE ⟨A3, cp3, rfl, hv3, hbE⟩
  have HZ2 : Hid (Below w.heap.size w wE ∧ RdP wE (.slice A1 2 cp1) [([48], [50]), ([52], [52])] ∧ RdP wE (.slice A2 2 cp2) [([48], [49]), ([52], [52])] ∧ RdP wE (.slice A3 2 cp3) [([48], [50]), ([52], [52])]) := Lib.hid ⟨HZ.out.1.trans (hbE.mono HZ.out.1.size), HZ.out.2.1.below hbE, HZ.out.2.2.below hbE, hv3⟩
  clear hv3 hbE HD1 HZ
  go_wp2_with fail
  refine (HS1.out _).mono ?_
  rintro e w15 ⟨rfl, hb15⟩
  have hb15' := HZ2.out.1.trans (hb15.mono HZ2.out.1.size)
  have HV5 := Lib.hid (And.intro (HZ2.out.2.1.below hb15) (And.intro (HZ2.out.2.2.1.below hb15) (HZ2.out.2.2.2.below hb15)))
  clear hb15 HZ2
  go_wp2_with fail
  refine (HS3.out _).mono ?_
  rintro e w16 ⟨rfl, hb16⟩
  have hb16' := hb15'.trans (hb16.mono hb15'.size)
  have HV6 := Lib.hid (And.intro (HV5.out.1.below hb16) (And.intro (HV5.out.2.1.below hb16) (HV5.out.2.2.below hb16)))
  clear hb16 hb15' HV5
  have hrd := RdP.new w16 [([48], [49]), ([52], [52])] #[.string (bs [48]), .string (bs [49]), .string (bs [52]), .string (bs [52])] 2 rfl rfl
  have hbz := hb16'.alloc hb16'.size (.cells #[.string (bs [48]), .string (bs [49]), .string (bs [52]), .string (bs [52])] 24)
  have hal := (Below.refl w16.heap.size w16).alloc (Nat.le_refl _) (.cells #[.string (bs [48]), .string (bs [49]), .string (bs [52]), .string (bs [52])] 24)
  have HSM := Lib.hid (same_yes _ _ _ _ (HV6.out.2.1.below hal) hrd (by decide))
  have HZ := Lib.hid (And.intro hbz (And.intro (HV6.out.1.below hal) (HV6.out.2.2.below hal)))
  clear hrd hbz hal HV6 hb16'
  go_wp2_with fail
  refine (HSM.out).mono ?_
  rintro e wB ⟨rfl, nC, rfl⟩
  have HSN := Lib.hid (same_yes _ _ _ _ (HZ.out.2.2.below (below_drewN (Below.refl _ _) nC)) (HZ.out.2.1.below (below_drewN (Below.refl _ _) nC)) (by decide))
  go_wp2_with fail
  refine (HSN.out).mono ?_
  rintro e wB ⟨rfl, nD, rfl⟩
  go_wp2
  go_ret
  exact Ret.of rfl (below_drewN HZ.out.1 _)
end W
end Go.Proofs.YtpjaoapnangccaaGreatDoor
