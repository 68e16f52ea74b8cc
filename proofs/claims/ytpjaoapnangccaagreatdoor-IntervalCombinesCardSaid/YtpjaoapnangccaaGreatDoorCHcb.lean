/-
  'IntervalCombines' returns true for all spans and numbers: the card. Conditions: none of its own; the row lists the library's variables.
-/
import Derived.Test.YtpjaoapnangccaaGreatDoorKQ
import Derived.Lib.SmallJoins
import Derived.ChangeMaps5
import Derived.Test.YtpjaoapnangccaaGreatDoorKP
namespace Go.Proofs.YtpjaoapnangccaaGreatDoor
open Go Go.RowKit Go.ChangeShapes Go.WideShapes Go.ChangeAt Go.Deep
namespace Hcb
set_option maxRecDepth 100000
theorem contract (H : Type) (enc : TypeId × Value → H) (W : World) (base : Nat) (args : Array Value) (ds gs : List (DataW H)) (before : List MemPlace)
    (hval : ∀ (j : Nat) t v, Tryz.f3.params[j]? = some t → args[j]? = some v → Value.okWide Tryz.prog W .any base t v)
    (hW : DataW.Whole enc Tryz.prog Tryz.f3.params.toList Rows.intervalCombinesSpec.vars false W args.toList ds gs before) (hz : (DataW.weightsEach Tryz.prog (Tryz.f3.params.toList ++ (OpenSpec.ofChange Rows.intervalCombinesSpec).bare.plain.varTypes Tryz.prog) (ds ++ gs)).all (· ≤ reachBytes) = true) (hL : laidMetH Tryz.prog Rows.intervalCombinesRow.laid W) (hS : W.ShapedOpen Tryz.prog) :
    Calls Tryz.prog 3 args W fun e W' => ∃ v, e = .returned v ∧ Rows.intervalCombinesSpec.post enc Tryz.prog Tryz.f3 false true false false W args v W' := by
  have hW' := hW
  obtain ⟨p, q, hA0, hV, rfl, hfz, hnd⟩ := hW
  have hA : DataW.TrodAll enc Tryz.prog W 0 (fun _ => true) true Tryz.f3.params.toList args.toList ds p := hA0
  rw [Tryz.params3] at hA hval hz
  obtain ⟨v0, vs0, d0, ds0, p0, q0, h0a, rfl, rfl, h0, r0⟩ := trodAll_cons hA
  obtain ⟨v1, vs1, d1, ds1, p1, q1, h1a, rfl, rfl, h1, r1⟩ := trodAll_cons r0
  obtain ⟨v2, vs2, d2, ds2, p2, q2, h2a, rfl, rfl, h2, r2⟩ := trodAll_cons r1
  obtain ⟨rfl, rfl, rfl⟩ := trodAll_nil r2
  obtain rfl : args = #[v0, v1, v2] := by cases args; simp_all
  obtain ⟨rfl, rfl⟩ := trodVars_none hV
  have hg := Fin.glob hL hS
  obtain ⟨ua0, ub0, ya0, yb0, n0, rfl, rfl, hp0, ta0, tb0⟩ := Go.Joins.open_agg2 Tryz.underlying24 (by kernel_rfl) (by kernel_rfl) (hval 0 24 v0 rfl rfl) h0
  obtain ⟨ba0, hba0, _, hma0⟩ := DataW.trod_string Tryz.underlying22 ta0
  obtain ⟨bb0, hbb0, _, hmb0⟩ := DataW.trod_string Tryz.underlying22 tb0
  simp only [List.cons.injEq, and_true] at hba0 hbb0
  subst hba0
  subst hbb0
  obtain ⟨la0, rfl⟩ := bs_of ba0
  obtain ⟨lb0, rfl⟩ := bs_of bb0
  replace hma0 := Fin.bs_size hma0
  replace hmb0 := Fin.bs_size hmb0
  obtain ⟨ua1, ub1, ya1, yb1, n1, rfl, rfl, hp1, ta1, tb1⟩ := Go.Joins.open_agg2 Tryz.underlying24 (by kernel_rfl) (by kernel_rfl) (hval 1 24 v1 rfl rfl) h1
  obtain ⟨ba1, hba1, _, hma1⟩ := DataW.trod_string Tryz.underlying22 ta1
  obtain ⟨bb1, hbb1, _, hmb1⟩ := DataW.trod_string Tryz.underlying22 tb1
  simp only [List.cons.injEq, and_true] at hba1 hbb1
  subst hba1
  subst hbb1
  obtain ⟨la1, rfl⟩ := bs_of ba1
  obtain ⟨lb1, rfl⟩ := bs_of bb1
  replace hma1 := Fin.bs_size hma1
  replace hmb1 := Fin.bs_size hmb1
  obtain ⟨b2, rfl, rfl, _, hm2⟩ := Go.ChangeMaps.open_string Tryz.underlying22 (hval 2 22 v2 rfl rfl) h2
  have hsz2 := sized_string hz (j := 2) (t := 22) rfl rfl
  obtain ⟨pt, rfl⟩ := bs_of b2
  rw [show (bs pt).data.toList = pt by simp [bs]] at hsz2
  simp only [reachBytes] at hsz2
  refine (_root_.Go.Proofs.YtpjaoapnangccaaGreatDoor.W.combines_law (la0, lb0) (la1, lb1) pt _ hg hma0 hmb0 hma1 hmb1 (by unfold maxLen; omega)).mono fun e W' ⟨he, hb⟩ => ?_
  subst he
  exact ⟨_, rfl, Fin.post_true hW' rfl rfl rfl (by kernel_rfl) hb⟩
theorem witness (os : Os) {H : Type} (enc : TypeId × Value → H) :
    (OpenSpec.ofChange Rows.intervalCombinesSpec).preRow enc Tryz.prog Tryz.f3 Rows.intervalCombinesRow.domain false Rows.intervalCombinesRow.laid ((Fin.laidWorld os).forCall (fun _ _ => 0) ⟨#[], #[.agg #[.string ⟨#[]⟩, .string ⟨#[]⟩], .agg #[.string ⟨#[]⟩, .string ⟨#[]⟩], .string ⟨#[]⟩], []⟩).memory #[.agg #[.string ⟨#[]⟩, .string ⟨#[]⟩], .agg #[.string ⟨#[]⟩, .string ⟨#[]⟩], .string ⟨#[]⟩] := by
  have hw : (DataW.whole enc Tryz.prog ((Fin.laidWorld os).forCall (fun _ _ => 0) ⟨#[], #[.agg #[.string ⟨#[]⟩, .string ⟨#[]⟩], .agg #[.string ⟨#[]⟩, .string ⟨#[]⟩], .string ⟨#[]⟩], []⟩).memory Tryz.f3.params.toList Rows.intervalCombinesSpec.vars false (#[.agg #[.string ⟨#[]⟩, .string ⟨#[]⟩], .agg #[.string ⟨#[]⟩, .string ⟨#[]⟩], .string ⟨#[]⟩] : Array Value).toList 8).map (fun x => (x.1, x.2.1)) = some ([.agg [.lit (.string []), .lit (.string [])], .agg [.lit (.string []), .lit (.string [])], .lit (.string [])], []) := by kernel_rfl
  obtain ⟨⟨x1, x2, x3⟩, hx, hx1⟩ := Option.map_eq_some_iff.1 hw
  simp only [Prod.mk.injEq] at hx1
  obtain ⟨rfl, rfl⟩ := hx1
  exact OpenSpec.preRow_of_cond 8 hx (by kernel_rfl) (fun k hk => by cases hk) (by kernel_rfl) (Fin.laid_met os _)
theorem lifted (os : Os) (started : os.Started) (H : Type) (enc : TypeId × Value → H) (F : Stop.Interp) :
    ReturnsInHanded {} Tryz.checked os 3 .any ((OpenSpec.ofChange Rows.intervalCombinesSpec).preRow enc Tryz.prog Tryz.f3 Rows.intervalCombinesRow.domain false Rows.intervalCombinesRow.laid) (((OpenSpec.ofChange Rows.intervalCombinesSpec).at F).post enc Tryz.prog Tryz.f3 false true false false) := by
  refine returnsInHanded_of_row (C := Tryz.checked) (s := OpenSpec.ofChange Rows.intervalCombinesSpec) Fin.own started (by kernel_rfl) Tryz.func3
    (witness_row_atRef (enc := enc) (C := Tryz.checked) false (Fin.laidWorld os) #[.agg #[.string ⟨#[]⟩, .string ⟨#[]⟩], .agg #[.string ⟨#[]⟩, .string ⟨#[]⟩], .string ⟨#[]⟩] rfl (by kernel_rfl) (by kernel_rfl) (by kernel_rfl) (witness os enc)) ?_
  intro W base args ds gs before hval hW _ _ hz hL hS _
  exact contract H enc W base args ds gs before hval hW hz hL hS
theorem said : Rows.IntervalCombinesSaid :=
  OpenClaim.holds_of_cond 3 Tryz.f3 rfl rfl rfl rfl rfl rfl rfl ⟨rfl, rfl, rfl, rfl, rfl⟩ rfl rfl rfl rfl rfl (by kernel_rfl) Tryz.func3 (by kernel_rfl)
    (of_decide_eq_true (by kernel_rfl)) (by unfold Func.isWrapper; first | (rw [if_pos (by decide +kernel)]; kernel_rfl) | (rw [if_neg (by decide +kernel)]; exact ⟨rfl, rfl⟩))
    (fun os started H enc _ F => by rw [OpenClaim.pre_eq_preRow]; exact lifted os started H enc F)
theorem plain (f : FuncId) (fn : Func) (hf : Tryz.pinned.checked.prog.funcNamed "metrolab/metrolablaw03.IntervalCombines" = some f) (hfn : Tryz.pinned.checked.prog.funcs[f]? = some fn) :
    true = Tryz.pinned.checked.prog.looks [] ∧ ∀ (j : Nat) t, fn.params[j]? = some t → Tryz.pinned.checked.prog.wantsStandIn t = false := by
  obtain rfl : f = 3 := Option.some.inj ((show Tryz.prog.funcNamed "metrolab/metrolablaw03.IntervalCombines" = some 3 by kernel_rfl).symm.trans hf) |>.symm
  obtain rfl : fn = Tryz.f3 := (Option.some.inj (Tryz.func3.symm.trans hfn)).symm
  refine ⟨by kernel_rfl, fun j t ht => ?_⟩
  have hall : (Tryz.f3.params.toList.all fun t => !(Tryz.prog.wantsStandIn t)) = true := by kernel_rfl
  rw [List.all_eq_true] at hall
  have hm : t ∈ Tryz.f3.params.toList := by
    have := Array.mem_of_getElem? ht
    simpa using this
  have := hall t hm
  rwa [Bool.not_eq_true'] at this
end Hcb
theorem intervalCombines_holds : Rows.IntervalCombinesCardSaid :=
  Claim7.holds_tied_plain_at .later [] _ _ _ _ Hcb.said (fun _ h => by cases h) (by kernel_rfl) (fun _ h => by cases h) intervalCombines_row_tie rfl ⟨rfl, rfl⟩ (by kernel_rfl) rfl Hcb.plain (by kernel_rfl)
end Go.Proofs.YtpjaoapnangccaaGreatDoor
