/-
  'TopGaugeWorn' returns true for all plates and bytes, and leaves them as they were: the card. Conditions: none of its own; the row lists the library's variables.
-/
import Derived.Test.YtellemlhhlafcaaGreatDoorLQF
import Derived.Lib.SmallJoins
import Derived.ChangeMaps5
import Derived.Test.YtellemlhhlafcaaGreatDoorLOH
section
namespace Go.Proofs.YtellemlhhlafcaaGreatDoor
open Go Go.RowKit Go.ChangeShapes Go.WideShapes Go.ChangeAt Go.Deep
namespace Kgw
set_option maxRecDepth 100000
set_option maxHeartbeats 20000000
theorem contract (H : Type) (enc : TypeId × Value → H) (W : World) (base : Nat) (args : Array Value) (ds gs : List (DataW H)) (before : List MemPlace)
    (hval : ∀ (j : Nat) t v, Tryz.f5.params[j]? = some t → args[j]? = some v → Value.okWide Tryz.prog W .any base t v)
    (hW : DataW.Whole enc Tryz.prog Tryz.f5.params.toList Rows.topGaugeWornSpec.vars false W args.toList ds gs before) (hz : (DataW.weightsEach Tryz.prog (Tryz.f5.params.toList ++ (OpenSpec.ofChange Rows.topGaugeWornSpec).bare.plain.varTypes Tryz.prog) (ds ++ gs)).all (· ≤ reachBytes) = true) (hL : laidMetH Tryz.prog Rows.topGaugeWornRow.laid W) (hS : W.ShapedOpen Tryz.prog) :
    Calls Tryz.prog 5 args W fun e W' => ∃ v, e = .returned v ∧ Rows.topGaugeWornSpec.post enc Tryz.prog Tryz.f5 false true false false W args v W' := by
  have hW' := hW
  obtain ⟨p, q, hA0, hV, rfl, hfz, hnd⟩ := hW
  have hA : DataW.TrodAll enc Tryz.prog W 0 (fun _ => true) true Tryz.f5.params.toList args.toList ds p := hA0
  rw [Tryz.params5] at hA hval hz
  obtain ⟨v0, vs0, d0, ds0, p0, q0, h0a, rfl, rfl, h0, r0⟩ := trodAll_cons hA
  obtain ⟨v1, vs1, d1, ds1, p1, q1, h1a, rfl, rfl, h1, r1⟩ := trodAll_cons r0
  obtain ⟨v2, vs2, d2, ds2, p2, q2, h2a, rfl, rfl, h2, r2⟩ := trodAll_cons r1
  obtain ⟨rfl, rfl, rfl⟩ := trodAll_nil r2
  obtain rfl : args = #[v0, v1, v2] := by cases args; simp_all
  obtain ⟨rfl, rfl⟩ := trodVars_none hV
  obtain ⟨hg, hs⟩ := Fin.glob46 hL hS
  have hs0 := okWide_slice Tryz.underlying33 (hval 0 33 v0 rfl rfl)
  obtain ⟨l0, hrd0, hln0, hcp0⟩ := Fin.open_gl hs0 h0
  have hs1 := okWide_slice Tryz.underlying34 (hval 1 34 v1 rfl rfl)
  obtain ⟨l1, hrd1, hln1, hcp1⟩ := Fin.open_cl hs1 h1
  obtain ⟨ba, bb, bc, rfl, hba, hbb, hbc⟩ := Fin.open_b3 (hval 2 65 v2 rfl rfl) h2
  refine (_root_.Go.Proofs.YtellemlhhlafcaaGreatDoor.W.worn_law v0 v1 l0 l1 ba bb bc _ hg hs hrd0 hrd1 hln0 hln1 hba hbb hbc).mono fun e W' ⟨he, hb⟩ => ?_
  subst he
  exact ⟨_, rfl, Fin.post_true hW' rfl rfl rfl (by kernel_rfl) hb⟩
theorem witness (os : Os) {H : Type} (enc : TypeId × Value → H) :
    (OpenSpec.ofChange Rows.topGaugeWornSpec).preRow enc Tryz.prog Tryz.f5 Rows.topGaugeWornRow.domain false Rows.topGaugeWornRow.laid ((Fin.laidWorld46 os).forCall (fun _ _ => 0) ⟨#[], #[.slice none 0 0, .slice none 0 0, .agg #[.int .u8 0, .int .u8 0, .int .u8 0]], []⟩).memory #[.slice none 0 0, .slice none 0 0, .agg #[.int .u8 0, .int .u8 0, .int .u8 0]] := by
  have hw : (DataW.whole enc Tryz.prog ((Fin.laidWorld46 os).forCall (fun _ _ => 0) ⟨#[], #[.slice none 0 0, .slice none 0 0, .agg #[.int .u8 0, .int .u8 0, .int .u8 0]], []⟩).memory Tryz.f5.params.toList Rows.topGaugeWornSpec.vars false (#[.slice none 0 0, .slice none 0 0, .agg #[.int .u8 0, .int .u8 0, .int .u8 0]] : Array Value).toList 8).map (fun x => (x.1, x.2.1)) = some ([.nil, .nil, .agg [.lit (.int .u8 0), .lit (.int .u8 0), .lit (.int .u8 0)]], []) := by kernel_rfl
  obtain ⟨⟨x1, x2, x3⟩, hx, hx1⟩ := Option.map_eq_some_iff.1 hw
  simp only [Prod.mk.injEq] at hx1
  obtain ⟨rfl, rfl⟩ := hx1
  exact OpenSpec.preRow_of_cond 8 hx (by kernel_rfl) (fun k hk => by cases hk) (by kernel_rfl) (Fin.laid_met46 os _)
theorem lifted (os : Os) (started : os.Started) (H : Type) (enc : TypeId × Value → H) (F : Stop.Interp) :
    ReturnsInHanded {} Tryz.checked os 5 .any ((OpenSpec.ofChange Rows.topGaugeWornSpec).preRow enc Tryz.prog Tryz.f5 Rows.topGaugeWornRow.domain false Rows.topGaugeWornRow.laid) (((OpenSpec.ofChange Rows.topGaugeWornSpec).at F).post enc Tryz.prog Tryz.f5 false true false false) := by
  refine returnsInHanded_of_row (C := Tryz.checked) (s := OpenSpec.ofChange Rows.topGaugeWornSpec) Fin.own started (by kernel_rfl) Tryz.func5
    (witness_row_atRef (enc := enc) (C := Tryz.checked) false (Fin.laidWorld46 os) #[.slice none 0 0, .slice none 0 0, .agg #[.int .u8 0, .int .u8 0, .int .u8 0]] rfl (by kernel_rfl) (by kernel_rfl) (by kernel_rfl) (witness os enc)) ?_
  intro W base args ds gs before hval hW _ _ hz hL hS _
  exact contract H enc W base args ds gs before hval hW hz hL hS
theorem closed : joinedFacts Tryz.pinned.checked.prog 5 Tryz.f5 (OpenSpec.ofChange Rows.topGaugeWornSpec).bare Rows.topGaugeWornRow = true := by
  unfold joinedFacts
  simp only [Bool.and_eq_true]
  repeat' (apply And.intro)
  all_goals (as_aux_lemma => kernel_rfl)
theorem said : Rows.TopGaugeWornSaid :=
  OpenClaim.holds_of_cond 5 Tryz.f5 rfl rfl rfl rfl rfl rfl rfl ⟨rfl, rfl, rfl, rfl, rfl⟩ rfl rfl rfl rfl rfl (by kernel_rfl) Tryz.func5 closed
    (of_decide_eq_true (by kernel_rfl)) (by unfold Func.isWrapper; first | (rw [if_pos (by decide +kernel)]; kernel_rfl) | (rw [if_neg (by decide +kernel)]; exact ⟨rfl, rfl⟩))
    (fun os started H enc _ F => by rw [OpenClaim.pre_eq_preRow]; exact lifted os started H enc F)
theorem plain (f : FuncId) (fn : Func) (hf : Tryz.pinned.checked.prog.funcNamed "metrolab/metrolabtop.TopGaugeWorn" = some f) (hfn : Tryz.pinned.checked.prog.funcs[f]? = some fn) :
    true = Tryz.pinned.checked.prog.looks [] ∧ ∀ (j : Nat) t, fn.params[j]? = some t → Tryz.pinned.checked.prog.wantsStandIn t = false := by
  obtain rfl : f = 5 := Option.some.inj ((show Tryz.prog.funcNamed "metrolab/metrolabtop.TopGaugeWorn" = some 5 by kernel_rfl).symm.trans hf) |>.symm
  obtain rfl : fn = Tryz.f5 := (Option.some.inj (Tryz.func5.symm.trans hfn)).symm
  refine ⟨by kernel_rfl, fun j t ht => ?_⟩
  have hall : (Tryz.f5.params.toList.all fun t => !(Tryz.prog.wantsStandIn t)) = true := by kernel_rfl
  rw [List.all_eq_true] at hall
  have hm : t ∈ Tryz.f5.params.toList := by
    have := Array.mem_of_getElem? ht
    simpa using this
  have := hall t hm
  rwa [Bool.not_eq_true'] at this
end Kgw
theorem topGaugeWorn_holds : Rows.TopGaugeWornCardSaid :=
  Claim7.holds_tied_plain_at .later [] _ _ _ _ Kgw.said (fun _ h => by cases h) (by as_aux_lemma => kernel_rfl) (fun _ h => by cases h) topGaugeWorn_row_tie rfl ⟨rfl, rfl⟩ (by as_aux_lemma => kernel_rfl) rfl Kgw.plain (by as_aux_lemma => kernel_rfl)
end Go.Proofs.YtellemlhhlafcaaGreatDoor
end
