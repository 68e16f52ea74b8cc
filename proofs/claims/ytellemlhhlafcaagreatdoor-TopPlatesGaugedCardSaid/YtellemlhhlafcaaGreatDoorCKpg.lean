/-
  'TopPlatesGauged' returns true for all joints and plates, and leaves them as they were: the card. Conditions: none of its own; the row lists the library's variables.
-/
import Derived.Test.YtellemlhhlafcaaGreatDoorMQF
import Derived.Lib.SmallJoins
import Derived.ChangeMaps5
import Derived.Test.YtellemlhhlafcaaGreatDoorMPF
section
namespace Go.Proofs.YtellemlhhlafcaaGreatDoor
open Go Go.RowKit Go.ChangeShapes Go.WideShapes Go.ChangeAt Go.Deep
namespace Kpg
set_option maxRecDepth 100000
set_option maxHeartbeats 20000000
theorem contract (H : Type) (enc : TypeId × Value → H) (W : World) (base : Nat) (args : Array Value) (ds gs : List (DataW H)) (before : List MemPlace)
    (hval : ∀ (j : Nat) t v, Tryz.f6.params[j]? = some t → args[j]? = some v → Value.okWide Tryz.prog W .any base t v)
    (hW : DataW.Whole enc Tryz.prog Tryz.f6.params.toList Rows.topPlatesGaugedSpec.vars false W args.toList ds gs before) (hz : (DataW.weightsEach Tryz.prog (Tryz.f6.params.toList ++ (OpenSpec.ofChange Rows.topPlatesGaugedSpec).bare.plain.varTypes Tryz.prog) (ds ++ gs)).all (· ≤ reachBytes) = true) (hL : laidMetH Tryz.prog Rows.topPlatesGaugedRow.laid W) (hS : W.ShapedOpen Tryz.prog) :
    Calls Tryz.prog 6 args W fun e W' => ∃ v, e = .returned v ∧ Rows.topPlatesGaugedSpec.post enc Tryz.prog Tryz.f6 false true false false W args v W' := by
  have hW' := hW
  obtain ⟨p, q, hA0, hV, rfl, hfz, hnd⟩ := hW
  have hA : DataW.TrodAll enc Tryz.prog W 0 (fun _ => true) true Tryz.f6.params.toList args.toList ds p := hA0
  rw [Tryz.params6] at hA hval hz
  obtain ⟨v0, vs0, d0, ds0, p0, q0, h0a, rfl, rfl, h0, r0⟩ := trodAll_cons hA
  obtain ⟨v1, vs1, d1, ds1, p1, q1, h1a, rfl, rfl, h1, r1⟩ := trodAll_cons r0
  obtain ⟨rfl, rfl, rfl⟩ := trodAll_nil r1
  obtain rfl : args = #[v0, v1] := by cases args; simp_all
  obtain ⟨rfl, rfl⟩ := trodVars_none hV
  obtain ⟨hg, hs⟩ := Fin.glob46 hL hS
  obtain ⟨va, vb, la, lb, rfl, hra, hrb, hna, _⟩ := Fin.open_jo (hval 0 70 v0 rfl rfl) h0
  obtain ⟨vp, vq, lp, lq, rfl, hrp, hrq, _, _⟩ := Fin.open_pl (hval 1 72 v1 rfl rfl) h1
  refine (_root_.Go.Proofs.YtellemlhhlafcaaGreatDoor.W.gauged_law va vb vp vq la lb lp lq _ hg hs hra hrb hrp hrq hna).mono fun e W' ⟨he, hb⟩ => ?_
  subst he
  exact ⟨_, rfl, Fin.post_true hW' rfl rfl rfl (by kernel_rfl) hb⟩
theorem witness (os : Os) {H : Type} (enc : TypeId × Value → H) :
    (OpenSpec.ofChange Rows.topPlatesGaugedSpec).preRow enc Tryz.prog Tryz.f6 Rows.topPlatesGaugedRow.domain false Rows.topPlatesGaugedRow.laid ((Fin.laidWorld46 os).forCall (fun _ _ => 0) ⟨#[], #[.agg #[.slice none 0 0, .slice none 0 0], .agg #[.slice none 0 0, .slice none 0 0]], []⟩).memory #[.agg #[.slice none 0 0, .slice none 0 0], .agg #[.slice none 0 0, .slice none 0 0]] := by
  have hw : (DataW.whole enc Tryz.prog ((Fin.laidWorld46 os).forCall (fun _ _ => 0) ⟨#[], #[.agg #[.slice none 0 0, .slice none 0 0], .agg #[.slice none 0 0, .slice none 0 0]], []⟩).memory Tryz.f6.params.toList Rows.topPlatesGaugedSpec.vars false (#[.agg #[.slice none 0 0, .slice none 0 0], .agg #[.slice none 0 0, .slice none 0 0]] : Array Value).toList 8).map (fun x => (x.1, x.2.1)) = some ([.agg [.nil, .nil], .agg [.nil, .nil]], []) := by kernel_rfl
  obtain ⟨⟨x1, x2, x3⟩, hx, hx1⟩ := Option.map_eq_some_iff.1 hw
  simp only [Prod.mk.injEq] at hx1
  obtain ⟨rfl, rfl⟩ := hx1
  exact OpenSpec.preRow_of_cond 8 hx (by kernel_rfl) (fun k hk => by cases hk) (by kernel_rfl) (Fin.laid_met46 os _)
theorem lifted (os : Os) (started : os.Started) (H : Type) (enc : TypeId × Value → H) (F : Stop.Interp) :
    ReturnsInHanded {} Tryz.checked os 6 .any ((OpenSpec.ofChange Rows.topPlatesGaugedSpec).preRow enc Tryz.prog Tryz.f6 Rows.topPlatesGaugedRow.domain false Rows.topPlatesGaugedRow.laid) (((OpenSpec.ofChange Rows.topPlatesGaugedSpec).at F).post enc Tryz.prog Tryz.f6 false true false false) := by
  refine returnsInHanded_of_row (C := Tryz.checked) (s := OpenSpec.ofChange Rows.topPlatesGaugedSpec) Fin.own started (by kernel_rfl) Tryz.func6
    (witness_row_atRef (enc := enc) (C := Tryz.checked) false (Fin.laidWorld46 os) #[.agg #[.slice none 0 0, .slice none 0 0], .agg #[.slice none 0 0, .slice none 0 0]] rfl (by kernel_rfl) (by kernel_rfl) (by kernel_rfl) (witness os enc)) ?_
  intro W base args ds gs before hval hW _ _ hz hL hS _
  exact contract H enc W base args ds gs before hval hW hz hL hS
theorem closed : joinedFacts Tryz.pinned.checked.prog 6 Tryz.f6 (OpenSpec.ofChange Rows.topPlatesGaugedSpec).bare Rows.topPlatesGaugedRow = true := by
  unfold joinedFacts
  simp only [Bool.and_eq_true]
  repeat' (apply And.intro)
  all_goals (as_aux_lemma => kernel_rfl)
theorem said : Rows.TopPlatesGaugedSaid :=
  OpenClaim.holds_of_cond 6 Tryz.f6 rfl rfl rfl rfl rfl rfl rfl ⟨rfl, rfl, rfl, rfl, rfl⟩ rfl rfl rfl rfl rfl (by kernel_rfl) Tryz.func6 closed
    (of_decide_eq_true (by kernel_rfl)) (by unfold Func.isWrapper; first | (rw [if_pos (by decide +kernel)]; kernel_rfl) | (rw [if_neg (by decide +kernel)]; exact ⟨rfl, rfl⟩))
    (fun os started H enc _ F => by rw [OpenClaim.pre_eq_preRow]; exact lifted os started H enc F)
theorem plain (f : FuncId) (fn : Func) (hf : Tryz.pinned.checked.prog.funcNamed "metrolab/metrolabtop.TopPlatesGauged" = some f) (hfn : Tryz.pinned.checked.prog.funcs[f]? = some fn) :
    true = Tryz.pinned.checked.prog.looks [] ∧ ∀ (j : Nat) t, fn.params[j]? = some t → Tryz.pinned.checked.prog.wantsStandIn t = false := by
  obtain rfl : f = 6 := Option.some.inj ((show Tryz.prog.funcNamed "metrolab/metrolabtop.TopPlatesGauged" = some 6 by kernel_rfl).symm.trans hf) |>.symm
  obtain rfl : fn = Tryz.f6 := (Option.some.inj (Tryz.func6.symm.trans hfn)).symm
  refine ⟨by kernel_rfl, fun j t ht => ?_⟩
  have hall : (Tryz.f6.params.toList.all fun t => !(Tryz.prog.wantsStandIn t)) = true := by kernel_rfl
  rw [List.all_eq_true] at hall
  have hm : t ∈ Tryz.f6.params.toList := by
    have := Array.mem_of_getElem? ht
    simpa using this
  have := hall t hm
  rwa [Bool.not_eq_true'] at this
end Kpg
theorem topPlatesGauged_holds : Rows.TopPlatesGaugedCardSaid :=
  Claim7.holds_tied_plain_at .later [] _ _ _ _ Kpg.said (fun _ h => by cases h) (by as_aux_lemma => kernel_rfl) (fun _ h => by cases h) topPlatesGauged_row_tie rfl ⟨rfl, rfl⟩ (by as_aux_lemma => kernel_rfl) rfl Kpg.plain (by as_aux_lemma => kernel_rfl)
end Go.Proofs.YtellemlhhlafcaaGreatDoor
end
