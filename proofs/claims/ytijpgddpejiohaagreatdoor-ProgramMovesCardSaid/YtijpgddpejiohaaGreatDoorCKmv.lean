/-
  'ProgramMoves' returns true for all ints, bounds, vectors and goals, and leaves them as they were: the card. Conditions: none of its own; the row lists the library's variables.
-/
import Derived.Test.YtijpgddpejiohaaGreatDoorLI
import Derived.Lib.SmallJoins
import Derived.ChangeMaps5
import Derived.Test.YtijpgddpejiohaaGreatDoorLX
section
namespace Go.Proofs.YtijpgddpejiohaaGreatDoor
open Go Go.RowKit Go.ChangeShapes Go.WideShapes Go.ChangeAt Go.Deep
namespace Kmv
set_option maxRecDepth 100000
set_option maxHeartbeats 20000000
theorem contract (H : Type) (enc : TypeId × Value → H) (W : World) (base : Nat) (args : Array Value) (ds gs : List (DataW H)) (before : List MemPlace)
    (hval : ∀ (j : Nat) t v, Tryz.f3.params[j]? = some t → args[j]? = some v → Value.okWide Tryz.prog W .any base t v)
    (hW : DataW.Whole enc Tryz.prog Tryz.f3.params.toList Rows.programMovesSpec.vars false W args.toList ds gs before) (hz : (DataW.weightsEach Tryz.prog (Tryz.f3.params.toList ++ (OpenSpec.ofChange Rows.programMovesSpec).bare.plain.varTypes Tryz.prog) (ds ++ gs)).all (· ≤ reachBytes) = true) (hL : laidMetH Tryz.prog Rows.programMovesRow.laid W) (hS : W.ShapedOpen Tryz.prog) :
    Calls Tryz.prog 3 args W fun e W' => ∃ v, e = .returned v ∧ Rows.programMovesSpec.post enc Tryz.prog Tryz.f3 false true false false W args v W' := by
  have hW' := hW
  obtain ⟨p, q, hA0, hV, rfl, hfz, hnd⟩ := hW
  have hA : DataW.TrodAll enc Tryz.prog W 0 (fun _ => true) true Tryz.f3.params.toList args.toList ds p := hA0
  rw [Tryz.params3] at hA hval hz
  obtain ⟨v0, vs0, d0, ds0, p0, q0, h0a, rfl, rfl, h0, r0⟩ := trodAll_cons hA
  obtain ⟨v1, vs1, d1, ds1, p1, q1, h1a, rfl, rfl, h1, r1⟩ := trodAll_cons r0
  obtain ⟨v2, vs2, d2, ds2, p2, q2, h2a, rfl, rfl, h2, r2⟩ := trodAll_cons r1
  obtain ⟨rfl, rfl, rfl⟩ := trodAll_nil r2
  obtain rfl : args = #[v0, v1, v2] := by cases args; simp_all
  obtain ⟨rfl, rfl⟩ := trodVars_none hV
  have hg := Fin.glob hL hS
  obtain ⟨ka, rfl, rfl, _, _⟩ := open_int Tryz.underlying3 (hval 0 3 v0 rfl rfl) h0
  have hs1 := okWide_slice Tryz.underlying22 (hval 1 22 v1 rfl rfl)
  obtain ⟨l1, hrd1, hln1, hls1⟩ := Fin.open_bl hs1 h1
  obtain ⟨ua, ub, la, lb, rfl, a1, a2, a3, a4, a5, a6⟩ := Fin.open_al (hval 2 24 v2 rfl rfl) h2
  refine (_root_.Go.Proofs.YtijpgddpejiohaaGreatDoor.W.moves_law ka v1 ua ub l1 la lb _ hg hrd1 a1 a2 hln1 hls1 a3 a4 a5 a6).mono fun e W' ⟨he, hb⟩ => ?_
  subst he
  exact ⟨_, rfl, Fin.post_true hW' rfl rfl rfl (by kernel_rfl) hb⟩
theorem witness (os : Os) {H : Type} (enc : TypeId × Value → H) :
    (OpenSpec.ofChange Rows.programMovesSpec).preRow enc Tryz.prog Tryz.f3 Rows.programMovesRow.domain false Rows.programMovesRow.laid ((Fin.laidWorld os).forCall (fun _ _ => 0) ⟨#[], #[.int .i64 0, .slice none 0 0, .agg #[.slice none 0 0, .slice none 0 0]], []⟩).memory #[.int .i64 0, .slice none 0 0, .agg #[.slice none 0 0, .slice none 0 0]] := by
  have hw : (DataW.whole enc Tryz.prog ((Fin.laidWorld os).forCall (fun _ _ => 0) ⟨#[], #[.int .i64 0, .slice none 0 0, .agg #[.slice none 0 0, .slice none 0 0]], []⟩).memory Tryz.f3.params.toList Rows.programMovesSpec.vars false (#[.int .i64 0, .slice none 0 0, .agg #[.slice none 0 0, .slice none 0 0]] : Array Value).toList 8).map (fun x => (x.1, x.2.1)) = some ([.lit (.int .i64 0), .nil, .agg [.nil, .nil]], []) := by kernel_rfl
  obtain ⟨⟨x1, x2, x3⟩, hx, hx1⟩ := Option.map_eq_some_iff.1 hw
  simp only [Prod.mk.injEq] at hx1
  obtain ⟨rfl, rfl⟩ := hx1
  exact OpenSpec.preRow_of_cond 8 hx (by kernel_rfl) (fun k hk => by cases hk) (by kernel_rfl) (Fin.laid_met os _)
theorem lifted (os : Os) (started : os.Started) (H : Type) (enc : TypeId × Value → H) (F : Stop.Interp) :
    ReturnsInHanded {} Tryz.checked os 3 .any ((OpenSpec.ofChange Rows.programMovesSpec).preRow enc Tryz.prog Tryz.f3 Rows.programMovesRow.domain false Rows.programMovesRow.laid) (((OpenSpec.ofChange Rows.programMovesSpec).at F).post enc Tryz.prog Tryz.f3 false true false false) := by
  refine returnsInHanded_of_row (C := Tryz.checked) (s := OpenSpec.ofChange Rows.programMovesSpec) Fin.own started (by kernel_rfl) Tryz.func3
    (witness_row_atRef (enc := enc) (C := Tryz.checked) false (Fin.laidWorld os) #[.int .i64 0, .slice none 0 0, .agg #[.slice none 0 0, .slice none 0 0]] rfl (by kernel_rfl) (by kernel_rfl) (by kernel_rfl) (witness os enc)) ?_
  intro W base args ds gs before hval hW _ _ hz hL hS _
  exact contract H enc W base args ds gs before hval hW hz hL hS
theorem closed : joinedFacts Tryz.pinned.checked.prog 3 Tryz.f3 (OpenSpec.ofChange Rows.programMovesSpec).bare Rows.programMovesRow = true := by
  unfold joinedFacts
  simp only [Bool.and_eq_true]
  repeat' (apply And.intro)
  all_goals (as_aux_lemma => kernel_rfl)
theorem said : Rows.ProgramMovesSaid :=
  OpenClaim.holds_of_cond 3 Tryz.f3 rfl rfl rfl rfl rfl rfl rfl ⟨rfl, rfl, rfl, rfl, rfl⟩ rfl rfl rfl rfl rfl (by kernel_rfl) Tryz.func3 closed
    (of_decide_eq_true (by kernel_rfl)) (by unfold Func.isWrapper; first | (rw [if_pos (by decide +kernel)]; kernel_rfl) | (rw [if_neg (by decide +kernel)]; exact ⟨rfl, rfl⟩))
    (fun os started H enc _ F => by rw [OpenClaim.pre_eq_preRow]; exact lifted os started H enc F)
theorem plain (f : FuncId) (fn : Func) (hf : Tryz.pinned.checked.prog.funcNamed "metrolab/metrolablaw05.ProgramMoves" = some f) (hfn : Tryz.pinned.checked.prog.funcs[f]? = some fn) :
    true = Tryz.pinned.checked.prog.looks [] ∧ ∀ (j : Nat) t, fn.params[j]? = some t → Tryz.pinned.checked.prog.wantsStandIn t = false := by
  obtain rfl : f = 3 := Option.some.inj ((show Tryz.prog.funcNamed "metrolab/metrolablaw05.ProgramMoves" = some 3 by kernel_rfl).symm.trans hf) |>.symm
  obtain rfl : fn = Tryz.f3 := (Option.some.inj (Tryz.func3.symm.trans hfn)).symm
  refine ⟨by kernel_rfl, fun j t ht => ?_⟩
  have hall : (Tryz.f3.params.toList.all fun t => !(Tryz.prog.wantsStandIn t)) = true := by kernel_rfl
  rw [List.all_eq_true] at hall
  have hm : t ∈ Tryz.f3.params.toList := by
    have := Array.mem_of_getElem? ht
    simpa using this
  have := hall t hm
  rwa [Bool.not_eq_true'] at this
end Kmv
theorem programMoves_holds : Rows.ProgramMovesCardSaid :=
  Claim7.holds_tied_plain_at .later [] _ _ _ _ Kmv.said (fun _ h => by cases h) (by as_aux_lemma => kernel_rfl) (fun _ h => by cases h) programMoves_row_tie rfl ⟨rfl, rfl⟩ (by as_aux_lemma => kernel_rfl) rfl Kmv.plain (by as_aux_lemma => kernel_rfl)
end Go.Proofs.YtijpgddpejiohaaGreatDoor
end
