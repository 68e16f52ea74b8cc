/-
  'DistOrders' returns true for every list and every number, and leaves them as they were: the card. Conditions: none of its own; the row lists the library's variables.
-/
import Derived.Test.YtgjfiaadnecilaaGreatDoorKL
import Derived.Lib.SmallJoins
import Derived.ChangeMaps5
import Derived.Test.YtgjfiaadnecilaaGreatDoorKW
namespace Go.Proofs.YtgjfiaadnecilaaGreatDoor
open Go Go.RowKit Go.ChangeShapes Go.WideShapes Go.ChangeAt Go.Deep
namespace Gor
set_option maxRecDepth 100000
theorem contract (H : Type) (enc : TypeId × Value → H) (W : World) (base : Nat) (args : Array Value) (ds gs : List (DataW H)) (before : List MemPlace)
    (hval : ∀ (j : Nat) t v, Tryz.f10.params[j]? = some t → args[j]? = some v → Value.okWide Tryz.prog W .any base t v)
    (hW : DataW.Whole enc Tryz.prog Tryz.f10.params.toList Rows.distOrdersSpec.vars false W args.toList ds gs before) (hz : (DataW.weightsEach Tryz.prog (Tryz.f10.params.toList ++ (OpenSpec.ofChange Rows.distOrdersSpec).bare.plain.varTypes Tryz.prog) (ds ++ gs)).all (· ≤ reachBytes) = true) (hL : laidMetH Tryz.prog Rows.distOrdersRow.laid W) (hS : W.ShapedOpen Tryz.prog) :
    Calls Tryz.prog 10 args W fun e W' => ∃ v, e = .returned v ∧ Rows.distOrdersSpec.post enc Tryz.prog Tryz.f10 false true false false W args v W' := by
  have hW' := hW
  obtain ⟨p, q, hA0, hV, rfl, hfz, hnd⟩ := hW
  have hA : DataW.TrodAll enc Tryz.prog W 0 (fun _ => true) true Tryz.f10.params.toList args.toList ds p := hA0
  rw [Tryz.params10] at hA hval hz
  obtain ⟨v0, vs0, d0, ds0, p0, q0, h0a, rfl, rfl, h0, r0⟩ := trodAll_cons hA
  obtain ⟨v1, vs1, d1, ds1, p1, q1, h1a, rfl, rfl, h1, r1⟩ := trodAll_cons r0
  obtain ⟨rfl, rfl, rfl⟩ := trodAll_nil r1
  obtain rfl : args = #[v0, v1] := by cases args; simp_all
  obtain ⟨rfl, rfl⟩ := trodVars_none hV
  have hg := Fin.glob hL hS
  have hs0 := okWide_slice Tryz.underlying22 (hval 0 22 v0 rfl rfl)
  obtain ⟨l0, hrd0, hln0, hls0⟩ := Fin.open_wl hs0 h0
  obtain ⟨b1, rfl, rfl, _, _⟩ := Go.ChangeMaps.open_string Tryz.underlying25 (hval 1 25 v1 rfl rfl) h1
  have hsz1 := sized_string hz (j := 1) (t := 25) rfl rfl
  obtain ⟨pt, rfl⟩ := bs_of b1
  rw [show (bs pt).data.toList = pt by simp [bs]] at hsz1
  refine (_root_.Go.Proofs.YtgjfiaadnecilaaGreatDoor.W.orders_law v0 l0 pt _ hg hrd0 hln0 hls0 (by simp only [reachBytes] at hsz1; omega)).mono fun e W' ⟨he, hb⟩ => ?_
  subst he
  exact ⟨_, rfl, Fin.post_true hW' rfl rfl rfl (by kernel_rfl) hb⟩
theorem witness (os : Os) {H : Type} (enc : TypeId × Value → H) :
    (OpenSpec.ofChange Rows.distOrdersSpec).preRow enc Tryz.prog Tryz.f10 Rows.distOrdersRow.domain false Rows.distOrdersRow.laid ((Fin.laidWorld os).forCall (fun _ _ => 0) ⟨#[], #[.slice none 0 0, .string ⟨#[]⟩], []⟩).memory #[.slice none 0 0, .string ⟨#[]⟩] := by
  have hw : (DataW.whole enc Tryz.prog ((Fin.laidWorld os).forCall (fun _ _ => 0) ⟨#[], #[.slice none 0 0, .string ⟨#[]⟩], []⟩).memory Tryz.f10.params.toList Rows.distOrdersSpec.vars false (#[.slice none 0 0, .string ⟨#[]⟩] : Array Value).toList 8).map (fun x => (x.1, x.2.1)) = some ([.nil, .lit (.string [])], []) := by kernel_rfl
  obtain ⟨⟨x1, x2, x3⟩, hx, hx1⟩ := Option.map_eq_some_iff.1 hw
  simp only [Prod.mk.injEq] at hx1
  obtain ⟨rfl, rfl⟩ := hx1
  exact OpenSpec.preRow_of_cond 8 hx (by kernel_rfl) (fun k hk => by cases hk) (by kernel_rfl) (Fin.laid_met os _)
theorem lifted (os : Os) (started : os.Started) (H : Type) (enc : TypeId × Value → H) (F : Stop.Interp) :
    ReturnsInHanded {} Tryz.checked os 10 .any ((OpenSpec.ofChange Rows.distOrdersSpec).preRow enc Tryz.prog Tryz.f10 Rows.distOrdersRow.domain false Rows.distOrdersRow.laid) (((OpenSpec.ofChange Rows.distOrdersSpec).at F).post enc Tryz.prog Tryz.f10 false true false false) := by
  refine returnsInHanded_of_row (C := Tryz.checked) (s := OpenSpec.ofChange Rows.distOrdersSpec) Fin.own started (by kernel_rfl) Tryz.func10
    (witness_row_atRef (enc := enc) (C := Tryz.checked) false (Fin.laidWorld os) #[.slice none 0 0, .string ⟨#[]⟩] rfl (by kernel_rfl) (by kernel_rfl) (by kernel_rfl) (witness os enc)) ?_
  intro W base args ds gs before hval hW _ _ hz hL hS _
  exact contract H enc W base args ds gs before hval hW hz hL hS
theorem said : Rows.DistOrdersSaid :=
  OpenClaim.holds_of_cond 10 Tryz.f10 rfl rfl rfl rfl rfl rfl rfl ⟨rfl, rfl, rfl, rfl, rfl⟩ rfl rfl rfl rfl rfl (by kernel_rfl) Tryz.func10 (by kernel_rfl)
    (of_decide_eq_true (by kernel_rfl)) (by unfold Func.isWrapper; first | (rw [if_pos (by decide +kernel)]; kernel_rfl) | (rw [if_neg (by decide +kernel)]; exact ⟨rfl, rfl⟩))
    (fun os started H enc _ F => by rw [OpenClaim.pre_eq_preRow]; exact lifted os started H enc F)
theorem plain (f : FuncId) (fn : Func) (hf : Tryz.pinned.checked.prog.funcNamed "metrolab/metrolablaw26.DistOrders" = some f) (hfn : Tryz.pinned.checked.prog.funcs[f]? = some fn) :
    true = Tryz.pinned.checked.prog.looks [] ∧ ∀ (j : Nat) t, fn.params[j]? = some t → Tryz.pinned.checked.prog.wantsStandIn t = false := by
  obtain rfl : f = 10 := Option.some.inj ((show Tryz.prog.funcNamed "metrolab/metrolablaw26.DistOrders" = some 10 by kernel_rfl).symm.trans hf) |>.symm
  obtain rfl : fn = Tryz.f10 := (Option.some.inj (Tryz.func10.symm.trans hfn)).symm
  refine ⟨by kernel_rfl, fun j t ht => ?_⟩
  have hall : (Tryz.f10.params.toList.all fun t => !(Tryz.prog.wantsStandIn t)) = true := by kernel_rfl
  rw [List.all_eq_true] at hall
  have hm : t ∈ Tryz.f10.params.toList := by
    have := Array.mem_of_getElem? ht
    simpa using this
  have := hall t hm
  rwa [Bool.not_eq_true'] at this
end Gor
theorem distOrders_holds : Rows.DistOrdersCardSaid :=
  Claim7.holds_tied_plain_at .later [] _ _ _ _ Gor.said (fun _ h => by cases h) (by kernel_rfl) (fun _ h => by cases h) distOrders_row_tie rfl ⟨rfl, rfl⟩ (by kernel_rfl) rfl Gor.plain (by kernel_rfl)
end Go.Proofs.YtgjfiaadnecilaaGreatDoor
