/-
  Chapter 46: arguments that are pairs of targets, or of circles.
-/
import Derived.Test.YtfcffheboncmbaaGreatDoorKX
import Derived.Test.YtfcffheboncmbaaGreatDoorKAD
section
namespace Go.Proofs.YtfcffheboncmbaaGreatDoor
open Go Go.RowKit Go.ChangeShapes Go.WideShapes Go.ChangeAt Go.Deep
namespace Fin
set_option maxRecDepth 20000
section
variable {H : Type} {enc : TypeId × Value → H} {W : World}
theorem cellsT2 : Tryz.prog.cellsOf 59 = 14 := by kernel_rfl
theorem cellsC2 : Tryz.prog.cellsOf 60 = 6 := by kernel_rfl
theorem array14 {α : Type} {cs : Array α} (h : cs.size = 14) : ∃ c0 c1 c2 c3 c4 c5 c6 e0 e1 e2 e3 e4 e5 e6, cs = #[c0, c1, c2, c3, c4, c5, c6, e0, e1, e2, e3, e4, e5, e6] := by
  obtain ⟨l⟩ := cs
  match l, h with
  | [c0, c1, c2, c3, c4, c5, c6, e0, e1, e2, e3, e4, e5, e6], _ => exact ⟨c0, c1, c2, c3, c4, c5, c6, e0, e1, e2, e3, e4, e5, e6, rfl⟩
theorem array6 {α : Type} {cs : Array α} (h : cs.size = 6) : ∃ c0 c1 c2 e0 e1 e2, cs = #[c0, c1, c2, e0, e1, e2] := by
  obtain ⟨l⟩ := cs
  match l, h with
  | [c0, c1, c2, e0, e1, e2], _ => exact ⟨c0, c1, c2, e0, e1, e2, rfl⟩
theorem open_t2 {r : Reach} {b0 : Nat} {v : Value} {d : DataW H} {p : List MemPlace} (hv : Value.okWide Tryz.prog W r b0 59 v) (h : DataW.Trod enc Tryz.prog W 0 (fun _ => true) true 59 v d p) : ∃ a b : M.Tg, v = tg2 a b := by
  obtain ⟨cs, rfl, hsz⟩ := okWide_array Tryz.underlying59 hv
  rw [cellsT2] at hsz
  obtain ⟨c0, c1, c2, c3, c4, c5, c6, e0, e1, e2, e3, e4, e5, e6, rfl⟩ := array14 hsz
  obtain ⟨fuel, hf⟩ := h
  have hf' : DataW.trod enc Tryz.prog W 0 (fun _ => true) true fuel 59 [c0, c1, c2, c3, c4, c5, c6, e0, e1, e2, e3, e4, e5, e6] = some (d, p) := hf
  obtain ⟨xs, k, _, _, _, hxl, hel⟩ := DataW.trod_array Tryz.underlying59 hf'
  have h0 := hel 0 (by decide)
  have h1 := hel 1 (by decide)
  rw [cellsTg] at h0 h1
  change DataW.trod enc Tryz.prog W 0 (fun _ => true) true k 27 [c0, c1, c2, c3, c4, c5, c6] = xs[0]? at h0
  change DataW.trod enc Tryz.prog W 0 (fun _ => true) true k 27 [e0, e1, e2, e3, e4, e5, e6] = xs[1]? at h1
  match xs, hxl with
  | [x0, x1], _ =>
    simp only [List.getElem?_cons_zero, List.getElem?_cons_succ] at h0 h1
    obtain ⟨a, ha⟩ := elt_tg h0
    obtain ⟨b, hb⟩ := elt_tg h1
    simp only [List.cons.injEq, and_true] at ha hb
    obtain ⟨rfl, rfl, rfl, rfl, rfl, rfl, rfl⟩ := ha
    obtain ⟨rfl, rfl, rfl, rfl, rfl, rfl, rfl⟩ := hb
    exact ⟨a, b, rfl⟩
theorem open_c2 {r : Reach} {b0 : Nat} {v : Value} {d : DataW H} {p : List MemPlace} (hv : Value.okWide Tryz.prog W r b0 60 v) (h : DataW.Trod enc Tryz.prog W 0 (fun _ => true) true 60 v d p) : ∃ a b : M.Cc, v = cc2 a b := by
  obtain ⟨cs, rfl, hsz⟩ := okWide_array Tryz.underlying60 hv
  rw [cellsC2] at hsz
  obtain ⟨c0, c1, c2, e0, e1, e2, rfl⟩ := array6 hsz
  obtain ⟨fuel, hf⟩ := h
  have hf' : DataW.trod enc Tryz.prog W 0 (fun _ => true) true fuel 60 [c0, c1, c2, e0, e1, e2] = some (d, p) := hf
  obtain ⟨xs, k, _, _, _, hxl, hel⟩ := DataW.trod_array Tryz.underlying60 hf'
  have h0 := hel 0 (by decide)
  have h1 := hel 1 (by decide)
  rw [cellsCc] at h0 h1
  change DataW.trod enc Tryz.prog W 0 (fun _ => true) true k 29 [c0, c1, c2] = xs[0]? at h0
  change DataW.trod enc Tryz.prog W 0 (fun _ => true) true k 29 [e0, e1, e2] = xs[1]? at h1
  match xs, hxl with
  | [x0, x1], _ =>
    simp only [List.getElem?_cons_zero, List.getElem?_cons_succ] at h0 h1
    obtain ⟨a, ha⟩ := elt_cc h0
    obtain ⟨b, hb⟩ := elt_cc h1
    simp only [List.cons.injEq, and_true] at ha hb
    obtain ⟨rfl, rfl, rfl⟩ := ha
    obtain ⟨rfl, rfl, rfl⟩ := hb
    exact ⟨a, b, rfl⟩
end
end Fin
end Go.Proofs.YtfcffheboncmbaaGreatDoor
end
