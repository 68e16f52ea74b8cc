/-
  Chapter 46: arguments that are lists of targets, or of circles.
-/
import Derived.Test.YtfcffheboncmbaaGreatDoorKT
import Derived.Test.YtfcffheboncmbaaGreatDoorKU
section
namespace Go.Proofs.YtfcffheboncmbaaGreatDoor
open Go Go.RowKit Go.ChangeShapes Go.WideShapes Go.ChangeAt Go.Deep
namespace Fin
set_option maxRecDepth 20000
section
variable {H : Type} {enc : TypeId × Value → H} {W : World}
theorem list3 {α : Type} {cs : List α} (h : cs.length = 3) : ∃ c0 c1 c2, cs = [c0, c1, c2] := by
  match cs, h with
  | [c0, c1, c2], _ => exact ⟨c0, c1, c2, rfl⟩
theorem list7 {α : Type} {cs : List α} (h : cs.length = 7) : ∃ c0 c1 c2 c3 c4 c5 c6, cs = [c0, c1, c2, c3, c4, c5, c6] := by
  match cs, h with
  | [c0, c1, c2, c3, c4, c5, c6], _ => exact ⟨c0, c1, c2, c3, c4, c5, c6, rfl⟩
theorem elt_cc {n : Nat} {cs : List Value} {x : DataW H × List MemPlace} (h : DataW.trod enc Tryz.prog W 0 (fun _ => true) true n 29 cs = some x) : ∃ c : M.Cc, cs = ccC c := by
  obtain ⟨xs, k, _, rfl, hlen, hxl, hf⟩ := DataW.trod_struct Tryz.underlying29 h
  rw [cellsCc] at hlen
  obtain ⟨c0, c1, c2, rfl⟩ := list3 hlen
  obtain ⟨y0, y1, n, _, _, h0, h1⟩ := trod_struct2 Tryz.underlying29 h
  rw [cellsPt] at h0
  rw [cellsInt] at h1
  have e0 : DataW.trod enc Tryz.prog W 0 (fun _ => true) true n 23 [c0, c1] = some y0 := h0
  have e1 : DataW.trod enc Tryz.prog W 0 (fun _ => true) true n 3 [c2] = some y1 := h1
  obtain ⟨a, b, rfl, rfl⟩ := cell_pt e0
  obtain ⟨c, rfl⟩ := cell_int e1
  exact ⟨⟨a, b, c⟩, rfl⟩
theorem elt_tg {n : Nat} {cs : List Value} {x : DataW H × List MemPlace} (h : DataW.trod enc Tryz.prog W 0 (fun _ => true) true n 27 cs = some x) : ∃ t : M.Tg, cs = tgC t := by
  obtain ⟨xs, k, _, rfl, hlen, hxl, hf⟩ := DataW.trod_struct Tryz.underlying27 h
  rw [cellsTg] at hlen
  obtain ⟨c0, c1, c2, c3, c4, c5, c6, rfl⟩ := list7 hlen
  obtain ⟨_, _, _, _, _, n, h0, h1, h2, h3, h4⟩ := trod_struct5 Tryz.underlying27 h
  rw [cellsPt] at h0
  rw [cellsLim] at h1
  rw [cellsInt] at h2 h3
  rw [cellsBool] at h4
  obtain ⟨y0, g0⟩ : ∃ y, DataW.trod enc Tryz.prog W 0 (fun _ => true) true n 23 [c0, c1] = some y := ⟨_, h0⟩
  obtain ⟨y1, g1⟩ : ∃ y, DataW.trod enc Tryz.prog W 0 (fun _ => true) true n 25 [c2, c3] = some y := ⟨_, h1⟩
  obtain ⟨y2, g2⟩ : ∃ y, DataW.trod enc Tryz.prog W 0 (fun _ => true) true n 3 [c4] = some y := ⟨_, h2⟩
  obtain ⟨y3, g3⟩ : ∃ y, DataW.trod enc Tryz.prog W 0 (fun _ => true) true n 3 [c5] = some y := ⟨_, h3⟩
  obtain ⟨y4, g4⟩ : ∃ y, DataW.trod enc Tryz.prog W 0 (fun _ => true) true n 4 [c6] = some y := ⟨_, h4⟩
  obtain ⟨a, b, rfl, rfl⟩ := cell_pt g0
  obtain ⟨lo, hi, rfl, rfl⟩ := cell_lim g1
  obtain ⟨tol, rfl⟩ := cell_int g2
  obtain ⟨mat, rfl⟩ := cell_int g3
  obtain ⟨pin, rfl⟩ := cell_bool g4
  exact ⟨⟨a, b, lo, hi, tol, mat, pin⟩, rfl⟩
/-- The shape of a slice argument: its cells from an address on. -/
theorem open_rows {α : Type} {t e : TypeId} {k : Nat} (C : α → List Value) (x0 : α) (hC : ∀ x, (C x).length = k) (hk : 0 < k) (ht : Tryz.prog.underlying t = some (.slice e)) (hce : Tryz.prog.cellsOf e = k)
    (hel : ∀ (n : Nat) (cs : List Value) (x : DataW H × List MemPlace), DataW.trod enc Tryz.prog W 0 (fun _ => true) true n e cs = some x → ∃ c : α, cs = C c)
    {v : Value} {d : DataW H} {p : List MemPlace} (hv : ∃ a len cap, v = .slice a len cap) (h : DataW.Trod enc Tryz.prog W 0 (fun _ => true) true t v d p) :
    (∃ l : List α, l.length ≤ maxLen ∧ (v = .slice none 0 0 ∧ l = [] ∨ ∃ b o cap, v = .slice (some ⟨b, o, none⟩) l.length cap ∧ l.length ≤ cap ∧ b < W.heap.size ∧ ∀ i (hi : i < l.length) j (u : Value), (C l[i])[j]? = some u → W.cell? ⟨b, o + i * k + j, none⟩ = some u ∨ l = [])) ∨
      ∃ l : List α, l = [] ∧ ∃ a cap, v = .slice a 0 cap := by
  obtain ⟨fuel, hf⟩ := h
  obtain ⟨a0, len0, cap0, rfl⟩ := hv
  have hf' : DataW.trod enc Tryz.prog W 0 (fun _ => true) true fuel t [.slice a0 len0 cap0] = some (d, p) := hf
  rcases open_slice ht hf' with ⟨hcs, _⟩ | ⟨a, len, cap, m, n, D, Pl, hcs, _, hl, hm, hmm, _, hi⟩
  · simp at hcs
    obtain ⟨rfl, rfl, rfl⟩ := hcs
    exact Or.inl ⟨[], Nat.zero_le _, Or.inl ⟨rfl, rfl⟩⟩
  · simp at hcs
    obtain ⟨rfl, rfl, rfl⟩ := hcs
    simp only [if_true] at hmm
    subst hmm
    clear hf hf'
    rw [hce] at hi
    by_cases h0 : len0 = 0
    · subst h0
      exact Or.inr ⟨[], rfl, _, _, rfl⟩
    refine Or.inl ?_
    have hel2 : ∀ i, ∃ c : α, i < len0 → ∀ j (u : Value), (C c)[j]? = some u → W.cell? ((a.add (i * k)).add j) = some u := by
      intro i
      by_cases hil : i < len0
      · obtain ⟨cs', hc, hte⟩ := hi i (by omega)
        obtain ⟨c, rfl⟩ := hel _ _ _ hte
        obtain ⟨_, _, hat⟩ := World.cells?_some hc
        refine ⟨c, fun _ j u hu => ?_⟩
        have hj : j < k := by rw [← hC c]; exact (List.getElem?_eq_some_iff.1 hu).1
        rw [hat j hj]
        exact hu
      · exact ⟨x0, fun h => absurd h hil⟩
    obtain ⟨f, hf⟩ := Classical.skolem.1 hel2
    have hlt : ∃ u, W.cell? ((a.add (0 * k)).add 0) = some u := by
      have : 0 < (C (f 0)).length := by rw [hC]; exact hk
      exact ⟨_, hf 0 (by omega) 0 _ (List.getElem?_eq_getElem this)⟩
    obtain ⟨u0, hu0⟩ := hlt
    obtain ⟨b, off, spot⟩ := a
    have hspot : spot = none := by simpa [Addr.add] using World.cell?_spot hu0
    subst hspot
    have hadd : ∀ j, (⟨b, off, none⟩ : Addr).add j = ⟨b, off + j, none⟩ := by
      intro j; unfold Addr.add; split <;> simp_all
    have hadd2 : ∀ i j, ((⟨b, off, none⟩ : Addr).add i).add j = ⟨b, off + i + j, none⟩ := by
      intro i j; rw [hadd]; unfold Addr.add; split <;> simp_all
    refine ⟨(List.range len0).map f, by simp; omega, Or.inr ⟨b, off, m, by simp, by simpa using hl, ?_, fun i hil j u hu => Or.inl ?_⟩⟩
    · rw [hadd2] at hu0
      exact cell_lt1 hu0
    · have hil' : i < len0 := by simpa using hil
      rw [List.getElem_map, List.getElem_range] at hu
      have := hf i hil' j u hu
      rwa [hadd2] at this
/-- An argument that is a list of targets. -/
theorem open_gl {v : Value} {d : DataW H} {p : List MemPlace} (hv : ∃ a len cap, v = .slice a len cap) (h : DataW.Trod enc Tryz.prog W 0 (fun _ => true) true 37 v d p) :
    ∃ l : List M.Tg, RdG W v l ∧ l.length ≤ maxLen ∧ ∃ A cap, v = .slice A l.length cap ∧ l.length ≤ cap := by
  rcases open_rows (k := 7) tgC ⟨0, 0, 0, 0, 0, 0, false⟩ (fun _ => rfl) (by decide) Tryz.underlying37 cellsTg (fun _ _ _ => elt_tg) hv h with ⟨l, hl, ⟨rfl, rfl⟩ | ⟨b, o, cap, rfl, hlc, hlt, hc⟩⟩ | ⟨l, rfl, a, cap, rfl⟩
  · exact ⟨[], ⟨_, _, rfl, Or.inl rfl⟩, Nat.zero_le _, _, _, rfl, Nat.zero_le _⟩
  · refine ⟨l, ⟨_, _, rfl, ?_⟩, hl, _, _, rfl, hlc⟩
    by_cases h0 : l = []
    · exact Or.inl h0
    · refine Or.inr ⟨b, o, rfl, hlt, fun i hi => ?_⟩
      have hh := fun j u e => (hc i hi j u e).resolve_right h0
      exact ⟨hh 0 _ rfl, hh 1 _ rfl, hh 2 _ rfl, hh 3 _ rfl, hh 4 _ rfl, hh 5 _ rfl, hh 6 _ rfl⟩
  · exact ⟨[], ⟨_, _, rfl, Or.inl rfl⟩, Nat.zero_le _, _, _, rfl, Nat.zero_le _⟩
/-- An argument that is a list of circles. -/
theorem open_cl {v : Value} {d : DataW H} {p : List MemPlace} (hv : ∃ a len cap, v = .slice a len cap) (h : DataW.Trod enc Tryz.prog W 0 (fun _ => true) true 38 v d p) :
    ∃ l : List M.Cc, RdC W v l ∧ l.length ≤ maxLen ∧ ∃ A cap, v = .slice A l.length cap ∧ l.length ≤ cap := by
  rcases open_rows (k := 3) ccC ⟨0, 0, 0⟩ (fun _ => rfl) (by decide) Tryz.underlying38 cellsCc (fun _ _ _ => elt_cc) hv h with ⟨l, hl, ⟨rfl, rfl⟩ | ⟨b, o, cap, rfl, hlc, hlt, hc⟩⟩ | ⟨l, rfl, a, cap, rfl⟩
  · exact ⟨[], ⟨_, _, rfl, Or.inl rfl⟩, Nat.zero_le _, _, _, rfl, Nat.zero_le _⟩
  · refine ⟨l, ⟨_, _, rfl, ?_⟩, hl, _, _, rfl, hlc⟩
    by_cases h0 : l = []
    · exact Or.inl h0
    · refine Or.inr ⟨b, o, rfl, hlt, fun i hi => ?_⟩
      have hh := fun j u e => (hc i hi j u e).resolve_right h0
      exact ⟨hh 0 _ rfl, hh 1 _ rfl, hh 2 _ rfl⟩
  · exact ⟨[], ⟨_, _, rfl, Or.inl rfl⟩, Nat.zero_le _, _, _, rfl, Nat.zero_le _⟩
end
end Fin
end Go.Proofs.YtfcffheboncmbaaGreatDoor
end
