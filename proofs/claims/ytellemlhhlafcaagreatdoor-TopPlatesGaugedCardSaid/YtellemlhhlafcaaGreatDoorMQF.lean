/-
  Chapter 46: what the rows' listed variables give a walk, the table of signs too.
  Chapter 46: a world for the witness, the table of signs too.
  Chapter 46: arguments that are a target, or a circle.
  Chapter 46: arguments that are lists of targets, or of circles.
-/
import Derived.Test.YtellemlhhlafcaaGreatDoorMH
import Derived.Test.YtellemlhhlafcaaGreatDoorMQ
import Derived.Lib.SmallJoins
import Derived.Test.YtellemlhhlafcaaGreatDoorMI
section
namespace Go.Proofs.YtellemlhhlafcaaGreatDoor
open Go Go.RowKit Go.ChangeShapes Go.WideShapes Go.ChangeAt Go.Deep
namespace Fin
set_option maxRecDepth 20000
theorem cells_two {H : Type} {enc : TypeId × Value → H} {P : Program} {w : World} {base : Nat} {sp : Nat → Bool} {held : Bool} {fuel : Nat} {t e i : TypeId} {k : IntKind} {cs : List Value} {z0 z1 z2 z3 z4 z5 : Int} {p : List MemPlace}
    (ht : P.underlying t = some (.array 2 e)) (he : P.underlying e = some (.array 3 i)) (hi : P.underlying i = some (.int k)) (hci : P.cellsOf i = 1) (hce : P.cellsOf e = 3) (hct : P.cellsOf t = 6)
    (h : DataW.trod enc P w base sp held fuel t cs = some (.agg [Lib.tabData k [z0, z1, z2], Lib.tabData k [z3, z4, z5]], p)) :
    cs = [.int k z0, .int k z1, .int k z2, .int k z3, .int k z4, .int k z5] := by
  cases fuel with
  | zero => simp [DataW.trod] at h
  | succ fuel =>
    simp only [DataW.trod, ht, hce, hct] at h
    split at h
    · rename_i hl
      obtain ⟨xs, hm, hx⟩ := Option.map_eq_some_iff.1 h
      have hxs : xs.map (·.1) = [Lib.tabData k [z0, z1, z2], Lib.tabData k [z3, z4, z5]] := by
        have := congrArg Prod.fst hx
        simpa using this
      have hxl : xs.length = 2 := by
        have := congrArg List.length hxs
        simpa using this
      obtain ⟨⟨x0, y0⟩, ⟨x1, y1⟩, rfl⟩ : ∃ a b, xs = [a, b] := by
        match xs, hxl with
        | [a, b], _ => exact ⟨a, b, rfl⟩
      simp only [List.map_cons, List.map_nil, List.cons.injEq, and_true] at hxs
      obtain ⟨rfl, rfl⟩ := hxs
      obtain ⟨b0, hb0, hf0⟩ := Lib.mapM_at hm 0 0 rfl
      obtain ⟨b1, hb1, hf1⟩ := Lib.mapM_at hm 1 1 rfl
      obtain rfl : _ = b0 := Option.some.inj hb0
      obtain rfl : _ = b1 := Option.some.inj hb1
      have h0 := Lib.cells_of_tab he hi hci hce hf0
      have h1 := Lib.cells_of_tab he hi hci hce hf1
      simp only [Nat.zero_mul, List.drop_zero, Nat.one_mul, List.map_cons, List.map_nil] at h0 h1
      have e : cs = cs.take 3 ++ (cs.drop 3).take 3 := by
        have e1 : (cs.drop 3).take 3 = cs.drop 3 := List.take_of_length_le (by rw [List.length_drop]; omega)
        rw [e1, List.take_append_drop]
      rw [e, h0, h1]
      rfl
    · cases h
theorem gSgn : Tryz.prog.globalNamed "metrolab/bonus.signs" = some 0 := by kernel_rfl
theorem gSgnType : (Tryz.prog.globals[0]?).map (·.type) = some 229 := by kernel_rfl
theorem cellsSgn : Tryz.prog.cellsOf 229 = 6 := by kernel_rfl
theorem cellsSg3 : Tryz.prog.cellsOf 228 = 3 := by kernel_rfl
theorem cellsInt : Tryz.prog.cellsOf 3 = 1 := by kernel_rfl
def lists46 : List (String × DataW Unit) := [("math/bits.deBruijn32tab", Rows.laid_math_bits_deBruijn32tab), ("math/bits.deBruijn64tab", Rows.laid_math_bits_deBruijn64tab), ("internal/strconv.uint64pow10", Rows.laid_internal_strconv_uint64pow10), ("metrolab/bonus.signs", Rows.laid_metrolab_bonus_signs), ("unicode/utf8.acceptRanges", Rows.laid_unicode_utf8_acceptRanges), ("strconv.ErrRange", Rows.laid_strconv_ErrRange), ("strconv.ErrSyntax", Rows.laid_strconv_ErrSyntax), ("unicode/utf8.first", Rows.laid_unicode_utf8_first)]
theorem noHandle46 : (lists46.filter fun x => x.2.handleName?.isSome) = [] := by kernel_rfl
theorem sgn_laid : (Rows.laid_metrolab_bonus_signs : DataW Unit) = .agg [Lib.tabData .i64 [-1, -1, 1], Lib.tabData .i64 [1, 1, -1]] := by kernel_rfl
theorem glob46 {W : World} (h : laidMetH Tryz.prog lists46 W) (hs : W.ShapedOpen Tryz.prog) : Glob W ∧ Sig W := by
  unfold laidMetH at h
  rw [noHandle46] at h
  refine ⟨⟨?_, ?_, ?_⟩, ?_⟩
  · exact cell_of_shapedOpen_int (t := 3) (zero := #[.int .i64 0]) hs (of_decide_eq_true (by kernel_rfl)) (by kernel_rfl) rfl (by kernel_rfl) (by kernel_rfl) Tryz.underlying3
  · exact laid_tab gTab gPowType Tryz.underlying367 Tryz.underlying330 cellsU64 cellsPow h (by rw [← pow_laid]; simp [lists46])
  · have := laid_lt (d := Rows.laid_math_bits_deBruijn64tab) gLast h (by unfold lists46; exact List.mem_cons_of_mem _ (List.mem_cons_self ..))
    omega
  · obtain ⟨ps, hl, _⟩ := h
    obtain ⟨g', t', cs, fuel, p, hg', ht', hvar, hd⟩ := laid_each hl "metrolab/bonus.signs" Rows.laid_metrolab_bonus_signs (by simp [lists46])
    obtain rfl := Option.some.inj (gSgn.symm.trans hg')
    obtain rfl := Option.some.inj (gSgnType.symm.trans ht')
    rw [sgn_laid] at hd
    have hc := cells_two Tryz.underlying229 Tryz.underlying228 Tryz.underlying3 cellsInt cellsSg3 cellsSgn hd
    unfold World.var? at hvar
    rw [gSgn] at hvar
    simp only [Option.bind_some] at hvar
    have key : ∀ i v, cs.toList[i]? = some v → W.cell? ⟨0, i, none⟩ = some v := fun i v hv => by
      unfold World.cell?
      split at hvar
      · rename_i cc tt ff hh
        injection hvar with hvar
        subst hvar
        simp only [hh]
        simpa using hv
      · cases hvar
    refine ⟨key 0 _ ?_, key 1 _ ?_, key 2 _ ?_, key 3 _ ?_, key 4 _ ?_, key 5 _ ?_⟩ <;> rw [hc] <;> rfl
end Fin
end Go.Proofs.YtellemlhhlafcaaGreatDoor
end
section
namespace Go.Proofs.YtellemlhhlafcaaGreatDoor
open Go Go.RowKit Go.ChangeShapes Go.WideShapes Go.ChangeAt Go.Deep
namespace Fin
set_option maxRecDepth 20000
noncomputable def laidWorld46 (os : Os) : World :=
  { laidWorld os with heap := lay (laidWorld os).heap 0 (cellsOfD Rows.laid_metrolab_bonus_signs) }
theorem laid_met46 (os : Os) (args : Array Value) : laidMet Tryz.prog lists46 ((laidWorld46 os).forCall (fun _ _ => 0) ⟨#[], args, []⟩).memory :=
  laidMet_of_run' 8 (by kernel_rfl) (by kernel_rfl)
end Fin
end Go.Proofs.YtellemlhhlafcaaGreatDoor
end
section
namespace Go.Proofs.YtellemlhhlafcaaGreatDoor
open Go Go.RowKit Go.ChangeShapes Go.WideShapes Go.ChangeAt Go.Deep
namespace Fin
set_option maxRecDepth 20000
section
variable {H : Type} {enc : TypeId × Value → H} {W : World}
theorem cell_int {fuel : Nat} {c : Value} {y : DataW H × List MemPlace} (hf : DataW.trod enc Tryz.prog W 0 (fun _ => true) true fuel 3 [c] = some y) : ∃ z, c = .int .i64 z := by
  obtain ⟨z, hc, _⟩ := DataW.trod_int Tryz.underlying3 hf
  simp only [List.cons.injEq, and_true] at hc
  exact ⟨z, hc⟩
theorem cell_bool {fuel : Nat} {c : Value} {y : DataW H × List MemPlace} (hf : DataW.trod enc Tryz.prog W 0 (fun _ => true) true fuel 4 [c] = some y) : ∃ z, c = .bool z := by
  obtain ⟨z, hc, _⟩ := DataW.trod_bool Tryz.underlying4 hf
  simp only [List.cons.injEq, and_true] at hc
  exact ⟨z, hc⟩
theorem cell_pt {fuel : Nat} {c0 c1 : Value} {y : DataW H × List MemPlace} (hf : DataW.trod enc Tryz.prog W 0 (fun _ => true) true fuel 23 [c0, c1] = some y) : ∃ a b, c0 = .int .i64 a ∧ c1 = .int .i64 b := by
  obtain ⟨y0, y1, n, _, _, h0, h1⟩ := trod_struct2 Tryz.underlying23 hf
  have e0 : DataW.trod enc Tryz.prog W 0 (fun _ => true) true n 3 [c0] = some y0 := h0
  have e1 : DataW.trod enc Tryz.prog W 0 (fun _ => true) true n 3 [c1] = some y1 := h1
  obtain ⟨a, rfl⟩ := cell_int e0
  obtain ⟨b, rfl⟩ := cell_int e1
  exact ⟨a, b, rfl, rfl⟩
theorem cellsPt : Tryz.prog.cellsOf 23 = 2 := by kernel_rfl
theorem cellsCc : Tryz.prog.cellsOf 30 = 3 := by kernel_rfl
theorem cell_lim {fuel : Nat} {c0 c1 : Value} {y : DataW H × List MemPlace} (hf : DataW.trod enc Tryz.prog W 0 (fun _ => true) true fuel 25 [c0, c1] = some y) : ∃ a b, c0 = .int .i64 a ∧ c1 = .int .i64 b := by
  obtain ⟨y0, y1, n, _, _, h0, h1⟩ := trod_struct2 Tryz.underlying25 hf
  have e0 : DataW.trod enc Tryz.prog W 0 (fun _ => true) true n 3 [c0] = some y0 := h0
  have e1 : DataW.trod enc Tryz.prog W 0 (fun _ => true) true n 3 [c1] = some y1 := h1
  obtain ⟨a, rfl⟩ := cell_int e0
  obtain ⟨b, rfl⟩ := cell_int e1
  exact ⟨a, b, rfl, rfl⟩
theorem cellsLim : Tryz.prog.cellsOf 25 = 2 := by kernel_rfl
theorem cellsBool : Tryz.prog.cellsOf 4 = 1 := by kernel_rfl
theorem cellsTg : Tryz.prog.cellsOf 27 = 7 := by kernel_rfl
theorem trod_struct5 {P : Program} {base : Nat} {spare : Nat → Bool} {held : Bool} {w : World} {t : TypeId} {f0 f1 f2 f3 f4 : Field} {fuel : Nat} {cs : List Value} {x : DataW H × List MemPlace} (ht : P.underlying t = some (.struct #[f0, f1, f2, f3, f4])) (h : DataW.trod enc P w base spare held fuel t cs = some x) :
    ∃ y0 y1 y2 y3 y4 n, DataW.trod enc P w base spare held n f0.type ((cs.drop f0.offset).take (P.cellsOf f0.type)) = some y0 ∧ DataW.trod enc P w base spare held n f1.type ((cs.drop f1.offset).take (P.cellsOf f1.type)) = some y1 ∧
      DataW.trod enc P w base spare held n f2.type ((cs.drop f2.offset).take (P.cellsOf f2.type)) = some y2 ∧ DataW.trod enc P w base spare held n f3.type ((cs.drop f3.offset).take (P.cellsOf f3.type)) = some y3 ∧
      DataW.trod enc P w base spare held n f4.type ((cs.drop f4.offset).take (P.cellsOf f4.type)) = some y4 := by
  obtain ⟨xs, n, _, rfl, hl, hlen, hf⟩ := DataW.trod_struct ht h
  match xs, hlen with
  | [y0, y1, y2, y3, y4], _ => exact ⟨y0, y1, y2, y3, y4, n, by simpa using hf 0 f0 rfl, by simpa using hf 1 f1 rfl, by simpa using hf 2 f2 rfl, by simpa using hf 3 f3 rfl, by simpa using hf 4 f4 rfl⟩
end
end Fin
end Go.Proofs.YtellemlhhlafcaaGreatDoor
end
section
namespace Go.Proofs.YtellemlhhlafcaaGreatDoor
open Go Go.RowKit Go.ChangeShapes Go.WideShapes Go.ChangeAt Go.Deep
namespace Fin
set_option maxRecDepth 20000
section
variable {H : Type} {enc : TypeId × Value → H} {W : World}
theorem list3 {α : Type} {cs : List α} (h : cs.length = 3) : ∃ c0 c1 c2, cs = [c0, c1, c2] := by
  match cs, h with
  | [c0, c1, c2], _ => exact ⟨c0, c1, c2, rfl⟩
theorem list7 {α : Type} {cs : List α} (h : cs.length = 7) : ∃ c0 c1 c2 c3 c4 c5 c6, cs = [c0, c1, c2, c3, c4, c5, c6] := by
  match cs, h with
  | [c0, c1, c2, c3, c4, c5, c6], _ => exact ⟨c0, c1, c2, c3, c4, c5, c6, rfl⟩
theorem elt_cc {n : Nat} {cs : List Value} {x : DataW H × List MemPlace} (h : DataW.trod enc Tryz.prog W 0 (fun _ => true) true n 30 cs = some x) : ∃ c : M.Cc, cs = ccC c := by
  obtain ⟨xs, k, _, rfl, hlen, hxl, hf⟩ := DataW.trod_struct Tryz.underlying30 h
  rw [cellsCc] at hlen
  obtain ⟨c0, c1, c2, rfl⟩ := list3 hlen
  obtain ⟨y0, y1, n, _, _, h0, h1⟩ := trod_struct2 Tryz.underlying30 h
  rw [cellsPt] at h0
  rw [cellsInt] at h1
  have e0 : DataW.trod enc Tryz.prog W 0 (fun _ => true) true n 23 [c0, c1] = some y0 := h0
  have e1 : DataW.trod enc Tryz.prog W 0 (fun _ => true) true n 3 [c2] = some y1 := h1
  obtain ⟨a, b, rfl, rfl⟩ := cell_pt e0
  obtain ⟨c, rfl⟩ := cell_int e1
  exact ⟨⟨a, b, c⟩, rfl⟩
theorem elt_tg {n : Nat} {cs : List Value} {x : DataW H × List MemPlace} (h : DataW.trod enc Tryz.prog W 0 (fun _ => true) true n 27 cs = some x) : ∃ t : M.Tg, cs = tgC t := by
  obtain ⟨xs, k, _, rfl, hlen, hxl, hf⟩ := DataW.trod_struct Tryz.underlying27 h
  rw [cellsTg] at hlen
  obtain ⟨c0, c1, c2, c3, c4, c5, c6, rfl⟩ := list7 hlen
  obtain ⟨_, _, _, _, _, n, h0, h1, h2, h3, h4⟩ := trod_struct5 Tryz.underlying27 h
  rw [cellsPt] at h0
  rw [cellsLim] at h1
  rw [cellsInt] at h2 h3
  rw [cellsBool] at h4
  obtain ⟨y0, g0⟩ : ∃ y, DataW.trod enc Tryz.prog W 0 (fun _ => true) true n 23 [c0, c1] = some y := ⟨_, h0⟩
  obtain ⟨y1, g1⟩ : ∃ y, DataW.trod enc Tryz.prog W 0 (fun _ => true) true n 25 [c2, c3] = some y := ⟨_, h1⟩
  obtain ⟨y2, g2⟩ : ∃ y, DataW.trod enc Tryz.prog W 0 (fun _ => true) true n 3 [c4] = some y := ⟨_, h2⟩
  obtain ⟨y3, g3⟩ : ∃ y, DataW.trod enc Tryz.prog W 0 (fun _ => true) true n 3 [c5] = some y := ⟨_, h3⟩
  obtain ⟨y4, g4⟩ : ∃ y, DataW.trod enc Tryz.prog W 0 (fun _ => true) true n 4 [c6] = some y := ⟨_, h4⟩
  obtain ⟨a, b, rfl, rfl⟩ := cell_pt g0
  obtain ⟨lo, hi, rfl, rfl⟩ := cell_lim g1
  obtain ⟨tol, rfl⟩ := cell_int g2
  obtain ⟨mat, rfl⟩ := cell_int g3
  obtain ⟨pin, rfl⟩ := cell_bool g4
  exact ⟨⟨a, b, lo, hi, tol, mat, pin⟩, rfl⟩
theorem open_rows {α : Type} {t e : TypeId} {k : Nat} (C : α → List Value) (x0 : α) (hC : ∀ x, (C x).length = k) (hk : 0 < k) (ht : Tryz.prog.underlying t = some (.slice e)) (hce : Tryz.prog.cellsOf e = k)
    (hel : ∀ (n : Nat) (cs : List Value) (x : DataW H × List MemPlace), DataW.trod enc Tryz.prog W 0 (fun _ => true) true n e cs = some x → ∃ c : α, cs = C c)
    {v : Value} {d : DataW H} {p : List MemPlace} (hv : ∃ a len cap, v = .slice a len cap) (h : DataW.Trod enc Tryz.prog W 0 (fun _ => true) true t v d p) :
    (∃ l : List α, l.length ≤ maxLen ∧ (v = .slice none 0 0 ∧ l = [] ∨ ∃ b o cap, v = .slice (some ⟨b, o, none⟩) l.length cap ∧ l.length ≤ cap ∧ b < W.heap.size ∧ ∀ i (hi : i < l.length) j (u : Value), (C l[i])[j]? = some u → W.cell? ⟨b, o + i * k + j, none⟩ = some u ∨ l = [])) ∨
      ∃ l : List α, l = [] ∧ ∃ a cap, v = .slice a 0 cap := by
  obtain ⟨fuel, hf⟩ := h
  obtain ⟨a0, len0, cap0, rfl⟩ := hv
  have hf' : DataW.trod enc Tryz.prog W 0 (fun _ => true) true fuel t [.slice a0 len0 cap0] = some (d, p) := hf
  rcases open_slice ht hf' with ⟨hcs, _⟩ | ⟨a, len, cap, m, n, D, Pl, hcs, _, hl, hm, hmm, _, hi⟩
  · simp at hcs
    obtain ⟨rfl, rfl, rfl⟩ := hcs
    exact Or.inl ⟨[], Nat.zero_le _, Or.inl ⟨rfl, rfl⟩⟩
  · simp at hcs
    obtain ⟨rfl, rfl, rfl⟩ := hcs
    simp only [if_true] at hmm
    subst hmm
    clear hf hf'
    rw [hce] at hi
    by_cases h0 : len0 = 0
    · subst h0
      exact Or.inr ⟨[], rfl, _, _, rfl⟩
    refine Or.inl ?_
    have hel2 : ∀ i, ∃ c : α, i < len0 → ∀ j (u : Value), (C c)[j]? = some u → W.cell? ((a.add (i * k)).add j) = some u := by
      intro i
      by_cases hil : i < len0
      · obtain ⟨cs', hc, hte⟩ := hi i (by omega)
        obtain ⟨c, rfl⟩ := hel _ _ _ hte
        obtain ⟨_, _, hat⟩ := World.cells?_some hc
        refine ⟨c, fun _ j u hu => ?_⟩
        have hj : j < k := by rw [← hC c]; exact (List.getElem?_eq_some_iff.1 hu).1
        rw [hat j hj]
        exact hu
      · exact ⟨x0, fun h => absurd h hil⟩
    obtain ⟨f, hf⟩ := Classical.skolem.1 hel2
    have hlt : ∃ u, W.cell? ((a.add (0 * k)).add 0) = some u := by
      have : 0 < (C (f 0)).length := by rw [hC]; exact hk
      exact ⟨_, hf 0 (by omega) 0 _ (List.getElem?_eq_getElem this)⟩
    obtain ⟨u0, hu0⟩ := hlt
    obtain ⟨b, off, spot⟩ := a
    have hspot : spot = none := by simpa [Addr.add] using World.cell?_spot hu0
    subst hspot
    have hadd : ∀ j, (⟨b, off, none⟩ : Addr).add j = ⟨b, off + j, none⟩ := by
      intro j; unfold Addr.add; split <;> simp_all
    have hadd2 : ∀ i j, ((⟨b, off, none⟩ : Addr).add i).add j = ⟨b, off + i + j, none⟩ := by
      intro i j; rw [hadd]; unfold Addr.add; split <;> simp_all
    refine ⟨(List.range len0).map f, by simp; omega, Or.inr ⟨b, off, m, by simp, by simpa using hl, ?_, fun i hil j u hu => Or.inl ?_⟩⟩
    · rw [hadd2] at hu0
      exact cell_lt1 hu0
    · have hil' : i < len0 := by simpa using hil
      rw [List.getElem_map, List.getElem_range] at hu
      have := hf i hil' j u hu
      rwa [hadd2] at this
theorem open_gl {v : Value} {d : DataW H} {p : List MemPlace} (hv : ∃ a len cap, v = .slice a len cap) (h : DataW.Trod enc Tryz.prog W 0 (fun _ => true) true 33 v d p) :
    ∃ l : List M.Tg, RdG W v l ∧ l.length ≤ maxLen ∧ ∃ A cap, v = .slice A l.length cap ∧ l.length ≤ cap := by
  rcases open_rows (k := 7) tgC ⟨0, 0, 0, 0, 0, 0, false⟩ (fun _ => rfl) (by decide) Tryz.underlying33 cellsTg (fun _ _ _ => elt_tg) hv h with ⟨l, hl, ⟨rfl, rfl⟩ | ⟨b, o, cap, rfl, hlc, hlt, hc⟩⟩ | ⟨l, rfl, a, cap, rfl⟩
  · exact ⟨[], ⟨_, _, rfl, Or.inl rfl⟩, Nat.zero_le _, _, _, rfl, Nat.zero_le _⟩
  · refine ⟨l, ⟨_, _, rfl, ?_⟩, hl, _, _, rfl, hlc⟩
    by_cases h0 : l = []
    · exact Or.inl h0
    · refine Or.inr ⟨b, o, rfl, hlt, fun i hi => ?_⟩
      have hh := fun j u e => (hc i hi j u e).resolve_right h0
      exact ⟨hh 0 _ rfl, hh 1 _ rfl, hh 2 _ rfl, hh 3 _ rfl, hh 4 _ rfl, hh 5 _ rfl, hh 6 _ rfl⟩
  · exact ⟨[], ⟨_, _, rfl, Or.inl rfl⟩, Nat.zero_le _, _, _, rfl, Nat.zero_le _⟩
theorem open_cl {v : Value} {d : DataW H} {p : List MemPlace} (hv : ∃ a len cap, v = .slice a len cap) (h : DataW.Trod enc Tryz.prog W 0 (fun _ => true) true 34 v d p) :
    ∃ l : List M.Cc, RdC W v l ∧ l.length ≤ maxLen ∧ ∃ A cap, v = .slice A l.length cap ∧ l.length ≤ cap := by
  rcases open_rows (k := 3) ccC ⟨0, 0, 0⟩ (fun _ => rfl) (by decide) Tryz.underlying34 cellsCc (fun _ _ _ => elt_cc) hv h with ⟨l, hl, ⟨rfl, rfl⟩ | ⟨b, o, cap, rfl, hlc, hlt, hc⟩⟩ | ⟨l, rfl, a, cap, rfl⟩
  · exact ⟨[], ⟨_, _, rfl, Or.inl rfl⟩, Nat.zero_le _, _, _, rfl, Nat.zero_le _⟩
  · refine ⟨l, ⟨_, _, rfl, ?_⟩, hl, _, _, rfl, hlc⟩
    by_cases h0 : l = []
    · exact Or.inl h0
    · refine Or.inr ⟨b, o, rfl, hlt, fun i hi => ?_⟩
      have hh := fun j u e => (hc i hi j u e).resolve_right h0
      exact ⟨hh 0 _ rfl, hh 1 _ rfl, hh 2 _ rfl⟩
  · exact ⟨[], ⟨_, _, rfl, Or.inl rfl⟩, Nat.zero_le _, _, _, rfl, Nat.zero_le _⟩
end
end Fin
end Go.Proofs.YtellemlhhlafcaaGreatDoor
end
