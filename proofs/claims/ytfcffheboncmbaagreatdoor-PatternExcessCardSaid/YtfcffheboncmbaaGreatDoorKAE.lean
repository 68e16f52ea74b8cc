/-
  Chapter 46, the reference: lists of conditions for the excess. (Printed by wip/ecb.py.)
-/
import Derived.Test.YtfcffheboncmbaaGreatDoorKV
section
namespace Go.Proofs.YtfcffheboncmbaaGreatDoor
open Go Go.RowKit Go.Deep
/-- A list of L that lies at ⟨b, o⟩; a value that reads as one. -/
structure SlL (w : World) (b o : Nat) (l : List (Int × Int)) : Prop where
  lt : b < w.heap.size
  val : ∀ i (h : i < l.length), w.cell? ⟨b, o + i * 2, none⟩ = some (.int .i64 l[i].1) ∧ w.cell? ⟨b, o + i * 2 + 1, none⟩ = some (.int .i64 l[i].2)
theorem SlL.below' {w w' : World} {b o : Nat} {l : List (Int × Int)} (h : SlL w b o l) (hb : Below w.heap.size w w') : SlL w' b o l :=
  ⟨Nat.lt_of_lt_of_le h.lt hb.size, fun i hi => by
    have h1 := h.val i hi
    have hc : ∀ o v, w.cell? ⟨b, o, none⟩ = some v → w'.cell? ⟨b, o, none⟩ = some v := fun o v e => (hb.cell (by exact h.lt)).trans e
    exact ⟨hc _ _ h1.1, hc _ _ h1.2⟩⟩
def RdL (w : World) (v : Value) (l : List (Int × Int)) : Prop := ∃ A cap, v = .slice A l.length cap ∧ (l = [] ∨ ∃ b o, A = some ⟨b, o, none⟩ ∧ SlL w b o l)
theorem RdL.below {w w' : World} {v : Value} {l : List (Int × Int)} (h : RdL w v l) (hb : Below w.heap.size w w') : RdL w' v l := by
  obtain ⟨A, cap, e, h2⟩ := h
  refine ⟨A, cap, e, ?_⟩
  rcases h2 with h2 | ⟨b, o, e2, h3⟩
  · exact Or.inl h2
  · exact Or.inr ⟨b, o, e2, h3.below' hb⟩
theorem RdL.len {w : World} {v : Value} {l : List (Int × Int)} (h : RdL w v l) : ∃ A cap, v = .slice A l.length cap := by
  obtain ⟨A, cap, e, _⟩ := h; exact ⟨A, cap, e⟩
theorem RdL.row {w : World} {A : Option Addr} {n cap : Nat} {l : List (Int × Int)} (h : RdL w (.slice A n cap) l) (i : Nat) (hi : i < l.length) : ∃ b o, A = some ⟨b, o, none⟩ ∧ SlL w b o l := by
  obtain ⟨A', cap', e, h2⟩ := h
  injection e with e
  subst e
  exact h2.resolve_left (fun e => by rw [e] at hi; cases hi)
/-- The cells of an element, of a list. -/
def csL (l : List (Int × Int)) : List Value := l.flatMap fun x => [.int .i64 x.1, .int .i64 x.2]
theorem csL_append (a b : List (Int × Int)) : csL (a ++ b) = csL a ++ csL b := by simp [csL]
theorem csL_len (l : List (Int × Int)) : (csL l).length = l.length * 2 := by
  induction l with
  | nil => rfl
  | cons x t ih => simp only [csL, List.flatMap_cons, List.length_append, List.length_cons, List.length_nil] at *; omega
theorem csL_get (l : List (Int × Int)) (i : Nat) (h : i < l.length) : (csL l)[i * 2]? = some (.int .i64 l[i].1) ∧ (csL l)[i * 2 + 1]? = some (.int .i64 l[i].2) := by
  induction l generalizing i with
  | nil => cases h
  | cons x t ih =>
    rcases i with _ | j
    · exact ⟨rfl, rfl⟩
    · have hj : j < t.length := by simpa using h
      have e1 : csL (x :: t) = (.int .i64 x.1 : Value) :: (.int .i64 x.2 : Value) :: csL t := rfl
      have k := ih j hj
      rw [e1]
      have hs : ∀ m v, (csL t)[m]? = some v → ((.int .i64 x.1 : Value) :: (.int .i64 x.2 : Value) :: csL t)[m + 2]? = some v := fun m v e => e
      exact ⟨(by have := hs _ _ k.1; rwa [show j * 2 + 2 = (j + 1) * 2 by omega] at this), (by have := hs _ _ k.2; rwa [show j * 2 + 1 + 2 = (j + 1) * 2 + 1 by omega] at this)⟩
theorem SlL.of_row {w : World} {g : Nat} {t : TypeId} {l : List (Int × Int)} (h : Row w g t (csL l)) : SlL w g 0 l :=
  ⟨h.lt, fun i hi => by
    have k := csL_get l i hi
    exact ⟨(by have := h.cell k.1; rwa [show 0 + i * 2 = i * 2 by omega]), (by have := h.cell k.2; rwa [show 0 + i * 2 + 1 = i * 2 + 1 by omega])⟩⟩
theorem SlL.drop {w : World} {b o : Nat} {l : List (Int × Int)} (h : SlL w b o l) (k : Nat) : SlL w b (o + k * 2) (l.drop k) :=
  ⟨h.lt, fun i hi => by
    have hi2 : k + i < l.length := by rw [List.length_drop] at hi; omega
    have k1 := h.val (k + i) hi2
    rw [List.getElem_drop]
    have e0 : o + k * 2 + i * 2 = o + (k + i) * 2 := by omega
    rw [e0]
    exact k1⟩
theorem SlL.take {w : World} {b o : Nat} {l : List (Int × Int)} (h : SlL w b o l) (k : Nat) : SlL w b o (l.take k) :=
  ⟨h.lt, fun i hi => by
    have hi2 : i < l.length := by rw [List.length_take] at hi; omega
    have k1 := h.val i hi2
    rw [List.getElem_take]
    exact k1⟩

def OwnL (w : World) (B : Nat) (v : Value) (l : List (Int × Int)) : Prop := w.ownsRow B 167 2 v l.length (csL l)
theorem OwnL.below {w w' : World} {B : Nat} {v : Value} {l : List (Int × Int)} (h : OwnL w B v l) (hb : Below w.heap.size w w') : OwnL w' B v l :=
  World.ownsRow.kept (row := none) h ⟨hb.os, hb.tape, hb.output, hb.size, fun k hk _ => hb.block k hk⟩ (Classical.em _)
theorem OwnL.cells {w : World} {B g cap : Nat} {l : List (Int × Int)} (h : OwnL w B (.slice (some ⟨g, 0, none⟩) l.length cap) l) (j : Nat) (u : Value) (hu : (csL l)[j]? = some u) : w.cell? ⟨g, j, none⟩ = some u := by
  have hj : j < l.length * 2 := by rw [← csL_len]; exact (List.getElem?_eq_some_iff.1 hu).1
  rw [World.ownsRow.cellAt h j hj, hu]
theorem OwnL.form {w : World} {B : Nat} {v : Value} {l : List (Int × Int)} (h : OwnL w B v l) (h0 : 0 < l.length) : ∃ g cap, v = .slice (some ⟨g, 0, none⟩) l.length cap ∧ B ≤ g ∧ g < w.heap.size := by
  obtain ⟨h1, h2⟩ := h
  rcases h2 with ⟨hv, hn⟩ | ⟨g, cap, cur, hv, hB, hh, _⟩
  · omega
  · exact ⟨g, cap, hv, hB, lt_of_block hh⟩
theorem OwnL.shape {w : World} {B : Nat} {v : Value} {l : List (Int × Int)} (h : OwnL w B v l) : ∃ A n c, v = .slice A n c := by
  rcases h.2 with ⟨e, _⟩ | ⟨g, cap, _, e, _⟩
  · exact ⟨_, _, _, e⟩
  · exact ⟨_, _, _, e⟩
theorem OwnL.rd {w : World} {B : Nat} {v : Value} {l : List (Int × Int)} (h : OwnL w B v l) : RdL w v l := by
  by_cases h0 : 0 < l.length
  · obtain ⟨g, cap, rfl, hB, hlt⟩ := h.form h0
    refine ⟨_, _, rfl, Or.inr ⟨g, 0, rfl, hlt, fun i hi => ?_⟩⟩
    have hg := csL_get l i hi
    simp only [Nat.zero_add]
    exact ⟨h.cells _ _ hg.1, h.cells _ _ hg.2⟩
  · obtain rfl : l = [] := List.length_eq_zero_iff.1 (by omega)
    rcases h.2 with ⟨e, _⟩ | ⟨g, cap, _, e, _⟩
    · exact ⟨_, _, e, Or.inl rfl⟩
    · exact ⟨_, _, e, Or.inl rfl⟩
theorem csL_one {l : List (Int × Int)} : ∀ u ∈ csL l, u.oneCell' = true := by
  intro u hu
  simp only [csL, List.mem_flatMap] at hu
  obtain ⟨x, hx, hx2⟩ := hu
  simp at hx2
  rcases hx2 with rfl | rfl <;> rfl
theorem infoLine : (Tryz.prog.info? 167).map (fun i => (i.zero, i.size, i.bytes)) = some (some (.agg #[.int .i64 0, .int .i64 0]), 2, 16) := by kernel_rfl
theorem OwnL.nil (w : World) (B : Nat) : OwnL w B (.slice none 0 0) [] := World.ownsRow_nil _ _ _ _
theorem OwnL.fresh (w : World) (B A : Nat) (hA : A = w.heap.size) (hB : B ≤ A) : OwnL (w.alloc (.cells #[] 167 (0, 0))) B (.slice (some ⟨A, 0, none⟩) 0 0) [] := by
  subst hA
  refine ⟨rfl, Or.inr ⟨w.heap.size, 0, #[], rfl, hB, ?_, Nat.le_refl _, by unfold maxLen; omega, rfl, rfl⟩⟩
  show (w.heap.push _)[w.heap.size]? = _
  simp
theorem run_app_OwnL {w : World} {B : Nat} {v : Value} {l m : List (Int × Int)} {ad : Addr} {cap : Nat} (ty : TypeId) (h : OwnL w B v l) (hc : ∀ j u, (csL m)[j]? = some u → w.cell? (ad.add j) = some u) (hB : B ≤ w.heap.size) (hn : (l.length + m.length) * 16 ≤ 140737488355328) :
    ∃ v' w', (Builtin.append_ #[113, 113] ty #[v, .slice (some ad) m.length cap]).run Tryz.prog w = .ok v' w' ∧ OwnL w' B v' (l ++ m) ∧ w.grownBy w' v.ownBlock := by
  obtain ⟨i, h1, h2, h3, h4⟩ := info_parts infoLine
  obtain ⟨v', w', k1, k2, k3, _⟩ := run_append_own (P := Tryz.prog) w B _ ty _ i _ 2 16 Tryz.underlying113 h1 h2 h3 h4 rfl (by decide) v l.length (csL l) h ad m.length cap (csL m) (csL_len m)
      hc csL_one (by unfold maxLen; omega) hn hB
  refine ⟨v', w', k1, ?_, k3⟩
  unfold OwnL
  rw [csL_append, List.length_append]
  exact k2
theorem step_app_OwnL {ops : Array Oper} {o : Oper} {a : Act} {K : Act → World → Prop} {Q : Exit → Act → World → Prop} {E : Prop} {w : World} {B : Nat} {v xv : Value} {l m : List (Int × Int)} {ad : Addr} {cap : Nat} (hgd : o.guard = none) (s x : Operand)
    (ho : o.op = .call { callee := .builtin .append, args := #[s, x], argTypes := #[113, 113] }) (hs : a.eval s = v) (hx : a.eval x = xv) (hxv : xv = .slice (some ad) m.length cap)
    (h : OwnL w B v l) (hc : ∀ j u, (csL m)[j]? = some u → w.cell? (ad.add j) = some u) (hB : B ≤ w.heap.size) (hn : (l.length + m.length) * 16 ≤ 140737488355328)
    (hK : ∀ v' w', OwnL w' B v' (l ++ m) → w.grownBy w' v.ownBlock → K (a.put o.dst v') w') : if Region.wanted o (yielded ops a.tmps) = true then Oper.wp Tryz.prog o a w K Q else E := by
  have hw : Region.wanted o (yielded ops a.tmps) = true := by simp [Region.wanted, hgd]
  rw [if_pos hw]
  subst hxv
  obtain ⟨v', w', hr, h2, h3⟩ := run_app_OwnL (cap := cap) o.type h hc hB hn
  unfold Oper.wp execOp
  simp only [ho, resolve, invoke, builtin, Sem.run_bind, Sem.run_pure, Result.andThen_ok, List.map_toArray, List.map_cons, List.map_nil, hs, hx, hr]
  exact hK v' w' h2 h3
theorem OwnL.alloc {w : World} {B : Nat} {v : Value} {l : List (Int × Int)} (h : OwnL w B v l) (o : Obj) : OwnL (w.alloc o) B v l := World.ownsRow.alloc h o
theorem app_belOwnL {W w w' : World} {B : Nat} {v : Value} {l : List (Int × Int)} (h : OwnL w B v l) (hb : Below W.heap.size W w) (hB : W.heap.size ≤ B) (hg : w.grownBy w' v.ownBlock) : Below W.heap.size W w' :=
  hb.grown hg hb.size fun k hk => Nat.le_trans hB (World.ownsRow.lt h k hk).1
end Go.Proofs.YtfcffheboncmbaaGreatDoor
end
