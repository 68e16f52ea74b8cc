/-
  Chapter 46: own rows of targets and of circles: copied, appended, stored to. (Printed by wip/ebc.py.)
  Chapter 49: the example: two own lists that are built side by side.
  Chapter 49: 'Two', 'Measured', 'Margins', 'Safe'; the example of TopPlatesGauged. (Printed by wip/oui.py.)
-/
import Derived.Test.YtellemlhhlafcaaGreatDoorMU
import Derived.Test.YtellemlhhlafcaaGreatDoorMPC
section
namespace Go.Proofs.YtellemlhhlafcaaGreatDoor
open Go Go.RowKit Go.Deep

def OwnG (w : World) (B : Nat) (v : Value) (l : List M.Tg) : Prop := w.ownsRow B 27 7 v l.length (csG l)
theorem OwnG.below {w w' : World} {B : Nat} {v : Value} {l : List M.Tg} (h : OwnG w B v l) (hb : Below w.heap.size w w') : OwnG w' B v l :=
  World.ownsRow.kept (row := none) h ⟨hb.os, hb.tape, hb.output, hb.size, fun k hk _ => hb.block k hk⟩ (Classical.em _)
theorem OwnG.cells {w : World} {B g cap : Nat} {l : List M.Tg} (h : OwnG w B (.slice (some ⟨g, 0, none⟩) l.length cap) l) (j : Nat) (u : Value) (hu : (csG l)[j]? = some u) : w.cell? ⟨g, j, none⟩ = some u := by
  have hj : j < l.length * 7 := by rw [← csG_len]; exact (List.getElem?_eq_some_iff.1 hu).1
  rw [World.ownsRow.cellAt h j hj, hu]
theorem OwnG.form {w : World} {B : Nat} {v : Value} {l : List M.Tg} (h : OwnG w B v l) (h0 : 0 < l.length) : ∃ g cap, v = .slice (some ⟨g, 0, none⟩) l.length cap ∧ B ≤ g ∧ g < w.heap.size := by
  obtain ⟨h1, h2⟩ := h
  rcases h2 with ⟨hv, hn⟩ | ⟨g, cap, cur, hv, hB, hh, _⟩
  · omega
  · exact ⟨g, cap, hv, hB, lt_of_block hh⟩
theorem OwnG.shape {w : World} {B : Nat} {v : Value} {l : List M.Tg} (h : OwnG w B v l) : ∃ A n c, v = .slice A n c := by
  rcases h.2 with ⟨e, _⟩ | ⟨g, cap, _, e, _⟩
  · exact ⟨_, _, _, e⟩
  · exact ⟨_, _, _, e⟩
theorem OwnG.rd {w : World} {B : Nat} {v : Value} {l : List M.Tg} (h : OwnG w B v l) : RdG w v l := by
  by_cases h0 : 0 < l.length
  · obtain ⟨g, cap, rfl, hB, hlt⟩ := h.form h0
    refine ⟨_, _, rfl, Or.inr ⟨g, 0, rfl, hlt, fun i hi => ?_⟩⟩
    have hg := csG_get l i hi
    simp only [Nat.zero_add]
    exact ⟨h.cells _ _ hg.1, h.cells _ _ hg.2.1, h.cells _ _ hg.2.2.1, h.cells _ _ hg.2.2.2.1, h.cells _ _ hg.2.2.2.2.1, h.cells _ _ hg.2.2.2.2.2.1, h.cells _ _ hg.2.2.2.2.2.2⟩
  · obtain rfl : l = [] := List.length_eq_zero_iff.1 (by omega)
    rcases h.2 with ⟨e, _⟩ | ⟨g, cap, _, e, _⟩
    · exact ⟨_, _, e, Or.inl rfl⟩
    · exact ⟨_, _, e, Or.inl rfl⟩
theorem csG_one {l : List M.Tg} : ∀ u ∈ csG l, u.oneCell' = true := by
  intro u hu
  simp only [csG, List.mem_flatMap] at hu
  obtain ⟨x, hx, hx2⟩ := hu
  simp at hx2
  rcases hx2 with rfl | rfl | rfl | rfl | rfl | rfl | rfl <;> rfl
theorem infoTarget : (Tryz.prog.info? 27).map (fun i => (i.zero, i.size, i.bytes)) = some (some (.agg #[.int .i64 0, .int .i64 0, .int .i64 0, .int .i64 0, .int .i64 0, .int .i64 0, .bool false]), 7, 56) := by kernel_rfl
theorem OwnG.nil (w : World) (B : Nat) : OwnG w B (.slice none 0 0) [] := World.ownsRow_nil _ _ _ _
namespace W
open M
attribute [local go_sem] bs_size bs_toList bs_get bs_extract bs_append bs_lit0 bs_lit1 lit1_bs
set_option maxHeartbeats 1000000
set_option maxRecDepth 20000

end W
end Go.Proofs.YtellemlhhlafcaaGreatDoor
end
section
namespace Go.Proofs.YtellemlhhlafcaaGreatDoor
open Go Go.RowKit Go.Deep Go.Sort
theorem run_app_OwnG2 {w : World} {B : Nat} {v : Value} {l m : List M.Tg} {ad : Addr} {cap : Nat} (ty : TypeId) (h : OwnG w B v l) (hc : ∀ j u, (csG m)[j]? = some u → w.cell? (ad.add j) = some u) (hB : B ≤ w.heap.size) (hn : (l.length + m.length) * 56 ≤ 140737488355328) :
    ∃ v' w', (Builtin.append_ #[33, 33] ty #[v, .slice (some ad) m.length cap]).run Tryz.prog w = .ok v' w' ∧ OwnG w' B v' (l ++ m) ∧ w.grownBy w' v.ownBlock ∧ (v'.ownBlock = v.ownBlock ∨ v'.ownBlock = some w.heap.size) := by
  obtain ⟨i, h1, h2, h3, h4⟩ := info_parts infoTarget
  obtain ⟨v', w', k1, k2, k3, _, k4⟩ := run_append_own_at (P := Tryz.prog) w B _ ty _ i _ 7 56 Tryz.underlying33 h1 h2 h3 h4 rfl (by decide) v l.length (csG l) h ad m.length cap (csG m) (csG_len m)
      hc csG_one (by unfold maxLen; omega) hn hB
  refine ⟨v', w', k1, ?_, k3, k4⟩
  unfold OwnG
  rw [csG_append, List.length_append]
  exact k2
theorem wpList_app_OwnG2 {ops : Array Oper} {rest : List Oper} {o : Oper} {a : Act} {Q : Exit → Act → World → Prop} {w : World} {B : Nat} {v xv : Value} {l m : List M.Tg} {ad : Addr} {cap : Nat} (hgd : o.guard = none) (s x : Operand)
    (ho : o.op = .call { callee := .builtin .append, args := #[s, x], argTypes := #[33, 33] }) (hs : a.eval s = v) (hx : a.eval x = xv) (hxv : xv = .slice (some ad) m.length cap)
    (h : OwnG w B v l) (hc : ∀ j u, (csG m)[j]? = some u → w.cell? (ad.add j) = some u) (hB : B ≤ w.heap.size) (hn : (l.length + m.length) * 56 ≤ 140737488355328)
    (hK : ∀ v' w', OwnG w' B v' (l ++ m) → w.grownBy w' v.ownBlock → (v'.ownBlock = v.ownBlock ∨ v'.ownBlock = some w.heap.size) → wpList Tryz.prog ops Q rest (a.put o.dst v') w') : wpList Tryz.prog ops Q (o :: rest) a w :=
  wpList_plain hgd fun _ hK2 => by
    subst hxv
    obtain ⟨v', w', hr, h2, h3, h4⟩ := run_app_OwnG2 (cap := cap) o.type h hc hB hn
    unfold Oper.wp execOp
    simp only [ho, resolve, invoke, builtin, Sem.run_bind, Sem.run_pure, Result.andThen_ok, List.map_toArray, List.map_cons, List.map_nil, hs, hx, hr]
    exact hK2 _ _ (hK v' w' h2 h3 h4)
theorem own_offG {w : World} {B g j : Nat} {v u : Value} {l : List M.Tg} (hg : ∀ k, v.ownBlock = some k → k ≠ g) (h : OwnG w B v l) : OwnG (w.setCell ⟨g, j, none⟩ u) B v l := by
  refine World.ownsRow.kept h (grown_set w ⟨g, j, none⟩ u) ?_
  rcases hv : v.ownBlock with _ | k
  · exact Or.inl rfl
  · refine Or.inr fun e => ?_
    injection e with e
    have := hg k hv
    simp only at e
    omega
theorem row_offG {w w' : World} {g : Nat} {v : Value} {t : TypeId} {xs : List Value} (h : Row w g t xs) (hg : w.grownBy w' v.ownBlock) (hne : ∀ k, v.ownBlock = some k → k ≠ g) : Row w' g t xs := by
  refine (hg.block g (Row.lt h) fun e => hne g e.symm rfl).trans h
theorem own_keptG {w w' : World} {B : Nat} {v vb : Value} {l : List M.Tg} (h : OwnG w B vb l) (hg : w.grownBy w' v.ownBlock) (hne : ∀ k, vb.ownBlock = some k → v.ownBlock ≠ some k) : OwnG w' B vb l := by
  refine World.ownsRow.kept h hg ?_
  rcases hv : vb.ownBlock with _ | k
  · exact Or.inl rfl
  · refine Or.inr fun e => ?_
    exact hne k hv (by first | exact e | exact e.symm)
theorem srcG_row {w : World} {g : Nat} {d : M.Tg} (h : Row w g 27 (csG [d])) (j : Nat) (u : Value) (hu : (csG [d])[j]? = some u) : w.cell? ((⟨g, 0, none⟩ : Addr).add j) = some u := by
  have hadd : (⟨g, 0, none⟩ : Addr).add j = ⟨g, j, none⟩ := by unfold Addr.add; split <;> simp_all
  rw [hadd]
  exact h.cell hu
theorem rdG_off {w : World} {B g j : Nat} {v u : Value} {l : List M.Tg} (hg : g < B) (h : OwnG w B v l) : OwnG (w.setCell ⟨g, j, none⟩ u) B v l := own_offG (fun k hk => by have := (World.ownsRow.lt h k hk).1; omega) h
namespace M
def holT (x : Int) : Tg := ⟨x, 0, 100, 104, 4, 1, false⟩
def pnT (x : Int) : Tg := ⟨x, 0, 90, 92, 4, 1, true⟩
def twA : List Tg := [holT 0, holT 1000]
def twB : List Tg := [pnT 0, pnT 1000]
def twP : List Cc := [⟨2, 0, 100⟩, ⟨998, 0, 100⟩]
def twQ : List Cc := [⟨-2, 0, 92⟩, ⟨1002, 0, 92⟩]
end M
structure TwG (w wr : World) (va vb : Value) (la lb : List M.Tg) : Prop where
  r0 : Row wr w.heap.size 70 [.slice none 0 0, .slice none 0 0]
  r1 : Row wr (w.heap.size + 1) 70 [va, vb]
  r2 : Row wr (w.heap.size + 1 + 1) 3 [.int .i64 0, .int .i64 1000]
  oa : OwnG wr (w.heap.size + 3) va la
  ob : OwnG wr (w.heap.size + 3) vb lb
  ne : ∀ k, va.ownBlock = some k → vb.ownBlock ≠ some k
  bel : Below w.heap.size w wr
theorem TwG.to {w wr W : World} {va vb : Value} {la lb : List M.Tg} (h : TwG w wr va vb la lb) (hb : Below wr.heap.size wr W) : TwG w W va vb la lb :=
  ⟨h.r0.below' hb, h.r1.below' hb, h.r2.below' hb, h.oa.below hb, h.ob.below hb, h.ne, bel_to h.bel hb⟩
theorem TwG.appA {w wr W : World} {va vb va' : Value} {la lb la' : List M.Tg} (h : TwG w wr va vb la lb) (ho : OwnG W (w.heap.size + 3) va' la') (hg : wr.grownBy W va.ownBlock) (hd : va'.ownBlock = va.ownBlock ∨ va'.ownBlock = some wr.heap.size) :
    TwG w (W.setCell ⟨w.heap.size + 1, 0, none⟩ va') va' vb la' lb := by
  have n (g : Nat) (hlt : g < w.heap.size + 3) : ∀ k, va.ownBlock = some k → k ≠ g := fun k hk => by have := (World.ownsRow.lt h.oa k hk).1; omega
  have hb' : Below w.heap.size w W := h.bel.grown hg h.bel.size fun k hk => by have := (World.ownsRow.lt h.oa k hk).1; omega
  refine ⟨row_other (p := ⟨w.heap.size + 1, 0, none⟩) (row_offG h.r0 hg (n _ (by omega))) (by show w.heap.size ≠ w.heap.size + 1; omega) va', (row_offG h.r1 hg (n _ (by omega))).set 0 va',
    row_other (p := ⟨w.heap.size + 1, 0, none⟩) (row_offG h.r2 hg (n _ (by omega))) (by show w.heap.size + 1 + 1 ≠ w.heap.size + 1; omega) va', rdG_off (by omega) ho, rdG_off (by omega) (own_keptG h.ob hg fun k hk e => h.ne k e hk), fun k hk e => ?_, hb'.setCell (p := ⟨w.heap.size + 1, 0, none⟩) (by show w.heap.size ≤ w.heap.size + 1; omega) va'⟩
  rcases hd with e2 | e2
  · exact h.ne k (e2 ▸ hk) e
  · rw [e2] at hk
    injection hk with hk
    have := (World.ownsRow.lt h.ob k e).2
    omega
theorem TwG.appB {w wr W : World} {va vb vb' : Value} {la lb lb' : List M.Tg} (h : TwG w wr va vb la lb) (ho : OwnG W (w.heap.size + 3) vb' lb') (hg : wr.grownBy W vb.ownBlock) (hd : vb'.ownBlock = vb.ownBlock ∨ vb'.ownBlock = some wr.heap.size) :
    TwG w (W.setCell ⟨w.heap.size + 1, 1, none⟩ vb') va vb' la lb' := by
  have n (g : Nat) (hlt : g < w.heap.size + 3) : ∀ k, vb.ownBlock = some k → k ≠ g := fun k hk => by have := (World.ownsRow.lt h.ob k hk).1; omega
  have hb' : Below w.heap.size w W := h.bel.grown hg h.bel.size fun k hk => by have := (World.ownsRow.lt h.ob k hk).1; omega
  refine ⟨row_other (p := ⟨w.heap.size + 1, 1, none⟩) (row_offG h.r0 hg (n _ (by omega))) (by show w.heap.size ≠ w.heap.size + 1; omega) vb', (row_offG h.r1 hg (n _ (by omega))).set 1 vb',
    row_other (p := ⟨w.heap.size + 1, 1, none⟩) (row_offG h.r2 hg (n _ (by omega))) (by show w.heap.size + 1 + 1 ≠ w.heap.size + 1; omega) vb', rdG_off (by omega) (own_keptG h.oa hg fun k hk e => h.ne k hk e), rdG_off (by omega) ho, fun k hk e => ?_, hb'.setCell (p := ⟨w.heap.size + 1, 1, none⟩) (by show w.heap.size ≤ w.heap.size + 1; omega) vb'⟩
  rcases hd with e2 | e2
  · exact h.ne k hk (e2 ▸ e)
  · rw [e2] at e
    injection e with e
    have := (World.ownsRow.lt h.oa k hk).2
    omega
theorem TwG.off {w wr : World} {va vb : Value} {la lb : List M.Tg} (h : TwG w wr va vb la lb) {g : Nat} (hg : w.heap.size + 3 ≤ g) (ha : ∀ k, va.ownBlock = some k → k ≠ g) (hb : ∀ k, vb.ownBlock = some k → k ≠ g) (j : Nat) (u : Value) : TwG w (wr.setCell ⟨g, j, none⟩ u) va vb la lb :=
  ⟨row_other (p := ⟨g, j, none⟩) h.r0 (by show w.heap.size ≠ g; omega) u, row_other (p := ⟨g, j, none⟩) h.r1 (by show w.heap.size + 1 ≠ g; omega) u, row_other (p := ⟨g, j, none⟩) h.r2 (by show w.heap.size + 1 + 1 ≠ g; omega) u, own_offG ha h.oa, own_offG hb h.ob, h.ne, h.bel.setCell (p := ⟨g, j, none⟩) (by show w.heap.size ≤ g; omega) u⟩
end Go.Proofs.YtellemlhhlafcaaGreatDoor
end
section
namespace Go.Proofs.YtellemlhhlafcaaGreatDoor
open Go Go.RowKit Go.Deep Go.Sort
theorem TwG.first {w wr w4 : World} {va vb va2 : Value} {la lb la2 : List M.Tg} {x : Int} (h : TwG w wr va vb la lb) (hg : ((wr.alloc (.cells #[.int .i64 x, .int .i64 0, .int .i64 100, .int .i64 104, .int .i64 4, .int .i64 1, .bool false] 27 (0, 0))).alloc (.cells #[.int .i64 x, .int .i64 0, .int .i64 100, .int .i64 104, .int .i64 4, .int .i64 1, .bool false] 27 (0, 0))).grownBy w4 va.ownBlock) (ho : OwnG w4 (w.heap.size + 3) va2 la2) (hd : va2.ownBlock = va.ownBlock ∨ va2.ownBlock = some ((wr.alloc (.cells #[.int .i64 x, .int .i64 0, .int .i64 100, .int .i64 104, .int .i64 4, .int .i64 1, .bool false] 27 (0, 0))).alloc (.cells #[.int .i64 x, .int .i64 0, .int .i64 100, .int .i64 104, .int .i64 4, .int .i64 1, .bool false] 27 (0, 0))).heap.size) :
    (w4.frozen? ⟨w.heap.size + 1, 0, none⟩ = false ∧ w4.cell? ⟨w.heap.size + 1, 0, none⟩ = some va) ∧
    ((w4.setCell ⟨w.heap.size + 1, 0, none⟩ va2).frozen? ⟨wr.heap.size, 2, none⟩ = false ∧ (w4.setCell ⟨w.heap.size + 1, 0, none⟩ va2).cell? ⟨wr.heap.size, 2, none⟩ = some (.int .i64 100)) ∧
    (((w4.setCell ⟨w.heap.size + 1, 0, none⟩ va2).setCell ⟨wr.heap.size, 2, none⟩ (.int .i64 90)).frozen? ⟨wr.heap.size, 3, none⟩ = false ∧ ((w4.setCell ⟨w.heap.size + 1, 0, none⟩ va2).setCell ⟨wr.heap.size, 2, none⟩ (.int .i64 90)).cell? ⟨wr.heap.size, 3, none⟩ = some (.int .i64 104)) ∧
    ((((w4.setCell ⟨w.heap.size + 1, 0, none⟩ va2).setCell ⟨wr.heap.size, 2, none⟩ (.int .i64 90)).setCell ⟨wr.heap.size, 3, none⟩ (.int .i64 92)).frozen? ⟨wr.heap.size, 6, none⟩ = false ∧ (((w4.setCell ⟨w.heap.size + 1, 0, none⟩ va2).setCell ⟨wr.heap.size, 2, none⟩ (.int .i64 90)).setCell ⟨wr.heap.size, 3, none⟩ (.int .i64 92)).cell? ⟨wr.heap.size, 6, none⟩ = some (.bool false)) ∧
    TwG w ((((w4.setCell ⟨w.heap.size + 1, 0, none⟩ va2).setCell ⟨wr.heap.size, 2, none⟩ (.int .i64 90)).setCell ⟨wr.heap.size, 3, none⟩ (.int .i64 92)).setCell ⟨wr.heap.size, 6, none⟩ (.bool true)) va2 vb la2 lb ∧ Row ((((w4.setCell ⟨w.heap.size + 1, 0, none⟩ va2).setCell ⟨wr.heap.size, 2, none⟩ (.int .i64 90)).setCell ⟨wr.heap.size, 3, none⟩ (.int .i64 92)).setCell ⟨wr.heap.size, 6, none⟩ (.bool true)) wr.heap.size 27 [.int .i64 x, .int .i64 0, .int .i64 90, .int .i64 92, .int .i64 4, .int .i64 1, .bool true] := by
  have h2 := h.to (bel_al2 wr (.cells #[.int .i64 x, .int .i64 0, .int .i64 100, .int .i64 104, .int .i64 4, .int .i64 1, .bool false] 27 (0, 0)) (.cells #[.int .i64 x, .int .i64 0, .int .i64 100, .int .i64 104, .int .i64 4, .int .i64 1, .bool false] 27 (0, 0)))
  have hG : Row ((wr.alloc (.cells #[.int .i64 x, .int .i64 0, .int .i64 100, .int .i64 104, .int .i64 4, .int .i64 1, .bool false] 27 (0, 0))).alloc (.cells #[.int .i64 x, .int .i64 0, .int .i64 100, .int .i64 104, .int .i64 4, .int .i64 1, .bool false] 27 (0, 0))) wr.heap.size 27 [.int .i64 x, .int .i64 0, .int .i64 100, .int .i64 104, .int .i64 4, .int .i64 1, .bool false] := rnw.alloc _
  have hl := h.r2.lt
  have na : ∀ k, va.ownBlock = some k → k ≠ wr.heap.size := fun k hk => by have := (World.ownsRow.lt h.oa k hk).2; omega
  have nb : ∀ k, vb.ownBlock = some k → k ≠ wr.heap.size := fun k hk => by have := (World.ownsRow.lt h.ob k hk).2; omega
  have na2 : ∀ k, va2.ownBlock = some k → k ≠ wr.heap.size := fun k hk => by
    rcases hd with e | e
    · exact na k (e ▸ hk)
    · rw [e] at hk
      injection hk with hk
      rw [World.size_alloc, World.size_alloc] at hk
      omega
  have n1 : ∀ k, va.ownBlock = some k → k ≠ w.heap.size + 1 := fun k hk => by have := (World.ownsRow.lt h.oa k hk).1; omega
  have r1 := row_offG h2.r1 hg n1
  have g0 := row_other (p := ⟨w.heap.size + 1, 0, none⟩) (row_offG hG hg na) (by show wr.heap.size ≠ w.heap.size + 1; omega) va2
  have g1 := g0.set 2 (.int .i64 90)
  have g2 := g1.set 3 (.int .i64 92)
  have hA := h2.appA ho hg hd
  have hA3 := ((hA.off (by omega) na2 nb 2 (.int .i64 90)).off (by omega) na2 nb 3 (.int .i64 92)).off (by omega) na2 nb 6 (.bool true)
  exact ⟨⟨r1.free 0, r1.cell rfl⟩, ⟨g0.free 2, g0.cell rfl⟩, ⟨g1.free 3, g1.cell rfl⟩, ⟨g2.free 6, g2.cell rfl⟩, hA3, g2.set 6 (.bool true)⟩
theorem TwG.second {w wr w5 : World} {va vb vb2 : Value} {la lb lb2 : List M.Tg} {o : Obj} (h : TwG w wr va vb la lb) (hg : (wr.alloc o).grownBy w5 vb.ownBlock) (ho : OwnG w5 (w.heap.size + 3) vb2 lb2) (hd : vb2.ownBlock = vb.ownBlock ∨ vb2.ownBlock = some (wr.alloc o).heap.size) :
    (w5.frozen? ⟨w.heap.size + 1, 1, none⟩ = false ∧ w5.cell? ⟨w.heap.size + 1, 1, none⟩ = some vb) ∧ TwG w (w5.setCell ⟨w.heap.size + 1, 1, none⟩ vb2) va vb2 la lb2 := by
  have h2 := h.to (bel_al wr o)
  have n1 : ∀ k, vb.ownBlock = some k → k ≠ w.heap.size + 1 := fun k hk => by have := (World.ownsRow.lt h.ob k hk).1; omega
  have r1 := row_offG h2.r1 hg n1
  exact ⟨⟨r1.free 1, r1.cell rfl⟩, h2.appB ho hg hd⟩
namespace W
open M
attribute [local go_sem] bs_size bs_toList bs_get bs_extract bs_append bs_lit0 bs_lit1 lit1_bs
set_option maxHeartbeats 2000000
set_option maxRecDepth 20000
theorem law49two (w : World) : Calls Tryz.prog 47 #[] w (fun e w' => ∃ (A B : Option Addr) (n m c d : Nat), e = .returned (joV (.slice A n c) (.slice B m d)) ∧ RdG w' (.slice A n c) twA ∧ RdG w' (.slice B m d) twB ∧ Below w.heap.size w w') := by
  have hb0 := bel_to (bel_al2 w (.cells #[.slice none 0 0, .slice none 0 0] 70 (0, 0)) (.cells #[.slice none 0 0, .slice none 0 0] 70 (0, 0))) (bel_al ((w.alloc (.cells #[.slice none 0 0, .slice none 0 0] 70 (0, 0))).alloc (.cells #[.slice none 0 0, .slice none 0 0] 70 (0, 0))) (.cells #[.int .i64 0, .int .i64 1000] 3 (0, 0)))
  have r0 : Row (((w.alloc (.cells #[.slice none 0 0, .slice none 0 0] 70 (0, 0))).alloc (.cells #[.slice none 0 0, .slice none 0 0] 70 (0, 0))).alloc (.cells #[.int .i64 0, .int .i64 1000] 3 (0, 0))) w.heap.size 70 [.slice none 0 0, .slice none 0 0] := (rnw.alloc _).alloc _
  have r1 : Row (((w.alloc (.cells #[.slice none 0 0, .slice none 0 0] 70 (0, 0))).alloc (.cells #[.slice none 0 0, .slice none 0 0] 70 (0, 0))).alloc (.cells #[.int .i64 0, .int .i64 1000] 3 (0, 0))) (w.heap.size + 1) 70 [.slice none 0 0, .slice none 0 0] := (rnew0 (World.size_alloc _ _).symm).alloc _
  have r2 : Row (((w.alloc (.cells #[.slice none 0 0, .slice none 0 0] 70 (0, 0))).alloc (.cells #[.slice none 0 0, .slice none 0 0] 70 (0, 0))).alloc (.cells #[.int .i64 0, .int .i64 1000] 3 (0, 0))) (w.heap.size + 1 + 1) 3 [.int .i64 0, .int .i64 1000] := rnew0 (by rw [World.size_alloc, World.size_alloc])
  have HT : Hid (TwG w (((w.alloc (.cells #[.slice none 0 0, .slice none 0 0] 70 (0, 0))).alloc (.cells #[.slice none 0 0, .slice none 0 0] 70 (0, 0))).alloc (.cells #[.int .i64 0, .int .i64 1000] 3 (0, 0))) (.slice none 0 0) (.slice none 0 0) (twA.take 0) (twB.take 0)) := Lib.hid ⟨r0, r1, r2, OwnG.nil _ _, OwnG.nil _ _, fun k h => (by cases h), hb0⟩
  clear hb0 r0 r1 r2
  go_enter Tryz.func47, Tryz.ntmps47
  go_wp2
  go_loopw [7] (fun iv wr => ∃ i : Nat, iv = .int .i64 (i : Int) ∧ i ≤ 2 ∧ Hid (∃ (A B : Option Addr) (n m c d : Nat), TwG w wr (.slice A n c) (.slice B m d) (twA.take i) (twB.take i))) (fun iv _ => 2 - (intOf iv).toNat)
  case atStart => exact ⟨0, rfl, by omega, Lib.hid ⟨none, none, 0, 0, 0, 0, HT.out⟩⟩
  case round =>
    clear HT
    obtain ⟨i, rfl, hi, hk⟩ := hrel
    obtain ⟨VA, VB, vn, vm, vc, vd, h⟩ := hk.out
    clear hk
    have hsz := h.r2.lt
    by_cases hlt : i < 2
    · obtain ⟨x, hx, ea, eb⟩ : ∃ x : Int, ([.int .i64 0, .int .i64 1000] : List Value)[i]? = some (.int .i64 x) ∧ twA.take (i + 1) = twA.take i ++ [holT x] ∧ twB.take (i + 1) = twB.take i ++ [pnT x] := by
        rcases (by omega : i = 0 ∨ i = 1) with rfl | rfl
        · exact ⟨0, rfl, rfl, rfl⟩
        · exact ⟨1000, rfl, rfl, rfl⟩
      have c0 := h.r2.cell hx
      have hi0 : (0 : Int) ≤ (i : Int) := by omega
      have hi1 : (i : Int) < 2 := by omega
      have HEA := Lib.hid ea
      have HEB := Lib.hid eb
      have HLA := Lib.hid (show (twA.take i).length ≤ 2 from by rw [List.length_take]; show min i 2 ≤ 2; omega)
      have HLB := Lib.hid (show (twB.take i).length ≤ 2 from by rw [List.length_take]; show min i 2 ≤ 2; omega)
      clear ea eb hx
      generalize hla2 : twA.take (i + 1) = la2 at *
      generalize hlb2 : twB.take (i + 1) = lb2 at *
      have HL2 := Lib.hid (And.intro hla2 hlb2)
      clear hla2 hlb2
      generalize twA.take i = la at *
      generalize twB.take i = lb at *
      have HT := Lib.hid h
      have h1 := h.to (bel_al wr (.cells #[.int .i64 x, .int .i64 0, .int .i64 100, .int .i64 104, .int .i64 4, .int .i64 1, .bool false] 27 (0, 0)))
      have y0 := h1.r1.cell (i := 0) rfl
      have HO2 := Lib.hid (h.to (bel_al2 wr (.cells #[.int .i64 x, .int .i64 0, .int .i64 100, .int .i64 104, .int .i64 4, .int .i64 1, .bool false] 27 (0, 0)) (.cells #[.int .i64 x, .int .i64 0, .int .i64 100, .int .i64 104, .int .i64 4, .int .i64 1, .bool false] 27 (0, 0)))).oa
      have hsr : Row ((wr.alloc (.cells #[.int .i64 x, .int .i64 0, .int .i64 100, .int .i64 104, .int .i64 4, .int .i64 1, .bool false] 27 (0, 0))).alloc (.cells #[.int .i64 x, .int .i64 0, .int .i64 100, .int .i64 104, .int .i64 4, .int .i64 1, .bool false] 27 (0, 0))) (wr.heap.size + 1) 27 (csG [holT x]) := rnew0 (World.size_alloc _ _).symm
      have HC := Lib.hid (fun j u hu => srcG_row hsr j u hu)
      have HSZ := Lib.hid (show w.heap.size + 3 ≤ ((wr.alloc (.cells #[.int .i64 x, .int .i64 0, .int .i64 100, .int .i64 104, .int .i64 4, .int .i64 1, .bool false] 27 (0, 0))).alloc (.cells #[.int .i64 x, .int .i64 0, .int .i64 100, .int .i64 104, .int .i64 4, .int .i64 1, .bool false] 27 (0, 0))).heap.size from by rw [World.size_alloc, World.size_alloc]; omega)
      clear h h1 hsr
      go_wp2_with (at_builtin; (refine wpList_app_OwnG2 (v := .slice VA vn vc) (m := [holT x]) rfl _ _ rfl rfl rfl rfl HO2.out HC.out HSZ.out (by have := HLA.out; simp only [List.length_cons, List.length_nil]; omega) ?_; intro va2 w4 ho2 hg2 hd2; obtain ⟨V2, n2, c2, hv2⟩ := (show OwnG w4 (w.heap.size + 3) va2 (la ++ [holT x]) from ho2).shape; subst hv2; apply RowKit.Hid.out))
      obtain ⟨⟨f0, m0⟩, ⟨f2, m2⟩, ⟨f3, m3⟩, ⟨f6, m6⟩, hT2, hRG⟩ := HT.out.first hg2 ho2 hd2
      rw [← HEA.out] at hT2
      generalize hWa : w4.setCell ⟨w.heap.size + 1, 0, none⟩ (.slice V2 n2 c2) = Wa at *
      generalize hWb : Wa.setCell ⟨wr.heap.size, 2, none⟩ (.int .i64 90) = Wb at *
      generalize hWc : Wb.setCell ⟨wr.heap.size, 3, none⟩ (.int .i64 92) = Wc at *
      generalize hWd : Wc.setCell ⟨wr.heap.size, 6, none⟩ (.bool true) = Wd at *
      have HT2 := Lib.hid (And.intro hT2 hRG)
      have y1 := hT2.r1.cell (i := 1) rfl
      have z0 := hRG.cell (i := 0) rfl
      have z1 := hRG.cell (i := 1) rfl
      have z2 := hRG.cell (i := 2) rfl
      have z3 := hRG.cell (i := 3) rfl
      have z4 := hRG.cell (i := 4) rfl
      have z5 := hRG.cell (i := 5) rfl
      have z6 := hRG.cell (i := 6) rfl
      have HOB := Lib.hid (hT2.to (bel_al Wd (.cells #[.int .i64 x, .int .i64 0, .int .i64 90, .int .i64 92, .int .i64 4, .int .i64 1, .bool true] 27 (0, 0)))).ob
      have hsr : Row (Wd.alloc (.cells #[.int .i64 x, .int .i64 0, .int .i64 90, .int .i64 92, .int .i64 4, .int .i64 1, .bool true] 27 (0, 0))) Wd.heap.size 27 (csG [pnT x]) := rnw
      have HC2 := Lib.hid (fun j u hu => srcG_row hsr j u hu)
      have HSZ2 := Lib.hid (show w.heap.size + 3 ≤ (Wd.alloc (.cells #[.int .i64 x, .int .i64 0, .int .i64 90, .int .i64 92, .int .i64 4, .int .i64 1, .bool true] 27 (0, 0))).heap.size from by have := hT2.r2.lt; rw [World.size_alloc]; omega)
      clear hT2 hRG ho2 hg2 hd2 HC HSZ HO2 HT y0 c0 hsr
      refine Lib.hid ?_
      go_wp2_with (at_builtin; (refine wpList_app_OwnG2 (v := .slice VB vm vd) (m := [pnT x]) rfl _ _ rfl rfl rfl rfl HOB.out HC2.out HSZ2.out (by have := HLB.out; simp only [List.length_cons, List.length_nil]; omega) ?_; intro vb2 w5 ho3 hg3 hd3; obtain ⟨V3, n3, c3, hv3⟩ := (show OwnG w5 (w.heap.size + 3) vb2 (lb ++ [pnT x]) from ho3).shape; subst hv3; apply RowKit.Hid.out))
      obtain ⟨⟨f7, m7⟩, hT3⟩ := HT2.out.1.second hg3 ho3 hd3
      rw [← HEB.out] at hT3
      have HT3 := Lib.hid hT3
      clear hT3 ho3 hg3 hd3 HOB HC2 HSZ2 HT2 f0 m0 f2 m2 f3 m3 f6 m6 y1 z0 z1 z2 z3 z4 z5 z6 hWa hWb hWc hWd
      refine Lib.hid ?_
      go_wp2
      go_roundw
      case rel => exact ⟨i + 1, by go_num, by omega, Lib.hid ⟨V2, V3, n2, n3, c2, c3, HL2.out.1 ▸ HL2.out.2 ▸ HT3.out⟩⟩
      case measure => simp [intOf]; omega
    · obtain rfl : i = 2 := by omega
      have y0 := h.r1.cell (i := 0) rfl
      have y1 := h.r1.cell (i := 1) rfl
      obtain ⟨⟨f0, m0⟩, ⟨f1, m1⟩, hrow⟩ := two_storeP (.slice VA vn vc) (.slice VB vm vd) h.r0
      have hAq : OwnG ((wr.setCell ⟨w.heap.size, 0, none⟩ (.slice VA vn vc)).setCell ⟨w.heap.size, 1, none⟩ (.slice VB vm vd)) (w.heap.size + 3) (.slice VA vn vc) twA := rdG_off (by omega) (rdG_off (by omega) h.oa)
      have hBq : OwnG ((wr.setCell ⟨w.heap.size, 0, none⟩ (.slice VA vn vc)).setCell ⟨w.heap.size, 1, none⟩ (.slice VB vm vd)) (w.heap.size + 3) (.slice VB vm vd) twB := rdG_off (by omega) (rdG_off (by omega) h.ob)
      have HQ := Lib.hid (And.intro hrow (And.intro hAq.rd (And.intro hBq.rd ((h.bel.setCell (p := ⟨w.heap.size, 0, none⟩) (Nat.le_refl _) (.slice VA vn vc)).setCell (p := ⟨w.heap.size, 1, none⟩) (Nat.le_refl _) (.slice VB vm vd)))))
      clear hrow hAq hBq h
      go_wp2
      have q0 := HQ.out.1.cell (i := 0) rfl
      have q1 := HQ.out.1.cell (i := 1) rfl
      refine bodyPost_ret (v := .agg #[.slice VA vn vc, .slice VB vm vd]) (by simp [results, Tryz.results47, go_sem, q0, q1]) rfl ⟨_, _, _, _, _, _, rfl, HQ.out.2.1, HQ.out.2.2.1, HQ.out.2.2.2⟩
theorem law49measured (w : World) : Calls Tryz.prog 48 #[.int .i64 2] w (fun e w' => ∃ A B : Nat, e = .returned (joV (.slice (some ⟨A, 0, none⟩) 2 2) (.slice (some ⟨B, 0, none⟩) 2 2)) ∧ RdC w' (.slice (some ⟨A, 0, none⟩) 2 2) twP ∧ RdC w' (.slice (some ⟨B, 0, none⟩) 2 2) twQ ∧ Below w.heap.size w w') := by
  have hb0 := bel_to (bel_al2 w (.cells #[.slice (some ⟨w.heap.size + 1, 0, none⟩) 2 2, .slice (some ⟨w.heap.size + 1 + 1, 0, none⟩) 2 2] 72 (0, 0)) (.cells (csC twP).toArray 30 (0, 0))) (bel_al ((w.alloc (.cells #[.slice (some ⟨w.heap.size + 1, 0, none⟩) 2 2, .slice (some ⟨w.heap.size + 1 + 1, 0, none⟩) 2 2] 72 (0, 0))).alloc (.cells (csC twP).toArray 30 (0, 0))) (.cells (csC twQ).toArray 30 (0, 0)))
  have r0 : Row (((w.alloc (.cells #[.slice (some ⟨w.heap.size + 1, 0, none⟩) 2 2, .slice (some ⟨w.heap.size + 1 + 1, 0, none⟩) 2 2] 72 (0, 0))).alloc (.cells (csC twP).toArray 30 (0, 0))).alloc (.cells (csC twQ).toArray 30 (0, 0))) w.heap.size 72 [.slice (some ⟨w.heap.size + 1, 0, none⟩) 2 2, .slice (some ⟨w.heap.size + 1 + 1, 0, none⟩) 2 2] := (rnw.alloc _).alloc _
  have r1 : Row (((w.alloc (.cells #[.slice (some ⟨w.heap.size + 1, 0, none⟩) 2 2, .slice (some ⟨w.heap.size + 1 + 1, 0, none⟩) 2 2] 72 (0, 0))).alloc (.cells (csC twP).toArray 30 (0, 0))).alloc (.cells (csC twQ).toArray 30 (0, 0))) (w.heap.size + 1) 30 (csC twP) := (rnew0 (World.size_alloc _ _).symm).alloc _
  have r2 : Row (((w.alloc (.cells #[.slice (some ⟨w.heap.size + 1, 0, none⟩) 2 2, .slice (some ⟨w.heap.size + 1 + 1, 0, none⟩) 2 2] 72 (0, 0))).alloc (.cells (csC twP).toArray 30 (0, 0))).alloc (.cells (csC twQ).toArray 30 (0, 0))) (w.heap.size + 1 + 1) 30 (csC twQ) := rnew0 (by rw [World.size_alloc, World.size_alloc])
  have HQ := Lib.hid (And.intro r0 (And.intro (rdC_row (n := 2) r1 rfl) (And.intro (rdC_row (n := 2) r2 rfl) hb0)))
  clear hb0 r0 r1 r2
  go_enter Tryz.func48, Tryz.ntmps48
  go_wp2
  refine bodyPost_ret (v := .agg #[.slice (some ⟨w.heap.size + 1, 0, none⟩) 2 2, .slice (some ⟨w.heap.size + 1 + 1, 0, none⟩) 2 2]) (by simp [results, Tryz.results48, go_sem]) rfl ⟨w.heap.size + 1, w.heap.size + 1 + 1, rfl, HQ.out.2.1, HQ.out.2.2.1, HQ.out.2.2.2⟩
end W
end Go.Proofs.YtellemlhhlafcaaGreatDoor
end
