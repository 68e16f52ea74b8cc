/-
  Chapter 46: own rows of targets and of circles: copied, appended, stored to. (Printed by wip/ebc.py.)
  Chapter 46: plain lists of the laws: greater tolerances, the order, places moved and exchanged.
  Chapter 46: lists that are changed from the front on; cells that are stored to.
-/
import Derived.Test.YtfcffheboncmbaaGreatDoorKR
import Derived.Test.YtfcffheboncmbaaGreatDoorKV
section
namespace Go.Proofs.YtfcffheboncmbaaGreatDoor
open Go Go.RowKit Go.Deep

def OwnG (w : World) (B : Nat) (v : Value) (l : List M.Tg) : Prop := w.ownsRow B 27 7 v l.length (csG l)
theorem OwnG.below {w w' : World} {B : Nat} {v : Value} {l : List M.Tg} (h : OwnG w B v l) (hb : Below w.heap.size w w') : OwnG w' B v l :=
  World.ownsRow.kept (row := none) h ⟨hb.os, hb.tape, hb.output, hb.size, fun k hk _ => hb.block k hk⟩ (Classical.em _)
theorem OwnG.cells {w : World} {B g cap : Nat} {l : List M.Tg} (h : OwnG w B (.slice (some ⟨g, 0, none⟩) l.length cap) l) (j : Nat) (u : Value) (hu : (csG l)[j]? = some u) : w.cell? ⟨g, j, none⟩ = some u := by
  have hj : j < l.length * 7 := by rw [← csG_len]; exact (List.getElem?_eq_some_iff.1 hu).1
  rw [World.ownsRow.cellAt h j hj, hu]
theorem OwnG.form {w : World} {B : Nat} {v : Value} {l : List M.Tg} (h : OwnG w B v l) (h0 : 0 < l.length) : ∃ g cap, v = .slice (some ⟨g, 0, none⟩) l.length cap ∧ B ≤ g ∧ g < w.heap.size := by
  obtain ⟨h1, h2⟩ := h
  rcases h2 with ⟨hv, hn⟩ | ⟨g, cap, cur, hv, hB, hh, _⟩
  · omega
  · exact ⟨g, cap, hv, hB, lt_of_block hh⟩
theorem OwnG.shape {w : World} {B : Nat} {v : Value} {l : List M.Tg} (h : OwnG w B v l) : ∃ A n c, v = .slice A n c := by
  rcases h.2 with ⟨e, _⟩ | ⟨g, cap, _, e, _⟩
  · exact ⟨_, _, _, e⟩
  · exact ⟨_, _, _, e⟩
theorem OwnG.rd {w : World} {B : Nat} {v : Value} {l : List M.Tg} (h : OwnG w B v l) : RdG w v l := by
  by_cases h0 : 0 < l.length
  · obtain ⟨g, cap, rfl, hB, hlt⟩ := h.form h0
    refine ⟨_, _, rfl, Or.inr ⟨g, 0, rfl, hlt, fun i hi => ?_⟩⟩
    have hg := csG_get l i hi
    simp only [Nat.zero_add]
    exact ⟨h.cells _ _ hg.1, h.cells _ _ hg.2.1, h.cells _ _ hg.2.2.1, h.cells _ _ hg.2.2.2.1, h.cells _ _ hg.2.2.2.2.1, h.cells _ _ hg.2.2.2.2.2.1, h.cells _ _ hg.2.2.2.2.2.2⟩
  · obtain rfl : l = [] := List.length_eq_zero_iff.1 (by omega)
    rcases h.2 with ⟨e, _⟩ | ⟨g, cap, _, e, _⟩
    · exact ⟨_, _, e, Or.inl rfl⟩
    · exact ⟨_, _, e, Or.inl rfl⟩
theorem srcRdG {w : World} {A : Option Addr} {n cap : Nat} {l : List M.Tg} (h : RdG w (.slice A n cap) l) (h0 : 0 < l.length) : ∃ b o, A = some ⟨b, o, none⟩ ∧ n = l.length ∧ ∀ j u, (csG l)[j]? = some u → w.cell? ((⟨b, o, none⟩ : Addr).add j) = some u := by
  obtain ⟨A', cap', e, h2⟩ := h
  injection e with e1 e2 e3
  subst e1 e2 e3
  rcases h2 with rfl | ⟨b, o, rfl, hs⟩
  · simp at h0
  · refine ⟨b, o, rfl, rfl, fun j u hu => ?_⟩
    have hj : j < l.length * 7 := by rw [← csG_len]; exact (List.getElem?_eq_some_iff.1 hu).1
    have hi : j / 7 < l.length := by omega
    have hadd : (⟨b, o, none⟩ : Addr).add j = ⟨b, o + j, none⟩ := by unfold Addr.add; split <;> simp_all
    rw [hadd]
    have hg := csG_get l (j / 7) hi
    have hv := hs.val (j / 7) hi
    rcases (by omega : j = j / 7 * 7 ∨ j = j / 7 * 7 + 1 ∨ j = j / 7 * 7 + 2 ∨ j = j / 7 * 7 + 3 ∨ j = j / 7 * 7 + 4 ∨ j = j / 7 * 7 + 5 ∨ j = j / 7 * 7 + 6) with e | e | e | e | e | e | e
    · rw [e, hg.1] at hu
      rw [e, ← Option.some.inj hu]
      exact hv.1
    · rw [e, hg.2.1] at hu
      rw [e, ← Option.some.inj hu]
      exact (by rw [← Nat.add_assoc]; exact hv.2.1)
    · rw [e, hg.2.2.1] at hu
      rw [e, ← Option.some.inj hu]
      exact (by rw [← Nat.add_assoc]; exact hv.2.2.1)
    · rw [e, hg.2.2.2.1] at hu
      rw [e, ← Option.some.inj hu]
      exact (by rw [← Nat.add_assoc]; exact hv.2.2.2.1)
    · rw [e, hg.2.2.2.2.1] at hu
      rw [e, ← Option.some.inj hu]
      exact (by rw [← Nat.add_assoc]; exact hv.2.2.2.2.1)
    · rw [e, hg.2.2.2.2.2.1] at hu
      rw [e, ← Option.some.inj hu]
      exact (by rw [← Nat.add_assoc]; exact hv.2.2.2.2.2.1)
    · rw [e, hg.2.2.2.2.2.2] at hu
      rw [e, ← Option.some.inj hu]
      exact (by rw [← Nat.add_assoc]; exact hv.2.2.2.2.2.2)
theorem csG_one {l : List M.Tg} : ∀ u ∈ csG l, u.oneCell' = true := by
  intro u hu
  simp only [csG, List.mem_flatMap] at hu
  obtain ⟨x, hx, hx2⟩ := hu
  simp at hx2
  rcases hx2 with rfl | rfl | rfl | rfl | rfl | rfl | rfl <;> rfl
theorem infoTarget : (Tryz.prog.info? 27).map (fun i => (i.zero, i.size, i.bytes)) = some (some (.agg #[.int .i64 0, .int .i64 0, .int .i64 0, .int .i64 0, .int .i64 0, .int .i64 0, .bool false]), 7, 56) := by kernel_rfl
theorem OwnG.nil (w : World) (B : Nat) : OwnG w B (.slice none 0 0) [] := World.ownsRow_nil _ _ _ _
theorem OwnG.fresh (w : World) (B A : Nat) (hA : A = w.heap.size) (hB : B ≤ A) : OwnG (w.alloc (.cells #[] 27 (0, 0))) B (.slice (some ⟨A, 0, none⟩) 0 0) [] := by
  subst hA
  refine ⟨rfl, Or.inr ⟨w.heap.size, 0, #[], rfl, hB, ?_, Nat.le_refl _, by unfold maxLen; omega, rfl, rfl⟩⟩
  show (w.heap.push _)[w.heap.size]? = _
  simp
theorem run_app_OwnG {w : World} {B : Nat} {v : Value} {l m : List M.Tg} {ad : Addr} {cap : Nat} (ty : TypeId) (h : OwnG w B v l) (hc : ∀ j u, (csG m)[j]? = some u → w.cell? (ad.add j) = some u) (hB : B ≤ w.heap.size) (hn : (l.length + m.length) * 56 ≤ 140737488355328) :
    ∃ v' w', (Builtin.append_ #[37, 37] ty #[v, .slice (some ad) m.length cap]).run Tryz.prog w = .ok v' w' ∧ OwnG w' B v' (l ++ m) ∧ w.grownBy w' v.ownBlock := by
  obtain ⟨i, h1, h2, h3, h4⟩ := info_parts infoTarget
  obtain ⟨v', w', k1, k2, k3, _⟩ := run_append_own (P := Tryz.prog) w B _ ty _ i _ 7 56 Tryz.underlying37 h1 h2 h3 h4 rfl (by decide) v l.length (csG l) h ad m.length cap (csG m) (csG_len m)
      hc csG_one (by unfold maxLen; omega) hn hB
  refine ⟨v', w', k1, ?_, k3⟩
  unfold OwnG
  rw [csG_append, List.length_append]
  exact k2
theorem wpList_app_OwnG {ops : Array Oper} {rest : List Oper} {o : Oper} {a : Act} {Q : Exit → Act → World → Prop} {w : World} {B : Nat} {v xv : Value} {l m : List M.Tg} {ad : Addr} {cap : Nat} (hgd : o.guard = none) (s x : Operand)
    (ho : o.op = .call { callee := .builtin .append, args := #[s, x], argTypes := #[37, 37] }) (hs : a.eval s = v) (hx : a.eval x = xv) (hxv : xv = .slice (some ad) m.length cap)
    (h : OwnG w B v l) (hc : ∀ j u, (csG m)[j]? = some u → w.cell? (ad.add j) = some u) (hB : B ≤ w.heap.size) (hn : (l.length + m.length) * 56 ≤ 140737488355328)
    (hK : ∀ v' w', OwnG w' B v' (l ++ m) → w.grownBy w' v.ownBlock → wpList Tryz.prog ops Q rest (a.put o.dst v') w') : wpList Tryz.prog ops Q (o :: rest) a w :=
  wpList_plain hgd fun _ hK2 => by
    subst hxv
    obtain ⟨v', w', hr, h2, h3⟩ := run_app_OwnG (cap := cap) o.type h hc hB hn
    unfold Oper.wp execOp
    simp only [ho, resolve, invoke, builtin, Sem.run_bind, Sem.run_pure, Result.andThen_ok, List.map_toArray, List.map_cons, List.map_nil, hs, hx, hr]
    exact hK2 _ _ (hK v' w' h2 h3)
theorem OwnG.alloc {w : World} {B : Nat} {v : Value} {l : List M.Tg} (h : OwnG w B v l) (o : Obj) : OwnG (w.alloc o) B v l := World.ownsRow.alloc h o
theorem app_belOwnG {W w w' : World} {B : Nat} {v : Value} {l : List M.Tg} (h : OwnG w B v l) (hb : Below W.heap.size W w) (hB : W.heap.size ≤ B) (hg : w.grownBy w' v.ownBlock) : Below W.heap.size W w' :=
  hb.grown hg hb.size fun k hk => Nat.le_trans hB (World.ownsRow.lt h k hk).1

def OwnC (w : World) (B : Nat) (v : Value) (l : List M.Cc) : Prop := w.ownsRow B 29 3 v l.length (csC l)
theorem OwnC.below {w w' : World} {B : Nat} {v : Value} {l : List M.Cc} (h : OwnC w B v l) (hb : Below w.heap.size w w') : OwnC w' B v l :=
  World.ownsRow.kept (row := none) h ⟨hb.os, hb.tape, hb.output, hb.size, fun k hk _ => hb.block k hk⟩ (Classical.em _)
theorem OwnC.cells {w : World} {B g cap : Nat} {l : List M.Cc} (h : OwnC w B (.slice (some ⟨g, 0, none⟩) l.length cap) l) (j : Nat) (u : Value) (hu : (csC l)[j]? = some u) : w.cell? ⟨g, j, none⟩ = some u := by
  have hj : j < l.length * 3 := by rw [← csC_len]; exact (List.getElem?_eq_some_iff.1 hu).1
  rw [World.ownsRow.cellAt h j hj, hu]
theorem OwnC.form {w : World} {B : Nat} {v : Value} {l : List M.Cc} (h : OwnC w B v l) (h0 : 0 < l.length) : ∃ g cap, v = .slice (some ⟨g, 0, none⟩) l.length cap ∧ B ≤ g ∧ g < w.heap.size := by
  obtain ⟨h1, h2⟩ := h
  rcases h2 with ⟨hv, hn⟩ | ⟨g, cap, cur, hv, hB, hh, _⟩
  · omega
  · exact ⟨g, cap, hv, hB, lt_of_block hh⟩
theorem OwnC.shape {w : World} {B : Nat} {v : Value} {l : List M.Cc} (h : OwnC w B v l) : ∃ A n c, v = .slice A n c := by
  rcases h.2 with ⟨e, _⟩ | ⟨g, cap, _, e, _⟩
  · exact ⟨_, _, _, e⟩
  · exact ⟨_, _, _, e⟩
theorem OwnC.rd {w : World} {B : Nat} {v : Value} {l : List M.Cc} (h : OwnC w B v l) : RdC w v l := by
  by_cases h0 : 0 < l.length
  · obtain ⟨g, cap, rfl, hB, hlt⟩ := h.form h0
    refine ⟨_, _, rfl, Or.inr ⟨g, 0, rfl, hlt, fun i hi => ?_⟩⟩
    have hg := csC_get l i hi
    simp only [Nat.zero_add]
    exact ⟨h.cells _ _ hg.1, h.cells _ _ hg.2.1, h.cells _ _ hg.2.2⟩
  · obtain rfl : l = [] := List.length_eq_zero_iff.1 (by omega)
    rcases h.2 with ⟨e, _⟩ | ⟨g, cap, _, e, _⟩
    · exact ⟨_, _, e, Or.inl rfl⟩
    · exact ⟨_, _, e, Or.inl rfl⟩
theorem srcRdC {w : World} {A : Option Addr} {n cap : Nat} {l : List M.Cc} (h : RdC w (.slice A n cap) l) (h0 : 0 < l.length) : ∃ b o, A = some ⟨b, o, none⟩ ∧ n = l.length ∧ ∀ j u, (csC l)[j]? = some u → w.cell? ((⟨b, o, none⟩ : Addr).add j) = some u := by
  obtain ⟨A', cap', e, h2⟩ := h
  injection e with e1 e2 e3
  subst e1 e2 e3
  rcases h2 with rfl | ⟨b, o, rfl, hs⟩
  · simp at h0
  · refine ⟨b, o, rfl, rfl, fun j u hu => ?_⟩
    have hj : j < l.length * 3 := by rw [← csC_len]; exact (List.getElem?_eq_some_iff.1 hu).1
    have hi : j / 3 < l.length := by omega
    have hadd : (⟨b, o, none⟩ : Addr).add j = ⟨b, o + j, none⟩ := by unfold Addr.add; split <;> simp_all
    rw [hadd]
    have hg := csC_get l (j / 3) hi
    have hv := hs.val (j / 3) hi
    rcases (by omega : j = j / 3 * 3 ∨ j = j / 3 * 3 + 1 ∨ j = j / 3 * 3 + 2) with e | e | e
    · rw [e, hg.1] at hu
      rw [e, ← Option.some.inj hu]
      exact hv.1
    · rw [e, hg.2.1] at hu
      rw [e, ← Option.some.inj hu]
      exact (by rw [← Nat.add_assoc]; exact hv.2.1)
    · rw [e, hg.2.2] at hu
      rw [e, ← Option.some.inj hu]
      exact (by rw [← Nat.add_assoc]; exact hv.2.2)
theorem csC_one {l : List M.Cc} : ∀ u ∈ csC l, u.oneCell' = true := by
  intro u hu
  simp only [csC, List.mem_flatMap] at hu
  obtain ⟨x, hx, hx2⟩ := hu
  simp at hx2
  rcases hx2 with rfl | rfl | rfl <;> rfl
theorem infoCircle : (Tryz.prog.info? 29).map (fun i => (i.zero, i.size, i.bytes)) = some (some (.agg #[.int .i64 0, .int .i64 0, .int .i64 0]), 3, 24) := by kernel_rfl
theorem OwnC.nil (w : World) (B : Nat) : OwnC w B (.slice none 0 0) [] := World.ownsRow_nil _ _ _ _
theorem OwnC.fresh (w : World) (B A : Nat) (hA : A = w.heap.size) (hB : B ≤ A) : OwnC (w.alloc (.cells #[] 29 (0, 0))) B (.slice (some ⟨A, 0, none⟩) 0 0) [] := by
  subst hA
  refine ⟨rfl, Or.inr ⟨w.heap.size, 0, #[], rfl, hB, ?_, Nat.le_refl _, by unfold maxLen; omega, rfl, rfl⟩⟩
  show (w.heap.push _)[w.heap.size]? = _
  simp
theorem run_app_OwnC {w : World} {B : Nat} {v : Value} {l m : List M.Cc} {ad : Addr} {cap : Nat} (ty : TypeId) (h : OwnC w B v l) (hc : ∀ j u, (csC m)[j]? = some u → w.cell? (ad.add j) = some u) (hB : B ≤ w.heap.size) (hn : (l.length + m.length) * 24 ≤ 140737488355328) :
    ∃ v' w', (Builtin.append_ #[38, 38] ty #[v, .slice (some ad) m.length cap]).run Tryz.prog w = .ok v' w' ∧ OwnC w' B v' (l ++ m) ∧ w.grownBy w' v.ownBlock := by
  obtain ⟨i, h1, h2, h3, h4⟩ := info_parts infoCircle
  obtain ⟨v', w', k1, k2, k3, _⟩ := run_append_own (P := Tryz.prog) w B _ ty _ i _ 3 24 Tryz.underlying38 h1 h2 h3 h4 rfl (by decide) v l.length (csC l) h ad m.length cap (csC m) (csC_len m)
      hc csC_one (by unfold maxLen; omega) hn hB
  refine ⟨v', w', k1, ?_, k3⟩
  unfold OwnC
  rw [csC_append, List.length_append]
  exact k2
theorem wpList_app_OwnC {ops : Array Oper} {rest : List Oper} {o : Oper} {a : Act} {Q : Exit → Act → World → Prop} {w : World} {B : Nat} {v xv : Value} {l m : List M.Cc} {ad : Addr} {cap : Nat} (hgd : o.guard = none) (s x : Operand)
    (ho : o.op = .call { callee := .builtin .append, args := #[s, x], argTypes := #[38, 38] }) (hs : a.eval s = v) (hx : a.eval x = xv) (hxv : xv = .slice (some ad) m.length cap)
    (h : OwnC w B v l) (hc : ∀ j u, (csC m)[j]? = some u → w.cell? (ad.add j) = some u) (hB : B ≤ w.heap.size) (hn : (l.length + m.length) * 24 ≤ 140737488355328)
    (hK : ∀ v' w', OwnC w' B v' (l ++ m) → w.grownBy w' v.ownBlock → wpList Tryz.prog ops Q rest (a.put o.dst v') w') : wpList Tryz.prog ops Q (o :: rest) a w :=
  wpList_plain hgd fun _ hK2 => by
    subst hxv
    obtain ⟨v', w', hr, h2, h3⟩ := run_app_OwnC (cap := cap) o.type h hc hB hn
    unfold Oper.wp execOp
    simp only [ho, resolve, invoke, builtin, Sem.run_bind, Sem.run_pure, Result.andThen_ok, List.map_toArray, List.map_cons, List.map_nil, hs, hx, hr]
    exact hK2 _ _ (hK v' w' h2 h3)
theorem OwnC.alloc {w : World} {B : Nat} {v : Value} {l : List M.Cc} (h : OwnC w B v l) (o : Obj) : OwnC (w.alloc o) B v l := World.ownsRow.alloc h o
theorem app_belOwnC {W w w' : World} {B : Nat} {v : Value} {l : List M.Cc} (h : OwnC w B v l) (hb : Below W.heap.size W w) (hB : W.heap.size ≤ B) (hg : w.grownBy w' v.ownBlock) : Below W.heap.size W w' :=
  hb.grown hg hb.size fun k hk => Nat.le_trans hB (World.ownsRow.lt h k hk).1
namespace W
open M
attribute [local go_sem] bs_size bs_toList bs_get bs_extract bs_append bs_lit0 bs_lit1 lit1_bs
set_option maxHeartbeats 1000000
set_option maxRecDepth 20000

theorem pcloneOwnG (vl : Value) (l : List Tg) (w : World) (hs : RdG w vl l) (h0 : 0 < l.length) (hn : l.length ≤ 1000000) :
    Calls Tryz.prog 26 #[vl] w (fun e w' => ∃ g cap, e = .returned (.slice (some ⟨g, 0, none⟩) l.length cap) ∧ w.heap.size ≤ g ∧ OwnG w' w.heap.size (.slice (some ⟨g, 0, none⟩) l.length cap) l ∧ Below w.heap.size w w') := by
  obtain ⟨A, cap, rfl⟩ := hs.len
  obtain ⟨b, o, rfl, _, hc⟩ := srcRdG hs h0
  have hq : ∀ w, (binOp .eql 37 (.slice (some ⟨b, o, none⟩) l.length cap) (.slice none 0 0)).run Tryz.prog w = .ok (.bool false) w := fun w => rfl
  have hb0 : Below w.heap.size w (w.alloc (.cells #[] 27 (0, 0))) := bel_alloc (Below.refl _ _) _
  have HS := Lib.hid (And.intro (fun j u e => (hb0.cell (block_lt_of_cell (hc j u e))).trans (hc j u e)) hb0)
  have HN := Lib.hid hn
  have H0 := Lib.hid h0
  clear hs hc hb0 hn h0
  go_enter Tryz.func26, Tryz.ntmps26
  go_wp2_with (at_builtin; refine wpList_app_OwnG rfl (.tmp 5) (.tmp 6) rfl rfl rfl rfl (OwnG.fresh w w.heap.size w.heap.size rfl (Nat.le_refl _)) HS.out.1 HS.out.2.size (by have := HN.out; simp; omega) ?_; intro v2 w2 ho2 hk2)
  rw [List.nil_append] at ho2
  have HB := Lib.hid (app_belOwnG (OwnG.fresh w w.heap.size w.heap.size rfl (Nat.le_refl _)) HS.out.2 (Nat.le_refl _) hk2)
  obtain ⟨g, cap2, rfl, hg, _⟩ := ho2.form H0.out
  have HF := Lib.hid ho2
  clear ho2 hk2 HS
  go_wp2
  go_ret
  exact ⟨_, _, rfl, hg, HF.out, HB.out⟩

theorem pcloneOwnC (vl : Value) (l : List Cc) (w : World) (hs : RdC w vl l) (h0 : 0 < l.length) (hn : l.length ≤ 1000000) :
    Calls Tryz.prog 30 #[vl] w (fun e w' => ∃ g cap, e = .returned (.slice (some ⟨g, 0, none⟩) l.length cap) ∧ w.heap.size ≤ g ∧ OwnC w' w.heap.size (.slice (some ⟨g, 0, none⟩) l.length cap) l ∧ Below w.heap.size w w') := by
  obtain ⟨A, cap, rfl⟩ := hs.len
  obtain ⟨b, o, rfl, _, hc⟩ := srcRdC hs h0
  have hq : ∀ w, (binOp .eql 38 (.slice (some ⟨b, o, none⟩) l.length cap) (.slice none 0 0)).run Tryz.prog w = .ok (.bool false) w := fun w => rfl
  have hb0 : Below w.heap.size w (w.alloc (.cells #[] 29 (0, 0))) := bel_alloc (Below.refl _ _) _
  have HS := Lib.hid (And.intro (fun j u e => (hb0.cell (block_lt_of_cell (hc j u e))).trans (hc j u e)) hb0)
  have HN := Lib.hid hn
  have H0 := Lib.hid h0
  clear hs hc hb0 hn h0
  go_enter Tryz.func30, Tryz.ntmps30
  go_wp2_with (at_builtin; refine wpList_app_OwnC rfl (.tmp 5) (.tmp 6) rfl rfl rfl rfl (OwnC.fresh w w.heap.size w.heap.size rfl (Nat.le_refl _)) HS.out.1 HS.out.2.size (by have := HN.out; simp; omega) ?_; intro v2 w2 ho2 hk2)
  rw [List.nil_append] at ho2
  have HB := Lib.hid (app_belOwnC (OwnC.fresh w w.heap.size w.heap.size rfl (Nat.le_refl _)) HS.out.2 (Nat.le_refl _) hk2)
  obtain ⟨g, cap2, rfl, hg, _⟩ := ho2.form H0.out
  have HF := Lib.hid ho2
  clear ho2 hk2 HS
  go_wp2
  go_ret
  exact ⟨_, _, rfl, hg, HF.out, HB.out⟩
end W
end Go.Proofs.YtfcffheboncmbaaGreatDoor
end
section
namespace Go.Proofs.YtfcffheboncmbaaGreatDoor
namespace M
def movT (a b : Int) (t : Tg) : Tg := { t with x := t.x + a, y := t.y + b }
def movC (a b : Int) (c : Cc) : Cc := { c with x := c.x + a, y := c.y + b }
def swpT (t : Tg) : Tg := { t with x := t.y, y := t.x }
def swpC (c : Cc) : Cc := { c with x := c.y, y := c.x }
theorem zip_mov (a b : Int) : ∀ (ts : List Tg) (cs : List Cc), (ts.map (movT a b)).zip (cs.map (movC a b)) = (ts.zip cs).map (Sx.movH a b)
  | [], _ => by simp
  | _ :: _, [] => by simp
  | t :: ts, c :: cs => by simp [zip_mov a b ts cs, movT, movC, Sx.movH]
theorem zip_swp : ∀ (ts : List Tg) (cs : List Cc), (ts.map swpT).zip (cs.map swpC) = (ts.zip cs).map Sx.swpH
  | [], _ => by simp
  | _ :: _, [] => by simp
  | t :: ts, c :: cs => by simp [zip_swp ts cs, swpT, swpC, Sx.swpH]
theorem zip_rev : ∀ {ts : List Tg} {cs : List Cc}, cs.length = ts.length → ts.reverse.zip cs.reverse = (ts.zip cs).reverse
  | [], _, _ => by simp
  | _ :: _, [], h => by simp at h
  | t :: ts, c :: cs, h => by
    have h2 : cs.length = ts.length := by simpa using h
    rw [List.reverse_cons, List.reverse_cons, List.zip_append (by simp [h2]), zip_rev h2]
    simp
theorem zip_ne {ts : List Tg} {cs : List Cc} (h : chk46 ts cs = 0) : ts.zip cs ≠ [] := by
  obtain ⟨h1, h2, h3, h4⟩ := chk46_iff.1 h
  match ts, cs, h1, h3 with
  | t :: ts, c :: cs, _, _ => simp
theorem exc_same2 {pl : Pl} {x y : Rat} (h : Sx.Exc pl x) (h2 : Sx.Exc pl y) : x = y := Rat.le_antisymm (Sx.exc_fewer h2 h fun _ h => h) (Sx.exc_fewer h h2 fun _ h => h)
/-- The order, moved places, exchanged ones. -/
theorem exc_turn0 {ts : List Tg} {cs : List Cc} {x y : Rat} (hl : cs.length = ts.length) (h : Sx.Exc (ts.zip cs) x) (h2 : Sx.Exc (ts.reverse.zip cs.reverse) y) : y = x := by
  rw [zip_rev hl] at h2
  exact exc_same2 h2 (Sx.exc_mem h fun p => List.mem_reverse)
theorem exc_turn1 {ts : List Tg} {cs : List Cc} {x y : Rat} (a b : Int) (h : Sx.Exc (ts.zip cs) x) (h2 : Sx.Exc ((ts.map (movT a b)).zip (cs.map (movC a b))) y) : y = x := by
  rw [zip_mov] at h2
  exact exc_same2 h2 (Sx.exc_mov a b h)
theorem exc_turn2 {ts : List Tg} {cs : List Cc} {x y : Rat} (h : Sx.Exc (ts.zip cs) x) (h2 : Sx.Exc ((ts.map swpT).zip (cs.map swpC)) y) : y = x := by
  rw [zip_swp] at h2
  exact exc_same2 h2 (Sx.exc_swp h)
end M
end Go.Proofs.YtfcffheboncmbaaGreatDoor
end
section
namespace Go.Proofs.YtfcffheboncmbaaGreatDoor
open Go Go.RowKit Go.Deep
/-- A list of which the first k are changed. -/
def mixL {α : Type} (f : α → α) (k : Nat) (l : List α) : List α := (l.take k).map f ++ l.drop k
theorem mixL_zero {α : Type} (f : α → α) (l : List α) : mixL f 0 l = l := by simp [mixL]
theorem mixL_all {α : Type} (f : α → α) (l : List α) : mixL f l.length l = l.map f := by simp [mixL]
theorem mixL_len {α : Type} (f : α → α) (k : Nat) (l : List α) (hk : k ≤ l.length) : (mixL f k l).length = l.length := by simp [mixL]; omega
theorem mixL_get {α : Type} (f : α → α) (k : Nat) (l : List α) (hk : k < l.length) : (mixL f k l)[k]'(by rw [mixL_len f k l (by omega)]; exact hk) = l[k] := by
  unfold mixL
  rw [List.getElem_append_right (by simp; omega)]
  simp [Nat.min_eq_left (Nat.le_of_lt hk)]
theorem mixL_set {α : Type} (f : α → α) (k : Nat) (l : List α) (hk : k < l.length) : (mixL f k l).set k (f l[k]) = mixL f (k + 1) l := by
  unfold mixL
  have h1 : ((l.take k).map f).length = k := by simp; omega
  rw [List.set_append_right _ _ (by omega), h1, Nat.sub_self, List.drop_eq_getElem_cons hk, List.set_cons_zero, List.take_add_one, List.getElem?_eq_getElem hk, List.map_append]
  simp
theorem csG_cons (x : M.Tg) (t : List M.Tg) : csG (x :: t) = .int .i64 x.x :: .int .i64 x.y :: .int .i64 x.lo :: .int .i64 x.hi :: .int .i64 x.tol :: .int .i64 x.mat :: .bool x.pin :: csG t := rfl
theorem csC_cons (x : M.Cc) (t : List M.Cc) : csC (x :: t) = .int .i64 x.x :: .int .i64 x.y :: .int .i64 x.d :: csC t := rfl
theorem csG_at : ∀ (l : List M.Tg) (i : Nat) (h : i < l.length) (a b : Int), ((csG l).set (i * 7) (.int .i64 a)).set (i * 7 + 1) (.int .i64 b) = csG (l.set i { l[i] with x := a, y := b })
  | [], _, h, _, _ => by cases h
  | x :: t, 0, _, a, b => by rw [csG_cons]; rfl
  | x :: t, i + 1, h, a, b => by
    have hi : i < t.length := by simpa using h
    rw [csG_cons, show (i + 1) * 7 + 1 = i * 7 + 1 + 1 + 1 + 1 + 1 + 1 + 1 + 1 by omega, show (i + 1) * 7 = i * 7 + 1 + 1 + 1 + 1 + 1 + 1 + 1 by omega]
    simp only [List.set_cons_succ, List.getElem_cons_succ, csG_cons]
    rw [csG_at t i hi a b]
theorem csC_at : ∀ (l : List M.Cc) (i : Nat) (h : i < l.length) (a b : Int), ((csC l).set (i * 3) (.int .i64 a)).set (i * 3 + 1) (.int .i64 b) = csC (l.set i { l[i] with x := a, y := b })
  | [], _, h, _, _ => by cases h
  | x :: t, 0, _, a, b => by rw [csC_cons]; rfl
  | x :: t, i + 1, h, a, b => by
    have hi : i < t.length := by simpa using h
    rw [csC_cons, show (i + 1) * 3 + 1 = i * 3 + 1 + 1 + 1 + 1 by omega, show (i + 1) * 3 = i * 3 + 1 + 1 + 1 by omega]
    simp only [List.set_cons_succ, List.getElem_cons_succ, csC_cons]
    rw [csC_at t i hi a b]
theorem OwnG.setAt {w : World} {B g cap : Nat} {l : List M.Tg} (h : OwnG w B (.slice (some ⟨g, 0, none⟩) l.length cap) l) (i : Nat) (hi : i < l.length) (a b : Int) :
    OwnG ((w.setCell ⟨g, i * 7, none⟩ (.int .i64 a)).setCell ⟨g, i * 7 + 1, none⟩ (.int .i64 b)) B (.slice (some ⟨g, 0, none⟩) l.length cap) (l.set i { l[i] with x := a, y := b }) := by
  have h2 := (World.ownsRow.stored (World.ownsRow.stored h (i * 7) (.int .i64 a)).1 (i * 7 + 1) (.int .i64 b)).1
  unfold OwnG
  rw [List.length_set, ← csG_at l i hi a b]
  exact h2
theorem OwnC.setAt {w : World} {B g cap : Nat} {l : List M.Cc} (h : OwnC w B (.slice (some ⟨g, 0, none⟩) l.length cap) l) (i : Nat) (hi : i < l.length) (a b : Int) :
    OwnC ((w.setCell ⟨g, i * 3, none⟩ (.int .i64 a)).setCell ⟨g, i * 3 + 1, none⟩ (.int .i64 b)) B (.slice (some ⟨g, 0, none⟩) l.length cap) (l.set i { l[i] with x := a, y := b }) := by
  have h2 := (World.ownsRow.stored (World.ownsRow.stored h (i * 3) (.int .i64 a)).1 (i * 3 + 1) (.int .i64 b)).1
  unfold OwnC
  rw [List.length_set, ← csC_at l i hi a b]
  exact h2
/-- The front and the rest of a list that is read. -/
theorem RdG.front {w : World} {b o cap n : Nat} {l : List M.Tg} (h : SlG w b o l) (hn : n = (l.take 1).length) : RdG w (.slice (some ⟨b, o, none⟩) n cap) (l.take 1) := ⟨_, _, by rw [hn], Or.inr ⟨b, o, rfl, h.take 1⟩⟩
theorem RdC.front {w : World} {b o cap n : Nat} {l : List M.Cc} (h : SlC w b o l) (hn : n = (l.take 1).length) : RdC w (.slice (some ⟨b, o, none⟩) n cap) (l.take 1) := ⟨_, _, by rw [hn], Or.inr ⟨b, o, rfl, h.take 1⟩⟩
theorem RdG.rest {w : World} {b o cap n : Nat} {l : List M.Tg} (h : SlG w b o l) (hn : n = (l.drop 1).length) : RdG w (.slice (some ⟨b, o + 7, none⟩) n cap) (l.drop 1) := ⟨_, _, by rw [hn], Or.inr ⟨b, o + 7, rfl, h.drop 1⟩⟩
theorem RdC.rest {w : World} {b o cap n : Nat} {l : List M.Cc} (h : SlC w b o l) (hn : n = (l.drop 1).length) : RdC w (.slice (some ⟨b, o + 3, none⟩) n cap) (l.drop 1) := ⟨_, _, by rw [hn], Or.inr ⟨b, o + 3, rfl, h.drop 1⟩⟩
end Go.Proofs.YtfcffheboncmbaaGreatDoor
end
