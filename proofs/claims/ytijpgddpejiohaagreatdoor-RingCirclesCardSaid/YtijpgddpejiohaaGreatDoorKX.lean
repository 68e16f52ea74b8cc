/-
  Chapter 35 of the program: 'slices.Collect' of an iterator of bounds.
  Chapter 35 of the program: the iterator of bounds.
  Chapter 35 of the program: 'bounds', collected.
  Chapter 46, plain: the excess.
-/
import Derived.Test.YtijpgddpejiohaaGreatDoorKW
import Derived.RangeFuncBox
import Derived.RangeFuncCalls
import Derived.RangeFuncLeaves
import Derived.OwnWalkIn
import Derived.TacticsInMore
import Derived.LoopNIn
import Derived.LoopIn
import Derived.Test.YtijpgddpejiohaaGreatDoorKL
import Derived.Test.YtijpgddpejiohaaGreatDoorKH
section
namespace Go.Proofs.YtijpgddpejiohaaGreatDoor
open Go Go.RowKit Go.Deep Go.Sort
def GoodU (w : World) (es : List (Value × M.BT)) : Prop := ∀ x ∈ es, ∃ B, OwnS w B x.1 x.2.1
theorem OwnS.shpU {w : World} {B : Nat} {v : Value} {l : List (List UInt8)} (h : OwnS w B v l) : Shp v := by
  rcases h.2 with ⟨hv, _⟩ | ⟨g, cap, cur, hv, _⟩
  · exact Or.inl hv
  · exact Or.inr ⟨_, _, _, hv⟩
theorem GoodU.below {w w' : World} {es : List (Value × M.BT)} (h : GoodU w es) (hb : Below w.heap.size w w') : GoodU w' es := fun x hx => by
  obtain ⟨B, h1⟩ := h x hx
  exact ⟨B, h1.below hb⟩
theorem GoodU.good {w : World} {es : List (Value × M.BT)} (h : GoodU w es) : GoodE w es := fun x hx => by
  obtain ⟨B, h1⟩ := h x hx
  exact ⟨h1.rd, h1.shpU⟩
theorem GoodU.append {w : World} {a b : List (Value × M.BT)} (h : GoodU w a) (h2 : GoodU w b) : GoodU w (a ++ b) := fun x hx => (List.mem_append.1 hx).elim (h x) (h2 x)
theorem ratBoundU : 29 ≠ 31 := by decide
theorem GoodU.kept {w w' : World} {r : Nat} {t : TypeId} {xs : Array Value} {es : List (Value × M.BT)} (h : GoodU w es) (hg : w.grownBy w' (some r)) (hr : w.heap[r]? = some (.cells xs t (0, 0))) (ht : 29 ≠ t) : GoodU w' es := fun x hx => by
  obtain ⟨B1, h1⟩ := h x hx
  refine ⟨B1, World.ownsRow.kept h1 hg ?_⟩
  rcases h1.2 with ⟨hv, _⟩ | ⟨g, cap, cur, hv, _, hh, _⟩
  · exact Or.inl (by rw [hv]; rfl)
  · right
    rw [hv]
    intro e
    injection e with e
    simp only at e
    rw [e, hr] at hh
    injection hh with hh
    injection hh with _ hh _
    exact ht hh.symm
theorem GoodU.keptO {w w' : World} {r : Nat} {o : Obj} {es : List (Value × M.BT)} (h : GoodU w es) (hg : w.grownBy w' (some r)) (hr : w.heap[r]? = some o) (ho : o.isCells = false) : GoodU w' es := fun x hx => by
  obtain ⟨B1, h1⟩ := h x hx
  refine ⟨B1, World.ownsRow.kept h1 hg ?_⟩
  rcases h1.2 with ⟨hv, _⟩ | ⟨g, cap, cur, hv, _, hh, _⟩
  · exact Or.inl (by rw [hv]; rfl)
  · right
    rw [hv]
    intro e
    injection e with e
    simp only at e
    rw [e, hr] at hh
    injection hh with hh
    rw [hh] at ho
    cases ho
namespace W
open M
attribute [local go_sem] bs_size bs_toList bs_get bs_extract bs_append bs_lit0 bs_lit1 lit1_bs
set_option maxHeartbeats 4000000
set_option maxRecDepth 100000
attribute [local go_sem] Oper.semAt_some
def IterC (gf : Nat) (lb : Array Value) (l : List BT) (w0 : World) : Prop :=
  ∀ (lp : Nat) (J : List (Value × BT) → World → Prop) (W : World), Below w0.heap.size w0 W →
    (∀ pre A, J pre A → Below w0.heap.size w0 A) → (∀ pre A A', J pre A → Below A.heap.size A A' → J pre A') →
    (∀ pre x A A1, J pre A → Below A.heap.size A A1 → GoodU A1 [x] → pre.length < l.length →
      YieldAt Fence.wide 0 Tryz.prog lp #[.agg #[x.1, .string (bs x.2.2)]] A1 fun e A2 => e = .returned (.bool true) ∧ J (pre ++ [x]) A2 ∧ (∀ (b : Nat) (o : Obj), A.heap.size ≤ b → A1.heap[b]? = some o → A2.heap[b]? = some o)) →
    J [] W →
    CallsIn Fence.wide 1 Tryz.prog gf (#[.func (.yield lp) #[] #[]] ++ lb) W fun e W' => (∃ v, e = .returned v) ∧ ∃ es, es.map (·.2) = l ∧ J es W'
def iterPost (I : List (Value × BT) → World → Prop) (es : List (Value × BT)) (A A1 W : World) : Exit → Act → World → Prop := fun e _ W3 =>
  e = .normal ∧ I es W3 ∧ KeepsOthers W W3 ∧ (∀ (b : Nat) (o : Obj), A.heap.size ≤ b → A1.heap[b]? = some o → W3.heap[b]? = some o)
theorem wpIn_iter {g : Operand} {p : Tmp} {assign body : Code} {Q : Exit → Act → World → Prop} {a : Act} {w w0 : World} {gf : Nat} {lb : Array Value} {l : List BT}
    (hg : a.eval g = .func (.func gf) #[] lb) (egf : ∀ args w, (callFunc gf args).run Tryz.prog w = .ok (.enter gf args) w) (hit : IterC gf lb l w0) (hb0 : Below w0.heap.size w0 w)
    (I : List (Value × BT) → World → Prop) (hIb : ∀ pre A, I pre A → Below w0.heap.size w0 A) (hIs : ∀ pre A A', I pre A → Below A.heap.size A A' → I pre A')
    (hIp : ∀ pre A (lp : Nat) (o o' : Obj), I pre A → w.heap.size ≤ lp → A.heap[lp]? = some o → o.isCells = false → o.isWalk = false → I pre (A.putObj lp o')) (h0 : I [] w)
    (a₁ : Value × BT → World → Act) (ob : Value × BT → Obj)
    (hassign : ∀ (lp : Nat) (x : Value × BT) (W : World) (K : Act → World → Prop), (∃ t : Option Addr × Nat × Nat, x.1 = .slice t.1 t.2.1 t.2.2) → K (a₁ x W) (W.alloc (ob x)) →
      assign.wpIn (Fence.wide.inRound lp) 0 Tryz.prog (Exit.then K (fun _ _ _ => False)) { tmps := a.tmps.setIfInBounds p (.agg #[x.1, .string (bs x.2.2)]), defers := [] } W)
    (hbody : ∀ (lp : Nat) (pre : List (Value × BT)) (x : Value × BT) (A A1 : World) (o o2 : Obj), I pre A → Below A.heap.size A A1 → GoodU A1 [x] → pre.length < l.length → w.heap.size ≤ lp → lp < A.heap.size →
      A1.heap[lp]? = some o → o.isCells = false → o2.isCells = false →
      body.wpIn (Fence.wide.inRound lp) 0 Tryz.prog (iterPost I (pre ++ [x]) A A1 ((A1.alloc (ob x)).putObj lp o2)) (a₁ x A1) ((A1.alloc (ob x)).putObj lp o2))
    (hdone : ∀ (D : Nat) (es : List (Value × BT)) (W : World), w.heap.size ≤ D → es.map (·.2) = l → I es W → W.heap[D]? = some (.deferred (some [])) → Q .normal { a with defers := { target := .collected D, args := #[] } :: a.defers } W) :
    (Code.rangeFunc g #[p] assign body).wpIn Fence.wide 2 Tryz.prog Q a w := by
  refine wpIn_rangeFunc ?_
  intro fn hfn
  obtain ⟨rec, hrec⟩ : ∃ rec : LoopState → Option Code → Loop, rec = fun st pe => { state := st, pending := pe, fn, tmps := a.tmps, params := #[p], assign, body, defers := w.heap.size } := ⟨_, rfl⟩
  obtain ⟨W1, hW1⟩ : ∃ W1, (w.alloc (.deferred (some []))).alloc (.loop (rec .ready none)) = W1 := ⟨_, rfl⟩
  have hL1 : W1.heap[w.heap.size + 1]? = some (.loop (rec .ready none)) := by
    rw [← hW1]; have := World.alloc_heap_new (w.alloc (.deferred (some []))) (.loop (rec .ready none)); rwa [World.size_alloc] at this
  have hK1 : W1.heap[w.heap.size]? = some (.deferred (some [])) := by
    rw [← hW1]; exact (Below.heap_alloc _ _ _ (by simp)).trans (World.alloc_heap_new w _)
  have hbw : Below w.heap.size w W1 := by rw [← hW1]; exact bel_alloc (bel_alloc (Below.refl _ _) _) _
  refine ⟨w.heap.size + 1, [{ target := .collected w.heap.size, args := #[] }], W1, { target := .fn (.func gf) lb, args := #[.func (.yield (w.heap.size + 1)) #[] #[]] }, W1, gf,
    #[.func (.yield (w.heap.size + 1)) #[] #[]] ++ lb, W1, ?_, ?_, ?_, ?_, fun _ => by decide, ?_⟩
  · rw [← hW1, hrec]; exact run_enterLoop_outer _ _ _ _ _
  · simp only [resolve, hg]
    simp [go_sem]
  · intro f' hf'; trivial
  · simp [invoke, go_sem, egf]
  · refine (hit (w.heap.size + 1) (fun pre W => I pre W ∧ W.heap[w.heap.size + 1]? = some (.loop (rec .ready none)) ∧ W.heap[w.heap.size]? = some (.deferred (some [])))
      W1 (bel_to hb0 hbw) (fun pre A h => hIb pre A h.1)
      (fun pre A A' h hb => ⟨hIs pre A A' h.1 hb, (hb.block _ (Array.getElem?_eq_some_iff.1 h.2.1).1).trans h.2.1, (hb.block _ (Array.getElem?_eq_some_iff.1 h.2.2).1).trans h.2.2⟩) ?_
      ⟨hIs [] w W1 h0 hbw, hL1, hK1⟩).mono ?_
    · rintro pre x A A1 ⟨hi, hl, hk⟩ hb hgx hlen
      have hlt : w.heap.size + 1 < A.heap.size := (Array.getElem?_eq_some_iff.1 hl).1
      have hl1 : A1.heap[w.heap.size + 1]? = some (.loop (rec .ready none)) := (hb.block _ hlt).trans hl
      have hk1 : A1.heap[w.heap.size]? = some (.deferred (some [])) := (hb.block _ (by omega)).trans hk
      have hy := run_yield (P := Tryz.prog) (args := #[.agg #[x.1, .string (bs x.2.2)]]) hl1 (by rw [hrec]; rfl)
      rw [hrec] at hy
      have ez : (#[p].zip #[(.agg #[x.1, .string (bs x.2.2)] : Value)]).foldl (fun t (p, v) => t.setIfInBounds p v) a.tmps = a.tmps.setIfInBounds p (.agg #[x.1, .string (bs x.2.2)]) := by simp
      have hshp : ∃ t : Option Addr × Nat × Nat, x.1 = .slice t.1 t.2.1 t.2.2 := by
        obtain ⟨B, h⟩ := hgx x (List.mem_singleton.2 rfl)
        rcases h.shpU with e | ⟨_, _, _, e⟩
        · exact ⟨(_, _, _), e⟩
        · exact ⟨(_, _, _), e⟩
      refine ⟨fn, _, assign, body, hy, roundIn_of_wpIn hfn ?_⟩
      simp only [ez]
      refine hassign (w.heap.size + 1) x A1 (fun a₁ w₁ => ∃ w₂, (Instr.beginRound (w.heap.size + 1)).run Tryz.prog w₁ = .ok () w₂ ∧ body.wpIn (Fence.wide.inRound (w.heap.size + 1)) 0 Tryz.prog (roundPost Tryz.prog (w.heap.size + 1) _) a₁ w₂) hshp ⟨_, run_beginRound (l := w.heap.size + 1) (r := rec .ready none) ((Below.heap_alloc _ _ _ (Array.getElem?_eq_some_iff.1 hl1).1).trans hl1) (by rw [hrec]), ?_⟩
      have hl1b : (A1.alloc (ob x)).heap[w.heap.size + 1]? = some (.loop (rec .ready none)) := (Below.heap_alloc _ _ _ (Array.getElem?_eq_some_iff.1 hl1).1).trans hl1
      have hk1b : (A1.alloc (ob x)).heap[w.heap.size]? = some (.deferred (some [])) := (Below.heap_alloc _ _ _ (Array.getElem?_eq_some_iff.1 hk1).1).trans hk1
      have hl2 : ((A1.alloc (ob x)).putObj (w.heap.size + 1) (.loop { rec .ready none with state := .busy })).heap[w.heap.size + 1]? = some (.loop { rec .ready none with state := .busy }) := World.putObj_heap_same (Array.getElem?_eq_some_iff.1 hl1b).1
      have hk2 : ((A1.alloc (ob x)).putObj (w.heap.size + 1) (.loop { rec .ready none with state := .busy })).heap[w.heap.size]? = some (.deferred (some [])) := (World.putObj_heap_other (by omega)).trans hk1b
      refine wpIn_mono (hbody _ pre x A A1 _ _ hi hb hgx hlen (by omega) hlt hl1 rfl rfl) ?_
      rintro e a3 W3 ⟨rfl, hi3, hk3, hb3⟩
      have hl3 := hk3.same _ _ hl2 rfl
      have hr := run_endRound (P := Tryz.prog) none hl3
      refine ⟨_, _, hr, rfl, ⟨hIp _ _ _ _ _ hi3 (by omega) hl3 rfl rfl, ?_, ?_⟩, fun b o hb1 hb2 => ?_⟩
      · rw [World.putObj_heap_same (Array.getElem?_eq_some_iff.1 hl3).1]
        rw [hrec]
        rfl
      · exact (World.putObj_heap_other (by omega)).trans (hk3.same _ _ hk2 rfl)
      · exact (World.putObj_heap_other (by omega)).trans (hb3 b o hb1 hb2)
    · rintro e W2 ⟨⟨v, rfl⟩, es, he, hi, hl, hk⟩
      exact ⟨none, _, by have := run_endLoop (P := Tryz.prog) hl (by rw [hrec]; simp); rw [hrec] at this; exact this, hdone _ es _ (Nat.le_refl _) he (hIp _ _ _ _ _ hi (by omega) hl rfl rfl) ((World.putObj_heap_other (by omega)).trans hk)⟩
theorem OwnE.blk {w : World} {B g : Nat} {v : Value} {es : List (Value × BT)} (h : OwnE w B v es) (hg : v.ownBlock = some g) : g < w.heap.size ∧ ∃ xs, w.heap[g]? = some (.cells xs 31 (0, 0)) := by
  rcases h.2 with ⟨hv, _⟩ | ⟨g2, cap2, cur2, hv, _, hh, _⟩
  · rw [hv] at hg; cases hg
  · rw [hv] at hg
    injection hg with hg
    simp only at hg
    subst hg
    exact ⟨(Array.getElem?_eq_some_iff.1 hh).1, _, hh⟩
theorem GoodU.grown {w w' : World} {B : Nat} {v : Value} {es es0 : List (Value × BT)} (h : GoodU w es) (ho : OwnE w B v es0) (hg : w.grownBy w' v.ownBlock) : GoodU w' es := by
  cases hb : v.ownBlock with
  | none =>
    rw [hb] at hg
    intro x hx
    obtain ⟨B1, h1⟩ := h x hx
    exact ⟨B1, World.ownsRow.kept h1 hg (by
      rcases h1.2 with ⟨hv, _⟩ | ⟨g, cap, cur, hv, _⟩
      · exact Or.inl (by rw [hv]; rfl)
      · right; rw [hv]; intro e; cases e)⟩
  | some g =>
    obtain ⟨_, xs, hx⟩ := OwnE.blk ho hb
    rw [hb] at hg
    exact h.kept hg hx ratBoundU
theorem pappseq (gf : Nat) (lb : Array Value) (l : List BT) (w : World) (egf : Enters Tryz.prog gf) (hl : l.length ≤ 1000) (hit : IterC gf lb l w) :
    Calls Tryz.prog 204 #[.slice none 0 0, .func (.func gf) #[] lb] w (fun e W' => ∃ v es, e = .returned v ∧ OwnE W' w.heap.size v es ∧ GoodU W' es ∧ es.map (·.2) = l ∧ Below w.heap.size w W') := by
  obtain ⟨i0, hi, hz0, hz1, hz2⟩ := info_parts infoBd
  refine (callsIn_wide (n := 2)).1 ?_
  refine callsIn_of_wp_marks Tryz.func204 rfl trivial ?_ rfl
  simp only [Tryz.ntmps204, List.size_toArray, List.length_cons, List.length_nil, Nat.reduceAdd, Nat.reduceSub, Array.replicate_succ, Array.replicate_zero, List.push_toArray, List.append_toArray, List.nil_append, List.cons_append]
  gi_wp2
  obtain ⟨W0, hW0⟩ : ∃ W0, W0 = w.alloc (.cells #[.slice none 0 0] 22 (0, 0)) := ⟨_, rfl⟩
  have hbx0 : Boxed W0 w.heap.size 22 (.slice none 0 0) := by rw [hW0]; exact Boxed.new w _ _
  have hb00 : Below w.heap.size w W0 := by rw [hW0]; exact bel_alloc (Below.refl _ _) _
  have hs0 : W0.heap.size = w.heap.size + 1 := by rw [hW0]; exact World.size_alloc _ _
  rw [← hW0]
  refine wpIn_iter (gf := gf) (lb := lb) (l := l) (w0 := w) rfl egf hit hb00
    (fun pre A => (∃ v, Boxed A w.heap.size 22 v ∧ OwnE A w.heap.size v pre) ∧ GoodU A pre ∧ Below w.heap.size w A)
    (fun pre A h => h.2.2) ?stab ?put ⟨⟨_, hbx0, World.ownsRow_nil _ _ _ _⟩, (fun x hx => by cases hx), hb00⟩
    (fun x W => { tmps := #[.slice none 0 0, .func (.func gf) #[] lb, .pointer (some ⟨w.heap.size, 0, none⟩), undef, .slice none 0 0, .pointer (some ⟨W.heap.size, 0, none⟩), .func (.func gf) #[] lb, .agg #[x.1, .string (bs x.2.2)], undef, undef, undef, undef, undef], defers := [] })
    (fun x => .cells #[x.1, .string (bs x.2.2)] 31 (0, 0)) ?assign ?body ?done
  case stab =>
    rintro pre A A' ⟨⟨v, h1, h2⟩, h3, h4⟩ hb
    exact ⟨⟨v, (hb.block _ h1.lt).trans h1, h2.below hb⟩, h3.below hb, bel_to h4 hb⟩
  case put =>
    rintro pre A lp o o' ⟨⟨v, h1, h2⟩, h3, h4⟩ hlp ho hc hw
    have hne : w.heap.size ≠ lp := by omega
    exact ⟨⟨v, (World.putObj_heap_other hne).trans h1, ownsRow_putObj h2 o' ho hc⟩, h3.keptO (grownBy_putObj' A lp o') ho hc,
      h4.trans (belowK_b (w := w) (Nat.le_refl _) A lp o o' (by omega) ho hc hw)⟩
  case assign =>
    rintro lp x W K ⟨⟨SA, sn, sc⟩, hsx⟩ hK
    obtain ⟨x1, x2, x3⟩ := x
    simp only at hsx
    subst hsx
    simp only [List.setIfInBounds_toArray, List.set_cons_succ, List.set_cons_zero]
    gi_wp2
    exact hK
  case body =>
    rintro lp pre x A A1 o o2 ⟨⟨v, h1, h2⟩, h3, h4⟩ hb hgx hlen hlp hlpA ho hoc ho2
    have hs1 := hb.size
    have hwA := h1.lt
    have hblk : ∀ g, v.ownBlock = some g → g < A.heap.size := fun g hg => (OwnE.blk h2 hg).1
    obtain ⟨⟨SA, sn, sc⟩, hsx⟩ : ∃ t : Option Addr × Nat × Nat, x.1 = .slice t.1 t.2.1 t.2.2 := by
      obtain ⟨B, h⟩ := hgx x (List.mem_singleton.2 rfl)
      rcases h.shpU with e | ⟨_, _, _, e⟩
      · exact ⟨(_, _, _), e⟩
      · exact ⟨(_, _, _), e⟩
    obtain ⟨x1, x2, x3⟩ := x
    simp only at hsx
    subst hsx
    have h1' : Boxed A1 w.heap.size 22 v := (hb.block _ h1.lt).trans h1
    have hal := bel_alloc (Below.refl _ A1) (.cells #[.slice SA sn sc, .string (bs x3)] 31 (0, 0))
    have hlpB : (A1.alloc (.cells #[.slice SA sn sc, .string (bs x3)] 31 (0, 0))).heap[lp]? = some o := (hal.block _ (Array.getElem?_eq_some_iff.1 ho).1).trans ho
    have hgp := grownBy_putObj' (A1.alloc (.cells #[.slice SA sn sc, .string (bs x3)] 31 (0, 0))) lp o2
    have hne : w.heap.size ≠ lp := by omega
    obtain ⟨A2, hA2⟩ : ∃ V, V = (A1.alloc (.cells #[.slice SA sn sc, .string (bs x3)] 31 (0, 0))).putObj lp o2 := ⟨_, rfl⟩
    have hsz2 : A2.heap.size = A1.heap.size + 1 := by rw [hA2, World.putObj_size, World.size_alloc]
    have g1 : Boxed A2 w.heap.size 22 v := by rw [hA2]; exact (World.putObj_heap_other hne).trans (h1'.alloc _)
    have g2 : OwnE A2 w.heap.size v pre := by rw [hA2]; exact ownsRow_putObj ((h2.below hb).below hal) o2 hlpB hoc
    have g3 : GoodU A2 (pre ++ [(.slice SA sn sc, x2, x3)]) := by rw [hA2]; exact (((h3.below hb).append hgx).below hal).keptO hgp hlpB hoc
    have g4 : Below w.heap.size w A2 := by
      rw [hA2]
      exact (bel_to (bel_to h4 hb) hal).grown hgp (by have := (Array.getElem?_eq_some_iff.1 hlpB).1; have := h4.size; have := hal.size; omega) (fun j ej => by cases ej; omega)
    have g5 : Row A2 A1.heap.size 31 [.slice SA sn sc, .string (bs x3)] := by
      have h5 : Row (A1.alloc (.cells #[.slice SA sn sc, .string (bs x3)] 31 (0, 0))) A1.heap.size 31 [.slice SA sn sc, .string (bs x3)] := rnw
      rw [hA2]; exact row_grown h5 hgp (by intro e; injection e with e; omega)
    have g6 : ∀ (b : Nat) (o : Obj), A.heap.size ≤ b → A1.heap[b]? = some o → A2.heap[b]? = some o := fun b o hb1 hb2 => by
      rw [hA2]
      exact (World.putObj_heap_other (by omega)).trans ((hal.block _ (Array.getElem?_eq_some_iff.1 hb2).1).trans hb2)
    rw [← hA2]
    clear hA2 hgp hlpB hal h1' h1 h2 h3 ho hsz2
    obtain ⟨VA, vn, vc, rfl⟩ : ∃ A n c, v = .slice A n c := by
      rcases g2.2 with ⟨e, _⟩ | ⟨_, _, _, e, _⟩
      · exact ⟨_, _, _, e⟩
      · exact ⟨_, _, _, e⟩
    have hc := g1.cell
    have c0 := g5.cell (i := 0) rfl
    have c1 := g5.cell (i := 1) rfl
    have hsrc : ∀ j u, (bcs [(.slice SA sn sc, x2, x3)])[j]? = some u → (A2.alloc (.cells #[.slice SA sn sc, .string (bs x3)] 31 (0, 0))).cell? ((⟨A2.heap.size, 0, none⟩ : Addr).add j) = some u := fun j u hj => by
      have hadd : (⟨A2.heap.size, 0, none⟩ : Addr).add j = ⟨A2.heap.size, j, none⟩ := by unfold Addr.add; split <;> simp_all
      rw [hadd]
      exact (Row.new A2 31 [.slice SA sn sc, .string (bs x3)]).cell hj
    have hone := (hgx.good).one
    have hB := g4.size
    gi_wp2_with (gi_at_builtin; refine wpListIn_append_own _ rfl _ _ 22 rfl w.heap.size 31 i0 _ 2 40 Tryz.underlying22 hi hz0 hz1 hz2 rfl (by decide) _ _ _ rfl (g2.alloc _) ⟨A2.heap.size, 0, none⟩ 1 1 (bcs [(.slice SA sn sc, x2, x3)]) rfl rfl hsrc hone (by unfold maxLen; omega) (by omega) (by simp; omega) ?_; intro v' w1 hown' hgrow _; obtain ⟨g', cap', rfl⟩ := ownsRow_succ hown'; obtain ⟨hv1, hv2, hr2, hk2, hb2⟩ := g1.appended (by decide) g2 hB (Nat.le_refl _) hown' hgrow; have hc1 := hv1.cell; have hf1 := hv1.frozen)
    have hal := bel_alloc (Below.refl _ A2) (.cells #[.slice SA sn sc, .string (bs x3)] 31 (0, 0))
    refine ⟨rfl, ⟨⟨_, hv2, ?_⟩, GoodU.kept (GoodU.grown (GoodU.below g3 hal) (OwnE.below g2 hal) hgrow) (grownBy_setCell' _ _ _) hv1 (by decide), g4.trans hb2⟩, hk2, fun b o hb1 hbo => ?_⟩
    · unfold OwnE
      rw [bcs_append, List.length_append]
      exact hr2
    · have k1 := (hal.block b (Array.getElem?_eq_some_iff.1 (g6 b o hb1 hbo)).1).trans (g6 b o hb1 hbo)
      have k2 := (hgrow.block b (Array.getElem?_eq_some_iff.1 k1).1 (fun e => by have := hblk b e.symm; omega)).trans k1
      exact ((grownBy_setCell' w1 w.heap.size _).block b (Array.getElem?_eq_some_iff.1 k2).1 (by intro e; injection e with e; omega)).trans k2
  case done =>
    rintro D es W hD he ⟨⟨v, h1, h2⟩, h3, h4⟩ hK
    have hc := h1.cell
    gi_wp2
    refine ⟨by simp, .inl ⟨_, _, rfl, run_takeDeferred hK, ?_⟩⟩
    exact ⟨_, results_tmp rfl _ _ _, v, es, rfl, ownsRow_putObj h2 _ hK rfl, h3.keptO (grownBy_putObj' _ _ _) hK rfl, he, h4.trans (belowK_b (w := w) (Nat.le_refl _) W D _ _ (by omega) hK rfl rfl)⟩
theorem pcollect (gf : Nat) (lb : Array Value) (l : List BT) (w : World) (egf : Enters Tryz.prog gf) (hl : l.length ≤ 1000) (hit : IterC gf lb l w) :
    Calls Tryz.prog 159 #[.func (.func gf) #[] lb] w (fun e W' => ∃ v es, e = .returned v ∧ OwnE W' w.heap.size v es ∧ GoodU W' es ∧ es.map (·.2) = l ∧ Below w.heap.size w W') := by
  have HC := Lib.hid (pappseq gf lb l w egf hl hit)
  clear hit egf
  go_enter Tryz.func159, Tryz.ntmps159
  go_wp2_with fail
  refine HC.out.mono ?_
  rintro e W' ⟨v, es, rfl, h1, h2, h3, h4⟩
  have HX := Lib.hid (And.intro h1 (And.intro h2 (And.intro h3 h4)))
  clear h1 h2 h3 h4
  go_wp2
  go_ret
  exact ⟨_, es, rfl, HX.out⟩
end W
end Go.Proofs.YtijpgddpejiohaaGreatDoor
end
section
namespace Go.Proofs.YtijpgddpejiohaaGreatDoor
open Go Go.RowKit Go.Deep Go.Sort
namespace W
open M
attribute [local go_sem] bs_size bs_toList bs_get bs_extract bs_append bs_lit0 bs_lit1 lit1_bs
set_option maxHeartbeats 4000000
set_option maxRecDepth 100000
def bdA (p : PZ) : BQ := ([((-2 * p.1 : Int) : Rat), ((-2 * p.2 : Int) : Rat), 0, -1], ((-(Sx.nrmZ p) : Int) : Rat))
def bdB (p : PZ) : BQ := ([((2 * p.1 : Int) : Rat), ((2 * p.2 : Int) : Rat), 1, 0], ((Sx.nrmZ p : Int) : Rat))
def PK (W1 w : World) (ab rb : Nat) (ts : List (List UInt8)) (c : List UInt8) : Prop :=
  Below W1.heap.size W1 w ∧ W1.heap.size ≤ ab ∧ W1.heap.size ≤ rb ∧ Row w ab 31 [.slice (some ⟨rb, 0, none⟩) 4 4, .string (bs c)] ∧ Row w rb 29 (Strs ts)
theorem cells_other (w : World) (b rb i : Nat) (v : Value) (h : rb ≠ b) : (w.setCell ⟨b, i, none⟩ v).heap[rb]? = w.heap[rb]? := by
  simp [World.setCell, Array.getElem?_modify, Ne.symm h]
theorem zrow {w : World} {ab : Nat} {t : TypeId} {xs : List Value} (B : Nat) (h : Row w ab t xs) (hle : B ≤ ab) : Row w ab t xs ∧ B ≤ ab := ⟨h, hle⟩
theorem PK.set {W1 w : World} {ab rb : Nat} {ts : List (List UInt8)} {c : List UInt8} {z0 z1 : Value}
    (hb : Below W1.heap.size W1 w) (h1 : W1.heap.size ≤ ab) (h2 : W1.heap.size ≤ rb) (hz : Row w ab 31 [z0, z1]) (hy : Row w rb 29 (Strs ts)) :
    PK W1 ((w.setCell ⟨ab, 0, none⟩ (.slice (some ⟨rb, 0, none⟩) 4 4)).setCell ⟨ab, 1, none⟩ (.string (bs c))) ab rb ts c := by
  have hne : rb ≠ ab := fun e => by
    subst e
    have := hz.symm.trans hy
    injection this with this
    injection this with _ this _
    exact absurd this (by decide)
  have hr1 := hz.set 0 (.slice (some ⟨rb, 0, none⟩) 4 4)
  have hr2 := Row.set hr1 1 (.string (bs c))
  refine ⟨(hb.setCell (p := ⟨ab, 0, none⟩) h1 _).setCell (p := ⟨ab, 1, none⟩) h1 _, h1, h2, hr2, ?_⟩
  have k1 : Row (w.setCell ⟨ab, 0, none⟩ (.slice (some ⟨rb, 0, none⟩) 4 4)) rb 29 (Strs ts) := (cells_other w ab rb _ _ hne).trans hy
  exact (cells_other _ ab rb _ _ hne).trans k1
theorem goodRow4 {E : World} {rb : Nat} {a b c d t : List UInt8} (h : Row E rb 29 (Strs [a, b, c, d])) : GoodU E [(.slice (some ⟨rb, 0, none⟩) 4 4, [a, b, c, d], t)] := fun x hx => by
  rw [List.mem_singleton] at hx
  subst hx
  exact ⟨0, rfl, Or.inr ⟨rb, 4, _, rfl, Nat.zero_le _, h, Nat.le_refl _, by unfold maxLen; omega, rfl, rfl⟩⟩
theorem ringB_cons (p : PZ) (l : List PZ) : bx (Sx.ringB (p :: l)) = (rx (bdA p).1, R (bdA p).2) :: (rx (bdB p).1, R (bdB p).2) :: bx (Sx.ringB l) := rfl
theorem ringB_take (l : List PZ) : ∀ (j : Nat) (h : j < l.length), (bx (Sx.ringB l)).take (2 * (j + 1)) = (bx (Sx.ringB l)).take (2 * j) ++ [(rx (bdA l[j]).1, R (bdA l[j]).2), (rx (bdB l[j]).1, R (bdB l[j]).2)] := by
  induction l with
  | nil => intro j h; simp at h
  | cons p l ih =>
    intro j h
    cases j with
    | zero => rw [ringB_cons]; rfl
    | succ j =>
      rw [ringB_cons, show 2 * (j + 1 + 1) = 2 * (j + 1) + 1 + 1 by omega, show 2 * (j + 1) = 2 * j + 1 + 1 by omega]
      simp only [List.take_succ_cons, List.cons_append, List.getElem_cons_succ]
      rw [← ih j (by simpa using h), show 2 * (j + 1) = 2 * j + 1 + 1 by omega]
theorem ringB_len (l : List PZ) : (bx (Sx.ringB l)).length = 2 * l.length := by
  induction l with
  | nil => rfl
  | cons p l ih => rw [ringB_cons]; simp only [List.length_cons, ih]; omega
theorem bdA_text (p : PZ) : ((rx (bdA p).1, R (bdA p).2) : BT) = ([R ((-2 * p.1 : Int) : Rat), R ((-2 * p.2 : Int) : Rat), [48], [45, 49]], R ((-(p.1 * p.1 + p.2 * p.2) : Int) : Rat)) := by
  have h0 : R (0 : Rat) = [48] := by decide +kernel
  have h1 : R (-1 : Rat) = [45, 49] := by decide +kernel
  show (([R ((-2 * p.1 : Int) : Rat), R ((-2 * p.2 : Int) : Rat), R (0 : Rat), R (-1 : Rat)], R ((-(p.1 * p.1 + p.2 * p.2) : Int) : Rat)) : BT) = _
  rw [h0, h1]
theorem bdB_text (p : PZ) : ((rx (bdB p).1, R (bdB p).2) : BT) = ([R ((2 * p.1 : Int) : Rat), R ((2 * p.2 : Int) : Rat), [49], [48]], R ((p.1 * p.1 + p.2 * p.2 : Int) : Rat)) := by
  have h0 : R (0 : Rat) = [48] := by decide +kernel
  have h1 : R (1 : Rat) = [49] := by decide +kernel
  show (([R ((2 * p.1 : Int) : Rat), R ((2 * p.2 : Int) : Rat), R (1 : Rat), R (0 : Rat)], R ((p.1 * p.1 + p.2 * p.2 : Int) : Rat)) : BT) = _
  rw [h0, h1]
theorem piter (bx0 : Nat) (vl : Value) (l : List PZ) (w0 : World) (hg : Glob w0) (hl : RdV w0 vl l) (hb : w0.cell? ⟨bx0, 0, none⟩ = some vl) (hp : ∀ p ∈ l, inP p = true) (hl8 : l.length ≤ 1000) :
    IterC 205 #[.pointer (some ⟨bx0, 0, none⟩)] (bx (Sx.ringB l)) w0 := by
  intro lp J W hW hJb hJs hY h0
  have hc0 := (hW.cell (block_lt_of_cell hb)).trans hb
  obtain ⟨A, ca, rfl⟩ := hl.len
  refine callsIn_of_wp Tryz.func205 rfl trivial ?_ rfl
  simp only [Tryz.ntmps205, List.size_toArray, List.length_cons, List.length_nil, Nat.reduceAdd, Nat.reduceSub, Array.replicate_succ, Array.replicate_zero, List.push_toArray, List.append_toArray, List.nil_append, List.cons_append]
  gi_wp2
  gi_loopw [10] (fun iv wr => ∃ (j : Nat) (es : List (Value × BT)), iv = .int .i64 (j : Int) ∧ j ≤ l.length ∧ Hid (J es wr ∧ es.map (·.2) = (bx (Sx.ringB l)).take (2 * j))) (fun iv _ => l.length - (intOf iv).toNat)
  case atStart => exact ⟨0, [], rfl, by omega, Lib.hid ⟨h0, rfl⟩⟩
  case round =>
    obtain ⟨j, es, rfl, hj, hin⟩ := hrel
    by_cases hlt : j < l.length
    · have hbw := hJb _ _ hin.out.1
      have hcb := (hbw.cell (block_lt_of_cell hb)).trans hb
      obtain ⟨bl, ol, rfl, hw⟩ := (hl.below hbw).row j hlt
      obtain ⟨y0, y1⟩ := hw.val j hlt
      have hj1 : (j : Int) < (l.length : Int) := by omega
      have hj0 : (0 : Int) ≤ (j : Int) := by omega
      have hpj := hp _ (List.getElem_mem hlt)
      have hnb := nrm_bd hpj
      have hbx : -100000 ≤ l[j].1 ∧ l[j].1 ≤ 100000 := by
        have h := hpj
        simp only [inP, inC, Bool.and_eq_true, decide_eq_true_eq] at h
        omega
      have hby : -100000 ≤ l[j].2 ∧ l[j].2 ≤ 100000 := by
        have h := hpj
        simp only [inP, inC, Bool.and_eq_true, decide_eq_true_eq] at h
        omega
      have hTX : Hid ((bx (Sx.ringB l)).take (2 * (j + 1)) = (bx (Sx.ringB l)).take (2 * j) ++ [(([R ((-2 * l[j].1 : Int) : Rat), R ((-2 * l[j].2 : Int) : Rat), [48], [45, 49]], R ((-(l[j].1 * l[j].1 + l[j].2 * l[j].2) : Int) : Rat)) : BT), ([R ((2 * l[j].1 : Int) : Rat), R ((2 * l[j].2 : Int) : Rat), [49], [48]], R ((l[j].1 * l[j].1 + l[j].2 * l[j].2 : Int) : Rat))]) := Lib.hid (by rw [ringB_take l j hlt, bdA_text, bdB_text])
      have hel := congrArg List.length hin.out.2
      rw [List.length_map, List.length_take, ringB_len] at hel
      have hLN : Hid (es.length < (bx (Sx.ringB l)).length ∧ es.length + 1 < (bx (Sx.ringB l)).length) := Lib.hid (by rw [ringB_len]; omega)
      clear hel
      have hn2 : 0 ≤ l[j].1 * l[j].1 + l[j].2 * l[j].2 ∧ l[j].1 * l[j].1 + l[j].2 * l[j].2 ≤ 20000000000 := by omega
      generalize l[j].1 = x at *
      generalize l[j].2 = y at *
      gi_wp2
      clear y0 y1 hw hj0 hj1
      have HN := Lib.hid (fun (n : Int) (h : n.natAbs ≤ 20000000000) W (hW : Below wr.heap.size wr W) => ratWhole n W (hg.of (bel_to hbw hW)) (by omega) (by omega))
      have hb1 := bel_al wr (.cells #[.int .i64 x, .int .i64 y] 69 (0, 0))
      have HCP := Lib.hid (fun E (hE : Below (wr.alloc (.cells #[.int .i64 x, .int .i64 y] 69 (0, 0))).heap.size (wr.alloc (.cells #[.int .i64 x, .int .i64 y] 69 (0, 0))) E) => And.intro (((rnw (w := wr) (t := 69) (xs := [.int .i64 x, .int .i64 y])).below' hE).cell (i := 0) rfl) (((rnw (w := wr) (t := 69) (xs := [.int .i64 x, .int .i64 y])).below' hE).cell (i := 1) rfl))
      have HB1 := Lib.hid hb1
      clear hb1
      have hm1 : IntKind.i64.wrap (-2 * x) = -2 * x := IntWalk.i64_in _ (by omega)
      have hm2 : IntKind.i64.wrap (-2 * y) = -2 * y := IntWalk.i64_in _ (by omega)
      have hm3 : IntKind.i64.wrap (2 * x) = 2 * x := IntWalk.i64_in _ (by omega)
      have hm4 : IntKind.i64.wrap (2 * y) = 2 * y := IntWalk.i64_in _ (by omega)
      have hm5 : IntKind.i64.wrap (-(x * x + y * y)) = -(x * x + y * y) := IntWalk.i64_in _ (by omega)
      have HN1 := Lib.hid (fun W hW => HN.out (-2 * x) (by omega) W hW)
      have HN2 := Lib.hid (fun W hW => HN.out (-2 * y) (by omega) W hW)
      have HN3 := Lib.hid (fun W hW => HN.out (-(x * x + y * y)) (by omega) W hW)
      have HN4 := Lib.hid (fun W hW => HN.out (2 * x) (by omega) W hW)
      have HN5 := Lib.hid (fun W hW => HN.out (2 * y) (by omega) W hW)
      have HN6 := Lib.hid (fun W hW => HN.out (x * x + y * y) (by omega) W hW)
      generalize R ((-2 * x : Int) : Rat) = t1 at *
      generalize R ((-2 * y : Int) : Rat) = t2 at *
      generalize R ((-(x * x + y * y) : Int) : Rat) = t3 at *
      generalize R ((2 * x : Int) : Rat) = t4 at *
      generalize R ((2 * y : Int) : Rat) = t5 at *
      generalize R ((x * x + y * y : Int) : Rat) = t6 at *
      obtain ⟨W1, hW1⟩ : ∃ V, V = wr.alloc (.cells #[.int .i64 x, .int .i64 y] 69 (0, 0)) := ⟨_, rfl⟩
      obtain ⟨pb, hpb⟩ : ∃ b, b = wr.heap.size := ⟨_, rfl⟩
      rw [← hW1] at HCP HB1 ⊢
      rw [← hpb] at HCP ⊢
      have HPB := Lib.hid (And.intro hW1 hpb)
      clear hW1 hpb hbx hby hn2 hnb hpj hbw hcb hc0
      rename_i K hK
      have HFIN : ∀ (ab rb : Nat) (E : World), PK W1 E ab rb [t1, t2, [48], [45, 49]] t3 → K { tmps := #[.func (.yield lp) #[] #[], .pointer (some ⟨bx0, 0, none⟩), undef, undef, .pointer (some ⟨pb, 0, none⟩), .int .i64 (x * x + y * y), .pointer (some ⟨ab, 0, none⟩), u7, .slice (some ⟨bl, ol, none⟩) l.length ca, .int .i64 (l.length : Int), .int .i64 (j : Int), .bool true, .pointer (some ⟨bl, ol + j * 2, none⟩), .agg #[.int .i64 x, .int .i64 y], .pointer (some ⟨pb, 0, none⟩), .int .i64 x, .pointer (some ⟨pb, 0, none⟩), .int .i64 x, .int .i64 (x * x), .pointer (some ⟨pb, 1, none⟩), .int .i64 y, .pointer (some ⟨pb, 1, none⟩), .int .i64 y, .int .i64 (y * y), .int .i64 (x * x + y * y), .pointer (some ⟨pb, 0, none⟩), .int .i64 x, .int .i64 (-2 * x), .string (bs t1), .pointer (some ⟨pb, 1, none⟩), .int .i64 y, .int .i64 (-2 * y), .string (bs t2), .slice (some ⟨rb, 0, none⟩) 4 4, .int .i64 (x * x + y * y), .int .i64 (-(x * x + y * y)), .string (bs t3), .agg #[.slice (some ⟨rb, 0, none⟩) 4 4, .string (bs t3)], u38, u39, u40, u41, u42, u43, u44, u45, u46, u47, u48, u49, u50, u51, u52, u53, u54, u55, u56, u57, u58, u59, u60], defers := [] } E := by
        intro ab rb E hE
        have HPK := Lib.hid hE
        clear hE
        refine hK _ _ ?_
        clear hK K
        gi_wp2
        have HB2 := Lib.hid (bel_to HB1.out HPK.out.1)
        have HCQ := Lib.hid (fun V (hV : Below E.heap.size E V) => HCP.out V (bel_to HPK.out.1 hV))
        rename_i K hK
        have HFIN2 : ∀ (ab2 rb2 : Nat) (E2 : World), PK E E2 ab2 rb2 [t4, t5, [49], [48]] t6 → K { tmps := #[.func (.yield lp) #[] #[], .pointer (some ⟨bx0, 0, none⟩), undef, undef, .pointer (some ⟨pb, 0, none⟩), .int .i64 (x * x + y * y), .pointer (some ⟨ab, 0, none⟩), .pointer (some ⟨ab2, 0, none⟩), .slice (some ⟨bl, ol, none⟩) l.length ca, .int .i64 (l.length : Int), .int .i64 (j : Int), .bool true, .pointer (some ⟨bl, ol + j * 2, none⟩), .agg #[.int .i64 x, .int .i64 y], .pointer (some ⟨pb, 0, none⟩), .int .i64 x, .pointer (some ⟨pb, 0, none⟩), .int .i64 x, .int .i64 (x * x), .pointer (some ⟨pb, 1, none⟩), .int .i64 y, .pointer (some ⟨pb, 1, none⟩), .int .i64 y, .int .i64 (y * y), .int .i64 (x * x + y * y), .pointer (some ⟨pb, 0, none⟩), .int .i64 x, .int .i64 (-2 * x), .string (bs t1), .pointer (some ⟨pb, 1, none⟩), .int .i64 y, .int .i64 (-2 * y), .string (bs t2), .slice (some ⟨rb, 0, none⟩) 4 4, .int .i64 (x * x + y * y), .int .i64 (-(x * x + y * y)), .string (bs t3), .agg #[.slice (some ⟨rb, 0, none⟩) 4 4, .string (bs t3)], .pointer (some ⟨pb, 0, none⟩), .int .i64 x, .int .i64 (2 * x), .string (bs t4), .pointer (some ⟨pb, 1, none⟩), .int .i64 y, .int .i64 (2 * y), .string (bs t5), .slice (some ⟨rb2, 0, none⟩) 4 4, .int .i64 (x * x + y * y), .string (bs t6), .agg #[.slice (some ⟨rb2, 0, none⟩) 4 4, .string (bs t6)], u50, u51, u52, u53, u54, u55, u56, u57, u58, u59, u60], defers := [] } E2 := by
          intro ab2 rb2 E2 hE
          have HPL := Lib.hid hE
          clear hE
          refine hK _ _ ?_
          clear hK K HCP HCQ HN1 HN2 HN3 HN4 HN5 HN6 hm1 hm2 hm3 hm4 hm5
          have GA := goodRow4 (t := t3) (Row.below' HPK.out.2.2.2.2 HPL.out.1)
          have RA := Row.below' HPK.out.2.2.2.1 HPL.out.1
          obtain ⟨fn, tmps, assign, body, hy, hR⟩ := hY es (.slice (some ⟨rb, 0, none⟩) 4 4, [t1, t2, [48], [45, 49]], t3) wr E2 hin.out.1 (bel_to HB2.out HPL.out.1) GA hLN.out.1
          have q0 := RA.cell (i := 0) rfl
          have q1 := RA.cell (i := 1) rfl
          have HR := Lib.hid hR
          clear hR GA RA
          gi_wp2
          refine HR.out.mono ?_
          rintro e W3 ⟨rfl, hJ3, hk3⟩
          have hs1 := HB2.out.size
          have RB : Row W3 ab2 31 [.slice (some ⟨rb2, 0, none⟩) 4 4, .string (bs t6)] := hk3 ab2 _ (Nat.le_trans hs1 HPL.out.2.1) HPL.out.2.2.2.1
          have RC : Row W3 rb2 29 (Strs [t4, t5, [49], [48]]) := hk3 rb2 _ (Nat.le_trans hs1 HPL.out.2.2.1) HPL.out.2.2.2.2
          have hln2 := hLN.out.2
          obtain ⟨fn2, tmps2, assign2, body2, hy2, hR2⟩ := hY (es ++ [(.slice (some ⟨rb, 0, none⟩) 4 4, [t1, t2, [48], [45, 49]], t3)]) (.slice (some ⟨rb2, 0, none⟩) 4 4, [t4, t5, [49], [48]], t6) W3 W3 hJ3 (Below.refl _ _) (goodRow4 (t := t6) RC) (by rw [List.length_append]; exact hln2)
          have r0 := RB.cell (i := 0) rfl
          have r1 := RB.cell (i := 1) rfl
          have HR2 := Lib.hid hR2
          clear hR2 RB RC hJ3 hk3 hs1 q0 q1 hln2 hy
          gi_wp2
          refine HR2.out.mono ?_
          rintro e W4 ⟨rfl, hJ4, _⟩
          have HJ4 := Lib.hid hJ4
          clear hJ4 r0 r1 hy2
          gi_wp2
          go_roundw
          case rel => exact ⟨j + 1, _, by go_num, hlt, Lib.hid ⟨HJ4.out, by rw [List.map_append, List.map_append, hin.out.2, hTX.out, List.append_assoc]; rfl⟩⟩
          case measure => simp [intOf]; omega
        have HFJ := Lib.hid HFIN2
        clear HFIN2 hK
        refine wpIn_wide.2 ?_
        go_region_held3 (fun V => V.cell? ⟨pb, 0, none⟩ = some (.int .i64 x) ∧ V.cell? ⟨pb, 1, none⟩ = some (.int .i64 y))
          (first | exact HCQ.out _ (by first | exact HA.out | exact bel_alloc HA.out _ | exact bel_alloc (bel_alloc HA.out _) _ | exact RowKit.Below.drew (Below.refl _ _) | exact bel_alloc (RowKit.Below.drew (Below.refl _ _)) _) | exact HCQ.out _ (RowKit.Below.setCell (p := ⟨_, 1, none⟩) (RowKit.Below.setCell (p := ⟨_, 0, none⟩) (by first | exact HA.out | exact bel_alloc HA.out _ | exact bel_alloc (bel_alloc HA.out _) _) (by first | exact HZ.out.2 | exact HA.out.size | exact Nat.le_refl _) _) (by first | exact HZ.out.2 | exact HA.out.size | exact Nat.le_refl _) _))
          (first
            | (go_at_call 46; first
              | (refine (HN4.out _ (bel_to HB2.out (by first | exact HA.out | exact bel_alloc HA.out _ | exact bel_alloc (bel_alloc HA.out _) _ | exact RowKit.Below.drew (Below.refl _ _) | exact bel_alloc (RowKit.Below.drew (Below.refl _ _)) _))).mono ?_; rintro e w5 ⟨rfl, hb5⟩; have hz : Below E.heap.size E w5 := bel_to (by first | exact HA.out | exact bel_alloc HA.out _ | exact bel_alloc (bel_alloc HA.out _) _ | exact RowKit.Below.drew (Below.refl _ _) | exact bel_alloc (RowKit.Below.drew (Below.refl _ _)) _) hb5; (first | (have HZ := Lib.hid (zrow E.heap.size (Row.below' HZ.out.1 hb5) (by first | exact HZ.out.2 | exact HA.out.size | (have := HA.out.size; omega) | exact Nat.le_refl _ | omega))) | (have HZ := Lib.hid (zrow E.heap.size (Row.below' (HZ.out.1.alloc _) hb5) (by first | exact HZ.out.2 | exact HA.out.size | (have := HA.out.size; omega) | exact Nat.le_refl _ | omega))) | (have HZ := Lib.hid (zrow E.heap.size (Row.below' (rnew0 (t := 31) (xs := [.slice none 0 0, .string ⟨#[]⟩]) (World.size_alloc _ _).symm) hb5) (by first | exact HZ.out.2 | exact HA.out.size | (have := HA.out.size; omega) | exact Nat.le_refl _ | omega))) | (have HZ := Lib.hid (zrow E.heap.size (Row.below' (show Row (E.drew.alloc (.cells #[.slice none 0 0, .string ⟨#[]⟩] 31 (0, 0))) E.heap.size 31 [.slice none 0 0, .string ⟨#[]⟩] from rnw) hb5) (by first | exact HZ.out.2 | exact HA.out.size | (have := HA.out.size; omega) | exact Nat.le_refl _ | omega))) | (have HZ := Lib.hid (zrow E.heap.size ((rnw (t := 31) (xs := [.slice none 0 0, .string ⟨#[]⟩])).below' hb5) (by first | exact HZ.out.2 | exact HA.out.size | (have := HA.out.size; omega) | exact Nat.le_refl _ | omega))) | (have HZ := Lib.hid (zrow E.heap.size (((rnw (t := 31) (xs := [.slice none 0 0, .string ⟨#[]⟩])).alloc _).below' hb5) (by first | exact HZ.out.2 | exact HA.out.size | (have := HA.out.size; omega) | exact Nat.le_refl _ | omega))) | skip); (first | (have HY := Lib.hid (zrow E.heap.size (Row.below' HY.out.1 hb5) (by first | exact HY.out.2 | exact HA.out.size | (have := HA.out.size; omega) | exact Nat.le_refl _ | omega))) | (have HY := Lib.hid (zrow E.heap.size (Row.below' (HY.out.1.alloc _) hb5) (by first | exact HY.out.2 | exact HA.out.size | (have := HA.out.size; omega) | exact Nat.le_refl _ | omega))) | (have HY := Lib.hid (zrow E.heap.size (Row.below' (rnew0 (t := 29) (xs := Strs [t4, t5, [49], [48]]) (World.size_alloc _ _).symm) hb5) (by first | exact HY.out.2 | exact HA.out.size | (have := HA.out.size; omega) | exact Nat.le_refl _ | omega))) | (have HY := Lib.hid (zrow E.heap.size ((rnw (t := 29) (xs := Strs [t4, t5, [49], [48]])).below' hb5) (by first | exact HY.out.2 | exact HA.out.size | (have := HA.out.size; omega) | exact Nat.le_refl _ | omega))) | (have HY := Lib.hid (zrow E.heap.size (((rnw (t := 29) (xs := Strs [t4, t5, [49], [48]])).alloc _).below' hb5) (by first | exact HY.out.2 | exact HA.out.size | (have := HA.out.size; omega) | exact Nat.le_refl _ | omega))) | skip); have HA := Lib.hid hz; clear hz hb5)
              | (refine (HN5.out _ (bel_to HB2.out (by first | exact HA.out | exact bel_alloc HA.out _ | exact bel_alloc (bel_alloc HA.out _) _ | exact RowKit.Below.drew (Below.refl _ _) | exact bel_alloc (RowKit.Below.drew (Below.refl _ _)) _))).mono ?_; rintro e w5 ⟨rfl, hb5⟩; have hz : Below E.heap.size E w5 := bel_to (by first | exact HA.out | exact bel_alloc HA.out _ | exact bel_alloc (bel_alloc HA.out _) _ | exact RowKit.Below.drew (Below.refl _ _) | exact bel_alloc (RowKit.Below.drew (Below.refl _ _)) _) hb5; (first | (have HZ := Lib.hid (zrow E.heap.size (Row.below' HZ.out.1 hb5) (by first | exact HZ.out.2 | exact HA.out.size | (have := HA.out.size; omega) | exact Nat.le_refl _ | omega))) | (have HZ := Lib.hid (zrow E.heap.size (Row.below' (HZ.out.1.alloc _) hb5) (by first | exact HZ.out.2 | exact HA.out.size | (have := HA.out.size; omega) | exact Nat.le_refl _ | omega))) | (have HZ := Lib.hid (zrow E.heap.size (Row.below' (rnew0 (t := 31) (xs := [.slice none 0 0, .string ⟨#[]⟩]) (World.size_alloc _ _).symm) hb5) (by first | exact HZ.out.2 | exact HA.out.size | (have := HA.out.size; omega) | exact Nat.le_refl _ | omega))) | (have HZ := Lib.hid (zrow E.heap.size (Row.below' (show Row (E.drew.alloc (.cells #[.slice none 0 0, .string ⟨#[]⟩] 31 (0, 0))) E.heap.size 31 [.slice none 0 0, .string ⟨#[]⟩] from rnw) hb5) (by first | exact HZ.out.2 | exact HA.out.size | (have := HA.out.size; omega) | exact Nat.le_refl _ | omega))) | (have HZ := Lib.hid (zrow E.heap.size ((rnw (t := 31) (xs := [.slice none 0 0, .string ⟨#[]⟩])).below' hb5) (by first | exact HZ.out.2 | exact HA.out.size | (have := HA.out.size; omega) | exact Nat.le_refl _ | omega))) | (have HZ := Lib.hid (zrow E.heap.size (((rnw (t := 31) (xs := [.slice none 0 0, .string ⟨#[]⟩])).alloc _).below' hb5) (by first | exact HZ.out.2 | exact HA.out.size | (have := HA.out.size; omega) | exact Nat.le_refl _ | omega))) | skip); (first | (have HY := Lib.hid (zrow E.heap.size (Row.below' HY.out.1 hb5) (by first | exact HY.out.2 | exact HA.out.size | (have := HA.out.size; omega) | exact Nat.le_refl _ | omega))) | (have HY := Lib.hid (zrow E.heap.size (Row.below' (HY.out.1.alloc _) hb5) (by first | exact HY.out.2 | exact HA.out.size | (have := HA.out.size; omega) | exact Nat.le_refl _ | omega))) | (have HY := Lib.hid (zrow E.heap.size (Row.below' (rnew0 (t := 29) (xs := Strs [t4, t5, [49], [48]]) (World.size_alloc _ _).symm) hb5) (by first | exact HY.out.2 | exact HA.out.size | (have := HA.out.size; omega) | exact Nat.le_refl _ | omega))) | (have HY := Lib.hid (zrow E.heap.size ((rnw (t := 29) (xs := Strs [t4, t5, [49], [48]])).below' hb5) (by first | exact HY.out.2 | exact HA.out.size | (have := HA.out.size; omega) | exact Nat.le_refl _ | omega))) | (have HY := Lib.hid (zrow E.heap.size (((rnw (t := 29) (xs := Strs [t4, t5, [49], [48]])).alloc _).below' hb5) (by first | exact HY.out.2 | exact HA.out.size | (have := HA.out.size; omega) | exact Nat.le_refl _ | omega))) | skip); have HA := Lib.hid hz; clear hz hb5)
              | (refine (HN6.out _ (bel_to HB2.out (by first | exact HA.out | exact bel_alloc HA.out _ | exact bel_alloc (bel_alloc HA.out _) _ | exact RowKit.Below.drew (Below.refl _ _) | exact bel_alloc (RowKit.Below.drew (Below.refl _ _)) _))).mono ?_; rintro e w5 ⟨rfl, hb5⟩; have hz : Below E.heap.size E w5 := bel_to (by first | exact HA.out | exact bel_alloc HA.out _ | exact bel_alloc (bel_alloc HA.out _) _ | exact RowKit.Below.drew (Below.refl _ _) | exact bel_alloc (RowKit.Below.drew (Below.refl _ _)) _) hb5; (first | (have HZ := Lib.hid (zrow E.heap.size (Row.below' HZ.out.1 hb5) (by first | exact HZ.out.2 | exact HA.out.size | (have := HA.out.size; omega) | exact Nat.le_refl _ | omega))) | (have HZ := Lib.hid (zrow E.heap.size (Row.below' (HZ.out.1.alloc _) hb5) (by first | exact HZ.out.2 | exact HA.out.size | (have := HA.out.size; omega) | exact Nat.le_refl _ | omega))) | (have HZ := Lib.hid (zrow E.heap.size (Row.below' (rnew0 (t := 31) (xs := [.slice none 0 0, .string ⟨#[]⟩]) (World.size_alloc _ _).symm) hb5) (by first | exact HZ.out.2 | exact HA.out.size | (have := HA.out.size; omega) | exact Nat.le_refl _ | omega))) | (have HZ := Lib.hid (zrow E.heap.size (Row.below' (show Row (E.drew.alloc (.cells #[.slice none 0 0, .string ⟨#[]⟩] 31 (0, 0))) E.heap.size 31 [.slice none 0 0, .string ⟨#[]⟩] from rnw) hb5) (by first | exact HZ.out.2 | exact HA.out.size | (have := HA.out.size; omega) | exact Nat.le_refl _ | omega))) | (have HZ := Lib.hid (zrow E.heap.size ((rnw (t := 31) (xs := [.slice none 0 0, .string ⟨#[]⟩])).below' hb5) (by first | exact HZ.out.2 | exact HA.out.size | (have := HA.out.size; omega) | exact Nat.le_refl _ | omega))) | (have HZ := Lib.hid (zrow E.heap.size (((rnw (t := 31) (xs := [.slice none 0 0, .string ⟨#[]⟩])).alloc _).below' hb5) (by first | exact HZ.out.2 | exact HA.out.size | (have := HA.out.size; omega) | exact Nat.le_refl _ | omega))) | skip); (first | (have HY := Lib.hid (zrow E.heap.size (Row.below' HY.out.1 hb5) (by first | exact HY.out.2 | exact HA.out.size | (have := HA.out.size; omega) | exact Nat.le_refl _ | omega))) | (have HY := Lib.hid (zrow E.heap.size (Row.below' (HY.out.1.alloc _) hb5) (by first | exact HY.out.2 | exact HA.out.size | (have := HA.out.size; omega) | exact Nat.le_refl _ | omega))) | (have HY := Lib.hid (zrow E.heap.size (Row.below' (rnew0 (t := 29) (xs := Strs [t4, t5, [49], [48]]) (World.size_alloc _ _).symm) hb5) (by first | exact HY.out.2 | exact HA.out.size | (have := HA.out.size; omega) | exact Nat.le_refl _ | omega))) | (have HY := Lib.hid (zrow E.heap.size ((rnw (t := 29) (xs := Strs [t4, t5, [49], [48]])).below' hb5) (by first | exact HY.out.2 | exact HA.out.size | (have := HA.out.size; omega) | exact Nat.le_refl _ | omega))) | (have HY := Lib.hid (zrow E.heap.size (((rnw (t := 29) (xs := Strs [t4, t5, [49], [48]])).alloc _).below' hb5) (by first | exact HY.out.2 | exact HA.out.size | (have := HA.out.size; omega) | exact Nat.le_refl _ | omega))) | skip); have HA := Lib.hid hz; clear hz hb5; (first | (have zc0 := HZ.out.1.cell (i := 0) rfl; have zc1 := HZ.out.1.cell (i := 1) rfl; have zf0 := HZ.out.1.free 0; have zf1 := HZ.out.1.free 1; have zd0 := fun o : Obj => (HZ.out.1.alloc o).cell (i := 0) rfl; have zd1 := fun o : Obj => (HZ.out.1.alloc o).cell (i := 1) rfl; have zg0 := fun o : Obj => (HZ.out.1.alloc o).free 0; have zg1 := fun o : Obj => (HZ.out.1.alloc o).free 1) | skip); have ze0 := fun o : Obj => ((rnw (w := w5) (t := 31) (xs := [.slice none 0 0, .string ⟨#[]⟩])).alloc o).cell (i := 0) rfl; have ze1 := fun o : Obj => ((rnw (w := w5) (t := 31) (xs := [.slice none 0 0, .string ⟨#[]⟩])).alloc o).cell (i := 1) rfl; have zh0 := fun o : Obj => ((rnw (w := w5) (t := 31) (xs := [.slice none 0 0, .string ⟨#[]⟩])).alloc o).free 0; have zh1 := fun o : Obj => ((rnw (w := w5) (t := 31) (xs := [.slice none 0 0, .string ⟨#[]⟩])).alloc o).free 1)))
        all_goals refine HFJ.out _ _ _ ?_
        all_goals first
          | exact ⟨bel_alloc HA.out _, HA.out.size, HY.out.2, rnw, HY.out.1.alloc _⟩
          | exact PK.set HA.out HZ.out.2 HY.out.2 HZ.out.1 HY.out.1
          | exact PK.set (bel_alloc HA.out _) HZ.out.2 HA.out.size (HZ.out.1.alloc _) rnw
          | exact ⟨bel_alloc (bel_alloc HA.out _) _, Nat.le_succ_of_le HA.out.size, HA.out.size, rnew0 (World.size_alloc _ _).symm, rnw.alloc _⟩
          | exact ⟨bel_alloc (bel_alloc HA.out _) _, HA.out.size, Nat.le_succ_of_le HA.out.size, rnw.alloc _, rnew0 (World.size_alloc _ _).symm⟩
      have HFI := Lib.hid HFIN
      clear HFIN hK
      refine wpIn_wide.2 ?_
      go_region_held3 (fun E => E.cell? ⟨pb, 0, none⟩ = some (.int .i64 x) ∧ E.cell? ⟨pb, 1, none⟩ = some (.int .i64 y))
        (first | exact HCP.out _ (by first | exact HA.out | exact bel_alloc HA.out _ | exact bel_alloc (bel_alloc HA.out _) _ | exact RowKit.Below.drew (Below.refl _ _) | exact bel_alloc (RowKit.Below.drew (Below.refl _ _)) _) | exact HCP.out _ (RowKit.Below.setCell (p := ⟨_, 1, none⟩) (RowKit.Below.setCell (p := ⟨_, 0, none⟩) (by first | exact HA.out | exact bel_alloc HA.out _ | exact bel_alloc (bel_alloc HA.out _) _) (by first | exact HZ.out.2 | exact HA.out.size | exact Nat.le_refl _) _) (by first | exact HZ.out.2 | exact HA.out.size | exact Nat.le_refl _) _))
        (first
          | (go_at_call 46; first
            | (refine (HN1.out _ (bel_to HB1.out (by first | exact HA.out | exact bel_alloc HA.out _ | exact bel_alloc (bel_alloc HA.out _) _ | exact RowKit.Below.drew (Below.refl _ _) | exact bel_alloc (RowKit.Below.drew (Below.refl _ _)) _))).mono ?_; rintro e w5 ⟨rfl, hb5⟩; have hz : Below W1.heap.size W1 w5 := bel_to (by first | exact HA.out | exact bel_alloc HA.out _ | exact bel_alloc (bel_alloc HA.out _) _ | exact RowKit.Below.drew (Below.refl _ _) | exact bel_alloc (RowKit.Below.drew (Below.refl _ _)) _) hb5; (first | (have HZ := Lib.hid (zrow W1.heap.size (Row.below' HZ.out.1 hb5) (by first | exact HZ.out.2 | exact HA.out.size | (have := HA.out.size; omega) | exact Nat.le_refl _ | omega))) | (have HZ := Lib.hid (zrow W1.heap.size (Row.below' (HZ.out.1.alloc _) hb5) (by first | exact HZ.out.2 | exact HA.out.size | (have := HA.out.size; omega) | exact Nat.le_refl _ | omega))) | (have HZ := Lib.hid (zrow W1.heap.size (Row.below' (rnew0 (t := 31) (xs := [.slice none 0 0, .string ⟨#[]⟩]) (World.size_alloc _ _).symm) hb5) (by first | exact HZ.out.2 | exact HA.out.size | (have := HA.out.size; omega) | exact Nat.le_refl _ | omega))) | (have HZ := Lib.hid (zrow W1.heap.size (Row.below' (show Row (W1.drew.alloc (.cells #[.slice none 0 0, .string ⟨#[]⟩] 31 (0, 0))) W1.heap.size 31 [.slice none 0 0, .string ⟨#[]⟩] from rnw) hb5) (by first | exact HZ.out.2 | exact HA.out.size | (have := HA.out.size; omega) | exact Nat.le_refl _ | omega))) | (have HZ := Lib.hid (zrow W1.heap.size ((rnw (t := 31) (xs := [.slice none 0 0, .string ⟨#[]⟩])).below' hb5) (by first | exact HZ.out.2 | exact HA.out.size | (have := HA.out.size; omega) | exact Nat.le_refl _ | omega))) | (have HZ := Lib.hid (zrow W1.heap.size (((rnw (t := 31) (xs := [.slice none 0 0, .string ⟨#[]⟩])).alloc _).below' hb5) (by first | exact HZ.out.2 | exact HA.out.size | (have := HA.out.size; omega) | exact Nat.le_refl _ | omega))) | skip); (first | (have HY := Lib.hid (zrow W1.heap.size (Row.below' HY.out.1 hb5) (by first | exact HY.out.2 | exact HA.out.size | (have := HA.out.size; omega) | exact Nat.le_refl _ | omega))) | (have HY := Lib.hid (zrow W1.heap.size (Row.below' (HY.out.1.alloc _) hb5) (by first | exact HY.out.2 | exact HA.out.size | (have := HA.out.size; omega) | exact Nat.le_refl _ | omega))) | (have HY := Lib.hid (zrow W1.heap.size (Row.below' (rnew0 (t := 29) (xs := Strs [t1, t2, [48], [45, 49]]) (World.size_alloc _ _).symm) hb5) (by first | exact HY.out.2 | exact HA.out.size | (have := HA.out.size; omega) | exact Nat.le_refl _ | omega))) | (have HY := Lib.hid (zrow W1.heap.size ((rnw (t := 29) (xs := Strs [t1, t2, [48], [45, 49]])).below' hb5) (by first | exact HY.out.2 | exact HA.out.size | (have := HA.out.size; omega) | exact Nat.le_refl _ | omega))) | (have HY := Lib.hid (zrow W1.heap.size (((rnw (t := 29) (xs := Strs [t1, t2, [48], [45, 49]])).alloc _).below' hb5) (by first | exact HY.out.2 | exact HA.out.size | (have := HA.out.size; omega) | exact Nat.le_refl _ | omega))) | skip); have HA := Lib.hid hz; clear hz hb5)
            | (refine (HN2.out _ (bel_to HB1.out (by first | exact HA.out | exact bel_alloc HA.out _ | exact bel_alloc (bel_alloc HA.out _) _ | exact RowKit.Below.drew (Below.refl _ _) | exact bel_alloc (RowKit.Below.drew (Below.refl _ _)) _))).mono ?_; rintro e w5 ⟨rfl, hb5⟩; have hz : Below W1.heap.size W1 w5 := bel_to (by first | exact HA.out | exact bel_alloc HA.out _ | exact bel_alloc (bel_alloc HA.out _) _ | exact RowKit.Below.drew (Below.refl _ _) | exact bel_alloc (RowKit.Below.drew (Below.refl _ _)) _) hb5; (first | (have HZ := Lib.hid (zrow W1.heap.size (Row.below' HZ.out.1 hb5) (by first | exact HZ.out.2 | exact HA.out.size | (have := HA.out.size; omega) | exact Nat.le_refl _ | omega))) | (have HZ := Lib.hid (zrow W1.heap.size (Row.below' (HZ.out.1.alloc _) hb5) (by first | exact HZ.out.2 | exact HA.out.size | (have := HA.out.size; omega) | exact Nat.le_refl _ | omega))) | (have HZ := Lib.hid (zrow W1.heap.size (Row.below' (rnew0 (t := 31) (xs := [.slice none 0 0, .string ⟨#[]⟩]) (World.size_alloc _ _).symm) hb5) (by first | exact HZ.out.2 | exact HA.out.size | (have := HA.out.size; omega) | exact Nat.le_refl _ | omega))) | (have HZ := Lib.hid (zrow W1.heap.size (Row.below' (show Row (W1.drew.alloc (.cells #[.slice none 0 0, .string ⟨#[]⟩] 31 (0, 0))) W1.heap.size 31 [.slice none 0 0, .string ⟨#[]⟩] from rnw) hb5) (by first | exact HZ.out.2 | exact HA.out.size | (have := HA.out.size; omega) | exact Nat.le_refl _ | omega))) | (have HZ := Lib.hid (zrow W1.heap.size ((rnw (t := 31) (xs := [.slice none 0 0, .string ⟨#[]⟩])).below' hb5) (by first | exact HZ.out.2 | exact HA.out.size | (have := HA.out.size; omega) | exact Nat.le_refl _ | omega))) | (have HZ := Lib.hid (zrow W1.heap.size (((rnw (t := 31) (xs := [.slice none 0 0, .string ⟨#[]⟩])).alloc _).below' hb5) (by first | exact HZ.out.2 | exact HA.out.size | (have := HA.out.size; omega) | exact Nat.le_refl _ | omega))) | skip); (first | (have HY := Lib.hid (zrow W1.heap.size (Row.below' HY.out.1 hb5) (by first | exact HY.out.2 | exact HA.out.size | (have := HA.out.size; omega) | exact Nat.le_refl _ | omega))) | (have HY := Lib.hid (zrow W1.heap.size (Row.below' (HY.out.1.alloc _) hb5) (by first | exact HY.out.2 | exact HA.out.size | (have := HA.out.size; omega) | exact Nat.le_refl _ | omega))) | (have HY := Lib.hid (zrow W1.heap.size (Row.below' (rnew0 (t := 29) (xs := Strs [t1, t2, [48], [45, 49]]) (World.size_alloc _ _).symm) hb5) (by first | exact HY.out.2 | exact HA.out.size | (have := HA.out.size; omega) | exact Nat.le_refl _ | omega))) | (have HY := Lib.hid (zrow W1.heap.size ((rnw (t := 29) (xs := Strs [t1, t2, [48], [45, 49]])).below' hb5) (by first | exact HY.out.2 | exact HA.out.size | (have := HA.out.size; omega) | exact Nat.le_refl _ | omega))) | (have HY := Lib.hid (zrow W1.heap.size (((rnw (t := 29) (xs := Strs [t1, t2, [48], [45, 49]])).alloc _).below' hb5) (by first | exact HY.out.2 | exact HA.out.size | (have := HA.out.size; omega) | exact Nat.le_refl _ | omega))) | skip); have HA := Lib.hid hz; clear hz hb5)
            | (refine (HN3.out _ (bel_to HB1.out (by first | exact HA.out | exact bel_alloc HA.out _ | exact bel_alloc (bel_alloc HA.out _) _ | exact RowKit.Below.drew (Below.refl _ _) | exact bel_alloc (RowKit.Below.drew (Below.refl _ _)) _))).mono ?_; rintro e w5 ⟨rfl, hb5⟩; have hz : Below W1.heap.size W1 w5 := bel_to (by first | exact HA.out | exact bel_alloc HA.out _ | exact bel_alloc (bel_alloc HA.out _) _ | exact RowKit.Below.drew (Below.refl _ _) | exact bel_alloc (RowKit.Below.drew (Below.refl _ _)) _) hb5; (first | (have HZ := Lib.hid (zrow W1.heap.size (Row.below' HZ.out.1 hb5) (by first | exact HZ.out.2 | exact HA.out.size | (have := HA.out.size; omega) | exact Nat.le_refl _ | omega))) | (have HZ := Lib.hid (zrow W1.heap.size (Row.below' (HZ.out.1.alloc _) hb5) (by first | exact HZ.out.2 | exact HA.out.size | (have := HA.out.size; omega) | exact Nat.le_refl _ | omega))) | (have HZ := Lib.hid (zrow W1.heap.size (Row.below' (rnew0 (t := 31) (xs := [.slice none 0 0, .string ⟨#[]⟩]) (World.size_alloc _ _).symm) hb5) (by first | exact HZ.out.2 | exact HA.out.size | (have := HA.out.size; omega) | exact Nat.le_refl _ | omega))) | (have HZ := Lib.hid (zrow W1.heap.size (Row.below' (show Row (W1.drew.alloc (.cells #[.slice none 0 0, .string ⟨#[]⟩] 31 (0, 0))) W1.heap.size 31 [.slice none 0 0, .string ⟨#[]⟩] from rnw) hb5) (by first | exact HZ.out.2 | exact HA.out.size | (have := HA.out.size; omega) | exact Nat.le_refl _ | omega))) | (have HZ := Lib.hid (zrow W1.heap.size ((rnw (t := 31) (xs := [.slice none 0 0, .string ⟨#[]⟩])).below' hb5) (by first | exact HZ.out.2 | exact HA.out.size | (have := HA.out.size; omega) | exact Nat.le_refl _ | omega))) | (have HZ := Lib.hid (zrow W1.heap.size (((rnw (t := 31) (xs := [.slice none 0 0, .string ⟨#[]⟩])).alloc _).below' hb5) (by first | exact HZ.out.2 | exact HA.out.size | (have := HA.out.size; omega) | exact Nat.le_refl _ | omega))) | skip); (first | (have HY := Lib.hid (zrow W1.heap.size (Row.below' HY.out.1 hb5) (by first | exact HY.out.2 | exact HA.out.size | (have := HA.out.size; omega) | exact Nat.le_refl _ | omega))) | (have HY := Lib.hid (zrow W1.heap.size (Row.below' (HY.out.1.alloc _) hb5) (by first | exact HY.out.2 | exact HA.out.size | (have := HA.out.size; omega) | exact Nat.le_refl _ | omega))) | (have HY := Lib.hid (zrow W1.heap.size (Row.below' (rnew0 (t := 29) (xs := Strs [t1, t2, [48], [45, 49]]) (World.size_alloc _ _).symm) hb5) (by first | exact HY.out.2 | exact HA.out.size | (have := HA.out.size; omega) | exact Nat.le_refl _ | omega))) | (have HY := Lib.hid (zrow W1.heap.size ((rnw (t := 29) (xs := Strs [t1, t2, [48], [45, 49]])).below' hb5) (by first | exact HY.out.2 | exact HA.out.size | (have := HA.out.size; omega) | exact Nat.le_refl _ | omega))) | (have HY := Lib.hid (zrow W1.heap.size (((rnw (t := 29) (xs := Strs [t1, t2, [48], [45, 49]])).alloc _).below' hb5) (by first | exact HY.out.2 | exact HA.out.size | (have := HA.out.size; omega) | exact Nat.le_refl _ | omega))) | skip); have HA := Lib.hid hz; clear hz hb5; (first | (have zc0 := HZ.out.1.cell (i := 0) rfl; have zc1 := HZ.out.1.cell (i := 1) rfl; have zf0 := HZ.out.1.free 0; have zf1 := HZ.out.1.free 1; have zd0 := fun o : Obj => (HZ.out.1.alloc o).cell (i := 0) rfl; have zd1 := fun o : Obj => (HZ.out.1.alloc o).cell (i := 1) rfl; have zg0 := fun o : Obj => (HZ.out.1.alloc o).free 0; have zg1 := fun o : Obj => (HZ.out.1.alloc o).free 1) | skip); have ze0 := fun o : Obj => ((rnw (w := w5) (t := 31) (xs := [.slice none 0 0, .string ⟨#[]⟩])).alloc o).cell (i := 0) rfl; have ze1 := fun o : Obj => ((rnw (w := w5) (t := 31) (xs := [.slice none 0 0, .string ⟨#[]⟩])).alloc o).cell (i := 1) rfl; have zh0 := fun o : Obj => ((rnw (w := w5) (t := 31) (xs := [.slice none 0 0, .string ⟨#[]⟩])).alloc o).free 0; have zh1 := fun o : Obj => ((rnw (w := w5) (t := 31) (xs := [.slice none 0 0, .string ⟨#[]⟩])).alloc o).free 1)))
      all_goals refine HFI.out _ _ _ ?_
      all_goals first
        | exact ⟨bel_alloc HA.out _, HA.out.size, HY.out.2, rnw, HY.out.1.alloc _⟩
        | exact PK.set HA.out HZ.out.2 HY.out.2 HZ.out.1 HY.out.1
        | exact PK.set (bel_alloc HA.out _) HZ.out.2 HA.out.size (HZ.out.1.alloc _) rnw
        | exact ⟨bel_alloc (bel_alloc HA.out _) _, Nat.le_succ_of_le HA.out.size, HA.out.size, rnew0 (World.size_alloc _ _).symm, rnw.alloc _⟩
        | exact ⟨bel_alloc (bel_alloc HA.out _) _, HA.out.size, Nat.le_succ_of_le HA.out.size, rnw.alloc _, rnew0 (World.size_alloc _ _).symm⟩
    · obtain rfl : j = l.length := by omega
      have hx := hin.out.2
      rw [← ringB_len, List.take_length] at hx
      have HX := Lib.hid hx
      clear hx
      gi_wp2
      go_end0
      exact ⟨⟨_, rfl⟩, es, HX.out, hin.out.1⟩
end W
end Go.Proofs.YtijpgddpejiohaaGreatDoor
end
section
namespace Go.Proofs.YtijpgddpejiohaaGreatDoor
open Go Go.RowKit Go.Deep Go.Sort
namespace W
open M
attribute [local go_sem] bs_size bs_toList bs_get bs_extract bs_append bs_lit0 bs_lit1 lit1_bs
set_option maxHeartbeats 4000000
set_option maxRecDepth 20000
theorem ent_iter : Enters Tryz.prog 205 := enters_of Tryz.func205 (by kernel_rfl) rfl
theorem pboundsR (vl : Value) (l : List PZ) (w : World) (hl : RdV w vl l) :
    Calls Tryz.prog 160 #[vl] w (fun e w' => e = .returned (.func (.func 205) #[] #[.pointer (some ⟨w.heap.size, 0, none⟩)]) ∧ w' = w.alloc (.cells #[vl] 39 (0, 0))) := by
  have hmf : ∀ (fn : Fn) (first cap : Array Value) (w : World), (Instr.makeFunc fn first cap).run Tryz.prog w = .ok (.func fn first cap) w := fun _ _ _ _ => rfl
  obtain ⟨A, ca, rfl⟩ := hl.len
  clear hl
  go_enter Tryz.func160, Tryz.ntmps160
  go_wp2
  go_ret
  exact ⟨rfl, rfl⟩
end W
end Go.Proofs.YtijpgddpejiohaaGreatDoor
end
section
namespace Go.Proofs.YtijpgddpejiohaaGreatDoor
open Go
namespace Sx
open M
end Sx
end Go.Proofs.YtijpgddpejiohaaGreatDoor
end
