/-
  A drawn region whose operations only read, make memory, and call what makes memory: each slot's value by a predicate that growth keeps.
-/
import Derived.Test.YtnaikafamjebdaaGreatDoorKJT
section
namespace Go.Proofs.YtnaikafamjebdaaGreatDoor
open Go Go.RowKit Go.Deep
def dstOf (ops : Array Oper) (j : Nat) : Option Nat := (ops[j]?).bind (·.dst)
def growB (md : Region.Mode) (ops : Array Oper) (N : Nat) : Bool :=
  (List.range ops.size).all fun i => match ops[i]? with
    | none => true
    | some o => o.guard.isNone && (match o.dst with
        | some d => decide (d < N) && (List.range ops.size).all fun j => j == i || dstOf ops j != some d
        | none => true) &&
      (o.op.operands.all fun x => match x with
        | .tmp t => decide (t < N) && (List.range ops.size).all fun j => dstOf ops j != some t || o.after.any fun e => e.on == j && Region.binds md e
        | _ => true) && o.after.all fun e => !(Region.binds md e) || decide (e.on < i)
section
variable {P : Program} {ops : Array Oper} {Q : Exit → Act → World → Prop} {md : Region.Mode} {N : Nat}
theorem growB_at (h : growB md ops N = true) {i : Nat} {o : Oper} (ho : ops[i]? = some o) :
    o.guard = none ∧ (∀ d, o.dst = some d → d < N ∧ ∀ j, j ≠ i → dstOf ops j ≠ some d) ∧
    (∀ t, Operand.tmp t ∈ o.op.operands → t < N ∧ ∀ j, dstOf ops j = some t → ∃ e ∈ o.after, e.on = j ∧ Region.binds md e = true) ∧ ∀ e ∈ o.after, Region.binds md e = true → e.on < i := by
  have hi : i < ops.size := (Array.getElem?_eq_some_iff.1 ho).1
  have hrng : ∀ j d, dstOf ops j = some d → j < ops.size := fun j d e => by
    rcases Nat.lt_or_ge j ops.size with h | h
    · exact h
    · unfold dstOf at e; rw [Array.getElem?_eq_none h] at e; cases e
  unfold growB at h
  rw [List.all_eq_true] at h
  have h1 := h i (List.mem_range.2 hi)
  rw [ho] at h1
  simp only [Bool.and_eq_true] at h1
  obtain ⟨⟨⟨h2, h3⟩, h4⟩, h5⟩ := h1
  refine ⟨by simpa using h2, fun d hd => ?_, fun t ht => ?_, fun e he hb => ?_⟩
  · rw [hd] at h3
    simp only [Bool.and_eq_true, decide_eq_true_eq, List.all_eq_true, Bool.or_eq_true, beq_iff_eq, bne_iff_ne, List.mem_range] at h3
    refine ⟨h3.1, fun j hj e => ?_⟩
    rcases h3.2 j (hrng j d e) with h6 | h6
    · exact hj h6
    · exact h6 e
  · rw [Array.all_eq_true_iff_forall_mem] at h4
    have h6 := h4 _ ht
    simp only [Bool.and_eq_true, decide_eq_true_eq, List.all_eq_true, Bool.or_eq_true, bne_iff_ne, List.mem_range] at h6
    refine ⟨h6.1, fun j e => ?_⟩
    rcases h6.2 j (hrng j t e) with h7 | h7
    · exact absurd e h7
    · rw [Array.any_eq_true] at h7
      obtain ⟨k, hk, h8⟩ := h7
      simp only [Bool.and_eq_true, beq_iff_eq] at h8
      exact ⟨_, Array.getElem_mem hk, h8.1, h8.2⟩
  · rw [Array.all_eq_true_iff_forall_mem] at h5
    have h6 := h5 e he
    rw [hb] at h6
    simpa using h6
structure GrowI (ops : Array Oper) (N : Nat) (ψ : Nat → World → Value → Prop) (W0 : World) (D : List Deferred) (listed : Array Bool) (a : Act) (w : World) : Prop where
  bel : Below W0.heap.size W0 w
  def_ : a.defers = D
  size : a.tmps.size = N
  inp : ∀ t, t < N → (∀ j, dstOf ops j ≠ some t) → ψ t w (a.tmps.getD t undef)
  out : ∀ j t, dstOf ops j = some t → listed.getD j false = true → ψ t w (a.tmps.getD t undef)
theorem put_tmps {a : Act} {d : Nat} {v : Value} : (a.put (some d) v).tmps = a.tmps.setIfInBounds d v := rfl
theorem getD_put_same {a : Act} {d : Nat} {v : Value} (h : d < a.tmps.size) : (a.put (some d) v).tmps.getD d undef = v := by
  rw [put_tmps]; simp [Array.getD_eq_getD_getElem?, h]
theorem getD_put_ne {a : Act} {dst : Option Nat} {t : Nat} {v : Value} (h : dst ≠ some t) : (a.put dst v).tmps.getD t undef = a.tmps.getD t undef := by
  cases dst with
  | none => rfl
  | some d =>
    have hd : d ≠ t := fun e => h (by rw [e])
    rw [put_tmps]; simp [Array.getD_eq_getD_getElem?, hd]
theorem put_size {a : Act} {dst : Option Nat} {v : Value} : (a.put dst v).tmps.size = a.tmps.size := by
  cases dst with
  | none => rfl
  | some d => rw [put_tmps, Array.size_setIfInBounds]
theorem put_defers {a : Act} {dst : Option Nat} {v : Value} : (a.put dst v).defers = a.defers := by cases dst <;> rfl
theorem all_listed {listed : Array Bool} (hB : growB md ops N = true) (hs : listed.size = ops.size) (hr : Region.ready md ops listed = []) : ∀ j, j < ops.size → listed.getD j false = true := by
  intro j
  induction j using Nat.strongRecOn with
  | _ j ih =>
    intro hj
    cases hl : listed.getD j false with
    | true => rfl
    | false =>
      exfalso
      obtain ⟨o, ho⟩ : ∃ o, ops[j]? = some o := ⟨ops[j], by simp [hj]⟩
      have hlt : j < listed.size := by omega
      have hm : j ∈ Region.ready md ops listed := mem_ready.2 ⟨by
        simp only [Array.getD_eq_getD_getElem?, Array.getElem?_eq_getElem hlt, Option.getD_some] at hl ⊢; exact hl, o, ho, fun e he hb => by
        have h1 := (growB_at hB ho).2.2.2 e he hb
        exact ih e.on h1 (by omega)⟩
      rw [hr] at hm
      cases hm
theorem wpAny_grow {ψ : Nat → World → Value → Prop} {W0 : World} {D : List Deferred} (hB : growB md ops N = true) (hst : ∀ t w w' v, Below w.heap.size w w' → ψ t w v → ψ t w' v)
    (hstep : ∀ (i : Nat) (o : Oper), ops[i]? = some o → ∀ (a : Act) (w : World), Below W0.heap.size W0 w → a.tmps.size = N → (∀ t, Operand.tmp t ∈ o.op.operands → ψ t w (a.tmps.getD t undef)) → Oper.wp P o a w (fun a' w' => ∃ v, a' = a.put o.dst v ∧ Below w.heap.size w w' ∧ ∀ d, o.dst = some d → ψ d w' v) Q)
    (hend : ∀ (a : Act) (w : World), Below W0.heap.size W0 w → a.defers = D → a.tmps.size = N → (∀ t, t < N → ψ t w (a.tmps.getD t undef)) → Q .normal a w) :
    ∀ (fuel : Nat) (listed : Array Bool) (a : Act) (w : World), listed.size = ops.size → listed.toList.count false ≤ fuel → GrowI ops N ψ W0 D listed a w → wpAny P md ops Q fuel listed a w := by
  have hfin : ∀ (listed : Array Bool) (a : Act) (w : World), (∀ j, j < ops.size → listed.getD j false = true) → GrowI ops N ψ W0 D listed a w → Q .normal a w := fun listed a w hall hI => by
    refine hend a w hI.bel hI.def_ hI.size fun t ht => ?_
    by_cases h : ∃ j, dstOf ops j = some t
    · obtain ⟨j, hj⟩ := h
      refine hI.out j t hj (hall j ?_)
      rcases Nat.lt_or_ge j ops.size with h | h
      · exact h
      · unfold dstOf at hj; rw [Array.getElem?_eq_none h] at hj; cases hj
    · exact hI.inp t ht fun j e => h ⟨j, e⟩
  intro fuel
  induction fuel with
  | zero =>
    intro listed a w hs hc hI
    have hall : ∀ j, j < ops.size → listed.getD j false = true := fun j hj => by
      cases hl : listed.getD j false with
      | true => rfl
      | false =>
        exfalso
        have hlt : j < listed.size := by omega
        have hm : false ∈ listed.toList := by
          simp only [Array.getD_eq_getD_getElem?, Array.getElem?_eq_getElem hlt, Option.getD_some] at hl
          rw [← hl]; exact Array.getElem_mem_toList hlt
        have := List.count_pos_iff.2 hm
        omega
    refine ⟨?_, hfin listed a w hall hI⟩
    refine Classical.byContradiction fun h => ?_
    obtain ⟨j, hj⟩ := List.exists_mem_of_ne_nil _ h
    obtain ⟨h0, o, ho, _⟩ := mem_ready.1 hj
    have hjs := (Array.getElem?_eq_some_iff.1 ho).1
    have h1 := hall j hjs
    have hlt : j < listed.size := by omega
    simp only [Array.getD_eq_getD_getElem?, Array.getElem?_eq_getElem hlt, Option.getD_some] at h0 h1
    rw [h0] at h1; cases h1
  | succ fuel ih =>
    intro listed a w hs hc hI
    refine ⟨fun hr => hfin listed a w (all_listed hB hs hr) hI, fun i hi => ?_⟩
    obtain ⟨h0, o, ho, hall⟩ := mem_ready.1 hi
    obtain ⟨g1, g2, g3, g4⟩ := growB_at hB ho
    have his := (Array.getElem?_eq_some_iff.1 ho).1
    have hlt : i < listed.size := by omega
    have hli : listed.toList[i]'(by simpa using hlt) = false := by
      simp only [Array.getD_eq_getD_getElem?, Array.getElem?_eq_getElem hlt, Option.getD_some] at h0
      simpa using h0
    unfold wpOp
    rw [ho]
    have hw : Region.wanted o (yielded ops a.tmps) = true := by simp [Region.wanted, g1]
    simp only [hw, if_true]
    refine Or.inl (Oper.wp_mono (fun a' w' h => ?_) (hstep i o ho a w hI.bel hI.size fun t ht => ?_))
    · obtain ⟨v, rfl, hb, hv⟩ := h
      refine ih _ _ _ (by rw [Array.size_setIfInBounds]; exact hs) ?_ ⟨bel_to hI.bel hb, by rw [put_defers]; exact hI.def_, by rw [put_size]; exact hI.size, fun t ht hno => ?_, fun j t hj hl => ?_⟩
      · rw [Array.toList_setIfInBounds, List.count_set (by simpa using hlt), hli]
        have : 0 < listed.toList.count false := List.count_pos_iff.2 (by rw [← hli]; exact List.getElem_mem _)
        simp only [beq_self_eq_true, if_true, Bool.true_eq_false, beq_iff_eq, if_false]
        omega
      · have hd : o.dst ≠ some t := fun e => hno i (by unfold dstOf; rw [ho]; exact e)
        rw [getD_put_ne hd]
        exact hst t w w' _ hb (hI.inp t ht hno)
      · by_cases e : j = i
        · subst e
          have hd : o.dst = some t := by unfold dstOf at hj; rw [ho] at hj; exact hj
          rw [hd, getD_put_same (by rw [hI.size]; exact (g2 t hd).1)]
          exact hv t hd
        · have hd : o.dst ≠ some t := fun e2 => (g2 t e2).2 j e hj
          rw [getD_put_ne hd]
          refine hst t w w' _ hb (hI.out j t hj ?_)
          simpa [Array.getD_eq_getD_getElem?, Array.getElem?_setIfInBounds, Ne.symm e] using hl
    · obtain ⟨g5, g6⟩ := g3 t ht
      by_cases h : ∃ j, dstOf ops j = some t
      · obtain ⟨j, hj⟩ := h
        obtain ⟨e, he, e1, e2⟩ := g6 j hj
        have := hall e he e2
        rw [e1] at this
        exact hI.out j t hj this
      · exact hI.inp t g5 fun j e => h ⟨j, e⟩
theorem dst_none {l : List Oper} {t : Nat} (h : ∀ j, dstOf l.toArray j ≠ some t) : (l.any fun o => o.dst == some t) = false := by
  rw [List.any_eq_false]
  intro o ho e
  obtain ⟨j, hj, rfl⟩ := List.mem_iff_getElem.1 ho
  refine h j ?_
  unfold dstOf
  simp only [List.getElem?_toArray, List.getElem?_eq_getElem hj, Option.bind_some]
  exact eq_of_beq e
theorem region_grow {id : Nat} {a : Act} {w : World} {l : List Oper} {ψ : Nat → World → Value → Prop} (N : Nat) (hm : P.follows .mixedOrders = true) (hB : growB .any l.toArray N = true) (hst : ∀ t w w' v, Below w.heap.size w w' → ψ t w v → ψ t w' v)
    (hN : a.tmps.size = N) (h0 : ∀ t, t < N → (l.any fun o => o.dst == some t) = false → ψ t w (a.tmps.getD t undef))
    (hstep : ∀ o ∈ l, ∀ (a : Act) (w' : World), Below w.heap.size w w' → a.tmps.size = N → (∀ t, Operand.tmp t ∈ o.op.operands → ψ t w' (a.tmps.getD t undef)) → Oper.wp P o a w' (fun a' w2 => ∃ v, a' = a.put o.dst v ∧ Below w'.heap.size w' w2 ∧ ∀ d, o.dst = some d → ψ d w2 v) Q)
    (hend : ∀ (a' : Act) (w' : World), Below w.heap.size w w' → a'.defers = a.defers → a'.tmps.size = N → (∀ t, t < N → ψ t w' (a'.tmps.getD t undef)) → Q .normal a' w') :
    (Code.region id l.toArray true).wp P Q a w := by
  have hdr : Below w.heap.size w { w with drawn := w.drawn + 1 } := RowKit.Below.drew (Below.refl _ _)
  refine wp_region_any hm (wpAny_grow (W0 := w) (D := a.defers) hB hst (fun i o ho => hstep o (List.mem_of_getElem? (by simpa using ho))) hend _ _ _ _ (by simp) ?_ ⟨hdr, rfl, hN, fun t ht hno => hst t _ _ _ hdr (h0 t ht (dst_none hno)), fun j t _ hl => ?_⟩)
  · simp
  · exfalso
    rw [Array.getD_eq_getD_getElem?, Array.getElem?_replicate] at hl
    split at hl <;> simp at hl
end
def psi (cs : List (Nat × Value)) (rs : List (Nat × (World → Value → Prop))) (t : Nat) (w : World) (v : Value) : Prop := match cs.lookup t with
  | some c => v = c
  | none => match rs.lookup t with
    | some p => p w v
    | none => True
theorem lookup_mem {β : Type _} {t : Nat} : ∀ {l : List (Nat × β)} {b : β}, l.lookup t = some b → (t, b) ∈ l
  | [], _, h => by cases h
  | (k, c) :: l, b, h => by
    rw [List.lookup_cons] at h
    split at h
    · rename_i e
      injection h with h
      rw [h, eq_of_beq e]; exact List.mem_cons_self
    · exact List.mem_cons_of_mem _ (lookup_mem h)
theorem step_grow {P : Program} {o : Oper} {a : Act} {w w1 : World} {cs : List (Nat × Value)} {rs : List (Nat × (World → Value → Prop))} {Q : Exit → Act → World → Prop} {d : Nat} {v : Value} (hd : o.dst = some d)
    (hrun : (execOp a.eval o).run P w = .ok (.value v) w1) (hb : Below w.heap.size w w1) (hv : psi cs rs d w1 v) :
    Oper.wp P o a w (fun a' w' => ∃ v, a' = a.put o.dst v ∧ Below w.heap.size w w' ∧ ∀ d, o.dst = some d → psi cs rs d w' v) Q := by
  unfold Oper.wp
  rw [hrun]
  exact ⟨v, rfl, hb, fun d2 h2 => by rw [hd] at h2; injection h2 with h2; rw [← h2]; exact hv⟩
theorem step_val {P : Program} {o : Oper} {a : Act} {w : World} {cs : List (Nat × Value)} {rs : List (Nat × (World → Value → Prop))} {Q : Exit → Act → World → Prop} {d : Nat} {v : Value} (hd : o.dst = some d)
    (hrun : (execOp a.eval o).run P w = .ok (.value v) w) (hv : psi cs rs d w v) :
    Oper.wp P o a w (fun a' w' => ∃ v, a' = a.put o.dst v ∧ Below w.heap.size w w' ∧ ∀ d, o.dst = some d → psi cs rs d w' v) Q := step_grow hd hrun (Below.refl _ _) hv
theorem step_call {P : Program} {o : Oper} {a : Act} {w : World} {cs : List (Nat × Value)} {rs : List (Nat × (World → Value → Prop))} {Q : Exit → Act → World → Prop} {d f : Nat} {args : Array Value} (hd : o.dst = some d)
    (hrun : (execOp a.eval o).run P w = .ok (.enter f args) w) (hc : Calls P f args w fun e w' => ∃ v, e = .returned v ∧ Below w.heap.size w w' ∧ psi cs rs d w' v) :
    Oper.wp P o a w (fun a' w' => ∃ v, a' = a.put o.dst v ∧ Below w.heap.size w w' ∧ ∀ d, o.dst = some d → psi cs rs d w' v) Q := by
  unfold Oper.wp
  rw [hrun]
  refine hc.mono ?_
  rintro e w' ⟨v, rfl, hb, hv⟩
  exact ⟨v, rfl, hb, fun d2 h2 => by rw [hd] at h2; injection h2 with h2; rw [← h2]; exact hv⟩
theorem rdI_new (w : World) (l : List Int) : RdI (w.alloc (.cells (IntC l).toArray 3 (0, 0))) (.slice (some ⟨w.heap.size, 0, none⟩) l.length l.length) l := by
  have hr := rnw (w := w) (t := 3) (xs := IntC l)
  exact ⟨_, _, rfl, Or.inr ⟨_, _, rfl, hr.lt, fun i hi => by rw [Nat.zero_add]; exact hr.cell (by simp [IntC, hi])⟩⟩
theorem psi_st {cs : List (Nat × Value)} {rs : List (Nat × (World → Value → Prop))} (h : ∀ p ∈ rs, ∀ w w' v, Below w.heap.size w w' → p.2 w v → p.2 w' v) : ∀ t w w' v, Below w.heap.size w w' → psi cs rs t w v → psi cs rs t w' v := by
  intro t w w' v hb hp
  unfold psi at *
  split
  · rename_i c hc
    rw [hc] at hp; exact hp
  · rename_i hc
    rw [hc] at hp
    simp only at hp
    split
    · rename_i p hq
      rw [hq] at hp
      exact h _ (lookup_mem hq) w w' v hb hp
    · trivial
end Go.Proofs.YtnaikafamjebdaaGreatDoor
end
