/-
  A drawn region whose operations only read, make memory, and call what makes memory, but for a tail in one forced order (a store into what was made).
-/
import Derived.Test.YtellemlhhlafcaaGreatDoorMU
import Derived.Test.YtellemlhhlafcaaGreatDoorMI
section
namespace Go.Proofs.YtellemlhhlafcaaGreatDoor
open Go Go.Sort Go.RowKit Go.Deep
def growTB (md : Region.Mode) (ops : Array Oper) (N n : Nat) : Bool :=
  (List.range n).all fun i => match ops[i]? with
    | none => true
    | some o => o.guard.isNone && (match o.dst with
        | some d => decide (d < N) && (List.range ops.size).all fun j => j == i || dstOf ops j != some d
        | none => true) &&
      (o.op.operands.all fun x => match x with
        | .tmp t => decide (t < N) && (List.range ops.size).all fun j => dstOf ops j != some t || o.after.any fun e => e.on == j && Region.binds md e
        | _ => true) && o.after.all fun e => !(Region.binds md e) || decide (e.on < i)
section
variable {P : Program} {ops : Array Oper} {Q : Exit → Act → World → Prop} {md : Region.Mode} {N n : Nat}
theorem growTB_at (h : growTB md ops N n = true) {i : Nat} {o : Oper} (hin : i < n) (ho : ops[i]? = some o) :
    o.guard = none ∧ (∀ d, o.dst = some d → d < N ∧ ∀ j, j ≠ i → dstOf ops j ≠ some d) ∧
    (∀ t, Operand.tmp t ∈ o.op.operands → t < N ∧ ∀ j, dstOf ops j = some t → ∃ e ∈ o.after, e.on = j ∧ Region.binds md e = true) ∧ ∀ e ∈ o.after, Region.binds md e = true → e.on < i := by
  have hrng : ∀ j d, dstOf ops j = some d → j < ops.size := fun j d e => by
    rcases Nat.lt_or_ge j ops.size with h | h
    · exact h
    · unfold dstOf at e; rw [Array.getElem?_eq_none h] at e; cases e
  unfold growTB at h
  rw [List.all_eq_true] at h
  have h1 := h i (List.mem_range.2 hin)
  rw [ho] at h1
  simp only [Bool.and_eq_true] at h1
  obtain ⟨⟨⟨h2, h3⟩, h4⟩, h5⟩ := h1
  refine ⟨by simpa using h2, fun d hd => ?_, fun t ht => ?_, fun e he hb => ?_⟩
  · rw [hd] at h3
    simp only [Bool.and_eq_true, decide_eq_true_eq, List.all_eq_true, Bool.or_eq_true, beq_iff_eq, bne_iff_ne, List.mem_range] at h3
    refine ⟨h3.1, fun j hj e => ?_⟩
    rcases h3.2 j (hrng j d e) with h6 | h6
    · exact hj h6
    · exact h6 e
  · rw [Array.all_eq_true_iff_forall_mem] at h4
    have h6 := h4 _ ht
    simp only [Bool.and_eq_true, decide_eq_true_eq, List.all_eq_true, Bool.or_eq_true, bne_iff_ne, List.mem_range] at h6
    refine ⟨h6.1, fun j e => ?_⟩
    rcases h6.2 j (hrng j t e) with h7 | h7
    · exact absurd e h7
    · rw [Array.any_eq_true] at h7
      obtain ⟨k, hk, h8⟩ := h7
      simp only [Bool.and_eq_true, beq_iff_eq] at h8
      exact ⟨_, Array.getElem_mem hk, h8.1, h8.2⟩
  · rw [Array.all_eq_true_iff_forall_mem] at h5
    have h6 := h5 e he
    rw [hb] at h6
    simpa using h6
structure GrowT (ops : Array Oper) (N n : Nat) (ψ : Nat → World → Value → Prop) (W0 : World) (D : List Deferred) (listed : Array Bool) (a : Act) (w : World) : Prop where
  bel : Below W0.heap.size W0 w
  def_ : a.defers = D
  size : a.tmps.size = N
  inp : ∀ t, t < N → (∀ j, j < n → dstOf ops j ≠ some t) → ψ t w (a.tmps.getD t undef)
  out : ∀ j t, j < n → dstOf ops j = some t → listed.getD j false = true → ψ t w (a.tmps.getD t undef)
theorem heads_ready {listed : Array Bool} (hB : growTB md ops N n = true) (hn : n < ops.size) (hs : listed.size = ops.size) : ∀ (j : Nat), j < n → listed.getD j false = false → ∃ i, i < n ∧ i ∈ Region.ready md ops listed := by
  intro j
  induction j using Nat.strongRecOn with
  | _ j ih =>
    intro hj hl
    by_cases hall : ∀ k, k < j → listed.getD k false = true
    · obtain ⟨o, ho⟩ : ∃ o, ops[j]? = some o := ⟨ops[j]'(by omega), by rw [Array.getElem?_eq_getElem]⟩
      refine ⟨j, hj, mem_ready.2 ⟨getD_in (by omega) hl, o, ho, fun e he hb => hall _ ((growTB_at hB hj ho).2.2.2 e he hb)⟩⟩
    · obtain ⟨k, hk⟩ := Classical.not_forall.1 hall
      obtain ⟨hkj, hk2⟩ := Classical.not_imp.1 hk
      exact ih k hkj (by omega) (by cases h : listed.getD k false with
        | true => exact absurd h hk2
        | false => rfl)
theorem heads_end {listed : Array Bool} (inv : HeadInv md ops n listed) (hn : n < ops.size) (h : ∀ j, j < n → listed.getD j false = true) : listed = Array.replicate n true ++ Array.replicate (ops.size - n) false := by
  have hs := inv.size
  refine Array.ext (by simp [hs]; omega) fun i h1 h2 => ?_
  rcases Nat.lt_or_ge i n with hi | hi
  · have := h i hi
    rw [Array.getElem_append_left (by simpa using hi)]
    simp only [Array.getD_eq_getD_getElem?, Array.getElem?_eq_getElem h1, Option.getD_some] at this
    simp [this]
  · have := inv.tail i hi (by omega)
    rw [Array.getElem_append_right (by simpa using hi)]
    simp only [Array.getD_eq_getD_getElem?, Array.getElem?_eq_getElem h1, Option.getD_some] at this
    simp [this]
theorem count_heads {listed : Array Bool} {i : Nat} (hi : i < n) (hs : i < listed.size) (h : listed.getD i false = false) : ((listed.setIfInBounds i true).toList.take n).count false + 1 = (listed.toList.take n).count false := by
  have hli : (listed.toList.take n)[i]'(by simp; omega) = false := by
    simp only [Array.getD_eq_getD_getElem?, Array.getElem?_eq_getElem hs, Option.getD_some] at h
    simpa using h
  rw [Array.toList_setIfInBounds, List.take_set, List.count_set (by simp; omega), hli]
  have : 0 < (listed.toList.take n).count false := List.count_pos_iff.2 (by rw [← hli]; exact List.getElem_mem _)
  simp only [beq_self_eq_true, if_true, Bool.true_eq_false, beq_iff_eq, if_false]
  omega
theorem heads_all {listed : Array Bool} (hs : n ≤ listed.size) (h : (listed.toList.take n).count false = 0) : ∀ j, j < n → listed.getD j false = true := by
  intro j hj
  cases hl : listed.getD j false with
  | true => rfl
  | false =>
    exfalso
    have hlt : j < listed.size := by omega
    have hm : false ∈ listed.toList.take n := by
      simp only [Array.getD_eq_getD_getElem?, Array.getElem?_eq_getElem hlt, Option.getD_some] at hl
      have h2 : (listed.toList.take n)[j]'(by simp; omega) = false := by simpa using hl
      rw [← h2]; exact List.getElem_mem _
    have := List.count_pos_iff.2 hm
    omega
theorem head_some {listed : Array Bool} (h : 0 < (listed.toList.take n).count false) : ∃ j, j < n ∧ listed.getD j false = false := by
  obtain ⟨j, hj, e⟩ := List.mem_iff_getElem.1 (List.count_pos_iff.1 h)
  have hj2 : j < n ∧ j < listed.size := by simp at hj; omega
  refine ⟨j, hj2.1, ?_⟩
  simp only [Array.getD_eq_getD_getElem?, Array.getElem?_eq_getElem hj2.2, Option.getD_some]
  simpa using e
theorem wpAny_growT {ψ : Nat → World → Value → Prop} {W0 : World} {D : List Deferred} (l : List Oper) (hl : ops = l.toArray) (hB : growTB md ops N n = true) (hs : Region.sinkB md ops n = true) (hc : Region.chainB md ops n = true) (hn : n < ops.size)
    (hseq : Region.seqB md ops (ops.size - n) n (Array.replicate n true ++ Array.replicate (ops.size - n) false) = true) (hst : ∀ t w w' v, Below w.heap.size w w' → ψ t w v → ψ t w' v)
    (hstep : ∀ (i : Nat) (o : Oper), i < n → ops[i]? = some o → ∀ (a : Act) (w : World), Below W0.heap.size W0 w → a.tmps.size = N → (∀ t, Operand.tmp t ∈ o.op.operands → ψ t w (a.tmps.getD t undef)) → Oper.wp P o a w (fun a' w' => ∃ v, a' = a.put o.dst v ∧ Below w.heap.size w w' ∧ ∀ d, o.dst = some d → ψ d w' v) Q)
    (hend : ∀ (a : Act) (w : World), Below W0.heap.size W0 w → a.defers = D → a.tmps.size = N → (∀ t, t < N → ((∃ j, j < n ∧ dstOf ops j = some t) ∨ ∀ j, j < n → dstOf ops j ≠ some t) → ψ t w (a.tmps.getD t undef)) → wpList P ops Q (l.drop n) a w) :
    ∀ (fuel : Nat) (listed : Array Bool) (a : Act) (w : World), HeadInv md ops n listed → (listed.toList.take n).count false = fuel → GrowT ops N n ψ W0 D listed a w → wpAny P md ops Q (fuel + (ops.size - n)) listed a w := by
  intro fuel
  induction fuel with
  | zero =>
    intro listed a w inv hcount hI
    have hall := heads_all (by have := inv.size; omega) hcount
    rw [Nat.zero_add, heads_end inv hn hall]
    have hd : (l.drop n).length = ops.size - n := by rw [hl]; simp
    have := wpAny_of_seq (P := P) (md := md) (ops := ops) (Q' := Q) (l.drop n) n (Array.replicate n true ++ Array.replicate (ops.size - n) false) a w (fun j => by rw [hl]; simp [List.getElem?_drop]) (by rw [hd]; exact hseq)
      (hend a w hI.bel hI.def_ hI.size fun t ht h => by
        rcases h with ⟨j, hj, e⟩ | h
        · exact hI.out j t hj e (hall j hj)
        · exact hI.inp t ht h)
    rwa [hd] at this
  | succ fuel ih =>
    intro listed a w inv hcount hI
    rw [Nat.succ_add]
    obtain ⟨j, hj, hjl⟩ := head_some (listed := listed) (n := n) (by omega)
    obtain ⟨r, _, hr⟩ := heads_ready hB hn inv.size j hj hjl
    refine ⟨fun h0 => absurd h0 (List.ne_nil_of_mem hr), fun i hi => ?_⟩
    have hin : i < n := Nat.lt_of_not_le fun h => tail_waits hs hc hn inv _ j rfl hj (getD_in (by have := inv.size; omega) hjl) i h hi
    obtain ⟨h0, o, ho, hall⟩ := mem_ready.1 hi
    obtain ⟨g1, g2, g3, g4⟩ := growTB_at hB hin ho
    have his := (Array.getElem?_eq_some_iff.1 ho).1
    have hlt : i < listed.size := by have := inv.size; omega
    have h0' := getD_both h0
    unfold wpOp
    rw [ho]
    have hw : Region.wanted o (yielded ops a.tmps) = true := by simp [Region.wanted, g1]
    simp only [hw, if_true]
    refine Or.inl (Oper.wp_mono (fun a' w' h => ?_) (hstep i o hin ho a w hI.bel hI.size fun t ht => ?_))
    · obtain ⟨v, rfl, hb, hv⟩ := h
      refine ih _ _ _ (inv.set hi hin) (by have := count_heads hin hlt h0'; omega) ⟨bel_to hI.bel hb, by rw [put_defers]; exact hI.def_, by rw [put_size]; exact hI.size, fun t ht hno => ?_, fun j t hjn hj hl => ?_⟩
      · have hd : o.dst ≠ some t := fun e => hno i hin (by unfold dstOf; rw [ho]; exact e)
        rw [getD_put_ne hd]
        exact hst t w w' _ hb (hI.inp t ht hno)
      · by_cases e : j = i
        · subst e
          have hd : o.dst = some t := by unfold dstOf at hj; rw [ho] at hj; exact hj
          rw [hd, getD_put_same (by rw [hI.size]; exact (g2 t hd).1)]
          exact hv t hd
        · have hd : o.dst ≠ some t := fun e2 => (g2 t e2).2 j e hj
          rw [getD_put_ne hd]
          refine hst t w w' _ hb (hI.out j t hjn hj ?_)
          simpa [Array.getD_eq_getD_getElem?, Array.getElem?_setIfInBounds, Ne.symm e] using hl
    · obtain ⟨g5, g6⟩ := g3 t ht
      by_cases h : ∃ j, dstOf ops j = some t
      · obtain ⟨j, hj⟩ := h
        obtain ⟨e, he, e1, e2⟩ := g6 j hj
        have h7 := hall e he e2
        have h8 := g4 e he e2
        rw [e1] at h7 h8
        exact hI.out j t (by omega) hj h7
      · exact hI.inp t g5 fun j _ e => h ⟨j, e⟩
theorem region_grow_tail {id : Nat} {a : Act} {w : World} {l : List Oper} {ψ : Nat → World → Value → Prop} (N n : Nat) (hm : P.follows .mixedOrders = true) (hB : growTB .any l.toArray N n = true)
    (hs : Region.sinkB .any l.toArray n = true) (hc : Region.chainB .any l.toArray n = true) (hn : n < l.toArray.size)
    (hseq : Region.seqB .any l.toArray (l.toArray.size - n) n (Array.replicate n true ++ Array.replicate (l.toArray.size - n) false) = true) (hst : ∀ t w w' v, Below w.heap.size w w' → ψ t w v → ψ t w' v)
    (hN : a.tmps.size = N) (h0 : ∀ t, t < N → ((l.take n).any fun o => o.dst == some t) = false → ψ t w (a.tmps.getD t undef))
    (hstep : ∀ o ∈ l.take n, ∀ (a : Act) (w' : World), Below w.heap.size w w' → a.tmps.size = N → (∀ t, Operand.tmp t ∈ o.op.operands → ψ t w' (a.tmps.getD t undef)) → Oper.wp P o a w' (fun a' w2 => ∃ v, a' = a.put o.dst v ∧ Below w'.heap.size w' w2 ∧ ∀ d, o.dst = some d → ψ d w2 v) Q)
    (hend : ∀ (a' : Act) (w' : World), Below w.heap.size w w' → a'.defers = a.defers → a'.tmps.size = N → (∀ t, t < N → ψ t w' (a'.tmps.getD t undef)) → wpList P l.toArray Q (l.drop n) a' w') :
    (Code.region id l.toArray true).wp P Q a w := by
  have hdr : Below w.heap.size w { w with drawn := w.drawn + 1 } := RowKit.Below.drew (Below.refl _ _)
  have hsz : n + (l.toArray.size - n) = l.toArray.size := by omega
  have key := wpAny_growT (P := P) (ops := l.toArray) (Q := Q) (md := .any) (N := N) (n := n) (ψ := ψ) (W0 := w) (D := a.defers) l rfl hB hs hc hn hseq hst
    (fun i o hi ho => hstep o (by
      have h2 : l[i]? = some o := by simpa using ho
      exact List.mem_of_getElem? (i := i) (by rw [List.getElem?_take, if_pos hi]; exact h2)))
    (fun a' w' h1 h2 h3 h4 => hend a' w' h1 h2 h3 fun t ht => h4 t ht (by
      by_cases h : ∃ j, j < n ∧ dstOf l.toArray j = some t
      · exact Or.inl h
      · exact Or.inr fun j hj e => h ⟨j, hj, e⟩))
    n (Array.replicate l.toArray.size false) a { w with drawn := w.drawn + 1 }
    ⟨by simp, fun j oj _ h2 => (by rw [getD_replicate_false] at h2; cases h2), fun t _ h2 => getD_in (by simpa using h2) (getD_replicate_false _ _)⟩
    (by
      rw [Array.toList_replicate, List.take_replicate, List.count_replicate_self]
      have : n < l.length := by simpa using hn
      simp; omega)
    ⟨hdr, rfl, hN, fun t ht hno => hst t _ _ _ hdr (h0 t ht (by
      rw [List.any_eq_false]
      intro o ho e
      obtain ⟨j, hj, rfl⟩ := List.mem_iff_getElem.1 ho
      have hj2 : j < n ∧ j < l.length := by simp at hj; omega
      refine hno j hj2.1 ?_
      unfold dstOf
      simp only [List.getElem?_toArray, List.getElem?_eq_getElem hj2.2, Option.bind_some]
      rw [List.getElem_take] at e
      exact eq_of_beq e)), fun j t _ _ hl => (by rw [getD_replicate_false] at hl; cases hl)⟩
  rw [hsz] at key
  exact wp_region_any hm key
end
def AtNew (W : World) (t : TypeId) (xs : List Value) (w : World) (v : Value) : Prop := ∃ g, v = .pointer (some ⟨g, 0, none⟩) ∧ W.heap.size ≤ g ∧ Row w g t xs
theorem AtNew.below {W : World} {t : TypeId} {xs : List Value} {w w' : World} {v : Value} (hb : Below w.heap.size w w') (h : AtNew W t xs w v) : AtNew W t xs w' v := by
  obtain ⟨g, e, h1, h2⟩ := h
  exact ⟨g, e, h1, h2.below' hb⟩
theorem AtNew.new {W w' : World} {t : TypeId} {xs : List Value} (hb : Below W.heap.size W w') : AtNew W t xs (w'.alloc (.cells xs.toArray t (0, 0))) (.pointer (some ⟨w'.heap.size, 0, none⟩)) := ⟨_, rfl, hb.size, rnw⟩
theorem psi_ret {P : Program} {f : Nat} {args : Array Value} {w : World} {r : Value} {cs : List (Nat × Value)} {rs : List (Nat × (World → Value → Prop))} {d : Nat} (h : Calls P f args w (Ret w r)) (hv : ∀ w', psi cs rs d w' r) :
    Calls P f args w fun e w' => ∃ v, e = .returned v ∧ Below w.heap.size w w' ∧ psi cs rs d w' v := by
  refine h.mono ?_
  rintro e w' ⟨rfl, hb⟩
  exact ⟨_, rfl, hb, hv _⟩
theorem wpList_store {P : Program} {ops : Array Oper} {Q : Exit → Act → World → Prop} {o : Oper} {a : Act} {w w1 : World} (hg : o.guard = none) (hd : o.dst = none) (hrun : (execOp a.eval o).run P w = .ok .skip w1) (h : Q .normal a w1) :
    wpList P ops Q [o] a w := wpList_plain hg fun K hK => by
  unfold Oper.wp
  rw [hrun]
  show K (a.put o.dst undef) w1
  rw [hd]
  exact hK _ _ h
theorem tmps_lit {a : Array Value} {N : Nat} (h : a.size = N) : a = ((List.range N).map fun t => a.getD t undef).toArray := by
  subst h
  refine Array.ext (by simp) fun i h1 h2 => ?_
  simp [Array.getD_eq_getD_getElem?, h1]
end Go.Proofs.YtellemlhhlafcaaGreatDoor
end
