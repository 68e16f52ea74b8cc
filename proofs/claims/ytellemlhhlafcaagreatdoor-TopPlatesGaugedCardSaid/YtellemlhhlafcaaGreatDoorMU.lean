/-
  Chapter 46: 'Zone' and 'Check' of the reference; 'Of' of layer 2.
  Chapter 46: plates with their tolerances ('plateOf').
  A drawn region whose operations only read, make memory, and call what makes memory: each slot's value by a predicate that growth keeps.
-/
import Derived.Test.YtellemlhhlafcaaGreatDoorMQ
import Derived.Deep.RegionLaw
section
namespace Go.Proofs.YtellemlhhlafcaaGreatDoor
open Go Go.RowKit Go.Deep
namespace M
end M
namespace W
open M
attribute [local go_sem] bs_size bs_toList bs_get bs_extract bs_append bs_lit0 bs_lit1 lit1_bs
set_option maxHeartbeats 1000000
set_option maxRecDepth 20000
theorem ratOf (n d : Int) (w : World) (hg : Glob w) (hn : n.natAbs < 10 ^ 18) (hd : d.natAbs < 10 ^ 18) (h0 : d ≠ 0) :
    Calls Tryz.prog 91 #[.int .i64 n, .int .i64 d] w (Ret w (.tuple #[.string (bs (R (Rat.divInt n d))), .int .i64 0])) := by
  have e : (10 : Nat) ^ 18 = 1000000000000000000 := by decide
  have HN := Lib.hid (fun wx hgx => vof_any n wx hgx (by omega) (by omega))
  have HD := Lib.hid (fun wx hgx => vof_any d wx hgx (by omega) (by omega))
  have HL := Lib.hid (fun wx hgx => ratMake n d wx hgx (ok_pow hn (by omega)) (ok_pow hd (by omega)) h0)
  have HG := Lib.hid hg
  clear hn hd h0 e hg
  go_enter Tryz.func91, Tryz.ntmps91
  go_wp2_with fail
  refine (HN.out _ HG.out).mono ?_
  rintro e w1 ⟨rfl, hb1⟩
  go_wp2_with fail
  refine (HD.out _ (HG.out.of hb1)).mono ?_
  rintro e w2 ⟨rfl, hb2⟩
  have hb2 := bel_to hb1 hb2
  go_wp2_with fail
  refine (HL.out _ (HG.out.of hb2)).mono ?_
  rintro e w3 ⟨rfl, hb3⟩
  have hb3 := bel_to hb2 hb3
  clear hb1 hb2
  go_wp2
  go_ret2
  exact Ret.of rfl hb3
end W
end Go.Proofs.YtellemlhhlafcaaGreatDoor
end
section
namespace Go.Proofs.YtellemlhhlafcaaGreatDoor
open Go Go.RowKit Go.Deep
abbrev IntC (l : List Int) : List Value := l.map fun z => .int .i64 z
def RdI (w : World) (v : Value) (l : List Int) : Prop := ∃ A cap, v = .slice A l.length cap ∧ (l = [] ∨ ∃ b o, A = some ⟨b, o, none⟩ ∧ b < w.heap.size ∧ ∀ i (h : i < l.length), w.cell? ⟨b, o + i, none⟩ = some (.int .i64 l[i]))
theorem RdI.below {w w' : World} {v : Value} {l : List Int} (h : RdI w v l) (hb : Below w.heap.size w w') : RdI w' v l := by
  obtain ⟨A, cap, e, h2⟩ := h
  refine ⟨A, cap, e, ?_⟩
  rcases h2 with h2 | ⟨b, o, e2, h3, h4⟩
  · exact Or.inl h2
  · exact Or.inr ⟨b, o, e2, Nat.lt_of_lt_of_le h3 hb.size, fun i hi => (hb.cell (by exact h3)).trans (h4 i hi)⟩
theorem RdI.len {w : World} {v : Value} {l : List Int} (h : RdI w v l) : ∃ A cap, v = .slice A l.length cap := by
  obtain ⟨A, cap, e, _⟩ := h; exact ⟨A, cap, e⟩
theorem RdI.row {w : World} {A : Option Addr} {n cap : Nat} {l : List Int} (h : RdI w (.slice A n cap) l) (i : Nat) (hi : i < l.length) : ∃ b o, A = some ⟨b, o, none⟩ ∧ b < w.heap.size ∧ ∀ i (h : i < l.length), w.cell? ⟨b, o + i, none⟩ = some (.int .i64 l[i]) := by
  obtain ⟨A', cap', e, h2⟩ := h
  injection e with e
  subst e
  exact h2.resolve_left (fun e => by rw [e] at hi; cases hi)
def OwnI (w : World) (B : Nat) (v : Value) (l : List Int) : Prop := w.ownsRow B 3 1 v l.length (IntC l)
theorem OwnI.rd {w : World} {B : Nat} {v : Value} {l : List Int} (h : OwnI w B v l) : RdI w v l := by
  obtain ⟨h1, h2⟩ := h
  rcases h2 with ⟨hv, hn⟩ | ⟨g, cap, cur, hv, hB, hh, hn, hm, hs, ht⟩
  · exact ⟨none, 0, by rw [hv, hn], Or.inl (List.length_eq_zero_iff.1 hn)⟩
  · refine ⟨_, _, hv, Or.inr ⟨g, 0, rfl, lt_of_block hh, fun i hi => ?_⟩⟩
    have e : (IntC l)[i]? = some (.int .i64 l[i]) := by simp [IntC, hi]
    rw [← ht, List.getElem?_take] at e
    split at e
    · simp [World.cell?, hh]; simpa using e
    · cases e
theorem OwnI.below {w w' : World} {B : Nat} {v : Value} {l : List Int} (h : OwnI w B v l) (hb : Below w.heap.size w w') : OwnI w' B v l :=
  World.ownsRow.kept (row := none) h ⟨hb.os, hb.tape, hb.output, hb.size, fun k hk _ => hb.block k hk⟩ (Classical.em _)
namespace M
end M
theorem grown_set (w : World) (p : Addr) (v : Value) : w.grownBy (w.setCell p v) (some p.block) :=
  ⟨rfl, rfl, rfl, by simp [World.setCell], fun k _ hne => by
    have : k ≠ p.block := fun e => hne (by rw [e])
    simp only [World.setCell, Array.getElem?_modify]
    rw [if_neg (fun e => this e.symm)]⟩
theorem row_other {w : World} {g : Nat} {t : TypeId} {xs : List Value} (h : Row w g t xs) {p : Addr} (hp : g ≠ p.block) (v : Value) : Row (w.setCell p v) g t xs := by
  unfold Row at h ⊢
  rw [(grown_set w p v).block g (Array.getElem?_eq_some_iff.1 h).1 (fun e => by injection e with e; exact hp e)]
  exact h
end Go.Proofs.YtellemlhhlafcaaGreatDoor
end
section
namespace Go.Proofs.YtellemlhhlafcaaGreatDoor
open Go Go.RowKit Go.Deep
def dstOf (ops : Array Oper) (j : Nat) : Option Nat := (ops[j]?).bind (·.dst)
section
variable {P : Program} {ops : Array Oper} {Q : Exit → Act → World → Prop} {md : Region.Mode} {N : Nat}
theorem put_tmps {a : Act} {d : Nat} {v : Value} : (a.put (some d) v).tmps = a.tmps.setIfInBounds d v := rfl
theorem getD_put_same {a : Act} {d : Nat} {v : Value} (h : d < a.tmps.size) : (a.put (some d) v).tmps.getD d undef = v := by
  rw [put_tmps]; simp [Array.getD_eq_getD_getElem?, h]
theorem getD_put_ne {a : Act} {dst : Option Nat} {t : Nat} {v : Value} (h : dst ≠ some t) : (a.put dst v).tmps.getD t undef = a.tmps.getD t undef := by
  cases dst with
  | none => rfl
  | some d =>
    have hd : d ≠ t := fun e => h (by rw [e])
    rw [put_tmps]; simp [Array.getD_eq_getD_getElem?, hd]
theorem put_size {a : Act} {dst : Option Nat} {v : Value} : (a.put dst v).tmps.size = a.tmps.size := by
  cases dst with
  | none => rfl
  | some d => rw [put_tmps, Array.size_setIfInBounds]
theorem put_defers {a : Act} {dst : Option Nat} {v : Value} : (a.put dst v).defers = a.defers := by cases dst <;> rfl
end
def psi (cs : List (Nat × Value)) (rs : List (Nat × (World → Value → Prop))) (t : Nat) (w : World) (v : Value) : Prop := match cs.lookup t with
  | some c => v = c
  | none => match rs.lookup t with
    | some p => p w v
    | none => True
theorem lookup_mem {β : Type _} {t : Nat} : ∀ {l : List (Nat × β)} {b : β}, l.lookup t = some b → (t, b) ∈ l
  | [], _, h => by cases h
  | (k, c) :: l, b, h => by
    rw [List.lookup_cons] at h
    split at h
    · rename_i e
      injection h with h
      rw [h, eq_of_beq e]; exact List.mem_cons_self
    · exact List.mem_cons_of_mem _ (lookup_mem h)
theorem step_grow {P : Program} {o : Oper} {a : Act} {w w1 : World} {cs : List (Nat × Value)} {rs : List (Nat × (World → Value → Prop))} {Q : Exit → Act → World → Prop} {d : Nat} {v : Value} (hd : o.dst = some d)
    (hrun : (execOp a.eval o).run P w = .ok (.value v) w1) (hb : Below w.heap.size w w1) (hv : psi cs rs d w1 v) :
    Oper.wp P o a w (fun a' w' => ∃ v, a' = a.put o.dst v ∧ Below w.heap.size w w' ∧ ∀ d, o.dst = some d → psi cs rs d w' v) Q := by
  unfold Oper.wp
  rw [hrun]
  exact ⟨v, rfl, hb, fun d2 h2 => by rw [hd] at h2; injection h2 with h2; rw [← h2]; exact hv⟩
theorem step_val {P : Program} {o : Oper} {a : Act} {w : World} {cs : List (Nat × Value)} {rs : List (Nat × (World → Value → Prop))} {Q : Exit → Act → World → Prop} {d : Nat} {v : Value} (hd : o.dst = some d)
    (hrun : (execOp a.eval o).run P w = .ok (.value v) w) (hv : psi cs rs d w v) :
    Oper.wp P o a w (fun a' w' => ∃ v, a' = a.put o.dst v ∧ Below w.heap.size w w' ∧ ∀ d, o.dst = some d → psi cs rs d w' v) Q := step_grow hd hrun (Below.refl _ _) hv
theorem step_call {P : Program} {o : Oper} {a : Act} {w : World} {cs : List (Nat × Value)} {rs : List (Nat × (World → Value → Prop))} {Q : Exit → Act → World → Prop} {d f : Nat} {args : Array Value} (hd : o.dst = some d)
    (hrun : (execOp a.eval o).run P w = .ok (.enter f args) w) (hc : Calls P f args w fun e w' => ∃ v, e = .returned v ∧ Below w.heap.size w w' ∧ psi cs rs d w' v) :
    Oper.wp P o a w (fun a' w' => ∃ v, a' = a.put o.dst v ∧ Below w.heap.size w w' ∧ ∀ d, o.dst = some d → psi cs rs d w' v) Q := by
  unfold Oper.wp
  rw [hrun]
  refine hc.mono ?_
  rintro e w' ⟨v, rfl, hb, hv⟩
  exact ⟨v, rfl, hb, fun d2 h2 => by rw [hd] at h2; injection h2 with h2; rw [← h2]; exact hv⟩
theorem psi_st {cs : List (Nat × Value)} {rs : List (Nat × (World → Value → Prop))} (h : ∀ p ∈ rs, ∀ w w' v, Below w.heap.size w w' → p.2 w v → p.2 w' v) : ∀ t w w' v, Below w.heap.size w w' → psi cs rs t w v → psi cs rs t w' v := by
  intro t w w' v hb hp
  unfold psi at *
  split
  · rename_i c hc
    rw [hc] at hp; exact hp
  · rename_i hc
    rw [hc] at hp
    simp only at hp
    split
    · rename_i p hq
      rw [hq] at hp
      exact h _ (lookup_mem hq) w w' v hb hp
    · trivial
end Go.Proofs.YtellemlhhlafcaaGreatDoor
end
