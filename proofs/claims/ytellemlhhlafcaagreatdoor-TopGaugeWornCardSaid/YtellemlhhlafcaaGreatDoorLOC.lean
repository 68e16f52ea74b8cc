/-
  Chapter 47 of the program: 'Design$1', 'Design'. (Printed by wip/otf.py.)
  Chapter 47 of the program: 'limits', 'Made' at right elements, with all sizes at the high end.
-/
import Derived.Test.YtellemlhhlafcaaGreatDoorLOB
import Derived.Test.YtellemlhhlafcaaGreatDoorLOA
import Derived.Test.YtellemlhhlafcaaGreatDoorLV
import Derived.Test.YtellemlhhlafcaaGreatDoorLW
section
namespace Go.Proofs.YtellemlhhlafcaaGreatDoor
open Go Go.RowKit Go.Deep Go.Sort
namespace M
def desQ (a b : Int) (t : Tg) : El := if (desE a b t).lo < 1 then ⟨0, 0, false, 0, 0⟩ else desE a b t
def desC (a b : Int) (t : Tg) : Int := if (desE a b t).lo < 1 then 14 else 0
theorem desQ_f {a b v : Int} {t : Tg} (hv : v = virt t) (h1 : 1 ≤ v) (ha : 0 ≤ a) (h : t.pin = false) : desQ a b t = ⟨t.x, t.y, false, v + a, v + a + b⟩ ∧ desC a b t = 0 := by
  unfold desQ desC desE
  rw [h, if_neg Bool.false_ne_true, ← hv]
  dsimp only
  rw [if_neg (by omega), if_neg (by omega)]
  exact ⟨rfl, rfl⟩
theorem desQ_t {a b v : Int} {t : Tg} (hv : v = virt t) (h : t.pin = true) (hl : ¬ v - a - b < 1) : desQ a b t = ⟨t.x, t.y, true, v - a - b, v - a⟩ ∧ desC a b t = 0 := by
  unfold desQ desC desE
  rw [h, if_pos rfl, ← hv]
  dsimp only
  rw [if_neg hl, if_neg hl]
  exact ⟨rfl, rfl⟩
theorem desQ_e {a b v : Int} {t : Tg} (hv : v = virt t) (h : t.pin = true) (hl : v - a - b < 1) : desQ a b t = ⟨0, 0, false, 0, 0⟩ ∧ desC a b t = 14 := by
  unfold desQ desC desE
  rw [h, if_pos rfl, ← hv]
  dsimp only
  rw [if_pos hl, if_pos hl]
  exact ⟨rfl, rfl⟩
end M
theorem OwnEL.base {w : World} {B B' : Nat} {v : Value} {l : List M.El} (h : OwnEL w B v l) (hB : B' ≤ B) : OwnEL w B' v l := by
  refine ⟨h.1, ?_⟩
  rcases h.2 with h2 | ⟨g, cap, cur, h2, h3, h4⟩
  · exact Or.inl h2
  · exact Or.inr ⟨g, cap, cur, h2, Nat.le_trans hB h3, h4⟩
namespace W
open M
attribute [local go_sem] bs_size bs_toList bs_get bs_extract bs_append bs_lit0 bs_lit1 lit1_bs
set_option maxHeartbeats 1000000
set_option maxRecDepth 20000
theorem gdes1 (i : Nat) (t : Tg) (sb mb : Nat) (vs : Value) (ns : List Int) (a b : Int) (w : World) (hs : Row w sb 45 [vs]) (hm : Row w mb 59 [.int .i64 a, .int .i64 b]) (hr : RdI w vs ns) (hi : i < ns.length) (hv : ns[i] = virt t)
    (hv2 : 1 ≤ virt t ∧ virt t ≤ 200000) (ha : 0 ≤ a ∧ a ≤ 100000) (hb : 0 ≤ b ∧ b ≤ 100000) :
    Calls Tryz.prog 75 #[.int .i64 (i : Int), tgV t, .pointer (some ⟨sb, 0, none⟩), .pointer (some ⟨mb, 0, none⟩)] w (Ret w (.tuple #[elV (desQ a b t), .int .i64 (desC a b t)])) := by
  have HC0 := Lib.hid (fun W (hW : Below w.heap.size w W) => And.intro (hs.below' hW) (And.intro (hm.below' hW) (hr.below hW)))
  obtain ⟨A, cap, hvs⟩ := hr.len
  subst hvs
  obtain ⟨bq, oq, rfl, -, -⟩ := hr.row i hi
  have HE := Lib.hid (fun W (hW : Below w.heap.size w W) => by
    obtain ⟨b', o', e, _, h⟩ := (HC0.out W hW).2.2.row i hi
    cases e
    have := h i hi
    rw [hv] at this
    exact this : ∀ W, Below w.heap.size w W → W.cell? ⟨bq, oq + i, none⟩ = some (.int .i64 (virt t)))
  have hi0 : (0 : Int) ≤ (i : Int) := by omega
  have hi1 : (i : Int) < (ns.length : Int) := by omega
  have HC := Lib.hid (fun W (hW : Below w.heap.size w W) => And.intro (HC0.out W hW).1 (HC0.out W hW).2.1)
  clear HC0 hs hm hr hv
  generalize ns.length = n at *
  obtain ⟨v, hve⟩ : ∃ v, v = virt t := ⟨_, rfl⟩
  have HDF := Lib.hid (fun (h : t.pin = false) => desQ_f (a := a) (b := b) hve (by omega) ha.1 h)
  have HDT := Lib.hid (fun (h : t.pin = true) (hl : ¬ v - a - b < 1) => desQ_t (a := a) (b := b) hve h hl)
  have HDE := Lib.hid (fun (h : t.pin = true) (hl : v - a - b < 1) => desQ_e (a := a) (b := b) hve h hl)
  rw [← hve] at HE hv2
  generalize desQ a b t = q at *
  generalize desC a b t = c at *
  have hw1 : IntKind.i64.wrap (v + a) = v + a := IntWalk.i64_in _ (by omega)
  have hw2 : IntKind.i64.wrap (v + a + b) = v + a + b := IntWalk.i64_in _ (by omega)
  have hw3 : IntKind.i64.wrap (v - a) = v - a := IntWalk.i64_in _ (by omega)
  have hw4 : IntKind.i64.wrap (v - a - b) = v - a - b := IntWalk.i64_in _ (by omega)
  obtain ⟨x, y, lo, hi_, tol, mat, pin⟩ := t
  unfold tgV elV
  simp only
  have hb0 := bel_al2 w (.cells #[.int .i64 x, .int .i64 y, .int .i64 lo, .int .i64 hi_, .int .i64 tol, .int .i64 mat, .bool pin] 27 (0, 0)) (.cells #[.int .i64 0, .int .i64 0, .bool false, .int .i64 0, .int .i64 0] 162 (0, 0))
  have hr1 : Row ((w.alloc (.cells #[.int .i64 x, .int .i64 y, .int .i64 lo, .int .i64 hi_, .int .i64 tol, .int .i64 mat, .bool pin] 27 (0, 0))).alloc (.cells #[.int .i64 0, .int .i64 0, .bool false, .int .i64 0, .int .i64 0] 162 (0, 0))) w.heap.size 27 [.int .i64 x, .int .i64 y, .int .i64 lo, .int .i64 hi_, .int .i64 tol, .int .i64 mat, .bool pin] := rnw.alloc _
  have hr2 : Row ((w.alloc (.cells #[.int .i64 x, .int .i64 y, .int .i64 lo, .int .i64 hi_, .int .i64 tol, .int .i64 mat, .bool pin] 27 (0, 0))).alloc (.cells #[.int .i64 0, .int .i64 0, .bool false, .int .i64 0, .int .i64 0] 162 (0, 0))) (w.heap.size + 1) 162 [.int .i64 0, .int .i64 0, .bool false, .int .i64 0, .int .i64 0] := rnew0 (World.size_alloc _ _).symm
  have HR := Lib.hid (And.intro hr1 (And.intro hr2 hb0))
  clear hr1 hr2 hb0 hi hve
  go_enter Tryz.func75, Tryz.ntmps75
  go_wp2_with fail
  generalize ((w.alloc (.cells #[.int .i64 x, .int .i64 y, .int .i64 lo, .int .i64 hi_, .int .i64 tol, .int .i64 mat, .bool pin] 27 (0, 0))).alloc (.cells #[.int .i64 0, .int .i64 0, .bool false, .int .i64 0, .int .i64 0] 162 (0, 0))) = W at *
  have HCL := Lib.hid (fun V (hV : Below W.heap.size W V) => And.intro ((HR.out.1.below' hV).cell (i := 0) rfl) (And.intro ((HR.out.1.below' hV).cell (i := 1) rfl) (And.intro ((HR.out.1.below' hV).cell (i := 6) rfl) (And.intro ((HC.out V (bel_to HR.out.2.2 hV)).1.cell (i := 0) rfl) (And.intro (HE.out V (bel_to HR.out.2.2 hV)) (And.intro ((HC.out V (bel_to HR.out.2.2 hV)).2.cell (i := 0) rfl) ((HC.out V (bel_to HR.out.2.2 hV)).2.cell (i := 1) rfl)))))))
  refine region_grow_tail (ψ := psi [(0, .int .i64 (i : Int)), (2, .pointer (some ⟨sb, 0, none⟩)), (3, .pointer (some ⟨mb, 0, none⟩)), (5, .pointer (some ⟨w.heap.size, 0, none⟩)), (6, .pointer (some ⟨w.heap.size + 1, 0, none⟩)), (7, .int .i64 0), (9, .pointer (some ⟨w.heap.size, 0, none⟩)), (10, .agg #[.int .i64 x, .int .i64 y]), (11, .pointer (some ⟨w.heap.size, 6, none⟩)), (12, .bool pin), (13, .slice (some ⟨bq, oq, none⟩) n cap), (14, .int .i64 (i : Int)), (15, .pointer (some ⟨bq, oq + i, none⟩)), (16, .int .i64 v), (17, .pointer (some ⟨mb, 0, none⟩)), (18, .int .i64 a), (19, .int .i64 (v + a)), (20, .slice (some ⟨bq, oq, none⟩) n cap), (21, .int .i64 (i : Int)), (22, .pointer (some ⟨bq, oq + i, none⟩)), (23, .int .i64 v), (24, .pointer (some ⟨mb, 0, none⟩)), (25, .int .i64 a), (26, .int .i64 (v + a)), (27, .pointer (some ⟨mb, 1, none⟩)), (28, .int .i64 b), (29, .int .i64 (v + a + b)), (30, .agg #[.int .i64 (v + a), .int .i64 (v + a + b)]), (31, .agg #[.int .i64 x, .int .i64 y, .bool pin, .int .i64 (v + a), .int .i64 (v + a + b)])] [(8, AtNew W 162 [.int .i64 0, .int .i64 0, .bool false, .int .i64 0, .int .i64 0])]) 59 24 (by kernel_rfl) (by kernel_rfl) (by kernel_rfl) (by kernel_rfl) (by decide) (by kernel_rfl) (psi_st ?_) rfl ?_ ?_ ?_
  · intro p hp w w' v hb h
    simp only [List.mem_cons, List.not_mem_nil, or_false] at hp
    rcases hp with rfl
    all_goals exact AtNew.below hb h
  · intro t ht hno
    unfold psi
    split
    · rename_i c hc
      have hm := lookup_mem hc
      simp only [List.mem_cons, List.not_mem_nil, or_false, Prod.mk.injEq] at hm
      repeat' (rcases hm with ⟨rfl, rfl⟩ | hm)
      all_goals first
        | rfl
        | exact Bool.noConfusion (show true = false from hno)
        | (obtain ⟨rfl, rfl⟩ := hm; first | rfl | exact Bool.noConfusion (show true = false from hno))
    · split
      · rename_i p hp
        have hm := lookup_mem hp
        simp only [List.mem_cons, List.not_mem_nil, or_false, Prod.mk.injEq] at hm
        repeat' (rcases hm with ⟨rfl, rfl⟩ | hm)
        all_goals first
          | exact Bool.noConfusion (show true = false from hno)
          | (obtain ⟨rfl, rfl⟩ := hm; exact Bool.noConfusion (show true = false from hno))
      · trivial
  · simp only [List.take_succ_cons, List.take_zero]
    repeat' (first | exact List.forall_mem_nil _ | refine List.forall_mem_cons.2 ⟨?_, ?_⟩)
    · intro aa w' hb hN hpre
      have h5 : aa.tmps.getD 5 undef = (.pointer (some ⟨w.heap.size, 0, none⟩) : Value) := hpre 5 (by simp [Op.operands])
      exact step_val (v := .pointer (some ⟨w.heap.size, 0, none⟩)) rfl (by simp only [execOp, Act.eval, h5]; go_simp) rfl
    · intro aa w' hb hN hpre
      have h9 : aa.tmps.getD 9 undef = (.pointer (some ⟨w.heap.size, 0, none⟩) : Value) := hpre 9 (by simp [Op.operands])
      obtain ⟨x0, x1, x6, s0, e0, a0, a1⟩ := HCL.out w' hb
      exact step_val (v := .agg #[.int .i64 x, .int .i64 y]) rfl (by simp only [execOp, Act.eval, h9]; go_simp) rfl
    · intro aa w' hb hN hpre
      have h5 : aa.tmps.getD 5 undef = (.pointer (some ⟨w.heap.size, 0, none⟩) : Value) := hpre 5 (by simp [Op.operands])
      exact step_val (v := .pointer (some ⟨w.heap.size, 6, none⟩)) rfl (by simp only [execOp, Act.eval, h5]; go_simp) rfl
    · intro aa w' hb hN hpre
      have h11 : aa.tmps.getD 11 undef = (.pointer (some ⟨w.heap.size, 6, none⟩) : Value) := hpre 11 (by simp [Op.operands])
      obtain ⟨x0, x1, x6, s0, e0, a0, a1⟩ := HCL.out w' hb
      exact step_val (v := .bool pin) rfl (by simp only [execOp, Act.eval, h11]; go_simp) rfl
    · intro aa w' hb hN hpre
      have h2 : aa.tmps.getD 2 undef = (.pointer (some ⟨sb, 0, none⟩) : Value) := hpre 2 (by simp [Op.operands])
      obtain ⟨x0, x1, x6, s0, e0, a0, a1⟩ := HCL.out w' hb
      exact step_val (v := .slice (some ⟨bq, oq, none⟩) n cap) rfl (by simp only [execOp, Act.eval, h2]; go_simp) rfl
    · intro aa w' hb hN hpre
      have h0 : aa.tmps.getD 0 undef = (.int .i64 (i : Int) : Value) := hpre 0 (by simp [Op.operands])
      exact step_val (v := .int .i64 (i : Int)) rfl (by rw [← h0]; rfl) rfl
    · intro aa w' hb hN hpre
      have h13 : aa.tmps.getD 13 undef = (.slice (some ⟨bq, oq, none⟩) n cap : Value) := hpre 13 (by simp [Op.operands])
      have h14 : aa.tmps.getD 14 undef = (.int .i64 (i : Int) : Value) := hpre 14 (by simp [Op.operands])
      exact step_val (v := .pointer (some ⟨bq, oq + i, none⟩)) rfl (by simp only [execOp, Act.eval, h13, h14]; go_simp) rfl
    · intro aa w' hb hN hpre
      have h15 : aa.tmps.getD 15 undef = (.pointer (some ⟨bq, oq + i, none⟩) : Value) := hpre 15 (by simp [Op.operands])
      obtain ⟨x0, x1, x6, s0, e0, a0, a1⟩ := HCL.out w' hb
      exact step_val (v := .int .i64 v) rfl (by simp only [execOp, Act.eval, h15]; go_simp) rfl
    · intro aa w' hb hN hpre
      have h3 : aa.tmps.getD 3 undef = (.pointer (some ⟨mb, 0, none⟩) : Value) := hpre 3 (by simp [Op.operands])
      exact step_val (v := .pointer (some ⟨mb, 0, none⟩)) rfl (by simp only [execOp, Act.eval, h3]; go_simp) rfl
    · intro aa w' hb hN hpre
      have h17 : aa.tmps.getD 17 undef = (.pointer (some ⟨mb, 0, none⟩) : Value) := hpre 17 (by simp [Op.operands])
      obtain ⟨x0, x1, x6, s0, e0, a0, a1⟩ := HCL.out w' hb
      exact step_val (v := .int .i64 a) rfl (by simp only [execOp, Act.eval, h17]; go_simp) rfl
    · intro aa w' hb hN hpre
      have h16 : aa.tmps.getD 16 undef = (.int .i64 v : Value) := hpre 16 (by simp [Op.operands])
      have h18 : aa.tmps.getD 18 undef = (.int .i64 a : Value) := hpre 18 (by simp [Op.operands])
      exact step_val (v := .int .i64 (v + a)) rfl (by simp only [execOp, Act.eval, h16, h18]; go_simp) rfl
    · intro aa w' hb hN hpre
      have h2 : aa.tmps.getD 2 undef = (.pointer (some ⟨sb, 0, none⟩) : Value) := hpre 2 (by simp [Op.operands])
      obtain ⟨x0, x1, x6, s0, e0, a0, a1⟩ := HCL.out w' hb
      exact step_val (v := .slice (some ⟨bq, oq, none⟩) n cap) rfl (by simp only [execOp, Act.eval, h2]; go_simp) rfl
    · intro aa w' hb hN hpre
      have h0 : aa.tmps.getD 0 undef = (.int .i64 (i : Int) : Value) := hpre 0 (by simp [Op.operands])
      exact step_val (v := .int .i64 (i : Int)) rfl (by rw [← h0]; rfl) rfl
    · intro aa w' hb hN hpre
      have h20 : aa.tmps.getD 20 undef = (.slice (some ⟨bq, oq, none⟩) n cap : Value) := hpre 20 (by simp [Op.operands])
      have h21 : aa.tmps.getD 21 undef = (.int .i64 (i : Int) : Value) := hpre 21 (by simp [Op.operands])
      exact step_val (v := .pointer (some ⟨bq, oq + i, none⟩)) rfl (by simp only [execOp, Act.eval, h20, h21]; go_simp) rfl
    · intro aa w' hb hN hpre
      have h22 : aa.tmps.getD 22 undef = (.pointer (some ⟨bq, oq + i, none⟩) : Value) := hpre 22 (by simp [Op.operands])
      obtain ⟨x0, x1, x6, s0, e0, a0, a1⟩ := HCL.out w' hb
      exact step_val (v := .int .i64 v) rfl (by simp only [execOp, Act.eval, h22]; go_simp) rfl
    · intro aa w' hb hN hpre
      have h3 : aa.tmps.getD 3 undef = (.pointer (some ⟨mb, 0, none⟩) : Value) := hpre 3 (by simp [Op.operands])
      exact step_val (v := .pointer (some ⟨mb, 0, none⟩)) rfl (by simp only [execOp, Act.eval, h3]; go_simp) rfl
    · intro aa w' hb hN hpre
      have h24 : aa.tmps.getD 24 undef = (.pointer (some ⟨mb, 0, none⟩) : Value) := hpre 24 (by simp [Op.operands])
      obtain ⟨x0, x1, x6, s0, e0, a0, a1⟩ := HCL.out w' hb
      exact step_val (v := .int .i64 a) rfl (by simp only [execOp, Act.eval, h24]; go_simp) rfl
    · intro aa w' hb hN hpre
      have h23 : aa.tmps.getD 23 undef = (.int .i64 v : Value) := hpre 23 (by simp [Op.operands])
      have h25 : aa.tmps.getD 25 undef = (.int .i64 a : Value) := hpre 25 (by simp [Op.operands])
      exact step_val (v := .int .i64 (v + a)) rfl (by simp only [execOp, Act.eval, h23, h25]; go_simp) rfl
    · intro aa w' hb hN hpre
      have h3 : aa.tmps.getD 3 undef = (.pointer (some ⟨mb, 0, none⟩) : Value) := hpre 3 (by simp [Op.operands])
      exact step_val (v := .pointer (some ⟨mb, 1, none⟩)) rfl (by simp only [execOp, Act.eval, h3]; go_simp) rfl
    · intro aa w' hb hN hpre
      have h27 : aa.tmps.getD 27 undef = (.pointer (some ⟨mb, 1, none⟩) : Value) := hpre 27 (by simp [Op.operands])
      obtain ⟨x0, x1, x6, s0, e0, a0, a1⟩ := HCL.out w' hb
      exact step_val (v := .int .i64 b) rfl (by simp only [execOp, Act.eval, h27]; go_simp) rfl
    · intro aa w' hb hN hpre
      have h26 : aa.tmps.getD 26 undef = (.int .i64 (v + a) : Value) := hpre 26 (by simp [Op.operands])
      have h28 : aa.tmps.getD 28 undef = (.int .i64 b : Value) := hpre 28 (by simp [Op.operands])
      exact step_val (v := .int .i64 (v + a + b)) rfl (by simp only [execOp, Act.eval, h26, h28]; go_simp) rfl
    · intro aa w' hb hN hpre
      have h19 : aa.tmps.getD 19 undef = (.int .i64 (v + a) : Value) := hpre 19 (by simp [Op.operands])
      have h29 : aa.tmps.getD 29 undef = (.int .i64 (v + a + b) : Value) := hpre 29 (by simp [Op.operands])
      exact step_val (v := .agg #[.int .i64 (v + a), .int .i64 (v + a + b)]) rfl (by simp only [execOp, List.map_toArray, List.map_cons, List.map_nil, Act.eval, h19, h29]; go_simp) rfl
    · intro aa w' hb hN hpre
      have h10 : aa.tmps.getD 10 undef = (.agg #[.int .i64 x, .int .i64 y] : Value) := hpre 10 (by simp [Op.operands])
      have h12 : aa.tmps.getD 12 undef = (.bool pin : Value) := hpre 12 (by simp [Op.operands])
      have h30 : aa.tmps.getD 30 undef = (.agg #[.int .i64 (v + a), .int .i64 (v + a + b)] : Value) := hpre 30 (by simp [Op.operands])
      exact step_val (v := .agg #[.int .i64 x, .int .i64 y, .bool pin, .int .i64 (v + a), .int .i64 (v + a + b)]) rfl (by simp only [execOp, List.map_toArray, List.map_cons, List.map_nil, Act.eval, h10, h12, h30]; go_simp) rfl
    · intro aa w' hb hN hpre
      exact step_grow (w1 := w'.alloc (.cells #[.int .i64 0, .int .i64 0, .bool false, .int .i64 0, .int .i64 0] 162 (0, 0))) (v := .pointer (some ⟨w'.heap.size, 0, none⟩)) rfl (by go_simp) (bel_al _ _) (AtNew.new hb)
  · intro a' w' hb hd hN hpre
    have h0 : a'.tmps.getD 0 undef = (.int .i64 (i : Int) : Value) := hpre 0 (by decide)
    have h2 : a'.tmps.getD 2 undef = (.pointer (some ⟨sb, 0, none⟩) : Value) := hpre 2 (by decide)
    have h3 : a'.tmps.getD 3 undef = (.pointer (some ⟨mb, 0, none⟩) : Value) := hpre 3 (by decide)
    have h5 : a'.tmps.getD 5 undef = (.pointer (some ⟨w.heap.size, 0, none⟩) : Value) := hpre 5 (by decide)
    have h6 : a'.tmps.getD 6 undef = (.pointer (some ⟨w.heap.size + 1, 0, none⟩) : Value) := hpre 6 (by decide)
    have h7 : a'.tmps.getD 7 undef = (.int .i64 0 : Value) := hpre 7 (by decide)
    have h9 : a'.tmps.getD 9 undef = (.pointer (some ⟨w.heap.size, 0, none⟩) : Value) := hpre 9 (by decide)
    have h10 : a'.tmps.getD 10 undef = (.agg #[.int .i64 x, .int .i64 y] : Value) := hpre 10 (by decide)
    have h11 : a'.tmps.getD 11 undef = (.pointer (some ⟨w.heap.size, 6, none⟩) : Value) := hpre 11 (by decide)
    have h12 : a'.tmps.getD 12 undef = (.bool pin : Value) := hpre 12 (by decide)
    have h13 : a'.tmps.getD 13 undef = (.slice (some ⟨bq, oq, none⟩) n cap : Value) := hpre 13 (by decide)
    have h14 : a'.tmps.getD 14 undef = (.int .i64 (i : Int) : Value) := hpre 14 (by decide)
    have h15 : a'.tmps.getD 15 undef = (.pointer (some ⟨bq, oq + i, none⟩) : Value) := hpre 15 (by decide)
    have h16 : a'.tmps.getD 16 undef = (.int .i64 v : Value) := hpre 16 (by decide)
    have h17 : a'.tmps.getD 17 undef = (.pointer (some ⟨mb, 0, none⟩) : Value) := hpre 17 (by decide)
    have h18 : a'.tmps.getD 18 undef = (.int .i64 a : Value) := hpre 18 (by decide)
    have h19 : a'.tmps.getD 19 undef = (.int .i64 (v + a) : Value) := hpre 19 (by decide)
    have h20 : a'.tmps.getD 20 undef = (.slice (some ⟨bq, oq, none⟩) n cap : Value) := hpre 20 (by decide)
    have h21 : a'.tmps.getD 21 undef = (.int .i64 (i : Int) : Value) := hpre 21 (by decide)
    have h22 : a'.tmps.getD 22 undef = (.pointer (some ⟨bq, oq + i, none⟩) : Value) := hpre 22 (by decide)
    have h23 : a'.tmps.getD 23 undef = (.int .i64 v : Value) := hpre 23 (by decide)
    have h24 : a'.tmps.getD 24 undef = (.pointer (some ⟨mb, 0, none⟩) : Value) := hpre 24 (by decide)
    have h25 : a'.tmps.getD 25 undef = (.int .i64 a : Value) := hpre 25 (by decide)
    have h26 : a'.tmps.getD 26 undef = (.int .i64 (v + a) : Value) := hpre 26 (by decide)
    have h27 : a'.tmps.getD 27 undef = (.pointer (some ⟨mb, 1, none⟩) : Value) := hpre 27 (by decide)
    have h28 : a'.tmps.getD 28 undef = (.int .i64 b : Value) := hpre 28 (by decide)
    have h29 : a'.tmps.getD 29 undef = (.int .i64 (v + a + b) : Value) := hpre 29 (by decide)
    have h30 : a'.tmps.getD 30 undef = (.agg #[.int .i64 (v + a), .int .i64 (v + a + b)] : Value) := hpre 30 (by decide)
    have h31 : a'.tmps.getD 31 undef = (.agg #[.int .i64 x, .int .i64 y, .bool pin, .int .i64 (v + a), .int .i64 (v + a + b)] : Value) := hpre 31 (by decide)
    obtain ⟨g8, h8, hge8, hrow8⟩ : (AtNew W 162 [.int .i64 0, .int .i64 0, .bool false, .int .i64 0, .int .i64 0]) w' (a'.tmps.getD 8 undef) := hpre 8 (by decide)
    obtain ⟨⟨f0, m0⟩, ⟨f1, m1⟩, ⟨f2, m2⟩, ⟨f3, m3⟩, ⟨f4, m4⟩, hrow⟩ := five_store (.int .i64 x) (.int .i64 y) (.bool pin) (.int .i64 (v + a)) (.int .i64 (v + a + b)) hrow8
    have hb2 := five_below (.int .i64 x) (.int .i64 y) (.bool pin) (.int .i64 (v + a)) (.int .i64 (v + a + b)) hb hge8
    simp only [List.drop_succ_cons, List.drop_zero]
    refine wpList_store (w1 := (((((w'.setCell ⟨g8, 0, none⟩ (.int .i64 x)).setCell ⟨g8, 1, none⟩ (.int .i64 y)).setCell ⟨g8, 2, none⟩ (.bool pin)).setCell ⟨g8, 3, none⟩ (.int .i64 (v + a))).setCell ⟨g8, 4, none⟩ (.int .i64 (v + a + b)))) rfl rfl (by simp only [execOp, Act.eval, h8, h31]; go_simp) ?_
    obtain ⟨tm, df⟩ := a'
    simp only at hd hN hpre h0 h2 h3 h5 h6 h7 h8 h9 h10 h11 h12 h13 h14 h15 h16 h17 h18 h19 h20 h21 h22 h23 h24 h25 h26 h27 h28 h29 h30 h31
    subst hd
    have htm : tm = #[tm.getD 0 undef, tm.getD 1 undef, tm.getD 2 undef, tm.getD 3 undef, tm.getD 4 undef, tm.getD 5 undef, tm.getD 6 undef, tm.getD 7 undef, tm.getD 8 undef, tm.getD 9 undef, tm.getD 10 undef, tm.getD 11 undef, tm.getD 12 undef, tm.getD 13 undef, tm.getD 14 undef, tm.getD 15 undef, tm.getD 16 undef, tm.getD 17 undef, tm.getD 18 undef, tm.getD 19 undef, tm.getD 20 undef, tm.getD 21 undef, tm.getD 22 undef, tm.getD 23 undef, tm.getD 24 undef, tm.getD 25 undef, tm.getD 26 undef, tm.getD 27 undef, tm.getD 28 undef, tm.getD 29 undef, tm.getD 30 undef, tm.getD 31 undef, tm.getD 32 undef, tm.getD 33 undef, tm.getD 34 undef, tm.getD 35 undef, tm.getD 36 undef, tm.getD 37 undef, tm.getD 38 undef, tm.getD 39 undef, tm.getD 40 undef, tm.getD 41 undef, tm.getD 42 undef, tm.getD 43 undef, tm.getD 44 undef, tm.getD 45 undef, tm.getD 46 undef, tm.getD 47 undef, tm.getD 48 undef, tm.getD 49 undef, tm.getD 50 undef, tm.getD 51 undef, tm.getD 52 undef, tm.getD 53 undef, tm.getD 54 undef, tm.getD 55 undef, tm.getD 56 undef, tm.getD 57 undef, tm.getD 58 undef] := (tmps_lit hN).trans (by kernel_rfl)
    simp only [h0, h2, h3, h5, h6, h7, h8, h9, h10, h11, h12, h13, h14, h15, h16, h17, h18, h19, h20, h21, h22, h23, h24, h25, h26, h27, h28, h29, h30, h31] at htm
    clear hpre hN h0 h2 h3 h5 h6 h7 h8 h9 h10 h11 h12 h13 h14 h15 h16 h17 h18 h19 h20 h21 h22 h23 h24 h25 h26 h27 h28 h29 h30 h31
    generalize tm.getD 1 undef = u1 at htm
    generalize tm.getD 4 undef = u4 at htm
    generalize tm.getD 32 undef = u32 at htm
    generalize tm.getD 33 undef = u33 at htm
    generalize tm.getD 34 undef = u34 at htm
    generalize tm.getD 35 undef = u35 at htm
    generalize tm.getD 36 undef = u36 at htm
    generalize tm.getD 37 undef = u37 at htm
    generalize tm.getD 38 undef = u38 at htm
    generalize tm.getD 39 undef = u39 at htm
    generalize tm.getD 40 undef = u40 at htm
    generalize tm.getD 41 undef = u41 at htm
    generalize tm.getD 42 undef = u42 at htm
    generalize tm.getD 43 undef = u43 at htm
    generalize tm.getD 44 undef = u44 at htm
    generalize tm.getD 45 undef = u45 at htm
    generalize tm.getD 46 undef = u46 at htm
    generalize tm.getD 47 undef = u47 at htm
    generalize tm.getD 48 undef = u48 at htm
    generalize tm.getD 49 undef = u49 at htm
    generalize tm.getD 50 undef = u50 at htm
    generalize tm.getD 51 undef = u51 at htm
    generalize tm.getD 52 undef = u52 at htm
    generalize tm.getD 53 undef = u53 at htm
    generalize tm.getD 54 undef = u54 at htm
    generalize tm.getD 55 undef = u55 at htm
    generalize tm.getD 56 undef = u56 at htm
    generalize tm.getD 57 undef = u57 at htm
    generalize tm.getD 58 undef = u58 at htm
    subst htm
    have hsz := HR.out.2.1.lt
    have hg8 : w.heap.size ≤ g8 := by omega
    have hne : w.heap.size + 1 ≠ g8 := by omega
    have H2 := Lib.hid (And.intro (HR.out.1.below' hb2) (And.intro hrow (And.intro (HR.out.2.1.below' hb2) (bel_to HR.out.2.2 hb2))))
    have HC2 := Lib.hid (fun V (hV : Below ((((((w'.setCell ⟨g8, 0, none⟩ (.int .i64 x)).setCell ⟨g8, 1, none⟩ (.int .i64 y)).setCell ⟨g8, 2, none⟩ (.bool pin)).setCell ⟨g8, 3, none⟩ (.int .i64 (v + a))).setCell ⟨g8, 4, none⟩ (.int .i64 (v + a + b)))).heap.size ((((((w'.setCell ⟨g8, 0, none⟩ (.int .i64 x)).setCell ⟨g8, 1, none⟩ (.int .i64 y)).setCell ⟨g8, 2, none⟩ (.bool pin)).setCell ⟨g8, 3, none⟩ (.int .i64 (v + a))).setCell ⟨g8, 4, none⟩ (.int .i64 (v + a + b)))) V) => HCL.out V (bel_to hb2 hV))
    clear hb hb2 hrow hrow8 f0 m0 f1 m1 f2 m2 f3 m3 f4 m4 HCL
    generalize (((((w'.setCell ⟨g8, 0, none⟩ (.int .i64 x)).setCell ⟨g8, 1, none⟩ (.int .i64 y)).setCell ⟨g8, 2, none⟩ (.bool pin)).setCell ⟨g8, 3, none⟩ (.int .i64 (v + a))).setCell ⟨g8, 4, none⟩ (.int .i64 (v + a + b))) = W2 at *
    clear w'
    have x6 := H2.out.1.cell (i := 6) rfl
    cases pin with
    | false =>
      have d1 : decide (v + a < 1) = false := decide_eq_false (by omega)
      obtain ⟨e1, e2⟩ := HDF.out rfl
      subst e1 e2
      clear HDF HDT HDE HC2
      have l0 := H2.out.2.1.cell (i := 0) rfl
      have l1 := H2.out.2.1.cell (i := 1) rfl
      have l2 := H2.out.2.1.cell (i := 2) rfl
      have l3 := H2.out.2.1.cell (i := 3) rfl
      have l4 := H2.out.2.1.cell (i := 4) rfl
      obtain ⟨⟨f0, m0⟩, ⟨f1, m1⟩, ⟨f2, m2⟩, ⟨f3, m3⟩, ⟨f4, m4⟩, hrow⟩ := five_store (.int .i64 x) (.int .i64 y) (.bool false) (.int .i64 (v + a)) (.int .i64 (v + a + b)) (And.intro H2.out.2.2.1 H2.out.2.2.2).1
      have HQ := Lib.hid (And.intro hrow (five_below (.int .i64 x) (.int .i64 y) (.bool false) (.int .i64 (v + a)) (.int .i64 (v + a + b)) (And.intro H2.out.2.2.1 H2.out.2.2.2).2 (A := w.heap.size + 1) (by omega)))
      clear hrow
      go_wp2
      have q0 := HQ.out.1.cell (i := 0) rfl
      have q1 := HQ.out.1.cell (i := 1) rfl
      have q2 := HQ.out.1.cell (i := 2) rfl
      have q3 := HQ.out.1.cell (i := 3) rfl
      have q4 := HQ.out.1.cell (i := 4) rfl
      refine bodyPost_ret (v := .tuple #[.agg #[.int .i64 x, .int .i64 y, .bool false, .int .i64 (v + a), .int .i64 (v + a + b)], .int .i64 0]) (by simp [results, Tryz.results75, go_sem, q0, q1, q2, q3, q4]) rfl ⟨rfl, HQ.out.2⟩
    | true =>
      go_wp2_with fail
      have HCL := HC2
      clear x6 HC2 HDF
      refine region_grow_tail (ψ := psi [(0, .int .i64 (i : Int)), (2, .pointer (some ⟨sb, 0, none⟩)), (3, .pointer (some ⟨mb, 0, none⟩)), (5, .pointer (some ⟨w.heap.size, 0, none⟩)), (6, .pointer (some ⟨w.heap.size + 1, 0, none⟩)), (7, .int .i64 0), (8, .pointer (some ⟨g8, 0, none⟩)), (34, .slice (some ⟨bq, oq, none⟩) n cap), (35, .int .i64 (i : Int)), (36, .pointer (some ⟨bq, oq + i, none⟩)), (37, .int .i64 v), (38, .pointer (some ⟨mb, 0, none⟩)), (39, .int .i64 a), (40, .int .i64 (v - a)), (41, .pointer (some ⟨mb, 1, none⟩)), (42, .int .i64 b), (43, .int .i64 (v - a - b)), (44, .slice (some ⟨bq, oq, none⟩) n cap), (45, .int .i64 (i : Int)), (46, .pointer (some ⟨bq, oq + i, none⟩)), (47, .int .i64 v), (48, .pointer (some ⟨mb, 0, none⟩)), (49, .int .i64 a), (50, .int .i64 (v - a)), (51, .agg #[.int .i64 (v - a - b), .int .i64 (v - a)]), (52, .pointer (some ⟨g8, 3, none⟩))] []) 59 19 (by kernel_rfl) (by kernel_rfl) (by kernel_rfl) (by kernel_rfl) (by decide) (by kernel_rfl) (psi_st ?_) rfl ?_ ?_ ?_
      · intro p hp w w' v hb h
        exact absurd hp List.not_mem_nil
      · intro t ht hno
        unfold psi
        split
        · rename_i c hc
          have hm := lookup_mem hc
          simp only [List.mem_cons, List.not_mem_nil, or_false, Prod.mk.injEq] at hm
          repeat' (rcases hm with ⟨rfl, rfl⟩ | hm)
          all_goals first
            | rfl
            | exact Bool.noConfusion (show true = false from hno)
            | (obtain ⟨rfl, rfl⟩ := hm; first | rfl | exact Bool.noConfusion (show true = false from hno))
        · split
          · rename_i p hp
            exact absurd (lookup_mem hp) List.not_mem_nil
          · trivial
      · simp only [List.take_succ_cons, List.take_zero]
        repeat' (first | exact List.forall_mem_nil _ | refine List.forall_mem_cons.2 ⟨?_, ?_⟩)
        · intro aa w' hb hN hpre
          have h2 : aa.tmps.getD 2 undef = (.pointer (some ⟨sb, 0, none⟩) : Value) := hpre 2 (by simp [Op.operands])
          obtain ⟨x0, x1, x6, s0, e0, a0, a1⟩ := HCL.out w' hb
          exact step_val (v := .slice (some ⟨bq, oq, none⟩) n cap) rfl (by simp only [execOp, Act.eval, h2]; go_simp) rfl
        · intro aa w' hb hN hpre
          have h0 : aa.tmps.getD 0 undef = (.int .i64 (i : Int) : Value) := hpre 0 (by simp [Op.operands])
          exact step_val (v := .int .i64 (i : Int)) rfl (by rw [← h0]; rfl) rfl
        · intro aa w' hb hN hpre
          have h34 : aa.tmps.getD 34 undef = (.slice (some ⟨bq, oq, none⟩) n cap : Value) := hpre 34 (by simp [Op.operands])
          have h35 : aa.tmps.getD 35 undef = (.int .i64 (i : Int) : Value) := hpre 35 (by simp [Op.operands])
          exact step_val (v := .pointer (some ⟨bq, oq + i, none⟩)) rfl (by simp only [execOp, Act.eval, h34, h35]; go_simp) rfl
        · intro aa w' hb hN hpre
          have h36 : aa.tmps.getD 36 undef = (.pointer (some ⟨bq, oq + i, none⟩) : Value) := hpre 36 (by simp [Op.operands])
          obtain ⟨x0, x1, x6, s0, e0, a0, a1⟩ := HCL.out w' hb
          exact step_val (v := .int .i64 v) rfl (by simp only [execOp, Act.eval, h36]; go_simp) rfl
        · intro aa w' hb hN hpre
          have h3 : aa.tmps.getD 3 undef = (.pointer (some ⟨mb, 0, none⟩) : Value) := hpre 3 (by simp [Op.operands])
          exact step_val (v := .pointer (some ⟨mb, 0, none⟩)) rfl (by simp only [execOp, Act.eval, h3]; go_simp) rfl
        · intro aa w' hb hN hpre
          have h38 : aa.tmps.getD 38 undef = (.pointer (some ⟨mb, 0, none⟩) : Value) := hpre 38 (by simp [Op.operands])
          obtain ⟨x0, x1, x6, s0, e0, a0, a1⟩ := HCL.out w' hb
          exact step_val (v := .int .i64 a) rfl (by simp only [execOp, Act.eval, h38]; go_simp) rfl
        · intro aa w' hb hN hpre
          have h37 : aa.tmps.getD 37 undef = (.int .i64 v : Value) := hpre 37 (by simp [Op.operands])
          have h39 : aa.tmps.getD 39 undef = (.int .i64 a : Value) := hpre 39 (by simp [Op.operands])
          exact step_val (v := .int .i64 (v - a)) rfl (by simp only [execOp, Act.eval, h37, h39]; go_simp) rfl
        · intro aa w' hb hN hpre
          have h3 : aa.tmps.getD 3 undef = (.pointer (some ⟨mb, 0, none⟩) : Value) := hpre 3 (by simp [Op.operands])
          exact step_val (v := .pointer (some ⟨mb, 1, none⟩)) rfl (by simp only [execOp, Act.eval, h3]; go_simp) rfl
        · intro aa w' hb hN hpre
          have h41 : aa.tmps.getD 41 undef = (.pointer (some ⟨mb, 1, none⟩) : Value) := hpre 41 (by simp [Op.operands])
          obtain ⟨x0, x1, x6, s0, e0, a0, a1⟩ := HCL.out w' hb
          exact step_val (v := .int .i64 b) rfl (by simp only [execOp, Act.eval, h41]; go_simp) rfl
        · intro aa w' hb hN hpre
          have h40 : aa.tmps.getD 40 undef = (.int .i64 (v - a) : Value) := hpre 40 (by simp [Op.operands])
          have h42 : aa.tmps.getD 42 undef = (.int .i64 b : Value) := hpre 42 (by simp [Op.operands])
          exact step_val (v := .int .i64 (v - a - b)) rfl (by simp only [execOp, Act.eval, h40, h42]; go_simp) rfl
        · intro aa w' hb hN hpre
          have h2 : aa.tmps.getD 2 undef = (.pointer (some ⟨sb, 0, none⟩) : Value) := hpre 2 (by simp [Op.operands])
          obtain ⟨x0, x1, x6, s0, e0, a0, a1⟩ := HCL.out w' hb
          exact step_val (v := .slice (some ⟨bq, oq, none⟩) n cap) rfl (by simp only [execOp, Act.eval, h2]; go_simp) rfl
        · intro aa w' hb hN hpre
          have h0 : aa.tmps.getD 0 undef = (.int .i64 (i : Int) : Value) := hpre 0 (by simp [Op.operands])
          exact step_val (v := .int .i64 (i : Int)) rfl (by rw [← h0]; rfl) rfl
        · intro aa w' hb hN hpre
          have h44 : aa.tmps.getD 44 undef = (.slice (some ⟨bq, oq, none⟩) n cap : Value) := hpre 44 (by simp [Op.operands])
          have h45 : aa.tmps.getD 45 undef = (.int .i64 (i : Int) : Value) := hpre 45 (by simp [Op.operands])
          exact step_val (v := .pointer (some ⟨bq, oq + i, none⟩)) rfl (by simp only [execOp, Act.eval, h44, h45]; go_simp) rfl
        · intro aa w' hb hN hpre
          have h46 : aa.tmps.getD 46 undef = (.pointer (some ⟨bq, oq + i, none⟩) : Value) := hpre 46 (by simp [Op.operands])
          obtain ⟨x0, x1, x6, s0, e0, a0, a1⟩ := HCL.out w' hb
          exact step_val (v := .int .i64 v) rfl (by simp only [execOp, Act.eval, h46]; go_simp) rfl
        · intro aa w' hb hN hpre
          have h3 : aa.tmps.getD 3 undef = (.pointer (some ⟨mb, 0, none⟩) : Value) := hpre 3 (by simp [Op.operands])
          exact step_val (v := .pointer (some ⟨mb, 0, none⟩)) rfl (by simp only [execOp, Act.eval, h3]; go_simp) rfl
        · intro aa w' hb hN hpre
          have h48 : aa.tmps.getD 48 undef = (.pointer (some ⟨mb, 0, none⟩) : Value) := hpre 48 (by simp [Op.operands])
          obtain ⟨x0, x1, x6, s0, e0, a0, a1⟩ := HCL.out w' hb
          exact step_val (v := .int .i64 a) rfl (by simp only [execOp, Act.eval, h48]; go_simp) rfl
        · intro aa w' hb hN hpre
          have h47 : aa.tmps.getD 47 undef = (.int .i64 v : Value) := hpre 47 (by simp [Op.operands])
          have h49 : aa.tmps.getD 49 undef = (.int .i64 a : Value) := hpre 49 (by simp [Op.operands])
          exact step_val (v := .int .i64 (v - a)) rfl (by simp only [execOp, Act.eval, h47, h49]; go_simp) rfl
        · intro aa w' hb hN hpre
          have h43 : aa.tmps.getD 43 undef = (.int .i64 (v - a - b) : Value) := hpre 43 (by simp [Op.operands])
          have h50 : aa.tmps.getD 50 undef = (.int .i64 (v - a) : Value) := hpre 50 (by simp [Op.operands])
          exact step_val (v := .agg #[.int .i64 (v - a - b), .int .i64 (v - a)]) rfl (by simp only [execOp, List.map_toArray, List.map_cons, List.map_nil, Act.eval, h43, h50]; go_simp) rfl
        · intro aa w' hb hN hpre
          have h8 : aa.tmps.getD 8 undef = (.pointer (some ⟨g8, 0, none⟩) : Value) := hpre 8 (by simp [Op.operands])
          exact step_val (v := .pointer (some ⟨g8, 3, none⟩)) rfl (by simp only [execOp, Act.eval, h8]; go_simp) rfl
      · intro a' w' hb hd hN hpre
        have h0 : a'.tmps.getD 0 undef = (.int .i64 (i : Int) : Value) := hpre 0 (by decide)
        have h2 : a'.tmps.getD 2 undef = (.pointer (some ⟨sb, 0, none⟩) : Value) := hpre 2 (by decide)
        have h3 : a'.tmps.getD 3 undef = (.pointer (some ⟨mb, 0, none⟩) : Value) := hpre 3 (by decide)
        have h5 : a'.tmps.getD 5 undef = (.pointer (some ⟨w.heap.size, 0, none⟩) : Value) := hpre 5 (by decide)
        have h6 : a'.tmps.getD 6 undef = (.pointer (some ⟨w.heap.size + 1, 0, none⟩) : Value) := hpre 6 (by decide)
        have h7 : a'.tmps.getD 7 undef = (.int .i64 0 : Value) := hpre 7 (by decide)
        have h8 : a'.tmps.getD 8 undef = (.pointer (some ⟨g8, 0, none⟩) : Value) := hpre 8 (by decide)
        have h34 : a'.tmps.getD 34 undef = (.slice (some ⟨bq, oq, none⟩) n cap : Value) := hpre 34 (by decide)
        have h35 : a'.tmps.getD 35 undef = (.int .i64 (i : Int) : Value) := hpre 35 (by decide)
        have h36 : a'.tmps.getD 36 undef = (.pointer (some ⟨bq, oq + i, none⟩) : Value) := hpre 36 (by decide)
        have h37 : a'.tmps.getD 37 undef = (.int .i64 v : Value) := hpre 37 (by decide)
        have h38 : a'.tmps.getD 38 undef = (.pointer (some ⟨mb, 0, none⟩) : Value) := hpre 38 (by decide)
        have h39 : a'.tmps.getD 39 undef = (.int .i64 a : Value) := hpre 39 (by decide)
        have h40 : a'.tmps.getD 40 undef = (.int .i64 (v - a) : Value) := hpre 40 (by decide)
        have h41 : a'.tmps.getD 41 undef = (.pointer (some ⟨mb, 1, none⟩) : Value) := hpre 41 (by decide)
        have h42 : a'.tmps.getD 42 undef = (.int .i64 b : Value) := hpre 42 (by decide)
        have h43 : a'.tmps.getD 43 undef = (.int .i64 (v - a - b) : Value) := hpre 43 (by decide)
        have h44 : a'.tmps.getD 44 undef = (.slice (some ⟨bq, oq, none⟩) n cap : Value) := hpre 44 (by decide)
        have h45 : a'.tmps.getD 45 undef = (.int .i64 (i : Int) : Value) := hpre 45 (by decide)
        have h46 : a'.tmps.getD 46 undef = (.pointer (some ⟨bq, oq + i, none⟩) : Value) := hpre 46 (by decide)
        have h47 : a'.tmps.getD 47 undef = (.int .i64 v : Value) := hpre 47 (by decide)
        have h48 : a'.tmps.getD 48 undef = (.pointer (some ⟨mb, 0, none⟩) : Value) := hpre 48 (by decide)
        have h49 : a'.tmps.getD 49 undef = (.int .i64 a : Value) := hpre 49 (by decide)
        have h50 : a'.tmps.getD 50 undef = (.int .i64 (v - a) : Value) := hpre 50 (by decide)
        have h51 : a'.tmps.getD 51 undef = (.agg #[.int .i64 (v - a - b), .int .i64 (v - a)] : Value) := hpre 51 (by decide)
        have h52 : a'.tmps.getD 52 undef = (.pointer (some ⟨g8, 3, none⟩) : Value) := hpre 52 (by decide)
        have hr0 := H2.out.2.1.below' hb
        have hr1 := hr0.set 3 (.int .i64 (v - a - b))
        have hr2 := hr1.set 4 (.int .i64 (v - a))
        have f3 := hr0.free 3
        have f4 := hr1.free 4
        have m3 := hr0.cell (i := 3) rfl
        have m4 := hr1.cell (i := 4) rfl
        have hb2 := ((bel_to H2.out.2.2.2 hb).setCell (p := ⟨g8, 3, none⟩) hg8 (.int .i64 (v - a - b))).setCell (p := ⟨g8, 4, none⟩) hg8 (.int .i64 (v - a))
        simp only [List.drop_succ_cons, List.drop_zero]
        refine wpList_store (w1 := ((w'.setCell ⟨g8, 3, none⟩ (.int .i64 (v - a - b))).setCell ⟨g8, 4, none⟩ (.int .i64 (v - a)))) rfl rfl (by simp only [execOp, Act.eval, h52, h51]; go_simp) ?_
        obtain ⟨tm, df⟩ := a'
        simp only at hd hN hpre h0 h2 h3 h5 h6 h7 h8 h34 h35 h36 h37 h38 h39 h40 h41 h42 h43 h44 h45 h46 h47 h48 h49 h50 h51 h52
        subst hd
        have htm : tm = #[tm.getD 0 undef, tm.getD 1 undef, tm.getD 2 undef, tm.getD 3 undef, tm.getD 4 undef, tm.getD 5 undef, tm.getD 6 undef, tm.getD 7 undef, tm.getD 8 undef, tm.getD 9 undef, tm.getD 10 undef, tm.getD 11 undef, tm.getD 12 undef, tm.getD 13 undef, tm.getD 14 undef, tm.getD 15 undef, tm.getD 16 undef, tm.getD 17 undef, tm.getD 18 undef, tm.getD 19 undef, tm.getD 20 undef, tm.getD 21 undef, tm.getD 22 undef, tm.getD 23 undef, tm.getD 24 undef, tm.getD 25 undef, tm.getD 26 undef, tm.getD 27 undef, tm.getD 28 undef, tm.getD 29 undef, tm.getD 30 undef, tm.getD 31 undef, tm.getD 32 undef, tm.getD 33 undef, tm.getD 34 undef, tm.getD 35 undef, tm.getD 36 undef, tm.getD 37 undef, tm.getD 38 undef, tm.getD 39 undef, tm.getD 40 undef, tm.getD 41 undef, tm.getD 42 undef, tm.getD 43 undef, tm.getD 44 undef, tm.getD 45 undef, tm.getD 46 undef, tm.getD 47 undef, tm.getD 48 undef, tm.getD 49 undef, tm.getD 50 undef, tm.getD 51 undef, tm.getD 52 undef, tm.getD 53 undef, tm.getD 54 undef, tm.getD 55 undef, tm.getD 56 undef, tm.getD 57 undef, tm.getD 58 undef] := (tmps_lit hN).trans (by kernel_rfl)
        simp only [h0, h2, h3, h5, h6, h7, h8, h34, h35, h36, h37, h38, h39, h40, h41, h42, h43, h44, h45, h46, h47, h48, h49, h50, h51, h52] at htm
        clear hpre hN h0 h2 h3 h5 h6 h7 h8 h34 h35 h36 h37 h38 h39 h40 h41 h42 h43 h44 h45 h46 h47 h48 h49 h50 h51 h52
        generalize tm.getD 1 undef = u1 at htm
        generalize tm.getD 4 undef = u4 at htm
        generalize tm.getD 9 undef = u9 at htm
        generalize tm.getD 10 undef = u10 at htm
        generalize tm.getD 11 undef = u11 at htm
        generalize tm.getD 12 undef = u12 at htm
        generalize tm.getD 13 undef = u13 at htm
        generalize tm.getD 14 undef = u14 at htm
        generalize tm.getD 15 undef = u15 at htm
        generalize tm.getD 16 undef = u16 at htm
        generalize tm.getD 17 undef = u17 at htm
        generalize tm.getD 18 undef = u18 at htm
        generalize tm.getD 19 undef = u19 at htm
        generalize tm.getD 20 undef = u20 at htm
        generalize tm.getD 21 undef = u21 at htm
        generalize tm.getD 22 undef = u22 at htm
        generalize tm.getD 23 undef = u23 at htm
        generalize tm.getD 24 undef = u24 at htm
        generalize tm.getD 25 undef = u25 at htm
        generalize tm.getD 26 undef = u26 at htm
        generalize tm.getD 27 undef = u27 at htm
        generalize tm.getD 28 undef = u28 at htm
        generalize tm.getD 29 undef = u29 at htm
        generalize tm.getD 30 undef = u30 at htm
        generalize tm.getD 31 undef = u31 at htm
        generalize tm.getD 32 undef = u32 at htm
        generalize tm.getD 33 undef = u33 at htm
        generalize tm.getD 53 undef = u53 at htm
        generalize tm.getD 54 undef = u54 at htm
        generalize tm.getD 55 undef = u55 at htm
        generalize tm.getD 56 undef = u56 at htm
        generalize tm.getD 57 undef = u57 at htm
        generalize tm.getD 58 undef = u58 at htm
        subst htm
        have hrr := row_other (p := ⟨g8, 4, none⟩) (row_other (p := ⟨g8, 3, none⟩) (H2.out.2.2.1.below' hb) hne (.int .i64 (v - a - b))) hne (.int .i64 (v - a))
        have H4 := Lib.hid (And.intro hr2 (And.intro hrr hb2))
        clear hb hb2 hr0 hr1 hr2 hrr f3 m3 f4 m4 HCL H2 HC HE
        generalize ((w'.setCell ⟨g8, 3, none⟩ (.int .i64 (v - a - b))).setCell ⟨g8, 4, none⟩ (.int .i64 (v - a))) = W3 at *
        clear w'
        have l3 := H4.out.1.cell (i := 3) rfl
        by_cases hlow : v - a - b < 1
        · have d1 : decide (v - a - b < 1) = true := decide_eq_true hlow
          obtain ⟨e1, e2⟩ := HDE.out trivial hlow
          subst e1 e2
          clear HDE HDT
          obtain ⟨⟨f0, m0⟩, ⟨f1, m1⟩, ⟨f2, m2⟩, ⟨f3, m3⟩, ⟨f4, m4⟩, hrow⟩ := five_store (.int .i64 0) (.int .i64 0) (.bool false) (.int .i64 0) (.int .i64 0) (And.intro H4.out.2.1 H4.out.2.2).1
          have HQ := Lib.hid (And.intro hrow (five_below (.int .i64 0) (.int .i64 0) (.bool false) (.int .i64 0) (.int .i64 0) (And.intro H4.out.2.1 H4.out.2.2).2 (A := w.heap.size + 1) (by omega)))
          clear hrow
          go_wp2
          have q0 := HQ.out.1.cell (i := 0) rfl
          have q1 := HQ.out.1.cell (i := 1) rfl
          have q2 := HQ.out.1.cell (i := 2) rfl
          have q3 := HQ.out.1.cell (i := 3) rfl
          have q4 := HQ.out.1.cell (i := 4) rfl
          refine bodyPost_ret (v := .tuple #[.agg #[.int .i64 0, .int .i64 0, .bool false, .int .i64 0, .int .i64 0], .int .i64 14]) (by simp [results, Tryz.results75, go_sem, q0, q1, q2, q3, q4]) rfl ⟨rfl, HQ.out.2⟩
        · have d1 : decide (v - a - b < 1) = false := decide_eq_false hlow
          obtain ⟨e1, e2⟩ := HDT.out trivial (by omega)
          subst e1 e2
          clear HDE HDT l3
          have l0 := H4.out.1.cell (i := 0) rfl
          have l1 := H4.out.1.cell (i := 1) rfl
          have l2 := H4.out.1.cell (i := 2) rfl
          have l3 := H4.out.1.cell (i := 3) rfl
          have l4 := H4.out.1.cell (i := 4) rfl
          obtain ⟨⟨f0, m0⟩, ⟨f1, m1⟩, ⟨f2, m2⟩, ⟨f3, m3⟩, ⟨f4, m4⟩, hrow⟩ := five_store (.int .i64 x) (.int .i64 y) (.bool true) (.int .i64 (v - a - b)) (.int .i64 (v - a)) (And.intro H4.out.2.1 H4.out.2.2).1
          have HQ := Lib.hid (And.intro hrow (five_below (.int .i64 x) (.int .i64 y) (.bool true) (.int .i64 (v - a - b)) (.int .i64 (v - a)) (And.intro H4.out.2.1 H4.out.2.2).2 (A := w.heap.size + 1) (by omega)))
          clear hrow
          go_wp2
          have q0 := HQ.out.1.cell (i := 0) rfl
          have q1 := HQ.out.1.cell (i := 1) rfl
          have q2 := HQ.out.1.cell (i := 2) rfl
          have q3 := HQ.out.1.cell (i := 3) rfl
          have q4 := HQ.out.1.cell (i := 4) rfl
          refine bodyPost_ret (v := .tuple #[.agg #[.int .i64 x, .int .i64 y, .bool true, .int .i64 (v - a - b), .int .i64 (v - a)], .int .i64 0]) (by simp [results, Tryz.results75, go_sem, q0, q1, q2, q3, q4]) rfl ⟨rfl, HQ.out.2⟩
theorem ent_des1 : Enters Tryz.prog 75 := enters_of Tryz.func75 (by kernel_rfl) rfl
def DesP (l : List Tg) (a b : Int) (w : World) (e : Ending) (w' : World) : Prop := ((∃ v, e = .returned (.tuple #[v, .int .i64 0]) ∧ (∀ t ∈ l, desC a b t = 0) ∧ OwnEL w' w.heap.size v (l.map (desQ a b))) ∨ (∃ t ∈ l, desC a b t ≠ 0) ∧ e = .returned (.tuple #[.slice none 0 0, .int .i64 14])) ∧ Below w.heap.size w w'
theorem gdesign (vl : Value) (l : List Tg) (a b : Int) (w : World) (hs : Sig w) (hl : RdG w vl l) (h0 : 0 < l.length) (hn : l.length ≤ 16) (ht : ∀ t ∈ l, RtT t ∧ t.mat = 1) (ha : 0 ≤ a ∧ a ≤ 100000) (hb : 0 ≤ b ∧ b ≤ 100000) :
    Calls Tryz.prog 38 #[vl, .agg #[.int .i64 a, .int .i64 b]] w (DesP l a b w) := by
  have HV := Lib.hid (fun W (hW : Below w.heap.size w W) => gvirtual vl l W (hs.below hW) (hl.below hW) h0 hn ht)
  have HG := Lib.hid (fun sb vs W (hW : Below w.heap.size w W) (h1 : Row W sb 45 [vs]) (h2 : Row W w.heap.size 59 [.int .i64 a, .int .i64 b]) (h3 : RdI W vs (l.map virt)) =>
    gmapE 75 (.pointer (some ⟨sb, 0, none⟩)) (.pointer (some ⟨w.heap.size, 0, none⟩)) (desQ a b) (desC a b) vl l W ent_des1 (hl.below hW) hn (fun wx hx i hi =>
      gdes1 i l[i] sb w.heap.size vs (l.map virt) a b wx (h1.below' hx) (h2.below' hx) (h3.below hx) (by rw [List.length_map]; exact hi) (by rw [List.getElem_map]) (virt_rng (ht _ (List.getElem_mem hi)).1) ha hb))
  have h14 := Lib.hid (show ∀ t : Tg, desC a b t ≠ 0 → desC a b t = 14 from fun t h => by
    unfold desC at h ⊢
    split at h
    · rw [if_pos ‹_›]
    · exact absurd rfl h)
  obtain ⟨A, cap, rfl⟩ := hl.len
  have HR := Lib.hid (And.intro (rnw (w := w) (t := 59) (xs := [.int .i64 a, .int .i64 b])) (bel_al w (.cells #[.int .i64 a, .int .i64 b] 59 (0, 0))))
  have d1 : decide (a < 0) = false := decide_eq_false (by omega)
  have d2 : decide (100000 < a) = false := decide_eq_false (by omega)
  have d3 : decide (b < 0) = false := decide_eq_false (by omega)
  have d4 : decide (100000 < b) = false := decide_eq_false (by omega)
  clear hs hl ht h0 hn ha hb
  unfold DesP
  go_enter Tryz.func38, Tryz.ntmps38
  go_wp2_with fail
  refine (HV.out _ HR.out.2).mono ?_
  rintro e w1 ⟨vs, rfl, ho, hb1⟩
  obtain ⟨VA, vn, vc, hv⟩ := ho.shape
  subst hv
  have hal := bel_al w1 (.cells #[.slice VA vn vc] 45 (0, 0))
  have hrs : Row (w1.alloc (.cells #[.slice VA vn vc] 45 (0, 0))) w1.heap.size 45 [.slice VA vn vc] := rnw
  have H1 := Lib.hid (And.intro ((HR.out.1.below' hb1).below' hal) (And.intro (ho.rd.below hal) (And.intro hrs (bel_to (bel_to HR.out.2 hb1) hal))))
  clear ho hb1 hal hrs HR HV
  have m0 := H1.out.1.cell (i := 0) rfl
  have m1 := H1.out.1.cell (i := 1) rfl
  go_wp2_with fail
  generalize w1.alloc (.cells #[.slice VA vn vc] 45 (0, 0)) = V at *
  generalize w1.heap.size = sb at *
  have hx0 : ∀ W, (Instr.index 159 (.agg #[.int .i64 a, .int .i64 b]) (.int .i64 0)).run Tryz.prog W = .ok (.int .i64 a) W := fun _ => by kernel_rfl
  have hx1 : ∀ W, (Instr.index 159 (.agg #[.int .i64 a, .int .i64 b]) (.int .i64 1)).run Tryz.prog W = .ok (.int .i64 b) W := fun _ => by kernel_rfl
  refine wp_loop_rounds 3 ?_
  rw [rounds_succ]
  go_wp2
  rw [rounds_succ]
  go_wp2
  rw [rounds_succ]
  go_wp2_with fail
  refine (HG.out _ _ _ H1.out.2.2.2 H1.out.2.2.1 H1.out.1 H1.out.2.1).mono ?_
  rintro e w2 ⟨hq, hb2⟩
  have hb2 := bel_to H1.out.2.2.2 hb2
  have hsz := H1.out.2.2.2.size
  clear H1 HG m0 m1
  rcases hq with ⟨v, rfl, h0, hv⟩ | ⟨t, ht, hc, rfl⟩
  · obtain ⟨EA, en, ec, he⟩ := hv.shape
    subst he
    have HO := Lib.hid (And.intro (And.intro h0 (hv.base hsz)) hb2)
    clear h0 hv hb2 hsz
    go_wp2
    go_ret2
    exact ⟨Or.inl ⟨_, rfl, HO.out.1.1, HO.out.1.2⟩, HO.out.2⟩
  · have HN := Lib.hid (show ∃ t ∈ l, desC a b t ≠ 0 from ⟨t, ht, hc⟩)
    rw [h14.out t hc]
    clear hc ht h14
    go_wp2
    go_ret2
    exact ⟨Or.inr ⟨HN.out, rfl⟩, hb2⟩
end W
end Go.Proofs.YtellemlhhlafcaaGreatDoor
end
section
namespace Go.Proofs.YtellemlhhlafcaaGreatDoor
open Go Go.RowKit Go.Deep Go.Sort
theorem four_store {w : World} {A : Nat} {t : TypeId} {x0 x1 x2 x3 : Value} (y0 y1 y2 y3 : Value) (hr : Row w A t [x0, x1, x2, x3]) :
    (w.frozen? ⟨A, 0, none⟩ = false ∧ w.cell? ⟨A, 0, none⟩ = some x0) ∧
    ((w.setCell ⟨A, 0, none⟩ y0).frozen? ⟨A, 1, none⟩ = false ∧ (w.setCell ⟨A, 0, none⟩ y0).cell? ⟨A, 1, none⟩ = some x1) ∧
    (((w.setCell ⟨A, 0, none⟩ y0).setCell ⟨A, 1, none⟩ y1).frozen? ⟨A, 2, none⟩ = false ∧ ((w.setCell ⟨A, 0, none⟩ y0).setCell ⟨A, 1, none⟩ y1).cell? ⟨A, 2, none⟩ = some x2) ∧
    ((((w.setCell ⟨A, 0, none⟩ y0).setCell ⟨A, 1, none⟩ y1).setCell ⟨A, 2, none⟩ y2).frozen? ⟨A, 3, none⟩ = false ∧ (((w.setCell ⟨A, 0, none⟩ y0).setCell ⟨A, 1, none⟩ y1).setCell ⟨A, 2, none⟩ y2).cell? ⟨A, 3, none⟩ = some x3) ∧
    Row ((((w.setCell ⟨A, 0, none⟩ y0).setCell ⟨A, 1, none⟩ y1).setCell ⟨A, 2, none⟩ y2).setCell ⟨A, 3, none⟩ y3) A t [y0, y1, y2, y3] := by
  have h1 := hr.set 0 y0
  have h2 := h1.set 1 y1
  have h3 := h2.set 2 y2
  exact ⟨⟨hr.free 0, hr.cell rfl⟩, ⟨h1.free 1, h1.cell rfl⟩, ⟨h2.free 2, h2.cell rfl⟩, ⟨h3.free 3, h3.cell rfl⟩, h3.set 3 y3⟩
theorem four_below {w0 w : World} {A : Nat} (y0 y1 y2 y3 : Value) (hb : Below w0.heap.size w0 w) (hA : w0.heap.size ≤ A) :
    Below w0.heap.size w0 ((((w.setCell ⟨A, 0, none⟩ y0).setCell ⟨A, 1, none⟩ y1).setCell ⟨A, 2, none⟩ y2).setCell ⟨A, 3, none⟩ y3) :=
  (((hb.setCell (p := ⟨A, 0, none⟩) hA y0).setCell (p := ⟨A, 1, none⟩) hA y1).setCell (p := ⟨A, 2, none⟩) hA y2).setCell (p := ⟨A, 3, none⟩) hA y3
theorem srcTL_one (V : World) (d : M.To) (j : Nat) (u : Value) (hu : (csTL [d])[j]? = some u) (g : Nat) (hg : g = V.heap.size) : (V.alloc (.cells #[.int .i64 d.x, .int .i64 d.y, .bool d.hole, .int .i64 d.n] 67 (0, 0))).cell? ((⟨g, 0, none⟩ : Addr).add j) = some u := by
  subst hg
  have hr : Row (V.alloc (.cells #[.int .i64 d.x, .int .i64 d.y, .bool d.hole, .int .i64 d.n] 67 (0, 0))) V.heap.size 67 (csTL [d]) := rnw
  have hadd : (⟨V.heap.size, 0, none⟩ : Addr).add j = ⟨V.heap.size, j, none⟩ := by unfold Addr.add; split <;> simp_all
  rw [hadd]
  exact hr.cell hu
theorem OwnTL.base {w : World} {B B' : Nat} {v : Value} {l : List M.To} (h : OwnTL w B v l) (hB : B' ≤ B) : OwnTL w B' v l := by
  refine ⟨h.1, ?_⟩
  rcases h.2 with h2 | ⟨g, cap, cur, h2, h3, h4⟩
  · exact Or.inl h2
  · exact Or.inr ⟨g, cap, cur, h2, Nat.le_trans hB h3, h4⟩
namespace W
open M
attribute [local go_sem] bs_size bs_toList bs_get bs_extract bs_append bs_lit0 bs_lit1 lit1_bs
set_option maxHeartbeats 1000000
set_option maxRecDepth 20000
theorem granged (n : Int) (w : World) (h : 1 ≤ n ∧ n ≤ 300000) : Calls Tryz.prog 125 #[.int .i64 n] w fun e w' => e = .returned (.bool true) ∧ w = w' := by
  have h1 : decide (1 ≤ n) = true := decide_eq_true h.1
  have h2 : decide (n ≤ 300000) = true := decide_eq_true h.2
  clear h
  go_enter Tryz.func125, Tryz.ntmps125
  go_wp2
  go_ret
  exact ⟨rfl, rfl⟩
theorem glimits (lo hi : Int) (w : World) (h1 : 1 ≤ lo) (h2 : lo ≤ hi) (h3 : hi ≤ 300000) : Calls Tryz.prog 79 #[.agg #[.int .i64 lo, .int .i64 hi]] w (Ret w (.int .i64 0)) := by
  have HL := Lib.hid (fun W => granged lo W ⟨h1, by omega⟩)
  have HH := Lib.hid (fun W => granged hi W ⟨by omega, h3⟩)
  have hb0 := bel_al w (.cells #[.int .i64 lo, .int .i64 hi] 25 (0, 0))
  have d1 : decide (hi < lo) = false := decide_eq_false (by omega)
  clear h1 h2 h3
  go_enter Tryz.func79, Tryz.ntmps79
  go_wp2_with fail
  refine (HL.out _).mono ?_
  rintro e w' ⟨rfl, rfl⟩
  go_wp2_with fail
  refine (HH.out _).mono ?_
  rintro e w' ⟨rfl, rfl⟩
  go_wp2
  go_ret
  exact Ret.of rfl hb0
theorem gmade1 (i : Int) (e : El) (bb : Nat) (w : World) (hb : Row w bb 4 [.bool true]) (h1 : 1 ≤ e.lo) (h2 : e.lo ≤ e.hi) (h3 : e.hi ≤ 300000) :
    Calls Tryz.prog 78 #[.int .i64 i, elV e, .pointer (some ⟨bb, 0, none⟩)] w (Ret w (.tuple #[toV (hiT e), .int .i64 0])) := by
  have HL := Lib.hid (fun W => glimits e.lo e.hi W h1 h2 h3)
  obtain ⟨x, y, hole, lo, hi⟩ := e
  unfold elV toV hiT
  simp only at HL ⊢
  clear h1 h2 h3
  have hb0 := bel_al2 w (.cells #[.int .i64 x, .int .i64 y, .bool hole, .int .i64 lo, .int .i64 hi] 162 (0, 0)) (.cells #[.int .i64 0, .int .i64 0, .bool false, .int .i64 0] 67 (0, 0))
  have hr1 : Row ((w.alloc (.cells #[.int .i64 x, .int .i64 y, .bool hole, .int .i64 lo, .int .i64 hi] 162 (0, 0))).alloc (.cells #[.int .i64 0, .int .i64 0, .bool false, .int .i64 0] 67 (0, 0))) w.heap.size 162 [.int .i64 x, .int .i64 y, .bool hole, .int .i64 lo, .int .i64 hi] := rnw.alloc _
  have hr2 : Row ((w.alloc (.cells #[.int .i64 x, .int .i64 y, .bool hole, .int .i64 lo, .int .i64 hi] 162 (0, 0))).alloc (.cells #[.int .i64 0, .int .i64 0, .bool false, .int .i64 0] 67 (0, 0))) (w.heap.size + 1) 67 [.int .i64 0, .int .i64 0, .bool false, .int .i64 0] := rnew0 (World.size_alloc _ _).symm
  have HR := Lib.hid (And.intro hr1 (And.intro hr2 (And.intro (hb.below' hb0) hb0)))
  clear hr1 hr2 hb0 hb
  go_enter Tryz.func78, Tryz.ntmps78
  go_wp2_with fail
  refine (HL.out _).mono ?_
  rintro e w1 ⟨rfl, hb1⟩
  have H1 := Lib.hid (And.intro (HR.out.1.below' hb1) (And.intro (HR.out.2.1.below' hb1) (And.intro (HR.out.2.2.1.below' hb1) (bel_to HR.out.2.2.2 hb1))))
  clear hb1 HR HL
  have c0 := H1.out.1.cell (i := 0) rfl
  have c1 := H1.out.1.cell (i := 1) rfl
  have c2 := H1.out.1.cell (i := 2) rfl
  have c4 := H1.out.1.cell (i := 4) rfl
  have hh := H1.out.2.2.1.cell (i := 0) rfl
  obtain ⟨⟨f0, m0⟩, ⟨f1, m1⟩, ⟨f2, m2⟩, ⟨f3, m3⟩, hrow⟩ := four_store (.int .i64 x) (.int .i64 y) (.bool hole) (.int .i64 hi) H1.out.2.1
  have HQ := Lib.hid (And.intro hrow (four_below (.int .i64 x) (.int .i64 y) (.bool hole) (.int .i64 hi) H1.out.2.2.2 (A := w.heap.size + 1) (by omega)))
  clear hrow H1
  go_wp2
  have q0 := HQ.out.1.cell (i := 0) rfl
  have q1 := HQ.out.1.cell (i := 1) rfl
  have q2 := HQ.out.1.cell (i := 2) rfl
  have q3 := HQ.out.1.cell (i := 3) rfl
  refine bodyPost_ret (v := .tuple #[.agg #[.int .i64 x, .int .i64 y, .bool hole, .int .i64 hi], .int .i64 0]) (by simp [results, Tryz.results78, go_sem, q0, q1, q2, q3]) rfl ⟨rfl, HQ.out.2⟩
theorem ent_made1 : Enters Tryz.prog 78 := enters_of Tryz.func78 (by kernel_rfl) rfl
theorem gmapT (f : Nat) (q1 : Value) (g : El → To) (vl : Value) (l : List El) (w : World) (hf : Enters Tryz.prog f) (hl : RdEL w vl l) (hn : l.length ≤ 16)
    (hF : ∀ wx, Below w.heap.size w wx → ∀ i (hi : i < l.length), Calls Tryz.prog f #[.int .i64 (i : Int), elV l[i], q1] wx (Ret wx (.tuple #[toV (g l[i]), .int .i64 0]))) :
    Calls Tryz.prog 77 #[vl, .func (.func f) #[] #[q1]] w (fun e w' => ∃ v, e = .returned (.tuple #[v, .int .i64 0]) ∧ OwnTL w' w.heap.size v (l.map g) ∧ Below w.heap.size w w') := by
  obtain ⟨A, cap, rfl⟩ := hl.len
  have HL := Lib.hid hl
  have HF := Lib.hid hF
  unfold Enters at hf
  have HTK := Lib.hid (fun i (hi : i < l.length) => show (l.map g).take (i + 1) = (l.map g).take i ++ [g l[i]] from by
    rw [List.take_succ_eq_append_getElem (by rw [List.length_map]; exact hi)]
    simp)
  have HFU : Hid ((l.map g).take l.length = l.map g) := Lib.hid (List.take_of_length_le (by rw [List.length_map]; omega))
  have HLT := Lib.hid (fun i (hi : i ≤ l.length) => show ((l.map g).take i).length ≤ 16 from by rw [List.length_take, List.length_map]; omega)
  clear hl hF
  go_enter Tryz.func77, Tryz.ntmps77
  go_wp2
  go_loopw [6, 13] (fun ov iv wr => ∃ (i : Nat) (vo : Value), iv = .int .i64 (i : Int) ∧ ov = vo ∧ i ≤ l.length ∧ Hid (OwnTL wr w.heap.size vo ((l.map g).take i) ∧ Below w.heap.size w wr)) (fun _ iv _ => l.length - (intOf iv).toNat)
  case atStart => exact ⟨0, _, rfl, rfl, by omega, Lib.hid ⟨by rw [List.take_zero]; exact OwnTL.nil _ _, Below.refl _ _⟩⟩
  case round =>
    obtain ⟨i, vo, rfl, e4, hi, hk⟩ := hrel
    obtain ⟨VA, vn, vc, hv⟩ := hk.out.1.shape
    subst hv
    subst e4
    by_cases hlt : i < l.length
    · obtain ⟨b, o, rfl, hsl⟩ := RdEL.row (n := l.length) (HL.out.below hk.out.2) i hlt
      obtain ⟨c0, c1, c2, c3, c4⟩ := hsl.val i hlt
      have hi0 : (0 : Int) ≤ (i : Int) := by omega
      have hi1 : (i : Int) < (l.length : Int) := by omega
      have HX := Lib.hid (fun W (hW : Below w.heap.size w W) => HF.out W hW i hlt)
      have HTK1 := Lib.hid (HTK.out i hlt)
      have HLT1 := Lib.hid (HLT.out i (by omega))
      clear hsl
      unfold elV toV at HX
      generalize g l[i] = gz at *
      generalize l[i].x = tx at *
      generalize l[i].y = ty at *
      generalize l[i].hole = th at *
      generalize l[i].lo = tl at *
      generalize l[i].hi = tt at *
      have hal := bel_al wr (.cells #[.int .i64 tx, .int .i64 ty, .bool th, .int .i64 tl, .int .i64 tt] 162 (0, 0))
      have H1 := Lib.hid (And.intro (hk.out.1.below hal) (bel_to hk.out.2 hal))
      clear hal hk
      go_wp2_with fail
      refine (HX.out _ H1.out.2).mono ?_
      rintro e w2 ⟨rfl, hb2⟩
      have H2 := Lib.hid (And.intro (H1.out.1.below hb2) (bel_to H1.out.2 hb2))
      clear hb2 H1 HX c0 c1 c2 c3 c4
      have HC := Lib.hid (fun j u hu => srcTL_one (w2.alloc (.cells #[.int .i64 gz.x, .int .i64 gz.y, .bool gz.hole, .int .i64 gz.n] 67 (0, 0))) gz j u hu (w2.heap.size + 1) (World.size_alloc _ _).symm)
      have hal := bel_al w2 (.cells #[.int .i64 gz.x, .int .i64 gz.y, .bool gz.hole, .int .i64 gz.n] 67 (0, 0))
      have hrd : Row (w2.alloc (.cells #[.int .i64 gz.x, .int .i64 gz.y, .bool gz.hole, .int .i64 gz.n] 67 (0, 0))) w2.heap.size 67 [.int .i64 gz.x, .int .i64 gz.y, .bool gz.hole, .int .i64 gz.n] := rnw
      have k0 := hrd.cell (i := 0) rfl
      have k1 := hrd.cell (i := 1) rfl
      have k2 := hrd.cell (i := 2) rfl
      have k3 := hrd.cell (i := 3) rfl
      have hal2 := bel_to hal (bel_al (w2.alloc (.cells #[.int .i64 gz.x, .int .i64 gz.y, .bool gz.hole, .int .i64 gz.n] 67 (0, 0))) (.cells #[.int .i64 gz.x, .int .i64 gz.y, .bool gz.hole, .int .i64 gz.n] 67 (0, 0)))
      have H4 := Lib.hid (And.intro (H2.out.1.below hal2) (bel_to H2.out.2 hal2))
      have HSZ := Lib.hid H4.out.2.size
      clear hal hrd hal2 H2
      go_wp2_with (at_builtin; refine wpList_app_OwnTL (m := [gz]) rfl _ _ rfl rfl rfl rfl H4.out.1 HC.out HSZ.out (by have := HLT1.out; simp only [List.length_cons, List.length_nil]; omega) ?_; intro v2 w4 ho2 hg2)
      have HN := Lib.hid (And.intro (by rw [HTK1.out]; exact ho2 : OwnTL w4 w.heap.size v2 ((l.map g).take (i + 1))) (app_belOwnTL H4.out.1 H4.out.2 (Nat.le_refl _) hg2))
      clear ho2 hg2 H4 HC HSZ k0 k1 k2 k3
      go_wp2
      go_roundw
      case rel => exact ⟨i + 1, _, by go_num, rfl, by omega, HN⟩
      case measure => simp [intOf]; omega
    · obtain rfl : l.length = i := by omega
      have hk2 := hk.out
      rw [HFU.out] at hk2
      have HK := Lib.hid hk2
      clear hk hk2
      go_wp2
      go_ret2
      exact ⟨_, rfl, HK.out.1, HK.out.2⟩
theorem gmade (vl : Value) (l : List El) (w : World) (hl : RdEL w vl l) (hn : l.length ≤ 16) (ht : ∀ e ∈ l, 1 ≤ e.lo ∧ e.lo ≤ e.hi ∧ e.hi ≤ 300000) :
    Calls Tryz.prog 39 #[vl, .bool true] w (fun e w' => ∃ v, e = .returned (.tuple #[v, .int .i64 0]) ∧ OwnTL w' w.heap.size v (l.map hiT) ∧ Below w.heap.size w w') := by
  have hal := bel_al w (.cells #[.bool true] 4 (0, 0))
  have hr : Row (w.alloc (.cells #[.bool true] 4 (0, 0))) w.heap.size 4 [.bool true] := rnw
  have HG := Lib.hid (gmapT 78 (.pointer (some ⟨w.heap.size, 0, none⟩)) hiT vl l (w.alloc (.cells #[.bool true] 4 (0, 0))) ent_made1 (hl.below hal) hn (fun wx hx i hi => gmade1 _ _ _ wx (hr.below' hx) (ht _ (List.getElem_mem hi)).1 (ht _ (List.getElem_mem hi)).2.1 (ht _ (List.getElem_mem hi)).2.2))
  have HB := Lib.hid hal
  obtain ⟨A, cap, rfl⟩ := hl.len
  clear hl ht hal hr
  go_enter Tryz.func39, Tryz.ntmps39
  go_wp2_with fail
  refine (gfew _ _).mono ?_
  rintro e w1 ⟨rfl, rfl⟩
  rw [if_neg (show ¬ (16 : Int) < (l.length : Int) by omega)]
  go_wp2_with fail
  refine HG.out.mono ?_
  rintro e w2 ⟨v, rfl, ho, hb2⟩
  have HO := Lib.hid (And.intro (show OwnTL w2 w.heap.size v (l.map hiT) from ho.base (by rw [World.size_alloc]; omega)) (bel_to HB.out hb2))
  obtain ⟨VA, vn, vc, hv⟩ := ho.shape
  clear ho hb2 HG
  subst hv
  go_wp2
  go_ret2
  exact ⟨_, rfl, HO.out⟩
end W
end Go.Proofs.YtellemlhhlafcaaGreatDoor
end
