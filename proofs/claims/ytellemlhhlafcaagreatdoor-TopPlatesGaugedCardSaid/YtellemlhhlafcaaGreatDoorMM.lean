/-
  Chapter 5: the table of bounds while it is laid: laws.
-/
import Derived.Test.YtellemlhhlafcaaGreatDoorMK
import Derived.RangeFuncBox
import Derived.Test.YtellemlhhlafcaaGreatDoorMI
section
namespace Go.Proofs.YtellemlhhlafcaaGreatDoor
open Go Go.RowKit Go.Deep Go.Sort Go.Shelf
theorem wpList_app_g {ops : Array Oper} {rest : List Oper} {o : Oper} {a : Act} {Q : Exit → Act → World → Prop} {t e : TypeId} {i : TypeInfo} {z : Value} {bytes : Nat}
    (ht : Tryz.prog.underlying t = some (.slice e)) (hi : Tryz.prog.info? e = some i) (hz : i.zero = some z) (hsize : i.size = 1) (hby : i.bytes = bytes) (hzs : z.cells.size = 1)
    {w : World} {B A : Nat} {v : Value} {n : Nat} {xs : List Value} (hgd : o.guard = none) (s x : Operand) (ho : o.op = .call { callee := .builtin .append, args := #[s, x], argTypes := #[t, t] })
    (hs : a.eval s = v) (hx : a.eval x = .slice (some ⟨A, 0, none⟩) 1 1) (hA : A = w.heap.size)
    (hown : w.ownsRow B e 1 v n xs) (hB : B ≤ w.heap.size) (c : Value) (hc : c.oneCell' = true) (hn : n ≤ 1000000000) (hb : bytes ≤ 1000)
    (h : ∀ g cap w', w'.ownsRow B e 1 (.slice (some ⟨g, 0, none⟩) (n + 1) cap) (n + 1) (xs ++ [c]) → (w.alloc (.cells #[c] e (0, 0))).grownBy w' v.ownBlock → wpList Tryz.prog ops Q rest (a.put o.dst (.slice (some ⟨g, 0, none⟩) (n + 1) cap)) w') : wpList Tryz.prog ops Q (o :: rest) a (w.alloc (.cells #[c] e (0, 0))) := by
  subst hA
  have hr := Row.new w e [c]
  refine wpList_plain hgd fun K hK2 => ?_
  obtain ⟨v', w', hrun, h2, h3, _⟩ := run_append_own (P := Tryz.prog) (w := w.alloc (.cells #[c] e (0, 0))) B t o.type e i z 1 bytes ht hi hz hsize hby hzs (by decide) v n xs (World.ownsRow.alloc hown _) ⟨w.heap.size, 0, none⟩ 1 1 [c] rfl
    (fun j u hj => by
      have hadd : (⟨w.heap.size, 0, none⟩ : Addr).add j = ⟨w.heap.size, j, none⟩ := by unfold Addr.add; split <;> simp_all
      rw [hadd]
      exact hr.cell hj) (fun u hu => by simp at hu; subst hu; exact hc) (by unfold maxLen; omega) (by
      have : (n + 1) * bytes ≤ (n + 1) * 1000 := Nat.mul_le_mul_left _ hb
      omega) (by show B ≤ (w.heap.push _).size; simp; omega)
  obtain ⟨g, cap, rfl⟩ := ownsRow_succ h2
  unfold Oper.wp execOp
  simp only [ho, resolve, invoke, builtin, Sem.run_bind, Sem.run_pure, Result.andThen_ok, List.map_toArray, List.map_cons, List.map_nil, hs, hx, hrun]
  exact hK2 _ _ (h g cap w' h2 h3)
theorem infoInt : (Tryz.prog.info? 3).map (fun i => (i.zero, i.size, i.bytes)) = some (some (.int .i64 0), 1, 8) := by kernel_rfl
section
open M
variable {W W' : World} {B p S n m i ib : Nat} {vr vb : Value} {h : Nat → Nat} {A : Mx}
end
end Go.Proofs.YtellemlhhlafcaaGreatDoor
end
