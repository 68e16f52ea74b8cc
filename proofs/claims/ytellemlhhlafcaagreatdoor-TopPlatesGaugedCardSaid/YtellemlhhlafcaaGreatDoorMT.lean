/-
  Chapter 12, plain: the sign of a + b root c found by integers; sizes of what the discs' sums compute.
  Chapter 12: lists of discs. (Printed by wip/cb.py.)
  Layer 2 of the program: 'SignRoots' and 'SignRoot' where no result is too long.
  Chapter 12 of the program: the sums of package discs, where no result is too long.
-/
import Derived.Test.YtellemlhhlafcaaGreatDoorMS
import Derived.Test.YtellemlhhlafcaaGreatDoorMR
import Derived.Test.YtellemlhhlafcaaGreatDoorMG
import Derived.Test.YtellemlhhlafcaaGreatDoorMM
import Derived.Maps.AppendAt
import Derived.Test.YtellemlhhlafcaaGreatDoorMN
import Derived.Test.YtellemlhhlafcaaGreatDoorMH
section
namespace Go.Proofs.YtellemlhhlafcaaGreatDoor
open Go
namespace M
theorem numR (q : Rat) : (q.num : Rat) = q * (q.den : Rat) := by
  have h : (q.num : Rat) / (q.den : Rat) = q := by
    have h1 := Rat.num_divInt_den q
    rw [Rat.divInt_eq_div] at h1
    exact h1
  have hd : (q.den : Rat) ≠ 0 := by
    have := Rat.natCast_pos.2 q.den_pos
    grind
  have : q = (q.num : Rat) / (q.den : Rat) := h.symm
  grind
def rootI (x y r : Int) : Int :=
  if 0 ≤ Int.sign x * (Int.sign y * Int.sign r) then (if Int.sign x = 0 then Int.sign y * Int.sign r else Int.sign x)
  else Int.sign x * Int.sign (x * x - y * y * r)
theorem sign_pos {a b : Int} (h : 0 < b) : Int.sign (a * b) = Int.sign a := by
  rw [Int.sign_mul, Int.sign_eq_one_of_pos h, Int.mul_one]
theorem sign_of_cast {z : Int} {d : Rat} (h : 0 < d) {q : Rat} (e : (z : Rat) = d * q) : Int.sign z = Int.sign q.num := by
  rcases Int.lt_trichotomy z 0 with hz | hz | hz
  · have h1 : (z : Rat) < 0 := by
      have := Rat.intCast_lt_intCast.2 hz
      simpa using this
    have h2 : q < 0 := by
      rcases lt_or_leR q 0 with h2 | h2
      · exact h2
      · have := Rat.mul_nonneg (Rat.le_of_lt h) h2
        grind
    rcases sgQ_cases q with ⟨_, e2⟩ | ⟨e1, _⟩ | ⟨e1, _⟩
    · rw [e2, Int.sign_eq_neg_one_of_neg hz]
    · grind
    · grind
  · have h1 : d * q = 0 := by rw [← e, hz]; rfl
    have h2 : q = 0 := by
      rcases Rat.mul_eq_zero.1 h1 with h2 | h2
      · grind
      · exact h2
    rw [hz, h2]; rfl
  · have h1 : 0 < (z : Rat) := by
      have := Rat.intCast_lt_intCast.2 hz
      simpa using this
    have h2 : 0 < q := by
      rcases lt_or_leR 0 q with h2 | h2
      · exact h2
      · have := Rat.mul_nonneg (Rat.le_of_lt h) (show 0 ≤ -q by grind)
        grind
    rcases sgQ_cases q with ⟨e1, _⟩ | ⟨e1, _⟩ | ⟨_, e2⟩
    · grind
    · grind
    · rw [e2, Int.sign_eq_one_of_pos hz]
theorem rootI_R (a b c : Rat) : rootI (a.num * ((b.den : Int) * (c.den : Int))) (b.num * (a.den : Int)) (c.num * (c.den : Int)) = rootR a b c := by
  have pa : (0 : Int) < (a.den : Int) := Int.natCast_pos.2 a.den_pos
  have pb : (0 : Int) < (b.den : Int) := Int.natCast_pos.2 b.den_pos
  have pc : (0 : Int) < (c.den : Int) := Int.natCast_pos.2 c.den_pos
  have e1 : Int.sign (a.num * ((b.den : Int) * (c.den : Int))) = Int.sign a.num := sign_pos (Int.mul_pos pb pc)
  have e2 : Int.sign (b.num * (a.den : Int)) = Int.sign b.num := sign_pos pa
  have e3 : Int.sign (c.num * (c.den : Int)) = Int.sign c.num := sign_pos pc
  have qa : (0 : Rat) < (a.den : Rat) := Rat.natCast_pos.2 a.den_pos
  have qb : (0 : Rat) < (b.den : Rat) := Rat.natCast_pos.2 b.den_pos
  have qc : (0 : Rat) < (c.den : Rat) := Rat.natCast_pos.2 c.den_pos
  have e4 : Int.sign ((a.num * ((b.den : Int) * (c.den : Int))) * (a.num * ((b.den : Int) * (c.den : Int))) - (b.num * (a.den : Int)) * (b.num * (a.den : Int)) * (c.num * (c.den : Int)))
      = Int.sign ((a * a).num * ((b * b * c).den : Int) - (b * b * c).num * ((a * a).den : Int)) := by
    have h1 := sign_of_cast (z := (a.num * ((b.den : Int) * (c.den : Int))) * (a.num * ((b.den : Int) * (c.den : Int))) - (b.num * (a.den : Int)) * (b.num * (a.den : Int)) * (c.num * (c.den : Int)))
      (d := ((a.den : Rat) * b.den * c.den) * ((a.den : Rat) * b.den * c.den)) (Rat.mul_pos (Rat.mul_pos (Rat.mul_pos qa qb) qc) (Rat.mul_pos (Rat.mul_pos qa qb) qc)) (q := a * a - b * b * c) (by
        simp only [Rat.intCast_sub, Rat.intCast_mul, Rat.intCast_natCast]
        rw [numR a, numR b, numR c]
        grind)
    have h2 := sign_of_cast (z := (a * a).num * ((b * b * c).den : Int) - (b * b * c).num * ((a * a).den : Int)) (d := ((a * a).den : Rat) * (b * b * c).den)
      (Rat.mul_pos (Rat.natCast_pos.2 (a * a).den_pos) (Rat.natCast_pos.2 (b * b * c).den_pos)) (q := a * a - b * b * c) (by
        simp only [Rat.intCast_sub, Rat.intCast_mul, Rat.intCast_natCast]
        rw [numR (a * a), numR (b * b * c)]
        grind)
    rw [h1, h2]
  unfold rootI rootR
  rw [e1, e2, e3, e4]
structure SmD (d : Dk) : Prop where
  ex : ∃ X Y S : Int, d = ⟨(X : Rat), (Y : Rat), (S : Rat) / 4⟩ ∧ X.natAbs < 10 ^ 6 ∧ Y.natAbs < 10 ^ 6 ∧ 0 ≤ S ∧ S.natAbs < 10 ^ 11
theorem Bq_int {z : Int} {k : Nat} (hk : 1 ≤ k) (h : z.natAbs < 10 ^ k) : Bq k (z : Rat) := by
  refine ⟨by rw [Rat.num_intCast]; exact h, ?_⟩
  rw [Rat.den_intCast]
  exact Nat.lt_of_lt_of_le (by decide : 1 < 10 ^ 1) (Nat.pow_le_pow_right (by decide) hk)
theorem Bq_frac {q : Rat} {n d : Int} {k : Nat} (e : q * (d : Rat) = (n : Rat)) (h0 : d ≠ 0) (hn : n.natAbs < 10 ^ k) (hd : d.natAbs < 10 ^ k) : Bq k q := by
  have h1 : (d : Rat) ≠ 0 := fun h => h0 (by exact Rat.intCast_inj.1 (by rw [h]; rfl))
  have h2 : q = Rat.divInt n d := by
    rw [Rat.divInt_eq_div, ← e]
    grind
  rw [h2]
  exact Bq_div h0 hn hd
theorem SmD.bq {d : Dk} (h : SmD d) : Bq 6 d.x ∧ Bq 6 d.y ∧ Bq 11 d.s ∧ 0 ≤ d.s := by
  obtain ⟨X, Y, S, rfl, h1, h2, h3, h4⟩ := h.ex
  refine ⟨Bq_int (by decide) h1, Bq_int (by decide) h2, Bq_frac (n := S) (d := 4) (by simp; grind) (by decide) h4 (by decide), ?_⟩
  have : (0 : Rat) ≤ (S : Rat) := by
    have := Rat.intCast_le_intCast.2 h3
    simpa using this
  show 0 ≤ (S : Rat) / 4
  grind
theorem SmD.far {a b : Dk} (ha : SmD a) (hb : SmD b) : ∃ dx dy : Int, b.x - a.x = (dx : Rat) ∧ b.y - a.y = (dy : Rat) ∧ dx.natAbs < 10 ^ 7 ∧ dy.natAbs < 10 ^ 7 := by
  obtain ⟨X, Y, S, rfl, h1, h2, h3, h4⟩ := ha.ex
  obtain ⟨X', Y', S', rfl, k1, k2, k3, k4⟩ := hb.ex
  exact ⟨X' - X, Y' - Y, (Rat.intCast_sub ..).symm, (Rat.intCast_sub ..).symm, by omega, by omega⟩
theorem sq_lt {z : Int} (h : z.natAbs < 10 ^ 7) : z * z < 10 ^ 14 ∧ 0 ≤ z * z := by
  have h1 : (z * z).natAbs < 10 ^ 7 * 10 ^ 7 := by rw [Int.natAbs_mul]; exact Nat.mul_lt_mul'' h h
  have h2 : 0 ≤ z * z := by
    have := Int.natAbs_mul_self (a := z)
    omega
  omega
theorem SmD.bt {a b : Dk} (ha : SmD a) (hb : SmD b) (h0 : farD a b ≠ 0) : Bq 17 (partD a b) ∧ Bq 15 (farD a b) := by
  obtain ⟨dx, dy, e1, e2, d1, d2⟩ := ha.far hb
  obtain ⟨X, Y, S, rfl, h1, h2, h3, h4⟩ := ha.ex
  obtain ⟨X', Y', S', rfl, k1, k2, k3, k4⟩ := hb.ex
  have q1 := sq_lt d1
  have q2 := sq_lt d2
  have ef : farD ⟨(X : Rat), (Y : Rat), (S : Rat) / 4⟩ ⟨(X' : Rat), (Y' : Rat), (S' : Rat) / 4⟩ = ((dx * dx + dy * dy : Int) : Rat) := by
    unfold farD
    rw [e1, e2, Rat.intCast_add, Rat.intCast_mul, Rat.intCast_mul]
  have hz : dx * dx + dy * dy ≠ 0 := fun h => h0 (by rw [ef, h]; rfl)
  refine ⟨?_, by rw [ef]; exact Bq_int (by decide) (by omega)⟩
  refine Bq_frac (n := 4 * (dx * dx + dy * dy) + S - S') (d := 8 * (dx * dx + dy * dy)) ?_ (by omega) (by omega) (by omega)
  unfold partD
  rw [ef] at h0 ⊢
  generalize dx * dx + dy * dy = F at *
  simp only [Rat.intCast_sub, Rat.intCast_add, Rat.intCast_mul, Rat.intCast_ofNat]
  have h8 : ((F : Rat) + (S : Rat) / 4 - (S' : Rat) / 4) / (2 * (F : Rat)) * (2 * (F : Rat)) = (F : Rat) + (S : Rat) / 4 - (S' : Rat) / 4 := Rat.div_mul_cancel (by grind)
  grind
end M
end Go.Proofs.YtellemlhhlafcaaGreatDoor
end
section
namespace Go.Proofs.YtellemlhhlafcaaGreatDoor
open Go Go.RowKit Go.Deep Go.Sort
structure SlK (w : World) (b o : Nat) (l : List M.Dk) : Prop where
  lt : b < w.heap.size
  val : ∀ i (h : i < l.length), w.cell? ⟨b, o + i * 3, none⟩ = some (.string (bs (M.R l[i].x))) ∧ w.cell? ⟨b, o + i * 3 + 1, none⟩ = some (.string (bs (M.R l[i].y))) ∧ w.cell? ⟨b, o + i * 3 + 2, none⟩ = some (.string (bs (M.R l[i].s)))
theorem SlK.below' {w w' : World} {b o : Nat} {l : List M.Dk} (h : SlK w b o l) (hb : Below w.heap.size w w') : SlK w' b o l :=
  ⟨Nat.lt_of_lt_of_le h.lt hb.size, fun i hi => by
    have h1 := h.val i hi
    have hc : ∀ o v, w.cell? ⟨b, o, none⟩ = some v → w'.cell? ⟨b, o, none⟩ = some v := fun o v e => (hb.cell (by exact h.lt)).trans e
    exact ⟨hc _ _ h1.1, hc _ _ h1.2.1, hc _ _ h1.2.2⟩⟩
def RdK (w : World) (v : Value) (l : List M.Dk) : Prop := ∃ A cap, v = .slice A l.length cap ∧ (l = [] ∨ ∃ b o, A = some ⟨b, o, none⟩ ∧ SlK w b o l)
theorem RdK.below {w w' : World} {v : Value} {l : List M.Dk} (h : RdK w v l) (hb : Below w.heap.size w w') : RdK w' v l := by
  obtain ⟨A, cap, e, h2⟩ := h
  refine ⟨A, cap, e, ?_⟩
  rcases h2 with h2 | ⟨b, o, e2, h3⟩
  · exact Or.inl h2
  · exact Or.inr ⟨b, o, e2, h3.below' hb⟩
theorem RdK.len {w : World} {v : Value} {l : List M.Dk} (h : RdK w v l) : ∃ A cap, v = .slice A l.length cap := by
  obtain ⟨A, cap, e, _⟩ := h; exact ⟨A, cap, e⟩
theorem RdK.row {w : World} {A : Option Addr} {n cap : Nat} {l : List M.Dk} (h : RdK w (.slice A n cap) l) (i : Nat) (hi : i < l.length) : ∃ b o, A = some ⟨b, o, none⟩ ∧ SlK w b o l := by
  obtain ⟨A', cap', e, h2⟩ := h
  injection e with e
  subst e
  exact h2.resolve_left (fun e => by rw [e] at hi; cases hi)
def csK (l : List M.Dk) : List Value := l.flatMap fun x => [.string (bs (M.R x.x)), .string (bs (M.R x.y)), .string (bs (M.R x.s))]
theorem csK_append (a b : List M.Dk) : csK (a ++ b) = csK a ++ csK b := by simp [csK]
theorem csK_len (l : List M.Dk) : (csK l).length = l.length * 3 := by
  induction l with
  | nil => rfl
  | cons x t ih => simp only [csK, List.flatMap_cons, List.length_append, List.length_cons, List.length_nil] at *; omega
theorem csK_get (l : List M.Dk) (i : Nat) (h : i < l.length) : (csK l)[i * 3]? = some (.string (bs (M.R l[i].x))) ∧ (csK l)[i * 3 + 1]? = some (.string (bs (M.R l[i].y))) ∧ (csK l)[i * 3 + 2]? = some (.string (bs (M.R l[i].s))) := by
  induction l generalizing i with
  | nil => cases h
  | cons x t ih =>
    rcases i with _ | j
    · exact ⟨rfl, rfl, rfl⟩
    · have hj : j < t.length := by simpa using h
      have e1 : csK (x :: t) = (.string (bs (M.R x.x)) : Value) :: (.string (bs (M.R x.y)) : Value) :: (.string (bs (M.R x.s)) : Value) :: csK t := rfl
      have k := ih j hj
      rw [e1]
      have hs : ∀ m v, (csK t)[m]? = some v → ((.string (bs (M.R x.x)) : Value) :: (.string (bs (M.R x.y)) : Value) :: (.string (bs (M.R x.s)) : Value) :: csK t)[m + 3]? = some v := fun m v e => e
      exact ⟨(by have := hs _ _ k.1; rwa [show j * 3 + 3 = (j + 1) * 3 by omega] at this), (by have := hs _ _ k.2.1; rwa [show j * 3 + 1 + 3 = (j + 1) * 3 + 1 by omega] at this), (by have := hs _ _ k.2.2; rwa [show j * 3 + 2 + 3 = (j + 1) * 3 + 2 by omega] at this)⟩
def OwnK (w : World) (B : Nat) (v : Value) (l : List M.Dk) : Prop := w.ownsRow B 127 3 v l.length (csK l)
theorem OwnK.below {w w' : World} {B : Nat} {v : Value} {l : List M.Dk} (h : OwnK w B v l) (hb : Below w.heap.size w w') : OwnK w' B v l :=
  World.ownsRow.kept (row := none) h ⟨hb.os, hb.tape, hb.output, hb.size, fun k hk _ => hb.block k hk⟩ (Classical.em _)
theorem OwnK.cells {w : World} {B g cap : Nat} {l : List M.Dk} (h : OwnK w B (.slice (some ⟨g, 0, none⟩) l.length cap) l) (j : Nat) (u : Value) (hu : (csK l)[j]? = some u) : w.cell? ⟨g, j, none⟩ = some u := by
  have hj : j < l.length * 3 := by rw [← csK_len]; exact (List.getElem?_eq_some_iff.1 hu).1
  rw [World.ownsRow.cellAt h j hj, hu]
theorem OwnK.form {w : World} {B : Nat} {v : Value} {l : List M.Dk} (h : OwnK w B v l) (h0 : 0 < l.length) : ∃ g cap, v = .slice (some ⟨g, 0, none⟩) l.length cap ∧ B ≤ g ∧ g < w.heap.size := by
  obtain ⟨h1, h2⟩ := h
  rcases h2 with ⟨hv, hn⟩ | ⟨g, cap, cur, hv, hB, hh, _⟩
  · omega
  · exact ⟨g, cap, hv, hB, lt_of_block hh⟩
theorem OwnK.shape {w : World} {B : Nat} {v : Value} {l : List M.Dk} (h : OwnK w B v l) : ∃ A n c, v = .slice A n c := by
  rcases h.2 with ⟨e, _⟩ | ⟨g, cap, _, e, _⟩
  · exact ⟨_, _, _, e⟩
  · exact ⟨_, _, _, e⟩
theorem OwnK.rd {w : World} {B : Nat} {v : Value} {l : List M.Dk} (h : OwnK w B v l) : RdK w v l := by
  by_cases h0 : 0 < l.length
  · obtain ⟨g, cap, rfl, hB, hlt⟩ := h.form h0
    refine ⟨_, _, rfl, Or.inr ⟨g, 0, rfl, hlt, fun i hi => ?_⟩⟩
    have hg := csK_get l i hi
    simp only [Nat.zero_add]
    exact ⟨h.cells _ _ hg.1, h.cells _ _ hg.2.1, h.cells _ _ hg.2.2⟩
  · obtain rfl : l = [] := List.length_eq_zero_iff.1 (by omega)
    rcases h.2 with ⟨e, _⟩ | ⟨g, cap, _, e, _⟩
    · exact ⟨_, _, e, Or.inl rfl⟩
    · exact ⟨_, _, e, Or.inl rfl⟩
theorem csK_one {l : List M.Dk} : ∀ u ∈ csK l, u.oneCell' = true := by
  intro u hu
  simp only [csK, List.mem_flatMap] at hu
  obtain ⟨x, hx, hx2⟩ := hu
  simp at hx2
  rcases hx2 with rfl | rfl | rfl <;> rfl
theorem infoDsc : (Tryz.prog.info? 127).map (fun i => (i.zero, i.size, i.bytes)) = some (some (.agg #[.string ⟨#[]⟩, .string ⟨#[]⟩, .string ⟨#[]⟩]), 3, 48) := by kernel_rfl
theorem OwnK.nil (w : World) (B : Nat) : OwnK w B (.slice none 0 0) [] := World.ownsRow_nil _ _ _ _
theorem run_app_OwnK {w : World} {B : Nat} {v : Value} {l m : List M.Dk} {ad : Addr} {cap : Nat} (ty : TypeId) (h : OwnK w B v l) (hc : ∀ j u, (csK m)[j]? = some u → w.cell? (ad.add j) = some u) (hB : B ≤ w.heap.size) (hn : (l.length + m.length) * 48 ≤ 140737488355328) :
    ∃ v' w', (Builtin.append_ #[93, 93] ty #[v, .slice (some ad) m.length cap]).run Tryz.prog w = .ok v' w' ∧ OwnK w' B v' (l ++ m) ∧ w.grownBy w' v.ownBlock := by
  obtain ⟨i, h1, h2, h3, h4⟩ := info_parts infoDsc
  obtain ⟨v', w', k1, k2, k3, _⟩ := run_append_own (P := Tryz.prog) w B _ ty _ i _ 3 48 Tryz.underlying93 h1 h2 h3 h4 rfl (by decide) v l.length (csK l) h ad m.length cap (csK m) (csK_len m)
      hc csK_one (by unfold maxLen; omega) hn hB
  refine ⟨v', w', k1, ?_, k3⟩
  unfold OwnK
  rw [csK_append, List.length_append]
  exact k2
theorem wpList_app_OwnK {ops : Array Oper} {rest : List Oper} {o : Oper} {a : Act} {Q : Exit → Act → World → Prop} {w : World} {B : Nat} {v xv : Value} {l m : List M.Dk} {ad : Addr} {cap : Nat} (hgd : o.guard = none) (s x : Operand)
    (ho : o.op = .call { callee := .builtin .append, args := #[s, x], argTypes := #[93, 93] }) (hs : a.eval s = v) (hx : a.eval x = xv) (hxv : xv = .slice (some ad) m.length cap)
    (h : OwnK w B v l) (hc : ∀ j u, (csK m)[j]? = some u → w.cell? (ad.add j) = some u) (hB : B ≤ w.heap.size) (hn : (l.length + m.length) * 48 ≤ 140737488355328)
    (hK : ∀ v' w', OwnK w' B v' (l ++ m) → w.grownBy w' v.ownBlock → wpList Tryz.prog ops Q rest (a.put o.dst v') w') : wpList Tryz.prog ops Q (o :: rest) a w :=
  wpList_plain hgd fun _ hK2 => by
    subst hxv
    obtain ⟨v', w', hr, h2, h3⟩ := run_app_OwnK (cap := cap) o.type h hc hB hn
    unfold Oper.wp execOp
    simp only [ho, resolve, invoke, builtin, Sem.run_bind, Sem.run_pure, Result.andThen_ok, List.map_toArray, List.map_cons, List.map_nil, hs, hx, hr]
    exact hK2 _ _ (hK v' w' h2 h3)
theorem app_belOwnK {W w w' : World} {B : Nat} {v : Value} {l : List M.Dk} (h : OwnK w B v l) (hb : Below W.heap.size W w) (hB : W.heap.size ≤ B) (hg : w.grownBy w' v.ownBlock) : Below W.heap.size W w' :=
  hb.grown hg hb.size fun k hk => Nat.le_trans hB (World.ownsRow.lt h k hk).1
end Go.Proofs.YtellemlhhlafcaaGreatDoor
end
section
namespace Go.Proofs.YtellemlhhlafcaaGreatDoor
open Go Go.RowKit Go.Deep
namespace M
theorem sign_range (z : Int) : Int.sign z = -1 ∨ Int.sign z = 0 ∨ Int.sign z = 1 := by
  rcases Int.lt_trichotomy z 0 with h | h | h
  · exact Or.inl (Int.sign_eq_neg_one_of_neg h)
  · rw [h]; exact Or.inr (Or.inl rfl)
  · exact Or.inr (Or.inr (Int.sign_eq_one_of_pos h))
theorem ok_mul {x y : Int} {j k : Nat} (hx : x.natAbs < 10 ^ j) (hy : y.natAbs < 10 ^ k) (h : j + k ≤ 1024) : Ok (x * y) := ok_pow (mul_pow hx hy) h
end M
namespace W
open M
attribute [local go_sem] bs_size bs_toList bs_get bs_extract bs_append bs_lit0 bs_lit1 lit1_bs
set_option maxHeartbeats 2000000
set_option maxRecDepth 20000
theorem ssign (b : Nat) (z : Int) (w : World) (hs : NoErr w b) (hz : Ok z) :
    Calls Tryz.prog 247 #[.pointer (some ⟨b, 0, none⟩), .string (bs (I z))] w (Ret w (.int .i64 (Int.sign z))) := by
  have hc := hs.cell
  have HV := Lib.hid (fun W => vSign_I z W hz)
  have HS := Lib.hid hs
  clear hs hz
  generalize Int.sign z = g at *
  go_enter Tryz.func247, Tryz.ntmps247
  go_wp2_with fail
  refine (HV.out _).mono ?_
  rintro e w1 ⟨rfl, hb1⟩
  have hs1 := HS.out.below' hb1
  have hc1 := hs1.cell
  have hf1 := hs1.free
  have HS1 := Lib.hid hs1
  clear hs1 hc
  go_wp2
  go_ret
  exact Ret.of rfl (Below.same hb1 HS1.out)
theorem smul_list (b : Nat) (zs : List Int) (cap : Nat) (w : World) (hg : Glob w) (hs : NoErr w b) (hz : ∀ z ∈ zs, Ok z) (hp : ∀ k, k ≤ zs.length → Ok (pr (zs.take k))) (hn : zs.length ≤ 1000) :
    Calls Tryz.prog 134 #[.pointer (some ⟨b, 0, none⟩), .slice (some ⟨w.heap.size, 0, none⟩) zs.length cap] (w.alloc (.cells (zs.map fun z => (.string (bs (I z)) : Value)).toArray 185)) (Ret (w.alloc (.cells (zs.map fun z => (.string (bs (I z)) : Value)).toArray 185)) (.string (bs (I (pr zs))))) := by
  have hr : Row (w.alloc (.cells (zs.map fun z => (.string (bs (I z)) : Value)).toArray 185)) w.heap.size 185 (zs.map fun z => (.string (bs (I z)) : Value)) := Row.new w 185 _
  exact smul_ok b zs w.heap.size cap _ (alloc_glob hg _) (hs.alloc _) hz hp hn hr.lt (fun i hi => hr.cell (by rw [List.getElem?_map, List.getElem?_eq_getElem hi]; rfl))
theorem smul_three (b : Nat) (x y z : Int) (j k m : Nat) (w : World) (hg : Glob w) (hs : NoErr w b) (hx : x.natAbs < 10 ^ j) (hy : y.natAbs < 10 ^ k) (hz : z.natAbs < 10 ^ m) (h : j + k + m ≤ 1024) :
    Calls Tryz.prog 134 #[.pointer (some ⟨b, 0, none⟩), .slice (some ⟨w.heap.size, 0, none⟩) 3 3] (w.alloc (.cells #[.string (bs (I x)), .string (bs (I y)), .string (bs (I z))] 185)) (Ret (w.alloc (.cells #[.string (bs (I x)), .string (bs (I y)), .string (bs (I z))] 185)) (.string (bs (I (x * y * z))))) := by
  have := smul_list b [x, y, z] 3 w hg hs (fun q hq => by simp at hq; rcases hq with rfl | rfl | rfl <;> first | exact ok_pow hx (by omega) | exact ok_pow hy (by omega) | exact ok_pow hz (by omega))
    (fun i hi => by
      match i, hi with
      | 0, _ => exact ok_of (by simp [pr])
      | 1, _ => exact ok_pow (k := j) (by simpa [pr] using hx) (by omega)
      | 2, _ => exact ok_pow (k := j + k) (by simpa [pr] using mul_pow hx hy) (by omega)
      | 3, _ => exact ok_pow (k := j + (k + m)) (by simpa [pr] using mul_pow hx (mul_pow hy hz)) (by omega)) (by simp)
  simp only [pr, Int.mul_one, List.length_cons, List.length_nil, Nat.zero_add, List.map_cons, List.map_nil] at this
  rw [Int.mul_assoc]
  exact this
theorem smul_five (b : Nat) (x y z : Int) (j k m : Nat) (w : World) (hg : Glob w) (hs : NoErr w b) (hx : x.natAbs < 10 ^ j) (hy : y.natAbs < 10 ^ k) (hz : z.natAbs < 10 ^ m) (h : j + k + m ≤ 1024) :
    Calls Tryz.prog 134 #[.pointer (some ⟨b, 0, none⟩), .slice (some ⟨w.heap.size, 0, none⟩) 5 5] (w.alloc (.cells #[.string (bs (I x)), .string (bs (I y)), .string (bs (I z)), .string (bs (I 1)), .string (bs (I 1))] 185)) (Ret (w.alloc (.cells #[.string (bs (I x)), .string (bs (I y)), .string (bs (I z)), .string (bs (I 1)), .string (bs (I 1))] 185)) (.string (bs (I (x * (y * z)))))) := by
  have := smul_list b [x, y, z, 1, 1] 5 w hg hs (fun q hq => by simp at hq; rcases hq with rfl | rfl | rfl | rfl <;> first | exact ok_pow hx (by omega) | exact ok_pow hy (by omega) | exact ok_pow hz (by omega) | exact ok_of (by decide))
    (fun i hi => by
      match i, hi with
      | 0, _ => exact ok_of (by simp [pr])
      | 1, _ => exact ok_pow (k := j) (by simpa [pr] using hx) (by omega)
      | 2, _ => exact ok_pow (k := j + k) (by simpa [pr] using mul_pow hx hy) (by omega)
      | 3, _ => exact ok_pow (k := j + (k + m)) (by simpa [pr] using mul_pow hx (mul_pow hy hz)) (by omega)
      | 4, _ => exact ok_pow (k := j + (k + m)) (by simpa [pr] using mul_pow hx (mul_pow hy hz)) (by omega)
      | 5, _ => exact ok_pow (k := j + (k + m)) (by simpa [pr] using mul_pow hx (mul_pow hy hz)) (by omega)) (by simp)
  simp only [pr, Int.mul_one, List.length_cons, List.length_nil, Nat.zero_add, List.map_cons, List.map_nil] at this
  exact this
theorem smul_four (b : Nat) (x y : Int) (j k : Nat) (w : World) (hg : Glob w) (hs : NoErr w b) (hx : x.natAbs < 10 ^ j) (hy : y.natAbs < 10 ^ k) (h : j + k ≤ 1024) :
    Calls Tryz.prog 134 #[.pointer (some ⟨b, 0, none⟩), .slice (some ⟨w.heap.size, 0, none⟩) 4 4] (w.alloc (.cells #[.string (bs (I x)), .string (bs (I y)), .string (bs (I 1)), .string (bs (I 1))] 185)) (Ret (w.alloc (.cells #[.string (bs (I x)), .string (bs (I y)), .string (bs (I 1)), .string (bs (I 1))] 185)) (.string (bs (I (x * y))))) := by
  have := smul_list b [x, y, 1, 1] 4 w hg hs (fun q hq => by simp at hq; rcases hq with rfl | rfl | rfl <;> first | exact ok_pow hx (by omega) | exact ok_pow hy (by omega) | exact ok_of (by decide))
    (fun i hi => by
      match i, hi with
      | 0, _ => exact ok_of (by simp [pr])
      | 1, _ => exact ok_pow (k := j) (by simpa [pr] using hx) (by omega)
      | 2, _ => exact ok_pow (k := j + k) (by simpa [pr] using mul_pow hx hy) (by omega)
      | 3, _ => exact ok_pow (k := j + k) (by simpa [pr] using mul_pow hx hy) (by omega)
      | 4, _ => exact ok_pow (k := j + k) (by simpa [pr] using mul_pow hx hy) (by omega)) (by simp)
  simp only [pr, Int.mul_one, List.length_cons, List.length_nil, Nat.zero_add, List.map_cons, List.map_nil] at this
  exact this
theorem smul_zero (b : Nat) (x y z : Int) (j : Nat) (w : World) (hg : Glob w) (hs : NoErr w b) (hx : x.natAbs < 10 ^ j) (hy : y.natAbs < 10 ^ j) (hz : z.natAbs < 10 ^ j) (h : j ≤ 1024) :
    Calls Tryz.prog 134 #[.pointer (some ⟨b, 0, none⟩), .slice (some ⟨w.heap.size, 0, none⟩) 4 4] (w.alloc (.cells #[.string (bs (I 0)), .string (bs (I x)), .string (bs (I y)), .string (bs (I z))] 185)) (Ret (w.alloc (.cells #[.string (bs (I 0)), .string (bs (I x)), .string (bs (I y)), .string (bs (I z))] 185)) (.string (bs (I 0)))) := by
  have := smul_list b [0, x, y, z] 4 w hg hs (fun q hq => by simp at hq; rcases hq with rfl | rfl | rfl | rfl <;> first | exact ok_pow hx (by omega) | exact ok_pow hy (by omega) | exact ok_pow hz (by omega) | exact ok_of (by decide))
    (fun i hi => by
      match i, hi with
      | 0, _ => exact ok_of (by simp [pr])
      | 1, _ => exact ok_of (by simp [pr])
      | 2, _ => exact ok_of (by simp [pr])
      | 3, _ => exact ok_of (by simp [pr])
      | 4, _ => exact ok_of (by simp [pr])) (by simp)
  simp only [pr, Int.zero_mul, List.length_cons, List.length_nil, Nat.zero_add, List.map_cons, List.map_nil] at this
  exact this
theorem sroot (b : Nat) (x y r : Int) (j k m : Nat) (w : World) (hg : Glob w) (hs : NoErr w b) (hx : x.natAbs < 10 ^ j) (hy : y.natAbs < 10 ^ k) (hr : r.natAbs < 10 ^ m) (h1 : j + j + 1 ≤ 1024) (h2 : k + k + m + 1 ≤ 1024) :
    Calls Tryz.prog 246 #[.pointer (some ⟨b, 0, none⟩), .string (bs (I x)), .string (bs (I y)), .string (bs (I r))] w (Ret w (.int .i64 (rootI x y r))) := by
  have q1 : (x * x).natAbs < 10 ^ (j + j + k + k + m) := Nat.lt_of_lt_of_le (mul_pow hx hx) (Nat.pow_le_pow_right (by decide) (by omega))
  have okx := ok_pow (mul_pow hx hx) (by omega)
  have oky := ok_pow (mul_pow (mul_pow hy hy) hr) (by omega)
  have okd : Ok (x * x - y * y * r) := by
    rcases Nat.le_total (j + j) (k + k + m) with h | h
    · exact ok_pow (sub_pow (Nat.lt_of_lt_of_le (mul_pow hx hx) (Nat.pow_le_pow_right (by decide) h)) (mul_pow (mul_pow hy hy) hr)) (by omega)
    · exact ok_pow (sub_pow (mul_pow hx hx) (Nat.lt_of_lt_of_le (mul_pow (mul_pow hy hy) hr) (Nat.pow_le_pow_right (by decide) h))) (by omega)
  have H1 := Lib.hid (fun W (hW : Below w.heap.size w W) => ssign b x W (hs.below' hW) (ok_pow hx (by omega)))
  have H2 := Lib.hid (fun W (hW : Below w.heap.size w W) => ssign b y W (hs.below' hW) (ok_pow hy (by omega)))
  have H3 := Lib.hid (fun W (hW : Below w.heap.size w W) => ssign b r W (hs.below' hW) (ok_pow hr (by omega)))
  have HXX := Lib.hid (fun W (hW : Below w.heap.size w W) => smul_two b x x W (hg.of hW) (hs.below' hW) (ok_pow hx (by omega)) (ok_pow hx (by omega)) okx)
  have HYY := Lib.hid (fun W (hW : Below w.heap.size w W) => smul_three b y y r k k m W (hg.of hW) (hs.below' hW) hy hy hr (by omega))
  have HSB := Lib.hid (fun W (hW : Below w.heap.size w W) => ssub_ok b (x * x) (y * y * r) W (hg.of hW) (hs.below' hW) okx oky okd)
  have H4 := Lib.hid (fun W (hW : Below w.heap.size w W) => ssign b (x * x - y * y * r) W (hs.below' hW) okd)
  have r1 := sign_range x
  have r2 := sign_range y
  have r3 := sign_range r
  have r4 := sign_range (x * x - y * y * r)
  unfold rootI
  clear q1 okx oky okd hx hy hr h1 h2 hs hg
  generalize Int.sign x = sx at *
  generalize Int.sign y = sy at *
  generalize Int.sign r = sr at *
  generalize Int.sign (x * x - y * y * r) = sd at *
  generalize x * x - y * y * r = zd at *
  generalize y * y * r = zy at *
  generalize x * x = zx at *
  obtain ⟨t, ht⟩ : ∃ t, t = sy * sr := ⟨_, rfl⟩
  have hb1 : t = -1 ∨ t = 0 ∨ t = 1 := by rw [ht]; rcases r2 with rfl | rfl | rfl <;> rcases r3 with rfl | rfl | rfl <;> decide
  have hw1 : wrap64 (sy * sr) = t := by rw [ht]; exact IntWalk.wrap64_in _ (by rcases r2 with rfl | rfl | rfl <;> rcases r3 with rfl | rfl | rfl <;> decide)
  rw [← ht]
  obtain ⟨p, hp⟩ : ∃ p, p = sx * t := ⟨_, rfl⟩
  have hw2 : wrap64 (sx * t) = p := by rw [hp]; exact IntWalk.wrap64_in _ (by rcases r1 with rfl | rfl | rfl <;> rcases hb1 with rfl | rfl | rfl <;> decide)
  rw [← hp]
  obtain ⟨qq, hq⟩ : ∃ q, q = sx * sd := ⟨_, rfl⟩
  have hw3 : wrap64 (sx * sd) = qq := by rw [hq]; exact IntWalk.wrap64_in _ (by rcases r1 with rfl | rfl | rfl <;> rcases r4 with rfl | rfl | rfl <;> decide)
  rw [← hq]
  generalize hrs : (if 0 ≤ p then if sx = 0 then t else sx else qq) = rs
  have HRS := Lib.hid hrs
  clear hp hq ht
  clear r1 r2 r3 r4 hb1 hrs
  go_enter Tryz.func246, Tryz.ntmps246
  go_wp2_with fail
  refine (H1.out _ (Below.refl _ _)).mono ?_
  rintro e w1 ⟨rfl, hb1⟩
  go_wp2_with fail
  refine (H2.out _ hb1).mono ?_
  rintro e w2 ⟨rfl, hb2⟩
  have hb2 := Below.then hb1 hb2
  go_wp2_with fail
  refine (H3.out _ hb2).mono ?_
  rintro e w3 ⟨rfl, hb3⟩
  have hb3 := Below.then hb2 hb3
  clear hb1 hb2 H1 H2 H3
  by_cases h0 : 0 ≤ p
  · have d0 : decide (0 ≤ p) = true := decide_eq_true h0
    by_cases hx0 : sx = 0
    · have d1 : (sx != 0) = false := by simp [hx0]
      obtain rfl : t = rs := by rw [← HRS.out, if_pos h0, if_pos hx0]
      clear HRS
      go_wp2
      go_ret
      exact Ret.of (by simp [hw1]) hb3
    · have d1 : (sx != 0) = true := by simp [hx0]
      obtain rfl : sx = rs := by rw [← HRS.out, if_pos h0, if_neg hx0]
      clear HRS
      go_wp2
      go_ret
      exact Ret.of rfl hb3
  · have d0 : decide (0 ≤ p) = false := decide_eq_false h0
    obtain rfl : qq = rs := by rw [← HRS.out, if_neg h0]
    clear HRS
    go_wp2_with fail
    refine (HXX.out _ hb3).mono ?_
    rintro e w4 ⟨rfl, hb4⟩
    have hb4 := Below.then hb3 (alloc_then hb4)
    go_wp2_with fail
    refine (HYY.out _ hb4).mono ?_
    rintro e w5 ⟨rfl, hb5⟩
    have hb5 := Below.then hb4 (alloc_then hb5)
    go_wp2_with fail
    refine (HSB.out _ hb5).mono ?_
    rintro e w6 ⟨rfl, hb6⟩
    have hb6 := Below.then hb5 hb6
    go_wp2_with fail
    refine (H4.out _ hb6).mono ?_
    rintro e w7 ⟨rfl, hb7⟩
    have hb7 := Below.then hb6 hb7
    go_wp2
    go_ret
    exact Ret.of (by simp [hw3]) hb7
theorem checks_five (a b c d e : List UInt8) (w : World) (hg : Glob w) (ha : a.length ≤ 90000) (hb : b.length ≤ 90000) (hc : c.length ≤ 90000) (hd : d.length ≤ 90000) (he : e.length ≤ 90000) :
    Calls Tryz.prog 169 #[.slice (some ⟨w.heap.size, 0, none⟩) 5 5] (w.alloc (.cells #[.string (bs a), .string (bs b), .string (bs c), .string (bs d), .string (bs e)] 86)) (Ret (w.alloc (.cells #[.string (bs a), .string (bs b), .string (bs c), .string (bs d), .string (bs e)] 86)) (.int .i64 ((chkRs [a, b, c, d, e] : Nat) : Int))) := by
  have hr := Row.new w 86 (Strs [a, b, c, d, e])
  refine checks_any [a, b, c, d, e] w.heap.size 0 5 _ (hg.of (RowKit.Below.alloc (RowKit.Below.refl _ _) (Nat.le_refl _) _)) (fun l hl => ?_) (by simp) (by simp) (fun i hi => ?_)
  · simp at hl; rcases hl with rfl | rfl | rfl | rfl | rfl <;> assumption
  · rw [Nat.zero_add]
    match i, hi with
    | 0, _ => exact hr.cell rfl
    | 1, _ => exact hr.cell rfl
    | 2, _ => exact hr.cell rfl
    | 3, _ => exact hr.cell rfl
    | 4, _ => exact hr.cell rfl
theorem cut_zero (w : World) (hg : Glob w) : ∃ c, Calls Tryz.prog 94 #[.string ⟨#[48]⟩] w (Ret w (.tuple #[.string (bs (I 0)), .string (bs (I 1)), .bool c])) := by
  have h := cut_R 0 w hg (by rw [R_nil]; decide)
  rw [R_nil] at h
  exact h
theorem sroots (a b c : Rat) (j k m : Nat) (w : World) (hg : Glob w) (ha : Bq j a) (hb : Bq k b) (hc : Bq m c) (h0 : 0 ≤ c) (hjk : 2 * (j + k + m) + 1 ≤ 1024) :
    Calls Tryz.prog 223 #[.string (bs (R a)), .string (bs (R b)), .string (bs (R c)), .string ⟨#[48]⟩, .string ⟨#[48]⟩] w (Ret w (.tuple #[.int .i64 (rootR a b c), .int .i64 0])) := by
  have la := ha.R_len (by omega)
  have lb := hb.R_len (by omega)
  have lc := hc.R_len (by omega)
  have hch := checks_five (R a) (R b) (R c) (R 0) (R 0) w hg (by omega) (by omega) (by omega) (by rw [R_nil]; decide) (by rw [R_nil]; decide)
  rw [show chkRs [R a, R b, R c, R 0, R 0] = 0 by simp [chkRs, ha.chk (by omega), hb.chk (by omega), hc.chk (by omega), Bq_nil.chk (by decide)], R_nil] at hch
  have HCH := Lib.hid hch
  have HCA := Lib.hid (fun w' hg => cut_R a w' hg (by omega))
  have HCB := Lib.hid (fun w' hg => cut_R b w' hg (by omega))
  have HCC := Lib.hid (fun w' hg => cut_R c w' hg (by omega))
  have HC0 := Lib.hid (fun w' hg => cut_zero w' hg)
  have HX := Lib.hid (fun bx W (hg : Glob W) hs => smul_five bx a.num (b.den : Int) (c.den : Int) j k m W hg hs ha.1 (den_abs hb) (den_abs hc) (by omega))
  have HY := Lib.hid (fun bx W (hg : Glob W) hs => smul_four bx b.num (a.den : Int) k j W hg hs hb.1 (den_abs ha) (by omega))
  have HR := Lib.hid (fun bx W (hg : Glob W) hs => smul_two bx c.num (c.den : Int) W hg hs (hc.num (by omega)) (hc.den (by omega)) (ok_mul hc.1 (den_abs hc) (by omega)))
  have HZ := Lib.hid (fun bx W (hg : Glob W) hs => smul_zero bx (a.den : Int) (b.den : Int) (c.den : Int) (j + k + m) W hg hs (Nat.lt_of_lt_of_le (den_abs ha) (Nat.pow_le_pow_right (by decide) (by omega))) (Nat.lt_of_lt_of_le (den_abs hb) (Nat.pow_le_pow_right (by decide) (by omega))) (Nat.lt_of_lt_of_le (den_abs hc) (Nat.pow_le_pow_right (by decide) (by omega))) (by omega))
  have HT := Lib.hid (fun bx W (hg : Glob W) hs => smul_two bx 0 1 W hg hs (ok_of (by decide)) (ok_of (by decide)) (ok_of (by decide)))
  have hro := fun bx W (hg : Glob W) hs => sroot bx (a.num * ((b.den : Int) * (c.den : Int))) (b.num * (a.den : Int)) (c.num * (c.den : Int)) (j + (k + m)) (k + j) (m + m) W hg hs (mul_pow ha.1 (mul_pow (den_abs hb) (den_abs hc))) (mul_pow hb.1 (den_abs ha)) (mul_pow hc.1 (den_abs hc)) (by omega) (by omega)
  rw [rootI_R] at hro
  have HRO := Lib.hid hro
  have HS0 := Lib.hid (fun bx W hs => ssign bx 0 W hs (ok_of (by decide)))
  rw [show Int.sign 0 = 0 from rfl] at HS0
  rw [show (0 : Int) * 1 = 0 from rfl] at HT
  obtain ⟨ch, ct, hct, hc45⟩ := R_head c
  rw [decide_eq_false (Rat.not_lt.2 h0)] at hc45
  rw [hct] at HCC HCH ⊢
  have hcd : ((ch.toNat : Int) == 45) = false := by
    rw [beq_eq_false_iff_ne] at hc45
    have h1 : ch.toNat ≠ 45 := fun e => hc45 (UInt8.toNat_inj.1 (by rw [e]; rfl))
    simp; omega
  clear hch hro la lb lc ha hb hc h0 hjk hct
  generalize rootR a b c = r at *
  generalize a.num * ((b.den : Int) * (c.den : Int)) = zx at *
  generalize b.num * (a.den : Int) = zy at *
  generalize c.num * (c.den : Int) = zr at *
  generalize I a.num = an at *
  generalize I b.num = bn at *
  generalize I c.num = cn at *
  generalize I (a.den : Int) = aq at *
  generalize I (b.den : Int) = bq at *
  generalize I (c.den : Int) = cq at *
  generalize R a = sa at *
  generalize R b = sb at *
  go_enter Tryz.func223, Tryz.ntmps223
  go_wp2_with fail
  refine (HCH.out).mono ?_
  rintro e w1 ⟨rfl, hb1⟩
  have hb1 := alloc_then hb1
  obtain ⟨c1, hc1⟩ := HCA.out _ (hg.of hb1)
  have H1 := Lib.hid hc1
  clear hc1
  go_wp2_with fail
  refine (H1.out).mono ?_
  rintro e w2 ⟨rfl, hb2⟩
  have hb2 := Below.then hb1 hb2
  obtain ⟨c2, hc2⟩ := HCB.out _ (hg.of hb2)
  have H2 := Lib.hid hc2
  clear hc2
  go_wp2_with fail
  refine (H2.out).mono ?_
  rintro e w3 ⟨rfl, hb3⟩
  have hb3 := Below.then hb2 hb3
  obtain ⟨c3, hc3⟩ := HCC.out _ (hg.of hb3)
  have H3 := Lib.hid hc3
  clear hc3
  go_wp2_with fail
  refine (H3.out).mono ?_
  rintro e w4 ⟨rfl, hb4⟩
  have hb4 := Below.then hb3 hb4
  obtain ⟨c4, hc4⟩ := HC0.out _ (hg.of hb4)
  have H4 := Lib.hid hc4
  clear hc4
  go_wp2_with fail
  refine (H4.out).mono ?_
  rintro e w5 ⟨rfl, hb5⟩
  have hb5 := Below.then hb4 hb5
  obtain ⟨c5, hc5⟩ := HC0.out _ (hg.of hb5)
  have H5 := Lib.hid hc5
  clear hc5
  go_wp2_with fail
  refine (H5.out).mono ?_
  rintro e w6 ⟨rfl, hb6⟩
  have hb6 := Below.then hb5 hb6
  have hs6 := NoErr.new w6
  have hb7 : Below w.heap.size w (w6.alloc (.cells #[.int .i64 0] 278 (0, 0))) := hb6.alloc hb6.size _
  have HS6 := Lib.hid hs6
  have HB7 := Lib.hid hb7
  clear hs6 hb7 hb1 hb2 hb3 hb4 hb5 hb6 H1 H2 H3 H4 H5
  have hx := HX.out _ _ (hg.of HB7.out) HS6.out
  rw [show (w6.alloc (.cells #[.int .i64 0] 278 (0, 0))).heap.size = w6.heap.size + 1 by simp] at hx
  have HX1 := Lib.hid hx
  clear hx
  go_wp2_with fail
  refine (HX1.out).mono ?_
  rintro e w8 ⟨rfl, hb8⟩
  have hb8 := alloc_then hb8
  have HS8 := Lib.hid (HS6.out.below' hb8)
  have HB8 := Lib.hid (Below.then HB7.out hb8)
  clear hb8 HX1
  go_wp2_with fail
  refine (HY.out _ _ (hg.of HB8.out) HS8.out).mono ?_
  rintro e w9 ⟨rfl, hb9⟩
  have hb9 := alloc_then hb9
  have HS9 := Lib.hid (HS8.out.below' hb9)
  have HB9 := Lib.hid (Below.then HB8.out hb9)
  clear hb9 HS8 HB8
  go_wp2_with fail
  refine (HR.out _ _ (hg.of HB9.out) HS9.out).mono ?_
  rintro e w10 ⟨rfl, hb10⟩
  have hb10 := alloc_then hb10
  have HS10 := Lib.hid (HS9.out.below' hb10)
  have HB10 := Lib.hid (Below.then HB9.out hb10)
  clear hb10 HS9 HB9
  go_wp2_with fail
  refine (HZ.out _ _ (hg.of HB10.out) HS10.out).mono ?_
  rintro e w11 ⟨rfl, hb11⟩
  have hb11 := alloc_then hb11
  have HS11 := Lib.hid (HS10.out.below' hb11)
  have HB11 := Lib.hid (Below.then HB10.out hb11)
  clear hb11 HS10 HB10
  go_wp2_with fail
  refine (HT.out _ _ (hg.of HB11.out) HS11.out).mono ?_
  rintro e w12 ⟨rfl, hb12⟩
  have hb12 := alloc_then hb12
  have HS12 := Lib.hid (HS11.out.below' hb12)
  have HB12 := Lib.hid (Below.then HB11.out hb12)
  clear hb12 HS11 HB11
  go_wp2_with fail
  refine (HRO.out _ _ (hg.of HB12.out) HS12.out).mono ?_
  rintro e w13 ⟨rfl, hb13⟩
  have HS13 := Lib.hid (HS12.out.below' hb13)
  have HB13 := Lib.hid (Below.then HB12.out hb13)
  clear hb13 HS12 HB12
  go_wp2_with fail
  refine (HS0.out _ _ HS13.out).mono ?_
  rintro e w14 ⟨rfl, hb14⟩
  have HS14 := Lib.hid (HS13.out.below' hb14)
  have HB14 := Lib.hid (Below.then HB13.out hb14)
  clear hb14 HS13 HB13
  go_wp2_with fail
  refine (HS0.out _ _ HS14.out).mono ?_
  rintro e w15 ⟨rfl, hb15⟩
  have HS15 := Lib.hid (HS14.out.below' hb15)
  have HB15 := Lib.hid (Below.then HB14.out hb15)
  clear hb15 HS14 HB14
  have hc15 := HS15.out.cell
  by_cases hr0 : r = 0
  · subst hr0
    go_wp2
    go_quiet (fail)
    go_wp2
    go_ret2
    exact Ret.of rfl (Below.drewN HB15.out _)
  · have hr1 : (r == 0) = false := by simpa using hr0
    go_wp2
    go_quiet (fail)
    go_wp2
    go_ret2
    exact Ret.of rfl (Below.drewN HB15.out _)
theorem sroot1 (a b c : Rat) (j k m : Nat) (w : World) (hg : Glob w) (ha : Bq j a) (hb : Bq k b) (hc : Bq m c) (h0 : 0 ≤ c) (hjk : 2 * (j + k + m) + 1 ≤ 1024) :
    Calls Tryz.prog 190 #[.string (bs (R a)), .string (bs (R b)), .string (bs (R c))] w (Ret w (.tuple #[.int .i64 (rootR a b c), .int .i64 0])) := by
  have HM := Lib.hid (sroots a b c j k m w hg ha hb hc h0 hjk)
  clear hg ha hb hc h0 hjk
  go_enter Tryz.func190, Tryz.ntmps190
  go_wp2_with fail
  refine (HM.out).mono ?_
  rintro e w1 ⟨rfl, hb1⟩
  go_wp2
  go_ret2
  exact Ret.of rfl hb1
end W
end Go.Proofs.YtellemlhhlafcaaGreatDoor
end
section
namespace Go.Proofs.YtellemlhhlafcaaGreatDoor
open Go Go.RowKit Go.Deep Go.Sort
def NoErrD (w : World) (b : Nat) : Prop := Row w b 153 [.int .i64 0]
theorem NoErrD.below' {b : Nat} {w w' : World} (h : NoErrD w b) (hb : Below w.heap.size w w') : NoErrD w' b := Row.below' h hb
theorem NoErrD.cell {w : World} {b : Nat} (h : NoErrD w b) : w.cell? ⟨b, 0, none⟩ = some (.int .i64 0) := Row.cell h rfl
theorem NoErrD.free {w : World} {b : Nat} (h : NoErrD w b) : w.frozen? ⟨b, 0, none⟩ = false := Row.free h 0
theorem Below.sameD {B : Nat} {a w : World} (h : Below B a w) {b : Nat} (hn : NoErrD w b) : Below B a (w.setCell ⟨b, 0, none⟩ (.int .i64 0)) := by
  have hr := Row.set hn 0 (.int .i64 0)
  refine h.trans ⟨rfl, rfl, rfl, ?_, fun k hk => ?_⟩
  · show _ ≤ (w.heap.modify _ _).size; simp
  · by_cases hkb : k = b
    · subst hkb
      exact hr.trans (Eq.symm hn)
    · exact Below.heap_setCell _ _ _ _ hkb
namespace W
open M
attribute [local go_sem] bs_size bs_toList bs_get bs_extract bs_append bs_lit0 bs_lit1 lit1_bs
set_option maxHeartbeats 2000000
set_option maxRecDepth 20000
theorem kdo (f b : Nat) (x y r : List UInt8) (w : World) (hf : Enters Tryz.prog f) (hs : NoErrD w b) (hop : Calls Tryz.prog f #[.string (bs x), .string (bs y)] w (Ret w (.tuple #[.string (bs r), .int .i64 0]))) :
    Calls Tryz.prog 191 #[.pointer (some ⟨b, 0, none⟩), .func (.func f) #[] #[], .string (bs x), .string (bs y)] w (Ret w (.string (bs r))) := by
  have hc := hs.cell
  have HOP := Lib.hid hop
  have HS := Lib.hid hs
  clear hop hs
  unfold Enters at hf
  go_enter Tryz.func191, Tryz.ntmps191
  go_wp2_with fail
  refine HOP.out.mono ?_
  rintro e w1 ⟨rfl, hb1⟩
  have hs1 := HS.out.below' hb1
  have hc1 := hs1.cell
  have hf1 := hs1.free
  have HS1 := Lib.hid hs1
  clear hs1 hc
  go_wp2
  go_ret
  exact Ret.of rfl (Below.sameD hb1 HS1.out)
theorem ent_radd : Enters Tryz.prog 159 := enters_of Tryz.func159 (by kernel_rfl) rfl
theorem ent_rsub : Enters Tryz.prog 158 := enters_of Tryz.func158 (by kernel_rfl) rfl
theorem ent_rmul : Enters Tryz.prog 92 := enters_of Tryz.func92 (by kernel_rfl) rfl
theorem ent_rdiv : Enters Tryz.prog 197 := enters_of Tryz.func197 (by kernel_rfl) rfl
theorem kadd (b : Nat) (x y : Rat) (j k : Nat) (w : World) (hg : Glob w) (hs : NoErrD w b) (hx : Bq j x) (hy : Bq k y) (hjk : j + k + 1 ≤ 1024) :
    Calls Tryz.prog 192 #[.pointer (some ⟨b, 0, none⟩), .string (bs (R x)), .string (bs (R y))] w (Ret w (.string (bs (R (x + y))))) := by
  have HD := Lib.hid (kdo _ b _ _ _ w ent_radd hs (ratAdd x y j k w hg hx hy hjk))
  clear hs hx hy
  go_enter Tryz.func192, Tryz.ntmps192
  go_wp2_with fail
  refine (HD.out).mono ?_
  rintro e w1 ⟨rfl, hb1⟩
  go_wp2
  go_ret
  exact Ret.of rfl hb1
theorem ksub (b : Nat) (x y : Rat) (j k : Nat) (w : World) (hg : Glob w) (hs : NoErrD w b) (hx : Bq j x) (hy : Bq k y) (hjk : j + k + 1 ≤ 1024) :
    Calls Tryz.prog 145 #[.pointer (some ⟨b, 0, none⟩), .string (bs (R x)), .string (bs (R y))] w (Ret w (.string (bs (R (x - y))))) := by
  have HD := Lib.hid (kdo _ b _ _ _ w ent_rsub hs (ratSub x y j k w hg hx hy hjk))
  clear hs hx hy
  go_enter Tryz.func145, Tryz.ntmps145
  go_wp2_with fail
  refine (HD.out).mono ?_
  rintro e w1 ⟨rfl, hb1⟩
  go_wp2
  go_ret
  exact Ret.of rfl hb1
theorem kmul (b : Nat) (x y : Rat) (j k : Nat) (w : World) (hg : Glob w) (hs : NoErrD w b) (hx : Bq j x) (hy : Bq k y) (hjk : j + k ≤ 1024) :
    Calls Tryz.prog 193 #[.pointer (some ⟨b, 0, none⟩), .string (bs (R x)), .string (bs (R y))] w (Ret w (.string (bs (R (x * y))))) := by
  have HD := Lib.hid (kdo _ b _ _ _ w ent_rmul hs (ratMul x y j k w hg hx hy hjk))
  clear hs hx hy
  go_enter Tryz.func193, Tryz.ntmps193
  go_wp2_with fail
  refine (HD.out).mono ?_
  rintro e w1 ⟨rfl, hb1⟩
  go_wp2
  go_ret
  exact Ret.of rfl hb1
theorem kdiv (b : Nat) (x y : Rat) (j k : Nat) (w : World) (hg : Glob w) (hs : NoErrD w b) (hx : Bq j x) (hy : Bq k y) (h0 : y ≠ 0) (hjk : j + k ≤ 1024) :
    Calls Tryz.prog 191 #[.pointer (some ⟨b, 0, none⟩), .func (.func 197) #[] #[], .string (bs (R x)), .string (bs (R y))] w (Ret w (.string (bs (R (x / y))))) :=
  kdo _ b _ _ _ w ent_rdiv hs (ratDiv x y j k w hg hx hy h0 hjk)
end W
end Go.Proofs.YtellemlhhlafcaaGreatDoor
end
