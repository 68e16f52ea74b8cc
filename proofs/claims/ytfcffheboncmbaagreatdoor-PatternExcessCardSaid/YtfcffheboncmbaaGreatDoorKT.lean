/-
  Chapter 5's laws: lists of bounds that are copied and appended to.
  How long the greatest value can be, plain: the rows brought to whole numbers first.
  The text of the greatest value has at most 299 characters, plain, for few bounds with short numbers.
  Chapter 5's laws: 'Implied' of the program, 'right' of the laws.
  Chapter 46: the reference's checks of plates; the bonus, the allowed tolerance and 'Zone' on both sides.
  Chapter 46: what the rows' listed variables give a walk, the table of signs too.
  Chapter 46: a world for the witness, the table of signs too.
  Chapter 46: arguments that are a target, or a circle.
-/
import Derived.Test.YtfcffheboncmbaaGreatDoorKS
import Derived.Test.YtfcffheboncmbaaGreatDoorKI
import Derived.Sort.BigQuietIn
import Derived.Deep.QuietTactic
import Derived.BigQuiet
import Derived.Test.YtfcffheboncmbaaGreatDoorKH
import Derived.Lib.SmallJoins
section
namespace Go.Proofs.YtfcffheboncmbaaGreatDoor
open Go Go.RowKit Go.Deep Go.Sort
open M in
/-- The cells of bounds, each with the value of its row. -/
def bcs (es : List (Value × M.BT)) : List Value := es.flatMap fun x => [x.1, .string (bs x.2.2)]
theorem bcs_append (a b : List (Value × M.BT)) : bcs (a ++ b) = bcs a ++ bcs b := by simp [bcs]
theorem bcs_len (l : List (Value × M.BT)) : (bcs l).length = l.length * 2 := by
  induction l with
  | nil => rfl
  | cons x t ih => simp only [bcs, List.flatMap_cons, List.length_append, List.length_cons, List.length_nil] at *; omega
theorem bcs_get (l : List (Value × M.BT)) (i : Nat) (h : i < l.length) : (bcs l)[i * 2]? = some l[i].1 ∧ (bcs l)[i * 2 + 1]? = some (.string (bs l[i].2.2)) := by
  induction l generalizing i with
  | nil => cases h
  | cons x t ih =>
    rcases i with _ | j
    · exact ⟨rfl, rfl⟩
    · have hj : j < t.length := by simpa using h
      have e1 : bcs (x :: t) = x.1 :: .string (bs x.2.2) :: bcs t := rfl
      have k := ih j hj
      rw [e1, show (j + 1) * 2 = (j * 2 + 1) + 1 by omega, show (j * 2 + 1) + 1 + 1 = (j * 2 + 1 + 1) + 1 by omega]
      exact k
/-- The rows' values read as their texts. -/
def GoodE (w : World) (es : List (Value × M.BT)) : Prop := ∀ x ∈ es, RdT w x.1 x.2.1 ∧ Shp x.1
theorem GoodE.below {w w' : World} {es : List (Value × M.BT)} (h : GoodE w es) (hb : Below w.heap.size w w') : GoodE w' es := fun x hx => ⟨(h x hx).1.below hb, (h x hx).2⟩
theorem GoodE.append {w : World} {a b : List (Value × M.BT)} (h : GoodE w a) (h2 : GoodE w b) : GoodE w (a ++ b) := fun x hx => (List.mem_append.1 hx).elim (h x) (h2 x)
theorem GoodE.one {w : World} {es : List (Value × M.BT)} (h : GoodE w es) : ∀ u ∈ bcs es, u.oneCell' = true := by
  intro u hu
  simp only [bcs, List.mem_flatMap] at hu
  obtain ⟨x, hx, hx2⟩ := hu
  simp at hx2
  rcases hx2 with rfl | rfl
  · rcases (h x hx).2 with e | ⟨_, _, _, e⟩ <;> rw [e] <;> rfl
  · rfl
/-- An own row of bounds; a value whose cells are those of bounds. -/
def OwnE (w : World) (B : Nat) (v : Value) (es : List (Value × M.BT)) : Prop := w.ownsRow B 79 2 v es.length (bcs es)
def SrcE (w : World) (x : Value) (es : List (Value × M.BT)) : Prop :=
  (x = .slice none 0 0 ∧ es = []) ∨ ∃ a cap, x = .slice (some a) es.length cap ∧ ∀ j u, (bcs es)[j]? = some u → w.cell? (a.add j) = some u
theorem OwnE.below {w w' : World} {B : Nat} {v : Value} {es : List (Value × M.BT)} (h : OwnE w B v es) (hb : Below w.heap.size w w') : OwnE w' B v es :=
  World.ownsRow.kept (row := none) h ⟨hb.os, hb.tape, hb.output, hb.size, fun k hk _ => hb.block k hk⟩ (Classical.em _)
theorem OwnE.rd {w : World} {B : Nat} {v : Value} {es : List (Value × M.BT)} (h : OwnE w B v es) (hg : GoodE w es) : RdB w v (es.map (·.2)) := by
  obtain ⟨h1, h2⟩ := h
  rcases h2 with ⟨hv, hn⟩ | ⟨g, cap, cur, hv, hB, hh, hn, hm, hs, ht⟩
  · refine ⟨none, 0, ?_, Or.inl (by rw [List.length_eq_zero_iff.1 hn]; rfl)⟩
    rw [hv, List.length_map, hn]
  · refine ⟨some ⟨g, 0, none⟩, cap, by rw [hv, List.length_map], ?_⟩
    by_cases hl : es = []
    · exact Or.inl (by rw [hl]; rfl)
    · refine Or.inr ⟨g, 0, rfl, lt_of_block hh, fun i hi => ?_, fun i hi => ?_⟩
      · have hi2 : i < es.length := by simpa using hi
        have hx := hg _ (List.getElem_mem hi2)
        refine ⟨es[i].1, ?_, ?_, hx.2⟩
        · have := (bcs_get es i hi2).1
          rw [← ht, List.getElem?_take] at this
          split at this
          · simp [World.cell?, hh]; simpa using this
          · cases this
        · simpa using hx.1
      · have hi2 : i < es.length := by simpa using hi
        have := (bcs_get es i hi2).2
        rw [← ht, List.getElem?_take] at this
        split at this
        · simp [World.cell?, hh]; simpa using this
        · cases this
/-- A list of bounds that is read, with its rows' values. -/
theorem RdB.src {w : World} {v : Value} {l : List M.BT} (h : RdB w v l) (hs : Shp v) : ∃ es, l = es.map (·.2) ∧ GoodE w es ∧ SrcE w v es := by
  obtain ⟨A, cap, rfl, h2⟩ := h
  rcases h2 with rfl | ⟨b, o, rfl, h3⟩
  · refine ⟨[], rfl, (fun x hx => by cases hx), ?_⟩
    rcases hs with e | ⟨a, n, c, e⟩
    · exact Or.inl ⟨e, rfl⟩
    · injection e with e1 e2 e3
      subst e1
      exact Or.inr ⟨a, cap, rfl, fun j u hj => by simp [bcs] at hj⟩
  · obtain ⟨F, hF⟩ : ∃ F : Nat → Value, ∀ i (hi : i < l.length), w.cell? ⟨b, o + i * 2, none⟩ = some (F i) ∧ RdT w (F i) l[i].1 ∧ Shp (F i) :=
      ⟨fun i => if hi : i < l.length then (h3.row i hi).choose else .slice none 0 0, fun i hi => by
        simp only [dif_pos hi]
        exact (h3.row i hi).choose_spec⟩
    refine ⟨(List.range l.length).map fun i => (F i, l.getD i ([], [])), ?_, ?_, Or.inr ⟨⟨b, o, none⟩, cap, by simp, fun j u hj => ?_⟩⟩
    · apply List.ext_getElem
      · simp
      · intro i h1 h2
        simp [h1]
    · intro x hx
      obtain ⟨i, hi, rfl⟩ := List.mem_map.1 hx
      have hi := List.mem_range.1 hi
      have := hF i hi
      simp only [show l.getD i ([], []) = l[i] by simp [hi]]
      exact ⟨this.2.1, this.2.2⟩
    · have hadd : (⟨b, o, none⟩ : Addr).add j = ⟨b, o + j, none⟩ := by unfold Addr.add; split <;> simp_all
      rw [hadd]
      have hlen := (List.getElem?_eq_some_iff.1 hj).1
      rw [bcs_len] at hlen
      have hlen2 : j < l.length * 2 := by simpa using hlen
      have hi : j / 2 < l.length := by omega
      have hg := bcs_get ((List.range l.length).map fun i => (F i, l.getD i ([], []))) (j / 2) (by simp; exact hi)
      simp only [List.getElem_map, List.getElem_range] at hg
      rcases Nat.mod_two_eq_zero_or_one j with h4 | h4
      · have e : j = j / 2 * 2 := by omega
        rw [e, hg.1] at hj
        rw [e, ← Option.some.inj hj]
        exact (hF _ hi).1
      · have e : j = j / 2 * 2 + 1 := by omega
        rw [e, hg.2] at hj
        rw [e, ← Option.some.inj hj]
        have := h3.most _ hi
        rw [← Nat.add_assoc, this]
        simp [hi]
theorem SrcE.below {w w' : World} {x : Value} {es : List (Value × M.BT)} (h : SrcE w x es) (hb : Below w.heap.size w w') : SrcE w' x es := by
  rcases h with h | ⟨a, cap, e, h⟩
  · exact Or.inl h
  · refine Or.inr ⟨a, cap, e, fun j u hj => ?_⟩
    have h1 := h j u hj
    exact (hb.cell (block_lt_of_cell h1)).trans h1
theorem SrcE.new (w : World) (u : Value) (b : M.BT) : SrcE (w.alloc (.cells #[u, .string (bs b.2)] 79 (0, 0))) (.slice (some ⟨w.heap.size, 0, none⟩) 1 1) [(u, b)] := by
  refine Or.inr ⟨⟨w.heap.size, 0, none⟩, 1, rfl, fun j v hj => ?_⟩
  have hadd : (⟨w.heap.size, 0, none⟩ : Addr).add j = ⟨w.heap.size, j, none⟩ := by unfold Addr.add; split <;> simp_all
  rw [hadd]
  exact (Row.new w 79 [u, .string (bs b.2)]).cell hj
theorem infoBd : (Tryz.prog.info? 79).map (fun i => (i.zero, i.size, i.bytes)) = some (some (.agg #[.slice none 0 0, .string ⟨#[]⟩]), 2, 40) := by kernel_rfl
theorem run_app_e {w : World} {B : Nat} {v x : Value} {l m : List (Value × M.BT)} (ty : TypeId) (h : OwnE w B v l) (hx : SrcE w x m) (hg : GoodE w m) (hB : B ≤ w.heap.size) (hn : (l.length + m.length) * 40 ≤ 140737488355328) :
    ∃ v' w', (Builtin.append_ #[66, 66] ty #[v, x]).run Tryz.prog w = .ok v' w' ∧ OwnE w' B v' (l ++ m) ∧ w.grownBy w' v.ownBlock := by
  obtain ⟨i, h1, h2, h3, h4⟩ := info_parts infoBd
  rcases hx with ⟨rfl, rfl⟩ | ⟨ad, cap, rfl, hc⟩
  · refine ⟨v, w, run_append_owned_none (P := Tryz.prog) (w := w) B _ ty _ i 2 Tryz.underlying66 h1 v l.length (bcs l) h, ?_, grown_same _ _⟩
    rw [List.append_nil]; exact h
  · obtain ⟨v', w', k1, k2, k3, _⟩ := run_append_own (P := Tryz.prog) w B _ ty _ i _ 2 40 Tryz.underlying66 h1 h2 h3 h4 rfl (by decide) v l.length (bcs l) h ad m.length cap (bcs m) (bcs_len m)
      hc hg.one (by unfold maxLen; omega) hn hB
    refine ⟨v', w', k1, ?_, k3⟩
    unfold OwnE
    rw [bcs_append, List.length_append]
    exact k2
theorem step_app_e {ops : Array Oper} {o : Oper} {a : Act} {K : Act → World → Prop} {Q : Exit → Act → World → Prop} {E : Prop} {w : World} {B : Nat} {v xv : Value} {l m : List (Value × M.BT)} (hgd : o.guard = none) (s x : Operand)
    (ho : o.op = .call { callee := .builtin .append, args := #[s, x], argTypes := #[66, 66] }) (hs : a.eval s = v) (hx : a.eval x = xv)
    (h : OwnE w B v l) (hsrc : SrcE w xv m) (hg : GoodE w m) (hB : B ≤ w.heap.size) (hn : (l.length + m.length) * 40 ≤ 140737488355328)
    (hK : ∀ v' w', OwnE w' B v' (l ++ m) → w.grownBy w' v.ownBlock → K (a.put o.dst v') w') : if Region.wanted o (yielded ops a.tmps) = true then Oper.wp Tryz.prog o a w K Q else E := by
  have hw : Region.wanted o (yielded ops a.tmps) = true := by simp [Region.wanted, hgd]
  rw [if_pos hw]
  obtain ⟨v', w', hr, h2, h3⟩ := run_app_e o.type h hsrc hg hB hn
  unfold Oper.wp execOp
  simp only [ho, resolve, invoke, builtin, Sem.run_bind, Sem.run_pure, Result.andThen_ok, List.map_toArray, List.map_cons, List.map_nil, hs, hx, hr]
  exact hK v' w' h2 h3
theorem wpList_app_e {ops : Array Oper} {rest : List Oper} {o : Oper} {a : Act} {Q : Exit → Act → World → Prop} {w : World} {B : Nat} {v xv : Value} {l m : List (Value × M.BT)} (hgd : o.guard = none) (s x : Operand)
    (ho : o.op = .call { callee := .builtin .append, args := #[s, x], argTypes := #[66, 66] }) (hs : a.eval s = v) (hx : a.eval x = xv)
    (h : OwnE w B v l) (hsrc : SrcE w xv m) (hg : GoodE w m) (hB : B ≤ w.heap.size) (hn : (l.length + m.length) * 40 ≤ 140737488355328)
    (hK : ∀ v' w', OwnE w' B v' (l ++ m) → w.grownBy w' v.ownBlock → wpList Tryz.prog ops Q rest (a.put o.dst v') w') : wpList Tryz.prog ops Q (o :: rest) a w :=
  wpList_plain hgd fun _ hK2 => by
    obtain ⟨v', w', hr, h2, h3⟩ := run_app_e o.type h hsrc hg hB hn
    unfold Oper.wp execOp
    simp only [ho, resolve, invoke, builtin, Sem.run_bind, Sem.run_pure, Result.andThen_ok, List.map_toArray, List.map_cons, List.map_nil, hs, hx, hr]
    exact hK2 _ _ (hK v' w' h2 h3)
theorem OwnE.fresh (w : World) (B A : Nat) (hA : A = w.heap.size) (hB : B ≤ A) : OwnE (w.alloc (.cells #[] 79 (0, 0))) B (.slice (some ⟨A, 0, none⟩) 0 0) [] := by
  subst hA
  refine ⟨rfl, Or.inr ⟨w.heap.size, 0, #[], rfl, hB, ?_, Nat.le_refl _, by unfold maxLen; omega, rfl, rfl⟩⟩
  show (w.heap.push _)[w.heap.size]? = _
  simp
theorem app_belE {W w w' : World} {B : Nat} {v : Value} {l : List (Value × M.BT)} (h : OwnE w B v l) (hb : Below W.heap.size W w) (hB : W.heap.size ≤ B) (hg : w.grownBy w' v.ownBlock) : Below W.heap.size W w' :=
  hb.grown hg hb.size fun k hk => Nat.le_trans hB (World.ownsRow.lt h k hk).1
namespace W
open M
attribute [local go_sem] bs_size bs_toList bs_get bs_extract bs_append bs_lit0 bs_lit1 lit1_bs
set_option maxHeartbeats 1000000
set_option maxRecDepth 20000
end W
end Go.Proofs.YtfcffheboncmbaaGreatDoor
end
section
namespace Go.Proofs.YtfcffheboncmbaaGreatDoor
open Go
namespace Sx
open M
/-- A quotient of whole numbers, its parts. -/
theorem frac_parts {y P Q : Rat} {a d : Nat} (hP : IsI P) (hQ : IsI Q) (h0 : Q ≠ 0) (h : y * Q = P) (hp : ab P < (a : Rat)) (hq : ab Q < (d : Rat)) : y.num.natAbs < a ∧ y.den < d := by
  obtain ⟨p, rfl⟩ := hP
  obtain ⟨q, rfl⟩ := hQ
  have hd : q ≠ 0 := fun e => h0 (by rw [e]; rfl)
  have hy : y = Rat.divInt p q := by rw [Rat.divInt_eq_div]; grind
  rw [ab_int] at hp hq
  have ha := Rat.natCast_lt_natCast.1 hp
  have hb := Rat.natCast_lt_natCast.1 hq
  rw [hy]
  refine ⟨?_, ?_⟩
  · rw [Rat.num_divInt]
    refine Nat.lt_of_le_of_lt ?_ ha
    rw [Int.natAbs_ediv_of_dvd (by exact Int.dvd_mul_of_dvd_right (Int.gcd_dvd_right ..)), Int.natAbs_mul]
    have h1 : q.sign.natAbs ≤ 1 := by rw [Int.natAbs_sign]; split <;> omega
    refine Nat.le_trans (Nat.div_le_self _ _) ?_
    have := Nat.mul_le_mul_right p.natAbs h1
    omega
  · rw [Rat.den_divInt, if_neg hd]
    exact Nat.lt_of_le_of_lt (Nat.div_le_self _ _) hb
section
variable {n m : Nat} {E A : Mx} {b : Nat → Nat} {s : Nat → Rat}
end
end Sx
end Go.Proofs.YtfcffheboncmbaaGreatDoor
end
section
namespace Go.Proofs.YtfcffheboncmbaaGreatDoor
open Go
namespace Sx
open M
end Sx
end Go.Proofs.YtfcffheboncmbaaGreatDoor
end
section
namespace Go.Proofs.YtfcffheboncmbaaGreatDoor
open Go Go.RowKit Go.Deep Go.Sort
namespace W
open M Sx
attribute [local go_sem] bs_size bs_toList bs_get bs_extract bs_append bs_lit0 bs_lit1 lit1_bs
set_option maxHeartbeats 1000000
set_option maxRecDepth 20000
end W
end Go.Proofs.YtfcffheboncmbaaGreatDoor
end
section
namespace Go.Proofs.YtfcffheboncmbaaGreatDoor
open Go Go.RowKit Go.Deep
/-- The package's table of sides. -/
def Sig (w : World) : Prop := w.cell? ⟨0, 0, none⟩ = some (.int .i64 (-1)) ∧ w.cell? ⟨0, 1, none⟩ = some (.int .i64 (-1)) ∧ w.cell? ⟨0, 2, none⟩ = some (.int .i64 1) ∧
  w.cell? ⟨0, 3, none⟩ = some (.int .i64 1) ∧ w.cell? ⟨0, 4, none⟩ = some (.int .i64 1) ∧ w.cell? ⟨0, 5, none⟩ = some (.int .i64 (-1))
theorem Sig.below {w w' : World} (h : Sig w) (hb : Below w.heap.size w w') : Sig w' := by
  have hc : ∀ o v, w.cell? ⟨0, o, none⟩ = some v → w'.cell? ⟨0, o, none⟩ = some v := fun o v e => (hb.cell (block_lt_of_cell e)).trans e
  obtain ⟨h0, h1, h2, h3, h4, h5⟩ := h
  exact ⟨hc _ _ h0, hc _ _ h1, hc _ _ h2, hc _ _ h3, hc _ _ h4, hc _ _ h5⟩
namespace M
def sideT (t : Tg) : Int := if t.pin = true then (if t.mat = 2 then -1 else 1) else (if t.mat = 2 then 1 else -1)
end M
abbrev cdV (t : M.Tg) (s : Int) : Value := .agg #[.int .i64 t.x, .int .i64 t.y, .int .i64 t.lo, .int .i64 t.hi, .int .i64 t.tol, .int .i64 t.mat, .bool t.pin, .int .i64 s]
namespace W
open M
attribute [local go_sem] bs_size bs_toList bs_get bs_extract bs_append bs_lit0 bs_lit1 lit1_bs
set_option maxHeartbeats 1000000
set_option maxRecDepth 20000
theorem rplate44 (vt vc : Value) (ts : List Tg) (cs : List Cc) (w : World) (ht : RdG w vt ts) (hc : RdC w vc cs) (nt : ts.length ≤ maxLen) (nc : cs.length ≤ maxLen) :
    Calls Tryz.prog 55 #[vt, vc] w (Ret w (.int .i64 ((chkPl ts cs : Nat) : Int))) := by
  unfold maxLen at nt nc
  obtain ⟨At, ct, rfl⟩ := ht.len
  obtain ⟨Ac, cc, rfl⟩ := hc.len
  by_cases h16 : 16 < ts.length
  · unfold chkPl
    rw [if_pos h16]
    have hd : decide (16 < (ts.length : Int)) = true := by simp; omega
    clear ht hc
    go_enter Tryz.func55, Tryz.ntmps55
    go_wp2
    go_ret
    exact Ret.of rfl (Below.refl _ _)
  · have hd : decide (16 < (ts.length : Int)) = false := by simp; omega
    have HT := Lib.hid ht
    have HC := Lib.hid hc
    have hp : chkPl ts cs = if chkTs ts ≠ 0 then chkTs ts else if cs.length ≠ ts.length then 8 else chkCs cs := by unfold chkPl; rw [if_neg h16]
    generalize hch : ((chkPl ts cs : Nat) : Int) = ch
    rw [hp] at hch
    have HCH := Lib.hid hch
    clear ht hc hp hch
    have hts : ts.length ≤ 16 := by omega
    go_enter Tryz.func55, Tryz.ntmps55
    go_wp2
    go_loopw [5] (fun iv wr => ∃ i : Nat, iv = .int .i64 (i : Int) ∧ i ≤ ts.length ∧ Hid (chkTs ts = chkTs (ts.drop i)) ∧ Hid (Below w.heap.size w wr)) (fun iv _ => ts.length - (intOf iv).toNat)
    case atStart => exact ⟨0, rfl, by omega, Lib.hid (by rw [List.drop_zero]), Lib.hid (Below.refl _ _)⟩
    case round =>
      obtain ⟨i, rfl, hi, hk, hbw⟩ := hrel
      by_cases hlt : i < ts.length
      · obtain ⟨b1, o1, rfl, hw⟩ := HT.out.row i hlt
        obtain ⟨c0, c1, c2, c3, c4, c5, c6⟩ := (hw.below' hbw.out).val i hlt
        have hk2 := hk.out
        rw [chkTs_drop ts i hlt] at hk2
        clear hk hw
        generalize ts[i] = x at *
        have HCK := Lib.hid (rcheck44 x wr)
        by_cases h0 : chkT x = 0
        · rw [if_pos h0] at hk2
          rw [h0] at HCK
          have HK := Lib.hid hk2
          clear hk2 h0
          go_wp2_with fail
          refine (HCK.out).mono ?_
          rintro e w1 ⟨rfl, hb1⟩
          have HB1 := Lib.hid (bel_to hbw.out hb1)
          clear hb1 HCK
          go_wp2
          go_roundw
          case rel => exact ⟨i + 1, by go_num, by omega, HK, HB1⟩
          case measure => simp [intOf]; omega
        · rw [if_neg h0] at hk2
          have hz : (((chkT x : Nat) : Int) != 0) = true := by rw [bne_iff_ne]; omega
          have HK := Lib.hid (show ch = ((chkT x : Nat) : Int) by rw [← HCH.out, hk2, if_pos h0])
          clear hk2 h0
          generalize ((chkT x : Nat) : Int) = c at *
          go_wp2_with fail
          refine (HCK.out).mono ?_
          rintro e w1 ⟨rfl, hb1⟩
          have HB1 := Lib.hid (bel_to hbw.out hb1)
          clear hb1 HCK
          go_wp2
          go_ret
          exact Ret.of (by rw [HK.out]; rfl) HB1.out
      · obtain rfl : i = ts.length := by omega
        have hk2 := hk.out
        rw [List.drop_length] at hk2
        rw [hk2] at HCH
        have hch := HCH.out
        rw [if_neg (by simp [chkTs])] at hch
        clear hk hk2 HCH HT
        by_cases hl : cs.length = ts.length
        · have hz : ((cs.length : Int) != (ts.length : Int)) = false := by rw [hl]; simp
          rw [if_neg (by simpa using hl)] at hch
          have HCH := Lib.hid hch
          clear hch hl
          go_wp2
          go_loopw [7] (fun iv wr => ∃ i : Nat, iv = .int .i64 (i : Int) ∧ i ≤ cs.length ∧ Hid (chkCs cs = chkCs (cs.drop i)) ∧ Hid (Below w.heap.size w wr)) (fun iv _ => cs.length - (intOf iv).toNat)
          case atStart => exact ⟨0, rfl, by omega, Lib.hid (by rw [List.drop_zero]), hbw⟩
          case round =>
            clear hbw
            obtain ⟨i, rfl, hi, hk, hbw⟩ := hrel
            by_cases hlt : i < cs.length
            · obtain ⟨b1, o1, rfl, hw⟩ := HC.out.row i hlt
              obtain ⟨c0, c1, c2⟩ := (hw.below' hbw.out).val i hlt
              have hk2 := hk.out
              rw [chkCs_drop cs i hlt] at hk2
              clear hk hw
              generalize cs[i] = x at *
              have HCK := Lib.hid (fun W => rring44 x W)
              by_cases h0 : ringC x = 0
              · rw [if_pos h0] at hk2
                rw [h0] at HCK
                have HK := Lib.hid hk2
                clear hk2 h0
                go_wp2_with fail
                refine (HCK.out _).mono ?_
                rintro e w1 ⟨rfl, hb1⟩
                have HB1 := Lib.hid (bel_to hbw.out hb1)
                clear hb1 HCK
                go_wp2
                go_roundw
                case rel => exact ⟨i + 1, by go_num, by omega, HK, HB1⟩
                case measure => simp [intOf]; omega
              · rw [if_neg h0] at hk2
                have hz : (((ringC x : Nat) : Int) != 0) = true := by rw [bne_iff_ne]; omega
                have HK := Lib.hid (show ch = ((ringC x : Nat) : Int) by rw [← HCH.out, hk2])
                clear hk2 h0
                generalize ((ringC x : Nat) : Int) = c at *
                go_wp2_with fail
                refine (HCK.out _).mono ?_
                rintro e w1 ⟨rfl, hb1⟩
                have HB1 := Lib.hid (bel_to hbw.out hb1)
                clear hb1 HCK
                go_wp2
                go_ret
                exact Ret.of (by rw [HK.out]; rfl) HB1.out
            · obtain rfl : i = cs.length := by omega
              have hk2 := hk.out
              rw [List.drop_length] at hk2
              have HK := Lib.hid (show ch = 0 by rw [← HCH.out, hk2]; rfl)
              clear hk hk2
              go_wp2
              go_ret
              exact Ret.of (by rw [HK.out]; rfl) hbw.out
        · have hz : ((cs.length : Int) != (ts.length : Int)) = true := by rw [bne_iff_ne]; omega
          rw [if_pos hl] at hch
          have HCH := Lib.hid hch
          clear hch
          go_wp2
          go_ret
          exact Ret.of (by rw [← HCH.out]; rfl) hbw.out
/-- The side of a right target's virtual size. -/
theorem bof (t : Tg) (w : World) (hs : Sig w) (hm : t.mat = 0 ∨ t.mat = 1 ∨ t.mat = 2) : Calls Tryz.prog 143 #[tgV t] w (Ret w (cdV t (sideT t))) := by
  have hb1 : Below w.heap.size w ((w.alloc (tgO t)).alloc (.cells #[.int .i64 0, .int .i64 0, .int .i64 0, .int .i64 0, .int .i64 0, .int .i64 0, .bool false, .int .i64 0] 205 (0, 0))) := (bel_al w _).alloc (bel_al w _).size _
  have HB := Lib.hid (fun o : Obj => RowKit.Below.drew ((bel_al w (tgO t)).alloc (bel_al w (tgO t)).size o))
  obtain ⟨s0, s1, s2, s3, s4, s5⟩ := hs.below hb1
  clear hb1 hs
  unfold sideT
  obtain ⟨x, y, lo, hi, tol, mat, pin⟩ := t
  simp only at *
  rcases hm with rfl | rfl | rfl
  · cases pin
    · go_enter Tryz.func143, Tryz.ntmps143
      go_wp2
      go_region
      go_wp2
      refine bodyPost_ret (v := cdV ⟨x, y, lo, hi, tol, 0, false⟩ (-1)) (by simp [results, Tryz.results143, go_sem]) rfl ⟨rfl, HB.out _⟩
    · go_enter Tryz.func143, Tryz.ntmps143
      go_wp2
      go_region
      go_wp2
      refine bodyPost_ret (v := cdV ⟨x, y, lo, hi, tol, 0, true⟩ 1) (by simp [results, Tryz.results143, go_sem]) rfl ⟨rfl, HB.out _⟩
  · cases pin
    · go_enter Tryz.func143, Tryz.ntmps143
      go_wp2
      go_region
      go_wp2
      refine bodyPost_ret (v := cdV ⟨x, y, lo, hi, tol, 1, false⟩ (-1)) (by simp [results, Tryz.results143, go_sem]) rfl ⟨rfl, HB.out _⟩
    · go_enter Tryz.func143, Tryz.ntmps143
      go_wp2
      go_region
      go_wp2
      refine bodyPost_ret (v := cdV ⟨x, y, lo, hi, tol, 1, true⟩ 1) (by simp [results, Tryz.results143, go_sem]) rfl ⟨rfl, HB.out _⟩
  · cases pin
    · go_enter Tryz.func143, Tryz.ntmps143
      go_wp2
      go_region
      go_wp2
      refine bodyPost_ret (v := cdV ⟨x, y, lo, hi, tol, 2, false⟩ 1) (by simp [results, Tryz.results143, go_sem]) rfl ⟨rfl, HB.out _⟩
    · go_enter Tryz.func143, Tryz.ntmps143
      go_wp2
      go_region
      go_wp2
      refine bodyPost_ret (v := cdV ⟨x, y, lo, hi, tol, 2, true⟩ (-1)) (by simp [results, Tryz.results143, go_sem]) rfl ⟨rfl, HB.out _⟩
theorem bend (t : Tg) (s z : Int) (w : World) : Calls Tryz.prog 179 #[cdV t s, .int .i64 z] w (Ret w (.int .i64 (if z < 0 then t.lo else t.hi))) := by
  have hb := bel_al w (.cells #[.int .i64 t.x, .int .i64 t.y, .int .i64 t.lo, .int .i64 t.hi, .int .i64 t.tol, .int .i64 t.mat, .bool t.pin, .int .i64 s] 205 (0, 0))
  obtain ⟨x, y, lo, hi, tol, mat, pin⟩ := t
  simp only at *
  by_cases h : z < 0
  · rw [if_pos h]
    go_enter Tryz.func179, Tryz.ntmps179
    go_wp2
    go_ret
    exact Ret.of rfl hb
  · rw [if_neg h]
    go_enter Tryz.func179, Tryz.ntmps179
    go_wp2
    go_ret
    exact Ret.of rfl hb
/-- The bonus of the program. -/
theorem bextra (t : Tg) (n : Int) (w : World) (ht : RtT t) (hn : 1 ≤ n ∧ n ≤ 100000) : Calls Tryz.prog 144 #[cdV t (sideT t), .int .i64 n] w (Ret w (.int .i64 (extr t n))) := by
  have a1 := ht.lo
  have a2 := ht.hi
  have hm := ht.mat
  obtain ⟨s, hs⟩ : ∃ s, s = sideT t := ⟨_, rfl⟩
  rw [← hs]
  have hs2 : s = -1 ∨ s = 1 := by
    rw [hs]; unfold sideT
    repeat' split
    all_goals simp
  obtain ⟨E, hE⟩ : ∃ E, E = if s < 0 then t.lo else t.hi := ⟨_, rfl⟩
  have hE2 : 1 ≤ E ∧ E ≤ 100000 := by rw [hE]; split <;> omega
  have hx : t.mat ≠ 0 → extr t n = s * (E - n) := fun h0 => by
    rw [hE, hs]
    unfold extr sideT
    rw [if_neg h0]
    rcases hm with h | h | h
    · exact absurd h h0
    · rw [h]; cases t.pin <;> simp <;> omega
    · rw [h]; cases t.pin <;> simp <;> omega
  have HN := Lib.hid (fun W => bend t s s W)
  rw [← hE] at HN
  have HB := Lib.hid (bel_al w (.cells #[.int .i64 t.x, .int .i64 t.y, .int .i64 t.lo, .int .i64 t.hi, .int .i64 t.tol, .int .i64 t.mat, .bool t.pin, .int .i64 s] 205 (0, 0)))
  have HR := Lib.hid (Row.new w 205 [.int .i64 t.x, .int .i64 t.y, .int .i64 t.lo, .int .i64 t.hi, .int .i64 t.tol, .int .i64 t.mat, .bool t.pin, .int .i64 s])
  clear hE hs ht
  by_cases h0 : t.mat = 0
  · have hx0 : extr t n = 0 := by unfold extr; rw [if_pos h0]
    rw [hx0]
    obtain ⟨x, y, lo, hi, tol, mat, pin⟩ := t
    simp only at *
    subst h0
    clear hx hm HR
    go_enter Tryz.func144, Tryz.ntmps144
    go_wp2
    go_ret
    exact Ret.of rfl HB.out
  · rw [hx h0]
    have hz : (t.mat == 0) = false := by simpa using h0
    have hw1 : wrap64 (E - n) = E - n := by unfold wrap64; omega
    have hw2 : wrap64 (s * (E - n)) = s * (E - n) := by
      unfold wrap64
      rcases hs2 with rfl | rfl <;> omega
    have hw3 : IntKind.i64.wrap (E - n) = E - n := IntWalk.i64_in _ (by omega)
    have hw4 : IntKind.i64.wrap (s * (E - n)) = s * (E - n) := IntWalk.i64_in _ (by rcases hs2 with rfl | rfl <;> omega)
    have k1 := reg_of (w := w.alloc (.cells #[.int .i64 t.x, .int .i64 t.y, .int .i64 t.lo, .int .i64 t.hi, .int .i64 t.tol, .int .i64 t.mat, .bool t.pin, .int .i64 s] 205 (0, 0))) (fun W _ => HN.out W)
    obtain ⟨x, y, lo, hi, tol, mat, pin⟩ := t
    simp only at *
    clear hx hm h0 a1 a2
    go_enter Tryz.func144, Tryz.ntmps144
    go_wp2_with fail
    have m0 := cell_regrown (HR.out.cell (i := 0) rfl)
    have m1 := cell_regrown (HR.out.cell (i := 1) rfl)
    have m2 := cell_regrown (HR.out.cell (i := 2) rfl)
    have m3 := cell_regrown (HR.out.cell (i := 3) rfl)
    have m4 := cell_regrown (HR.out.cell (i := 4) rfl)
    have m5 := cell_regrown (HR.out.cell (i := 5) rfl)
    have m6 := cell_regrown (HR.out.cell (i := 6) rfl)
    have m7 := cell_regrown (HR.out.cell (i := 7) rfl)
    have e1 : ∀ args w, (callFunc 179 args).run Tryz.prog w = .ok (.enter 179 args) w := enters_of Tryz.func179 (by kernel_rfl) rfl
    generalize w.alloc (.cells #[.int .i64 x, .int .i64 y, .int .i64 lo, .int .i64 hi, .int .i64 tol, .int .i64 mat, .bool pin, .int .i64 s] 205 (0, 0)) = wr at *
    refine wp_region_quiet_below (by kernel_rfl) (by kernel_rfl) ?_
    repeat (go_big_quiet_step (fail))
    go_big_quiet_step (exact k1 _ _)
    repeat (go_big_quiet_step (fail))
    refine wpQuiet_nil ?_
    intro W6 hw'
    have hb6 : Below wr.heap.size wr W6 := by obtain ⟨p, e⟩ := hw'; rw [e]; exact below_regrown wr p.d p.os
    clear hw'
    have HB6 := Lib.hid (bel_to HB.out hb6)
    go_wp2
    go_ret
    exact Ret.of rfl HB6.out
end W
end Go.Proofs.YtfcffheboncmbaaGreatDoor
end
section
namespace Go.Proofs.YtfcffheboncmbaaGreatDoor
open Go Go.RowKit Go.ChangeShapes Go.WideShapes Go.ChangeAt Go.Deep
namespace Fin
set_option maxRecDepth 20000
theorem cells_two {H : Type} {enc : TypeId × Value → H} {P : Program} {w : World} {base : Nat} {sp : Nat → Bool} {held : Bool} {fuel : Nat} {t e i : TypeId} {k : IntKind} {cs : List Value} {z0 z1 z2 z3 z4 z5 : Int} {p : List MemPlace}
    (ht : P.underlying t = some (.array 2 e)) (he : P.underlying e = some (.array 3 i)) (hi : P.underlying i = some (.int k)) (hci : P.cellsOf i = 1) (hce : P.cellsOf e = 3) (hct : P.cellsOf t = 6)
    (h : DataW.trod enc P w base sp held fuel t cs = some (.agg [Lib.tabData k [z0, z1, z2], Lib.tabData k [z3, z4, z5]], p)) :
    cs = [.int k z0, .int k z1, .int k z2, .int k z3, .int k z4, .int k z5] := by
  cases fuel with
  | zero => simp [DataW.trod] at h
  | succ fuel =>
    simp only [DataW.trod, ht, hce, hct] at h
    split at h
    · rename_i hl
      obtain ⟨xs, hm, hx⟩ := Option.map_eq_some_iff.1 h
      have hxs : xs.map (·.1) = [Lib.tabData k [z0, z1, z2], Lib.tabData k [z3, z4, z5]] := by
        have := congrArg Prod.fst hx
        simpa using this
      have hxl : xs.length = 2 := by
        have := congrArg List.length hxs
        simpa using this
      obtain ⟨⟨x0, y0⟩, ⟨x1, y1⟩, rfl⟩ : ∃ a b, xs = [a, b] := by
        match xs, hxl with
        | [a, b], _ => exact ⟨a, b, rfl⟩
      simp only [List.map_cons, List.map_nil, List.cons.injEq, and_true] at hxs
      obtain ⟨rfl, rfl⟩ := hxs
      obtain ⟨b0, hb0, hf0⟩ := Lib.mapM_at hm 0 0 rfl
      obtain ⟨b1, hb1, hf1⟩ := Lib.mapM_at hm 1 1 rfl
      obtain rfl : _ = b0 := Option.some.inj hb0
      obtain rfl : _ = b1 := Option.some.inj hb1
      have h0 := Lib.cells_of_tab he hi hci hce hf0
      have h1 := Lib.cells_of_tab he hi hci hce hf1
      simp only [Nat.zero_mul, List.drop_zero, Nat.one_mul, List.map_cons, List.map_nil] at h0 h1
      have e : cs = cs.take 3 ++ (cs.drop 3).take 3 := by
        have e1 : (cs.drop 3).take 3 = cs.drop 3 := List.take_of_length_le (by rw [List.length_drop]; omega)
        rw [e1, List.take_append_drop]
      rw [e, h0, h1]
      rfl
    · cases h
theorem gSgn : Tryz.prog.globalNamed "metrolab/bonus.signs" = some 0 := by kernel_rfl
theorem gSgnType : (Tryz.prog.globals[0]?).map (·.type) = some 229 := by kernel_rfl
theorem cellsSgn : Tryz.prog.cellsOf 229 = 6 := by kernel_rfl
theorem cellsSg3 : Tryz.prog.cellsOf 228 = 3 := by kernel_rfl
theorem cellsInt : Tryz.prog.cellsOf 3 = 1 := by kernel_rfl
/-- The variables that every row of chapter 46 lists. -/
def lists46 : List (String × DataW Unit) := [("math/bits.deBruijn32tab", Rows.laid_math_bits_deBruijn32tab), ("math/bits.deBruijn64tab", Rows.laid_math_bits_deBruijn64tab), ("internal/strconv.uint64pow10", Rows.laid_internal_strconv_uint64pow10), ("metrolab/bonus.signs", Rows.laid_metrolab_bonus_signs), ("unicode/utf8.acceptRanges", Rows.laid_unicode_utf8_acceptRanges), ("strconv.ErrRange", Rows.laid_strconv_ErrRange), ("strconv.ErrSyntax", Rows.laid_strconv_ErrSyntax), ("unicode/utf8.first", Rows.laid_unicode_utf8_first)]
theorem noHandle46 : (lists46.filter fun x => x.2.handleName?.isSome) = [] := by kernel_rfl
theorem sgn_laid : (Rows.laid_metrolab_bonus_signs : DataW Unit) = .agg [Lib.tabData .i64 [-1, -1, 1], Lib.tabData .i64 [1, 1, -1]] := by kernel_rfl
theorem glob46 {W : World} (h : laidMetH Tryz.prog lists46 W) (hs : W.ShapedOpen Tryz.prog) : Glob W ∧ Sig W := by
  unfold laidMetH at h
  rw [noHandle46] at h
  refine ⟨⟨?_, ?_, ?_⟩, ?_⟩
  · exact cell_of_shapedOpen_int (t := 3) (zero := #[.int .i64 0]) hs (of_decide_eq_true (by kernel_rfl)) (by kernel_rfl) rfl (by kernel_rfl) (by kernel_rfl) Tryz.underlying3
  · exact laid_tab gTab gPowType Tryz.underlying318 Tryz.underlying262 cellsU64 cellsPow h (by rw [← pow_laid]; simp [lists46])
  · have := laid_lt (d := Rows.laid_math_bits_deBruijn64tab) gLast h (by unfold lists46; exact List.mem_cons_of_mem _ (List.mem_cons_self ..))
    omega
  · obtain ⟨ps, hl, _⟩ := h
    obtain ⟨g', t', cs, fuel, p, hg', ht', hvar, hd⟩ := laid_each hl "metrolab/bonus.signs" Rows.laid_metrolab_bonus_signs (by simp [lists46])
    obtain rfl := Option.some.inj (gSgn.symm.trans hg')
    obtain rfl := Option.some.inj (gSgnType.symm.trans ht')
    rw [sgn_laid] at hd
    have hc := cells_two Tryz.underlying229 Tryz.underlying228 Tryz.underlying3 cellsInt cellsSg3 cellsSgn hd
    unfold World.var? at hvar
    rw [gSgn] at hvar
    simp only [Option.bind_some] at hvar
    have key : ∀ i v, cs.toList[i]? = some v → W.cell? ⟨0, i, none⟩ = some v := fun i v hv => by
      unfold World.cell?
      split at hvar
      · rename_i cc tt ff hh
        injection hvar with hvar
        subst hvar
        simp only [hh]
        simpa using hv
      · cases hvar
    refine ⟨key 0 _ ?_, key 1 _ ?_, key 2 _ ?_, key 3 _ ?_, key 4 _ ?_, key 5 _ ?_⟩ <;> rw [hc] <;> rfl
end Fin
end Go.Proofs.YtfcffheboncmbaaGreatDoor
end
section
namespace Go.Proofs.YtfcffheboncmbaaGreatDoor
open Go Go.RowKit Go.ChangeShapes Go.WideShapes Go.ChangeAt Go.Deep
namespace Fin
set_option maxRecDepth 20000
noncomputable def laidWorld46 (os : Os) : World :=
  { laidWorld os with heap := lay (laidWorld os).heap 0 (cellsOfD Rows.laid_metrolab_bonus_signs) }
theorem laid_met46 (os : Os) (args : Array Value) : laidMet Tryz.prog lists46 ((laidWorld46 os).forCall (fun _ _ => 0) ⟨#[], args, []⟩).memory :=
  laidMet_of_run' 8 (by kernel_rfl) (by kernel_rfl)
end Fin
end Go.Proofs.YtfcffheboncmbaaGreatDoor
end
section
namespace Go.Proofs.YtfcffheboncmbaaGreatDoor
open Go Go.RowKit Go.ChangeShapes Go.WideShapes Go.ChangeAt Go.Deep
namespace Fin
set_option maxRecDepth 20000
section
variable {H : Type} {enc : TypeId × Value → H} {W : World}
theorem cell_int {fuel : Nat} {c : Value} {y : DataW H × List MemPlace} (hf : DataW.trod enc Tryz.prog W 0 (fun _ => true) true fuel 3 [c] = some y) : ∃ z, c = .int .i64 z := by
  obtain ⟨z, hc, _⟩ := DataW.trod_int Tryz.underlying3 hf
  simp only [List.cons.injEq, and_true] at hc
  exact ⟨z, hc⟩
theorem cell_bool {fuel : Nat} {c : Value} {y : DataW H × List MemPlace} (hf : DataW.trod enc Tryz.prog W 0 (fun _ => true) true fuel 4 [c] = some y) : ∃ z, c = .bool z := by
  obtain ⟨z, hc, _⟩ := DataW.trod_bool Tryz.underlying4 hf
  simp only [List.cons.injEq, and_true] at hc
  exact ⟨z, hc⟩
theorem cell_pt {fuel : Nat} {c0 c1 : Value} {y : DataW H × List MemPlace} (hf : DataW.trod enc Tryz.prog W 0 (fun _ => true) true fuel 23 [c0, c1] = some y) : ∃ a b, c0 = .int .i64 a ∧ c1 = .int .i64 b := by
  obtain ⟨y0, y1, n, _, _, h0, h1⟩ := trod_struct2 Tryz.underlying23 hf
  have e0 : DataW.trod enc Tryz.prog W 0 (fun _ => true) true n 3 [c0] = some y0 := h0
  have e1 : DataW.trod enc Tryz.prog W 0 (fun _ => true) true n 3 [c1] = some y1 := h1
  obtain ⟨a, rfl⟩ := cell_int e0
  obtain ⟨b, rfl⟩ := cell_int e1
  exact ⟨a, b, rfl, rfl⟩
theorem cellsPt : Tryz.prog.cellsOf 23 = 2 := by kernel_rfl
theorem cellsCc : Tryz.prog.cellsOf 29 = 3 := by kernel_rfl
theorem cell_lim {fuel : Nat} {c0 c1 : Value} {y : DataW H × List MemPlace} (hf : DataW.trod enc Tryz.prog W 0 (fun _ => true) true fuel 25 [c0, c1] = some y) : ∃ a b, c0 = .int .i64 a ∧ c1 = .int .i64 b := by
  obtain ⟨y0, y1, n, _, _, h0, h1⟩ := trod_struct2 Tryz.underlying25 hf
  have e0 : DataW.trod enc Tryz.prog W 0 (fun _ => true) true n 3 [c0] = some y0 := h0
  have e1 : DataW.trod enc Tryz.prog W 0 (fun _ => true) true n 3 [c1] = some y1 := h1
  obtain ⟨a, rfl⟩ := cell_int e0
  obtain ⟨b, rfl⟩ := cell_int e1
  exact ⟨a, b, rfl, rfl⟩
theorem cellsLim : Tryz.prog.cellsOf 25 = 2 := by kernel_rfl
theorem cellsBool : Tryz.prog.cellsOf 4 = 1 := by kernel_rfl
theorem cellsTg : Tryz.prog.cellsOf 27 = 7 := by kernel_rfl
theorem trod_struct5 {P : Program} {base : Nat} {spare : Nat → Bool} {held : Bool} {w : World} {t : TypeId} {f0 f1 f2 f3 f4 : Field} {fuel : Nat} {cs : List Value} {x : DataW H × List MemPlace} (ht : P.underlying t = some (.struct #[f0, f1, f2, f3, f4])) (h : DataW.trod enc P w base spare held fuel t cs = some x) :
    ∃ y0 y1 y2 y3 y4 n, DataW.trod enc P w base spare held n f0.type ((cs.drop f0.offset).take (P.cellsOf f0.type)) = some y0 ∧ DataW.trod enc P w base spare held n f1.type ((cs.drop f1.offset).take (P.cellsOf f1.type)) = some y1 ∧
      DataW.trod enc P w base spare held n f2.type ((cs.drop f2.offset).take (P.cellsOf f2.type)) = some y2 ∧ DataW.trod enc P w base spare held n f3.type ((cs.drop f3.offset).take (P.cellsOf f3.type)) = some y3 ∧
      DataW.trod enc P w base spare held n f4.type ((cs.drop f4.offset).take (P.cellsOf f4.type)) = some y4 := by
  obtain ⟨xs, n, _, rfl, hl, hlen, hf⟩ := DataW.trod_struct ht h
  match xs, hlen with
  | [y0, y1, y2, y3, y4], _ => exact ⟨y0, y1, y2, y3, y4, n, by simpa using hf 0 f0 rfl, by simpa using hf 1 f1 rfl, by simpa using hf 2 f2 rfl, by simpa using hf 3 f3 rfl, by simpa using hf 4 f4 rfl⟩
end
end Fin
end Go.Proofs.YtfcffheboncmbaaGreatDoor
end
