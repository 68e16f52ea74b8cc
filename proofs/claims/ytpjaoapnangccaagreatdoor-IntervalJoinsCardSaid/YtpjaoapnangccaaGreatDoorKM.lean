/-
  Chapter 3 of the program: 'slices.Grow' and 'slices.Concat' of two lists of spans; 'slices.SortFunc' and 'slices.Compact' of texts, whatever their lengths.
  Chapter 3 of the program: 'slices.SortFunc' and 'slices.Compact' of texts, whatever their lengths; the plain law of compacting.
  Chapter 3 of the program: the map from ends to their places; the marks of a set.
  Chapter 3 of the program: the marks of a set.
-/
import Derived.Test.YtpjaoapnangccaaGreatDoorKL
import Derived.Sort.OwnSorted
import Derived.Maps.OwnSet
import Derived.Maps.Views
import Derived.BigRegion
import Derived.Laws.MakeOwn
import Derived.Laws.OwnMore
namespace Go.Proofs.YtpjaoapnangccaaGreatDoor
open Go Go.RowKit Go.Deep Go.Sort
set_option maxRecDepth 20000
theorem zeroCells_size (xs : Array Value) (n : Nat) : (Builtin.zeroCells xs n).size = n * xs.size := by
  unfold Builtin.zeroCells
  simp
theorem own_room (w : World) (cs : Array Value) (G B : Nat) (hs : cs.size = G * 2) (hG : G ≤ maxLen) (hB : B ≤ w.heap.size) : OwnP (w.alloc (.cells cs 24 (0, 0))) B (.slice (some ⟨w.heap.size, 0, none⟩) 0 G) [] :=
  ⟨rfl, Or.inr ⟨w.heap.size, G, cs, rfl, hB, (by show (w.heap.push _)[w.heap.size]? = _; simp), Nat.zero_le _, hG, hs, rfl⟩⟩
theorem below_ownP {B : Nat} {w0 w w' : World} {v : Value} {l : List M.PT} (hb : Below B w0 w) (h : OwnP w B v l) (hg : w.grownBy w' v.ownBlock) (hB : B ≤ w0.heap.size) : Below B w0 w' :=
  hb.grown hg (Nat.le_trans hB hb.size) (fun k hk => by
    rcases h.2 with ⟨rfl, _⟩ | ⟨g, cap, cur, rfl, hg2, _⟩
    · cases hk
    · have hk : g = k := by injection hk
      omega)
theorem below_ownS {B : Nat} {w0 w w' : World} {v : Value} {l : List (List UInt8)} (hb : Below B w0 w) (h : OwnS w B v l) (hg : w.grownBy w' v.ownBlock) (hB : B ≤ w0.heap.size) : Below B w0 w' :=
  hb.grown hg (Nat.le_trans hB hb.size) (fun k hk => by
    rcases h.2 with ⟨rfl, _⟩ | ⟨g, cap, cur, rfl, hg2, _⟩
    · cases hk
    · have hk : g = k := by injection hk
      omega)
namespace W
open M
attribute [local go_sem] bs_size bs_toList bs_get bs_extract bs_append bs_lit0 bs_lit1 lit1_bs
set_option maxHeartbeats 4000000
set_option maxRecDepth 20000
theorem grow_ok (n : Nat) (w : World) (hn : n ≤ 100000) :
    Calls Tryz.prog 129 #[.slice none 0 0, .int .i64 (n : Int)] w (fun e w' => ∃ v, e = .returned v ∧ OwnP w' w.heap.size v [] ∧ Below w.heap.size w w') := by
  by_cases h0 : n = 0
  · subst h0
    have h := Go.Proofs.Any8.slices_Grow_room Tryz.growS none 0 0 0 w (Nat.le_refl _) (by decide) (by decide) (Nat.le_refl _)
    change Calls Tryz.prog 129 _ _ _ at h
    refine h.mono ?_
    rintro e w' ⟨rfl, rfl⟩
    exact ⟨_, rfl, OwnP.nil _ _, Below.refl _ _⟩
  · obtain ⟨i, h1, h2, h3, h4⟩ := info_parts infoPt
    have h := Go.Proofs.Any8.slices_Grow_grow Tryz.growS i _ h1 h2 (by omega) none 0 0 n [] w (Nat.le_refl _) (by omega) (by rw [h4]; omega) (by omega) (by simp) (fun _ => rfl) (fun a ha => by cases ha)
    change Calls Tryz.prog 129 _ _ _ at h
    refine h.mono ?_
    rintro e w' ⟨rfl, rfl⟩
    have hle := grownCap_le_maxLen w (0 + n) 0 24 (by unfold maxLen; omega)
    have hge := grownCap_ge w (0 + n) 0 24
    refine ⟨_, rfl, own_room w.drew _ _ w.heap.size ?_ hle (Nat.le_refl _), (RowKit.Below.drew (Below.refl _ _)).alloc (Nat.le_refl _) _⟩
    simp only [Array.size_append, zeroCells_size]
    change 0 + (0 + n - 0) * 2 + (grownCap w (0 + n) 0 24 - (0 + n)) * 2 = grownCap w (0 + n) 0 24 * 2
    omega
theorem concat_ok (va vb : Value) (la lb : List PT) (b : Nat) (w : World) (hr : Row w b 36 [va, vb]) (ha : RdP w va la) (hb : RdP w vb lb) (na : la.length ≤ 1000) (nb : lb.length ≤ 1000) :
    Calls Tryz.prog 96 #[.slice (some ⟨b, 0, none⟩) 2 2] w (fun e w' => ∃ v, e = .returned v ∧ OwnP w' w.heap.size v (la ++ lb) ∧ Below w.heap.size w w') := by
  have c0 := hr.cell (i := 0) rfl
  have c1 := hr.cell (i := 1) rfl
  have HR := Lib.hid hr
  have HA := Lib.hid ha
  have HB := Lib.hid hb
  obtain ⟨A, capA, rfl⟩ := ha.len
  obtain ⟨B, capB, rfl⟩ := hb.len
  have hw1 : wrap64 (la.length : Int) = la.length := by unfold wrap64; omega
  have hw2 : wrap64 ((la.length : Int) + lb.length) = ((la.length + lb.length : Nat) : Int) := by unfold wrap64; omega
  have hd1 : decide ((la.length : Int) < 0) = false := by simp
  have hd2 : decide (((la.length + lb.length : Nat) : Int) < 0) = false := decide_eq_false (by omega)
  have HG := Lib.hid (grow_ok (la.length + lb.length) w (by omega))
  rw [Int.natCast_add] at HG
  have HN : Hid (la.length ≤ 1000 ∧ lb.length ≤ 1000) := Lib.hid ⟨na, nb⟩
  clear hr ha hb
  go_enter Tryz.func96, Tryz.ntmps96
  go_wp2
  refine wp_loop_rounds 3 ?_
  rw [rounds_succ]
  go_wp2
  rw [rounds_succ]
  go_wp2
  rw [rounds_succ]
  go_wp2_with fail
  refine (HG.out).mono ?_
  rintro e w1 ⟨v1, rfl, ho1, hb1⟩
  have HO1 := Lib.hid (And.intro ho1 hb1)
  have d0 := (HR.out.below' hb1).cell (i := 0) rfl
  clear ho1 hb1 c0 c1 HG
  go_wp2
  refine wp_loop_rounds 3 ?_
  rw [rounds_succ]
  go_wp2_with (at_builtin; refine wpList_app_any rfl (.tmp 31) (.tmp 32) rfl rfl rfl HO1.out.1 (HA.out.below HO1.out.2) HO1.out.2.size (by have := HN.out.1; simp; omega) ?_; intro v2 w2 ho2 hg2)
  have hb2 := below_ownP HO1.out.2 HO1.out.1 hg2 (Nat.le_refl _)
  have HO2 := Lib.hid (And.intro ho2 hb2)
  have d1 := (HR.out.below' hb2).cell (i := 1) rfl
  clear ho2 hb2 hg2 HO1 d0
  rw [rounds_succ]
  go_wp2_with (at_builtin; refine wpList_app_any rfl (.tmp 31) (.tmp 32) rfl rfl rfl HO2.out.1 (HB.out.below HO2.out.2) HO2.out.2.size (by have := HN.out; simp; omega) ?_; intro v3 w3 ho3 hg3)
  have hb3 := below_ownP HO2.out.2 HO2.out.1 hg3 (Nat.le_refl _)
  have HO3 := Lib.hid (And.intro ho3 hb3)
  clear ho3 hb3 hg3 HO2 d1
  rw [rounds_succ]
  go_wp2
  go_ret
  exact ⟨v3, rfl, HO3.out.1, HO3.out.2⟩
end W
end Go.Proofs.YtpjaoapnangccaaGreatDoor
namespace Go.Proofs.YtpjaoapnangccaaGreatDoor
open Go Go.RowKit Go.Deep Go.Sort
set_option maxRecDepth 20000
theorem grow_none (w : World) : Go.Sort.grow w #[] = w := by simp [Go.Sort.grow]
namespace M
theorem R_eq_iff {p q : Rat} : M.R p = M.R q ↔ p = q := ⟨fun h => R_inj h, fun h => by rw [h]⟩
theorem comp_inv (zs : List Rat) (hs : zs.Pairwise (fun a b => ¬ b < a)) : ∀ m, m ≤ zs.length → ∃ es : List Rat, Lib.compactUpTo (zs.map M.R).toArray m = es.map M.R ∧ es.Pairwise (· < ·) ∧ ∀ v, v ∈ es ↔ v ∈ zs.take m := by
  intro m
  induction m with
  | zero => intro _; exact ⟨[], rfl, List.Pairwise.nil, fun v => by simp⟩
  | succ m ih =>
    intro hm
    obtain ⟨es, h1, h2, h3⟩ := ih (by omega)
    have hlt : m < zs.length := by omega
    have hget : ∀ j (hj : j < zs.length), (zs.map M.R).toArray[j]! = M.R zs[j] := fun j hj => by
      rw [getElem!_pos _ j (by simpa using hj)]; simp
    rw [Lib.compactUpTo_succ, h1, hget m hlt]
    by_cases hk : 0 < m ∧ zs[m] = zs[m - 1]'(by omega)
    · rw [Lib.keeps_neg hk.1 (by rw [hget m hlt, hget (m - 1) (by omega), hk.2])]
      refine ⟨es, by simp, h2, fun v => ?_⟩
      rw [h3, List.take_succ_eq_append_getElem hlt, List.mem_append, List.mem_singleton]
      constructor
      · exact Or.inl
      · rintro (h | rfl)
        · exact h
        · rw [hk.2, List.mem_iff_getElem]
          exact ⟨m - 1, by rw [List.length_take]; omega, by simp⟩
    · have hkeep : Lib.keeps (zs.map M.R).toArray m = true := by
        by_cases hm0 : m = 0
        · exact Lib.keeps_lt_one _ m (by omega)
        · refine Lib.keeps_pos ?_
          rw [hget m hlt, hget (m - 1) (by omega)]
          exact fun e => hk ⟨by omega, R_inj e⟩
      rw [hkeep]
      refine ⟨es ++ [zs[m]], by simp, ?_, fun v => ?_⟩
      · rw [List.pairwise_append]
        refine ⟨h2, List.pairwise_singleton _ _, fun a ha b hb => ?_⟩
        rw [List.mem_singleton.1 hb]
        rw [h3, List.mem_iff_getElem] at ha
        obtain ⟨j, hj, e⟩ := ha
        rw [List.length_take] at hj
        rw [List.getElem_take] at e
        rw [List.pairwise_iff_getElem] at hs
        have a1 := hs j m (by omega) hlt (by omega)
        have a2 : 0 < m := by omega
        have a3 : ¬ zs[m] = zs[m - 1]'(by omega) := fun e => hk ⟨a2, e⟩
        have a4 := hs (m - 1) m (by omega) hlt (by omega)
        have a5 : zs[j]'(by omega) ≤ zs[m - 1]'(by omega) := by
          by_cases hj2 : j = m - 1
          · simp [hj2]
          · exact Rat.not_lt.1 (hs j (m - 1) (by omega) (by omega) (by omega))
        rw [← e]
        grind
      · rw [List.mem_append, List.mem_singleton, h3, List.take_succ_eq_append_getElem hlt, List.mem_append, List.mem_singleton]
theorem compact_R (zs : List Rat) (hs : zs.Pairwise (fun a b => ¬ b < a)) : ∃ es : List Rat, Lib.compact (zs.map M.R) = es.map M.R ∧ es.Pairwise (· < ·) ∧ ∀ v, v ∈ es ↔ v ∈ zs := by
  obtain ⟨es, h1, h2, h3⟩ := comp_inv zs hs zs.length (Nat.le_refl _)
  rw [List.take_length] at h3
  exact ⟨es, by unfold Lib.compact; rw [List.length_map]; exact h1, h2, h3⟩
/-- The ends of spans, in the order of the lists. -/
def endL (l : List SQ) : List Rat := l.flatMap fun a => [a.1, a.2]
theorem endL_mem {l : List SQ} {v : Rat} : v ∈ endL l ↔ ∃ a ∈ l, v = a.1 ∨ v = a.2 := by
  unfold endL; simp
theorem endL_len (l : List SQ) : (endL l).length = l.length * 2 := by
  unfold endL
  induction l with
  | nil => rfl
  | cons a t ih => rw [List.flatMap_cons, List.length_append, ih, List.length_cons]; simp; omega
theorem compact_len {α : Type} [DecidableEq α] [Inhabited α] (zs : List α) : (Lib.compact zs).length ≤ zs.length := by
  unfold Lib.compact Lib.compactUpTo
  rw [List.length_map]
  have := List.length_filter_le (Lib.keeps zs.toArray) (List.range zs.length)
  rwa [List.length_range] at this
end M
namespace W
open M
attribute [local go_sem] bs_size bs_toList bs_get bs_extract bs_append bs_lit0 bs_lit1 lit1_bs
set_option maxHeartbeats 4000000
set_option maxRecDepth 20000
theorem ins_nil (fv : Value) (w : World) :
    Calls Tryz.prog 156 #[.slice none 0 0, .int .i64 0, .int .i64 0, fv] w (fun e w' => e = .returned (.tuple #[]) ∧ w' = w) := by
  go_enter Tryz.func156, Tryz.ntmps156
  go_wp2
  refine wp_loop_rounds 1 ?_
  rw [rounds_succ]
  go_wp2
  go_end0
  exact ⟨rfl, rfl⟩
theorem pdq_nil (fv : Value) (k : Int) (w : World) :
    Calls Tryz.prog 130 #[.slice none 0 0, .int .i64 0, .int .i64 0, .int .i64 k, fv] w (fun e w' => e = .returned (.tuple #[]) ∧ w' = w) := by
  have HI := Lib.hid (ins_nil fv w)
  go_enter Tryz.func130, Tryz.ntmps130
  go_wp2
  refine wp_loop_rounds 1 ?_
  rw [rounds_succ]
  go_wp2_with fail
  refine (HI.out).mono ?_
  rintro e w' ⟨rfl, rfl⟩
  go_wp2
  refine bodyPost_ret (results_none rfl _ _ _) rfl ?_
  exact ⟨rfl, rfl⟩
theorem sort_nil (fv : Value) (w : World) :
    Calls Tryz.prog 97 #[.slice none 0 0, fv] w (fun e w' => e = .returned (.tuple #[]) ∧ w' = w) := by
  have HB : Calls Tryz.prog 131 #[.int .u64 0] w (fun e w' => e = .returned (.int .i64 (Lib.bitLen 0 : Nat)) ∧ w' = w) := by
    have h := Go.Proofs.Any.bits_Len (Go.Proofs.SlLaysF0.n15.bits (P := Tryz.prog) (ρ := Tryz.sortR_ren) { Tryz.sortR with }) 0 w (by omega) (by omega)
    exact h
  have HB := Lib.hid HB
  have HP := Lib.hid (pdq_nil fv (Lib.bitLen 0 : Nat) w)
  generalize ((Lib.bitLen 0 : Nat) : Int) = k at *
  go_enter Tryz.func97, Tryz.ntmps97
  go_wp2_with fail
  refine (HB.out).mono ?_
  rintro e w' ⟨rfl, rfl⟩
  go_wp2_with fail
  refine (HP.out).mono ?_
  rintro e w' ⟨rfl, rfl⟩
  go_wp2
  go_end0
  exact ⟨rfl, rfl⟩
theorem sortR_any (zs : List Rat) (hz : ∀ q ∈ zs, M.Bq 30 q) (B S C : Nat) (v : Value) (w : World) (h : OwnS w B v (zs.map M.R)) (hBw : B ≤ w.heap.size)
    (hS : NoErI w S) (hSB : S < B) (hC : w.cell? ⟨C, 0, none⟩ = some (.pointer (some ⟨S, 0, none⟩))) (hCB : C < B) (hgl : ∀ W, Below B w W → Glob W) (hl : zs.length ≤ 4096) :
    Calls Tryz.prog 97 #[v, .func (.func 98) #[] #[.pointer (some ⟨C, 0, none⟩)]] w
      (fun e w' => e = .returned (.tuple #[]) ∧ ∃ zs' : List Rat, zs'.Perm zs ∧ zs'.Pairwise (fun a b => ¬ b < a) ∧ OwnS w' B v (zs'.map M.R) ∧ Below B w w') := by
  have h0 := h
  rcases h.2 with ⟨rfl, hn⟩ | ⟨g, cap, cur, rfl, hB, _⟩
  · have hz0 : zs = [] := by rw [List.length_map] at hn; exact List.length_eq_zero_iff.1 hn
    subst hz0
    refine (sort_nil _ w).mono ?_
    rintro e w' ⟨rfl, rfl⟩
    exact ⟨rfl, [], List.Perm.refl _, List.Pairwise.nil, h0, Below.refl _ _⟩
  · rw [List.length_map] at h0 ⊢
    refine (sortR_ok zs hz B g cap S C w h0 hBw hS hSB hC hCB hgl hl).mono ?_
    rintro e w' ⟨rfl, zs', h1, h2, h3, h4⟩
    refine ⟨rfl, zs', h1, h2, h3, below_of_grown h4 hBw hB⟩
theorem compactR_any (l : List (List UInt8)) (B : Nat) (v : Value) (w : World) (h : OwnS w B v l) (hBw : B ≤ w.heap.size) (hl : l.length ≤ 4096) :
    Calls Tryz.prog 100 #[v] w
      (fun e w' => ∃ v', e = .returned v' ∧ OwnS w' B v' (Lib.compact l) ∧ Below B w w') := by
  rcases h.2 with ⟨rfl, hn⟩ | ⟨g, cap, cur, rfl, hB, hh, hc, hm, hs, ht⟩
  · have hz0 : l = [] := List.length_eq_zero_iff.1 hn
    subst hz0
    have hcon := Go.Proofs.AnyG.slices_Compact_string_empty Tryz.compactR none 0 w
    change Calls Tryz.prog 100 _ _ _ at hcon
    refine hcon.mono ?_
    rintro e w' ⟨rfl, rfl⟩
    exact ⟨_, rfl, h, Below.refl _ _⟩
  · have hH : Go.Sort.Holds Go.Proofs.encStr w g 0 l.toArray := Go.holds_of_block hh (by rw [Nat.mul_one] at ht; rw [ht]; rfl)
    have hcon := Go.Proofs.AnyG.slices_Compact_string Tryz.compactR g 0 cap l w hH (by omega) hc
    change Calls Tryz.prog 100 _ _ _ at hcon
    refine hcon.mono ?_
    rintro e w' ⟨rfl, q, hw'⟩
    have hle := M.compact_len l
    obtain ⟨m, hm2⟩ : ∃ m, m = Lib.compact l ++ List.replicate (l.length - (Lib.compact l).length) [] := ⟨_, rfl⟩
    rw [← hm2] at hw'
    have hml : m.length = l.length := by rw [hm2]; simp; omega
    rw [← grow_none (Go.Sort.putRow _ _ _ _ _)] at hw'
    subst hw'
    have hcs : m.length ≤ cur.size := by rw [hs]; omega
    refine ⟨_, rfl, ⟨by simp [Strs], Or.inr ⟨g, cap, Go.Sort.putCells Go.Proofs.encStr 0 m.toArray cur, rfl, hB, heapE _ hh, by omega, hm, by simp [Go.Sort.putCells, hs], ?_⟩⟩, below_of_grown (Go.grownBy_sorted _) hBw hB⟩
    have h1 := Go.take_putCells cur m hcs
    have h2 : (Go.Sort.putCells Go.Proofs.encStr 0 m.toArray cur).toList.take ((Lib.compact l).length * 1) = (((Go.Sort.putCells Go.Proofs.encStr 0 m.toArray cur).toList.take m.length).take (Lib.compact l).length) := by
      rw [List.take_take, Nat.min_eq_left (by omega), Nat.mul_one]
    exact h2.trans (by rw [h1, hm2, List.map_append, List.take_left' (by simp)]; rfl)
end W
end Go.Proofs.YtpjaoapnangccaaGreatDoor
namespace Go.Proofs.YtpjaoapnangccaaGreatDoor
open Go Go.RowKit Go.Deep Go.Sort
set_option maxRecDepth 20000
theorem keyRat : Maps.Keyed Tryz.prog 22 := Maps.string_keyed Tryz.underlying22
theorem keyOf_bs {l : List UInt8} (h : l.length ≤ maxLen) : keyOf Tryz.prog 22 (.string (bs l)) = some (.string l) := by
  have h2 : (bs l).size ≤ maxLen := by rw [bs_size]; exact h
  have h3 : (bs l).data.toList = l := by simp [bs]
  simp [keyOf, mapKey, Tryz.underlying22, h2, h3]
theorem i64_wf {i : Nat} (h : i ≤ 1000000) : (Lit.int .i64 (i : Int)).wf = true := WalkArith.wf_i64 (by omega)
/-- Block b is a map that has the first m of the ends, each with its place. -/
def Plc (w : World) (b m : Nat) (es : List Rat) : Prop :=
  ∃ D : DataW Value, w.ownsMap Tryz.prog 22 (plainElem Tryz.prog 3) b m D ∧ Maps.Tidy D ∧ Maps.size D = m ∧ (∀ q, q ∉ es.take m → Maps.has D (.string (M.R q)) = false) ∧
    ∀ i (hi : i < es.length), i < m → ∀ z, D.atKey (.string (M.R es[i])) z = .lit (.int .i64 i)
theorem Plc.made (w : World) (es : List Rat) : Plc (w.alloc (.map #[] 0)) w.heap.size 0 es :=
  ⟨.map [], World.ownsMap_made _ _ _ _, Maps.tidy_empty, rfl, fun _ _ => rfl, fun _ _ h => absurd h (Nat.not_lt_zero _)⟩
theorem Plc.kept {w w' : World} {b m : Nat} {es : List Rat} {row : Option Nat} (h : Plc w b m es) (hg : w.grownBy w' row) (hne : some b ≠ row) : Plc w' b m es := by
  obtain ⟨D, h1, h2⟩ := h
  exact ⟨D, h1.kept hg hne, h2⟩
theorem Plc.lt {w : World} {b m : Nat} {es : List Rat} (h : Plc w b m es) : b < w.heap.size := by
  obtain ⟨D, h1, _⟩ := h
  exact h1.lt
theorem Plc.len {w : World} {b m : Nat} {es : List Rat} (h : Plc w b m es) (ty : TypeId) : (Builtin.len_ #[117] ty #[.map (some b)]).run Tryz.prog w = .ok (.int .i64 (m : Int)) w := by
  obtain ⟨D, h1, _, h3, _⟩ := h
  rw [h1.len Tryz.underlying117 ty, h3]
theorem Plc.look {w : World} {b : Nat} {es : List Rat} (h : Plc w b es.length es) (hs : ∀ q ∈ es, (M.R q).length ≤ maxLen) (i : Nat) (hi : i < es.length) :
    (Instr.lookup 117 (.map (some b)) (.string (bs (M.R es[i]))) false).run Tryz.prog w = .ok (.int .i64 (i : Int)) w := by
  obtain ⟨D, h1, _, _, _, h5⟩ := h
  obtain ⟨c, hr, hat, _⟩ := h1.lookup_int keyRat Tryz.underlying117 Tryz.underlying3 (by kernel_rfl) (keyOf_bs (hs _ (List.getElem_mem hi)))
  rw [h5 i hi hi] at hat
  injection hat with hat
  injection hat with _ hat
  rw [hr, hat]
theorem Plc.put {w : World} {b i : Nat} {es : List Rat} (h : Plc w b i es) (hi : i < es.length) (hn : es.length ≤ 100000) (hs : ∀ q ∈ es, (M.R q).length ≤ maxLen) (hp : es.Pairwise (· < ·)) :
    ∃ w', (Instr.mapUpdate 117 (.map (some b)) (.string (bs (M.R es[i]))) (.int .i64 (i : Int))).run Tryz.prog w = .ok () w' ∧ Plc w' b (i + 1) es ∧ w.grownBy w' (some b) := by
  obtain ⟨D, h1, h2, h3, h4, h5⟩ := h
  have hk := keyOf_bs (hs _ (List.getElem_mem hi))
  have hkl := keyRat.key hk
  obtain ⟨w', hr, ho, hg⟩ := h1.update keyRat Tryz.underlying117 (by unfold maxLen; omega) hk (plainElem_int Tryz.underlying3 (i64_wf (i := i) (by omega)))
  rw [List.pairwise_iff_getElem] at hp
  have hno : es[i] ∉ es.take i := fun hm => by
    obtain ⟨j, hj, e⟩ := List.mem_iff_getElem.1 hm
    rw [List.length_take] at hj
    rw [List.getElem_take] at e
    have := hp j i (by omega) hi (by omega)
    rw [e] at this
    exact Rat.lt_irrefl this
  have hlit : ∀ {p q : Rat}, p ≠ q → Lit.string (M.R p) ≠ Lit.string (M.R q) := fun hne e => by
    injection e with e
    exact hne (M.R_inj e)
  refine ⟨w', hr, ⟨D.put (.string (M.R es[i])) (.lit (.int .i64 i)), ho, h2.put hkl _, ?_, fun q hq => ?_, fun j hj hji z => ?_⟩, hg⟩
  · rw [Maps.size_put h2, h4 _ hno, h3]; rfl
  · rw [List.take_succ_eq_append_getElem hi, List.mem_append, List.mem_singleton] at hq
    rw [Maps.has_put_other (hlit (fun e => hq (Or.inr e)))]
    exact h4 _ (fun e => hq (Or.inl e))
  · by_cases hji2 : j = i
    · subst hji2
      exact Maps.atKey_put_same h2.isMap hkl _ _
    · have := hp j i hj hi (by omega)
      rw [Maps.atKey_put_other (hlit (fun e => by rw [e] at this; exact Rat.lt_irrefl this))]
      exact h5 j hj (by omega) z
namespace M
/-- How many of the first k spans cover an end; how many cover what is behind it. -/
def cA (l : List SQ) (x : Rat) : Nat := l.countP fun a => decide (a.1 ≤ x) && decide (x ≤ a.2)
def cB (l : List SQ) (x : Rat) : Nat := l.countP fun a => decide (a.1 ≤ x) && decide (x < a.2)
theorem cA_has (l : List SQ) (x : Rat) : decide (0 < cA l x) = hasB l x := by
  unfold cA hasB
  rw [Bool.eq_iff_iff, decide_eq_true_iff, List.countP_pos_iff, List.any_eq_true]
theorem cB_seg {l : List SQ} {es : List Rat} (hp : es.Pairwise (· < ·)) (hl : ∀ a ∈ l, a.2 ∈ es) {j : Nat} (hj : j + 1 < es.length) : decide (0 < cB l es[j]) = segB l es[j] es[j + 1] := by
  unfold cB segB
  rw [Bool.eq_iff_iff, decide_eq_true_iff, List.countP_pos_iff, List.any_eq_true]
  rw [List.pairwise_iff_getElem] at hp
  have key : ∀ a ∈ l, (es[j] < a.2 ↔ es[j + 1] ≤ a.2) := fun a ha => by
    obtain ⟨i, hi, e⟩ := List.mem_iff_getElem.1 (hl a ha)
    rw [← e]
    constructor
    · intro h
      by_cases h1 : i ≤ j
      · by_cases h2 : i = j
        · subst h2; exact absurd h Rat.lt_irrefl
        · have := hp i j hi (by omega) (by omega)
          grind
      · by_cases h2 : i = j + 1
        · subst h2; exact Rat.le_refl
        · exact Rat.le_of_lt (hp (j + 1) i hj hi (by omega))
    · intro h
      have := hp j (j + 1) (by omega) hj (by omega)
      grind
  constructor
  · rintro ⟨a, ha, h⟩
    rw [Bool.and_eq_true, decide_eq_true_iff, decide_eq_true_iff] at h
    exact ⟨a, ha, by rw [Bool.and_eq_true, decide_eq_true_iff, decide_eq_true_iff]; exact ⟨h.1, (key a ha).1 h.2⟩⟩
  · rintro ⟨a, ha, h⟩
    rw [Bool.and_eq_true, decide_eq_true_iff, decide_eq_true_iff] at h
    exact ⟨a, ha, by rw [Bool.and_eq_true, decide_eq_true_iff, decide_eq_true_iff]; exact ⟨h.1, (key a ha).2 h.2⟩⟩
theorem asc_le {es : List Rat} (hp : es.Pairwise (· < ·)) {i j : Nat} (hi : i < es.length) (hj : j < es.length) : es[i] ≤ es[j] ↔ i ≤ j := by
  rw [List.pairwise_iff_getElem] at hp
  constructor
  · intro h
    by_cases h1 : i ≤ j
    · exact h1
    · have := hp j i hj hi (by omega)
      grind
  · intro h
    by_cases h1 : i = j
    · subst h1; exact Rat.le_refl
    · exact Rat.le_of_lt (hp i j hi hj (by omega))
theorem asc_lt {es : List Rat} (hp : es.Pairwise (· < ·)) {i j : Nat} (hi : i < es.length) (hj : j < es.length) : es[i] < es[j] ↔ i < j := by
  have := asc_le hp hj hi
  rw [← Rat.not_le, this]; omega
/-- A row of n ints. -/
def rowF (n : Nat) (f : Nat → Nat) : List Value := (List.range n).map fun j => .int .i64 (f j : Nat)
theorem rowF_len (n : Nat) (f : Nat → Nat) : (rowF n f).length = n := by simp [rowF]
theorem rowF_get {n : Nat} {f : Nat → Nat} {j : Nat} (h : j < n) : (rowF n f)[j]? = some (.int .i64 (f j : Nat)) := by simp [rowF, h]
theorem rowF_set {n : Nat} {f : Nat → Nat} {i : Nat} (v : Nat) : (rowF n f).set i (.int .i64 (v : Nat)) = rowF n (fun j => if j = i then v else f j) := by
  apply List.ext_getElem?
  intro j
  by_cases hj : j < n
  · rw [rowF_get hj, List.getElem?_set]
    by_cases e : i = j
    · subst e; simp [rowF_len, hj]
    · rw [if_neg e, rowF_get hj, if_neg (fun h => e h.symm)]
  · rw [List.getElem?_eq_none (by rw [List.length_set, rowF_len]; omega), List.getElem?_eq_none (by rw [rowF_len]; omega)]
theorem rowF_congr {n : Nat} {f g : Nat → Nat} (h : ∀ j, j < n → f j = g j) : rowF n f = rowF n g := by
  apply List.ext_getElem?
  intro j
  by_cases hj : j < n
  · rw [rowF_get hj, rowF_get hj, h j hj]
  · rw [List.getElem?_eq_none (by rw [rowF_len]; omega), List.getElem?_eq_none (by rw [rowF_len]; omega)]
end M
/-- What 'marked' returns: two rows of ints, that say what is covered. -/
def MarkP (l : List M.SQ) (es : List Rat) (w : World) (e : Ending) (w' : World) : Prop :=
  ∃ g1 g2 fA fB, e = .returned (.agg #[.slice (some ⟨g1, 0, none⟩) es.length es.length, .slice (some ⟨g2, 0, none⟩) es.length es.length]) ∧
    Row w' g1 3 (M.rowF es.length fA) ∧ Row w' g2 3 (M.rowF es.length fB) ∧ Below w.heap.size w w' ∧ (∀ j (h : j < es.length), fA j = M.cA l es[j]) ∧ (∀ j (h : j < es.length), fB j = M.cB l es[j])
end Go.Proofs.YtpjaoapnangccaaGreatDoor
namespace Go.Proofs.YtpjaoapnangccaaGreatDoor
open Go Go.RowKit Go.Deep Go.Sort
theorem infoInt : (Tryz.prog.info? 3).map (fun i => (i.zero, i.size, i.bytes)) = some (some (.int .i64 0), 1, 8) := by kernel_rfl
theorem make_ints (n : Nat) (hn : n ≤ 100000) (w : World) : (Instr.makeSlice 118 (.int .i64 (n : Int)) (.int .i64 (n : Int))).run Tryz.prog w = .ok (.slice (some ⟨w.heap.size, 0, none⟩) n n) (w.alloc (.cells (M.rowF n (fun _ => 0)).toArray 3 (0, 0))) := by
  obtain ⟨i, h1, h2, h3, h4⟩ := info_parts infoInt
  have h := run_make (P := Tryz.prog) w 118 3 i _ Tryz.underlying118 h1 h2 .i64 .i64 n n (by omega) (by omega) (by rw [h4]; omega) (by omega)
  rw [h]
  simp only [Int.toNat_natCast, h3, Nat.mul_one]
  have : madeCells (Value.int .i64 0).cells n = (M.rowF n (fun _ => 0)).toArray := by
    apply Array.toList_inj.1
    rw [show (Value.int .i64 0).cells = #[.int .i64 0] from rfl, toList_madeCells_one (.int .i64 0) n]
    unfold M.rowF
    rw [List.eq_replicate_of_mem (l := (List.range n).map _) (a := Value.int .i64 0) (by simp)]
    simp
  rw [this]
theorem g_alloc {a w : World} {row : Option Nat} (h : a.grownBy w row) (o : Obj) : a.grownBy (w.alloc o) row := h.trans (World.grownBy_alloc w o row)
theorem g_drew {a w : World} {row : Option Nat} (h : a.grownBy w row) : a.grownBy w.drew row := ⟨h.os, h.tape, h.output, h.size, h.block⟩
theorem grownB {w w' : World} (hb : Below w.heap.size w w') : w.grownBy w' none := ⟨hb.os, hb.tape, hb.output, hb.size, fun k hk _ => hb.block k hk⟩
theorem g_drewN {a w : World} {row : Option Nat} (h : a.grownBy w row) (n : Nat) : a.grownBy (w.drewN n) row := ⟨h.os, h.tape, h.output, h.size, h.block⟩
theorem step_len {ops : Array Oper} {o : Oper} {a : Act} {K : Act → World → Prop} {Q : Exit → Act → World → Prop} {E : Prop} {w : World} {b n : Nat} {es : List Rat} (hgd : o.guard = none) (m : Operand)
    (ho : o.op = .call { callee := .builtin .len, args := #[m], argTypes := #[117] }) (hm : a.eval m = .map (some b)) (h : Plc w b n es) (hK : K (a.put o.dst (.int .i64 (n : Int))) w) : if Region.wanted o (yielded ops a.tmps) = true then Oper.wp Tryz.prog o a w K Q else E := by
  have hw : Region.wanted o (yielded ops a.tmps) = true := by simp [Region.wanted, hgd]
  rw [if_pos hw]
  unfold Oper.wp execOp
  simp only [ho, resolve, invoke, builtin, Sem.run_bind, Sem.run_pure, Result.andThen_ok, List.map_toArray, List.map_cons, List.map_nil, hm, h.len o.type]
  exact hK
theorem size_alloc' (w : World) (o : Obj) : (w.alloc o).heap.size = w.heap.size + 1 := by show (w.heap.push _).size = _; simp
namespace M
def aF (l : List SQ) (es : List Rat) (k : Nat) (j : Nat) : Nat := cA (l.take k) (es.getD j 0)
def bF (l : List SQ) (es : List Rat) (k : Nat) (j : Nat) : Nat := cB (l.take k) (es.getD j 0)
def upA (f : Nat → Nat) (lo i j : Nat) : Nat := f j + if lo ≤ j ∧ j < i then 1 else 0
def upB (f : Nat → Nat) (lo hi i j : Nat) : Nat := f j + if lo ≤ j ∧ j < i ∧ j < hi then 1 else 0
theorem aF_le (l : List SQ) (es : List Rat) (k j : Nat) : aF l es k j ≤ l.length := by
  have h1 : aF l es k j ≤ (l.take k).length := List.countP_le_length
  rw [List.length_take] at h1; omega
theorem bF_le (l : List SQ) (es : List Rat) (k j : Nat) : bF l es k j ≤ l.length := by
  have h1 : bF l es k j ≤ (l.take k).length := List.countP_le_length
  rw [List.length_take] at h1; omega
theorem aF_zero (l : List SQ) (es : List Rat) : aF l es 0 = fun _ => 0 := by funext j; simp [aF, cA]
theorem bF_zero (l : List SQ) (es : List Rat) : bF l es 0 = fun _ => 0 := by funext j; simp [bF, cB]
theorem upA_zero (f : Nat → Nat) (lo : Nat) : upA f lo lo = f := by
  funext j; unfold upA; rw [if_neg (by omega)]; rfl
theorem upB_zero (f : Nat → Nat) (lo hi : Nat) : upB f lo hi lo = f := by
  funext j; unfold upB; rw [if_neg (by omega)]; rfl
theorem upA_step (f : Nat → Nat) {lo i : Nat} (h : lo ≤ i) : (fun j => if j = i then upA f lo i i + 1 else upA f lo i j) = upA f lo (i + 1) := by
  funext j; unfold upA
  by_cases e : j = i
  · subst e; rw [if_pos rfl, if_neg (by omega), if_pos (by omega)]
  · rw [if_neg e]; congr 1; congr 1; simp; omega
theorem upB_step (f : Nat → Nat) {lo hi i : Nat} (h : lo ≤ i) (h2 : i < hi) : (fun j => if j = i then upB f lo hi i i + 1 else upB f lo hi i j) = upB f lo hi (i + 1) := by
  funext j; unfold upB
  by_cases e : j = i
  · subst e; rw [if_pos rfl, if_neg (by omega), if_pos (by omega)]
  · rw [if_neg e]; congr 1; congr 1; simp; omega
theorem upB_stop (f : Nat → Nat) {lo hi i : Nat} (h2 : ¬ i < hi) : upB f lo hi i = upB f lo hi (i + 1) := by
  funext j; unfold upB; congr 1; congr 1; simp; omega
theorem aF_step {l : List SQ} {es : List Rat} (hp : es.Pairwise (· < ·)) {k lo hi : Nat} (hk : k < l.length) (h1 : lo < es.length) (h2 : hi < es.length) (e1 : es[lo] = l[k].1) (e2 : es[hi] = l[k].2) {j : Nat} (hj : j < es.length) :
    upA (aF l es k) lo (hi + 1) j = aF l es (k + 1) j := by
  unfold upA aF cA
  rw [List.take_succ_eq_append_getElem hk, List.countP_append, List.countP_singleton, List.getD_eq_getElem?_getD, List.getElem?_eq_getElem hj, Option.getD_some, ← e1, ← e2]
  congr 1
  have a1 := asc_le hp h1 hj
  have a2 := asc_le hp hj h2
  by_cases c : lo ≤ j ∧ j < hi + 1
  · rw [if_pos c, if_pos (by rw [decide_eq_true (a1.2 c.1), decide_eq_true (a2.2 (by omega))]; rfl)]
  · rw [if_neg c, if_neg (fun h => by rw [Bool.and_eq_true, decide_eq_true_iff, decide_eq_true_iff, a1, a2] at h; omega)]
theorem bF_step {l : List SQ} {es : List Rat} (hp : es.Pairwise (· < ·)) {k lo hi : Nat} (hk : k < l.length) (h1 : lo < es.length) (h2 : hi < es.length) (e1 : es[lo] = l[k].1) (e2 : es[hi] = l[k].2) {j : Nat} (hj : j < es.length) :
    upB (bF l es k) lo hi (hi + 1) j = bF l es (k + 1) j := by
  unfold upB bF cB
  rw [List.take_succ_eq_append_getElem hk, List.countP_append, List.countP_singleton, List.getD_eq_getElem?_getD, List.getElem?_eq_getElem hj, Option.getD_some, ← e1, ← e2]
  congr 1
  have a1 := asc_le hp h1 hj
  have a2 := asc_lt hp hj h2
  by_cases c : lo ≤ j ∧ j < hi + 1 ∧ j < hi
  · rw [if_pos c, if_pos (by rw [decide_eq_true (a1.2 c.1), decide_eq_true (a2.2 (by omega))]; rfl)]
  · rw [if_neg c, if_neg (fun h => by rw [Bool.and_eq_true, decide_eq_true_iff, decide_eq_true_iff, a1, a2] at h; omega)]
end M
/-- The memory of 'marked' on its way. -/
structure MSt (w wr : World) (n g1 g2 m5 : Nat) (fA fB : Nat → Nat) : Prop where
  below : Below w.heap.size w wr
  res : Row wr w.heap.size 120 [.slice none 0 0, .slice none 0 0]
  row5 : Row wr m5 120 [.slice (some ⟨g1, 0, none⟩) n n, .slice (some ⟨g2, 0, none⟩) n n]
  rA : Row wr g1 3 (M.rowF n fA)
  rB : Row wr g2 3 (M.rowF n fB)
  o1 : w.heap.size < g1
  o2 : w.heap.size < g2
  o5 : w.heap.size < m5
  n12 : g1 ≠ g2
  n15 : g1 ≠ m5
  n25 : g2 ≠ m5
theorem MSt.alloc {w wr : World} {n g1 g2 m5 : Nat} {fA fB : Nat → Nat} (h : MSt w wr n g1 g2 m5 fA fB) (o : Obj) : MSt w (wr.alloc o) n g1 g2 m5 fA fB :=
  ⟨h.below.alloc h.below.size _, h.res.alloc _, h.row5.alloc _, h.rA.alloc _, h.rB.alloc _, h.o1, h.o2, h.o5, h.n12, h.n15, h.n25⟩
theorem MSt.drew {w wr : World} {n g1 g2 m5 : Nat} {fA fB : Nat → Nat} (h : MSt w wr n g1 g2 m5 fA fB) : MSt w wr.drew n g1 g2 m5 fA fB :=
  ⟨RowKit.Below.drew h.below, h.res.drew, h.row5.drew, h.rA.drew, h.rB.drew, h.o1, h.o2, h.o5, h.n12, h.n15, h.n25⟩
theorem below_drewN {B : Nat} {a w : World} (h : Below B a w) : ∀ k, Below B a (w.drewN k) := fun _ => ⟨h.os, h.tape, h.output, h.size, h.block⟩
theorem MSt.drewN {w wr : World} {n g1 g2 m5 : Nat} {fA fB : Nat → Nat} (h : MSt w wr n g1 g2 m5 fA fB) (k : Nat) : MSt w (wr.drewN k) n g1 g2 m5 fA fB :=
  ⟨below_drewN h.below k, h.res.drewN k, h.row5.drewN k, h.rA.drewN k, h.rB.drewN k, h.o1, h.o2, h.o5, h.n12, h.n15, h.n25⟩
theorem MSt.of {w wr : World} {n g1 g2 m5 : Nat} {fA fB fA' fB' : Nat → Nat} (h : MSt w wr n g1 g2 m5 fA fB) (h1 : ∀ j, j < n → fA j = fA' j) (h2 : ∀ j, j < n → fB j = fB' j) : MSt w wr n g1 g2 m5 fA' fB' :=
  ⟨h.below, h.res, h.row5, by rw [← M.rowF_congr h1]; exact h.rA, by rw [← M.rowF_congr h2]; exact h.rB, h.o1, h.o2, h.o5, h.n12, h.n15, h.n25⟩
theorem MSt.setA {w wr : World} {n g1 g2 m5 : Nat} {fA fB : Nat → Nat} (h : MSt w wr n g1 g2 m5 fA fB) (i v : Nat) : MSt w (wr.setCell ⟨g1, i, none⟩ (.int .i64 (v : Nat))) n g1 g2 m5 (fun j => if j = i then v else fA j) fB := by
  refine ⟨h.below.setCell (Nat.le_of_lt h.o1) _, h.res.other (Nat.ne_of_lt h.o1) _, h.row5.other (fun e => h.n15 e.symm) _, ?_, h.rB.other (fun e => h.n12 e.symm) _, h.o1, h.o2, h.o5, h.n12, h.n15, h.n25⟩
  have := h.rA.set i (.int .i64 (v : Nat))
  rwa [M.rowF_set] at this
theorem MSt.setB {w wr : World} {n g1 g2 m5 : Nat} {fA fB : Nat → Nat} (h : MSt w wr n g1 g2 m5 fA fB) (i v : Nat) : MSt w (wr.setCell ⟨g2, i, none⟩ (.int .i64 (v : Nat))) n g1 g2 m5 fA (fun j => if j = i then v else fB j) := by
  refine ⟨h.below.setCell (Nat.le_of_lt h.o2) _, h.res.other (Nat.ne_of_lt h.o2) _, h.row5.other (fun e => h.n25 e.symm) _, h.rA.other h.n12 _, ?_, h.o1, h.o2, h.o5, h.n12, h.n15, h.n25⟩
  have := h.rB.set i (.int .i64 (v : Nat))
  rwa [M.rowF_set] at this
theorem MSt.fin {w wr : World} {n g1 g2 m5 : Nat} {fA fB : Nat → Nat} (h : MSt w wr n g1 g2 m5 fA fB) {x y : Value} :
    ((wr.setCell ⟨w.heap.size, 0, none⟩ x).setCell ⟨w.heap.size, 1, none⟩ y).cell? ⟨w.heap.size, 0, none⟩ = some x ∧ ((wr.setCell ⟨w.heap.size, 0, none⟩ x).setCell ⟨w.heap.size, 1, none⟩ y).cell? ⟨w.heap.size, 1, none⟩ = some y ∧
      Row ((wr.setCell ⟨w.heap.size, 0, none⟩ x).setCell ⟨w.heap.size, 1, none⟩ y) g1 3 (M.rowF n fA) ∧ Row ((wr.setCell ⟨w.heap.size, 0, none⟩ x).setCell ⟨w.heap.size, 1, none⟩ y) g2 3 (M.rowF n fB) ∧
      Below w.heap.size w ((wr.setCell ⟨w.heap.size, 0, none⟩ x).setCell ⟨w.heap.size, 1, none⟩ y) := by
  have h2 := (h.res.set 0 x).set 1 y
  exact ⟨h2.cell rfl, h2.cell rfl, (h.rA.other (fun e => Nat.ne_of_lt h.o1 e.symm) _).other (fun e => Nat.ne_of_lt h.o1 e.symm) _, (h.rB.other (fun e => Nat.ne_of_lt h.o2 e.symm) _).other (fun e => Nat.ne_of_lt h.o2 e.symm) _,
    (h.below.setCell (p := ⟨w.heap.size, 0, none⟩) (Nat.le_refl _) x).setCell (p := ⟨w.heap.size, 1, none⟩) (Nat.le_refl _) y⟩
theorem rnew {w : World} {b : Nat} {t : TypeId} {xs : List Value} {cs : Array Value} (hb : b = w.heap.size) (hc : cs = xs.toArray) : Row (w.alloc (.cells cs t (0, 0))) b t xs := by
  subst hb hc; exact Row.new w t xs
theorem size1 (w : World) (a : Obj) : w.heap.size + 1 = (w.alloc a).heap.size := (size_alloc' _ _).symm
theorem size2 (w : World) (a b : Obj) : w.heap.size + 1 + 1 = ((w.alloc a).alloc b).heap.size := by rw [size_alloc', size_alloc']
theorem size3 (w : World) (a b c : Obj) : w.heap.size + 1 + 1 + 1 = (((w.alloc a).alloc b).alloc c).heap.size := by rw [size_alloc', size_alloc', size_alloc']
theorem below4 (w : World) (a b c d : Obj) : Below w.heap.size w ((((w.alloc a).alloc b).alloc c).alloc d) := by
  have h1 := size1 w a
  have h2 := size2 w a b
  have h3 := size3 w a b c
  exact ((((Below.refl _ _).alloc (Nat.le_refl _) _).alloc (by omega) _).alloc (by omega) _).alloc (by omega) _
theorem gen_world {F : Exit → Act → World → Prop} {e : Exit} {a : Act} {W : World} (S : World → Prop) (h : S W) (k : ∀ W', S W' → F e a W') : F e a W := k W h
namespace W
open M
attribute [local go_sem] bs_size bs_toList bs_get bs_extract bs_append bs_lit0 bs_lit1 lit1_bs
set_option maxHeartbeats 4000000
set_option maxRecDepth 20000
theorem marked_ok (va : Value) (l : List SQ) (es : List Rat) (b : Nat) (w : World) (ha : RdP w va (sx l)) (hm : Plc w b es.length es) (hl : l.length ≤ 200) (he : es.length ≤ 1000) (hp : es.Pairwise (· < ·))
    (hb : ∀ q ∈ es, (R q).length ≤ maxLen) (hin : ∀ a ∈ l, a.1 ∈ es ∧ a.2 ∈ es ∧ a.1 ≤ a.2) :
    Calls Tryz.prog 101 #[va, .map (some b)] w (MarkP l es w) := by
  have HA := Lib.hid ha
  have HM := Lib.hid hm
  have HP := Lib.hid hp
  have HB := Lib.hid hb
  have HI := Lib.hid hin
  have HL : Hid (l.length ≤ 200 ∧ es.length ≤ 1000) := Lib.hid ⟨hl, he⟩
  obtain ⟨A, cap, rfl⟩ := ha.len
  rw [sx_len l]
  have hmk := make_ints es.length (by omega)
  have e1 : ∀ o1, (Builtin.len_ #[117] 3 #[.map (some b)]).run Tryz.prog (w.alloc o1).drew = .ok (.int .i64 (es.length : Int)) (w.alloc o1).drew := fun o1 => (hm.kept (row := none) (g_drew (g_alloc (grown_refl _ _) _)) (by simp)).len _
  have e2 : ∀ o1 o2, (Builtin.len_ #[117] 3 #[.map (some b)]).run Tryz.prog ((w.alloc o1).alloc o2).drew = .ok (.int .i64 (es.length : Int)) ((w.alloc o1).alloc o2).drew := fun o1 o2 => (hm.kept (row := none) (g_drew (g_alloc (g_alloc (grown_refl _ _) _) _)) (by simp)).len _
  have e3 : ∀ o1 o2 o3, (Builtin.len_ #[117] 3 #[.map (some b)]).run Tryz.prog (((w.alloc o1).alloc o2).alloc o3).drew = .ok (.int .i64 (es.length : Int)) (((w.alloc o1).alloc o2).alloc o3).drew := fun o1 o2 o3 => (hm.kept (row := none) (g_drew (g_alloc (g_alloc (g_alloc (grown_refl _ _) _) _) _)) (by simp)).len _
  clear ha hm hp hb hin
  go_enter Tryz.func101, Tryz.ntmps101
  go_wp2
  go_region
  all_goals first
    | (refine gen_world (fun W => MSt w W es.length (w.heap.size + 1) (w.heap.size + 1 + 1) (w.heap.size + 1 + 1 + 1) (fun _ => 0) (fun _ => 0)) (MSt.drew ⟨below4 _ _ _ _ _, Row.alloc (Row.alloc (Row.alloc (rnew rfl rfl) _) _) _, rnew (size3 _ _ _ _) rfl, Row.alloc (Row.alloc (rnew (size1 _ _) rfl) _) _, Row.alloc (rnew (size2 _ _ _) rfl) _, by omega, by omega, by omega, by omega, by omega, by omega⟩) ?_; intro W hst; generalize w.heap.size + 1 + 1 + 1 = m5 at *; generalize w.heap.size + 1 + 1 = g2 at *; generalize w.heap.size + 1 = g1 at *)
    | (refine gen_world (fun W => MSt w W es.length (w.heap.size + 1) (w.heap.size + 1 + 1 + 1) (w.heap.size + 1 + 1) (fun _ => 0) (fun _ => 0)) (MSt.drew ⟨below4 _ _ _ _ _, Row.alloc (Row.alloc (Row.alloc (rnew rfl rfl) _) _) _, Row.alloc (rnew (size2 _ _ _) rfl) _, Row.alloc (Row.alloc (rnew (size1 _ _) rfl) _) _, rnew (size3 _ _ _ _) rfl, by omega, by omega, by omega, by omega, by omega, by omega⟩) ?_; intro W hst; generalize w.heap.size + 1 + 1 + 1 = g2 at *; generalize w.heap.size + 1 + 1 = m5 at *; generalize w.heap.size + 1 = g1 at *)
    | (refine gen_world (fun W => MSt w W es.length (w.heap.size + 1 + 1) (w.heap.size + 1) (w.heap.size + 1 + 1 + 1) (fun _ => 0) (fun _ => 0)) (MSt.drew ⟨below4 _ _ _ _ _, Row.alloc (Row.alloc (Row.alloc (rnew rfl rfl) _) _) _, rnew (size3 _ _ _ _) rfl, Row.alloc (rnew (size2 _ _ _) rfl) _, Row.alloc (Row.alloc (rnew (size1 _ _) rfl) _) _, by omega, by omega, by omega, by omega, by omega, by omega⟩) ?_; intro W hst; generalize w.heap.size + 1 + 1 + 1 = m5 at *; generalize w.heap.size + 1 + 1 = g1 at *; generalize w.heap.size + 1 = g2 at *)
    | (refine gen_world (fun W => MSt w W es.length (w.heap.size + 1 + 1) (w.heap.size + 1 + 1 + 1) (w.heap.size + 1) (fun _ => 0) (fun _ => 0)) (MSt.drew ⟨below4 _ _ _ _ _, Row.alloc (Row.alloc (Row.alloc (rnew rfl rfl) _) _) _, Row.alloc (Row.alloc (rnew (size1 _ _) rfl) _) _, Row.alloc (rnew (size2 _ _ _) rfl) _, rnew (size3 _ _ _ _) rfl, by omega, by omega, by omega, by omega, by omega, by omega⟩) ?_; intro W hst; generalize w.heap.size + 1 + 1 + 1 = g2 at *; generalize w.heap.size + 1 + 1 = g1 at *; generalize w.heap.size + 1 = m5 at *)
    | (refine gen_world (fun W => MSt w W es.length (w.heap.size + 1 + 1 + 1) (w.heap.size + 1) (w.heap.size + 1 + 1) (fun _ => 0) (fun _ => 0)) (MSt.drew ⟨below4 _ _ _ _ _, Row.alloc (Row.alloc (Row.alloc (rnew rfl rfl) _) _) _, Row.alloc (rnew (size2 _ _ _) rfl) _, rnew (size3 _ _ _ _) rfl, Row.alloc (Row.alloc (rnew (size1 _ _) rfl) _) _, by omega, by omega, by omega, by omega, by omega, by omega⟩) ?_; intro W hst; generalize w.heap.size + 1 + 1 + 1 = g1 at *; generalize w.heap.size + 1 + 1 = m5 at *; generalize w.heap.size + 1 = g2 at *)
    | (refine gen_world (fun W => MSt w W es.length (w.heap.size + 1 + 1 + 1) (w.heap.size + 1 + 1) (w.heap.size + 1) (fun _ => 0) (fun _ => 0)) (MSt.drew ⟨below4 _ _ _ _ _, Row.alloc (Row.alloc (Row.alloc (rnew rfl rfl) _) _) _, Row.alloc (Row.alloc (rnew (size1 _ _) rfl) _) _, rnew (size3 _ _ _ _) rfl, Row.alloc (rnew (size2 _ _ _) rfl) _, by omega, by omega, by omega, by omega, by omega, by omega⟩) ?_; intro W hst; generalize w.heap.size + 1 + 1 + 1 = g1 at *; generalize w.heap.size + 1 + 1 = g2 at *; generalize w.heap.size + 1 = m5 at *)
  all_goals
    clear hmk e1 e2 e3
    have HST := Lib.hid (hst.of (fA' := aF l es 0) (fB' := bF l es 0) (fun j _ => by rw [aF_zero]) (fun j _ => by rw [bF_zero]))
    clear hst
    go_wp2
    go_loopw [20] (fun iv wr => ∃ k : Nat, iv = .int .i64 (k : Int) ∧ k ≤ l.length ∧ Hid (MSt w wr es.length g1 g2 m5 (aF l es k) (bF l es k))) (fun iv _ => l.length - (intOf iv).toNat)
    case atStart => exact ⟨0, rfl, by omega, HST⟩
    case round =>
      obtain ⟨k, rfl, hk, hms⟩ := hrel
      by_cases hlt : k < l.length
      · have hsl : (sx l).length = l.length := sx_len l
        have hbw := hms.out.below
        obtain ⟨b1, o1, rfl, hw⟩ : ∃ b o, A = some ⟨b, o, none⟩ ∧ PSl w b o (sx l) := by
          obtain ⟨A', cap', e, h⟩ := HA.out
          injection e with e
          subst e
          exact h.resolve_left (fun e => by rw [e] at hsl; simp at hsl; omega)
        have hwr := hw.below' hbw
        have hlt' : k < (sx l).length := by rw [hsl]; exact hlt
        have cv := hwr.val k hlt'
        have cw := hwr.wt k hlt'
        rw [sx_get l k hlt] at cv cw
        simp only at cv cw
        obtain ⟨m1, m2, m3⟩ := HI.out _ (List.getElem_mem hlt)
        obtain ⟨lo, hlo, elo⟩ := List.mem_iff_getElem.1 m1
        obtain ⟨hi, hhi, ehi⟩ := List.mem_iff_getElem.1 m2
        have hle : lo ≤ hi := (asc_le HP.out hlo hhi).1 (by rw [elo, ehi]; exact m3)
        have HAS := Lib.hid (fun j (hj : j < es.length) => aF_step HP.out hlt hlo hhi elo ehi hj)
        have HBS := Lib.hid (fun j (hj : j < es.length) => bF_step HP.out hlt hlo hhi elo ehi hj)
        have hl1 : ∀ (o : Obj) (n : Nat), (Instr.lookup 117 (.map (some b)) (.string (bs (R l[k].1))) false).run Tryz.prog ((wr.alloc o).drewN n) = .ok (.int .i64 (lo : Int)) ((wr.alloc o).drewN n) := fun o n => by
          rw [← elo]; exact ((HM.out.kept (row := none) (grownB hbw) (by simp)).kept (row := none) (g_drewN (World.grownBy_alloc _ _ _) n) (by simp)).look HB.out lo hlo
        have hl2 : ∀ (o : Obj) (n : Nat), (Instr.lookup 117 (.map (some b)) (.string (bs (R l[k].2))) false).run Tryz.prog ((wr.alloc o).drewN n) = .ok (.int .i64 (hi : Int)) ((wr.alloc o).drewN n) := fun o n => by
          rw [← ehi]; exact ((HM.out.kept (row := none) (grownB hbw) (by simp)).kept (row := none) (g_drewN (World.grownBy_alloc _ _ _) n) (by simp)).look HB.out hi hhi
        have hrow := Row.new wr 24 [.string (bs (R l[k].1)), .string (bs (R l[k].2))]
        have HRW := Lib.hid (And.intro (hrow.cell (i := 0) rfl) (hrow.cell (i := 1) rfl))
        clear hsl hbw hw hwr hlt' m1 m2 m3 hrow elo ehi
        generalize R l[k].1 = p1 at *
        generalize R l[k].2 = p2 at *
        go_wp2
        go_quiet (fail)
        refine gen_world (fun W => MSt w W es.length g1 g2 m5 (aF l es k) (bF l es k)) (MSt.drewN (hms.out.alloc _) nq) ?_
        intro W1 hst1
        have HS1 := Lib.hid (hst1.of (fA' := upA (aF l es k) lo lo) (fB' := upB (bF l es k) lo hi lo) (fun j _ => by rw [upA_zero]) (fun j _ => by rw [upB_zero]))
        have HLA := Lib.hid (fun j => aF_le l es k j)
        have HLB := Lib.hid (fun j => bF_le l es k j)
        clear hst1 HRW hl1 hl2 cv cw hms HST
        generalize aF l es k = f1 at *
        generalize bF l es k = f2 at *
        go_wp2
        go_loopw [10] (fun iv wr => ∃ i : Nat, iv = .int .i64 (i : Int) ∧ lo ≤ i ∧ i ≤ hi + 1 ∧ Hid (MSt w wr es.length g1 g2 m5 (upA f1 lo i) (upB f2 lo hi i))) (fun iv _ => hi + 1 - (intOf iv).toNat)
        case atStart => exact ⟨lo, rfl, by omega, by omega, HS1⟩
        case round =>
          obtain ⟨i, rfl, hi1, hi2, hms⟩ := hrel
          by_cases hlt2 : i ≤ hi
          · have hin : i < es.length := by omega
            have hm := hms.out
            have c5 := hm.row5.cell (i := 0) rfl
            have c6 := hm.row5.cell (i := 1) rfl
            have cA := hm.rA.cell (rowF_get (f := upA f1 lo i) hin)
            have cB := hm.rB.cell (rowF_get (f := upB f2 lo hi i) hin)
            have fzA := hm.rA.free i
            have fzB := hm.rB.free i
            have hca : upA f1 lo i i ≤ 200 := by unfold upA; rw [if_neg (by omega)]; have := HLA.out i; have := HL.out.1; omega
            have hcb : upB f2 lo hi i i ≤ 200 := by unfold upB; rw [if_neg (by omega)]; have := HLB.out i; have := HL.out.1; omega
            have n15 := hm.n15
            have n12 := hm.n12
            have HSA := Lib.hid (hm.setA i (upA f1 lo i i + 1))
            rw [upA_step f1 hi1] at HSA
            have HSB := Lib.hid (fun (h : i < hi) => (HSA.out.setB i (upB f2 lo hi i i + 1)).of (fun _ _ => rfl) (fun j _ => congrFun (upB_step f2 hi1 h) j))
            have HSC := Lib.hid (fun (h : ¬ i < hi) => HSA.out.of (fun _ _ => rfl) (fun j _ => congrFun (upB_stop f2 h) j))
            generalize upA f1 lo i i = ca at *
            generalize upB f2 lo hi i i = cb at *
            have wa : wrap64 ((ca : Int) + 1) = ((ca + 1 : Nat) : Int) := by unfold wrap64; omega
            have wb : wrap64 ((cb : Int) + 1) = ((cb + 1 : Nat) : Int) := by unfold wrap64; omega
            clear hm hms
            by_cases hlt3 : i < hi
            · have HSB := Lib.hid (HSB.out hlt3)
              clear HSC
              go_wp2
              go_roundw
              case rel => exact ⟨i + 1, by simp, by omega, by omega, HSB⟩
              case measure => simp [intOf]; omega
            · have HSC := Lib.hid (HSC.out hlt3)
              clear HSB
              go_wp2
              go_roundw
              case rel => exact ⟨i + 1, by simp, by omega, by omega, HSC⟩
              case measure => simp [intOf]; omega
          · obtain rfl : i = hi + 1 := by omega
            have HSZ := Lib.hid (hms.out.of HAS.out HBS.out)
            clear hms HAS HBS
            go_wp2
            go_roundw
            case rel => exact ⟨k + 1, by simp, by omega, HSZ⟩
            case measure => simp [intOf]; omega
      · obtain rfl : k = l.length := by omega
        have hm := hms.out
        have c5 := hm.row5.cell (i := 0) rfl
        have c6 := hm.row5.cell (i := 1) rfl
        have r0 := hm.res.cell (i := 0) rfl
        have r1 := hm.res.cell (i := 1) rfl
        have z0 := hm.res.free 0
        have z1 := hm.res.free 1
        obtain ⟨q0, q1, k1, k2, k3⟩ := hm.fin (x := .slice (some ⟨g1, 0, none⟩) es.length es.length) (y := .slice (some ⟨g2, 0, none⟩) es.length es.length)
        have HF := Lib.hid (And.intro k1 (And.intro k2 k3))
        clear hm k1 k2 k3
        go_wp2
        refine bodyPost_ret (v := .agg #[.slice (some ⟨g1, 0, none⟩) es.length es.length, .slice (some ⟨g2, 0, none⟩) es.length es.length]) (by simp [results, Tryz.results101, go_sem, q0, q1]) rfl ⟨g1, g2, _, _, rfl, HF.out.1, HF.out.2.1, HF.out.2.2, ?_, ?_⟩
        · intro j hj; simp [aF, hj]
        · intro j hj; simp [bF, hj]
end W
end Go.Proofs.YtpjaoapnangccaaGreatDoor
