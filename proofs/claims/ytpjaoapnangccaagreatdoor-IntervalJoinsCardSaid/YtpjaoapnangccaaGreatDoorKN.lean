/-
  Chapter 3 of the program: the state of the sweep in 'combined', step by step.
  Chapter 3 of the program: 'combined', walked.
-/
import Derived.Test.YtpjaoapnangccaaGreatDoorKM
import Derived.Deep.QuietTactic
import Derived.BigQuiet
namespace Go.Proofs.YtpjaoapnangccaaGreatDoor
open Go Go.RowKit Go.Deep Go.Sort
namespace M
def evt (f : Bool → Bool → Bool) (a b : List SQ) (es : List Rat) (i : Nat) (h : i < es.length) : Ev :=
  (es[i], f (hasB a es[i]) (hasB b es[i]), if h2 : i + 1 < es.length then f (segB a es[i] es[i + 1]) (segB b es[i] es[i + 1]) else false)
theorem evs_len' (f : Bool → Bool → Bool) (a b : List SQ) : ∀ es : List Rat, (evs f a b es).length = es.length
  | [] => rfl
  | x :: t => by rw [evs, List.length_cons, evs_len' f a b t, List.length_cons]
theorem evs_get (f : Bool → Bool → Bool) (a b : List SQ) : ∀ (es : List Rat) (i : Nat) (h : i < es.length), (evs f a b es)[i]'(by rw [evs_len']; exact h) = evt f a b es i h
  | x :: t, 0, h => by
    cases t with
    | nil => simp [evs, evt]
    | cons y u => simp [evs, evt]
  | x :: t, i + 1, h => by
    have hi : i < t.length := by simpa using h
    have := evs_get f a b t i hi
    simp only [evs, List.getElem_cons_succ, this]
    simp [evt]
/-- The list and the flag behind the first k ends. -/
def stt (f : Bool → Bool → Bool) (a b : List SQ) (es : List Rat) (k : Nat) : List SQ × Bool := ((evs f a b es).take k).foldl sstep ([], false)
theorem stt_zero (f : Bool → Bool → Bool) (a b : List SQ) (es : List Rat) : stt f a b es 0 = ([], false) := rfl
theorem stt_succ (f : Bool → Bool → Bool) (a b : List SQ) (es : List Rat) (k : Nat) (h : k < es.length) : stt f a b es (k + 1) = sstep (stt f a b es k) (evt f a b es k h) := by
  unfold stt
  rw [List.take_succ_eq_append_getElem (by rw [evs_len']; exact h), List.foldl_append, evs_get f a b es k h]; rfl
theorem stt_end (f : Bool → Bool → Bool) (a b : List SQ) (es : List Rat) : (stt f a b es es.length).1 = comb f a b es := by
  unfold stt comb
  rw [List.take_of_length_le (by rw [evs_len']; exact Nat.le_refl _)]
  exact sstep_fold (evs f a b es) [] none
theorem setHi_len (l : List SQ) (x : Rat) : (setHi l x).length = l.length := by simp [setHi]
theorem stt_len (f : Bool → Bool → Bool) (a b : List SQ) (es : List Rat) : ∀ k, k ≤ es.length → (stt f a b es k).1.length ≤ k
  | 0, _ => by simp [stt_zero]
  | k + 1, h => by
    have ih := stt_len f a b es k (by omega)
    rw [stt_succ f a b es k (by omega)]
    unfold sstep
    simp only
    split
    · rw [setHi_len]; omega
    · split
      · simp; omega
      · omega
theorem stt_open (f : Bool → Bool → Bool) (a b : List SQ) (es : List Rat) : ∀ k, k ≤ es.length → (stt f a b es k).2 = true → (stt f a b es k).1 ≠ []
  | 0, _ => by simp [stt_zero]
  | k + 1, h => by
    have ih := stt_open f a b es k (by omega)
    rw [stt_succ f a b es k (by omega)]
    unfold sstep
    simp only
    intro h2
    split
    · rename_i h3
      intro e
      have := setHi_len (stt f a b es k).1 (evt f a b es k (by omega)).1
      rw [e] at this
      exact ih h3 (List.length_eq_zero_iff.1 this.symm)
    · rw [if_pos (Or.inl h2)]; simp
theorem sx_setHi (l : List SQ) (x : Rat) (h : l ≠ []) : sx (setHi l x) = (sx l).set (l.length - 1) (((sx l)[l.length - 1]'(by have := List.length_pos_iff.2 h; rw [sx_len]; omega)).1, R x) := by
  have hp := List.length_pos_iff.2 h
  have hlt : l.length - 1 < l.length := by omega
  unfold setHi
  rw [sx_get l (l.length - 1) hlt]
  unfold sx
  rw [List.map_set, List.getD_eq_getElem?_getD, List.getElem?_eq_getElem hlt]
  rfl
theorem sx_one (x y : Rat) : sx [(x, y)] = [(R x, R y)] := rfl
end M
end Go.Proofs.YtpjaoapnangccaaGreatDoor
namespace Go.Proofs.YtpjaoapnangccaaGreatDoor
open Go Go.RowKit Go.Deep Go.Sort
namespace M
theorem setsC_yes {a b : List SQ} (ha : a.length ≤ 60) (hb : b.length ≤ 60) (ra : ∀ s ∈ a, SpB 30 s) (rb : ∀ s ∈ b, SpB 30 s) : setsC (sx a) (sx b) = 0 := by
  have h1 : setC (sx a) = 0 := by unfold setC; rw [sx_len, if_neg (by omega)]; exact chkL_sx ra
  have h2 : setC (sx b) = 0 := by unfold setC; rw [sx_len, if_neg (by omega)]; exact chkL_sx rb
  unfold setsC; rw [if_pos h1, h2]
theorem shtL_sx {a : List SQ} (ra : ∀ s ∈ a, SpB 30 s) : ShtL (sx a) := fun p hp => by
  obtain ⟨s, hs, rfl⟩ := List.mem_map.1 hp
  exact ⟨Sht.R (ra s hs).2.1, Sht.R (ra s hs).2.2⟩
theorem fewS_sx {a : List SQ} (ha : a.length ≤ 60) (ra : ∀ s ∈ a, SpB 30 s) : FewS (sx a) := Or.inr ⟨by rw [sx_len]; exact ha, shtL_sx ra⟩
end M
namespace W
open M
attribute [local go_sem] bs_size bs_toList bs_get bs_extract bs_append bs_lit0 bs_lit1 lit1_bs
set_option maxHeartbeats 4000000
set_option maxRecDepth 20000
theorem combined_bad (va vb r : Value) (la lb : List PT) (w : World) (hg : Glob w) (ha : RdP w va la) (hb : RdP w vb lb) (fa : FewS la) (fb : FewS lb) (na : la.length ≤ maxLen) (nb : lb.length ≤ maxLen) (hc : setsC la lb ≠ 0) :
    Calls Tryz.prog 57 #[va, vb, .agg #[r]] w (Ret w (.tuple #[.slice none 0 0, .int .i64 ((setsC la lb : Nat) : Int)])) := by
  have hr : Row ((w.alloc (Obj.cells #[r] 86)).alloc (Obj.cells #[va, vb] 36)) (w.heap.size + 1) 36 [va, vb] := rnew (size1 _ _) rfl
  have hb2 : Below w.heap.size w ((w.alloc (Obj.cells #[r] 86)).alloc (Obj.cells #[va, vb] 36)) := (((Below.refl _ _).alloc (Nat.le_refl _) _).alloc (by rw [size_alloc']; omega) _)
  have HS := Lib.hid (psets2 va vb la lb (w.heap.size + 1) _ (hg.of hb2) hr (ha.below hb2) (hb.below hb2) fa fb na nb)
  have HB := Lib.hid hb2
  obtain ⟨A, capA, rfl⟩ := ha.len
  obtain ⟨B, capB, rfl⟩ := hb.len
  have hz : (((setsC la lb : Nat) : Int) != 0) = true := by simp; exact hc
  clear hr hb2 ha hb hc
  generalize ((setsC la lb : Nat) : Int) = c at *
  go_enter Tryz.func57, Tryz.ntmps57
  go_wp2_with fail
  refine (HS.out).mono ?_
  rintro e w1 ⟨rfl, hb1⟩
  go_wp2
  go_ret2
  exact Ret.of rfl (HB.out.trans (hb1.mono HB.out.size))
theorem own_row {w : World} {B n cap : Nat} {A : Option Addr} {es : List Rat} (h : OwnS w B (.slice A n cap) (es.map R)) (k : Nat) (hk : k < es.length) :
    ∃ g, A = some ⟨g, 0, none⟩ ∧ ∀ i (hi : i < es.length), w.cell? ⟨g, i, none⟩ = some (.string (bs (R es[i]))) := by
  obtain ⟨g, c, e, _, _, hc⟩ := h.form (fun e => by rw [List.map_eq_nil_iff.1 e] at hk; cases hk)
  injection e with e _ _
  exact ⟨g, e, fun i hi => by have := hc i (by rw [List.length_map]; exact hi); rwa [List.getElem_map] at this⟩
theorem wpList_put {ops : Array Oper} {rest : List Oper} {o : Oper} {a : Act} {Q : Exit → Act → World → Prop} {w w' : World} {t : TypeId} {mv xv vv : Value} (hgd : o.guard = none) (m x v : Operand)
    (ho : o.op = Op.mapUpdate t m x v) (hm : a.eval m = mv) (hx : a.eval x = xv) (hv : a.eval v = vv)
    (hrun : (Instr.mapUpdate t mv xv vv).run Tryz.prog w = .ok () w') (hK : wpList Tryz.prog ops Q rest (a.put o.dst undef) w') : wpList Tryz.prog ops Q (o :: rest) a w := by
  refine wpList_plain hgd fun K' hK' => ?_
  unfold Oper.wp
  simp [execOp, ho, hm, hx, hv, hrun, Result.andThen]
  exact hK' _ _ hK
/-- The memory of 'combined' that stays: the rule, the sums and the box of their address. -/
structure CSt (w W : World) (fn S C : Nat) : Prop where
  bel : Below w.heap.size w W
  rule : Row W w.heap.size 86 [.func (.func fn) #[] #[]]
  sums : NoErI W S
  box : Row W C 72 [.pointer (some ⟨S, 0, none⟩)]
theorem CSt.below {w W W' : World} {fn S C : Nat} (h : CSt w W fn S C) (hb : Below W.heap.size W W') : CSt w W' fn S C :=
  ⟨h.bel.trans (hb.mono h.bel.size), h.rule.below' hb, h.sums.below' hb, h.box.below' hb⟩
theorem CSt.start {w w1 : World} {fn : Nat} {va vb : Value} (hb : Below w.heap.size w w1) (hr : Row w1 w.heap.size 86 [.func (.func fn) #[] #[]]) :
    CSt w (((w1.alloc (Obj.cells #[.int .i64 0] 74)).alloc (Obj.cells #[.pointer (some ⟨w1.heap.size, 0, none⟩)] 72)).alloc (Obj.cells #[va, vb] 36)) fn w1.heap.size (w1.heap.size + 1) ∧
      Row (((w1.alloc (Obj.cells #[.int .i64 0] 74)).alloc (Obj.cells #[.pointer (some ⟨w1.heap.size, 0, none⟩)] 72)).alloc (Obj.cells #[va, vb] 36)) (w1.heap.size + 1 + 1) 36 [va, vb] := by
  have h0 := hb.size
  have hs : Row (w1.alloc (Obj.cells #[.int .i64 0] 74)) w1.heap.size 74 [.int .i64 0] := rnew rfl rfl
  have hx : Row ((w1.alloc (Obj.cells #[.int .i64 0] 74)).alloc (Obj.cells #[.pointer (some ⟨w1.heap.size, 0, none⟩)] 72)) (w1.heap.size + 1) 72 [.pointer (some ⟨w1.heap.size, 0, none⟩)] := rnew (size1 _ _) rfl
  have h1 := size1 w1 (Obj.cells #[.int .i64 0] 74)
  have h2 := size2 w1 (Obj.cells #[.int .i64 0] 74) (Obj.cells #[.pointer (some ⟨w1.heap.size, 0, none⟩)] 72)
  have hbl := ((hb.alloc h0 (Obj.cells #[.int .i64 0] 74)).alloc (by omega) (Obj.cells #[.pointer (some ⟨w1.heap.size, 0, none⟩)] 72)).alloc (by omega) (Obj.cells #[va, vb] 36)
  exact ⟨CSt.mk hbl (((hr.alloc _).alloc _).alloc _) ((hs.alloc _).alloc _) (hx.alloc _), rnew h2 rfl⟩
theorem _root_.Go.Proofs.YtpjaoapnangccaaGreatDoor.OwnP.set' {w : World} {B g cap n : Nat} {l : List PT} (h : OwnP w B (.slice (some ⟨g, 0, none⟩) n cap) l) (k : Nat) (hk : k < l.length) (q : List UInt8) :
    OwnP (w.setCell ⟨g, k * 2 + 1, none⟩ (.string (bs q))) B (.slice (some ⟨g, 0, none⟩) n cap) (l.set k (l[k].1, q)) := by
  obtain ⟨A, c, e, _⟩ := h.rd
  injection e with _ e _
  subst e
  exact h.set k hk q
/-- What the last loop reads. -/
structure Stat (w W : World) (fn B7 n g1 g2 g3 g4 m6 m7 : Nat) (ev : Value) (es : List Rat) (fA fB fC fD : Nat → Nat) : Prop where
  bel : Below w.heap.size w W
  rule : Row W w.heap.size 86 [.func (.func fn) #[] #[]]
  r6 : Row W m6 120 [.slice (some ⟨g1, 0, none⟩) n n, .slice (some ⟨g2, 0, none⟩) n n]
  r7 : Row W m7 120 [.slice (some ⟨g3, 0, none⟩) n n, .slice (some ⟨g4, 0, none⟩) n n]
  rA : Row W g1 3 (M.rowF n fA)
  rB : Row W g2 3 (M.rowF n fB)
  rC : Row W g3 3 (M.rowF n fC)
  rD : Row W g4 3 (M.rowF n fD)
  ends : OwnS W B7 ev (es.map R)
theorem Stat.below {w W W' : World} {fn B7 n g1 g2 g3 g4 m6 m7 : Nat} {ev : Value} {es : List Rat} {fA fB fC fD : Nat → Nat} (h : Stat w W fn B7 n g1 g2 g3 g4 m6 m7 ev es fA fB fC fD) (hb : Below W.heap.size W W') :
    Stat w W' fn B7 n g1 g2 g3 g4 m6 m7 ev es fA fB fC fD :=
  ⟨h.bel.trans (hb.mono h.bel.size), h.rule.below' hb, h.r6.below' hb, h.r7.below' hb, h.rA.below' hb, h.rB.below' hb, h.rC.below' hb, h.rD.below' hb, h.ends.below hb⟩
theorem Stat.start {w w7 : World} {fn S C B7 n g1 g2 g3 g4 : Nat} {ev : Value} {es : List Rat} {fA fB fC fD : Nat → Nat} (h : CSt w w7 fn S C)
    (hr : Row w7 g1 3 (M.rowF n fA) ∧ Row w7 g2 3 (M.rowF n fB) ∧ Row w7 g3 3 (M.rowF n fC) ∧ Row w7 g4 3 (M.rowF n fD)) (ho : OwnS w7 B7 ev (es.map R)) :
    Stat w ((w7.alloc (Obj.cells #[.slice (some ⟨g1, 0, none⟩) n n, .slice (some ⟨g2, 0, none⟩) n n] 120)).alloc (Obj.cells #[.slice (some ⟨g3, 0, none⟩) n n, .slice (some ⟨g4, 0, none⟩) n n] 120))
      fn B7 n g1 g2 g3 g4 w7.heap.size (w7.heap.size + 1) ev es fA fB fC fD := by
  have h0 := h.bel.size
  have h1 := size1 w7 (Obj.cells #[.slice (some ⟨g1, 0, none⟩) n n, .slice (some ⟨g2, 0, none⟩) n n] 120)
  have hbl := (h.bel.alloc h0 (Obj.cells #[.slice (some ⟨g1, 0, none⟩) n n, .slice (some ⟨g2, 0, none⟩) n n] 120)).alloc (by omega) (Obj.cells #[.slice (some ⟨g3, 0, none⟩) n n, .slice (some ⟨g4, 0, none⟩) n n] 120)
  have r6 : Row (w7.alloc (Obj.cells #[.slice (some ⟨g1, 0, none⟩) n n, .slice (some ⟨g2, 0, none⟩) n n] 120)) w7.heap.size 120 [.slice (some ⟨g1, 0, none⟩) n n, .slice (some ⟨g2, 0, none⟩) n n] := rnew rfl rfl
  exact ⟨hbl, (h.rule.alloc _).alloc _, r6.alloc _, rnew h1 rfl, (hr.1.alloc _).alloc _, (hr.2.1.alloc _).alloc _, (hr.2.2.1.alloc _).alloc _, (hr.2.2.2.alloc _).alloc _, (ho.alloc _).alloc _⟩
/-- What 'combined' returns: an own list. -/
def CmbP (l : List SQ) (w : World) (e : Ending) (w' : World) : Prop :=
  ∃ v, e = .returned (.tuple #[v, .int .i64 0]) ∧ OwnP w' w.heap.size v (sx l) ∧ Below w.heap.size w w'
theorem combined_ok (f : Bool → Bool → Bool) (fn : Nat) (a b : List SQ) (va vb : Value) (w : World) (hg : Glob w) (ha : RdP w va (sx a)) (hb : RdP w vb (sx b)) (na : a.length ≤ 60) (nb : b.length ≤ 60) (ra : ∀ s ∈ a, SpB 30 s) (rb : ∀ s ∈ b, SpB 30 s)
    (hf : Enters Tryz.prog fn) (hk : ∀ p q W, Calls Tryz.prog fn #[.bool p, .bool q] W (fun e w' => e = .returned (.bool (f p q)) ∧ w' = W)) :
    Calls Tryz.prog 57 #[va, vb, .agg #[.func (.func fn) #[] #[]]] w (CmbP (comb f a b (endsZ (a ++ b))) w) := by
  have hr : Row ((w.alloc (Obj.cells #[.func (.func fn) #[] #[]] 86)).alloc (Obj.cells #[va, vb] 36)) (w.heap.size + 1) 36 [va, vb] := rnew (size1 _ _) rfl
  have hr0 : Row ((w.alloc (Obj.cells #[.func (.func fn) #[] #[]] 86)).alloc (Obj.cells #[va, vb] 36)) w.heap.size 86 [.func (.func fn) #[] #[]] := Row.alloc (rnew rfl rfl) _
  have hb2 : Below w.heap.size w ((w.alloc (Obj.cells #[.func (.func fn) #[] #[]] 86)).alloc (Obj.cells #[va, vb] 36)) := (((Below.refl _ _).alloc (Nat.le_refl _) _).alloc (by rw [size_alloc']; omega) _)
  have hs := psets2 va vb (sx a) (sx b) (w.heap.size + 1) _ (hg.of hb2) hr (ha.below hb2) (hb.below hb2) (fewS_sx na ra) (fewS_sx nb rb) (by rw [sx_len]; unfold maxLen; omega) (by rw [sx_len]; unfold maxLen; omega)
  rw [setsC_yes na nb ra rb] at hs
  have HS := Lib.hid hs
  have HB := Lib.hid (And.intro hb2 hr0)
  have HA := Lib.hid (And.intro ha hb)
  have HG := Lib.hid hg
  have HN : Hid (a.length ≤ 60 ∧ b.length ≤ 60) := Lib.hid ⟨na, nb⟩
  have HR := Lib.hid (And.intro ra rb)
  have HK := Lib.hid hk
  obtain ⟨A, capA, rfl⟩ := ha.len
  obtain ⟨B, capB, rfl⟩ := hb.len
  unfold Enters at hf
  clear hr hr0 hb2 ha hb hs hg ra rb hk
  go_enter Tryz.func57, Tryz.ntmps57
  go_wp2_with fail
  refine (HS.out).mono ?_
  rintro e w1 ⟨rfl, hb1⟩
  have hw1 : Below w.heap.size w w1 := HB.out.1.trans (hb1.mono HB.out.1.size)
  have hr1 := HB.out.2.below' hb1
  have H1 := Lib.hid (And.intro hw1 hr1)
  clear hw1 hr1 hb1 HS HB
  obtain ⟨hcs, hrv⟩ := CSt.start (va := .slice A (sx a).length capA) (vb := .slice B (sx b).length capB) H1.out.1 H1.out.2
  have HCC := Lib.hid (concat_ok _ _ (sx a) (sx b) _ _ hrv (HA.out.1.below hcs.bel) (HA.out.2.below hcs.bel) (by rw [sx_len]; omega) (by rw [sx_len]; omega))
  have HCS := Lib.hid hcs
  clear hcs hrv
  go_wp2_with fail
  refine (HCC.out).mono ?_
  rintro e w2 ⟨v2, rfl, ho2, hb2⟩
  have hc2 := HCS.out.below hb2
  obtain ⟨A2, cap2, rfl⟩ := ho2.rd.len
  have HRD := Lib.hid ho2.rd
  have HC2 := Lib.hid hc2
  clear hc2 hb2 ho2 HCC HCS H1
  generalize w1.heap.size = S at *
  have hlen : (sx a ++ sx b).length = (a ++ b).length := by simp [sx_len]
  rw [hlen, ← sx_append] at HRD
  have HL : Hid ((a ++ b).length ≤ 120) := Lib.hid (by rw [List.length_append]; omega)
  have HLR : Hid (∀ s ∈ a ++ b, SpB 30 s) := Lib.hid (fun s hs => by
    rcases List.mem_append.1 hs with h | h
    · exact HR.out.1 s h
    · exact HR.out.2 s h)
  rw [hlen]
  clear hlen
  generalize hl : a ++ b = l at *
  have HLE := Lib.hid hl
  clear hl
  have hl120 := HL.out
  go_wp2
  go_loopw [10, 37] (fun ev iv wr => ∃ k : Nat, iv = .int .i64 (k : Int) ∧ k ≤ l.length ∧ Hid (Below w2.heap.size w2 wr ∧ OwnS wr w2.heap.size ev ((endL (l.take k)).map R))) (fun _ iv _ => l.length - (intOf iv).toNat)
  case atStart => exact ⟨0, rfl, by omega, Lib.hid ⟨Below.refl _ _, World.ownsRow_nil _ _ _ _⟩⟩
  case round =>
    obtain ⟨k, rfl, hkn, hrl⟩ := hrel
    by_cases hlt : k < l.length
    · have hsl : (sx l).length = l.length := sx_len l
      obtain ⟨b1, o1, rfl, hw⟩ : ∃ b o, A2 = some ⟨b, o, none⟩ ∧ PSl w2 b o (sx l) := by
        obtain ⟨A', cap', e, h⟩ := HRD.out
        injection e with e
        subst e
        exact h.resolve_left (fun e => by rw [e] at hsl; simp at hsl; omega)
      have hwr := hw.below' hrl.out.1
      have hlt' : k < (sx l).length := by rw [hsl]; exact hlt
      have cv := hwr.val k hlt'
      have cw := hwr.wt k hlt'
      rw [sx_get l k hlt] at cv cw
      simp only at cv cw
      have hTK : (endL (l.take k)).map R ++ [R l[k].1, R l[k].2] = (endL (l.take (k + 1))).map R := by
        rw [List.take_succ_eq_append_getElem hlt]; unfold endL; rw [List.flatMap_append, List.map_append]; rfl
      have HTK := Lib.hid hTK
      have HLN : Hid (((endL (l.take k)).map R).length ≤ 1000) := Lib.hid (by rw [List.length_map, endL_len, List.length_take]; have := HL.out; omega)
      clear hsl hw hwr hlt' hTK
      generalize R l[k].1 = p1 at *
      generalize R l[k].2 = p2 at *
      go_wp2_with (at_builtin; refine wpList_app_sl rfl (.tmp 41) (.tmp 46) rfl rfl rfl (OwnS.alloc (OwnS.alloc hrl.out.2 _) _) (SrcS.new _ [p1, p2] _ _ _ rfl rfl (size1 _ _)) (by have h1 := hrl.out.1.size; simp; omega) (by have h1 := HLN.out; simp only [List.length_cons, List.length_nil]; omega) ?_; intro v3 w3 ho3 hk3)
      rw [HTK.out] at ho3
      have hb3 := hk3 _ _ (Nat.le_refl _) ((hrl.out.1.alloc hrl.out.1.size (.cells #[.string (bs p1), .string (bs p2)] 24)).alloc (by have := hrl.out.1.size; rw [size_alloc']; omega) (.cells #[.string (bs p1), .string (bs p2)] 22))
      have HR3 := Lib.hid (And.intro hb3 ho3)
      clear hb3 ho3 hk3 hrl HTK HLN cv cw
      go_wp2
      go_roundw
      case rel => exact ⟨k + 1, by simp, by omega, HR3⟩
      case measure => simp [intOf]; omega
    · obtain rfl : k = l.length := by omega
      have hrl2 := hrl.out
      rw [List.take_length] at hrl2
      have hc := HC2.out.below hrl2.1
      have hso := sortR_any (endL l) (fun q hq => by
        obtain ⟨s, hs, e⟩ := endL_mem.1 hq
        rcases e with rfl | rfl
        · exact (HLR.out s hs).2.1
        · exact (HLR.out s hs).2.2) w2.heap.size S (S + 1) _ wr hrl2.2 hrl2.1.size hc.sums HC2.out.sums.lt (hc.box.cell (i := 0) rfl) HC2.out.box.lt (fun W hW => HG.out.of (hc.bel.trans (hW.mono HC2.out.bel.size))) (by rw [endL_len]; have := HL.out; omega)
      have HSO := Lib.hid hso
      have HCR := Lib.hid (And.intro hc hrl2.1)
      clear hrl hrl2 hc hso hkn hlt
      go_wp2_with fail
      refine (HSO.out).mono ?_
      rintro e w4 ⟨rfl, zs, hp, hpw, ho4, hb4⟩
      have hc4 := HCR.out.1.bel
      have hcs4 : CSt w w4 fn S (S + 1) := HC2.out.below (HCR.out.2.trans hb4)
      have hlz : zs.length ≤ 240 := by rw [hp.length_eq, endL_len]; omega
      have HCO := Lib.hid (compactR_any (zs.map R) w2.heap.size _ w4 ho4 (Nat.le_trans HCR.out.2.size hb4.size) (by rw [List.length_map]; omega))
      have cx := hcs4.box.cell (i := 0) rfl
      have cs := hcs4.sums.cell
      obtain ⟨es, he1, he2, he3⟩ := compact_R zs hpw
      have hie : IsEnds l es := ⟨he2, fun v => by rw [he3, hp.mem_iff, endL_mem]⟩
      have hel : es.length ≤ 240 := by
        have := compact_len (zs.map R)
        rw [he1, List.length_map, List.length_map] at this
        omega
      have hEE := hie.eq
      rw [he1] at HCO
      have HE := Lib.hid (And.intro hie hEE)
      have H4 := Lib.hid (HCR.out.2.trans hb4)
      have HRL : Hid (∀ q ∈ es, (R q).length ≤ maxLen) := Lib.hid (fun q hq => by
        have hq2 : Bq 30 q := by
          obtain ⟨s, hs, e⟩ := (hie.2 q).1 hq
          rcases e with rfl | rfl
          · exact (HLR.out s hs).2.1
          · exact (HLR.out s hs).2.2
        have := hq2.R_len (by decide)
        unfold maxLen; omega)
      clear hc4 hcs4 hlz he1 he2 he3 hie hEE hp hpw ho4 hb4 HSO HCR
      go_wp2_with fail
      refine (HCO.out).mono ?_
      rintro e w5 ⟨v5, rfl, ho5, hb5⟩
      obtain ⟨A5, cap5, rfl⟩ : ∃ A cap, v5 = .slice A es.length cap := by
        rcases ho5.2 with ⟨e, hn⟩ | ⟨g, cap, cur, e, _⟩
        · rw [List.length_map] at hn
          exact ⟨_, _, by rw [e, hn]⟩
        · rw [List.length_map] at e
          exact ⟨_, _, e⟩
      have H5 := Lib.hid (And.intro (H4.out.trans hb5) ho5)
      clear ho5 hb5 HCO H4 cx cs
      have hmm := @run_makeMap Tryz.prog
      go_wp2
      go_loopw [66] (fun iv wr => ∃ k : Nat, iv = .int .i64 (k : Int) ∧ k ≤ es.length ∧ Hid (Below w5.heap.size w5 wr ∧ Plc wr w5.heap.size k es)) (fun iv _ => es.length - (intOf iv).toNat)
      case atStart => exact ⟨0, rfl, by omega, Lib.hid ⟨(Below.refl _ _).alloc (Nat.le_refl _) _, Plc.made w5 es⟩⟩
      case round =>
        obtain ⟨k, rfl, hkn, hrl⟩ := hrel
        by_cases hlt : k < es.length
        · clear hmm
          obtain ⟨g5, e5, hc5⟩ := own_row (H5.out.2.below hrl.out.1) k hlt
          subst e5
          have cx := hc5 k hlt
          obtain ⟨w6, hr6, hp6, hg6⟩ := hrl.out.2.put hlt (by omega) HRL.out HE.out.1.1
          have hb6 : Below w5.heap.size w5 w6 := hrl.out.1.grown hg6 hrl.out.1.size (fun j hj => by injection hj with hj; omega)
          have HR6 := Lib.hid (And.intro hb6 hp6)
          clear hc5 hrl hp6 hg6 hb6
          generalize R es[k] = p1 at *
          have HR7 := Lib.hid hr6
          clear hr6
          go_wp2_with (at_mapUpdate; refine wpList_put rfl _ _ _ rfl rfl rfl rfl HR7.out ?_)
          go_roundw
          case rel => exact ⟨k + 1, by simp, by omega, HR6⟩
          case measure => simp [intOf]; omega
        · obtain rfl : k = es.length := by omega
          have hB2 : Below w2.heap.size w2 wr := H5.out.1.trans (hrl.out.1.mono H5.out.1.size)
          have hcs := HC2.out.below hB2
          have hin : ∀ s ∈ l, s.1 ∈ es ∧ s.2 ∈ es ∧ s.1 ≤ s.2 := fun s hs => ⟨(HE.out.1.2 _).2 ⟨s, hs, Or.inl rfl⟩, (HE.out.1.2 _).2 ⟨s, hs, Or.inr rfl⟩, (HLR.out s hs).1⟩
          have hia : ∀ s ∈ a, s.1 ∈ es ∧ s.2 ∈ es ∧ s.1 ≤ s.2 := fun s hs => hin s (by rw [← HLE.out]; exact List.mem_append_left _ hs)
          have hib : ∀ s ∈ b, s.1 ∈ es ∧ s.2 ∈ es ∧ s.1 ≤ s.2 := fun s hs => hin s (by rw [← HLE.out]; exact List.mem_append_right _ hs)
          have HMA := Lib.hid (marked_ok _ a es w5.heap.size wr (HA.out.1.below hcs.bel) hrl.out.2 (by omega) (by omega) HE.out.1.1 HRL.out hia)
          have HMB := Lib.hid (fun W (hW : Below wr.heap.size wr W) => marked_ok _ b es w5.heap.size W (HA.out.2.below (hcs.below hW).bel) (hrl.out.2.kept (grownB hW) (by simp)) (by omega) (by omega) HE.out.1.1 HRL.out hib)
          have H8 := Lib.hid (And.intro hB2 (H5.out.2.below hrl.out.1))
          have HIB := Lib.hid (And.intro hia hib)
          clear hB2 hcs hin hia hib hrl hmm hlt hkn
          go_wp2_with fail
          refine (HMA.out).mono ?_
          rintro e w6 ⟨g1, g2, fA, fB, rfl, rA, rB, hb6, eA, eB⟩
          have HM1 := Lib.hid (And.intro rA (And.intro rB hb6))
          have HE1 := Lib.hid (And.intro eA eB)
          clear rA rB hb6 eA eB HMA
          go_wp2_with fail
          refine (HMB.out w6 HM1.out.2.2).mono ?_
          rintro e w7 ⟨g3, g4, fC, fD, rfl, rC, rD, hb7, eC, eD⟩
          have HM2 := Lib.hid (And.intro (HM1.out.1.below' hb7) (And.intro (HM1.out.2.1.below' hb7) (And.intro rC rD)))
          have HM3 := Lib.hid (HM1.out.2.2.trans (hb7.mono HM1.out.2.2.size))
          have HE2 := Lib.hid (And.intro eC eD)
          have HO7 := Lib.hid (H8.out.2.below HM3.out)
          have HC7 := Lib.hid (HC2.out.below (H8.out.1.trans (HM3.out.mono H8.out.1.size)))
          clear rC rD hb7 eC eD HMB HM1 HM3 H8 H5
          go_wp2
          obtain ⟨w9, hw9⟩ : ∃ x, x = ((w7.alloc (Obj.cells #[.slice (some ⟨g1, 0, none⟩) es.length es.length, .slice (some ⟨g2, 0, none⟩) es.length es.length] 120)).alloc (Obj.cells #[.slice (some ⟨g3, 0, none⟩) es.length es.length, .slice (some ⟨g4, 0, none⟩) es.length es.length] 120)) := ⟨_, rfl⟩
          have hst := Stat.start HC7.out HM2.out HO7.out
          rw [← hw9] at hst ⊢
          have HSS := Lib.hid hst
          have hkq : ∀ (p q : Bool) (W : World) (n : Nat), Calls Tryz.prog fn #[.bool p, .bool q] (W.drewN n) (fun e w'' => e = .returned (.bool (f p q)) ∧ ∃ m, w'' = W.drewN m) := fun p q W n => (HK.out p q _).mono (fun e w'' h => ⟨h.1, n, h.2⟩)
          have HKQ := Lib.hid hkq
          clear hw9 hst HC7 HM2 HO7 HRD HC2 hkq
          generalize w7.heap.size = m6 at *
          generalize m6 + 1 = m7 at *
          generalize w5.heap.size = bm at *
          go_loopw [18, 19, 83] (fun ov pv iv wr => ∃ k : Nat, iv = .int .i64 (k : Int) ∧ k ≤ es.length ∧ pv = .bool (stt f a b es k).2 ∧ Hid (Below w9.heap.size w9 wr ∧ OwnP wr w9.heap.size ov (sx (stt f a b es k).1))) (fun _ _ iv _ => es.length - (intOf iv).toNat)
          case atStart => exact ⟨0, rfl, by omega, rfl, Lib.hid ⟨Below.refl _ _, OwnP.nil _ _⟩⟩
          case round =>
            obtain ⟨k, rfl, hkn, rfl, hrl⟩ := hrel
            by_cases hlt : k < es.length
            · obtain ⟨hb9, ho9⟩ := hrl.out
              have hs9 := HSS.out.below hb9
              obtain ⟨g5, e5, hc5⟩ := own_row hs9.ends k hlt
              subst e5
              have cx := hc5 k hlt
              have cr := hs9.rule.cell (i := 0) rfl
              have c60 := hs9.r6.cell (i := 0) rfl
              have c61 := hs9.r6.cell (i := 1) rfl
              have c70 := hs9.r7.cell (i := 0) rfl
              have c71 := hs9.r7.cell (i := 1) rfl
              have cA := hs9.rA.cell (rowF_get (f := fA) hlt)
              have cB := hs9.rB.cell (rowF_get (f := fB) hlt)
              have cC := hs9.rC.cell (rowF_get (f := fC) hlt)
              have cD := hs9.rD.cell (rowF_get (f := fD) hlt)
              have dA : decide (0 < fA k) = hasB a es[k] := by rw [← cA_has, HE1.out.1 k hlt]
              have dC : decide (0 < fC k) = hasB b es[k] := by rw [← cA_has, HE2.out.1 k hlt]
              have dB : ∀ h2 : k + 1 < es.length, decide (0 < fB k) = segB a es[k] es[k + 1] := fun h2 => by rw [← cB_seg HE.out.1.1 (fun s hs => (HIB.out.1 s hs).2.1) h2, HE1.out.2 k hlt]
              have dD : ∀ h2 : k + 1 < es.length, decide (0 < fD k) = segB b es[k] es[k + 1] := fun h2 => by rw [← cB_seg HE.out.1.1 (fun s hs => (HIB.out.2 s hs).2.1) h2, HE2.out.2 k hlt]
              have hst := stt_succ f a b es k hlt
              have hln := stt_len f a b es k hkn
              have hop := stt_open f a b es k hkn
              unfold evt sstep at hst
              simp only at hst
              generalize hass : hasB a es[k] = ha1 at *
              generalize hbss : hasB b es[k] = hb1 at *
              clear hass hbss hc5 hrl
              obtain ⟨Ao, co, rfl⟩ := ho9.rd.len
              rw [sx_len (stt f a b es k).1] at ho9 ⊢
              generalize stt f a b es k = st at *
              obtain ⟨out, op⟩ := st
              simp only at *
              by_cases h2 : k + 1 < es.length
              · have dB2 := dB h2
                have dD2 := dD h2
                rw [dif_pos h2] at hst
                generalize segB a es[k] es[k + 1] = sa at *
                generalize segB b es[k] es[k + 1] = sb at *
                clear dB dD
                have hd : decide ((k : Int) + 1 < es.length) = true := by simp; omega
                have hw : IntKind.i64.wrap ((k : Int) + 1) = (k : Int) + 1 := by simp [IntKind.wrap, IntKind.bits, IntKind.signed]; omega
                go_wp2
                go_quiet (exact HKQ.out _ _ _ _)
                clear dB2 dD2 hd hw
                generalize f sa sb = bh at *
                refine gen_world (fun W => Stat w W fn w2.heap.size es.length g1 g2 g3 g4 m6 m7 (Value.slice (some { block := g5, off := 0 }) es.length cap5) es fA fB fC fD ∧ Below w9.heap.size w9 W ∧ OwnP W w9.heap.size (.slice Ao out.length co) (sx out)) ⟨hs9.below (below_drewN (Below.refl _ _) _), below_drewN hb9 _, ho9.below (below_drewN (Below.refl _ _) _)⟩ ?_
                clear hs9 hb9 ho9 cr c60 c61 c70 c71 cA cB cC cD
                intro W hs9
                have HO := Lib.hid hs9
                obtain ⟨hs9, hb9, ho9⟩ := hs9
                cases op with
                | true =>
                  have HST := Lib.hid (show stt f a b es (k + 1) = (setHi out es[k], bh) by rw [hst]; rfl)
                  have hne := hop rfl
                  clear hst hop
                  obtain ⟨go, cgo, e1, hgo, _, _, hps⟩ := ho9.form (fun e => hne (List.map_eq_nil_iff.1 e))
                  injection e1 with e1 _ _
                  subst e1
                  have hpos := List.length_pos_iff.2 hne
                  obtain ⟨m, hm⟩ : ∃ m, out.length = m + 1 := ⟨out.length - 1, by omega⟩
                  have hmx : m < (sx out).length := by rw [sx_len]; omega
                  have cS := hps.wt m hmx
                  rw [Nat.zero_add] at cS
                  have fS := ho9.unfrozen (m * 2 + 1)
                  have hset := ho9.set' m hmx (R es[k])
                  have hsx : (sx out).set m (((sx out)[m]'hmx).1, R es[k]) = sx (setHi out es[k]) := by rw [sx_setHi out es[k] hne]; congr 1 <;> simp [hm]
                  rw [hsx] at hset
                  have H3 := Lib.hid (And.intro (hb9.setCell (p := ⟨go, m * 2 + 1, none⟩) hgo (.string (bs (R es[k])))) hset)
                  rw [hm] at H3 ⊢
                  generalize bs (sx out)[m].2 = bx at *
                  clear hsx hset hps hs9 hb9 ho9 HO hpos hmx hne dA dC
                  go_wp2
                  go_roundw
                  case rel => exact ⟨k + 1, by simp, by omega, by rw [HST.out], by rw [HST.out]; exact H3⟩
                  case measure => simp [intOf]; omega
                | false =>
                  have hst := hst
                  have HLN := Lib.hid hln
                  have cr := hs9.rule.cell (i := 0) rfl
                  have c60 := hs9.r6.cell (i := 0) rfl
                  have c70 := hs9.r7.cell (i := 0) rfl
                  have cA := hs9.rA.cell (rowF_get (f := fA) hlt)
                  have cC := hs9.rC.cell (rowF_get (f := fC) hlt)
                  cases bh with
                  | true =>
                    have HST := Lib.hid (show stt f a b es (k + 1) = (out ++ [(es[k], es[k])], true) by rw [hst]; simp)
                    clear hst hop hs9 hb9 ho9
                    go_wp2
                    go_quiet (fail)
                    refine gen_world (fun W => Stat w W fn w2.heap.size es.length g1 g2 g3 g4 m6 m7 (Value.slice (some { block := g5, off := 0 }) es.length cap5) es fA fB fC fD ∧ Below w9.heap.size w9 W ∧ OwnP W w9.heap.size (.slice Ao out.length co) (sx out)) ⟨HO.out.1.below (below_drewN (Below.refl _ _) _), below_drewN HO.out.2.1 _, HO.out.2.2.below (below_drewN (Below.refl _ _) _)⟩ ?_
                    clear HO cr c60 c70 cA cC
                    intro W HO
                    have HO := Lib.hid HO
                    go_wp2_with (at_builtin; refine wpList_app_any rfl (.tmp 138) (.tmp 142) rfl rfl rfl (OwnP.alloc HO.out.2.2 _) (RdP.new _ (sx [(es[k], es[k])]) _ _ rfl rfl) (by have h1 := HO.out.2.1.size; simp; omega) (by have h1 := HLN.out; rw [sx_len, sx_len]; simp only [List.length_cons, List.length_nil]; omega) ?_; intro v3 w3 ho3 hg3)
                    have hb3 := below_ownP (HO.out.2.1.alloc HO.out.2.1.size _) (OwnP.alloc HO.out.2.2 _) hg3 (Nat.le_refl _)
                    rw [← sx_append] at ho3
                    have H3 := Lib.hid (And.intro hb3 ho3)
                    clear hb3 ho3 hg3
                    go_wp2
                    go_roundw
                    case rel => exact ⟨k + 1, by simp, by omega, by rw [HST.out], by rw [HST.out]; exact H3⟩
                    case measure => simp [intOf]; omega
                  | false =>
                    generalize hah : f ha1 hb1 = ah at *
                    have HAH := Lib.hid hah
                    clear hs9 hb9 ho9 hah hop
                    go_wp2
                    go_quiet (exact HKQ.out _ _ _ _)
                    refine gen_world (fun W => Stat w W fn w2.heap.size es.length g1 g2 g3 g4 m6 m7 (Value.slice (some { block := g5, off := 0 }) es.length cap5) es fA fB fC fD ∧ Below w9.heap.size w9 W ∧ OwnP W w9.heap.size (.slice Ao out.length co) (sx out)) ⟨HO.out.1.below (below_drewN (Below.refl _ _) _), below_drewN HO.out.2.1 _, HO.out.2.2.below (below_drewN (Below.refl _ _) _)⟩ ?_
                    clear HO cr c60 c70 cA cC
                    intro W HO
                    have HO := Lib.hid HO
                    rw [HAH.out]
                    clear HAH dA dC
                    cases ah with
                    | true =>
                      have HST := Lib.hid (show stt f a b es (k + 1) = (out ++ [(es[k], es[k])], false) by rw [hst]; simp)
                      clear hst
                      go_wp2_with (at_builtin; refine wpList_app_any rfl (.tmp 138) (.tmp 142) rfl rfl rfl (OwnP.alloc HO.out.2.2 _) (RdP.new _ (sx [(es[k], es[k])]) _ _ rfl rfl) (by have h1 := HO.out.2.1.size; simp; omega) (by have h1 := HLN.out; rw [sx_len, sx_len]; simp only [List.length_cons, List.length_nil]; omega) ?_; intro v3 w3 ho3 hg3)
                      have hb3 := below_ownP (HO.out.2.1.alloc HO.out.2.1.size _) (OwnP.alloc HO.out.2.2 _) hg3 (Nat.le_refl _)
                      rw [← sx_append] at ho3
                      have H3 := Lib.hid (And.intro hb3 ho3)
                      clear hb3 ho3 hg3
                      go_wp2
                      go_roundw
                      case rel => exact ⟨k + 1, by simp, by omega, by rw [HST.out], by rw [HST.out]; exact H3⟩
                      case measure => simp [intOf]; omega
                    | false =>
                      have HST := Lib.hid (show stt f a b es (k + 1) = (out, false) by rw [hst]; simp)
                      clear hst
                      go_wp2
                      go_roundw
                      case rel => exact ⟨k + 1, by simp, by omega, by rw [HST.out], by rw [HST.out]; exact Lib.hid HO.out.2⟩
                      case measure => simp [intOf]; omega
              · rw [dif_neg h2] at hst
                clear dB dD
                have hd : decide ((k : Int) + 1 < es.length) = false := by simp; omega
                have hw : IntKind.i64.wrap ((k : Int) + 1) = (k : Int) + 1 := by simp [IntKind.wrap, IntKind.bits, IntKind.signed]; omega
                go_wp2
                go_quiet (fail)
                clear hd hw
                refine gen_world (fun W => Stat w W fn w2.heap.size es.length g1 g2 g3 g4 m6 m7 (Value.slice (some { block := g5, off := 0 }) es.length cap5) es fA fB fC fD ∧ Below w9.heap.size w9 W ∧ OwnP W w9.heap.size (.slice Ao out.length co) (sx out)) ⟨hs9.below (below_drewN (Below.refl _ _) _), below_drewN hb9 _, ho9.below (below_drewN (Below.refl _ _) _)⟩ ?_
                clear hs9 hb9 ho9 cr c60 c61 c70 c71 cA cB cC cD
                intro W hs9
                have HO := Lib.hid hs9
                obtain ⟨hs9, hb9, ho9⟩ := hs9
                cases op with
                | true =>
                  have HST := Lib.hid (show stt f a b es (k + 1) = (setHi out es[k], false) by rw [hst]; rfl)
                  have hne := hop rfl
                  clear hst hop
                  obtain ⟨go, cgo, e1, hgo, _, _, hps⟩ := ho9.form (fun e => hne (List.map_eq_nil_iff.1 e))
                  injection e1 with e1 _ _
                  subst e1
                  have hpos := List.length_pos_iff.2 hne
                  obtain ⟨m, hm⟩ : ∃ m, out.length = m + 1 := ⟨out.length - 1, by omega⟩
                  have hmx : m < (sx out).length := by rw [sx_len]; omega
                  have cS := hps.wt m hmx
                  rw [Nat.zero_add] at cS
                  have fS := ho9.unfrozen (m * 2 + 1)
                  have hset := ho9.set' m hmx (R es[k])
                  have hsx : (sx out).set m (((sx out)[m]'hmx).1, R es[k]) = sx (setHi out es[k]) := by rw [sx_setHi out es[k] hne]; congr 1 <;> simp [hm]
                  rw [hsx] at hset
                  have H3 := Lib.hid (And.intro (hb9.setCell (p := ⟨go, m * 2 + 1, none⟩) hgo (.string (bs (R es[k])))) hset)
                  rw [hm] at H3 ⊢
                  generalize bs (sx out)[m].2 = bx at *
                  clear hsx hset hps hs9 hb9 ho9 HO hpos hmx hne dA dC
                  go_wp2
                  go_roundw
                  case rel => exact ⟨k + 1, by simp, by omega, by rw [HST.out], by rw [HST.out]; exact H3⟩
                  case measure => simp [intOf]; omega
                | false =>
                  have hst := hst
                  have HLN := Lib.hid hln
                  have cr := hs9.rule.cell (i := 0) rfl
                  have c60 := hs9.r6.cell (i := 0) rfl
                  have c70 := hs9.r7.cell (i := 0) rfl
                  have cA := hs9.rA.cell (rowF_get (f := fA) hlt)
                  have cC := hs9.rC.cell (rowF_get (f := fC) hlt)
                  generalize hah : f ha1 hb1 = ah at *
                  have HAH := Lib.hid hah
                  clear hs9 hb9 ho9 hah hop
                  go_wp2
                  go_quiet (exact HKQ.out _ _ _ _)
                  refine gen_world (fun W => Stat w W fn w2.heap.size es.length g1 g2 g3 g4 m6 m7 (Value.slice (some { block := g5, off := 0 }) es.length cap5) es fA fB fC fD ∧ Below w9.heap.size w9 W ∧ OwnP W w9.heap.size (.slice Ao out.length co) (sx out)) ⟨HO.out.1.below (below_drewN (Below.refl _ _) _), below_drewN HO.out.2.1 _, HO.out.2.2.below (below_drewN (Below.refl _ _) _)⟩ ?_
                  clear HO cr c60 c70 cA cC
                  intro W HO
                  have HO := Lib.hid HO
                  rw [HAH.out]
                  clear HAH dA dC
                  cases ah with
                  | true =>
                    have HST := Lib.hid (show stt f a b es (k + 1) = (out ++ [(es[k], es[k])], false) by rw [hst]; simp)
                    clear hst
                    go_wp2_with (at_builtin; refine wpList_app_any rfl (.tmp 138) (.tmp 142) rfl rfl rfl (OwnP.alloc HO.out.2.2 _) (RdP.new _ (sx [(es[k], es[k])]) _ _ rfl rfl) (by have h1 := HO.out.2.1.size; simp; omega) (by have h1 := HLN.out; rw [sx_len, sx_len]; simp only [List.length_cons, List.length_nil]; omega) ?_; intro v3 w3 ho3 hg3)
                    have hb3 := below_ownP (HO.out.2.1.alloc HO.out.2.1.size _) (OwnP.alloc HO.out.2.2 _) hg3 (Nat.le_refl _)
                    rw [← sx_append] at ho3
                    have H3 := Lib.hid (And.intro hb3 ho3)
                    clear hb3 ho3 hg3
                    go_wp2
                    go_roundw
                    case rel => exact ⟨k + 1, by simp, by omega, by rw [HST.out], by rw [HST.out]; exact H3⟩
                    case measure => simp [intOf]; omega
                  | false =>
                    have HST := Lib.hid (show stt f a b es (k + 1) = (out, false) by rw [hst]; simp)
                    clear hst
                    go_wp2
                    go_roundw
                    case rel => exact ⟨k + 1, by simp, by omega, by rw [HST.out], by rw [HST.out]; exact Lib.hid HO.out.2⟩
                    case measure => simp [intOf]; omega
            · obtain rfl : k = es.length := by omega
              have hln := stt_len f a b es es.length (Nat.le_refl _)
              have hend := stt_end f a b es
              obtain ⟨hb9, ho9⟩ := hrl.out
              obtain ⟨Ao, co, rfl⟩ := ho9.rd.len
              have hFIN : CmbP (comb f a b (endsZ l)) w (.returned (.tuple #[.slice Ao (sx (stt f a b es es.length).1).length co, .int .i64 0])) wr := by
                refine ⟨_, rfl, ?_, (HSS.out.below hb9).bel⟩
                rw [← HE.out.2, ← hend]
                exact ownsRow_base ho9 HSS.out.bel.size
              have HFIN := Lib.hid hFIN
              have hd : decide ((((sx (stt f a b es es.length).1).length : Nat) : Int) > 256) = false := decide_eq_false (by rw [sx_len]; omega)
              clear hrl hb9 ho9 hFIN hend hln
              generalize (sx (stt f a b es es.length).1).length = no at *
              go_wp2
              go_ret2
              exact HFIN.out
end W
end Go.Proofs.YtpjaoapnangccaaGreatDoor
