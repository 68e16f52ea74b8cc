/-
  Chapter 5: the reference's 'VerifyMost' (printed by wip/vmost.py).
  Chapter 5's laws: 'Few' of the reference.
  Chapter 5's laws: a call of the program and one of the reference return the same number.
-/
import Derived.Test.YtkkccppfaecajaaGreatDoorKQ
section
namespace Go.Proofs.YtkkccppfaecajaaGreatDoor
open Go Go.RowKit Go.Deep Go.Sort Go.Shelf
namespace W
open M
attribute [local go_sem] bs_size bs_toList bs_get bs_extract bs_append bs_lit0 bs_lit1 lit1_bs
set_option maxHeartbeats 4000000
set_option maxRecDepth 20000
theorem rvm_bad1 (n : Int) (vl vg vp vq : Value) (V : List UInt8) (l : List BT) (w : World) (hl : RdB w vl l) (hw : Wire l) (hc : chk5 n l ≠ 0) :
    Calls Tryz.prog 15 #[.int .i64 n, vl, .agg #[vg, .string (bs V), vp, vq]] w (Ret w (.int .i64 ((chk5 n l : Nat) : Int))) := by
  have hb : Below w.heap.size w (w.alloc (.cells #[vg, .string (bs V), vp, vq] 39 (0, 0))) := (Below.refl _ _).alloc (Nat.le_refl _) _
  have HC := Lib.hid (rcheck5 n vl l _ (hl.below hb) hw.1 hw.2)
  have HB := Lib.hid hb
  have hz : (((chk5 n l : Nat) : Int) != 0) = true := by simp; exact hc
  clear hl hw hc hb
  generalize ((chk5 n l : Nat) : Int) = c at *
  go_enter Tryz.func15, Tryz.ntmps15
  go_wp2_with fail
  refine (HC.out).mono ?_
  rintro e w1 ⟨rfl, hb1⟩
  go_wp2
  go_ret
  exact Ret.of rfl (bel_to HB.out hb1)

theorem rvm_bad2 (n : Int) (vl vg vp vq : Value) (V : List UInt8) (G P Q : List (List UInt8)) (l : List BT) (w : World) (hl : RdB w vl l) (hw : Wire l) (h0 : chk5 n l = 0)
    (h1 : RdT w vg G) (h2 : RdT w vp P) (h3 : RdT w vq Q) (t1 : Shp vg) (t2 : Shp vp) (t3 : Shp vq) (s1 : ∀ q ∈ G, q.length ≤ 90000) (s2 : ∀ q ∈ P, q.length ≤ 90000) (s3 : ∀ q ∈ Q, q.length ≤ 90000) (s4 : V.length ≤ 90000) (n1 : G.length ≤ 100000) (n2 : P.length ≤ 100000) (n3 : Q.length ≤ 100000) (hc : chkOp n l.length G V P Q ≠ 0) :
    Calls Tryz.prog 15 #[.int .i64 n, vl, .agg #[vg, .string (bs V), vp, vq]] w (Ret w (.int .i64 ((chkOp n l.length G V P Q : Nat) : Int))) := by
  have hb : Below w.heap.size w (w.alloc (.cells #[vg, .string (bs V), vp, vq] 39 (0, 0))) := (Below.refl _ _).alloc (Nat.le_refl _) _
  have hr : Row (w.alloc (.cells #[vg, .string (bs V), vp, vq] 39 (0, 0))) w.heap.size 39 [vg, .string (bs V), vp, vq] := rnw
  have hk := rcheck5 n vl l _ (hl.below hb) hw.1 hw.2
  rw [h0] at hk
  have HC := Lib.hid hk
  have hnu := fun v W (hv : RdT W v (G ++ [V] ++ P ++ Q)) => rnumbers v (G ++ [V] ++ P ++ Q) W hv (fun q hq => by
    simp only [List.mem_append, List.mem_singleton] at hq
    rcases hq with ((hq | hq) | hq) | hq
    · exact s1 q hq
    · rw [hq]; exact s4
    · exact s2 q hq
    · exact s3 q hq) (by simp only [List.length_append, List.length_cons, List.length_nil]; omega)
  have HNU := Lib.hid hnu
  have HB := Lib.hid hb
  have HRW0 := Lib.hid hr
  have HG := Lib.hid h1
  have HP := Lib.hid h2
  have HQ := Lib.hid h3
  have HSH := Lib.hid (And.intro t1 (And.intro t2 t3))
  obtain ⟨Al, cl, rfl⟩ := hl.len
  obtain ⟨Ag, cg, rfl⟩ := h1.len
  obtain ⟨Ap, cp, rfl⟩ := h2.len
  obtain ⟨Aq, cq, rfl⟩ := h3.len
  unfold chkOp at *
  clear hl hw h0 h1 h2 h3 s1 s2 s3 hk hb hr hnu t1 t2 t3
  by_cases ha : (G.length : Int) ≠ n
  · rw [if_pos ha] at hc ⊢
    have hd : ((G.length : Int) != n) = true := by simp; exact ha
    clear HNU ha hc
    go_enter Tryz.func15, Tryz.ntmps15
    go_wp2_with fail
    refine (HC.out).mono ?_
    rintro e w1 ⟨rfl, hb1⟩
    have hr1 := HRW0.out.below' hb1
    have q0 := hr1.cell (i := 0) rfl
    have q2 := hr1.cell (i := 2) rfl
    have q3 := hr1.cell (i := 3) rfl
    clear hr1
    go_wp2
    go_ret
    exact Ret.of rfl (bel_to HB.out hb1)
  rw [if_neg ha] at hc ⊢
  have hd : ((G.length : Int) != n) = false := by simpa using ha
  by_cases hp : (P.length : Int) ≠ n
  · rw [if_pos hp] at hc ⊢
    have he : ((P.length : Int) != n) = true := by simp; exact hp
    clear HNU ha hc hp
    go_enter Tryz.func15, Tryz.ntmps15
    go_wp2_with fail
    refine (HC.out).mono ?_
    rintro e w1 ⟨rfl, hb1⟩
    have hr1 := HRW0.out.below' hb1
    have q0 := hr1.cell (i := 0) rfl
    have q2 := hr1.cell (i := 2) rfl
    have q3 := hr1.cell (i := 3) rfl
    clear hr1
    go_wp2
    go_ret
    exact Ret.of rfl (bel_to HB.out hb1)
  rw [if_neg hp] at hc ⊢
  have he : ((P.length : Int) != n) = false := by simpa using hp
  by_cases hq : (Q.length : Int) ≠ (l.length : Int)
  · rw [if_pos hq] at hc ⊢
    have hf : ((Q.length : Int) != (l.length : Int)) = true := by simp at hq ⊢; exact hq
    clear HNU ha hc hp hq
    go_enter Tryz.func15, Tryz.ntmps15
    go_wp2_with fail
    refine (HC.out).mono ?_
    rintro e w1 ⟨rfl, hb1⟩
    have hr1 := HRW0.out.below' hb1
    have q0 := hr1.cell (i := 0) rfl
    have q2 := hr1.cell (i := 2) rfl
    have q3 := hr1.cell (i := 3) rfl
    clear hr1
    go_wp2
    go_ret
    exact Ret.of rfl (bel_to HB.out hb1)
  · rw [if_neg hq] at hc ⊢
    have hf : ((Q.length : Int) != (l.length : Int)) = false := by simpa using hq
    have hz : (((chkRs (G ++ [V] ++ P ++ Q) : Nat) : Int) != 0) = true := by simp only [bne_iff_ne, ne_eq]; omega
    clear ha hc hp hq
    generalize ((chkRs (G ++ [V] ++ P ++ Q) : Nat) : Int) = c at *
    obtain ⟨ng, hng⟩ : ∃ ng, ng = G.length := ⟨_, rfl⟩
    obtain ⟨np, hnp⟩ : ∃ np, np = P.length := ⟨_, rfl⟩
    obtain ⟨nq, hnq⟩ : ∃ nq, nq = Q.length := ⟨_, rfl⟩
    rw [← hng] at HC HG HRW0 HB HSH hd ⊢
    rw [← hnp] at HC HP HRW0 HB HSH he ⊢
    rw [← hnq] at HC HQ HRW0 HB HSH hf ⊢
    clear hng hnp hnq
    obtain ⟨bx0, hbx⟩ : ∃ bx0, bx0 = w.heap.size := ⟨_, rfl⟩
    go_enter Tryz.func15, Tryz.ntmps15
    go_wp2_with fail
    refine (HC.out).mono ?_
    rintro e w1 ⟨rfl, hb1⟩
    have HBW := Lib.hid (bel_to HB.out hb1)
    have HRW := Lib.hid (HRW0.out.below' hb1)
    rw [← hbx] at HRW ⊢
    clear hb1 hbx HRW0 HC
    obtain ⟨W, hW⟩ : ∃ z, z = w1 := ⟨w1, rfl⟩
    rw [← hW] at HBW HRW ⊢
    clear hW
    have hr1 := HRW.out
    have q0 := hr1.cell (i := 0) rfl
    have q2 := hr1.cell (i := 2) rfl
    have q3 := hr1.cell (i := 3) rfl
    clear hr1
    have HCX := Lib.hid (fun E (hE : Below W.heap.size W E) => (by
      have h := HRW.out.below' hE
      exact ⟨h.cell rfl, h.cell rfl, h.cell rfl, h.cell rfl⟩ : E.cell? ⟨bx0, 0, none⟩ = some (.slice Ag ng cg) ∧ E.cell? ⟨bx0, 1, none⟩ = some (.string (bs V)) ∧ E.cell? ⟨bx0, 2, none⟩ = some (.slice Ap np cp) ∧ E.cell? ⟨bx0, 3, none⟩ = some (.slice Aq nq cq)))
    have HS1 := Lib.hid (fun E (hE : Below W.heap.size W E) => SrcT.of (HG.out.below (bel_to HBW.out hE)) HSH.out.1)
    have HS2 := Lib.hid (fun E (hE : Below W.heap.size W E) => SrcT.of (HP.out.below (bel_to HBW.out hE)) HSH.out.2.1)
    have HS3 := Lib.hid (fun E (hE : Below W.heap.size W E) => SrcT.of (HQ.out.below (bel_to HBW.out hE)) HSH.out.2.2)
    have HSZ := Lib.hid (show W.heap.size + 1 ≤ ((W.alloc (Obj.cells #[.string (bs V)] 34 (0, 0))).alloc (Obj.cells #[] 34 (0, 0))).drew.heap.size ∧ True from ⟨by show W.heap.size + 1 ≤ ((W.alloc (Obj.cells #[.string (bs V)] 34 (0, 0))).alloc (Obj.cells #[] 34 (0, 0))).heap.size; rw [World.size_alloc, World.size_alloc]; omega, trivial⟩)
    have HNE := Lib.hid (show some W.heap.size ≠ (Value.slice (some ⟨W.heap.size + 1, 0, none⟩) 0 0).ownBlock ∧ some (W.heap.size + 1) ≠ (Value.slice (some ⟨W.heap.size, 0, none⟩) 0 0).ownBlock from ⟨by simp [Value.ownBlock], by simp [Value.ownBlock]⟩)
    have HLN : Hid ((0 : Nat) + G.length ≤ 1000000000 ∧ G.length + 1 ≤ 1000000000 ∧ (G ++ [V]).length + P.length ≤ 1000000000 ∧ (G ++ [V] ++ P).length + Q.length ≤ 1000000000) := Lib.hid (by
      simp only [List.length_append, List.length_cons, List.length_nil]
      omega)
    go_wp2_with fail
    clear q0 q2 q3
    go_region_held3 (fun E => E.cell? ⟨bx0, 0, none⟩ = some (.slice Ag ng cg) ∧ E.cell? ⟨bx0, 1, none⟩ = some (.string (bs V)) ∧ E.cell? ⟨bx0, 2, none⟩ = some (.slice Ap np cp) ∧ E.cell? ⟨bx0, 3, none⟩ = some (.slice Aq nq cq))
      (first | exact HCX.out _ HA4.out.2 | exact HCX.out _ HA3.out.2 | exact HCX.out _ HA2.out.2 | exact HCX.out _ (HA1.out.2.alloc HA1.out.2.size _) | exact HCX.out _ HA1.out.2 | exact HCX.out _ (Below.refl _ _) | exact HCX.out _ (RowKit.Below.drew (Below.refl W.heap.size W)) | exact HCX.out _ (RowKit.Below.drew ((Below.refl W.heap.size W).alloc (Nat.le_refl _) (Obj.cells #[.string (bs V)] 34 (0, 0)))) | exact HCX.out _ (RowKit.Below.drew ((Below.refl W.heap.size W).alloc (Nat.le_refl _) (Obj.cells #[] 34 (0, 0)))) | exact HCX.out _ (RowKit.Below.drew (((Below.refl W.heap.size W).alloc (Nat.le_refl _) (Obj.cells #[.string (bs V)] 34 (0, 0))).alloc ((Below.refl W.heap.size W).alloc (Nat.le_refl _) (Obj.cells #[.string (bs V)] 34 (0, 0))).size (Obj.cells #[] 34 (0, 0)))) | exact HCX.out _ (RowKit.Below.drew (((Below.refl W.heap.size W).alloc (Nat.le_refl _) (Obj.cells #[] 34 (0, 0))).alloc ((Below.refl W.heap.size W).alloc (Nat.le_refl _) (Obj.cells #[] 34 (0, 0))).size (Obj.cells #[.string (bs V)] 34 (0, 0)))))
      (first
      | (refine step_app_t (v := .slice (some ⟨W.heap.size, 0, none⟩) 0 0) rfl (.tmp 39) (.tmp 41) rfl rfl rfl ((OwnS.fresh W W.heap.size W.heap.size rfl (Nat.le_refl _)).drew) (HS1.out _ (RowKit.Below.drew ((Below.refl W.heap.size W).alloc (Nat.le_refl _) (Obj.cells #[] 34 (0, 0))))) (RowKit.Below.drew ((Below.refl W.heap.size W).alloc (Nat.le_refl _) (Obj.cells #[] 34 (0, 0)))).size HLN.out.1 ?_; intro v1 w1 ho1 hg1; have HA1 := Lib.hid (show ApS W w1 v1 G from ⟨ho1, app_belS ((OwnS.fresh W W.heap.size W.heap.size rfl (Nat.le_refl _)).drew) (RowKit.Below.drew ((Below.refl W.heap.size W).alloc (Nat.le_refl _) (Obj.cells #[] 34 (0, 0)))) (Nat.le_refl _) hg1⟩))
      | (refine step_app_t (v := .slice (some ⟨W.heap.size + 1, 0, none⟩) 0 0) rfl (.tmp 39) (.tmp 41) rfl rfl rfl ((OwnS.fresh (W.alloc (Obj.cells #[.string (bs V)] 34 (0, 0))) (W.heap.size + 1) (W.heap.size + 1) (World.size_alloc _ _).symm (Nat.le_refl _)).drew) (HS1.out _ (RowKit.Below.drew (((Below.refl W.heap.size W).alloc (Nat.le_refl _) (Obj.cells #[.string (bs V)] 34 (0, 0))).alloc ((Below.refl W.heap.size W).alloc (Nat.le_refl _) (Obj.cells #[.string (bs V)] 34 (0, 0))).size (Obj.cells #[] 34 (0, 0))))) HSZ.out.1 HLN.out.1 ?_; intro v1 w1 ho1 hg1; have HA1 := Lib.hid (show ApS W w1 v1 G from ⟨ownsRow_base ho1 (Nat.le_succ _), app_belS ((OwnS.fresh (W.alloc (Obj.cells #[.string (bs V)] 34 (0, 0))) (W.heap.size + 1) (W.heap.size + 1) (World.size_alloc _ _).symm (Nat.le_refl _)).drew) (RowKit.Below.drew (((Below.refl W.heap.size W).alloc (Nat.le_refl _) (Obj.cells #[.string (bs V)] 34 (0, 0))).alloc ((Below.refl W.heap.size W).alloc (Nat.le_refl _) (Obj.cells #[.string (bs V)] 34 (0, 0))).size (Obj.cells #[] 34 (0, 0)))) (Nat.le_succ _) hg1⟩); have HXR := Lib.hid (SrcT.row (row_grown (show Row ((W.alloc (Obj.cells #[.string (bs V)] 34 (0, 0))).alloc (Obj.cells #[] 34 (0, 0))).drew W.heap.size 34 [.string (bs V)] from Row.alloc rnw _) hg1 HNE.out.1)))
      | (refine step_app_t (v := .slice (some ⟨W.heap.size, 0, none⟩) 0 0) rfl (.tmp 39) (.tmp 41) rfl rfl rfl ((OwnS.alloc (OwnS.fresh W W.heap.size W.heap.size rfl (Nat.le_refl _)) (Obj.cells #[.string (bs V)] 34 (0, 0))).drew) (HS1.out _ (RowKit.Below.drew (((Below.refl W.heap.size W).alloc (Nat.le_refl _) (Obj.cells #[] 34 (0, 0))).alloc ((Below.refl W.heap.size W).alloc (Nat.le_refl _) (Obj.cells #[] 34 (0, 0))).size (Obj.cells #[.string (bs V)] 34 (0, 0))))) (RowKit.Below.drew (((Below.refl W.heap.size W).alloc (Nat.le_refl _) (Obj.cells #[] 34 (0, 0))).alloc ((Below.refl W.heap.size W).alloc (Nat.le_refl _) (Obj.cells #[] 34 (0, 0))).size (Obj.cells #[.string (bs V)] 34 (0, 0)))).size HLN.out.1 ?_; intro v1 w1 ho1 hg1; have HA1 := Lib.hid (show ApS W w1 v1 G from ⟨ho1, app_belS ((OwnS.alloc (OwnS.fresh W W.heap.size W.heap.size rfl (Nat.le_refl _)) (Obj.cells #[.string (bs V)] 34 (0, 0))).drew) (RowKit.Below.drew (((Below.refl W.heap.size W).alloc (Nat.le_refl _) (Obj.cells #[] 34 (0, 0))).alloc ((Below.refl W.heap.size W).alloc (Nat.le_refl _) (Obj.cells #[] 34 (0, 0))).size (Obj.cells #[.string (bs V)] 34 (0, 0)))) (Nat.le_refl _) hg1⟩); have HXR := Lib.hid (SrcT.row (row_grown (show Row ((W.alloc (Obj.cells #[] 34 (0, 0))).alloc (Obj.cells #[.string (bs V)] 34 (0, 0))).drew (W.heap.size + 1) 34 [.string (bs V)] from rnew0 (World.size_alloc _ _).symm) hg1 HNE.out.2)))
      | (refine step_app_t rfl (.tmp 42) (.tmp 45) rfl rfl rfl HA1.out.1 HXR.out HA1.out.2.size HLN.out.2.1 ?_; intro v2 w2 ho2 hg2; have HA2 := Lib.hid (show ApS W w2 v2 (G ++ [V]) from ⟨ho2, app_belS HA1.out.1 HA1.out.2 (Nat.le_refl _) hg2⟩))
      | (refine step_app_t rfl (.tmp 42) (.tmp 45) rfl rfl rfl (OwnS.alloc HA1.out.1 _) (SrcT.new w1 V) (HA1.out.2.alloc HA1.out.2.size _).size HLN.out.2.1 ?_; intro v2 w2 ho2 hg2; have HA2 := Lib.hid (show ApS W w2 v2 (G ++ [V]) from ⟨ho2, app_belS (OwnS.alloc HA1.out.1 _) (HA1.out.2.alloc HA1.out.2.size _) (Nat.le_refl _) hg2⟩))
      | (refine step_app_t rfl (.tmp 46) (.tmp 48) rfl rfl rfl HA2.out.1 (HS2.out _ HA2.out.2) HA2.out.2.size HLN.out.2.2.1 ?_; intro v3 w3 ho3 hg3; have HA3 := Lib.hid (show ApS W w3 v3 (G ++ [V] ++ P) from ⟨ho3, app_belS HA2.out.1 HA2.out.2 (Nat.le_refl _) hg3⟩))
      | (refine step_app_t rfl (.tmp 49) (.tmp 51) rfl rfl rfl HA3.out.1 (HS3.out _ HA3.out.2) HA3.out.2.size HLN.out.2.2.2 ?_; intro v4 w4 ho4 hg4; have HA4 := Lib.hid (show ApS W w4 v4 (G ++ [V] ++ P ++ Q) from ⟨ho4, app_belS HA3.out.1 HA3.out.2 (Nat.le_refl _) hg4⟩)))
    all_goals
      have HA := HA4
      clear HCX HS1 HS2 HS3 HSZ HNE HLN HA1 HA2 HA3 HA4
      go_wp2_with fail
      refine (HNU.out v4 w4 HA.out.1.rd).mono ?_
      rintro e w5 ⟨rfl, hb5⟩
      have HF := Lib.hid (bel_to HBW.out (HA.out.2.trans (hb5.mono HA.out.2.size)))
      clear hb5 HA
      go_wp2
      go_ret
      exact Ret.of rfl HF.out
theorem rvm_ok (n : Nat) (vl vg vp vq : Value) (l : List BQ) (goal pt q : List Rat) (v : Rat) (w : World) (hl : RdB w vl (bx l)) (hw : Wire (bx l)) (h0 : chk5 (n : Int) (bx l) = 0) (h1 : RdT w vg (rx goal)) (h2 : RdT w vp (rx pt)) (h3 : RdT w vq (rx q)) (t1 : Shp vg) (t2 : Shp vp) (t3 : Shp vq)
    (hn1 : 1 ≤ n) (hn : n ≤ 8) (hr : RightB n l) (l1 : goal.length = n) (l2 : pt.length = n) (l3 : q.length = l.length) (b1 : ∀ x ∈ goal, Bq 8 x) (b2 : ∀ x ∈ pt, Bq 8 x) (b3 : ∀ x ∈ q, Bq 8 x) (bv : Bq 24 v) (hll : l.length ≤ 20) :
    Calls Tryz.prog 15 #[.int .i64 (n : Int), vl, .agg #[vg, .string (bs (R v)), vp, vq]] w (Ret w (.int .i64 (vmV l n goal v pt q))) := by
  have hb : Below w.heap.size w (w.alloc (.cells #[vg, .string (bs (R v)), vp, vq] 39 (0, 0))) := (Below.refl _ _).alloc (Nat.le_refl _) _
  have hrw : Row (w.alloc (.cells #[vg, .string (bs (R v)), vp, vq] 39 (0, 0))) w.heap.size 39 [vg, .string (bs (R v)), vp, vq] := rnw
  have hk := rcheck5 n vl (bx l) _ (hl.below hb) hw.1 hw.2
  rw [h0] at hk
  have HC := Lib.hid hk
  have hvl : (R v).length ≤ 90000 := by have := bv.R_len (by decide); omega
  have hz0 : chkRs (rx goal ++ [R v] ++ rx pt ++ rx q) = 0 := by
    rw [chkRs_append, chkRs_append, chkRs_append, chk_rx b1, if_pos rfl, chkRs, bv.chk (by decide), if_pos rfl, chkRs, if_pos rfl, chk_rx b2, if_pos rfl, chk_rx b3]
  have hnu := fun v2 W (hv : RdT W v2 (rx goal ++ [R v] ++ rx pt ++ rx q)) => rnumbers v2 (rx goal ++ [R v] ++ rx pt ++ rx q) W hv (fun x hx => by
    simp only [List.mem_append, List.mem_singleton] at hx
    rcases hx with ((hx | hx) | hx) | hx
    · exact rx_small b1 x hx
    · rw [hx]; exact hvl
    · exact rx_small b2 x hx
    · exact rx_small b3 x hx) (by simp only [List.length_append, List.length_cons, List.length_nil, rx_len]; omega)
  rw [hz0] at hnu
  have HNU := Lib.hid hnu
  have HWE := Lib.hid (fun W (hW : Below w.heap.size w W) => rweighted vl vq l q n W (hl.below hW) (h3.below hW) hn1 hn hr l3 (fun x hx => (b3 x hx).mono (by decide)) hll)
  have HSM := Lib.hid (fun x W (hW : Below w.heap.size w W) (hx : RdT W x (rx ((List.range n).map (wrow l q l.length)))) => rsame5 x vg ((List.range n).map (wrow l q l.length)) goal W hx (h1.below hW) (by simp; omega))
  have HKP := Lib.hid (fun W (hW : Below w.heap.size w W) => rkeepsAll vl vp l pt n W (hl.below hW) (h2.below hW) hn hr l2 (fun x hx => (b2 x hx).mono (by decide)) (by omega))
  have HVA := Lib.hid (fun W (hW : Below w.heap.size w W) => rvalue vg vp goal pt W (h1.below hW) (h2.below hW) (by omega) (by omega) (fun x hx => (b1 x hx).mono (by decide)) (fun x hx => (b2 x hx).mono (by decide)))
  rw [l1] at HVA
  have HB := Lib.hid hb
  have HRW0 := Lib.hid hrw
  have hrv2 := R_beq (dotP goal pt n) v
  have hrv3 := R_beq (wmost l q l.length) v
  have HG := Lib.hid h1
  have HP := Lib.hid h2
  have HQ := Lib.hid h3
  have HSH := Lib.hid (And.intro t1 (And.intro t2 t3))
  obtain ⟨Al, cl, rfl⟩ := hl.len
  obtain ⟨Ag, cg, rfl⟩ := h1.len
  obtain ⟨Ap, cp, rfl⟩ := h2.len
  obtain ⟨Aq, cq, rfl⟩ := h3.len
  obtain ⟨rv, hrv⟩ : ∃ rv, rv = vmV l n goal v pt q := ⟨_, rfl⟩
  rw [← hrv]
  have HRV := Lib.hid (show rv = if (l.all fun b => keepsB b pt) = true ∧ wok q l.length = true ∧ dotP goal pt n = v ∧ wmost l q l.length = v ∧ (List.range n).map (wrow l q l.length) = goal then 0 else 15 from hrv)
  have HR2 := Lib.hid hrv2
  have HR3 := Lib.hid hrv3
  have hlg : (rx goal).length = n := by rw [rx_len, l1]
  have hlp : (rx pt).length = n := by rw [rx_len, l2]
  have hlq : (rx q).length = l.length := by rw [rx_len, l3]
  have hlb := bx_len l
  rw [hlb] at HC HWE HKP ⊢
  obtain ⟨ng, hng⟩ : ∃ ng, ng = (rx goal).length := ⟨_, rfl⟩
  obtain ⟨np, hnp⟩ : ∃ np, np = (rx pt).length := ⟨_, rfl⟩
  obtain ⟨nq, hnq⟩ : ∃ nq, nq = (rx q).length := ⟨_, rfl⟩
  rw [← hng] at HC HG HRW0 HB HSH HSM HVA ⊢
  rw [← hnp] at HC HP HRW0 HB HSH HKP HVA ⊢
  rw [← hnq] at HC HQ HRW0 HB HSH HWE ⊢
  have hd : ((ng : Int) != (n : Int)) = false := by rw [hng, hlg]; simp
  have he : ((np : Int) != (n : Int)) = false := by rw [hnp, hlp]; simp
  have hf : ((nq : Int) != (l.length : Int)) = false := by rw [hnq, hlq]; simp
  have hN8 : (rx goal).length ≤ 100000 ∧ (rx pt).length ≤ 100000 ∧ (rx q).length ≤ 100000 := by omega
  obtain ⟨G, hG⟩ : ∃ G, G = rx goal := ⟨_, rfl⟩
  obtain ⟨P, hP⟩ : ∃ P, P = rx pt := ⟨_, rfl⟩
  obtain ⟨Q, hQ⟩ : ∃ Q, Q = rx q := ⟨_, rfl⟩
  obtain ⟨V, hV⟩ : ∃ V, V = R v := ⟨_, rfl⟩
  rw [← hG] at HG HNU hN8
  rw [← hP] at HP HNU hN8
  rw [← hQ] at HQ HNU hN8
  rw [← hV] at HNU HRW0 HB HC HR2 HR3 ⊢
  obtain ⟨n1, n2, n3⟩ := hN8
  clear hl hw h0 h1 h2 h3 hr b1 b2 b3 bv hk hb hrw hvl hz0 hnu hrv hrv2 hrv3 l1 l2 l3 hlg hlp hlq hlb hng hnp hnq hG hP hQ hV t1 t2 t3
  obtain ⟨bx0, hbx⟩ : ∃ bx0, bx0 = w.heap.size := ⟨_, rfl⟩
  go_enter Tryz.func15, Tryz.ntmps15
  · go_wp2_with fail
    refine (HC.out).mono ?_
    rintro e w1 ⟨rfl, hb1⟩
    have HBW := Lib.hid (bel_to HB.out hb1)
    have HRW := Lib.hid (HRW0.out.below' hb1)
    rw [← hbx] at HRW ⊢
    clear hb1 hbx HRW0 HC
    obtain ⟨W, hW⟩ : ∃ z, z = w1 := ⟨w1, rfl⟩
    rw [← hW] at HBW HRW ⊢
    clear hW
    have hr1 := HRW.out
    have q0 := hr1.cell (i := 0) rfl
    have q2 := hr1.cell (i := 2) rfl
    have q3 := hr1.cell (i := 3) rfl
    clear hr1
    have HCX := Lib.hid (fun E (hE : Below W.heap.size W E) => (by
      have h := HRW.out.below' hE
      exact ⟨h.cell rfl, h.cell rfl, h.cell rfl, h.cell rfl⟩ : E.cell? ⟨bx0, 0, none⟩ = some (.slice Ag ng cg) ∧ E.cell? ⟨bx0, 1, none⟩ = some (.string (bs V)) ∧ E.cell? ⟨bx0, 2, none⟩ = some (.slice Ap np cp) ∧ E.cell? ⟨bx0, 3, none⟩ = some (.slice Aq nq cq)))
    have HS1 := Lib.hid (fun E (hE : Below W.heap.size W E) => SrcT.of (HG.out.below (bel_to HBW.out hE)) HSH.out.1)
    have HS2 := Lib.hid (fun E (hE : Below W.heap.size W E) => SrcT.of (HP.out.below (bel_to HBW.out hE)) HSH.out.2.1)
    have HS3 := Lib.hid (fun E (hE : Below W.heap.size W E) => SrcT.of (HQ.out.below (bel_to HBW.out hE)) HSH.out.2.2)
    have HSZ := Lib.hid (show W.heap.size + 1 ≤ ((W.alloc (Obj.cells #[.string (bs V)] 34 (0, 0))).alloc (Obj.cells #[] 34 (0, 0))).drew.heap.size ∧ True from ⟨by show W.heap.size + 1 ≤ ((W.alloc (Obj.cells #[.string (bs V)] 34 (0, 0))).alloc (Obj.cells #[] 34 (0, 0))).heap.size; rw [World.size_alloc, World.size_alloc]; omega, trivial⟩)
    have HNE := Lib.hid (show some W.heap.size ≠ (Value.slice (some ⟨W.heap.size + 1, 0, none⟩) 0 0).ownBlock ∧ some (W.heap.size + 1) ≠ (Value.slice (some ⟨W.heap.size, 0, none⟩) 0 0).ownBlock from ⟨by simp [Value.ownBlock], by simp [Value.ownBlock]⟩)
    have HLN : Hid ((0 : Nat) + G.length ≤ 1000000000 ∧ G.length + 1 ≤ 1000000000 ∧ (G ++ [V]).length + P.length ≤ 1000000000 ∧ (G ++ [V] ++ P).length + Q.length ≤ 1000000000) := Lib.hid (by
      simp only [List.length_append, List.length_cons, List.length_nil]
      omega)
    go_wp2_with fail
    clear q0 q2 q3
    go_region_held3 (fun E => E.cell? ⟨bx0, 0, none⟩ = some (.slice Ag ng cg) ∧ E.cell? ⟨bx0, 1, none⟩ = some (.string (bs V)) ∧ E.cell? ⟨bx0, 2, none⟩ = some (.slice Ap np cp) ∧ E.cell? ⟨bx0, 3, none⟩ = some (.slice Aq nq cq))
      (first | exact HCX.out _ HA4.out.2 | exact HCX.out _ HA3.out.2 | exact HCX.out _ HA2.out.2 | exact HCX.out _ (HA1.out.2.alloc HA1.out.2.size _) | exact HCX.out _ HA1.out.2 | exact HCX.out _ (Below.refl _ _) | exact HCX.out _ (RowKit.Below.drew (Below.refl W.heap.size W)) | exact HCX.out _ (RowKit.Below.drew ((Below.refl W.heap.size W).alloc (Nat.le_refl _) (Obj.cells #[.string (bs V)] 34 (0, 0)))) | exact HCX.out _ (RowKit.Below.drew ((Below.refl W.heap.size W).alloc (Nat.le_refl _) (Obj.cells #[] 34 (0, 0)))) | exact HCX.out _ (RowKit.Below.drew (((Below.refl W.heap.size W).alloc (Nat.le_refl _) (Obj.cells #[.string (bs V)] 34 (0, 0))).alloc ((Below.refl W.heap.size W).alloc (Nat.le_refl _) (Obj.cells #[.string (bs V)] 34 (0, 0))).size (Obj.cells #[] 34 (0, 0)))) | exact HCX.out _ (RowKit.Below.drew (((Below.refl W.heap.size W).alloc (Nat.le_refl _) (Obj.cells #[] 34 (0, 0))).alloc ((Below.refl W.heap.size W).alloc (Nat.le_refl _) (Obj.cells #[] 34 (0, 0))).size (Obj.cells #[.string (bs V)] 34 (0, 0)))))
      (first
      | (refine step_app_t (v := .slice (some ⟨W.heap.size, 0, none⟩) 0 0) rfl (.tmp 39) (.tmp 41) rfl rfl rfl ((OwnS.fresh W W.heap.size W.heap.size rfl (Nat.le_refl _)).drew) (HS1.out _ (RowKit.Below.drew ((Below.refl W.heap.size W).alloc (Nat.le_refl _) (Obj.cells #[] 34 (0, 0))))) (RowKit.Below.drew ((Below.refl W.heap.size W).alloc (Nat.le_refl _) (Obj.cells #[] 34 (0, 0)))).size HLN.out.1 ?_; intro v1 w1 ho1 hg1; have HA1 := Lib.hid (show ApS W w1 v1 G from ⟨ho1, app_belS ((OwnS.fresh W W.heap.size W.heap.size rfl (Nat.le_refl _)).drew) (RowKit.Below.drew ((Below.refl W.heap.size W).alloc (Nat.le_refl _) (Obj.cells #[] 34 (0, 0)))) (Nat.le_refl _) hg1⟩))
      | (refine step_app_t (v := .slice (some ⟨W.heap.size + 1, 0, none⟩) 0 0) rfl (.tmp 39) (.tmp 41) rfl rfl rfl ((OwnS.fresh (W.alloc (Obj.cells #[.string (bs V)] 34 (0, 0))) (W.heap.size + 1) (W.heap.size + 1) (World.size_alloc _ _).symm (Nat.le_refl _)).drew) (HS1.out _ (RowKit.Below.drew (((Below.refl W.heap.size W).alloc (Nat.le_refl _) (Obj.cells #[.string (bs V)] 34 (0, 0))).alloc ((Below.refl W.heap.size W).alloc (Nat.le_refl _) (Obj.cells #[.string (bs V)] 34 (0, 0))).size (Obj.cells #[] 34 (0, 0))))) HSZ.out.1 HLN.out.1 ?_; intro v1 w1 ho1 hg1; have HA1 := Lib.hid (show ApS W w1 v1 G from ⟨ownsRow_base ho1 (Nat.le_succ _), app_belS ((OwnS.fresh (W.alloc (Obj.cells #[.string (bs V)] 34 (0, 0))) (W.heap.size + 1) (W.heap.size + 1) (World.size_alloc _ _).symm (Nat.le_refl _)).drew) (RowKit.Below.drew (((Below.refl W.heap.size W).alloc (Nat.le_refl _) (Obj.cells #[.string (bs V)] 34 (0, 0))).alloc ((Below.refl W.heap.size W).alloc (Nat.le_refl _) (Obj.cells #[.string (bs V)] 34 (0, 0))).size (Obj.cells #[] 34 (0, 0)))) (Nat.le_succ _) hg1⟩); have HXR := Lib.hid (SrcT.row (row_grown (show Row ((W.alloc (Obj.cells #[.string (bs V)] 34 (0, 0))).alloc (Obj.cells #[] 34 (0, 0))).drew W.heap.size 34 [.string (bs V)] from Row.alloc rnw _) hg1 HNE.out.1)))
      | (refine step_app_t (v := .slice (some ⟨W.heap.size, 0, none⟩) 0 0) rfl (.tmp 39) (.tmp 41) rfl rfl rfl ((OwnS.alloc (OwnS.fresh W W.heap.size W.heap.size rfl (Nat.le_refl _)) (Obj.cells #[.string (bs V)] 34 (0, 0))).drew) (HS1.out _ (RowKit.Below.drew (((Below.refl W.heap.size W).alloc (Nat.le_refl _) (Obj.cells #[] 34 (0, 0))).alloc ((Below.refl W.heap.size W).alloc (Nat.le_refl _) (Obj.cells #[] 34 (0, 0))).size (Obj.cells #[.string (bs V)] 34 (0, 0))))) (RowKit.Below.drew (((Below.refl W.heap.size W).alloc (Nat.le_refl _) (Obj.cells #[] 34 (0, 0))).alloc ((Below.refl W.heap.size W).alloc (Nat.le_refl _) (Obj.cells #[] 34 (0, 0))).size (Obj.cells #[.string (bs V)] 34 (0, 0)))).size HLN.out.1 ?_; intro v1 w1 ho1 hg1; have HA1 := Lib.hid (show ApS W w1 v1 G from ⟨ho1, app_belS ((OwnS.alloc (OwnS.fresh W W.heap.size W.heap.size rfl (Nat.le_refl _)) (Obj.cells #[.string (bs V)] 34 (0, 0))).drew) (RowKit.Below.drew (((Below.refl W.heap.size W).alloc (Nat.le_refl _) (Obj.cells #[] 34 (0, 0))).alloc ((Below.refl W.heap.size W).alloc (Nat.le_refl _) (Obj.cells #[] 34 (0, 0))).size (Obj.cells #[.string (bs V)] 34 (0, 0)))) (Nat.le_refl _) hg1⟩); have HXR := Lib.hid (SrcT.row (row_grown (show Row ((W.alloc (Obj.cells #[] 34 (0, 0))).alloc (Obj.cells #[.string (bs V)] 34 (0, 0))).drew (W.heap.size + 1) 34 [.string (bs V)] from rnew0 (World.size_alloc _ _).symm) hg1 HNE.out.2)))
      | (refine step_app_t rfl (.tmp 42) (.tmp 45) rfl rfl rfl HA1.out.1 HXR.out HA1.out.2.size HLN.out.2.1 ?_; intro v2 w2 ho2 hg2; have HA2 := Lib.hid (show ApS W w2 v2 (G ++ [V]) from ⟨ho2, app_belS HA1.out.1 HA1.out.2 (Nat.le_refl _) hg2⟩))
      | (refine step_app_t rfl (.tmp 42) (.tmp 45) rfl rfl rfl (OwnS.alloc HA1.out.1 _) (SrcT.new w1 V) (HA1.out.2.alloc HA1.out.2.size _).size HLN.out.2.1 ?_; intro v2 w2 ho2 hg2; have HA2 := Lib.hid (show ApS W w2 v2 (G ++ [V]) from ⟨ho2, app_belS (OwnS.alloc HA1.out.1 _) (HA1.out.2.alloc HA1.out.2.size _) (Nat.le_refl _) hg2⟩))
      | (refine step_app_t rfl (.tmp 46) (.tmp 48) rfl rfl rfl HA2.out.1 (HS2.out _ HA2.out.2) HA2.out.2.size HLN.out.2.2.1 ?_; intro v3 w3 ho3 hg3; have HA3 := Lib.hid (show ApS W w3 v3 (G ++ [V] ++ P) from ⟨ho3, app_belS HA2.out.1 HA2.out.2 (Nat.le_refl _) hg3⟩))
      | (refine step_app_t rfl (.tmp 49) (.tmp 51) rfl rfl rfl HA3.out.1 (HS3.out _ HA3.out.2) HA3.out.2.size HLN.out.2.2.2 ?_; intro v4 w4 ho4 hg4; have HA4 := Lib.hid (show ApS W w4 v4 (G ++ [V] ++ P ++ Q) from ⟨ho4, app_belS HA3.out.1 HA3.out.2 (Nat.le_refl _) hg4⟩)))
    all_goals
      have HA := HA4
      clear HCX HS1 HS2 HS3 HSZ HNE HLN HA1 HA2 HA3 HA4
      go_wp2_with fail
      refine (HNU.out v4 w4 HA.out.1.rd).mono ?_
      rintro e w5 ⟨rfl, hb5⟩
      have HB5 := Lib.hid (And.intro ((HRW.out.below' HA.out.2).below' hb5) (bel_to HBW.out (HA.out.2.trans (hb5.mono HA.out.2.size))))
      clear hb5 HA HNU HBW HRW
      have q3 := HB5.out.1.cell (i := 3) rfl
      have HW5 := Lib.hid (HWE.out w5 HB5.out.2)
      clear HWE
      go_wp2_with fail
      refine HW5.out.mono ?_
      rintro e w6 ⟨g, cap, rfl, hst⟩
      have HS6 := Lib.hid (And.intro (HB5.out.1.below' hst.bel) (bel_to HB5.out.2 hst.bel))
      have hrd : RdT w6 (.slice (some ⟨g, 0, none⟩) n cap) (rx ((List.range n).map (wrow l q l.length))) := by
        have h := hst.own.rd
        rw [mapR_len, mapR_rx] at h
        exact h
      have HSX := Lib.hid (fun W (hW : Below w6.heap.size w6 W) => HSM.out _ W (bel_to HS6.out.2 hW) (hrd.below hW))
      have k1 := reg_of (w := w6) (fun W hW => HSX.out W hW)
      have k3 := reg_of (w := w6) (fun W hW => HKP.out W (bel_to HS6.out.2 hW))
      have k4 := reg_of (w := w6) (fun W hW => HVA.out W (bel_to HS6.out.2 hW))
      have m0 := cell_regrown (HS6.out.1.cell (i := 0) rfl)
      have m1 := cell_regrown (HS6.out.1.cell (i := 1) rfl)
      have m2 := cell_regrown (HS6.out.1.cell (i := 2) rfl)
      have e1 : ∀ args w, (callFunc 32 args).run Tryz.prog w = .ok (.enter 32 args) w := enters_of Tryz.func32 (by kernel_rfl) rfl
      have e2 : ∀ args w, (callFunc 24 args).run Tryz.prog w = .ok (.enter 24 args) w := enters_of Tryz.func24 (by kernel_rfl) rfl
      have e3 : ∀ args w, (callFunc 33 args).run Tryz.prog w = .ok (.enter 33 args) w := enters_of Tryz.func33 (by kernel_rfl) rfl
      have hA := HR2.out
      have hB := HR3.out
      clear hst HW5 q3 HB5 hrd HSM HSX HKP HVA HR2 HR3
      cases hwk : wok q l.length with
      | false =>
        rw [hwk] at HRV
        obtain rfl : rv = 15 := by rw [HRV.out, if_neg (by simp)]
        clear k1 k3 k4 HRV hwk hA hB
        generalize R (wmost l q l.length) = sb at *
        go_wp2_with fail
        refine wp_region_quiet_below (by kernel_rfl) (by kernel_rfl) ?_
        repeat (go_big_quiet_step (fail))
        refine wpQuiet_nil ?_
        intro W6 hw'
        have hb6 : Below w6.heap.size w6 W6 := by obtain ⟨p, e⟩ := hw'; rw [e]; exact below_regrown w6 p.d p.os
        clear hw'
        have HF := Lib.hid (bel_to HS6.out.2 hb6)
        clear m0 m1 m2 e1 e2 e3 hb6
        go_wp2
        go_ret
        exact Ret.of rfl HF.out
      | true =>
        rw [hwk] at HRV
        clear hwk
        by_cases h3 : (List.range n).map (wrow l q l.length) = goal
        · rw [decide_eq_true h3] at k1
          by_cases h2 : wmost l q l.length = v
          · rw [decide_eq_true h2] at hB
            cases hke : (l.all fun b => keepsB b pt) with
            | false =>
              rw [hke] at k3 HRV
              obtain rfl : rv = 15 := by rw [HRV.out, if_neg (by simp)]
              clear k4 HRV hke h2 h3 hA
              generalize R (wmost l q l.length) = sb at *
              go_wp2_with fail
              refine wp_region_quiet_below (by kernel_rfl) (by kernel_rfl) ?_
              repeat (go_big_quiet_step (fail))
              go_big_quiet_step (exact k1 _ _)
              repeat (go_big_quiet_step (fail))
              go_big_quiet_step (exact k3 _ _)
              repeat (go_big_quiet_step (fail))
              refine wpQuiet_nil ?_
              intro W6 hw'
              have hb6 : Below w6.heap.size w6 W6 := by obtain ⟨p, e⟩ := hw'; rw [e]; exact below_regrown w6 p.d p.os
              clear hw'
              have HF := Lib.hid (bel_to HS6.out.2 hb6)
              clear m0 m1 m2 e1 e2 e3 hb6
              go_wp2
              go_ret
              exact Ret.of rfl HF.out
            | true =>
              rw [hke] at k3 HRV
              clear hke
              by_cases h1 : dotP goal pt n = v
              · rw [decide_eq_true h1] at hA
                obtain rfl : rv = 0 := by rw [HRV.out, if_pos (by simp [h1, h2, h3])]
                clear HRV h1 h2 h3
                generalize R (wmost l q l.length) = sb at *
                generalize R (dotP goal pt n) = sa at *
                go_wp2_with fail
                refine wp_region_quiet_below (by kernel_rfl) (by kernel_rfl) ?_
                repeat (go_big_quiet_step (fail))
                go_big_quiet_step (exact k1 _ _)
                repeat (go_big_quiet_step (fail))
                go_big_quiet_step (exact k3 _ _)
                repeat (go_big_quiet_step (fail))
                go_big_quiet_step (exact k4 _ _)
                repeat (go_big_quiet_step (fail))
                refine wpQuiet_nil ?_
                intro W6 hw'
                have hb6 : Below w6.heap.size w6 W6 := by obtain ⟨p, e⟩ := hw'; rw [e]; exact below_regrown w6 p.d p.os
                clear hw'
                have HF := Lib.hid (bel_to HS6.out.2 hb6)
                clear m0 m1 m2 e1 e2 e3 hb6
                go_wp2
                go_ret
                exact Ret.of rfl HF.out
              · rw [decide_eq_false h1] at hA
                obtain rfl : rv = 15 := by rw [HRV.out, if_neg (fun e => h1 e.2.2.1)]
                clear HRV h1 h2 h3
                generalize R (wmost l q l.length) = sb at *
                generalize R (dotP goal pt n) = sa at *
                go_wp2_with fail
                refine wp_region_quiet_below (by kernel_rfl) (by kernel_rfl) ?_
                repeat (go_big_quiet_step (fail))
                go_big_quiet_step (exact k1 _ _)
                repeat (go_big_quiet_step (fail))
                go_big_quiet_step (exact k3 _ _)
                repeat (go_big_quiet_step (fail))
                go_big_quiet_step (exact k4 _ _)
                repeat (go_big_quiet_step (fail))
                refine wpQuiet_nil ?_
                intro W6 hw'
                have hb6 : Below w6.heap.size w6 W6 := by obtain ⟨p, e⟩ := hw'; rw [e]; exact below_regrown w6 p.d p.os
                clear hw'
                have HF := Lib.hid (bel_to HS6.out.2 hb6)
                clear m0 m1 m2 e1 e2 e3 hb6
                go_wp2
                go_ret
                exact Ret.of rfl HF.out
          · rw [decide_eq_false h2] at hB
            obtain rfl : rv = 15 := by rw [HRV.out, if_neg (fun e => h2 e.2.2.2.1)]
            clear k3 k4 HRV h2 h3 hA
            generalize R (wmost l q l.length) = sb at *
            go_wp2_with fail
            refine wp_region_quiet_below (by kernel_rfl) (by kernel_rfl) ?_
            repeat (go_big_quiet_step (fail))
            go_big_quiet_step (exact k1 _ _)
            repeat (go_big_quiet_step (fail))
            refine wpQuiet_nil ?_
            intro W6 hw'
            have hb6 : Below w6.heap.size w6 W6 := by obtain ⟨p, e⟩ := hw'; rw [e]; exact below_regrown w6 p.d p.os
            clear hw'
            have HF := Lib.hid (bel_to HS6.out.2 hb6)
            clear m0 m1 m2 e1 e2 e3 hb6
            go_wp2
            go_ret
            exact Ret.of rfl HF.out
        · rw [decide_eq_false h3] at k1
          obtain rfl : rv = 15 := by rw [HRV.out, if_neg (fun e => h3 e.2.2.2.2)]
          clear k3 k4 HRV h3 hA hB
          generalize R (wmost l q l.length) = sb at *
          go_wp2_with fail
          refine wp_region_quiet_below (by kernel_rfl) (by kernel_rfl) ?_
          repeat (go_big_quiet_step (fail))
          go_big_quiet_step (exact k1 _ _)
          repeat (go_big_quiet_step (fail))
          refine wpQuiet_nil ?_
          intro W6 hw'
          have hb6 : Below w6.heap.size w6 W6 := by obtain ⟨p, e⟩ := hw'; rw [e]; exact below_regrown w6 p.d p.os
          clear hw'
          have HF := Lib.hid (bel_to HS6.out.2 hb6)
          clear m0 m1 m2 e1 e2 e3 hb6
          go_wp2
          go_ret
          exact Ret.of rfl HF.out
end W
end Go.Proofs.YtkkccppfaecajaaGreatDoor
end
section
namespace Go.Proofs.YtkkccppfaecajaaGreatDoor
open Go Go.RowKit Go.Deep Go.Sort
namespace W
open M
def fewOne (b : BT) : Bool := decide (b.1.length ≤ 20) && short5 b.1 && short5 [b.2]
def fewN (n : Int) (m : Nat) : Bool := decide (n < 1 ∨ 8 < n ∨ n = 2 ∨ (m ≤ 7 ∧ n ≤ 3) ∨ m ≤ 1)
def few5 (n : Int) (l : List BT) : Bool := if 9 < l.length then decide (64 < l.length ∧ l.length ≤ 100) else (l.all fewOne && fewN n l.length)
attribute [local go_sem] bs_size bs_toList bs_get bs_extract bs_append bs_lit0 bs_lit1 lit1_bs
set_option maxHeartbeats 1000000
set_option maxRecDepth 20000
theorem rfew (n : Int) (vl : Value) (l : List BT) (w : World) (hl : RdB w vl l) (_ : l.length ≤ maxLen) (hs : ∀ b ∈ l, b.1.length ≤ maxLen ∧ (∀ p ∈ b.1, p.length ≤ maxLen) ∧ b.2.length ≤ maxLen) :
    Calls Tryz.prog 5 #[.int .i64 n, vl] w (Ret w (.bool (few5 n l))) := by
  obtain ⟨A, cap, rfl⟩ := hl.len
  unfold few5
  by_cases h9 : 9 < l.length
  · rw [if_pos h9]
    have hd : decide (9 < (l.length : Int)) = true := by simp; omega
    clear hl hs
    by_cases h64 : 64 < l.length
    · have he : decide (64 < (l.length : Int)) = true := by simp; omega
      by_cases h100 : l.length ≤ 100
      · have hf : decide ((l.length : Int) ≤ 100) = true := by simp; omega
        rw [decide_eq_true ⟨h64, h100⟩]
        go_enter Tryz.func5, Tryz.ntmps5
        go_wp2
        go_ret
        exact Ret.of rfl (Below.refl _ _)
      · have hf : decide ((l.length : Int) ≤ 100) = false := by simp; omega
        rw [decide_eq_false (fun h => h100 h.2)]
        go_enter Tryz.func5, Tryz.ntmps5
        go_wp2
        go_ret
        exact Ret.of rfl (Below.refl _ _)
    · have he : decide (64 < (l.length : Int)) = false := by simp; omega
      rw [decide_eq_false (fun h => h64 h.1)]
      go_enter Tryz.func5, Tryz.ntmps5
      go_wp2
      go_ret
      exact Ret.of rfl (Below.refl _ _)
  · rw [if_neg h9]
    have hd : decide (9 < (l.length : Int)) = false := by simp; omega
    have HW := Lib.hid hl
    have HM := Lib.hid (fun i (hi : i < l.length) => hs _ (List.getElem_mem hi))
    generalize hch : l.all fewOne = ch
    have HCH := Lib.hid hch
    clear hl hs hch
    go_enter Tryz.func5, Tryz.ntmps5
    go_wp2
    go_loopw [5] (fun iv wr => ∃ i : Nat, iv = .int .i64 (i : Int) ∧ i ≤ l.length ∧ Hid (l.all fewOne = (l.drop i).all fewOne) ∧ Below w.heap.size w wr) (fun iv _ => l.length - (intOf iv).toNat)
    case atStart => exact ⟨0, rfl, by omega, (rfl : l.all fewOne = (l.drop 0).all fewOne), Below.refl _ _⟩
    case round =>
      obtain ⟨i, rfl, hi, hk, hbw⟩ := hrel
      by_cases hlt : i < l.length
      · obtain ⟨b1, o1, rfl, hw⟩ := HW.out.row i hlt
        have hw2 := hw.below' hbw
        obtain ⟨u, cu, hu, _⟩ := hw2.row i hlt
        have cm := hw2.most i hlt
        have hk2 := hk.out
        rw [List.drop_eq_getElem_cons hlt, List.all_cons] at hk2
        have hlm := HM.out i hlt
        have hc1 := block_lt_of_cell cm
        clear hk hw hw2
        generalize l[i] = x at *
        obtain ⟨r, p⟩ := x
        simp only at hu cm hlm
        have HS1 := Lib.hid (fun W (hW : Below wr.heap.size wr W) => rshort5 u r W (hu.below hW) hlm.2.1 hlm.1)
        have HS2 := Lib.hid (fun W => rshort5 _ [p] _ (tnew (w := W) (p := p)) (fun q hq => by rw [List.mem_singleton.1 hq]; exact hlm.2.2) (by show (1 : Nat) ≤ maxLen; unfold maxLen; decide))
        obtain ⟨Au, cu2, rfl⟩ := hu.len
        have hf1 : fewOne (r, p) = (decide (r.length ≤ 20) && short5 r && short5 [p]) := rfl
        rw [hf1] at hk2
        clear hu hlm hf1
        by_cases h20 : r.length ≤ 20
        · rw [decide_eq_true h20, Bool.true_and] at hk2
          have he : decide (20 < (r.length : Int)) = false := by simp; omega
          cases hs1 : short5 r with
          | false =>
            rw [hs1] at hk2 HS1
            have HK := Lib.hid hk2
            clear hk2 hs1
            go_wp2_with fail
            refine (HS1.out _ (Below.refl _ _)).mono ?_
            rintro e w1 ⟨rfl, hb1⟩
            have hb1' := bel_to hbw hb1
            go_wp2
            go_ret
            exact Ret.of (by rw [← HCH.out, HK.out]; rfl) hb1'
          | true =>
            rw [hs1, Bool.true_and] at hk2
            rw [hs1] at HS1
            cases hs2 : short5 [p] with
            | false =>
              rw [hs2] at hk2 HS2
              have HK := Lib.hid hk2
              clear hk2 hs1 hs2
              go_wp2_with fail
              refine (HS1.out _ (Below.refl _ _)).mono ?_
              rintro e w1 ⟨rfl, hb1⟩
              have hb1' := bel_to hbw hb1
              have cm := (hb1.cell hc1).trans cm
              go_wp2_with fail
              refine (HS2.out _).mono ?_
              rintro e w2 ⟨rfl, hb2⟩
              have hb2' := Below.then hb1' (((Below.refl w1.heap.size w1).alloc (Nat.le_refl _) _).trans (hb2.mono (by rw [World.size_alloc]; omega)))
              go_wp2
              go_ret
              exact Ret.of (by rw [← HCH.out, HK.out]; rfl) hb2'
            | true =>
              rw [hs2, Bool.true_and] at hk2
              rw [hs2] at HS2
              have HK := Lib.hid hk2
              clear hk2 hs1 hs2
              go_wp2_with fail
              refine (HS1.out _ (Below.refl _ _)).mono ?_
              rintro e w1 ⟨rfl, hb1⟩
              have hb1' := bel_to hbw hb1
              have cm := (hb1.cell hc1).trans cm
              go_wp2_with fail
              refine (HS2.out _).mono ?_
              rintro e w2 ⟨rfl, hb2⟩
              have hb2' := Below.then hb1' (((Below.refl w1.heap.size w1).alloc (Nat.le_refl _) _).trans (hb2.mono (by rw [World.size_alloc]; omega)))
              go_wp2
              go_roundw
              case rel => exact ⟨i + 1, by go_num, by omega, HK, hb2'⟩
              case measure => simp [intOf]; omega
        · rw [decide_eq_false h20, Bool.false_and, Bool.false_and] at hk2
          have he : decide (20 < (r.length : Int)) = true := by simp; omega
          have HK := Lib.hid hk2
          clear hk2
          go_wp2
          go_ret
          exact Ret.of (by rw [← HCH.out, HK.out]; rfl) hbw
      · obtain rfl : i = l.length := by omega
        have hk2 := hk.out
        rw [List.drop_length] at hk2
        have HK := Lib.hid (show ch = true by rw [← HCH.out, hk2]; rfl)
        clear hk2 hk HW HM HCH
        have hfn : fewN n l.length = decide (n < 1 ∨ 8 < n ∨ n = 2 ∨ (l.length ≤ 7 ∧ n ≤ 3) ∨ l.length ≤ 1) := rfl
        have HF := Lib.hid hfn
        clear hfn
        generalize fewN n l.length = fn at *
        generalize l.length = m at *
        by_cases h1 : n < 1
        · have e1 : fn = true := by rw [HF.out]; exact decide_eq_true (by omega)
          subst e1
          go_wp2
          go_ret
          exact Ret.of (by first | rfl | (rw [HK.out]; rfl)) hbw
        · by_cases h8 : 8 < n
          · have e1 : fn = true := by rw [HF.out]; exact decide_eq_true (by omega)
            subst e1
            go_wp2
            go_ret
            exact Ret.of (by first | rfl | (rw [HK.out]; rfl)) hbw
          · by_cases h2 : n = 2
            · have e1 : fn = true := by rw [HF.out]; exact decide_eq_true (by omega)
              subst e1
              subst h2
              go_wp2
              go_ret
              exact Ret.of (by first | rfl | (rw [HK.out]; rfl)) hbw
            · have hn2 : (n == 2) = false := by simpa using h2
              by_cases h7 : m ≤ 7
              · have d7 : decide ((m : Int) ≤ 7) = true := by simp; omega
                by_cases h3 : n ≤ 3
                · have e1 : fn = true := by rw [HF.out]; exact decide_eq_true (by omega)
                  subst e1
                  go_wp2
                  go_ret
                  exact Ret.of (by first | rfl | (rw [HK.out]; rfl)) hbw
                · by_cases h11 : m ≤ 1
                  · have e1 : fn = true := by rw [HF.out]; exact decide_eq_true (by omega)
                    have d1 : decide ((m : Int) ≤ 1) = true := by simp; omega
                    subst e1
                    go_wp2
                    go_ret
                    exact Ret.of (by first | rfl | (rw [HK.out]; rfl)) hbw
                  · have e1 : fn = false := by rw [HF.out]; exact decide_eq_false (by omega)
                    have d1 : decide ((m : Int) ≤ 1) = false := by simp; omega
                    subst e1
                    go_wp2
                    go_ret
                    exact Ret.of (by first | rfl | (rw [HK.out]; rfl)) hbw
              · have d7 : decide ((m : Int) ≤ 7) = false := by simp; omega
                have e1 : fn = false := by rw [HF.out]; exact decide_eq_false (by omega)
                have d1 : decide ((m : Int) ≤ 1) = false := by simp; omega
                subst e1
                go_wp2
                go_ret
                exact Ret.of (by first | rfl | (rw [HK.out]; rfl)) hbw
end W
end Go.Proofs.YtkkccppfaecajaaGreatDoor
end
section
namespace Go.Proofs.YtkkccppfaecajaaGreatDoor
open Go Go.RowKit Go.Deep Go.Sort
namespace W
open M
theorem short5_len {l : List (List UInt8)} (h : short5 l = true) : (∀ p ∈ l, p.length ≤ 8) ∧ l.length ≤ 30 := by
  unfold short5 at h
  rw [Bool.and_eq_true, List.all_eq_true, decide_eq_true_eq] at h
  exact ⟨fun p hp => of_decide_eq_true (h.1 p hp), h.2⟩
theorem fewOne_len {b : BT} (h : fewOne b = true) : b.1.length ≤ 20 ∧ (∀ p ∈ b.1, p.length ≤ 8) ∧ b.2.length ≤ 8 := by
  unfold fewOne at h
  rw [Bool.and_eq_true, Bool.and_eq_true, decide_eq_true_eq] at h
  exact ⟨h.1.1, (short5_len h.1.2).1, (short5_len h.2).1 _ List.mem_cons_self⟩
theorem few_wire {n : Int} {l : List BT} (h : few5 n l = true) : Wire l := by
  unfold few5 at h
  unfold Wire
  by_cases h9 : 9 < l.length
  · rw [if_pos h9, decide_eq_true_eq] at h
    exact ⟨by unfold maxLen; omega, fun h2 => by omega⟩
  · rw [if_neg h9, Bool.and_eq_true, List.all_eq_true] at h
    refine ⟨by unfold maxLen; omega, fun _ b hb => ?_⟩
    have h1 := fewOne_len (h.1 b hb)
    exact ⟨by omega, fun q hq => by have := h1.2.1 q hq; omega, by omega⟩
theorem few_right {n : Int} {l : List BT} (h : few5 n l = true) (h0 : chk5 n l = 0) : ∃ (k : Nat) (zl : List BQ), n = (k : Int) ∧ 1 ≤ k ∧ k ≤ 8 ∧ l = bx zl ∧ RightB k zl ∧ zl.length ≤ 9 := by
  unfold chk5 at h0
  by_cases h1 : n < 1 ∨ 8 < n
  · rw [if_pos h1] at h0; cases h0
  · rw [if_neg h1] at h0
    by_cases h2 : 64 < l.length
    · rw [if_pos h2] at h0; cases h0
    · rw [if_neg h2] at h0
      unfold few5 at h
      by_cases h9 : 9 < l.length
      · rw [if_pos h9, decide_eq_true_eq] at h; omega
      · rw [if_neg h9, Bool.and_eq_true, List.all_eq_true] at h
        obtain ⟨k, rfl⟩ : ∃ k : Nat, n = (k : Int) := ⟨n.toNat, by omega⟩
        obtain ⟨zl, e, hz⟩ := bounds8 (fun b hb => (fewOne_len (h.1 b hb)).2) h0
        exact ⟨k, zl, rfl, by omega, by omega, e, hz, by rw [← bx_len zl, ← e]; omega⟩
theorem pt_right {m : Nat} {p : List (List UInt8)} (hs : short5 p = true) (h0 : chkPt (m : Int) p = 0) : ∃ zp : List Rat, p = rx zp ∧ zp.length = m ∧ (∀ x ∈ zp, Bq 8 x) ∧ chkRs p = 0 := by
  unfold chkPt at h0
  by_cases h1 : (p.length : Int) ≠ (m : Int)
  · rw [if_pos h1] at h0; cases h0
  · rw [if_neg h1] at h0
    obtain ⟨zp, e, hz⟩ := texts8 (short5_len hs).1 h0
    exact ⟨zp, e, by rw [← rx_len zp, ← e]; omega, hz, h0⟩
theorem text24 {p : List UInt8} (h8 : p.length ≤ 24) (h0 : chkR p = 0) : ∃ q, p = R q ∧ Bq 24 q := by
  have h1 := cutN_len p
  have h2 := cutD_len p
  have hs : shortB p = true := by
    unfold shortB
    rw [Bool.and_eq_true, decide_eq_true_iff, decide_eq_true_iff]
    exact ⟨by omega, by omega⟩
  obtain ⟨q, rfl, _⟩ := short_R hs h0
  clear h1 h2 hs h0
  unfold R at h8
  split at h8
  · rename_i e
    exact ⟨q, rfl, I_short h8 (by decide), by rw [e]; decide⟩
  · rw [List.length_append, List.length_cons] at h8
    refine ⟨q, rfl, I_short (by omega) (by decide), ?_⟩
    have := I_short (z := (q.den : Int)) (k := 24) (by omega) (by decide)
    rwa [Int.natAbs_natCast] at this
theorem op_right {n m : Nat} {G : List (List UInt8)} {V : List UInt8} {P Q : List (List UInt8)} (s1 : short5 G = true) (s2 : short5 P = true) (s3 : short5 Q = true) (s4 : V.length ≤ 24) (h0 : chkOp (n : Int) m G V P Q = 0) :
    ∃ (goal pt q : List Rat) (v : Rat), G = rx goal ∧ V = R v ∧ P = rx pt ∧ Q = rx q ∧ goal.length = n ∧ pt.length = n ∧ q.length = m ∧ (∀ x ∈ goal, Bq 8 x) ∧ (∀ x ∈ pt, Bq 8 x) ∧ (∀ x ∈ q, Bq 8 x) ∧ Bq 24 v := by
  unfold chkOp at h0
  by_cases h1 : (G.length : Int) ≠ (n : Int)
  · rw [if_pos h1] at h0; cases h0
  · rw [if_neg h1] at h0
    by_cases h2 : (P.length : Int) ≠ (n : Int)
    · rw [if_pos h2] at h0; cases h0
    · rw [if_neg h2] at h0
      by_cases h3 : (Q.length : Int) ≠ (m : Int)
      · rw [if_pos h3] at h0; cases h0
      · rw [if_neg h3, chkRs_append, chkRs_append, chkRs_append] at h0
        have c1 : chkRs G = 0 := by
          by_cases h : chkRs G = 0
          · exact h
          · simp only [h, if_false] at h0
        simp only [c1, if_true] at h0
        have c2 : chkR V = 0 := by
          by_cases h : chkR V = 0
          · exact h
          · simp only [chkRs, h, if_false] at h0
        simp only [chkRs, c2, if_true] at h0
        have c3 : chkRs P = 0 := by
          by_cases h : chkRs P = 0
          · exact h
          · simp only [h, if_false] at h0
        simp only [c3, if_true] at h0
        obtain ⟨g, e1, b1⟩ := texts8 (short5_len s1).1 c1
        obtain ⟨v, e2, b2⟩ := text24 s4 c2
        obtain ⟨p, e3, b3⟩ := texts8 (short5_len s2).1 c3
        obtain ⟨q, e4, b4⟩ := texts8 (short5_len s3).1 h0
        exact ⟨g, p, q, v, e1, e2, e3, e4, by rw [← rx_len g, ← e1]; omega, by rw [← rx_len p, ← e3]; omega, by rw [← rx_len q, ← e4]; omega, b1, b3, b4, b2⟩
/-- Two calls return the same number. -/
def Same5 (f g : Nat) (args : Array Value) (w : World) : Prop :=
  ∃ c : Int, (∀ W, Below w.heap.size w W → Calls Tryz.prog f args W (Ret W (.int .i64 c))) ∧ ∀ W, Below w.heap.size w W → Calls Tryz.prog g args W (Ret W (.int .i64 c))
theorem check_pair (n : Int) (vl : Value) (l : List BT) (w : World) (hg : Glob w) (hl : RdB w vl l) (hw : Wire l) : Same5 8 9 #[.int .i64 n, vl] w :=
  ⟨_, fun W hW => pcheck5 n vl l W (hg.of hW) (hl.below hW) hw.1 (fun h b hb => ⟨by have := (hw.2 h b hb).1; omega, (hw.2 h b hb).2.1, (hw.2 h b hb).2.2⟩), fun W hW => rcheck5 n vl l W (hl.below hW) hw.1 hw.2⟩
theorem small5 {l : List (List UInt8)} (h : short5 l = true) : ∀ q ∈ l, q.length ≤ 90000 := fun q hq => by have := (short5_len h).1 q hq; omega
theorem verify_pair (n : Int) (vl vp : Value) (l : List BT) (p : List (List UInt8)) (w : World) (hg : Glob w) (hl : RdB w vl l) (hp : RdT w vp p) (hf : few5 n l = true) (hs : short5 p = true) :
    Same5 10 11 #[.int .i64 n, vl, vp] w := by
  have hw := few_wire hf
  have sp := small5 hs
  have np := (short5_len hs).2
  by_cases h0 : chk5 n l = 0
  · by_cases hc : chkPt n p = 0
    · obtain ⟨k, zl, rfl, k1, k8, rfl, hr, hzl⟩ := few_right hf h0
      obtain ⟨zp, rfl, hn, hq, hz⟩ := pt_right hs hc
      exact ⟨_, fun W hW => pverify_ok k vl vp zl zp W (hg.of hW) (hl.below hW) hw h0 (hp.below hW) k8 hr hn (fun x hx => (hq x hx).mono (by decide)) hz (by omega),
        fun W hW => rverify_ok k vl vp zl zp W (hl.below hW) hw h0 (hp.below hW) k8 hr hn (fun x hx => (hq x hx).mono (by decide)) hz (by omega)⟩
    · exact ⟨_, fun W hW => pverify_bad2 n vl vp l p W (hg.of hW) (hl.below hW) hw h0 (hp.below hW) sp (by omega) hc,
        fun W hW => rverify_bad2 n vl vp l p W (hl.below hW) hw h0 (hp.below hW) sp (by omega) hc⟩
  · exact ⟨_, fun W hW => pverify_bad1 n vl vp l W (hg.of hW) (hl.below hW) hw h0, fun W hW => rverify_bad1 n vl vp l W (hl.below hW) hw h0⟩
theorem refute_pair (n : Int) (vl vp : Value) (l : List BT) (p : List (List UInt8)) (w : World) (hg : Glob w) (hl : RdB w vl l) (hp : RdT w vp p) (hf : few5 n l = true) (hs : short5 p = true) :
    Same5 12 13 #[.int .i64 n, vl, vp] w := by
  have hw := few_wire hf
  have sp := small5 hs
  have np := (short5_len hs).2
  by_cases h0 : chk5 n l = 0
  · by_cases hc : chkPt (l.length : Int) p = 0
    · obtain ⟨k, zl, rfl, k1, k8, rfl, hr, hzl⟩ := few_right hf h0
      rw [bx_len] at hc
      obtain ⟨zp, rfl, hn, hq, hz⟩ := pt_right hs hc
      exact ⟨_, fun W hW => prefute_ok k vl vp zl zp W (hg.of hW) (hl.below hW) hw h0 (hp.below hW) k1 k8 hr hn (fun x hx => (hq x hx).mono (by decide)) (by omega),
        fun W hW => rrefute_ok k vl vp zl zp W (hl.below hW) hw h0 (hp.below hW) k1 k8 hr hn (fun x hx => (hq x hx).mono (by decide)) (by omega)⟩
    · exact ⟨_, fun W hW => prefute_bad2 n vl vp l p W (hg.of hW) (hl.below hW) hw h0 (hp.below hW) sp (by omega) hc,
        fun W hW => rrefute_bad2 n vl vp l p W (hl.below hW) hw h0 (hp.below hW) sp (by omega) hc⟩
  · exact ⟨_, fun W hW => prefute_bad1 n vl vp l W (hg.of hW) (hl.below hW) hw h0, fun W hW => rrefute_bad1 n vl vp l W (hl.below hW) hw h0⟩
theorem vm_pair (n : Int) (vl vg vp vq : Value) (V : List UInt8) (G P Q : List (List UInt8)) (l : List BT) (w : World) (hg : Glob w) (hl : RdB w vl l) (hf : few5 n l = true)
    (h1 : RdT w vg G) (h2 : RdT w vp P) (h3 : RdT w vq Q) (t1 : Shp vg) (t2 : Shp vp) (t3 : Shp vq) (s1 : short5 G = true) (s2 : short5 P = true) (s3 : short5 Q = true) (s4 : V.length ≤ 24) :
    Same5 14 15 #[.int .i64 n, vl, .agg #[vg, .string (bs V), vp, vq]] w := by
  have hw := few_wire hf
  have p1 := small5 s1
  have p2 := small5 s2
  have p3 := small5 s3
  have n1 := (short5_len s1).2
  have n2 := (short5_len s2).2
  have n3 := (short5_len s3).2
  by_cases h0 : chk5 n l = 0
  · by_cases hc : chkOp n l.length G V P Q = 0
    · obtain ⟨k, zl, rfl, k1, k8, rfl, hr, hzl⟩ := few_right hf h0
      rw [bx_len] at hc
      obtain ⟨goal, pt, q, v, rfl, rfl, rfl, rfl, l1, l2, l3, b1, b2, b3, bv⟩ := op_right s1 s2 s3 s4 hc
      exact ⟨_, fun W hW => pvm_ok k vl vg vp vq zl goal pt q v W (hg.of hW) (hl.below hW) hw h0 (h1.below hW) (h2.below hW) (h3.below hW) k1 k8 hr l1 l2 l3 b1 b2 b3 bv (by omega),
        fun W hW => rvm_ok k vl vg vp vq zl goal pt q v W (hl.below hW) hw h0 (h1.below hW) (h2.below hW) (h3.below hW) t1 t2 t3 k1 k8 hr l1 l2 l3 b1 b2 b3 bv (by omega)⟩
    · exact ⟨_, fun W hW => pvm_bad2 n vl vg vp vq V G P Q l W (hg.of hW) (hl.below hW) hw h0 (h1.below hW) (h2.below hW) (h3.below hW) p1 p2 p3 (by omega) (by omega) (by omega) (by omega) hc,
        fun W hW => rvm_bad2 n vl vg vp vq V G P Q l W (hl.below hW) hw h0 (h1.below hW) (h2.below hW) (h3.below hW) t1 t2 t3 p1 p2 p3 (by omega) (by omega) (by omega) (by omega) hc⟩
  · exact ⟨_, fun W hW => pvm_bad1 n vl vg vp vq V l W (hg.of hW) (hl.below hW) hw h0, fun W hW => rvm_bad1 n vl vg vp vq V l W (hl.below hW) hw h0⟩
end W
end Go.Proofs.YtkkccppfaecajaaGreatDoor
end
