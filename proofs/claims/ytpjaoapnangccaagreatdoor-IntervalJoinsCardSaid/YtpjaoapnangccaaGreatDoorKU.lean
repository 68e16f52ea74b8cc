/-
  Chapter 3's laws: IntervalSets.
-/
import Derived.Test.YtpjaoapnangccaaGreatDoorKR
import Derived.Test.YtpjaoapnangccaaGreatDoorKT
namespace Go.Proofs.YtpjaoapnangccaaGreatDoor
open Go Go.RowKit Go.Deep Go.Sort
/-- A list and a number of an error are returned. -/
def LstC (lt : List M.PT) (c : Int) (w : World) (e : Ending) (w' : World) : Prop := ∃ A cap, e = .returned (.tuple #[.slice A lt.length cap, .int .i64 c]) ∧ RdP w' (.slice A lt.length cap) lt ∧ Below w.heap.size w w'
namespace W
open M
attribute [local go_sem] bs_size bs_toList bs_get bs_extract bs_append bs_lit0 bs_lit1 lit1_bs
set_option maxHeartbeats 1000000
set_option maxRecDepth 20000
theorem LstP.c {l : List PT} {w : World} {e : Ending} {w' : World} (h : LstP l w e w') : LstC l 0 w e w' := h
theorem ret_lst {c : Int} {w : World} {e : Ending} {w' : World} (h : Ret w (.tuple #[.slice none 0 0, .int .i64 c]) e w') : LstC [] c w e w' := ⟨none, 0, h.1, ⟨none, 0, rfl, Or.inl rfl⟩, h.2⟩
/-- A set that Few lets by: wrong, or a list of at most eight spans. -/
theorem few_cases {la : List PT} (h : fewB la = true) : setC la ≠ 0 ∨ ∃ zl : List SQ, la = sx zl ∧ zl.length ≤ 8 ∧ ∀ s ∈ zl, SpB 30 s := by
  by_cases hc : setC la = 0
  · right
    obtain ⟨_, zl, rfl, hz⟩ := (fewB_fewS h).right hc
    refine ⟨zl, rfl, ?_, hz⟩
    rw [Nat.not_lt.symm]
    intro h8
    unfold fewB at h
    rw [sx_len, if_pos h8, Bool.and_eq_true, decide_eq_true_iff] at h
    unfold setC at hc
    rw [sx_len, if_pos h.1] at hc
    cases hc
  · exact Or.inl hc
theorem len_part {zl : List SQ} (h8 : zl.length ≤ 8) (hz : ∀ s ∈ zl, SpB 30 s) (k : Nat) : Bq 900 (lenQ ((tidy zl).take k)) := by
  have h := comb_len (f := rFst) (a := zl) (b := []) (n := 30) (d := 30) (m := 16) (fun s hs => by
    rw [List.append_nil] at hs
    exact ⟨(hz s hs).2.1, (hz s hs).2.2⟩) (by simp; omega) (by decide) k
  rw [comb_fst (endsZ_ok _) (fun s hs => (hz s hs).1)] at h
  exact h.mono (by decide)
theorem normal_pair (la : List PT) (va : Value) (w : World) (hg : Glob w) (ha : RdP w va la) (hf : fewB la = true) (na : la.length ≤ maxLen) :
    ∃ lt c, lt.length ≤ 100000 ∧ (∀ W, Below w.heap.size w W → Calls Tryz.prog 27 #[va] W (LstC lt c W)) ∧ ∀ W, Below w.heap.size w W → Calls Tryz.prog 38 #[va] W (LstC lt c W) := by
  rcases few_cases hf with hc | ⟨zl, rfl, h8, hz⟩
  · exact ⟨[], _, by simp, fun W hW => (pnormal_bad la va W (hg.of hW) (ha.below hW) (fewB_fewS hf) na hc).mono fun _ _ h => ret_lst h,
      fun W hW => (rnormal_bad la va W (ha.below hW) (fewB_fewS hf) na hc).mono fun _ _ h => ret_lst h⟩
  · exact ⟨sx (tidy zl), 0, by rw [sx_len]; have := (tidy_sp hz).2; omega, fun W hW => (pnormal_ok zl va W (hg.of hW) (ha.below hW) (by omega) hz).mono fun _ _ h => (CmbP.lst rfl h).c,
      fun W hW => (rnormal_ok zl va W (ha.below hW) (by omega) hz).mono fun _ _ h => LstP.c h⟩
theorem holds_pair (la : List PT) (va : Value) (px : List UInt8) (w : World) (hg : Glob w) (ha : RdP w va la) (hf : fewB la = true) (na : la.length ≤ maxLen) (hs : shortB px = true) :
    ∃ b c, (∀ W, Below w.heap.size w W → Calls Tryz.prog 39 #[va, .string (bs px)] W (Ret W (.tuple #[.bool b, .int .i64 c]))) ∧
      ∀ W, Below w.heap.size w W → Calls Tryz.prog 40 #[va, .string (bs px)] W (Ret W (.tuple #[.bool b, .int .i64 c])) := by
  rcases few_cases hf with hc | ⟨zl, rfl, h8, hz⟩
  · exact ⟨_, _, fun W hW => holds_bad1 la va px W (hg.of hW) (ha.below hW) (fewB_fewS hf) na hc, fun W hW => rholds_bad1 la va px W (ha.below hW) (fewB_fewS hf) na hc⟩
  · have hl := short_num hs
    by_cases hx : chkR px = 0
    · obtain ⟨x, rfl, hq⟩ := short_R hs hx
      exact ⟨_, _, fun W hW => holds_ok zl va x W (hg.of hW) (ha.below hW) (by omega) hz hq, fun W hW => rholds_ok zl va x W (ha.below hW) (by omega) hz hq⟩
    · exact ⟨_, _, fun W hW => holds_bad2 zl va px W (hg.of hW) (ha.below hW) (by omega) hz (by omega) hx, fun W hW => rholds_bad2 (sx zl) va px W (ha.below hW) (fewB_fewS hf) na (setC_yes (by omega) hz) (by omega) hx⟩
theorem length_pair (la : List PT) (va : Value) (w : World) (hg : Glob w) (ha : RdP w va la) (hf : fewB la = true) (na : la.length ≤ maxLen) :
    ∃ s c, (∀ W, Below w.heap.size w W → Calls Tryz.prog 28 #[va] W (Ret W (.tuple #[.string (bs s), .int .i64 c]))) ∧
      ∀ W, Below w.heap.size w W → Calls Tryz.prog 41 #[va] W (Ret W (.tuple #[.string (bs s), .int .i64 c])) := by
  rcases few_cases hf with hc | ⟨zl, rfl, h8, hz⟩
  · exact ⟨_, _, fun W hW => length_bad la va W (hg.of hW) (ha.below hW) (fewB_fewS hf) na hc, fun W hW => rlength_bad la va W (ha.below hW) (fewB_fewS hf) na hc⟩
  · exact ⟨_, _, fun W hW => length_ok zl va W (hg.of hW) (ha.below hW) (by omega) hz (by have := (tidy_sp hz).2; omega) (tidy_sp hz).1 fun k _ => len_part h8 hz k,
      fun W hW => rlength_ok zl va W (ha.below hW) (by omega) hz fun k => len_part h8 hz k⟩
theorem sets_law (va : Value) (la : List PT) (k : List UInt8) (w : World) (hg : Glob w) (ha : RdP w va la) (na : la.length ≤ maxLen) (sa : ∀ p ∈ la, p.1.length ≤ maxLen ∧ p.2.length ≤ maxLen) (nk : k.length ≤ maxLen) :
    Calls Tryz.prog 7 #[va, .string (bs k)] w (Ret w (.bool true)) := by
  have HF := Lib.hid (few_any va la w ha na sa)
  have HG := Lib.hid hg
  have HAW := Lib.hid (fun W hW => awake W hW)
  have HSK := Lib.hid (fun W => short_any k W (by unfold maxLen at nk; omega))
  by_cases hf : fewB la = true
  · rw [hf] at HF
    by_cases hs : shortB k = true
    · rw [hs] at HSK
      obtain ⟨lt, c1, hlt, n1, n2⟩ := normal_pair la va w hg ha hf na
      obtain ⟨b, c2, h1, h2⟩ := holds_pair la va k w hg ha hf na hs
      obtain ⟨s, c3, l1, l2⟩ := length_pair la va w hg ha hf na
      have N1 := Lib.hid n1
      have N2 := Lib.hid n2
      have H1 := Lib.hid h1
      have H2 := Lib.hid h2
      have L1 := Lib.hid l1
      have L2 := Lib.hid l2
      clear n1 n2 h1 h2 l1 l2 hg ha na sa nk hf hs
      go_enter Tryz.func7, Tryz.ntmps7
      go_wp2_with fail
      refine (HF.out).mono ?_
      rintro e w1 ⟨rfl, hb1⟩
      go_wp2_with fail
      refine (HSK.out _).mono ?_
      rintro e w2 ⟨rfl, hb2⟩
      have h2 := Below.then hb1 hb2
      clear hb1 hb2 HF HSK
      go_wp2_with fail
      refine (N1.out w2 h2).mono ?_
      rintro e w3 ⟨A1, d1, rfl, r1, hb3⟩
      have h3 := Below.then h2 hb3
      clear h2 hb3 N1
      go_wp2_with fail
      refine (N2.out w3 h3).mono ?_
      rintro e w4 ⟨A2, d2, rfl, r2, hb4⟩
      have h4 := Below.then h3 hb4
      have r1 := r1.below hb4
      have HSM := Lib.hid (fun W hW => same_ret _ _ lt w4 W r1 r2 hlt hW)
      clear h3 hb4 N2 r1 r2
      go_wp2_with fail
      refine (H1.out _ h4).mono ?_
      rintro e w5 ⟨rfl, hb5⟩
      have g5 := hb5
      have h5 := Below.then h4 hb5
      clear hb5 H1 h4
      go_wp2_with fail
      refine (H2.out _ h5).mono ?_
      rintro e w6 ⟨rfl, hb6⟩
      have g6 := Below.then g5 hb6
      have h6 := Below.then h5 hb6
      clear hb6 H2 h5 g5
      go_wp2_with fail
      refine (HSM.out _ g6).mono ?_
      rintro e w7 ⟨rfl, hb7⟩
      have h7 := Below.then h6 hb7
      clear hb7 HSM h6 g6
      go_wp2_with fail
      refine (L1.out _ h7).mono ?_
      rintro e w8 ⟨rfl, hb8⟩
      have h8 := Below.then h7 hb8
      clear hb8 L1 h7
      go_wp2_with fail
      refine (L2.out _ h8).mono ?_
      rintro e w9 ⟨rfl, hb9⟩
      have h9 := Below.then h8 hb9
      clear hb9 L2 h8
      go_wp2_with fail
      refine (HAW.out _ (HG.out.of h9)).mono ?_
      rintro e w10 ⟨rfl, hb10⟩
      go_wp2
      go_ret
      exact Ret.of rfl (Below.then h9 hb10)
    · rw [Bool.not_eq_true] at hs
      rw [hs] at HSK
      clear hg ha na sa nk hf hs
      go_enter Tryz.func7, Tryz.ntmps7
      go_wp2_with fail
      refine (HF.out).mono ?_
      rintro e w1 ⟨rfl, hb1⟩
      go_wp2_with fail
      refine (HSK.out _).mono ?_
      rintro e w2 ⟨rfl, hb2⟩
      have h2 := Below.then hb1 hb2
      go_wp2_with fail
      refine (HAW.out _ (HG.out.of h2)).mono ?_
      rintro e w3 ⟨rfl, hb3⟩
      go_wp2
      go_ret
      exact Ret.of rfl (Below.then h2 hb3)
  · rw [Bool.not_eq_true] at hf
    rw [hf] at HF
    clear hg ha na sa nk hf
    go_enter Tryz.func7, Tryz.ntmps7
    go_wp2_with fail
    refine (HF.out).mono ?_
    rintro e w1 ⟨rfl, hb1⟩
    go_wp2_with fail
    refine (HAW.out _ (HG.out.of hb1)).mono ?_
    rintro e w2 ⟨rfl, hb2⟩
    go_wp2
    go_ret
    exact Ret.of rfl (Below.then hb1 hb2)
end W
end Go.Proofs.YtpjaoapnangccaaGreatDoor
