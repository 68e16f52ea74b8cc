/-
  Chapter 3's laws: IntervalJoins.
  An argument that is a list of spans: nil, or with a block.
-/
import Derived.Test.YtpjaoapnangccaaGreatDoorKU
import Derived.Test.YtpjaoapnangccaaGreatDoorKY
import Derived.Test.YtpjaoapnangccaaGreatDoorKQ
namespace Go.Proofs.YtpjaoapnangccaaGreatDoor
open Go Go.RowKit Go.Deep Go.Sort
namespace W
open M
attribute [local go_sem] bs_size bs_toList bs_get bs_extract bs_append bs_lit0 bs_lit1 lit1_bs
set_option maxHeartbeats 1000000
set_option maxRecDepth 20000
/-- Two sets that Few lets by: one is wrong, or both are lists of at most eight spans. -/
theorem few_two {la lb : List PT} (ha : fewB la = true) (hb : fewB lb = true) : setsC la lb ≠ 0 ∨ ∃ a b : List SQ, la = sx a ∧ lb = sx b ∧ a.length ≤ 8 ∧ b.length ≤ 8 ∧ (∀ s ∈ a, SpB 30 s) ∧ ∀ s ∈ b, SpB 30 s := by
  by_cases hc : setsC la lb = 0
  · right
    unfold setsC at hc
    split at hc
    · rename_i h0
      rcases few_cases ha with h | ⟨a, e1, h8, hz⟩
      · exact absurd h0 h
      · rcases few_cases hb with h | ⟨b, e2, h9, hy⟩
        · exact absurd hc h
        · exact ⟨a, b, e1, e2, h8, h9, hz, hy⟩
    · rename_i h0; exact absurd hc h0
  · exact Or.inl hc
/-- A call of the program and one of the reference return the same list. -/
def JoinP (f g : Nat) (va vb : Value) (w : World) : Prop :=
  ∃ lt c, lt.length ≤ 100000 ∧ (∀ W, Below w.heap.size w W → Calls Tryz.prog f #[va, vb] W (LstC lt c W)) ∧ ∀ W, Below w.heap.size w W → Calls Tryz.prog g #[va, vb] W (LstC lt c W)
theorem union_pair (la lb : List PT) (va vb : Value) (w : World) (hg : Glob w) (ha : RdP w va la) (hb : RdP w vb lb) (sa : Shp va) (sb : Shp vb) (fa : fewB la = true) (fb : fewB lb = true) (na : la.length ≤ maxLen) (nb : lb.length ≤ maxLen) :
    JoinP 19 20 va vb w := by
  rcases few_two fa fb with hc | ⟨a, b, rfl, rfl, h8, h9, hz, hy⟩
  · exact ⟨[], _, by simp, fun W hW => (punion_bad la lb va vb W (hg.of hW) (ha.below hW) (hb.below hW) (fewB_fewS fa) (fewB_fewS fb) na nb hc).mono fun _ _ h => ret_lst h,
      fun W hW => (runion_bad la lb va vb W (ha.below hW) (hb.below hW) (fewB_fewS fa) (fewB_fewS fb) na nb hc).mono fun _ _ h => ret_lst h⟩
  · have hab : ∀ s ∈ a ++ b, SpB 30 s := fun s h => (List.mem_append.1 h).elim (hz s) (hy s)
    exact ⟨sx (tidy (a ++ b)), 0, by rw [sx_len]; have := (tidy_sp hab).2; rw [List.length_append] at this; omega,
      fun W hW => (punion_ok a b va vb W (hg.of hW) (ha.below hW) (hb.below hW) (by omega) (by omega) hz hy).mono fun _ _ h => (CmbP.lst rfl h).c,
      fun W hW => (runion_ok a b va vb W (ha.below hW) (hb.below hW) sa sb (by omega) (by omega) hz hy).mono fun _ _ h => LstP.c h⟩
theorem inter_pair (la lb : List PT) (va vb : Value) (w : World) (hg : Glob w) (ha : RdP w va la) (hb : RdP w vb lb) (fa : fewB la = true) (fb : fewB lb = true) (na : la.length ≤ maxLen) (nb : lb.length ≤ maxLen) :
    JoinP 22 23 va vb w := by
  rcases few_two fa fb with hc | ⟨a, b, rfl, rfl, h8, h9, hz, hy⟩
  · exact ⟨[], _, by simp, fun W hW => (pinter_bad la lb va vb W (hg.of hW) (ha.below hW) (hb.below hW) (fewB_fewS fa) (fewB_fewS fb) na nb hc).mono fun _ _ h => ret_lst h,
      fun W hW => (rinter_bad la lb va vb W (ha.below hW) (hb.below hW) (fewB_fewS fa) (fewB_fewS fb) na nb hc).mono fun _ _ h => ret_lst h⟩
  · have hil : (inter a b).length ≤ 64 := Nat.le_trans (inter_len a b) (Nat.le_trans (Nat.mul_le_mul h8 h9) (by decide))
    exact ⟨sx (tidy (inter a b)), 0, by rw [sx_len]; have := (tidy_sp (inter_sp hz hy)).2; omega,
      fun W hW => (pinter_ok a b va vb W (hg.of hW) (ha.below hW) (hb.below hW) (by omega) (by omega) hz hy).mono fun _ _ h => (CmbP.lst rfl h).c,
      fun W hW => (rinter_ok a b va vb W (ha.below hW) (hb.below hW) h8 h9 hz hy).mono fun _ _ h => LstP.c h⟩
theorem diff_pair (la lb : List PT) (va vb : Value) (w : World) (hg : Glob w) (ha : RdP w va la) (hb : RdP w vb lb) (sa : Shp va) (sb : Shp vb) (fa : fewB la = true) (fb : fewB lb = true) (na : la.length ≤ maxLen) (nb : lb.length ≤ maxLen) :
    JoinP 24 25 va vb w := by
  rcases few_two fa fb with hc | ⟨a, b, rfl, rfl, h8, h9, hz, hy⟩
  · exact ⟨[], _, by simp, fun W hW => (pdiff_bad la lb va vb W (hg.of hW) (ha.below hW) (hb.below hW) (fewB_fewS fa) (fewB_fewS fb) na nb hc).mono fun _ _ h => ret_lst h,
      fun W hW => (rdiff_bad la lb va vb W (ha.below hW) (hb.below hW) (fewB_fewS fa) (fewB_fewS fb) na nb hc).mono fun _ _ h => ret_lst h⟩
  · have hab : ∀ s ∈ a ++ b, SpB 30 s := fun s h => (List.mem_append.1 h).elim (hz s) (hy s)
    have hl : (tidy (wo a b none (endsZ (a ++ b)))).length ≤ 100000 := by
      have h1 := (tidy_sp (wo_sp hab)).2
      have h2 := wo_len a b (endsZ (a ++ b)) none
      have h3 := endsZ_size (a ++ b)
      rw [List.length_append] at h3
      omega
    exact ⟨sx (tidy (wo a b none (endsZ (a ++ b)))), 0, by rw [sx_len]; exact hl,
      fun W hW => (pdiff_ok a b va vb W (hg.of hW) (ha.below hW) (hb.below hW) (by omega) (by omega) hz hy).mono fun _ _ h => (CmbP.lst rfl h).c,
      fun W hW => (rdiff_ok a b va vb W (ha.below hW) (hb.below hW) sa sb h8 h9 hz hy).mono fun _ _ h => LstP.c h⟩
theorem joins_law (va vb : Value) (la lb : List PT) (w : World) (hg : Glob w) (ha : RdP w va la) (hb : RdP w vb lb) (hsa : Shp va) (hsb : Shp vb) (na : la.length ≤ maxLen) (nb : lb.length ≤ maxLen)
    (sa : ∀ p ∈ la, p.1.length ≤ maxLen ∧ p.2.length ≤ maxLen) (sb : ∀ p ∈ lb, p.1.length ≤ maxLen ∧ p.2.length ≤ maxLen) :
    Calls Tryz.prog 4 #[va, vb] w (Ret w (.bool true)) := by
  have HFA := Lib.hid (few_any va la w ha na sa)
  have HFB := Lib.hid (fun W (hW : Below w.heap.size w W) => few_any vb lb W (hb.below hW) nb sb)
  have HG := Lib.hid hg
  have HAW := Lib.hid (fun W hW => awake W hW)
  by_cases hf : fewB la = true
  · rw [hf] at HFA
    by_cases hk : fewB lb = true
    · rw [hk] at HFB
      obtain ⟨l1, c1, z1, p1, q1⟩ := union_pair la lb va vb w hg ha hb hsa hsb hf hk na nb
      obtain ⟨l2, c2, z2, p2, q2⟩ := inter_pair la lb va vb w hg ha hb hf hk na nb
      obtain ⟨l3, c3, z3, p3, q3⟩ := diff_pair la lb va vb w hg ha hb hsa hsb hf hk na nb
      have P1 := Lib.hid p1
      have Q1 := Lib.hid q1
      have P2 := Lib.hid p2
      have Q2 := Lib.hid q2
      have P3 := Lib.hid p3
      have Q3 := Lib.hid q3
      clear p1 q1 p2 q2 p3 q3 hg ha hb hsa hsb na nb sa sb hf hk
      go_enter Tryz.func4, Tryz.ntmps4
      go_wp2_with fail
      refine (HFA.out).mono ?_
      rintro e w1 ⟨rfl, hb1⟩
      go_wp2_with fail
      refine (HFB.out _ hb1).mono ?_
      rintro e w2 ⟨rfl, hb2⟩
      have h2 := Below.then hb1 hb2
      clear hb1 hb2 HFA HFB
      go_wp2_with fail
      refine (P1.out w2 h2).mono ?_
      rintro e w3 ⟨A1, d1, rfl, r1, hb3⟩
      have h3 := Below.then h2 hb3
      clear h2 hb3 P1
      go_wp2_with fail
      refine (Q1.out w3 h3).mono ?_
      rintro e w4 ⟨B1, e1, rfl, r2, hb4⟩
      have h4 := Below.then h3 hb4
      have r1 := r1.below hb4
      have HSM := Lib.hid (fun W hW => same_ret _ _ l1 w4 W r1 r2 z1 hW)
      clear h3 hb4 Q1 r1 r2
      go_wp2_with fail
      refine (HSM.out _ (Below.refl _ _)).mono ?_
      rintro e w5 ⟨rfl, hb5⟩
      have h5 := Below.then h4 hb5
      clear hb5 HSM h4
      go_wp2_with fail
      refine (P2.out w5 h5).mono ?_
      rintro e w6 ⟨A2, d2, rfl, r1, hb6⟩
      have h6 := Below.then h5 hb6
      clear h5 hb6 P2
      go_wp2_with fail
      refine (Q2.out w6 h6).mono ?_
      rintro e w7 ⟨B2, e2, rfl, r2, hb7⟩
      have h7 := Below.then h6 hb7
      have r1 := r1.below hb7
      have HSM := Lib.hid (fun W hW => same_ret _ _ l2 w7 W r1 r2 z2 hW)
      clear h6 hb7 Q2 r1 r2
      go_wp2_with fail
      refine (HSM.out _ (Below.refl _ _)).mono ?_
      rintro e w8 ⟨rfl, hb8⟩
      have h8 := Below.then h7 hb8
      clear hb8 HSM h7
      go_wp2_with fail
      refine (P3.out w8 h8).mono ?_
      rintro e w9 ⟨A3, d3, rfl, r1, hb9⟩
      have h9 := Below.then h8 hb9
      clear h8 hb9 P3
      go_wp2_with fail
      refine (Q3.out w9 h9).mono ?_
      rintro e w10 ⟨B3, e3, rfl, r2, hb10⟩
      have h10 := Below.then h9 hb10
      have r1 := r1.below hb10
      have HSM := Lib.hid (fun W hW => same_ret _ _ l3 w10 W r1 r2 z3 hW)
      clear h9 hb10 Q3 r1 r2
      go_wp2_with fail
      refine (HSM.out _ (Below.refl _ _)).mono ?_
      rintro e w11 ⟨rfl, hb11⟩
      have h11 := Below.then h10 hb11
      clear hb11 HSM h10
      go_wp2_with fail
      refine (HAW.out _ (HG.out.of h11)).mono ?_
      rintro e w16 ⟨rfl, hb16⟩
      go_wp2
      go_ret
      exact Ret.of rfl (Below.then h11 hb16)
    · rw [Bool.not_eq_true] at hk
      rw [hk] at HFB
      clear hg ha hb hsa hsb na nb sa sb hf hk
      go_enter Tryz.func4, Tryz.ntmps4
      go_wp2_with fail
      refine (HFA.out).mono ?_
      rintro e w1 ⟨rfl, hb1⟩
      go_wp2_with fail
      refine (HFB.out _ hb1).mono ?_
      rintro e w2 ⟨rfl, hb2⟩
      have h2 := Below.then hb1 hb2
      go_wp2_with fail
      refine (HAW.out _ (HG.out.of h2)).mono ?_
      rintro e w3 ⟨rfl, hb3⟩
      go_wp2
      go_ret
      exact Ret.of rfl (Below.then h2 hb3)
  · rw [Bool.not_eq_true] at hf
    rw [hf] at HFA
    clear hg ha hb hsa hsb na nb sa sb hf
    go_enter Tryz.func4, Tryz.ntmps4
    go_wp2_with fail
    refine (HFA.out).mono ?_
    rintro e w1 ⟨rfl, hb1⟩
    go_wp2_with fail
    refine (HAW.out _ (HG.out.of hb1)).mono ?_
    rintro e w2 ⟨rfl, hb2⟩
    go_wp2
    go_ret
    exact Ret.of rfl (Below.then hb1 hb2)
end W
end Go.Proofs.YtpjaoapnangccaaGreatDoor
namespace Go.Proofs.YtpjaoapnangccaaGreatDoor
open Go Go.RowKit Go.ChangeShapes Go.WideShapes Go.ChangeAt Go.Deep
namespace Fin
set_option maxRecDepth 20000
theorem shp_of {H : Type} {enc : TypeId × Value → H} {W : World} {v : Value} {d : DataW H} {p : List MemPlace}
    (hv : ∃ a len cap, v = .slice a len cap) (h : DataW.Trod enc Tryz.prog W 0 (fun _ => true) true 36 v d p) : Shp v := by
  obtain ⟨fuel, hf⟩ := h
  obtain ⟨a0, len0, cap0, rfl⟩ := hv
  have hf' : DataW.trod enc Tryz.prog W 0 (fun _ => true) true fuel 36 [.slice a0 len0 cap0] = some (d, p) := hf
  rcases open_slice Tryz.underlying36 hf' with ⟨hcs, _⟩ | ⟨a, len, cap, m, n, D, Pl, hcs, _⟩
  · simp at hcs
    obtain ⟨rfl, rfl, rfl⟩ := hcs
    exact Or.inl rfl
  · simp at hcs
    obtain ⟨rfl, rfl, rfl⟩ := hcs
    exact Or.inr ⟨_, _, _, rfl⟩
end Fin
end Go.Proofs.YtpjaoapnangccaaGreatDoor
