/-
  Chapter 3's reference: Intersection.
  Chapter 3's reference: the ends of spans.
-/
import Derived.Test.YtpjaoapnangccaaGreatDoorKT
import Derived.Deep.RegionHeld3
import Derived.Test.YtpjaoapnangccaaGreatDoorKR
namespace Go.Proofs.YtpjaoapnangccaaGreatDoor
open Go Go.RowKit Go.Deep Go.Sort
namespace M
theorem interRow_succ (x : SQ) (b : List SQ) (k : Nat) (h : k < b.length) : interRow x (b.take (k + 1)) = interRow x (b.take k) ++ (if meetQ x b[k] = true then [comQ x b[k]] else []) := by
  unfold interRow
  rw [List.take_succ_eq_append_getElem h, List.filterMap_append]
  congr 1
  by_cases hm : meetQ x b[k] = true
  · rw [if_pos hm]; simp [hm]
  · rw [if_neg hm]; simp [hm]
theorem inter_succ (a b : List SQ) (i : Nat) (h : i < a.length) : inter (a.take (i + 1)) b = inter (a.take i) b ++ interRow a[i] b := by
  unfold inter
  rw [List.take_succ_eq_append_getElem h, List.flatMap_append]
  simp
theorem interRow_len (x : SQ) (b : List SQ) : (interRow x b).length ≤ b.length := List.length_filterMap_le _ _
theorem inter_len : ∀ (a b : List SQ), (inter a b).length ≤ a.length * b.length
  | [], b => by simp [inter]
  | x :: t, b => by
    have h1 := inter_len t b
    have h2 := interRow_len x b
    have e : inter (x :: t) b = interRow x b ++ inter t b := rfl
    rw [e, List.length_append, List.length_cons, Nat.add_mul, Nat.one_mul]
    omega
theorem inter_sp {k : Nat} {a b : List SQ} (ha : ∀ s ∈ a, SpB k s) (hb : ∀ s ∈ b, SpB k s) : ∀ s ∈ inter a b, SpB k s := fun s hs => by
  have hr := inter_right s hs
  obtain ⟨x, hx, y, hy, _, rfl⟩ := inter_mem.1 hs
  exact ⟨hr, moreQ_bq (ha x hx).2.1 (hb y hy).2.1, lessQ_bq (ha x hx).2.2 (hb y hy).2.2⟩
end M
/-- Within Intersection: what has been gathered. -/
def InP (W0 W : World) (v : Value) (l : List M.SQ) : Prop := OwnP W W0.heap.size v (M.sx l) ∧ Below W0.heap.size W0 W
theorem InP.to {W0 W W2 : World} {v : Value} {l : List M.SQ} (h : InP W0 W v l) (hb : Below W.heap.size W W2) : InP W0 W2 v l := ⟨h.1.below hb, h.2.trans (hb.mono h.2.size)⟩
theorem InP.app {W0 W W2 : World} {v v2 : Value} {l : List M.SQ} (h : InP W0 W v l) (p : M.SQ) (ho : OwnP W2 W0.heap.size v2 (M.sx l ++ [(M.R p.1, M.R p.2)])) (hk : Keeps W0.heap.size W W2) : InP W0 W2 v2 (l ++ [p]) :=
  ⟨by rw [M.sx_append]; exact ho, hk _ _ (Nat.le_refl _) h.2⟩
namespace W
open M
attribute [local go_sem] bs_size bs_toList bs_get bs_extract bs_append bs_lit0 bs_lit1 lit1_bs
set_option maxHeartbeats 2000000
set_option maxRecDepth 20000
theorem rinter_bad (la lb : List PT) (va vb : Value) (w : World) (ha : RdP w va la) (hb : RdP w vb lb) (fa : FewS la) (fb : FewS lb) (na : la.length ≤ maxLen) (nb : lb.length ≤ maxLen) (hc : setsC la lb ≠ 0) :
    Calls Tryz.prog 23 #[va, vb] w (Ret w (.tuple #[.slice none 0 0, .int .i64 ((setsC la lb : Nat) : Int)])) := by
  have HS := Lib.hid (rsets va vb la lb w ha hb fa fb na nb)
  have hz : (((setsC la lb : Nat) : Int) != 0) = true := by simp; exact hc
  clear ha hb hc
  generalize ((setsC la lb : Nat) : Int) = c at *
  go_enter Tryz.func23, Tryz.ntmps23
  go_wp2_with fail
  refine (HS.out).mono ?_
  rintro e w1 ⟨rfl, hb1⟩
  go_wp2
  go_ret2
  exact Ret.of rfl hb1
theorem rinter_ok (a b : List SQ) (va vb : Value) (w : World) (ha : RdP w va (sx a)) (hb : RdP w vb (sx b)) (na : a.length ≤ 8) (nb : b.length ≤ 8) (ra : ∀ s ∈ a, SpB 30 s) (rb : ∀ s ∈ b, SpB 30 s) :
    Calls Tryz.prog 23 #[va, vb] w (LstP (sx (tidy (inter a b))) w) := by
  have hs := rsets va vb (sx a) (sx b) w ha hb (fewS_sx (by omega) ra) (fewS_sx (by omega) rb) (by rw [sx_len]; unfold maxLen; omega) (by rw [sx_len]; unfold maxLen; omega)
  rw [setsC_yes (by omega) (by omega) ra rb] at hs
  have HS := Lib.hid hs
  have ri := inter_sp ra rb
  have hil := inter_len a b
  have hil2 : (inter a b).length ≤ 64 := Nat.le_trans hil (Nat.le_trans (Nat.mul_le_mul na nb) (by decide))
  have HT := Lib.hid (fun v W (hv : RdP W v (sx (inter a b))) => rtidy v (inter a b) W hv (by omega) fun s h => SpB.up (ri s h) (by decide))
  have ht : (tidy (inter a b)).length ≤ 256 := by have := (tidy_sp ri).2; omega
  have HC := Lib.hid (fun i (hi : i < a.length) k (hk : k < b.length) W => rcommon a[i] b[k] (SpB.up (ra _ (List.getElem_mem hi)) (by decide)) (SpB.up (rb _ (List.getElem_mem hk)) (by decide)) W)
  have HPA := Lib.hid ha
  have HPB := Lib.hid hb
  have HI := Lib.hid (fun i (hi : i < a.length) => inter_succ a b i hi)
  have HR1 := Lib.hid (fun x k (hk : k < b.length) => interRow_succ x b k hk)
  have HIL := Lib.hid (fun i => inter_len (a.take i) b)
  have HRL := Lib.hid (fun x k => interRow_len x (b.take k))
  obtain ⟨A0, c0, rfl⟩ := ha.len
  obtain ⟨B0, d0, rfl⟩ := hb.len
  rw [sx_len a] at HS HPA ⊢
  rw [sx_len b] at HS HPB ⊢
  clear ha hb ra rb hs ri hil
  go_enter Tryz.func23, Tryz.ntmps23
  go_wp2_with fail
  refine (HS.out).mono ?_
  rintro e w1 ⟨rfl, hb1⟩
  go_wp2_with fail
  go_loopw [7, 8] (fun ov iv wr => ∃ (i : Nat) (vo : Value), iv = .int .i64 (i : Int) ∧ ov = vo ∧ i ≤ a.length ∧ Hid (InP w wr vo (inter (a.take i) b))) (fun _ iv _ => a.length - (intOf iv).toNat)
  case atStart => exact ⟨0, _, rfl, rfl, by omega, Lib.hid ⟨OwnP.nil _ _, hb1⟩⟩
  case round =>
    obtain ⟨i, vo, rfl, hvo, hi, hin⟩ := hrel
    have hvo := hvo.symm
    subst hvo
    by_cases hlt : i < a.length
    · have HII := Lib.hid (HI.out i hlt)
      have hli : (inter (a.take i) b).length ≤ 64 := by
        refine Nat.le_trans (HIL.out i) ?_
        rw [List.length_take]
        exact Nat.le_trans (Nat.mul_le_mul (Nat.le_trans (Nat.min_le_right _ _) na) nb) (by decide)
      have hpa := HPA.out
      rw [← sx_len a] at hpa
      obtain ⟨b1, o1, rfl, hw⟩ := hpa.row i (by rw [sx_len]; exact hlt)
      have HWA := Lib.hid (fun W (hW : Below w.heap.size w W) => (by
        have h2 := hw.below' hW
        have hlt' : i < (sx a).length := by rw [sx_len]; exact hlt
        have q0 := h2.val i hlt'
        have q1 := h2.wt i hlt'
        rw [sx_get a i hlt] at q0 q1
        exact ⟨q0, q1⟩ : W.cell? ⟨b1, o1 + i * 2, none⟩ = some (.string (bs (R a[i].1))) ∧ W.cell? ⟨b1, o1 + i * 2 + 1, none⟩ = some (.string (bs (R a[i].2)))))
      have HCI := Lib.hid (fun k hk W => HC.out i hlt k hk W)
      have HR2 := Lib.hid (fun k (hk : k < b.length) => HR1.out a[i] k hk)
      have HRL2 := Lib.hid (fun k => HRL.out a[i] k)
      have hi0 : (0 : Int) ≤ (i : Int) := by omega
      have his : (i : Int) < (a.length : Int) := by omega
      have HI0 : Hid (InP w wr vo (inter (a.take i) b ++ interRow a[i] (b.take 0))) := by
        rw [List.take_zero, show interRow a[i] [] = [] from rfl, List.append_nil]; exact hin
      clear hpa hw hin
      generalize inter (a.take i) b = pre at *
      generalize a[i] = x at *
      obtain ⟨W0, hW0⟩ : ∃ y, y = wr := ⟨wr, rfl⟩
      subst hW0
      go_wp2_with fail
      go_loopw [7, 9] (fun ov kv wr2 => ∃ (k : Nat) (vo : Value), kv = .int .i64 (k : Int) ∧ ov = vo ∧ k ≤ b.length ∧ Hid (InP w wr2 vo (pre ++ interRow x (b.take k)))) (fun _ kv _ => b.length - (intOf kv).toNat)
      case atStart => exact ⟨0, _, rfl, rfl, by omega, HI0⟩
      case round =>
        clear HI0
        obtain ⟨k, vo, rfl, hvo, hk, hin⟩ := hrel
        have hvo := hvo.symm
        subst hvo
        by_cases hlk : k < b.length
        · have HK2 := Lib.hid (HR2.out k hlk)
          have hpb := HPB.out
          rw [← sx_len b] at hpb
          obtain ⟨b2, o2, rfl, hw⟩ := hpb.row k (by rw [sx_len]; exact hlk)
          have HWB := Lib.hid (fun W (hW : Below w.heap.size w W) => (by
            have h2 := hw.below' hW
            have hlt' : k < (sx b).length := by rw [sx_len]; exact hlk
            have q0 := h2.val k hlt'
            have q1 := h2.wt k hlt'
            rw [sx_get b k hlk] at q0 q1
            exact ⟨q0, q1⟩ : W.cell? ⟨b2, o2 + k * 2, none⟩ = some (.string (bs (R b[k].1))) ∧ W.cell? ⟨b2, o2 + k * 2 + 1, none⟩ = some (.string (bs (R b[k].2)))))
          have HC2 := Lib.hid (fun W => HCI.out k hlk W)
          have hk0 : (0 : Int) ≤ (k : Int) := by omega
          have hks : (k : Int) < (b.length : Int) := by omega
          have hll : (pre ++ interRow x (b.take k)).length ≤ 1000 := by
            have h1 := HRL2.out k
            rw [List.length_take] at h1
            rw [List.length_append]; omega
          have HIN := hin
          clear hpb hw hin
          have HCL := Lib.hid (fun W (hW : InP w W vo (pre ++ interRow x (b.take k))) => (⟨(HWA.out W hW.2).1, (HWA.out W hW.2).2, (HWB.out W hW.2).1, (HWB.out W hW.2).2⟩ :
            W.cell? ⟨b1, o1 + i * 2, none⟩ = some (.string (bs (R x.1))) ∧ W.cell? ⟨b1, o1 + i * 2 + 1, none⟩ = some (.string (bs (R x.2))) ∧ W.cell? ⟨b2, o2 + k * 2, none⟩ = some (.string (bs (R b[k].1))) ∧ W.cell? ⟨b2, o2 + k * 2 + 1, none⟩ = some (.string (bs (R b[k].2)))))
          clear HWB
          have HK2 : Hid (pre ++ interRow x (b.take (k + 1)) = (pre ++ interRow x (b.take k)) ++ (if meetQ x b[k] = true then [comQ x b[k]] else [])) := Lib.hid (by rw [HK2.out, List.append_assoc])
          generalize pre ++ interRow x (b.take k) = cur at *
          generalize b[k] = y at *
          by_cases hm : meetQ x y = true
          · rw [if_pos hm] at HK2
            rw [if_pos hm, hm] at HC2
            generalize hcq : comQ x y = cq at *
            obtain ⟨cq1, cq2⟩ := cq
            simp only at HC2
            go_wp2_with fail
            go_region_held3 (fun W => W.cell? ⟨b1, o1 + i * 2, none⟩ = some (.string (bs (R x.1))) ∧ W.cell? ⟨b1, o1 + i * 2 + 1, none⟩ = some (.string (bs (R x.2))) ∧ W.cell? ⟨b2, o2 + k * 2, none⟩ = some (.string (bs (R y.1))) ∧ W.cell? ⟨b2, o2 + k * 2 + 1, none⟩ = some (.string (bs (R y.2))))
              (first | exact HCL.out _ (HIN.out.to HB5.out) | exact HCL.out _ (HIN.out.to (HB5.out.alloc HB5.out.size _)) | exact HCL.out _ (HIN.out.to ((HB5.out.setCell (p := ⟨wr.heap.size, 0, none⟩) (Nat.le_refl _) _).setCell (p := ⟨wr.heap.size, 1, none⟩) (Nat.le_refl _) _)) | exact HCL.out _ (HIN.out.to (RowKit.Below.drew (Below.refl _ _))) | exact HCL.out _ (HIN.out.to (RowKit.Below.drew ((Below.refl _ _).alloc (Nat.le_refl _) _))) | exact HCL.out _ HIN.out)
              (first | (go_at_call 63; refine (HC2.out _).mono ?_; rintro e w5 ⟨rfl, hb5⟩; first
                | (have HB5 := Lib.hid (bel2 (RowKit.Below.drew (Below.refl wr.heap.size wr)) hb5))
                | (have HB5 := Lib.hid (bel2 (RowKit.Below.drew ((Below.refl wr.heap.size wr).alloc (Nat.le_refl _) Z24)) hb5); have HN5 := Lib.hid ((show ZRow (wr.alloc Z24).drew wr.heap.size from rnw).below' hb5); have n0 := HN5.out.cell (i := 0) rfl; have n1 := (HN5.out.set 0 (.string (bs (R cq1)))).cell (i := 1) rfl; have f0 := HN5.out.free 0; have f1 := (HN5.out.set 0 (.string (bs (R cq1)))).free 1)))
            all_goals
              first
                | (refine genw (fun W => InP w W vo cur ∧ Row W w5.heap.size 24 [.string (bs (R cq1)), .string (bs (R cq2))]) ⟨HIN.out.to (HB5.out.alloc HB5.out.size _), rnw⟩ ?_; intro W2 h2; generalize w5.heap.size = g at *)
                | (refine genw (fun W => InP w W vo cur ∧ Row W wr.heap.size 24 [.string (bs (R cq1)), .string (bs (R cq2))]) ⟨HIN.out.to ((HB5.out.setCell (p := ⟨wr.heap.size, 0, none⟩) (Nat.le_refl _) _).setCell (p := ⟨wr.heap.size, 1, none⟩) (Nat.le_refl _) _), (HN5.out.set 0 _).set 1 _⟩ ?_; intro W2 h2; generalize wr.heap.size = g at *)
              have H2 := Lib.hid h2
              have n2 := h2.2.cell (i := 0) rfl
              have n3 := h2.2.cell (i := 1) rfl
              clear h2 HCL HC2 HIN HB5 hb5
              try clear HN5 n0 n1 f0 f1
              go_wp2_with (at_builtin; refine wpList_app_p rfl _ _ rfl rfl rfl rfl H2.out.1.1 H2.out.1.2.size (by rw [sx_len]; omega) ?_; intro v2 w2 ho2 hk2)
              have HFI : Hid (InP w w2 v2 (pre ++ interRow x (b.take (k + 1)))) := by rw [HK2.out]; exact Lib.hid (H2.out.1.app _ ho2 hk2)
              clear hk2 ho2 H2 n2 n3 HK2
              go_wp2
              go_roundw
              case rel => exact ⟨k + 1, _, by go_num, rfl, hlk, HFI⟩
              case measure => simp [intOf]; omega
          · rw [if_neg hm, List.append_nil] at HK2
            rw [if_neg hm, Bool.eq_false_iff.2 hm] at HC2
            go_wp2_with fail
            go_region_held3 (fun W => W.cell? ⟨b1, o1 + i * 2, none⟩ = some (.string (bs (R x.1))) ∧ W.cell? ⟨b1, o1 + i * 2 + 1, none⟩ = some (.string (bs (R x.2))) ∧ W.cell? ⟨b2, o2 + k * 2, none⟩ = some (.string (bs (R y.1))) ∧ W.cell? ⟨b2, o2 + k * 2 + 1, none⟩ = some (.string (bs (R y.2))))
              (first | exact HCL.out _ (HIN.out.to HB5.out) | exact HCL.out _ (HIN.out.to (HB5.out.alloc HB5.out.size _)) | exact HCL.out _ (HIN.out.to ((HB5.out.setCell (p := ⟨wr.heap.size, 0, none⟩) (Nat.le_refl _) _).setCell (p := ⟨wr.heap.size, 1, none⟩) (Nat.le_refl _) _)) | exact HCL.out _ (HIN.out.to (RowKit.Below.drew (Below.refl _ _))) | exact HCL.out _ (HIN.out.to (RowKit.Below.drew ((Below.refl _ _).alloc (Nat.le_refl _) _))) | exact HCL.out _ HIN.out)
              (first | (go_at_call 63; refine (HC2.out _).mono ?_; rintro e w5 ⟨rfl, hb5⟩; first
                | (have HB5 := Lib.hid (bel2 (RowKit.Below.drew (Below.refl wr.heap.size wr)) hb5))
                | (have HB5 := Lib.hid (bel2 (RowKit.Below.drew ((Below.refl wr.heap.size wr).alloc (Nat.le_refl _) Z24)) hb5); have HN5 := Lib.hid ((show ZRow (wr.alloc Z24).drew wr.heap.size from rnw).below' hb5); have n0 := HN5.out.cell (i := 0) rfl; have n1 := (HN5.out.set 0 (.string (bs []))).cell (i := 1) rfl; have f0 := HN5.out.free 0; have f1 := (HN5.out.set 0 (.string (bs []))).free 1)))
            all_goals
              first
                | (refine genw (fun W => InP w W vo cur) (HIN.out.to (HB5.out.alloc HB5.out.size _)) ?_; intro W2 h2)
                | (refine genw (fun W => InP w W vo cur) (HIN.out.to ((HB5.out.setCell (p := ⟨wr.heap.size, 0, none⟩) (Nat.le_refl _) _).setCell (p := ⟨wr.heap.size, 1, none⟩) (Nat.le_refl _) _)) ?_; intro W2 h2)
              have HFI : Hid (InP w W2 vo (pre ++ interRow x (b.take (k + 1)))) := by rw [HK2.out]; exact Lib.hid h2
              clear h2 HCL HC2 HIN HB5 hb5 HK2
              try clear HN5 n0 n1 f0 f1
              go_wp2
              go_roundw
              case rel => exact ⟨k + 1, _, by go_num, rfl, hlk, HFI⟩
              case measure => simp [intOf]; omega
        · obtain rfl : k = b.length := by omega
          have HFI : Hid (InP w wr vo (inter (a.take (i + 1)) b)) := by rw [HII.out]; rw [List.take_length] at hin; exact hin
          clear hin HII
          go_wp2
          go_roundw
          case rel => exact ⟨i + 1, _, by go_num, rfl, hlt, HFI⟩
          case measure => simp [intOf]; omega
    · obtain rfl : i = a.length := by omega
      have hin2 := hin.out
      rw [List.take_length] at hin2
      have hrd := hin2.1.rd
      have HB := Lib.hid hin2.2
      obtain ⟨A2, c2, rfl⟩ := hrd.len
      have HT2 := Lib.hid (HT.out _ wr hrd)
      clear hin hin2 hrd HI HR1 HIL HRL HC HT
      generalize tidy (inter a b) = t at *
      go_wp2_with fail
      refine (HT2.out).mono ?_
      intro e w4 htd
      obtain ⟨A, cap, rfl, hr, hb2⟩ := tid_lst htd
      have HR := Lib.hid hr
      have HB4 := Lib.hid (Below.then HB.out hb2)
      have HL := Lib.hid (rlimited A t.length cap w4 ht)
      clear hr hb2 htd
      go_wp2_with fail
      refine (HL.out).mono ?_
      rintro e w5 ⟨rfl, rfl⟩
      go_wp2
      go_ret2
      exact LstP.of HR.out HB4.out
end W
end Go.Proofs.YtpjaoapnangccaaGreatDoor
namespace Go.Proofs.YtpjaoapnangccaaGreatDoor
open Go Go.RowKit Go.Deep Go.Sort
namespace M
/-- How many numbers ahead are less. -/
def cntQ : List Rat → Rat → Nat
  | [], _ => 0
  | y :: t, x => if y < x then cntQ t x + 1 else 0
theorem cntQ_le : ∀ (l : List Rat) (x : Rat), cntQ l x ≤ l.length
  | [], _ => Nat.le_refl _
  | y :: t, x => by
    unfold cntQ
    have := cntQ_le t x
    split
    · simpa using this
    · exact Nat.zero_le _
theorem cntQ_lt : ∀ (l : List Rat) (x : Rat) (k : Nat) (h : k < l.length), k < cntQ l x → l[k] < x
  | a :: t, v, 0, _, h => by
    unfold cntQ at h
    split at h
    · assumption
    · cases h
  | a :: t, v, k + 1, hk, h => by
    unfold cntQ at h
    split at h
    · exact cntQ_lt t v k (by simpa using hk) (by omega)
    · cases h
theorem cntQ_stop : ∀ (l : List Rat) (x : Rat) (h : cntQ l x < l.length), ¬ (l[cntQ l x]'h) < x
  | a :: t, v, h => by
    by_cases ha : a < v
    · have e : cntQ (a :: t) v = cntQ t v + 1 := by rw [cntQ, if_pos ha]
      have h2 : cntQ t v < t.length := by rw [e] at h; simpa using h
      have := cntQ_stop t v h2
      simpa [e] using this
    · have e : cntQ (a :: t) v = 0 := by rw [cntQ, if_neg ha]
      simpa [e] using ha
theorem insQ_put : ∀ (l : List Rat) (x : Rat), (∀ h : cntQ l x < l.length, l[cntQ l x] ≠ x) → insQ l x = l.take (cntQ l x) ++ [x] ++ l.drop (cntQ l x)
  | [], x, _ => rfl
  | y :: t, x, h => by
    by_cases hy : y < x
    · have e : cntQ (y :: t) x = cntQ t x + 1 := by rw [cntQ, if_pos hy]
      simp only [e] at h ⊢
      rw [insQ, if_pos hy, insQ_put t x (fun h2 => by have := h (by simpa using h2); simpa using this)]
      rfl
    · have e : cntQ (y :: t) x = 0 := by rw [cntQ, if_neg hy]
      simp only [e] at h ⊢
      have h3 : y ≠ x := h (by simp)
      rw [insQ, if_neg hy, if_neg h3]
      rfl
theorem insQ_has : ∀ (l : List Rat) (x : Rat) (h : cntQ l x < l.length), l[cntQ l x] = x → insQ l x = l
  | [], x, h, _ => by cases h
  | y :: t, x, h, he => by
    by_cases hy : y < x
    · have e : cntQ (y :: t) x = cntQ t x + 1 := by rw [cntQ, if_pos hy]
      simp only [e] at h he
      rw [insQ, if_pos hy, insQ_has t x (by simpa using h) (by simpa using he)]
    · have e : cntQ (y :: t) x = 0 := by rw [cntQ, if_neg hy]
      simp only [e] at h he
      have h3 : y = x := he
      rw [insQ, if_neg hy, if_pos h3]
/-- The ends behind i spans, and behind j ends of the next one. -/
def endI (l : List SQ) (i : Nat) : List Rat := endsZ (l.take i)
def endJ (out : List Rat) (a : SQ) : Nat → List Rat
  | 0 => out
  | 1 => insQ out a.1
  | _ => endsF out a
def xJ (a : SQ) (j : Nat) : Rat := if j = 0 then a.1 else a.2
theorem endJ_succ (out : List Rat) (a : SQ) (j : Nat) (h : j < 2) : endJ out a (j + 1) = insQ (endJ out a j) (xJ a j) := by
  match j, h with
  | 0, _ => rfl
  | 1, _ => rfl
theorem endI_succ (l : List SQ) (i : Nat) (h : i < l.length) : endI l (i + 1) = endJ (endI l i) l[i] 2 := by
  unfold endI endsZ
  rw [List.take_succ_eq_append_getElem h, List.foldl_append]; rfl
theorem endI_end (l : List SQ) : endI l l.length = endsZ l := by unfold endI; rw [List.take_length]
theorem endJ_mem {out : List Rat} {a : SQ} {P : Rat → Prop} (ho : ∀ v ∈ out, P v) (h1 : P a.1) (h2 : P a.2) : ∀ j, ∀ v ∈ endJ out a j, P v
  | 0, v, h => ho v h
  | 1, v, h => by
    rcases (insQ_mem _ _ _).1 h with rfl | h
    · exact h1
    · exact ho v h
  | j + 2, v, h => by
    rcases (insQ_mem _ _ _).1 h with rfl | h
    · exact h2
    · rcases (insQ_mem _ _ _).1 h with rfl | h
      · exact h1
      · exact ho v h
theorem endJ_len (out : List Rat) (a : SQ) : ∀ j, (endJ out a j).length ≤ out.length + 2
  | 0 => by show out.length ≤ _; omega
  | 1 => by have := insQ_size out a.1; show (insQ out a.1).length ≤ _; omega
  | j + 2 => by
    have h1 := insQ_size out a.1
    have h2 := insQ_size (insQ out a.1) a.2
    show (insQ (insQ out a.1) a.2).length ≤ _
    omega
theorem endI_mem {l : List SQ} {P : Rat → Prop} (h : ∀ s ∈ l, P s.1 ∧ P s.2) (i : Nat) : ∀ v ∈ endI l i, P v := fun v hv => by
  obtain ⟨s, hs, e⟩ := ((endsZ_ok (l.take i)).2 v).1 hv
  have := h s (List.mem_of_mem_take hs)
  rcases e with rfl | rfl
  · exact this.1
  · exact this.2
theorem endI_len (l : List SQ) (i : Nat) (hi : i ≤ l.length) : (endI l i).length ≤ 2 * i := by
  have := endsZ_size (l.take i)
  rw [List.length_take, Nat.min_eq_left hi] at this
  exact this
end M
/-- A slice of texts that is nil, or lies in a block. -/
def SrcR (w : World) (v : Value) (l : List (List UInt8)) : Prop :=
  (v = .slice none 0 0 ∧ l = []) ∨ ∃ b o cap, v = .slice (some ⟨b, o, none⟩) l.length cap ∧ ∀ j u, (Strs l)[j]? = some u → w.cell? ⟨b, o + j, none⟩ = some u
/-- The texts lie at ⟨b, o⟩. -/
structure RSl (w : World) (b o : Nat) (l : List (List UInt8)) : Prop where
  lt : b < w.heap.size
  val : ∀ i (h : i < l.length), w.cell? ⟨b, o + i, none⟩ = some (.string (bs l[i]))
theorem RSl.below' {w w' : World} {b o : Nat} {l : List (List UInt8)} (h : RSl w b o l) (hb : Below w.heap.size w w') : RSl w' b o l :=
  ⟨Nat.lt_of_lt_of_le h.lt hb.size, fun i hi => (hb.cell (by exact h.lt)).trans (h.val i hi)⟩
theorem RSl.take {w : World} {b o : Nat} {l : List (List UInt8)} (h : RSl w b o l) (k : Nat) : RSl w b o (l.take k) :=
  ⟨h.lt, fun i hi => by
    have h2 : i < l.length := by rw [List.length_take] at hi; omega
    rw [h.val i h2, List.getElem_take]⟩
theorem RSl.drop {w : World} {b o : Nat} {l : List (List UInt8)} (h : RSl w b o l) (k : Nat) : RSl w b (o + k) (l.drop k) :=
  ⟨h.lt, fun i hi => by
    have h2 : k + i < l.length := by rw [List.length_drop] at hi; omega
    rw [List.getElem_drop, ← h.val (k + i) h2]
    congr 2; omega⟩
theorem SrcR.of {w : World} {b o cap n : Nat} {l : List (List UInt8)} (h : RSl w b o l) (hn : n = l.length) : SrcR w (.slice (some ⟨b, o, none⟩) n cap) l :=
  Or.inr ⟨b, o, cap, by rw [hn], fun j u hj => by
    have hj2 : j < l.length := by
      have := (List.getElem?_eq_some_iff.1 hj).1
      simpa [Strs] using this
    have : (Strs l)[j]? = some (.string (bs l[j])) := by simp [Strs, hj2]
    rw [this] at hj
    rw [h.val j hj2, Option.some.inj hj]⟩
theorem SrcR.nil (w : World) : SrcR w (.slice none 0 0) [] := Or.inl ⟨rfl, rfl⟩
theorem SrcR.cut {w : World} {g k n gc : Nat} {l : List (List UInt8)} (hl : l.length = n - k) (h : RSl w g (0 + k) l) (hn : n ≤ gc) :
    SrcR w (.slice (if gc = k then some ⟨g, 0, none⟩ else some ⟨g, k, none⟩) (n - k) (gc - k)) l := by
  rw [Nat.zero_add] at h
  split
  · have h0 : l = [] := List.length_eq_zero_iff.1 (by omega)
    subst h0
    exact Or.inr ⟨g, 0, _, by rw [← hl], fun j u hj => by simp [Strs] at hj⟩
  · exact SrcR.of h hl.symm
theorem SrcR.row {w : World} {b : Nat} {p : List UInt8} (h : Row w b 22 [.string (bs p)]) : SrcR w (.slice (some ⟨b, 0, none⟩) 1 1) [p] :=
  SrcR.of ⟨h.lt, fun i hi => by
    obtain rfl : i = 0 := by simpa using hi
    exact h.cell rfl⟩ rfl
theorem SrcR.new (w : World) (p : List UInt8) : SrcR (w.alloc (.cells #[.string (bs p)] 22 (0, 0))) (.slice (some ⟨w.heap.size, 0, none⟩) 1 1) [p] := SrcR.row rnw
theorem OwnS.forms2 {w : World} {B : Nat} {v : Value} {l : List (List UInt8)} (h : OwnS w B v l) : (v = .slice none 0 0 ∧ l = []) ∨ ∃ g cap, v = .slice (some ⟨g, 0, none⟩) l.length cap ∧ l.length ≤ cap ∧ cap ≤ maxLen ∧ RSl w g 0 l := by
  have hlt := World.ownsRow.lt h
  obtain ⟨h1, h2⟩ := h
  rcases h2 with ⟨hv, hn⟩ | ⟨g, cap, cur, hv, hB, hh, hc, hm, _, ht⟩
  · exact Or.inl ⟨hv, List.length_eq_zero_iff.1 hn⟩
  · refine Or.inr ⟨g, cap, hv, hc, hm, (hlt g (by rw [hv]; rfl)).2, fun i hi => ?_⟩
    have : (Strs l)[i]? = some (.string (bs l[i])) := by simp [Strs, hi]
    rw [← ht, List.getElem?_take] at this
    split at this
    · rw [Nat.zero_add]; simp [World.cell?, hh]; simpa using this
    · cases this
theorem OwnS.fresh (w : World) (B A : Nat) (hA : A = w.heap.size) (hB : B ≤ A) : OwnS (w.alloc (.cells #[] 22 (0, 0))) B (.slice (some ⟨A, 0, none⟩) 0 0) [] := by
  subst hA
  refine ⟨rfl, Or.inr ⟨w.heap.size, 0, #[], rfl, hB, ?_, Nat.le_refl _, by unfold maxLen; omega, rfl, rfl⟩⟩
  show (w.heap.push _)[w.heap.size]? = _
  simp
theorem step_app_r {ops : Array Oper} {o : Oper} {a : Act} {K : Act → World → Prop} {Q : Exit → Act → World → Prop} {E : Prop} {w : World} {B : Nat} {v xv : Value} {l m : List (List UInt8)} (hgd : o.guard = none) (s x : Operand)
    (ho : o.op = .call { callee := .builtin .append, args := #[s, x], argTypes := #[113, 113] }) (hs : a.eval s = v) (hx : a.eval x = xv)
    (h : OwnS w B v l) (hsrc : SrcR w xv m) (hB : B ≤ w.heap.size) (hn : l.length + m.length ≤ 1000000000)
    (hK : ∀ v' w', OwnS w' B v' (l ++ m) → w.grownBy w' v.ownBlock → K (a.put o.dst v') w') : if Region.wanted o (yielded ops a.tmps) = true then Oper.wp Tryz.prog o a w K Q else E := by
  have hw : Region.wanted o (yielded ops a.tmps) = true := by simp [Region.wanted, hgd]
  rw [if_pos hw]
  have hr : ∃ v' w', (Builtin.append_ #[113, 113] o.type #[v, xv]).run Tryz.prog w = .ok v' w' ∧ OwnS w' B v' (l ++ m) ∧ w.grownBy w' v.ownBlock := by
    obtain ⟨i, h1, h2, h3, h4⟩ := info_parts infoRt
    rcases hsrc with ⟨rfl, rfl⟩ | ⟨b, o2, cap, rfl, hc⟩
    · refine ⟨v, w, run_append_owned_none (P := Tryz.prog) (w := w) B _ o.type _ i 1 Tryz.underlying113 h1 v l.length (Strs l) h, ?_, grown_refl _ _⟩
      rw [List.append_nil]; exact h
    · have hadd : ∀ j, (⟨b, o2, none⟩ : Addr).add j = ⟨b, o2 + j, none⟩ := fun j => by unfold Addr.add; split <;> simp_all
      obtain ⟨v', w', k1, k2, k3, _⟩ := run_append_own (P := Tryz.prog) w B _ o.type _ i _ 1 16 Tryz.underlying113 h1 h2 h3 h4 rfl (by decide) v l.length (Strs l) h ⟨b, o2, none⟩ m.length cap (Strs m) (by simp [Strs])
        (fun j u hj => by rw [hadd]; exact hc j u hj) (fun u hu => by simp [Strs] at hu; obtain ⟨_, _, rfl⟩ := hu; rfl) (by unfold maxLen; omega) (by omega) hB
      refine ⟨v', w', k1, ?_, k3⟩
      unfold OwnS
      rw [List.length_append, show Strs (l ++ m) = Strs l ++ Strs m by simp [Strs]]
      exact k2
  obtain ⟨v', w', hr, h2, h3⟩ := hr
  unfold Oper.wp execOp
  simp only [ho, resolve, invoke, builtin, Sem.run_bind, Sem.run_pure, Result.andThen_ok, List.map_toArray, List.map_cons, List.map_nil, hs, hx, hr]
  exact hK v' w' h2 h3
theorem app_belS {W w w' : World} {B : Nat} {v : Value} {l : List (List UInt8)} (h : OwnS w B v l) (hb : Below W.heap.size W w) (hB : W.heap.size ≤ B) (hg : w.grownBy w' v.ownBlock) : Below W.heap.size W w' :=
  hb.grown hg hb.size fun k hk => Nat.le_trans hB (World.ownsRow.lt h k hk).1
/-- A list of texts that is made behind W. -/
def ApS (W W' : World) (v : Value) (l : List (List UInt8)) : Prop := OwnS W' W.heap.size v l ∧ Below W.heap.size W W'
theorem ApS.to {W W1 W2 : World} {v : Value} {l : List (List UInt8)} (h : ApS W W1 v l) (hb : Below W1.heap.size W1 W2) : ApS W W2 v l := ⟨h.1.below hb, h.2.trans (hb.mono h.2.size)⟩
end Go.Proofs.YtpjaoapnangccaaGreatDoor
