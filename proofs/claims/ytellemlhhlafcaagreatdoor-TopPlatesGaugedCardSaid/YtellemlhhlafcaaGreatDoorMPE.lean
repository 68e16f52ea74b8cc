/-
  Chapter 49 of the program: 'Margins', 'Safe' at right joints.
-/
import Derived.Test.YtellemlhhlafcaaGreatDoorMPD
section
namespace Go.Proofs.YtellemlhhlafcaaGreatDoor
open Go Go.RowKit Go.Deep Go.Sort
namespace W
open M
attribute [local go_sem] bs_size bs_toList bs_get bs_extract bs_append bs_lit0 bs_lit1 lit1_bs
set_option maxHeartbeats 2000000
set_option maxRecDepth 20000
def MgP (A B : List Tg) (w : World) (e : Ending) (w' : World) : Prop := ∃ v, e = .returned (.tuple #[v, .int .i64 0]) ∧ RdI w' v (mgL A B) ∧ Below w.heap.size w w'
theorem amargins (va vb : Value) (A B : List Tg) (w : World) (hs : Sig w) (ha : RdG w va A) (hb : RdG w vb B) (h : RightC A B) : Calls Tryz.prog 85 #[joV va vb] w (MgP A B w) := by
  have HCK := Lib.hid (fun W (hW : Below w.heap.size w W) => acheck va vb A B W (ha.below hW) (hb.below hW) h)
  have HAB := Lib.hid (And.intro ha hb)
  have h16 := h.h1
  have HL := Lib.hid h.len
  have HG := Lib.hid (fun i (hi : i < A.length) (hj : i < B.length) => prN_ok (h.ok i hi hj))
  have HVA := Lib.hid (fun i (hi : i < A.length) (hj : i < B.length) W (hW : Below w.heap.size w W) => bvirtual A[i] W (hs.below hW) (HG.out i hi hj).1 (HG.out i hi hj).2.2.1)
  have HVB := Lib.hid (fun i (hi : i < A.length) (hj : i < B.length) W (hW : Below w.heap.size w W) => bvirtual B[i] W (hs.below hW) (HG.out i hi hj).2.1 (HG.out i hi hj).2.2.2.1)
  have HTK := Lib.hid (fun i (hi : i < A.length) (hj : i < B.length) => show (mgL A B).take (i + 1) = (mgL A B).take i ++ [mgJ A[i] B[i]] from by
    rw [List.take_succ_eq_append_getElem (by rw [mgL_len h.len]; exact hi), mgL_get h.len i hi])
  have HFU : Hid ((mgL A B).take A.length = mgL A B) := Lib.hid (List.take_of_length_le (by rw [mgL_len h.len]; omega))
  have HLT := Lib.hid (fun i (hi : i ≤ A.length) => show ((mgL A B).take i).length = i from by rw [List.length_take, mgL_len h.len]; omega)
  obtain ⟨Aa, ca, rfl⟩ := ha.len
  obtain ⟨Ab, cb, rfl⟩ := hb.len
  have hb0 := bel_al w (.cells #[.slice Aa A.length ca, .slice Ab B.length cb] 70 (0, 0))
  have hr0 : Row (w.alloc (.cells #[.slice Aa A.length ca, .slice Ab B.length cb] 70 (0, 0))) w.heap.size 70 [.slice Aa A.length ca, .slice Ab B.length cb] := rnw
  have HR := Lib.hid (And.intro hr0 hb0)
  have r0 := hr0.cell (i := 0) rfl
  have r1 := hr0.cell (i := 1) rfl
  clear ha hb hb0 hr0 h hs
  unfold MgP
  generalize mgL A B = ml at *
  unfold joV at HCK ⊢
  go_enter Tryz.func85, Tryz.ntmps85
  go_wp2_with fail
  refine (HCK.out _ HR.out.2).mono ?_
  rintro e w1 ⟨rfl, hb1⟩
  have H1 := Lib.hid (And.intro (HR.out.1.below' hb1) (bel_to HR.out.2 hb1))
  clear hb1 HR HCK r0 r1
  have r0 := H1.out.1.cell (i := 0) rfl
  have r1 := H1.out.1.cell (i := 1) rfl
  go_wp2
  go_loopw [5, 20] (fun ov iv wr => ∃ (i : Nat) (vo : Value), iv = .int .i64 (i : Int) ∧ ov = vo ∧ i ≤ A.length ∧ Hid (Row wr w.heap.size 70 [.slice Aa A.length ca, .slice Ab B.length cb] ∧ OwnI wr (w.heap.size + 1) vo (ml.take i) ∧ Below w.heap.size w wr)) (fun _ iv _ => A.length - (intOf iv).toNat)
  case atStart => exact ⟨0, _, rfl, rfl, by omega, Lib.hid ⟨H1.out.1, by rw [List.take_zero]; exact World.ownsRow_nil _ _ _ _, H1.out.2⟩⟩
  case round =>
    clear H1 r0 r1
    obtain ⟨i, vo, rfl, e4, hi, hk⟩ := hrel
    obtain ⟨VA, vn, vc, hv⟩ := hk.out.2.1.shape
    subst hv
    subst e4
    by_cases hlt : i < A.length
    · have hlb : i < B.length := by have := HL.out; omega
      obtain ⟨q1, o1, rfl, hw⟩ := HAB.out.1.row i hlt
      obtain ⟨q2, o2, rfl, hv⟩ := HAB.out.2.row i hlb
      obtain ⟨c0, c1, c2, c3, c4, c5, c6⟩ := (hw.below' hk.out.2.2).val i hlt
      have HBV := Lib.hid (fun W (hW : Below w.heap.size w W) => (hv.below' hW).val i hlb)
      have hi0 : (0 : Int) ≤ (i : Int) := by omega
      have hit : (i : Int) < (A.length : Int) := by omega
      have hic : (i : Int) < (B.length : Int) := by omega
      obtain ⟨ta, tb, ma, mb, -, -, -⟩ := HG.out i hlt hlb
      have va1 := virt_rng ta
      have vb1 := virt_rng tb
      have HNA := Lib.hid (HVA.out i hlt hlb)
      have HNB := Lib.hid (HVB.out i hlt hlb)
      have HTK1 := Lib.hid (HTK.out i hlt hlb)
      have HLT1 := Lib.hid (HLT.out i (by omega))
      unfold mgJ at HTK1
      clear hw hv ta tb ma mb
      unfold tgV at HNA HNB
      generalize virt A[i] = na at *
      generalize virt B[i] = nb at *
      have hw1 : wrap64 (na - nb) = na - nb := IntWalk.wrap64_in _ (by omega)
      have hw2 : wrap64 (nb - na) = nb - na := IntWalk.wrap64_in _ (by omega)
      generalize A[i].x = ax at *
      generalize A[i].y = ay at *
      generalize A[i].lo = al at *
      generalize A[i].hi = ah at *
      generalize A[i].tol = at_ at *
      generalize A[i].mat = am at *
      generalize A[i].pin = ap at *
      generalize B[i].x = bx at *
      generalize B[i].y = bY at *
      generalize B[i].lo = bl at *
      generalize B[i].hi = bh at *
      generalize B[i].tol = bt at *
      generalize B[i].mat = bm at *
      generalize B[i].pin = bp at *
      have r0 := hk.out.1.cell (i := 0) rfl
      have hal := bel_al wr (.cells #[.int .i64 ax, .int .i64 ay, .int .i64 al, .int .i64 ah, .int .i64 at_, .int .i64 am, .bool ap] 27 (0, 0))
      have hrt : Row (wr.alloc (.cells #[.int .i64 ax, .int .i64 ay, .int .i64 al, .int .i64 ah, .int .i64 at_, .int .i64 am, .bool ap] 27 (0, 0))) wr.heap.size 27 [.int .i64 ax, .int .i64 ay, .int .i64 al, .int .i64 ah, .int .i64 at_, .int .i64 am, .bool ap] := rnw
      have H2 := Lib.hid (And.intro (hk.out.1.below' hal) (And.intro (hk.out.2.1.below hal) (And.intro (bel_to hk.out.2.2 hal) hrt)))
      clear hal hrt hk
      go_wp2_with fail
      refine (HNA.out _ H2.out.2.2.1).mono ?_
      rintro e w3 ⟨rfl, hb3⟩
      have H3 := Lib.hid (And.intro (H2.out.1.below' hb3) (And.intro (H2.out.2.1.below hb3) (And.intro (bel_to H2.out.2.2.1 hb3) (H2.out.2.2.2.below' hb3))))
      clear hb3 H2 HNA c0 c1 c2 c3 c4 c5 c6 r0
      generalize wr.heap.size = gt at *
      have r1 := H3.out.1.cell (i := 1) rfl
      obtain ⟨e0, e1, e2, e3, e4, e5, e6⟩ := HBV.out _ H3.out.2.2.1
      go_wp2_with fail
      refine (HNB.out _ H3.out.2.2.1).mono ?_
      rintro e w4 ⟨rfl, hb4⟩
      have H6 := Lib.hid (And.intro (H3.out.1.below' hb4) (And.intro (H3.out.2.1.below hb4) (And.intro (bel_to H3.out.2.2.1 hb4) (H3.out.2.2.2.below' hb4))))
      clear hb4 H3 HNB e0 e1 e2 e3 e4 e5 e6 r1 HBV
      have x6 := H6.out.2.2.2.cell (i := 6) rfl
      obtain ⟨iI, s1, s2, s3, s4⟩ := info_parts infoInt
      cases ap with
      | true =>
        rw [if_pos rfl] at HTK1
        go_wp2_with (at_builtin; refine wpList_app_g (t := 45) (v := .slice VA vn vc) Tryz.underlying45 s1 s2 s3 s4 rfl rfl _ _ rfl rfl rfl rfl H6.out.2.1 (by have := H6.out.1.lt; omega) (.int .i64 (nb - na)) rfl (by rw [HLT1.out]; omega) (by decide) ?_; intro g2 cap2 w10 ho2 hk3)
        have HN := Lib.hid (And.intro (row_grownR (H6.out.1.below' (bel_al _ _)) H6.out.2.1 hk3 (by omega)) (And.intro (by rw [HTK1.out]; exact own_appI ho2 : OwnI w10 (w.heap.size + 1) (.slice (some ⟨g2, 0, none⟩) ((ml.take i).length + 1) cap2) (ml.take (i + 1))) ((bel_to H6.out.2.2.1 (bel_al _ _)).grown hk3 (bel_to H6.out.2.2.1 (bel_al _ _)).size fun k hk => by have := (World.ownsRow.lt H6.out.2.1 k hk).1; omega)))
        clear ho2 hk3 H6
        go_wp2
        go_roundw
        case rel => exact ⟨i + 1, _, by go_num, rfl, by omega, Lib.hid (by have h := HN.out; rwa [List.length_take] at h)⟩
        case measure => simp [intOf]; omega
      | false =>
        rw [if_neg (by decide)] at HTK1
        go_wp2_with (at_builtin; refine wpList_app_g (t := 45) (v := .slice VA vn vc) Tryz.underlying45 s1 s2 s3 s4 rfl rfl _ _ rfl rfl rfl rfl H6.out.2.1 (by have := H6.out.1.lt; omega) (.int .i64 (na - nb)) rfl (by rw [HLT1.out]; omega) (by decide) ?_; intro g2 cap2 w10 ho2 hk3)
        have HN := Lib.hid (And.intro (row_grownR (H6.out.1.below' (bel_al _ _)) H6.out.2.1 hk3 (by omega)) (And.intro (by rw [HTK1.out]; exact own_appI ho2 : OwnI w10 (w.heap.size + 1) (.slice (some ⟨g2, 0, none⟩) ((ml.take i).length + 1) cap2) (ml.take (i + 1))) ((bel_to H6.out.2.2.1 (bel_al _ _)).grown hk3 (bel_to H6.out.2.2.1 (bel_al _ _)).size fun k hk => by have := (World.ownsRow.lt H6.out.2.1 k hk).1; omega)))
        clear ho2 hk3 H6
        go_wp2
        go_roundw
        case rel => exact ⟨i + 1, _, by go_num, rfl, by omega, Lib.hid (by have h := HN.out; rwa [List.length_take] at h)⟩
        case measure => simp [intOf]; omega
    · obtain rfl : A.length = i := by omega
      have hk2 := hk.out
      rw [HFU.out] at hk2
      have HK := Lib.hid hk2
      clear hk hk2
      have r0 := HK.out.1.cell (i := 0) rfl
      obtain ⟨VR, vc2, hve⟩ := HK.out.2.1.rd.len
      cases hve
      go_wp2
      refine bodyPost_ret (v := .tuple #[.slice VA ml.length vc, .int .i64 0]) (by simp [results, Tryz.results85, go_sem]) rfl ⟨_, rfl, HK.out.2.1.rd, HK.out.2.2⟩
theorem asafe (va vb : Value) (A B : List Tg) (w : World) (hs : Sig w) (ha : RdG w va A) (hb : RdG w vb B) (h : RightC A B) (hm : ∀ x ∈ mgL A B, 0 ≤ x) : Calls Tryz.prog 46 #[joV va vb] w (Ret w (.tuple #[.bool true, .int .i64 0])) := by
  have HMG := Lib.hid (fun W (hW : Below w.heap.size w W) => amargins va vb A B W (hs.below hW) (ha.below hW) (hb.below hW) h)
  have hml := mgL_len h.len
  have h16 := h.h1
  have HFL := Lib.hid (fun vl W (hl : RdI W vl (mgL A B)) => afiltered vl (mgL A B) W hl (by rw [hml]; exact h16))
  unfold MgP at HMG
  unfold FlP at HFL
  obtain ⟨Aa, ca, rfl⟩ := ha.len
  obtain ⟨Ab, cb, rfl⟩ := hb.len
  have hb0 := bel_al w (.cells #[.slice Aa A.length ca, .slice Ab B.length cb] 70 (0, 0))
  have hr0 : Row (w.alloc (.cells #[.slice Aa A.length ca, .slice Ab B.length cb] 70 (0, 0))) w.heap.size 70 [.slice Aa A.length ca, .slice Ab B.length cb] := rnw
  have HR := Lib.hid (And.intro hr0 hb0)
  have r0 := hr0.cell (i := 0) rfl
  have r1 := hr0.cell (i := 1) rfl
  have HM := Lib.hid hm
  clear ha hb hb0 hr0 h hs hml hm
  unfold joV at HMG ⊢
  go_enter Tryz.func46, Tryz.ntmps46
  go_wp2_with fail
  refine (HMG.out _ HR.out.2).mono ?_
  rintro e w2 ⟨v, rfl, ho, hb2⟩
  obtain ⟨VA, vc, hve⟩ := ho.len
  subst hve
  have H2 := Lib.hid (And.intro ho (bel_to HR.out.2 hb2))
  clear hb2 ho HR HMG r0 r1
  go_wp2_with fail
  refine (HFL.out _ _ H2.out.1).mono ?_
  rintro e w3 ⟨FA, fn, fc, rfl, hfn, hb3⟩
  have H3 := Lib.hid (bel_to H2.out.2 hb3)
  obtain rfl : fn = 0 := hfn.2 HM.out
  clear hb3 H2 HFL hfn HM
  go_wp2
  refine bodyPost_ret (v := .tuple #[.bool true, .int .i64 0]) (by simp [results, Tryz.results46, go_sem]) rfl (Ret.of rfl H3.out)
end W
end Go.Proofs.YtellemlhhlafcaaGreatDoor
end
