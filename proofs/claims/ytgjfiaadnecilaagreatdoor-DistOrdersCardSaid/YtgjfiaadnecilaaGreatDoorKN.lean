/-
  Chapter 26, the reference: 'Moved' and 'Scale'.
  Chapter 26, the reference: 'Scale'.
  Chapter 26: the law 'DistChanges', walked.
-/
import Derived.Test.YtgjfiaadnecilaaGreatDoorKM
import Derived.Test.YtgjfiaadnecilaaGreatDoorKK
namespace Go.Proofs.YtgjfiaadnecilaaGreatDoor
open Go Go.RowKit Go.Deep
namespace M
theorem RightZ.pair : ∀ {l : List ZT} {p : Option Int}, RightZ p l → l.Pairwise (fun a b => a.1 < b.1) ∧ ∀ x ∈ l, ∀ u, p = some u → u < x.1
  | [], _, _ => ⟨List.Pairwise.nil, fun x hx => by cases hx⟩
  | a :: t, p, h => by
    obtain ⟨h1, h2, h3, h4, h5⟩ := h
    obtain ⟨k1, k2⟩ := RightZ.pair h5
    refine ⟨List.Pairwise.cons (fun x hx => k2 x hx a.1 rfl) k1, fun x hx u hu => ?_⟩
    rcases List.mem_cons.1 hx with rfl | hx
    · exact h4 u hu
    · have := k2 x hx a.1 rfl
      have := h4 u hu
      omega
theorem insZ_end : ∀ (l : List ZT) (x : ZT), (∀ y ∈ l, y.1 < x.1) → insZ l x = l ++ [x]
  | [], _, _ => rfl
  | y :: t, x, h => by
    rw [insZ, if_pos (h y List.mem_cons_self), insZ_end t x (fun z hz => h z (List.mem_cons_of_mem _ hz))]
    rfl
theorem insZ_front (l : List ZT) (x : ZT) (h : ∀ y ∈ l, x.1 < y.1) : insZ l x = x :: l := by
  cases l with
  | nil => rfl
  | cons y t =>
    have := h y List.mem_cons_self
    rw [insZ, if_neg (by omega), if_neg (by omega)]
theorem fold_asc : ∀ (l acc : List ZT), l.Pairwise (fun a b => a.1 < b.1) → (∀ x ∈ acc, ∀ y ∈ l, x.1 < y.1) → l.foldl insZ acc = acc ++ l
  | [], acc, _, _ => by simp
  | a :: t, acc, hp, ha => by
    obtain ⟨h1, h2⟩ := List.pairwise_cons.1 hp
    rw [List.foldl_cons, insZ_end acc a (fun y hy => ha y hy a List.mem_cons_self), fold_asc t (acc ++ [a]) h2 (fun x hx y hy => by
      rcases List.mem_append.1 hx with hx | hx
      · exact ha x hx y (List.mem_cons_of_mem _ hy)
      · rw [List.mem_singleton.1 hx]; exact h1 y hy)]
    simp
theorem fold_desc : ∀ (l acc : List ZT), l.Pairwise (fun a b => b.1 < a.1) → (∀ x ∈ acc, ∀ y ∈ l, y.1 < x.1) → l.foldl insZ acc = l.reverse ++ acc
  | [], acc, _, _ => by simp
  | a :: t, acc, hp, ha => by
    obtain ⟨h1, h2⟩ := List.pairwise_cons.1 hp
    rw [List.foldl_cons, insZ_front acc a (fun y hy => ha y hy a List.mem_cons_self), fold_desc t (a :: acc) h2 (fun x hx y hy => by
      rcases List.mem_cons.1 hx with rfl | hx
      · exact h1 y hy
      · exact ha x hx y (List.mem_cons_of_mem _ hy))]
    simp
theorem nzF_all {l : List ZT} (h : ∀ x ∈ l, x.2 ≠ 0) : nzF l = l := by
  unfold nzF
  rw [List.filter_eq_self]
  intro x hx
  simp [h x hx]
theorem gath_sc {zl : List ZT} {k y : Int} (h : RightZ none zl) (h0 : k ≠ 0) : gathF (scZ k y zl) = scR k y zl := by
  have hp := h.pair.1
  have hm := h.mem
  have hw : ∀ x ∈ scZ k y zl, x.2 ≠ 0 := by
    intro x hx
    unfold scZ at hx
    obtain ⟨z, hz, rfl⟩ := List.mem_map.1 hx
    have := (hm z hz).1
    show z.2 ≠ 0
    omega
  unfold gathF gathZ scR
  by_cases hk : k < 0
  · rw [if_pos hk, fold_desc _ [] (by
      unfold scZ
      rw [List.pairwise_map]
      refine hp.imp ?_
      intro a b hab
      have := Int.mul_lt_mul_of_neg_left hab hk
      show k * b.1 + y < k * a.1 + y
      omega) (fun x hx => by cases hx), List.append_nil, nzF_all]
    intro x hx
    exact hw x (List.mem_reverse.1 hx)
  · rw [if_neg hk, fold_asc _ [] (by
      unfold scZ
      rw [List.pairwise_map]
      refine hp.imp ?_
      intro a b hab
      have := Int.mul_lt_mul_of_pos_left hab (show 0 < k by omega)
      show k * a.1 + y < k * b.1 + y
      omega) (fun x hx => by cases hx), List.nil_append, nzF_all hw]
theorem scZ_mem {zl : List ZT} {k y : Int} (h : ∀ x ∈ zl, x.2.natAbs < 10 ^ 40) : ∀ x ∈ scZ k y zl, x.2.natAbs < 10 ^ 40 := by
  intro x hx
  unfold scZ at hx
  obtain ⟨z, hz, rfl⟩ := List.mem_map.1 hx
  exact h z hz
theorem scZ_ln (k y : Int) (zl : List ZT) : (scZ k y zl).length = zl.length := by simp [scZ]
end M
namespace W
open M
attribute [local go_sem] bs_size bs_toList bs_get bs_extract bs_append bs_lit0 bs_lit1 lit1_bs
set_option maxHeartbeats 1000000
set_option maxRecDepth 20000
theorem moved_ok (zl : List ZT) (b o cap : Nat) (k y : Int) (w : World) (hw : WSl w b o (tx zl)) (h : GoodL zl) (h0 : k ≠ 0) (hk : okv k = true) (hy : okv y = true) :
    Calls Tryz.prog 75 #[.slice (some ⟨b, o, none⟩) zl.length cap, .int .i64 k, .int .i64 y] w (GathP (tx (scR k y zl)) w) := by
  have HW := Lib.hid hw
  have HV := Lib.hid (fun i (hlt : i < zl.length) => (h.1.mem _ (List.getElem_mem hlt)).2.2)
  have hl := h.2.2.1
  have hnl := List.length_pos_iff.2 h.2.1
  have hblt := hw.lt
  have HB := Lib.hid (And.intro (okv_true.1 hk) (okv_true.1 hy))
  have HGA := Lib.hid (fun g gc wx hwx => gathered_ok (scZ k y zl) g 0 gc wx hwx (by rw [scZ_ln]; omega) (scZ_mem h.2.2.2))
  rw [gath_sc h.1 h0, scZ_ln] at HGA
  generalize hrl : tx (scR k y zl) = rl at *
  clear hw h h0 hk hy hrl
  go_enter Tryz.func75, Tryz.ntmps75
  go_wp2
  go_loopw [7, 8] (fun ov iv wr => ∃ (i : Nat) (vo : Value), iv = .int .i64 (i : Int) ∧ ov = vo ∧ i ≤ zl.length ∧ Hid (OwnW wr w.heap.size vo (tx (scZ k y (zl.take i)))) ∧ Below w.heap.size w wr) (fun _ iv _ => zl.length - (intOf iv).toNat)
  case atStart => exact ⟨0, _, rfl, rfl, by omega, OwnW.nil _ _, Below.refl _ _⟩
  case round =>
    obtain ⟨i, ov, rfl, hvo, hil, hown, hbw⟩ := hrel
    have hvo := hvo.symm
    subst hvo
    by_cases hlt : i < zl.length
    · have hwr := HW.out.below' hbw
      have hlt' : i < (tx zl).length := by rw [tx_len]; exact hlt
      have cv := hwr.val i hlt'
      have cw := hwr.wt i hlt'
      rw [tx_get zl i hlt] at cv cw
      simp only at cv cw
      have hmb := mul_bd HB.out.1 (HV.out i hlt)
      have hyb := HB.out.2
      have hw3 : IntKind.i64.wrap (k * zl[i].1) = k * zl[i].1 := IntWalk.i64_in _ (by omega)
      have hw4 : IntKind.i64.wrap (k * zl[i].1 + y) = k * zl[i].1 + y := IntWalk.i64_in _ (by omega)
      have HTK := Lib.hid (scZ_take k y zl i hlt)
      have hlen : (tx (scZ k y (zl.take i))).length ≤ 100 := by rw [scZ_len, List.length_take]; omega
      have HO1 := Lib.hid (And.intro (OwnW.drew hown.out) (And.intro (RowKit.Below.drew hbw) (And.intro hbw.size hlen)))
      have his : (i : Int) < (zl.length : Int) := by omega
      have hi0 : (0 : Int) ≤ (i : Int) := by omega
      clear hwr hown hmb hyb hlen hlt'
      generalize I zl[i].2 = xw at *
      generalize zl[i].1 = xv at *
      go_wp2
      go_region_law (first
        | (refine step_app_rd rfl (.tmp 15) (.tmp 31) rfl rfl rfl (OwnW.alloc HO1.out.1 _) (SrcW.new _ [(k * xv + y, xw)] _ _ _ rfl rfl rfl) (by have := HO1.out.2.2.1; simp; omega) (by have := HO1.out.2.2.2; simp; omega) ?_; intro v2 w2 ho2 hk2; have hb2 := hk2 _ _ (Nat.le_refl _) (Below.alloc HO1.out.2.1 HO1.out.2.2.1 _)))
      all_goals
        go_wp2
        go_roundw
        case rel => exact ⟨i + 1, _, by go_num, rfl, by omega, by rw [HTK.out]; exact ho2, hb2⟩
        case measure => simp [intOf]; omega
    · obtain rfl : i = zl.length := by omega
      have ho := hown.out
      rw [List.take_length] at ho
      obtain ⟨g, gc, rfl, hgB, hgc, hgm, hws⟩ := OwnW.form ho (by intro e; have h1 := scZ_len k y zl; rw [e, List.length_nil] at h1; omega)
      rw [scZ_len] at hgc ⊢
      have HWS := Lib.hid hws
      have hsz := hbw.size
      clear ho hown hws
      go_wp2_with fail
      refine (HGA.out g gc _ HWS.out).mono ?_
      rintro e w1 ⟨v, rfl, ho1, hb1⟩
      have HO := Lib.hid (And.intro ho1 hb1)
      clear ho1 hb1
      go_wp2
      go_ret
      exact ⟨v, rfl, ownsRow_base HO.out.1 hsz, hbw.trans (HO.out.2.mono hsz)⟩
end W
end Go.Proofs.YtgjfiaadnecilaaGreatDoor
namespace Go.Proofs.YtgjfiaadnecilaaGreatDoor
open Go Go.RowKit Go.Deep
namespace M
theorem scR_ok (k y : Int) (zl : List ZT) : (scR k y zl).all (fun x => okv x.1) = scOk k y zl := by
  unfold scR scOk scZ
  split
  · rw [List.all_reverse, List.all_map]; rfl
  · rw [List.all_map]; rfl
theorem scR_len (k y : Int) (zl : List ZT) : (scR k y zl).length = zl.length := by unfold scR scZ; split <;> simp
theorem all_take {zl : List ZT} {i : Nat} (h : i < zl.length) (h1 : (zl.take i).all (fun x => okv x.1) = true) (h2 : okv zl[i].1 = true) : (zl.take (i + 1)).all (fun x => okv x.1) = true := by
  rw [List.take_succ_eq_append_getElem h, List.all_append, h1]; simp [h2]
theorem all_no {zl : List ZT} {i : Nat} (h : i < zl.length) (h2 : ¬ okv zl[i].1 = true) : zl.all (fun x => okv x.1) = false := by
  rw [List.all_eq_false]; exact ⟨zl[i], List.getElem_mem h, h2⟩
end M
namespace W
open M
attribute [local go_sem] bs_size bs_toList bs_get bs_extract bs_append bs_lit0 bs_lit1 lit1_bs
set_option maxHeartbeats 1000000
set_option maxRecDepth 20000
theorem rscale_bad (v : Value) (c : Nat) (k y : Int) (w : World) (hc : ChkE v c w) (h0 : c ≠ 0) : Calls Tryz.prog 32 #[v, .int .i64 k, .int .i64 y] w (Ret w (.tuple #[.slice none 0 0, .int .i64 (c : Int)])) := by
  have HC := Lib.hid hc
  have hz : ((c : Int) == 0) = false := by simp; exact h0
  clear hc h0
  go_enter Tryz.func32, Tryz.ntmps32
  go_wp2_with fail
  refine (HC.out _ (Below.refl _ _)).mono ?_
  rintro e w1 ⟨rfl, hb1⟩
  go_wp2
  go_ret2
  exact Ret.of rfl hb1
theorem rscale_zero (v : Value) (y : Int) (w : World) (hc : ChkE v 0 w) : Calls Tryz.prog 32 #[v, .int .i64 0, .int .i64 y] w (Ret w (.tuple #[.slice none 0 0, .int .i64 10])) := by
  have HC := Lib.hid hc
  clear hc
  go_enter Tryz.func32, Tryz.ntmps32
  go_wp2_with fail
  refine (HC.out _ (Below.refl _ _)).mono ?_
  rintro e w1 ⟨rfl, hb1⟩
  go_wp2
  go_ret2
  exact Ret.of rfl hb1
theorem rscale_range (v : Value) (k y : Int) (w : World) (hc : ChkE v 0 w) (h0 : k ≠ 0) (h : ¬ (okv k = true ∧ okv y = true)) : Calls Tryz.prog 32 #[v, .int .i64 k, .int .i64 y] w (Ret w (.tuple #[.slice none 0 0, .int .i64 2])) := by
  have HC := Lib.hid hc
  have hk0 : (k == 0) = false := by simp; exact h0
  have HK := Lib.hid (fun w' => value_any k w')
  have HY := Lib.hid (fun w' => value_any y w')
  by_cases hk : okv k = true
  · have hy : okv y = false := Bool.eq_false_iff.2 (fun h2 => h ⟨hk, h2⟩)
    rw [hk] at HK
    rw [hy] at HY
    clear hc h0 h hk hy
    go_enter Tryz.func32, Tryz.ntmps32
    go_wp2_with fail
    refine (HC.out _ (Below.refl _ _)).mono ?_
    rintro e w1 ⟨rfl, hb1⟩
    go_wp2_with fail
    refine (HK.out _).mono ?_
    rintro e w' ⟨rfl, rfl⟩
    go_wp2_with fail
    refine (HY.out _).mono ?_
    rintro e w' ⟨rfl, rfl⟩
    go_wp2
    go_ret2
    exact Ret.of rfl hb1
  · rw [Bool.eq_false_iff.2 hk] at HK
    clear hc h0 h hk
    go_enter Tryz.func32, Tryz.ntmps32
    go_wp2_with fail
    refine (HC.out _ (Below.refl _ _)).mono ?_
    rintro e w1 ⟨rfl, hb1⟩
    go_wp2_with fail
    refine (HK.out _).mono ?_
    rintro e w' ⟨rfl, rfl⟩
    go_wp2
    go_ret2
    exact Ret.of rfl hb1
theorem rscale_ok (zl : List ZT) (b o cap : Nat) (k y : Int) (w : World) (hw : WSl w b o (tx zl)) (h : GoodL zl) (h0 : k ≠ 0) (hk : okv k = true) (hy : okv y = true) :
    Calls Tryz.prog 32 #[.slice (some ⟨b, o, none⟩) zl.length cap, .int .i64 k, .int .i64 y] w (ListP (scOk k y zl) (tx (scR k y zl)) 2 w) := by
  have HC := Lib.hid (chke_good b o cap w hw h)
  have hk0 : (k == 0) = false := by simp; exact h0
  have HK := Lib.hid (fun w' => value_any k w')
  have HY := Lib.hid (fun w' => value_any y w')
  have HM := Lib.hid (fun wx (hb : Below w.heap.size w wx) => moved_ok zl b o cap k y wx (hw.below' hb) h h0 hk hy)
  have hnl := List.length_pos_iff.2 h.2.1
  rw [hk] at HK
  rw [hy] at HY
  rw [← scR_ok]
  have hsl : 0 < (scR k y zl).length ∧ (scR k y zl).length ≤ 100 := by rw [scR_len]; exact ⟨hnl, h.2.2.1⟩
  generalize scR k y zl = sl at *
  generalize hok : sl.all (fun x => okv x.1) = ok
  have HOK := Lib.hid hok
  clear hok hw h h0 hk hy
  go_enter Tryz.func32, Tryz.ntmps32
  go_wp2_with fail
  refine (HC.out _ (Below.refl _ _)).mono ?_
  rintro e w1 ⟨rfl, hb1⟩
  go_wp2_with fail
  refine (HK.out _).mono ?_
  rintro e w' ⟨rfl, rfl⟩
  go_wp2_with fail
  refine (HY.out _).mono ?_
  rintro e w' ⟨rfl, rfl⟩
  go_wp2_with fail
  refine (HM.out _ hb1).mono ?_
  rintro e w2 ⟨v, rfl, ho2, hb2⟩
  obtain ⟨g, gc, rfl, hgB, hgc, hgm, hws⟩ := OwnW.form ho2 (by intro e; have h1 := tx_len sl; rw [e, List.length_nil] at h1; omega)
  rw [tx_len] at hgc ho2 ⊢
  have HWS := Lib.hid hws
  have hb2' := hb1.trans (hb2.mono hb1.size)
  have HO := Lib.hid (ownsRow_base ho2 hb1.size)
  clear ho2 hws hb2
  go_wp2
  go_loopw [10] (fun iv wr => ∃ (i : Nat), iv = .int .i64 (i : Int) ∧ i ≤ sl.length ∧ Hid ((sl.take i).all (fun x => okv x.1) = true) ∧ Below w2.heap.size w2 wr) (fun iv _ => sl.length - (intOf iv).toNat)
  case atStart => exact ⟨0, rfl, by omega, rfl, Below.refl _ _⟩
  case round =>
    obtain ⟨i, rfl, hil, hak, hbw⟩ := hrel
    by_cases hlt : i < sl.length
    · have hwr := HWS.out.below' hbw
      have hlt' : i < (tx sl).length := by rw [tx_len]; exact hlt
      have cv := hwr.val i hlt'
      rw [tx_get sl i hlt, Nat.zero_add] at cv
      simp only at cv
      have HQ := Lib.hid (fun w' => value_any sl[i].1 w')
      have HA := Lib.hid (all_take hlt hak.out)
      have HN := Lib.hid (all_no hlt)
      by_cases hov : okv sl[i].1 = true
      · have hak2 := Lib.hid (HA.out hov)
        rw [hov] at HQ
        clear hwr hak hov HA HN
        generalize sl[i].1 = xv at *
        go_wp2_with fail
        refine (HQ.out _).mono ?_
        rintro e w' ⟨rfl, rfl⟩
        go_wp2
        go_roundw
        case rel => exact ⟨i + 1, by go_num, by omega, hak2, hbw⟩
        case measure => simp [intOf]; omega
      · have HF := Lib.hid ((HN.out hov).symm.trans HOK.out)
        rw [Bool.eq_false_iff.2 hov] at HQ
        clear hwr hak hov HA HN
        generalize sl[i].1 = xv at *
        go_wp2_with fail
        refine (HQ.out _).mono ?_
        rintro e w' ⟨rfl, rfl⟩
        go_wp2
        go_ret2
        rw [← HF.out]
        exact ListP.no (hb2'.trans (hbw.mono hb2'.size))
    · obtain rfl : i = sl.length := by omega
      have ha := hak.out
      rw [List.take_length] at ha
      have HF := Lib.hid (ha.symm.trans HOK.out)
      clear ha hak
      go_wp2
      go_ret2
      rw [← HF.out]
      exact ListP.yes (OwnW.below HO.out hbw) (hb2'.trans (hbw.mono hb2'.size))
end W
end Go.Proofs.YtgjfiaadnecilaaGreatDoor
namespace Go.Proofs.YtgjfiaadnecilaaGreatDoor
open Go Go.RowKit Go.Deep
/-- The call returns a list and a code. -/
def LP (l : List M.WT) (c : Int) (w : World) (e : Ending) (w' : World) : Prop := ∃ v, e = .returned (.tuple #[v, .int .i64 c]) ∧ RdW w' v l ∧ Below w.heap.size w w'
theorem RdW.nil (w : World) : RdW w (.slice none 0 0) [] := ⟨none, 0, rfl, Or.inl rfl⟩
theorem LP.ret {c : Int} {w : World} {e : Ending} {w' : World} (h : Ret w (.tuple #[.slice none 0 0, .int .i64 c]) e w') : LP [] c w e w' := ⟨_, h.1, RdW.nil _, h.2⟩
namespace W
open M
attribute [local go_sem] bs_size bs_toList bs_get bs_extract bs_append bs_lit0 bs_lit1 lit1_bs
set_option maxHeartbeats 1000000
set_option maxRecDepth 20000
theorem LP.of {ok : Bool} {l : List WT} {c : Int} {w : World} {e : Ending} {w' : World} (h : ListP ok l c w e w') : LP (if ok = true then l else []) (if ok = true then 0 else c) w e w' := by
  unfold ListP at h
  by_cases hk : ok = true
  · rw [if_pos hk] at h ⊢
    rw [if_pos hk]
    obtain ⟨v, h1, h2, h3⟩ := h
    exact ⟨v, h1, h2.rd, h3⟩
  · rw [if_neg hk] at h ⊢
    rw [if_neg hk]
    exact LP.ret h
/-- Two functions return the same list and code. -/
def BothL (f g : Nat) (args : Array Value) (l : List WT) (c : Int) (w : World) : Prop :=
  (∀ wx, Below w.heap.size w wx → Calls Tryz.prog f args wx (LP l c wx)) ∧ (∀ wx, Below w.heap.size w wx → Calls Tryz.prog g args wx (LP l c wx))
theorem scale_pair (v : Value) (l : List WT) (k y : Int) (w : World) (hg : Glob w) (hv : RdW w v l) (hn : l.length ≤ maxLen) (hf : fewB l = true) :
    ∃ (m : List WT) (c : Int) (m2 : List WT) (c2 : Int), m.length ≤ 100 ∧ m2.length ≤ 100 ∧ BothL 31 32 #[v, .int .i64 k, .int .i64 y] m c w ∧ BothL 33 34 #[v] m2 c2 w := by
  obtain ⟨c, hd, he, h0⟩ := chk_pair v l w hg hv hn hf
  by_cases hc : c = 0
  · subst hc
    obtain ⟨zl, b, o, cap, rfl, hw, hgd, hl12, _⟩ := h0 rfl
    have hR : BothL 33 34 #[.slice (some ⟨b, o, none⟩) zl.length cap] (if true = true then tx (redZ (gall zl) zl) else []) (if true = true then 0 else 0) w :=
      ⟨fun wx hx => (reduce_ok zl b o cap wx (hg.of hx) (hw.below' hx) hgd).mono fun e w' h => LP.of h, fun wx hx => (rreduce_ok zl b o cap wx (hw.below' hx) hgd).mono fun e w' h => LP.of h⟩
    have hRl : (if true = true then tx (redZ (gall zl) zl) else []).length ≤ 100 := by rw [if_pos rfl, redZ_len]; omega
    by_cases hk0 : k = 0
    · subst hk0
      exact ⟨[], 10, _, _, by simp, hRl, ⟨fun wx hx => (scale_zero _ y wx (hd.below hx)).mono fun e w' h => LP.ret h, fun wx hx => (rscale_zero _ y wx (he.below hx)).mono fun e w' h => LP.ret h⟩, hR⟩
    · by_cases hr : okv k = true ∧ okv y = true
      · refine ⟨_, _, _, _, ?_, hRl, ⟨fun wx hx => (scale_ok zl b o cap k y wx (hg.of hx) (hw.below' hx) hgd hk0 hr.1 hr.2).mono fun e w' h => LP.of h, fun wx hx => (rscale_ok zl b o cap k y wx (hw.below' hx) hgd hk0 hr.1 hr.2).mono fun e w' h => LP.of h⟩, hR⟩
        split
        · rw [tx_len, scR_len]; omega
        · simp
      · exact ⟨[], 2, _, _, by simp, hRl, ⟨fun wx hx => (scale_range _ k y wx (hd.below hx) hk0 hr).mono fun e w' h => LP.ret h, fun wx hx => (rscale_range _ k y wx (he.below hx) hk0 hr).mono fun e w' h => LP.ret h⟩, hR⟩
  · exact ⟨[], (c : Int), [], (c : Int), by simp, by simp, ⟨fun wx hx => (scale_bad v c k y wx (hd.below hx) hc).mono fun e w' h => LP.ret h, fun wx hx => (rscale_bad v c k y wx (he.below hx) hc).mono fun e w' h => LP.ret h⟩,
      ⟨fun wx hx => (reduce_bad v c wx (hd.below hx) hc).mono fun e w' h => LP.ret h, fun wx hx => (rreduce_bad v c wx (he.below hx) hc).mono fun e w' h => LP.ret h⟩⟩
theorem same_ret (va vb : Value) (l : List WT) (w : World) (ha : RdW w va l) (hb : RdW w vb l) (hl : l.length ≤ 100) : Calls Tryz.prog 30 #[va, vb] w (Ret w (.bool true)) :=
  (same_yes va vb l w ha hb (by omega)).mono fun e w' h => h.below
theorem changes_law (v : Value) (l : List WT) (k y : Int) (w : World) (hg : Glob w) (hv : RdW w v l) (hn : l.length ≤ maxLen) (hs : ∀ x ∈ l, x.2.length ≤ maxLen) :
    Calls Tryz.prog 6 #[v, .int .i64 k, .int .i64 y] w (Ret w (.bool true)) := by
  have HF := Lib.hid (few_any v l w hv hn hs)
  have HAW := Lib.hid (fun wx hgx => awake_ok wx hgx)
  by_cases hf : fewB l = true
  · obtain ⟨m, c, m2, c2, hm, hm2, ⟨s1, s2⟩, ⟨r1, r2⟩⟩ := scale_pair v l k y w hg hv hn hf
    rw [hf] at HF
    have S1 := Lib.hid s1
    have S2 := Lib.hid s2
    have R1 := Lib.hid r1
    have R2 := Lib.hid r2
    clear s1 s2 r1 r2 hv hn hs hf
    go_enter Tryz.func6, Tryz.ntmps6
    go_wp2_with fail
    refine (HF.out).mono ?_
    rintro e w' ⟨rfl, rfl⟩
    go_wp2_with fail
    refine (S1.out _ (Below.refl _ _)).mono ?_
    rintro e w1 ⟨v1, rfl, d1, hb1⟩
    go_wp2_with fail
    refine (S2.out _ hb1).mono ?_
    rintro e w2 ⟨v2, rfl, d2, hb2⟩
    have d1 := d1.below hb2
    have hb2 := Below.then hb1 hb2
    go_wp2_with fail
    refine (R1.out _ hb2).mono ?_
    rintro e w3 ⟨v3, rfl, d3, hb3⟩
    have d1 := d1.below hb3
    have d2 := d2.below hb3
    have hb3 := Below.then hb2 hb3
    go_wp2_with fail
    refine (R2.out _ hb3).mono ?_
    rintro e w4 ⟨v4, rfl, d4, hb4⟩
    have d1 := d1.below hb4
    have d2 := d2.below hb4
    have d3 := d3.below hb4
    have hb4 := Below.then hb3 hb4
    go_wp2_with fail
    refine (HAW.out _ (hg.of hb4)).mono ?_
    rintro e w5 ⟨rfl, hb5⟩
    have d1 := d1.below hb5
    have d2 := d2.below hb5
    have d3 := d3.below hb5
    have d4 := d4.below hb5
    have hb5 := Below.then hb4 hb5
    go_wp2_with fail
    refine (same_ret v1 v2 m _ d1 d2 hm).mono ?_
    rintro e w6 ⟨rfl, hb6⟩
    have d3 := d3.below hb6
    have d4 := d4.below hb6
    have hb6 := Below.then hb5 hb6
    go_wp2_with fail
    refine (same_ret v3 v4 m2 _ d3 d4 hm2).mono ?_
    rintro e w7 ⟨rfl, hb7⟩
    have hb7 := Below.then hb6 hb7
    go_wp2
    go_ret
    exact Ret.of (by simp) hb7
  · rw [Bool.eq_false_iff.2 hf] at HF
    clear hv hn hs hf
    go_enter Tryz.func6, Tryz.ntmps6
    go_wp2_with fail
    refine (HF.out).mono ?_
    rintro e w' ⟨rfl, rfl⟩
    go_wp2_with fail
    refine (HAW.out _ hg).mono ?_
    rintro e w1 ⟨rfl, hb1⟩
    go_wp2
    go_ret
    exact Ret.of rfl hb1
end W
end Go.Proofs.YtgjfiaadnecilaaGreatDoor
