/-
  Chapter 46: PatternAgrees.
-/
import Derived.Test.YtfcffheboncmbaaGreatDoorKZ
section
namespace Go.Proofs.YtfcffheboncmbaaGreatDoor
open Go Go.RowKit Go.Deep
namespace W
open M
attribute [local go_sem] bs_size bs_toList bs_get bs_extract bs_append bs_lit0 bs_lit1 lit1_bs
set_option maxHeartbeats 2000000
set_option maxRecDepth 20000
theorem agrees_not (vt vc : Value) (ts : List Tg) (cs : List Cc) (w : World) (hg : Glob w) (hs : Sig w) (ht : RdG w vt ts) (hc : RdC w vc cs) (nt : ts.length ≤ maxLen) (nc : cs.length ≤ maxLen) (hn : (decide (ts.length ≤ 5) && decide (chk46 ts cs = 0)) = false) :
    Calls Tryz.prog 11 #[vt, vc] w (Ret w (.bool true)) := by
  have hr := lright46 vt vc ts cs w ht hc nt nc
  rw [hn] at hr
  have HR := Lib.hid hr
  have HA := Lib.hid (fun W (hW : Below w.heap.size w W) => awake46 W (hg.of hW) (hs.below hW))
  obtain ⟨At, ct, rfl⟩ := ht.len
  obtain ⟨Ac, cc, rfl⟩ := hc.len
  clear hg hs ht hc nt nc hn hr
  go_enter Tryz.func11, Tryz.ntmps11
  go_wp2_with fail
  refine (HR.out).mono ?_
  rintro e w1 ⟨rfl, hb1⟩
  go_wp2_with fail
  refine (HA.out _ hb1).mono ?_
  rintro e w2 ⟨rfl, hb2⟩
  go_wp2
  go_ret
  exact Ret.of rfl (Below.then hb1 hb2)
theorem sign_le {x : Rat} : Int.sign x.num ≤ 0 ↔ x ≤ 0 := by
  rw [show x ≤ 0 ↔ 0 ≤ -x from ⟨fun h => by grind, fun h => by grind⟩, ← Rat.num_nonneg, Rat.neg_num]
  rcases Int.lt_trichotomy x.num 0 with h | h | h
  · rw [Int.sign_eq_neg_one_of_neg h]; omega
  · rw [h]; simp
  · rw [Int.sign_eq_one_of_pos h]; omega
theorem mx_bd {pl : Pl} (hne : 0 < pl.length) (f : Tg × Cc → Int) (h : ∀ p ∈ pl, (f p).natAbs < 10 ^ 8) : (mxZ (pl.map f)).natAbs < 10 ^ 8 := by
  obtain ⟨k, hk, e⟩ := mxTo_mem (pl.map f) (by simpa using hne) (pl.map f).length (Nat.le_refl _)
  have e2 : mxZ (pl.map f) = (pl.map f).getD k 0 := e
  rw [e2]
  have hk2 : k < pl.length := by simpa using hk
  rw [Sx.getD_get (pl.map f) 0 hk, List.getElem_map]
  exact h _ (List.getElem_mem hk2)
theorem shift_bq (ts : List Tg) (cs : List Cc) (h : chk46 ts cs = 0) : ∀ q ∈ [shX (ts.zip cs), shY (ts.zip cs), (0 : Rat)], Bq 30 q := by
  have hr := (chk46_iff.1 h).2.2.2
  have hl := (chk46_iff.1 h).2.2.1
  have h1 := (chk46_iff.1 h).1
  have hz : 0 < (ts.zip cs).length := by rw [List.length_zip]; omega
  intro q hq
  simp only [List.mem_cons, List.not_mem_nil, or_false] at hq
  rcases hq with rfl | rfl | rfl
  · exact (hv_bq (mx_bd hz lowX fun p hp => (end_bd (hr p hp) 1).2)).mono (by decide)
  · exact (hv_bq (mx_bd hz lowY fun p hp => (end_bd (hr p hp) 3).2)).mono (by decide)
  · exact Bq_nil.mono (by decide)
theorem agrees_a (vt vc : Value) (ts : List Tg) (cs : List Cc) (w : World) (hg : Glob w) (hs : Sig w) (ht : RdG w vt ts) (hc : RdC w vc cs) (nt : ts.length ≤ maxLen) (nc : cs.length ≤ maxLen) (h : chk46 ts cs = 0) (h5 : ts.length ≤ 5)
    (x dx dy tw : Rat) (hbx : Bq 37 x) (HE0 : ∀ (vt vc : Value) (w : World), Glob w → Sig w → RdG w vt ts → RdC w vc cs → Calls Tryz.prog 22 #[vt, vc] w (Ret w (.tuple #[.string (bs (R x)), arV (rx [dx, dy, tw]), .int .i64 0])))
    (a b c : Rat) (hb3 : ∀ q ∈ [a, b, c], Bq 30 q) (hfz : Sx.Fz (ts.zip cs) a b c 0) (hx0 : x ≤ 0) (HF0 : ∀ (vt vc : Value) (w : World), Glob w → Sig w → RdG w vt ts → RdC w vc cs → Calls Tryz.prog 16 #[vt, vc] w (FitP w (.inl [a, b, c])))
    (hsh : shOk (ts.zip cs) = true) :
    Calls Tryz.prog 11 #[vt, vc] w (Ret w (.bool true)) := by
  have hr := lright46 vt vc ts cs w ht hc nt nc
  rw [show decide (ts.length ≤ 5) = true by simp [h5], show decide (chk46 ts cs = 0) = true by simp [h], Bool.true_and] at hr
  have HR := Lib.hid hr
  have HA := Lib.hid (fun W (hW : Below w.heap.size w W) => awake46 W (hg.of hW) (hs.below hW))
  have HF := Lib.hid (fun W (hW : Below w.heap.size w W) => HF0 vt vc W (hg.of hW) (hs.below hW) (ht.below hW) (hc.below hW))
  have HE := Lib.hid (fun W (hW : Below w.heap.size w W) => HE0 vt vc W (hg.of hW) (hs.below hW) (ht.below hW) (hc.below hW))
  have HSG := Lib.hid (fun W (hW : Below w.heap.size w W) => rsign_ok x 37 W (hg.of hW) hbx (by decide))
  have hpl := fun W (hW : Below w.heap.size w W) => pshift_ok vt vc ts cs W (hg.of hW) (hs.below hW) (ht.below hW) (hc.below hW) h
  unfold shV at hpl
  rw [hsh] at hpl
  rw [if_pos rfl] at hpl
  have hm8 := shift_bq ts cs h
  have hmz := Sx.shift_fz hsh
  have hmm := fun W (hW : Below w.heap.size w W) => pacc_fz vt vc ts cs (shX (ts.zip cs)) (shY (ts.zip cs)) 0 W (hg.of hW) (hs.below hW) (ht.below hW) (hc.below hW) h h5 hm8 hmz
  rw [R_nil] at hmm
  have HM := Lib.hid hmm
  have HS := Lib.hid hpl
  have HP := Lib.hid (fun W (hW : Below w.heap.size w W) => pacc_fz vt vc ts cs a b c W (hg.of hW) (hs.below hW) (ht.below hW) (hc.below hW) h h5 hb3 hfz)
  have hsg : Int.sign x.num ≤ 0 := sign_le.2 hx0
  obtain ⟨At, ct, rfl⟩ := ht.len
  obtain ⟨Ac, cc, rfl⟩ := hc.len
  clear hg hs ht hc nt nc h h5 hr hpl HF0 HE0 hsh hbx hfz hx0 hb3
  generalize Int.sign x.num = sg at *
  clear hm8 hmz hmm
  generalize R (shX (ts.zip cs)) = tx at *
  generalize R (shY (ts.zip cs)) = ty at *
  go_enter Tryz.func11, Tryz.ntmps11
  go_wp2_with fail
  refine (HR.out).mono ?_
  rintro e w1 ⟨rfl, hb1⟩
  clear HR
  go_wp2_with fail
  refine (HF.out _ hb1).mono ?_
  rintro e w2 ⟨rfl, hb2⟩
  have hbA := bel_to (bel_to hb1 hb2) (bel_al w2 (.cells #[.string (bs (R a)), .string (bs (R b)), .string (bs (R c))] 41 (0, 0)))
  have hrow : Row (w2.alloc (.cells #[.string (bs (R a)), .string (bs (R b)), .string (bs (R c))] 41 (0, 0))) w2.heap.size 41 [.string (bs (R a)), .string (bs (R b)), .string (bs (R c))] := rnw
  have H2 := Lib.hid (And.intro hbA hrow)
  clear hb1 hb2 hbA hrow HF
  go_wp2_with fail
  refine (HE.out _ H2.out.1).mono ?_
  rintro e w3 ⟨rfl, hb3⟩
  have hb3' := bel_to hb3 (bel_al w3 (.cells #[.string (bs (R dx)), .string (bs (R dy)), .string (bs (R tw))] 41 (0, 0)))
  have H3 := Lib.hid (And.intro (bel_to H2.out.1 hb3') (H2.out.2.below' hb3'))
  clear hb3 hb3' H2 HE
  go_wp2_with fail
  refine (HSG.out _ H3.out.1).mono ?_
  rintro e w4 ⟨rfl, hb4⟩
  have H4 := Lib.hid (And.intro (bel_to H3.out.1 hb4) (H3.out.2.below' hb4))
  clear hb4 H3 HSG
  go_wp2_with fail
  refine (HS.out _ H4.out.1).mono ?_
  rintro e w5 ⟨rfl, hb5⟩
  have hb5' := bel_to hb5 (bel_al w5 (.cells #[.string (bs tx), .string (bs ty)] 72 (0, 0)))
  have hp5 : Row (w5.alloc (.cells #[.string (bs tx), .string (bs ty)] 72 (0, 0))) w5.heap.size 72 [.string (bs tx), .string (bs ty)] := rnw
  have H5 := Lib.hid (And.intro (bel_to H4.out.1 hb5') (H4.out.2.below' hb5'))
  have HP5 := Lib.hid hp5
  clear hb5 hb5' hp5 H4 HS
  have c0 := HP5.out.cell (i := 0) rfl
  have c1 := HP5.out.cell (i := 1) rfl
  clear HP5
  go_wp2_with fail
  refine (HM.out _ H5.out.1).mono ?_
  rintro e w6 ⟨rfl, hb6⟩
  have H6 := Lib.hid (And.intro (bel_to H5.out.1 hb6) (H5.out.2.below' hb6))
  clear hb6 c0 c1 H5 HM
  have a0 := H6.out.2.cell (i := 0) rfl
  have a1 := H6.out.2.cell (i := 1) rfl
  have a2 := H6.out.2.cell (i := 2) rfl
  go_wp2_with fail
  refine (HP.out _ H6.out.1).mono ?_
  rintro e w7 ⟨rfl, hb7⟩
  have HB7 := Lib.hid (bel_to H6.out.1 hb7)
  clear a0 a1 a2 hb7 H6 HP
  go_wp2_with fail
  refine (HA.out _ HB7.out).mono ?_
  rintro e w8 ⟨rfl, hb8⟩
  have HB8 := Lib.hid (bel_to HB7.out hb8)
  clear hb8 HB7 HA
  go_wp2
  go_ret
  exact ⟨rfl, HB8.out⟩
theorem agrees_b (vt vc : Value) (ts : List Tg) (cs : List Cc) (w : World) (hg : Glob w) (hs : Sig w) (ht : RdG w vt ts) (hc : RdC w vc cs) (nt : ts.length ≤ maxLen) (nc : cs.length ≤ maxLen) (h : chk46 ts cs = 0) (h5 : ts.length ≤ 5)
    (x dx dy tw : Rat) (hbx : Bq 37 x) (HE0 : ∀ (vt vc : Value) (w : World), Glob w → Sig w → RdG w vt ts → RdC w vc cs → Calls Tryz.prog 22 #[vt, vc] w (Ret w (.tuple #[.string (bs (R x)), arV (rx [dx, dy, tw]), .int .i64 0])))
    (a b c : Rat) (hb3 : ∀ q ∈ [a, b, c], Bq 30 q) (hfz : Sx.Fz (ts.zip cs) a b c 0) (hx0 : x ≤ 0) (HF0 : ∀ (vt vc : Value) (w : World), Glob w → Sig w → RdG w vt ts → RdC w vc cs → Calls Tryz.prog 16 #[vt, vc] w (FitP w (.inl [a, b, c])))
    (hsh : shOk (ts.zip cs) = false) :
    Calls Tryz.prog 11 #[vt, vc] w (Ret w (.bool true)) := by
  have hr := lright46 vt vc ts cs w ht hc nt nc
  rw [show decide (ts.length ≤ 5) = true by simp [h5], show decide (chk46 ts cs = 0) = true by simp [h], Bool.true_and] at hr
  have HR := Lib.hid hr
  have HA := Lib.hid (fun W (hW : Below w.heap.size w W) => awake46 W (hg.of hW) (hs.below hW))
  have HF := Lib.hid (fun W (hW : Below w.heap.size w W) => HF0 vt vc W (hg.of hW) (hs.below hW) (ht.below hW) (hc.below hW))
  have HE := Lib.hid (fun W (hW : Below w.heap.size w W) => HE0 vt vc W (hg.of hW) (hs.below hW) (ht.below hW) (hc.below hW))
  have HSG := Lib.hid (fun W (hW : Below w.heap.size w W) => rsign_ok x 37 W (hg.of hW) hbx (by decide))
  have hpl := fun W (hW : Below w.heap.size w W) => pshift_ok vt vc ts cs W (hg.of hW) (hs.below hW) (ht.below hW) (hc.below hW) h
  unfold shV at hpl
  rw [hsh] at hpl
  rw [if_neg (by decide)] at hpl
  have HS := Lib.hid hpl
  have HP := Lib.hid (fun W (hW : Below w.heap.size w W) => pacc_fz vt vc ts cs a b c W (hg.of hW) (hs.below hW) (ht.below hW) (hc.below hW) h h5 hb3 hfz)
  have hsg : Int.sign x.num ≤ 0 := sign_le.2 hx0
  obtain ⟨At, ct, rfl⟩ := ht.len
  obtain ⟨Ac, cc, rfl⟩ := hc.len
  clear hg hs ht hc nt nc h h5 hr hpl HF0 HE0 hsh hbx hfz hx0 hb3
  generalize Int.sign x.num = sg at *
  go_enter Tryz.func11, Tryz.ntmps11
  go_wp2_with fail
  refine (HR.out).mono ?_
  rintro e w1 ⟨rfl, hb1⟩
  clear HR
  go_wp2_with fail
  refine (HF.out _ hb1).mono ?_
  rintro e w2 ⟨rfl, hb2⟩
  have hbA := bel_to (bel_to hb1 hb2) (bel_al w2 (.cells #[.string (bs (R a)), .string (bs (R b)), .string (bs (R c))] 41 (0, 0)))
  have hrow : Row (w2.alloc (.cells #[.string (bs (R a)), .string (bs (R b)), .string (bs (R c))] 41 (0, 0))) w2.heap.size 41 [.string (bs (R a)), .string (bs (R b)), .string (bs (R c))] := rnw
  have H2 := Lib.hid (And.intro hbA hrow)
  clear hb1 hb2 hbA hrow HF
  go_wp2_with fail
  refine (HE.out _ H2.out.1).mono ?_
  rintro e w3 ⟨rfl, hb3⟩
  have hb3' := bel_to hb3 (bel_al w3 (.cells #[.string (bs (R dx)), .string (bs (R dy)), .string (bs (R tw))] 41 (0, 0)))
  have H3 := Lib.hid (And.intro (bel_to H2.out.1 hb3') (H2.out.2.below' hb3'))
  clear hb3 hb3' H2 HE
  go_wp2_with fail
  refine (HSG.out _ H3.out.1).mono ?_
  rintro e w4 ⟨rfl, hb4⟩
  have H4 := Lib.hid (And.intro (bel_to H3.out.1 hb4) (H3.out.2.below' hb4))
  clear hb4 H3 HSG
  go_wp2_with fail
  refine (HS.out _ H4.out.1).mono ?_
  rintro e w5 ⟨rfl, hb5⟩
  have hb5' := bel_to hb5 (bel_al w5 (.cells #[.string (bs []), .string (bs [])] 72 (0, 0)))
  have hp5 : Row (w5.alloc (.cells #[.string (bs []), .string (bs [])] 72 (0, 0))) w5.heap.size 72 [.string (bs []), .string (bs [])] := rnw
  have H5 := Lib.hid (And.intro (bel_to H4.out.1 hb5') (H4.out.2.below' hb5'))
  have HP5 := Lib.hid hp5
  clear hb5 hb5' hp5 H4 HS
  clear HP5
  have a0 := H5.out.2.cell (i := 0) rfl
  have a1 := H5.out.2.cell (i := 1) rfl
  have a2 := H5.out.2.cell (i := 2) rfl
  go_wp2_with fail
  refine (HP.out _ H5.out.1).mono ?_
  rintro e w7 ⟨rfl, hb7⟩
  have HB7 := Lib.hid (bel_to H5.out.1 hb7)
  clear a0 a1 a2 hb7 H5 HP
  go_wp2_with fail
  refine (HA.out _ HB7.out).mono ?_
  rintro e w8 ⟨rfl, hb8⟩
  have HB8 := Lib.hid (bel_to HB7.out hb8)
  clear hb8 HB7 HA
  go_wp2
  go_ret
  exact ⟨rfl, HB8.out⟩
theorem agrees_c (vt vc : Value) (ts : List Tg) (cs : List Cc) (w : World) (hg : Glob w) (hs : Sig w) (ht : RdG w vt ts) (hc : RdC w vc cs) (nt : ts.length ≤ maxLen) (nc : cs.length ≤ maxLen) (h : chk46 ts cs = 0) (h5 : ts.length ≤ 5)
    (x dx dy tw : Rat) (hbx : Bq 37 x) (HE0 : ∀ (vt vc : Value) (w : World), Glob w → Sig w → RdG w vt ts → RdC w vc cs → Calls Tryz.prog 22 #[vt, vc] w (Ret w (.tuple #[.string (bs (R x)), arV (rx [dx, dy, tw]), .int .i64 0])))
    (wt : List Rat) (hb3 : ∀ q ∈ wt, Bq 30 q) (hcon : Sx.Contra 3 (bnds (ts.zip cs)) wt) (hx0 : 0 < x) (HF0 : ∀ (vt vc : Value) (w : World), Glob w → Sig w → RdG w vt ts → RdC w vc cs → Calls Tryz.prog 16 #[vt, vc] w (FitP w (.inr wt)))
    (hsh : shOk (ts.zip cs) = false) :
    Calls Tryz.prog 11 #[vt, vc] w (Ret w (.bool true)) := by
  have hr := lright46 vt vc ts cs w ht hc nt nc
  rw [show decide (ts.length ≤ 5) = true by simp [h5], show decide (chk46 ts cs = 0) = true by simp [h], Bool.true_and] at hr
  have HR := Lib.hid hr
  have HA := Lib.hid (fun W (hW : Below w.heap.size w W) => awake46 W (hg.of hW) (hs.below hW))
  have HF := Lib.hid (fun W (hW : Below w.heap.size w W) => HF0 vt vc W (hg.of hW) (hs.below hW) (ht.below hW) (hc.below hW))
  have HE := Lib.hid (fun W (hW : Below w.heap.size w W) => HE0 vt vc W (hg.of hW) (hs.below hW) (ht.below hW) (hc.below hW))
  have HSG := Lib.hid (fun W (hW : Below w.heap.size w W) => rsign_ok x 37 W (hg.of hW) hbx (by decide))
  have hpl := fun W (hW : Below w.heap.size w W) => pshift_ok vt vc ts cs W (hg.of hW) (hs.below hW) (ht.below hW) (hc.below hW) h
  unfold shV at hpl
  rw [hsh] at hpl
  rw [if_neg (by decide)] at hpl
  have HS := Lib.hid hpl
  have HP := Lib.hid (fun v W (hW : Below w.heap.size w W) (hv : RdT W v (rx wt)) => pref_contra vt vc v ts cs wt W (hg.of hW) (hs.below hW) (ht.below hW) (hc.below hW) h h5 hb3 hcon hv)
  have hsg : ¬ Int.sign x.num ≤ 0 := fun e => absurd (sign_le.1 e) (Rat.not_le.2 hx0)
  obtain ⟨At, ct, rfl⟩ := ht.len
  obtain ⟨Ac, cc, rfl⟩ := hc.len
  clear hg hs ht hc nt nc h h5 hr hpl HF0 HE0 hsh hbx hcon hx0
  generalize Int.sign x.num = sg at *
  go_enter Tryz.func11, Tryz.ntmps11
  go_wp2_with fail
  refine (HR.out).mono ?_
  rintro e w1 ⟨rfl, hb1⟩
  clear HR
  go_wp2_with fail
  refine (HF.out _ hb1).mono ?_
  rintro e w2 ⟨vw, rfl, hrt, hshp, hb2⟩
  have hbA := bel_to (bel_to hb1 hb2) (bel_al w2 (.cells #[.string ⟨#[]⟩, .string ⟨#[]⟩, .string ⟨#[]⟩] 41 (0, 0)))
  have hrow := hrt.below (bel_al w2 (.cells #[.string ⟨#[]⟩, .string ⟨#[]⟩, .string ⟨#[]⟩] 41 (0, 0)))
  have H2 := Lib.hid (And.intro hbA hrow)
  clear hb1 hb2 hbA hrow HF hrt
  go_wp2_with fail
  refine (HE.out _ H2.out.1).mono ?_
  rintro e w3 ⟨rfl, hb3⟩
  have hb3' := bel_to hb3 (bel_al w3 (.cells #[.string (bs (R dx)), .string (bs (R dy)), .string (bs (R tw))] 41 (0, 0)))
  have H3 := Lib.hid (And.intro (bel_to H2.out.1 hb3') (H2.out.2.below hb3'))
  clear hb3 hb3' H2 HE
  go_wp2_with fail
  refine (HSG.out _ H3.out.1).mono ?_
  rintro e w4 ⟨rfl, hb4⟩
  have H4 := Lib.hid (And.intro (bel_to H3.out.1 hb4) (H3.out.2.below hb4))
  clear hb4 H3 HSG
  go_wp2_with fail
  refine (HS.out _ H4.out.1).mono ?_
  rintro e w5 ⟨rfl, hb5⟩
  have hb5' := bel_to hb5 (bel_al w5 (.cells #[.string (bs []), .string (bs [])] 72 (0, 0)))
  have hp5 : Row (w5.alloc (.cells #[.string (bs []), .string (bs [])] 72 (0, 0))) w5.heap.size 72 [.string (bs []), .string (bs [])] := rnw
  have H5 := Lib.hid (And.intro (bel_to H4.out.1 hb5') (H4.out.2.below hb5'))
  have HP5 := Lib.hid hp5
  clear hb5 hb5' hp5 H4 HS
  clear HP5
  have hw5 := H5.out.2
  go_wp2_with fail
  refine (HP.out _ _ H5.out.1 hw5).mono ?_
  rintro e w7 ⟨rfl, hb7⟩
  have HB7 := Lib.hid (bel_to H5.out.1 hb7)
  clear hb7 hw5 H5 HP
  go_wp2_with fail
  refine (HA.out _ HB7.out).mono ?_
  rintro e w8 ⟨rfl, hb8⟩
  have HB8 := Lib.hid (bel_to HB7.out hb8)
  clear hb8 HB7 HA
  go_wp2
  go_ret
  exact ⟨rfl, HB8.out⟩
theorem agrees_law (vt vc : Value) (ts : List Tg) (cs : List Cc) (w : World) (hg : Glob w) (hs : Sig w) (ht : RdG w vt ts) (hc : RdC w vc cs) (nt : ts.length ≤ maxLen) (nc : cs.length ≤ maxLen) :
    Calls Tryz.prog 11 #[vt, vc] w (Ret w (.bool true)) := by
  by_cases hr : (decide (ts.length ≤ 5) && decide (chk46 ts cs = 0)) = true
  · rw [Bool.and_eq_true, decide_eq_true_eq, decide_eq_true_eq] at hr
    obtain ⟨h5, h⟩ := hr
    obtain ⟨dx, dy, tw, x, hexc, hfz, hbq, hE⟩ := pexcess_ok ts cs h h5
    obtain ⟨r, hr, hF⟩ := pfits_ok ts cs h h5
    have hbx : Bq 37 x := hbq x (by simp)
    rcases Sx.feas_exc hexc hr with ⟨a, b, c, rfl, hf0, hx0, hb0⟩ | ⟨wt, rfl, hcon, hx0, hbw⟩
    · cases hsh : shOk (ts.zip cs) with
      | true => exact agrees_a vt vc ts cs w hg hs ht hc nt nc h h5 x dx dy tw hbx hE a b c hb0 hf0 hx0 hF hsh
      | false => exact agrees_b vt vc ts cs w hg hs ht hc nt nc h h5 x dx dy tw hbx hE a b c hb0 hf0 hx0 hF hsh
    · cases hsh : shOk (ts.zip cs) with
      | true => exact absurd (hexc.le_zero.2 ⟨_, _, _, Sx.shift_fz hsh⟩) (Rat.not_le.2 hx0)
      | false => exact agrees_c vt vc ts cs w hg hs ht hc nt nc h h5 x dx dy tw hbx hE wt hbw hcon hx0 hF hsh
  · exact agrees_not vt vc ts cs w hg hs ht hc nt nc (by simpa using hr)
end W
end Go.Proofs.YtfcffheboncmbaaGreatDoor
end
