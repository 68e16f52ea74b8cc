/-
  Chapter 46: 'Accepts' and 'Refuses' of the program.
  Chapter 46: the examples of the chapter, plain and walked.
  Chapter 46: what the examples answer.
  Chapter 46: the examples of the chapter hold.
  Chapter 46: 'awake' of the laws.
  Chapter 46: what is found is accepted, or refuses: contracts of 'Accepts' and 'Refuses' for proofs that hold; 'right' of the laws.
  The reference of layer 2: 'Over', 'By'.
  Chapter 46, the reference: 'bound' and 'All'.
  Chapter 46, the reference: 'All'. (Printed by wip/allr.py.)
  Chapter 46, the reference: 'Same' of rows, 'Bounds'.
  Chapter 46: 'EqualFunc' of two lists of bounds that read alike.
-/
import Derived.Test.YtnaikafamjebdaaGreatDoorKPU
import Derived.Test.YtnaikafamjebdaaGreatDoorKPV
import Derived.Test.YtnaikafamjebdaaGreatDoorKPH
import Derived.Test.YtnaikafamjebdaaGreatDoorKPF
import Derived.Lib.Hide
import Derived.Deep.RegionHeld3
section
namespace Go.Proofs.YtnaikafamjebdaaGreatDoor
open Go Go.RowKit Go.Deep
theorem rdt_any {W : World} {g cap : Nat} {t : TypeId} {l : List (List UInt8)} (hr : Row W g t (Strs l)) : RdT W (.slice (some ⟨g, 0, none⟩) l.length cap) l :=
  ⟨_, _, rfl, Or.inr ⟨g, 0, rfl, hr.lt, fun i hi => by rw [Nat.zero_add]; exact hr.cell (by simp [Strs, hi])⟩⟩
namespace W
open M
attribute [local go_sem] bs_size bs_toList bs_get bs_extract bs_append bs_lit0 bs_lit1 lit1_bs
set_option maxHeartbeats 2000000
set_option maxRecDepth 20000
theorem pshown_ok (w : World) : Calls Tryz.prog 47 #[.int .i64 0] w fun e w' => e = .returned (.tuple #[.bool true, .int .i64 0]) ∧ w = w' := by
  go_enter Tryz.func47, Tryz.ntmps47
  go_wp2
  go_ret2
  exact ⟨rfl, rfl⟩
theorem paccepts_gen (vt vc : Value) (ts : List Tg) (cs : List Cc) (p0 p1 p2 : List UInt8) (w : World) (hg : Glob w) (hs : Sig w) (ht : RdG w vt ts) (hc : RdC w vc cs) (nt : ts.length ≤ maxLen) (nc : cs.length ≤ maxLen) (h : chk46 ts cs = 0) (k c : Int) (b : Bool)
    (hsh : ∀ W, Calls Tryz.prog 47 #[.int .i64 k] W fun e w' => e = .returned (.tuple #[.bool b, .int .i64 c]) ∧ W = w')
    (hv : ∀ v vp W, Glob W → RdB W v (bx (bnds (ts.zip cs))) → RdT W vp [p0, p1, p2] → Calls Tryz.prog 48 #[.int .i64 3, v, vp] W (Ret W (.int .i64 k))) :
    Calls Tryz.prog 23 #[vt, vc, .agg #[.string (bs p0), .string (bs p1), .string (bs p2)]] w (Ret w (.tuple #[.bool b, .int .i64 c])) := by
  have HV := Lib.hid (fun v vp W (hW : Below w.heap.size w W) h1 h2 => hv v vp W (hg.of hW) h1 h2)
  have HSH := Lib.hid hsh
  have HA := Lib.hid (fun va W (hW : Below w.heap.size w W) hv => pall va vt vc ts cs W (hg.of hW) hv (ht.below hW) (hc.below hW) h)
  have hb0 := bel_al w (.cells #[.string (bs p0), .string (bs p1), .string (bs p2)] 27 (0, 0))
  have hr0 : Row (w.alloc (.cells #[.string (bs p0), .string (bs p1), .string (bs p2)] 27 (0, 0))) w.heap.size 27 (Strs [p0, p1, p2]) := rnw
  obtain ⟨At, ct, rfl⟩ := ht.len
  obtain ⟨Ac, cc, rfl⟩ := hc.len
  have HP := Lib.hid (pplate_ok _ _ ts cs _ (hs.below hb0) (ht.below hb0) (hc.below hb0) nt nc h)
  have HR0 := Lib.hid (And.intro hr0 hb0)
  clear h hs ht hc nt nc hg hb0 hr0 hv hsh
  go_enter Tryz.func23, Tryz.ntmps23
  go_wp2_with fail
  refine HP.out.mono ?_
  rintro e w1 ⟨va, rfl, hv, hb1⟩
  have hb2 := bel_to hb1 (bel_al w1 (.cells #[va, .slice At ts.length ct, .slice Ac cs.length cc] 72 (0, 0)))
  have hdr : Below (w1.alloc (.cells #[va, .slice At ts.length ct, .slice Ac cs.length cc] 72 (0, 0))).heap.size (w1.alloc (.cells #[va, .slice At ts.length ct, .slice Ac cs.length cc] 72 (0, 0))) (w1.alloc (.cells #[va, .slice At ts.length ct, .slice Ac cs.length cc] 72 (0, 0))).drew := RowKit.Below.drew (Below.refl _ _)
  have HA1 := Lib.hid (HA.out va _ (bel_to HR0.out.2 (bel_to hb2 hdr)) ((hv.below (bel_al _ _)).below hdr))
  have HR1 := Lib.hid (And.intro (HR0.out.1.below' (bel_to hb2 hdr)) (bel_to HR0.out.2 (bel_to hb2 hdr)))
  obtain ⟨Av, cv, rfl⟩ := hv.len
  clear hv hb1 hb2 HP HA HR0 hdr
  have hi3 : (0 : Int) ≤ 3 := by decide
  go_wp2_with fail
  go_region_law (first
    | (go_simp; go_at_call 29; refine HA1.out.mono ?_; rintro e w2 ⟨v, es, rfl, ho, hgd, he, hb2⟩; have HB2 := Lib.hid (show RdB w2 v (bx (bnds (ts.zip cs))) ∧ Row w2 w.heap.size 27 (Strs [p0, p1, p2]) ∧ Below w.heap.size w w2 from ⟨by rw [← he]; exact OwnE.rd ho hgd.good, HR1.out.1.below' hb2, bel_to HR1.out.2 hb2⟩); clear ho hgd he hb2)
    | (go_simp; go_at_call 48; refine (HV.out v (.slice (some ⟨w.heap.size, 0, none⟩) 3 3) w2 HB2.out.2.2 HB2.out.1 (rdt_any (l := [p0, p1, p2]) HB2.out.2.1)).mono ?_; rintro e w3 ⟨rfl, hb3⟩; have HB3 := Lib.hid (bel_to HB2.out.2.2 hb3); clear hb3)
    | (go_simp; go_at_call 47; refine (HSH.out w3).mono ?_; rintro e w4 ⟨rfl, rfl⟩))
  all_goals
    go_wp2
    go_ret2
    exact Ret.of rfl HB3.out
end W
end Go.Proofs.YtnaikafamjebdaaGreatDoor
end
section
namespace Go.Proofs.YtnaikafamjebdaaGreatDoor
open Go Go.RowKit Go.Deep
namespace M
def exT : List Tg := [⟨0, 0, 20, 20, 2, 0, false⟩, ⟨100, 0, 20, 20, 2, 0, false⟩]
def exC (ax ay bX bY : Int) : List Cc := [⟨ax, ay, 20⟩, ⟨bX, bY, 20⟩]
theorem exc_same {pl : Pl} {x y : Rat} (h : Sx.Exc pl x) (h2 : Sx.Exc pl y) : x = y := Rat.le_antisymm (Sx.exc_fewer h2 h fun _ h => h) (Sx.exc_fewer h h2 fun _ h => h)
theorem ex_chk : chk46 exT (exC 3 1 103 1) = 0 ∧ chk46 exT (exC 0 0 104 0) = 0 ∧ chk46 exT (exC 0 0 100 4) = 0 := by decide +kernel
theorem ex_ov1 : overQ (exT.zip (exC 3 1 103 1)) = -2 := by decide +kernel
theorem ex_ov2 : overQ (exT.zip (exC 0 0 104 0)) = 2 := by decide +kernel
theorem ex_sh1 : shOk (exT.zip (exC 3 1 103 1)) = true ∧ shX (exT.zip (exC 3 1 103 1)) = -4 ∧ shY (exT.zip (exC 3 1 103 1)) = -2 := by decide +kernel
theorem ex_sh3 : shOk (exT.zip (exC 0 0 100 4)) = false := by decide +kernel
theorem R_texts : R (-4) = [45, 52] ∧ R (-2) = [45, 50] ∧ R 2 = [50] ∧ R 0 = [48] ∧ R (-1 / 25) = [45, 49, 47, 50, 53] := by
  refine ⟨?_, ?_, ?_, ?_, ?_⟩ <;> kernel_rfl
end M
theorem rdG_row {w : World} {g n : Nat} {t : TypeId} {l : List M.Tg} (h : Row w g t (csG l)) (hn : n = l.length) : RdG w (.slice (some ⟨g, 0, none⟩) n n) l :=
  ⟨_, _, by rw [hn], Or.inr ⟨g, 0, rfl, SlG.of_row h⟩⟩
theorem rdC_row {w : World} {g n : Nat} {t : TypeId} {l : List M.Cc} (h : Row w g t (csC l)) (hn : n = l.length) : RdC w (.slice (some ⟨g, 0, none⟩) n n) l :=
  ⟨_, _, by rw [hn], Or.inr ⟨g, 0, rfl, SlC.of_row h⟩⟩
theorem two1 {w w0 : World} (ax ay bX bY : Int) (hb : Below w.heap.size w w0) {A : Nat} (hA : A = w0.heap.size) :
    RdG ((w0.alloc (.cells (csG M.exT).toArray 82 (0, 0))).alloc (.cells (csC (M.exC ax ay bX bY)).toArray 84 (0, 0))).drew (.slice (some ⟨A, 0, none⟩) 2 2) M.exT ∧
    RdC ((w0.alloc (.cells (csG M.exT).toArray 82 (0, 0))).alloc (.cells (csC (M.exC ax ay bX bY)).toArray 84 (0, 0))).drew (.slice (some ⟨A + 1, 0, none⟩) 2 2) (M.exC ax ay bX bY) ∧
    Below w.heap.size w ((w0.alloc (.cells (csG M.exT).toArray 82 (0, 0))).alloc (.cells (csC (M.exC ax ay bX bY)).toArray 84 (0, 0))).drew := by
  subst hA
  have h1 : Row (w0.alloc (.cells (csG M.exT).toArray 82 (0, 0))) w0.heap.size 82 (csG M.exT) := rnw
  have h2 : Row ((w0.alloc (.cells (csG M.exT).toArray 82 (0, 0))).alloc (.cells (csC (M.exC ax ay bX bY)).toArray 84 (0, 0))) (w0.heap.size + 1) 84 (csC (M.exC ax ay bX bY)) := rnew0 (World.size_alloc _ _).symm
  exact ⟨rdG_row ((h1.below' (bel_al _ _)).below' (RowKit.Below.drew (Below.refl _ _))) rfl, rdC_row (h2.below' (RowKit.Below.drew (Below.refl _ _))) rfl, bel_to hb (RowKit.Below.drew (bel_al2 _ _ _))⟩
theorem two2 {w w0 : World} (ax ay bX bY : Int) (hb : Below w.heap.size w w0) {A : Nat} (hA : A = w0.heap.size) :
    RdG ((w0.alloc (.cells (csC (M.exC ax ay bX bY)).toArray 84 (0, 0))).alloc (.cells (csG M.exT).toArray 82 (0, 0))).drew (.slice (some ⟨A + 1, 0, none⟩) 2 2) M.exT ∧
    RdC ((w0.alloc (.cells (csC (M.exC ax ay bX bY)).toArray 84 (0, 0))).alloc (.cells (csG M.exT).toArray 82 (0, 0))).drew (.slice (some ⟨A, 0, none⟩) 2 2) (M.exC ax ay bX bY) ∧
    Below w.heap.size w ((w0.alloc (.cells (csC (M.exC ax ay bX bY)).toArray 84 (0, 0))).alloc (.cells (csG M.exT).toArray 82 (0, 0))).drew := by
  subst hA
  have h1 : Row (w0.alloc (.cells (csC (M.exC ax ay bX bY)).toArray 84 (0, 0))) w0.heap.size 84 (csC (M.exC ax ay bX bY)) := rnw
  have h2 : Row ((w0.alloc (.cells (csC (M.exC ax ay bX bY)).toArray 84 (0, 0))).alloc (.cells (csG M.exT).toArray 82 (0, 0))) (w0.heap.size + 1) 82 (csG M.exT) := rnew0 (World.size_alloc _ _).symm
  exact ⟨rdG_row (h2.below' (RowKit.Below.drew (Below.refl _ _))) rfl, rdC_row ((h1.below' (bel_al _ _)).below' (RowKit.Below.drew (Below.refl _ _))) rfl, bel_to hb (RowKit.Below.drew (bel_al2 _ _ _))⟩
namespace W
open M
attribute [local go_sem] bs_size bs_toList bs_get bs_extract bs_append bs_lit0 bs_lit1 lit1_bs
set_option maxHeartbeats 2000000
set_option maxRecDepth 20000
theorem ptwo (ax ay bX bY : Int) (w : World) : Calls Tryz.prog 25 #[.agg #[.int .i64 ax, .int .i64 ay], .agg #[.int .i64 bX, .int .i64 bY]] w
    (fun e w' => ∃ vt vc, e = .returned (.tuple #[vt, vc]) ∧ RdG w' vt exT ∧ RdC w' vc (exC ax ay bX bY) ∧ Below w.heap.size w w') := by
  go_enter Tryz.func25, Tryz.ntmps25
  go_wp2
  go_region
  all_goals
    go_wp2
    go_ret2
    first
      | exact ⟨_, _, rfl, two1 ax ay bX bY (bel_to (bel_al2 _ _ _) (bel_al2 _ _ _)) (by simp only [World.size_alloc])⟩
      | exact ⟨_, _, rfl, two2 ax ay bX bY (bel_to (bel_al2 _ _ _) (bel_al2 _ _ _)) (by simp only [World.size_alloc])⟩
end W
end Go.Proofs.YtnaikafamjebdaaGreatDoor
end
section
namespace Go.Proofs.YtnaikafamjebdaaGreatDoor
open Go Go.RowKit Go.Deep
namespace W
open M
theorem ex_shift1 (vt vc : Value) (w : World) (hg : Glob w) (hs : Sig w) (ht : RdG w vt exT) (hc : RdC w vc (exC 3 1 103 1)) :
    Calls Tryz.prog 16 #[vt, vc] w (Ret w (.tuple #[.bool true, .agg #[.string (bs [45, 52]), .string (bs [45, 50])], .int .i64 0])) := by
  have h := pshift_ok vt vc _ _ w hg hs ht hc ex_chk.1
  have e : shV (exT.zip (exC 3 1 103 1)) = .tuple #[.bool true, .agg #[.string (bs [45, 52]), .string (bs [45, 50])], .int .i64 0] := by
    unfold shV
    rw [if_pos ex_sh1.1, ex_sh1.2.1, ex_sh1.2.2, R_texts.1, R_texts.2.1]
  rwa [e] at h
theorem ex_shift3 (vt vc : Value) (w : World) (hg : Glob w) (hs : Sig w) (ht : RdG w vt exT) (hc : RdC w vc (exC 0 0 100 4)) :
    Calls Tryz.prog 16 #[vt, vc] w (Ret w (.tuple #[.bool false, .agg #[.string (bs []), .string (bs [])], .int .i64 0])) := by
  have h := pshift_ok vt vc _ _ w hg hs ht hc ex_chk.2.2
  have e : shV (exT.zip (exC 0 0 100 4)) = .tuple #[.bool false, .agg #[.string (bs []), .string (bs [])], .int .i64 0] := by
    unfold shV
    rw [if_neg (by rw [ex_sh3]; decide)]
  rwa [e] at h
theorem ex_exc {ax ay bX bY : Int} {q : Rat} {t : List UInt8} (hk : chk46 exT (exC ax ay bX bY) = 0) (hq : overQ (exT.zip (exC ax ay bX bY)) = q) (ht : R q = t) : ∃ a b c, ∀ (vt vc : Value) (w : World), Glob w → Sig w → RdG w vt exT → RdC w vc (exC ax ay bX bY) →
    Calls Tryz.prog 26 #[vt, vc] w (Ret w (.tuple #[.string (bs t), .agg #[.string (bs a), .string (bs b), .string (bs c)], .int .i64 0])) := by
  obtain ⟨dx, dy, tw, x, hx, _, _, h⟩ := pexcess_ok exT _ hk (by decide)
  have e : x = q := by rw [← hq]; exact exc_same hx (Sx.exc_over (by unfold exT exC; simp))
  rw [e, ht] at h
  exact ⟨R dx, R dy, R tw, fun vt vc w hg hs h1 h2 => h vt vc w hg hs h1 h2⟩
theorem ex_fits2 (vt vc : Value) (w : World) (hg : Glob w) (hs : Sig w) (ht : RdG w vt exT) (hc : RdC w vc (exC 0 0 104 0)) :
    Calls Tryz.prog 8 #[vt, vc] w (fun e w' => ∃ v, e = .returned (.tuple #[.bool false, .agg #[.string ⟨#[]⟩, .string ⟨#[]⟩, .string ⟨#[]⟩], v, .int .i64 0]) ∧ Shp v ∧ Below w.heap.size w w') := by
  obtain ⟨r, hr, h⟩ := pfits_ok exT _ ex_chk.2.1 (by decide)
  cases r with
  | inl p =>
    exfalso
    obtain ⟨dx, dy, tw, rfl⟩ := Sx.len3 hr.1.1
    have hz := Sx.keeps3_iff.1 hr.1
    have hx := Sx.exc_over (pl := exT.zip (exC 0 0 104 0)) (by unfold exT exC; simp)
    rw [ex_ov2] at hx
    have := hx.2 _ _ _ _ hz
    exact absurd this (by decide)
  | inr q =>
    refine (h vt vc w hg hs ht hc).mono ?_
    rintro e w' ⟨v, rfl, _, h2, h3⟩
    exact ⟨v, rfl, h2, h3⟩
end W
end Go.Proofs.YtnaikafamjebdaaGreatDoor
end
section
namespace Go.Proofs.YtnaikafamjebdaaGreatDoor
open Go Go.RowKit Go.Deep
namespace M
theorem ex_wire : Wire (bx (bnds (exT.zip (exC 0 0 100 4)))) := ⟨by decide +kernel, fun _ => by decide +kernel⟩
theorem ex_keeps : ((bnds (exT.zip (exC 0 0 100 4))).all fun b => keepsB b [0, 0, -1 / 25]) = true := by decide +kernel
theorem ex_bq : ∀ x ∈ [(0 : Rat), 0, -1 / 25], Bq 30 x := by decide +kernel
theorem ex_rx : rx [0, 0, -1 / 25] = [[48], [48], [45, 49, 47, 50, 53]] := by kernel_rfl
end M
namespace W
open M
attribute [local go_sem] bs_size bs_toList bs_get bs_extract bs_append bs_lit0 bs_lit1 lit1_bs
set_option maxHeartbeats 2000000
set_option maxRecDepth 20000
theorem ex_acc3 (vt vc : Value) (w : World) (hg : Glob w) (hs : Sig w) (ht : RdG w vt exT) (hc : RdC w vc (exC 0 0 100 4)) :
    Calls Tryz.prog 23 #[vt, vc, .agg #[.string (bs [48]), .string (bs [48]), .string (bs [45, 49, 47, 50, 53])]] w (Ret w (.tuple #[.bool true, .int .i64 0])) := by
  obtain ⟨h1, h2, h3⟩ := bnds_few ex_chk.2.2 (by decide)
  refine paccepts_gen vt vc _ _ _ _ _ w hg hs ht hc (by decide) (by decide) ex_chk.2.2 0 0 true pshown_ok fun v vp W hW hv hp => ?_
  have h := pverify_ok 3 v vp _ [0, 0, -1 / 25] W hW hv ex_wire (chk5_ok (n := 3) (by decide) (by decide) (by omega) h1.right) (by rw [ex_rx]; exact hp) (by decide) h1.right rfl ex_bq (chk_rx30 ex_bq) (by omega)
  rw [if_pos ex_keeps] at h
  exact h
theorem eq_pl (a b s t : List UInt8) (w : World) : (binOp .eql 44 (.agg #[.string (bs a), .string (bs s)]) (.agg #[.string (bs b), .string (bs t)])).run Tryz.prog w = .ok (.bool (a == b && s == t)) w := by
  have hf : Tryz.prog.underlying 44 = some (.struct (Tryz.prog.fieldsOf 44)) := by unfold Program.fieldsOf; rw [Tryz.underlying44]
  rw [run_eql_struct, show (10000 : Nat) = 9999 + 1 from rfl, run_equalIn_agg w 9999 44 _ _ hf (by kernel_rfl)]
  unfold Program.fieldsOf
  rw [Tryz.underlying44]
  go_simp
  by_cases h1 : a = b <;> by_cases h2 : s = t <;> simp [h1, h2]
end W
end Go.Proofs.YtnaikafamjebdaaGreatDoor
end
section
namespace Go.Proofs.YtnaikafamjebdaaGreatDoor
open Go Go.RowKit Go.Deep
namespace W
open M
attribute [local go_sem] bs_size bs_toList bs_get bs_extract bs_append bs_lit0 bs_lit1 lit1_bs
set_option maxHeartbeats 4000000
set_option maxRecDepth 20000
theorem awake46 (w : World) (hg : Glob w) (hs : Sig w) : Calls Tryz.prog 7 #[] w (Ret w (.bool true)) := by
  obtain ⟨a1, b1, c1, he1⟩ := ex_exc ex_chk.1 ex_ov1 R_texts.2.1
  obtain ⟨a2, b2, c2, he2⟩ := ex_exc ex_chk.2.1 ex_ov2 R_texts.2.2.1
  have HE1 := Lib.hid (fun vt vc W (hW : Below w.heap.size w W) => he1 vt vc W (hg.of hW) (hs.below hW))
  have HE2 := Lib.hid (fun vt vc W (hW : Below w.heap.size w W) => he2 vt vc W (hg.of hW) (hs.below hW))
  have HS1 := Lib.hid (fun vt vc W (hW : Below w.heap.size w W) => ex_shift1 vt vc W (hg.of hW) (hs.below hW))
  have HS3 := Lib.hid (fun vt vc W (hW : Below w.heap.size w W) => ex_shift3 vt vc W (hg.of hW) (hs.below hW))
  have HF2 := Lib.hid (fun vt vc W (hW : Below w.heap.size w W) => ex_fits2 vt vc W (hg.of hW) (hs.below hW))
  have HA3 := Lib.hid (fun vt vc W (hW : Below w.heap.size w W) => ex_acc3 vt vc W (hg.of hW) (hs.below hW))
  have HB3 := Lib.hid (fun vt vc W (hW : Below w.heap.size w W) (h1 : RdG W vt exT) (h2 : RdC W vc (exC 0 0 100 4)) => pBounds_ok vt vc _ _ W (hg.of hW) (hs.below hW) h1 h2 (by decide) (by decide) ex_chk.2.2)
  clear hg hs he1 he2
  go_enter Tryz.func7, Tryz.ntmps7
  go_wp2_with fail
  refine (ptwo 3 1 103 1 _).mono ?_
  rintro e w1 ⟨vt, vc, rfl, ht, hc, hb⟩
  have H1 := Lib.hid (And.intro ht (And.intro hc hb))
  clear ht hc hb
  go_wp2_with fail
  refine (HS1.out vt vc w1 H1.out.2.2 H1.out.1 H1.out.2.1).mono ?_
  rintro e w2 ⟨rfl, hb⟩
  have hbA := bel_to hb (bel_al w2 (.cells #[.string (bs [45, 52]), .string (bs [45, 50])] 44 (0, 0)))
  have hrow : Row (w2.alloc (.cells #[.string (bs [45, 52]), .string (bs [45, 50])] 44 (0, 0))) w2.heap.size 44 [.string (bs [45, 52]), .string (bs [45, 50])] := rnw
  have H2 := Lib.hid (And.intro (H1.out.1.below hbA) (And.intro (H1.out.2.1.below hbA) (And.intro (bel_to H1.out.2.2 hbA) hrow)))
  clear hb hbA hrow H1
  go_wp2_with fail
  refine (HE1.out vt vc _ H2.out.2.2.1 H2.out.1 H2.out.2.1).mono ?_
  rintro e w3 ⟨rfl, hb⟩
  have H3 := Lib.hid (And.intro (bel_to H2.out.2.2.1 hb) (H2.out.2.2.2.below' hb))
  clear hb H2
  generalize w2.heap.size = bp at *
  go_wp2_with fail
  refine (ptwo 0 0 104 0 _).mono ?_
  rintro e w4 ⟨vt, vc, rfl, ht, hc, hb⟩
  have hbA := bel_to (bel_al w3 (.cells #[.string (bs a1), .string (bs b1), .string (bs c1)] 27 (0, 0))) hb
  have H4 := Lib.hid (And.intro ht (And.intro hc (And.intro (bel_to H3.out.1 hbA) (H3.out.2.below' hbA))))
  clear ht hc hb hbA H3
  go_wp2_with fail
  refine (HE2.out vt vc _ H4.out.2.2.1 H4.out.1 H4.out.2.1).mono ?_
  rintro e w5 ⟨rfl, hb⟩
  have hbA := bel_to hb (bel_al w5 (.cells #[.string (bs a2), .string (bs b2), .string (bs c2)] 27 (0, 0)))
  have H5 := Lib.hid (And.intro (H4.out.1.below hbA) (And.intro (H4.out.2.1.below hbA) (And.intro (bel_to H4.out.2.2.1 hbA) (H4.out.2.2.2.below' hbA))))
  clear hb hbA H4
  go_wp2_with fail
  refine (HF2.out vt vc _ H5.out.2.2.1 H5.out.1 H5.out.2.1).mono ?_
  rintro e w6 ⟨vf, rfl, _, hb⟩
  have hbA := bel_to hb (bel_al w6 (.cells #[.string ⟨#[]⟩, .string ⟨#[]⟩, .string ⟨#[]⟩] 27 (0, 0)))
  have H6 := Lib.hid (And.intro (bel_to H5.out.2.2.1 hbA) (H5.out.2.2.2.below' hbA))
  clear hb hbA H5
  go_wp2_with fail
  refine (ptwo 0 0 100 4 _).mono ?_
  rintro e w7 ⟨vt, vc, rfl, ht, hc, hb⟩
  have H7 := Lib.hid (And.intro ht (And.intro hc (And.intro (bel_to H6.out.1 hb) (H6.out.2.below' hb))))
  clear ht hc hb H6
  go_wp2_with fail
  refine (HA3.out vt vc _ H7.out.2.2.1 H7.out.1 H7.out.2.1).mono ?_
  rintro e w8 ⟨rfl, hb⟩
  have H8 := Lib.hid (And.intro (H7.out.1.below hb) (And.intro (H7.out.2.1.below hb) (And.intro (bel_to H7.out.2.2.1 hb) (H7.out.2.2.2.below' hb))))
  clear hb H7
  go_wp2_with fail
  refine (HS3.out vt vc _ H8.out.2.2.1 H8.out.1 H8.out.2.1).mono ?_
  rintro e w9 ⟨rfl, hb⟩
  have hbA := bel_to hb (bel_al w9 (.cells #[.string (bs []), .string (bs [])] 44 (0, 0)))
  have H9 := Lib.hid (And.intro (H8.out.1.below hbA) (And.intro (H8.out.2.1.below hbA) (And.intro (bel_to H8.out.2.2.1 hbA) (H8.out.2.2.2.below' hbA))))
  clear hb hbA H8
  go_wp2_with fail
  refine (HB3.out vt vc _ H9.out.2.2.1 H9.out.1 H9.out.2.1).mono ?_
  rintro e w10 ⟨vb, rfl, hv, hb⟩
  obtain ⟨A, cap, rfl⟩ := hv.len
  rw [show (bx (bnds (exT.zip (exC 0 0 100 4)))).length = 8 from rfl]
  have hrow := H9.out.2.2.2.below' hb
  have q0 := hrow.cell (i := 0) rfl
  have q1 := hrow.cell (i := 1) rfl
  have HFB := Lib.hid (bel_to H9.out.2.2.1 hb)
  have heq : ∀ W : World, (binOp .eql 44 (.agg #[.string (bs [45, 52]), .string (bs [45, 50])]) (.agg #[.string (bs [45, 52]), .string (bs [45, 50])])).run Tryz.prog W = .ok (.bool true) W := fun W => by
    have h := eq_pl [45, 52] [45, 52] [45, 50] [45, 50] W
    simpa using h
  clear hv hb hrow H9 HE1 HE2 HS1 HS3 HF2 HA3 HB3
  go_wp2
  go_ret
  exact ⟨rfl, HFB.out⟩
end W
end Go.Proofs.YtnaikafamjebdaaGreatDoor
end
section
namespace Go.Proofs.YtnaikafamjebdaaGreatDoor
open Go Go.RowKit Go.Deep
namespace M
end M
namespace W
open M
attribute [local go_sem] bs_size bs_toList bs_get bs_extract bs_append bs_lit0 bs_lit1 lit1_bs
set_option maxHeartbeats 2000000
set_option maxRecDepth 20000
end W
end Go.Proofs.YtnaikafamjebdaaGreatDoor
end
section
namespace Go.Proofs.YtnaikafamjebdaaGreatDoor
open Go Go.RowKit
namespace M
end M
namespace W
open M
attribute [local go_sem] bs_size bs_toList bs_get bs_extract bs_append bs_lit0 bs_lit1 lit1_bs
set_option maxHeartbeats 1000000
set_option maxRecDepth 20000
theorem rover (n d : Int) (w : World) (hn : n.natAbs < 10 ^ 18) (hd : d.natAbs < 10 ^ 18) (h0 : d ≠ 0) :
    Calls Tryz.prog 45 #[.int .i64 n, .int .i64 d] w (Ret w (.string (bs (R (Rat.divInt n d))))) := by
  have e : (10 : Nat) ^ 18 = 1000000000000000000 := by decide
  have HN := Lib.hid (fun wx => of_any n wx (by omega) (by omega))
  have HD := Lib.hid (fun wx => of_any d wx (by omega) (by omega))
  have HL := Lib.hid (fun wx => lowest_I n d wx h0 (by have := I_len (k := 18) (by decide) hn; omega) (by have := I_len (k := 18) (by decide) hd; omega))
  clear hn hd h0 e
  go_enter Tryz.func45, Tryz.ntmps45
  go_wp2_with fail
  refine (HN.out _).mono ?_
  rintro e w1 ⟨rfl, hb1⟩
  go_wp2_with fail
  refine (HD.out _).mono ?_
  rintro e w2 ⟨rfl, hb2⟩
  have hb2 := hb1.trans (hb2.mono hb1.size)
  go_wp2_with fail
  refine (HL.out _).mono ?_
  rintro e w3 ⟨rfl, hb3⟩
  have hb3 := hb2.trans (hb3.mono hb2.size)
  go_wp2
  go_ret
  exact Ret.of rfl hb3
end W
end Go.Proofs.YtnaikafamjebdaaGreatDoor
end
section
namespace Go.Proofs.YtnaikafamjebdaaGreatDoor
open Go Go.RowKit Go.Deep
theorem OwnS.lit3 (w : World) (B : Nat) (hB : B ≤ w.heap.size) (x y z : List UInt8) : OwnS (w.alloc (.cells #[.string (bs x), .string (bs y), .string (bs z)] 26 (0, 0))) B (.slice (some ⟨w.heap.size, 0, none⟩) 3 3) [x, y, z] :=
  World.ownsRow_lit w #[.string (bs x), .string (bs y), .string (bs z)] 3 hB (by decide) rfl
theorem OwnS.lit3' (w : World) (B g : Nat) (hg : g = w.heap.size) (hB : B ≤ g) (x y z : List UInt8) : OwnS (w.alloc (.cells #[.string (bs x), .string (bs y), .string (bs z)] 26 (0, 0))) B (.slice (some ⟨g, 0, none⟩) 3 3) [x, y, z] := by
  subst hg; exact OwnS.lit3 w B hB x y z
theorem bd_store {w0 w : World} {A : Nat} {x0 y0 : Value} (x y : Value) (hr : Row w A 51 [x0, y0]) (hA : w0.heap.size ≤ A) (hb : Below w0.heap.size w0 w) :
    Row ((w.setCell ⟨A, 0, none⟩ x).setCell ⟨A, 1, none⟩ y) A 51 [x, y] ∧ Below w0.heap.size w0 ((w.setCell ⟨A, 0, none⟩ x).setCell ⟨A, 1, none⟩ y) :=
  ⟨(hr.set 0 x).set 1 y, Below.setCell (p := ⟨A, 1, none⟩) (Below.setCell (p := ⟨A, 0, none⟩) hb hA x) hA y⟩
namespace W
open M
attribute [local go_sem] bs_size bs_toList bs_get bs_extract bs_append bs_lit0 bs_lit1 lit1_bs
set_option maxHeartbeats 1000000
set_option maxRecDepth 20000
theorem rbound46 (a b c : Int) (s : List UInt8) (w : World) (ha : a.natAbs < 10 ^ 8) (hb : b.natAbs < 10 ^ 8) (hc : c.natAbs < 10 ^ 8) :
    Calls Tryz.prog 76 #[.int .i64 a, .int .i64 b, .int .i64 c, .string (bs s)] w (fun e w' => ∃ v, e = .returned v ∧ Below w.heap.size w w' ∧ IsBd (rx (castL [a, b, c]), s) w' v) := by
  have hb0 := bel_al w (.cells #[.slice none 0 0, .string ⟨#[]⟩] 51 (0, 0))
  have hr0 : Row (w.alloc (.cells #[.slice none 0 0, .string ⟨#[]⟩] 51 (0, 0))) w.heap.size 51 [.slice none 0 0, .string ⟨#[]⟩] := rnw
  have HR0 := Lib.hid (And.intro hr0 hb0)
  have HA := Lib.hid (fun W => whole_R a W (by omega) (by omega))
  have HB := Lib.hid (fun W => whole_R b W (by omega) (by omega))
  have HC := Lib.hid (fun W => whole_R c W (by omega) (by omega))
  have HX := Lib.hid (show rx (castL [a, b, c]) = [R (a : Rat), R (b : Rat), R (c : Rat)] from rfl)
  clear ha hb hc hr0 hb0
  generalize rx (castL [a, b, c]) = row at *
  generalize R (a : Rat) = ra at *
  generalize R (b : Rat) = rb at *
  generalize R (c : Rat) = rc at *
  go_enter Tryz.func76, Tryz.ntmps76
  go_wp2_with fail
  refine (HA.out _).mono ?_
  rintro e w1 ⟨rfl, hb1⟩
  go_wp2_with fail
  refine (HB.out _).mono ?_
  rintro e w2 ⟨rfl, hb2⟩
  go_wp2_with fail
  refine (HC.out _).mono ?_
  rintro e w3 ⟨rfl, hb3⟩
  have hb123 := Below.then (Below.then hb1 hb2) hb3
  have hrw := HR0.out.1.below' hb123
  have hbw := bel_to HR0.out.2 hb123
  have f0 := hrw.free 0
  have f1 := (hrw.set 0 (.slice (some ⟨w3.heap.size, 0, none⟩) 3 3)).free 1
  have c0 := hrw.cell (i := 0) rfl
  have c1 := (hrw.set 0 (.slice (some ⟨w3.heap.size, 0, none⟩) 3 3)).cell (i := 1) rfl
  have hlt : w.heap.size < w3.heap.size := hrw.lt
  have hrA : Row (w3.alloc (.cells #[.string (bs ra), .string (bs rb), .string (bs rc)] 26 (0, 0))) w.heap.size 51 [.slice none 0 0, .string ⟨#[]⟩] := hrw.alloc _
  have g0 := hrA.free 0
  have g1 := (hrA.set 0 (.slice (some ⟨w3.heap.size, 0, none⟩) 3 3)).free 1
  have d0 := hrA.cell (i := 0) rfl
  have d1 := (hrA.set 0 (.slice (some ⟨w3.heap.size, 0, none⟩) 3 3)).cell (i := 1) rfl
  have hrB : Row ((w3.setCell ⟨w.heap.size, 0, none⟩ (.slice (some ⟨w3.heap.size, 0, none⟩) 3 3)).alloc (.cells #[.string (bs ra), .string (bs rb), .string (bs rc)] 26 (0, 0))) w.heap.size 51 [(.slice (some ⟨w3.heap.size, 0, none⟩) 3 3), .string ⟨#[]⟩] := (hrw.set 0 _).alloc _
  have i1 := hrB.free 1
  have j1 := hrB.cell (i := 1) rfl
  have hst := bd_store (.slice (some ⟨w3.heap.size, 0, none⟩) 3 3) (.string (bs s)) hrw (Nat.le_refl _) hbw
  have HQ : Hid (Row (((w3.setCell ⟨w.heap.size, 0, none⟩ (.slice (some ⟨w3.heap.size, 0, none⟩) 3 3)).setCell ⟨w.heap.size, 1, none⟩ (.string (bs s))).alloc (.cells #[.string (bs ra), .string (bs rb), .string (bs rc)] 26 (0, 0))) w.heap.size 51 [.slice (some ⟨w3.heap.size, 0, none⟩) 3 3, .string (bs s)] ∧ Below w.heap.size w (((w3.setCell ⟨w.heap.size, 0, none⟩ (.slice (some ⟨w3.heap.size, 0, none⟩) 3 3)).setCell ⟨w.heap.size, 1, none⟩ (.string (bs s))).alloc (.cells #[.string (bs ra), .string (bs rb), .string (bs rc)] 26 (0, 0)))) := Lib.hid ⟨hst.1.alloc _, bel_to hst.2 (bel_al _ _)⟩
  have HO := Lib.hid (OwnS.lit3' ((w3.setCell ⟨w.heap.size, 0, none⟩ (.slice (some ⟨w3.heap.size, 0, none⟩) 3 3)).setCell ⟨w.heap.size, 1, none⟩ (.string (bs s))) w3.heap.size w3.heap.size (by simp) (Nat.le_refl _) ra rb rc)
  clear hb1 hb2 hb3 hb123 hrw hbw HR0 HA HB HC hst hrA hrB
  go_wp2
  have q0 := HQ.out.1.cell (i := 0) rfl
  have q1 := HQ.out.1.cell (i := 1) rfl
  refine bodyPost_ret (v := .agg #[.slice (some ⟨w3.heap.size, 0, none⟩) 3 3, .string (bs s)]) (by simp [results, Tryz.results76, go_sem, q0, q1]) rfl ⟨_, rfl, HQ.out.2, _, _, rfl, by rw [HX.out]; exact HO.out⟩
end W
end Go.Proofs.YtnaikafamjebdaaGreatDoor
end
section
namespace Go.Proofs.YtnaikafamjebdaaGreatDoor
open Go Go.RowKit Go.Deep
theorem good_two {W : World} {B1 B2 : Nat} {v1 v2 : Value} {r1 r2 : List (List UInt8)} {q q2 : List UInt8} (h1 : OwnS W B1 v1 r1) (h2 : OwnS W B2 v2 r2) : GoodT W [(v1, (r1, q)), (v2, (r2, q2))] := fun x hx => by
  simp only [List.mem_cons, List.not_mem_nil, or_false] at hx
  rcases hx with rfl | rfl
  · exact ⟨_, h1⟩
  · exact ⟨_, h2⟩
namespace W
open M
attribute [local go_sem] bs_size bs_toList bs_get bs_extract bs_append bs_lit0 bs_lit1 lit1_bs
set_option maxHeartbeats 4000000
set_option maxRecDepth 20000
theorem rall46 (vt vc : Value) (ts : List Tg) (cs : List Cc) (w : World) (ht : RdG w vt ts) (hc : RdC w vc cs) (hok : chk46 ts cs = 0) :
    Calls Tryz.prog 40 #[vt, vc] w (fun e w' => ∃ v es, e = .returned v ∧ ExS w w' v es ∧ es.map (·.2) = bx (bnds (ts.zip cs))) := by
  obtain ⟨h1, h16, hlen, hrt⟩ := chk46_iff.1 hok
  have hzl : (ts.zip cs).length = ts.length := by rw [List.length_zip]; omega
  have hg : ∀ i (hi : i < ts.length) (hi2 : i < cs.length) (h3 : i < (ts.zip cs).length), (ts.zip cs)[i]'h3 = (ts[i], cs[i]) := fun i hi hi2 h3 => by simp
  have HRT : Hid (∀ i (hi : i < ts.length) (hi2 : i < cs.length), RtH (ts[i], cs[i])) := Lib.hid (fun i hi hi2 => hrt _ (by rw [← hg i hi hi2 (by omega)]; exact List.getElem_mem _))
  have HTK : Hid (∀ i (hi : i < ts.length) (hi2 : i < cs.length), bx (bnds ((ts.zip cs).take (i + 1))) = bx (bnds ((ts.zip cs).take i)) ++ bx (bnd4 ts[i] cs[i])) := Lib.hid (fun i hi hi2 => by
    have h := bnds_take (ts.zip cs) i (by omega)
    rw [hg i hi hi2 (by omega)] at h
    exact h)
  have HSZ : Hid (∀ i, i < ts.length → ((bx (bnds ((ts.zip cs).take i))).length + 4) * 40 ≤ 140737488355328) := Lib.hid (fun i hi => by
    rw [bx_len, bnds_len, List.length_take]; omega)
  have HEND := Lib.hid (show bx (bnds ((ts.zip cs).take ts.length)) = bx (bnds (ts.zip cs)) by rw [← hzl, List.take_length])
  have HLC := Lib.hid (show ∀ i, i < ts.length → i < cs.length from fun i hi => by omega)
  have HE0 : Hid (ExS w w (.slice none 0 0) []) := Lib.hid ⟨World.ownsRow_nil _ _ _ _, (fun x hx => by cases hx), Below.refl _ _⟩
  have HT := Lib.hid ht
  have HC := Lib.hid hc
  obtain ⟨At, ct, rfl⟩ := ht.len
  obtain ⟨Ac, cc, rfl⟩ := hc.len
  clear ht hc hok hlen hrt hzl hg h1
  generalize ts.zip cs = pl at *
  go_enter Tryz.func40, Tryz.ntmps40
  go_wp2
  go_loopw [5, 6] (fun vo iv wr => ∃ (i : Nat) (es : List (Value × BT)), iv = .int .i64 (i : Int) ∧ i ≤ ts.length ∧ Hid (ExS w wr vo es) ∧ Hid (es.map (·.2) = bx (bnds (pl.take i)))) (fun _ iv _ => ts.length - (intOf iv).toNat)
  case atStart => exact ⟨0, [], rfl, by omega, HE0, Lib.hid rfl⟩
  case round =>
    clear HE0
    obtain ⟨i, es, rfl, hi, hin, hes⟩ := hrel
    obtain ⟨Av, nv, cv, rfl⟩ := OwnE.shape hin.out.own
    by_cases hlt : i < ts.length
    · have hlc := HLC.out i hlt
      have HPI := Lib.hid (HRT.out i hlt hlc)
      have htk := HTK.out i hlt hlc
      have hsz := HSZ.out i hlt
      have hel := congrArg List.length hes.out
      rw [List.length_map] at hel
      rw [← hel] at hsz
      have HSI := Lib.hid hsz
      obtain ⟨bt, ot, rfl, hst⟩ := HT.out.row i hlt
      obtain ⟨bc, oc, rfl, hsc⟩ := HC.out.row i hlc
      have HVI := Lib.hid (fun W (hW : Below w.heap.size w W) => (hst.below' hW).val i hlt)
      have HDI := Lib.hid (fun W (hW : Below w.heap.size w W) => (hsc.below' hW).val i hlc)
      have hi0 : (0 : Int) ≤ (i : Int) := by omega
      have hit : (i : Int) < (ts.length : Int) := by omega
      have hic : (i : Int) < (cs.length : Int) := by omega
      have HW1 := Lib.hid (fun W => rwide46 ts[i] cs[i] W HPI.out.1 (by unfold wth; simp [HPI.out.2.2.1, HPI.out.2.2.2]))
      have w1 := HPI.out.wide
      have r1 := HPI.out.1.x
      have r2 := HPI.out.1.y
      have r3 := HPI.out.2.1.x
      have r4 := HPI.out.2.1.y
      simp only at w1 r1 r2 r3 r4
      rw [← bnd4_bx] at htk
      have HTKI := Lib.hid htk
      clear htk hsz hel hst hsc HTK HSZ HRT HPI
      generalize ts[i] = ti at *
      generalize cs[i] = ci at *
      generalize wide ti ci = n at *
      obtain ⟨tx, ty, tlo, thi, ttol, tmat, tpin⟩ := ti
      obtain ⟨cx, cy, cd⟩ := ci
      simp only at w1 r1 r2 r3 r4
      (try simp only at HTKI)
      obtain ⟨p1, hp1⟩ : ∃ p, p = 2 * (tx - cx) + n := ⟨_, rfl⟩
      obtain ⟨p2, hp2⟩ : ∃ p, p = 2 * (cx - tx) + n := ⟨_, rfl⟩
      obtain ⟨p3, hp3⟩ : ∃ p, p = 2 * (ty - cy) + n := ⟨_, rfl⟩
      obtain ⟨p4, hp4⟩ : ∃ p, p = 2 * (cy - ty) + n := ⟨_, rfl⟩
      obtain ⟨ny, hny⟩ : ∃ p, p = -cy := ⟨_, rfl⟩
      obtain ⟨nx, hnx⟩ : ∃ p, p = -cx := ⟨_, rfl⟩
      have z0 : IntKind.i64.wrap (tx - cx) = tx - cx := IntWalk.i64_in _ (by omega)
      have z1 : IntKind.i64.wrap (2 * (tx - cx)) = 2 * (tx - cx) := IntWalk.i64_in _ (by omega)
      have z2 : IntKind.i64.wrap (2 * (tx - cx) + n) = p1 := by rw [hp1]; exact IntWalk.i64_in _ (by omega)
      have z3 : IntKind.i64.wrap (cx - tx) = cx - tx := IntWalk.i64_in _ (by omega)
      have z4 : IntKind.i64.wrap (2 * (cx - tx)) = 2 * (cx - tx) := IntWalk.i64_in _ (by omega)
      have z5 : IntKind.i64.wrap (2 * (cx - tx) + n) = p2 := by rw [hp2]; exact IntWalk.i64_in _ (by omega)
      have z6 : IntKind.i64.wrap (ty - cy) = ty - cy := IntWalk.i64_in _ (by omega)
      have z7 : IntKind.i64.wrap (2 * (ty - cy)) = 2 * (ty - cy) := IntWalk.i64_in _ (by omega)
      have z8 : IntKind.i64.wrap (2 * (ty - cy) + n) = p3 := by rw [hp3]; exact IntWalk.i64_in _ (by omega)
      have z9 : IntKind.i64.wrap (cy - ty) = cy - ty := IntWalk.i64_in _ (by omega)
      have z10 : IntKind.i64.wrap (2 * (cy - ty)) = 2 * (cy - ty) := IntWalk.i64_in _ (by omega)
      have z11 : IntKind.i64.wrap (2 * (cy - ty) + n) = p4 := by rw [hp4]; exact IntWalk.i64_in _ (by omega)
      have z12 : IntKind.i64.wrap (-cy) = ny := by rw [hny]; exact IntWalk.i64_in _ (by omega)
      have z13 : IntKind.i64.wrap (-cx) = nx := by rw [hnx]; exact IntWalk.i64_in _ (by omega)
      have HO1 : Hid (∀ W, Calls Tryz.prog 45 #[.int .i64 p1, .int .i64 2] W (Ret W (.string (bs (R (((2 * (tx - cx) + n : Int) : Rat) / 2)))))) := Lib.hid (fun W => by
        have h := rover (2 * (tx - cx) + n) 2 W (by omega) (by decide) (by decide)
        rw [Rat.divInt_eq_div, ← hp1] at h
        rw [← hp1]
        exact h)
      have HN1 : Hid (∀ W, Calls Tryz.prog 76 #[.int .i64 1, .int .i64 0, .int .i64 ny, .string (bs (R (((2 * (tx - cx) + n : Int) : Rat) / 2)))] W (fun e w' => ∃ v, e = .returned v ∧ Below W.heap.size W w' ∧ IsBd (rx (castL [1, 0, ny]), R (((2 * (tx - cx) + n : Int) : Rat) / 2)) w' v)) := Lib.hid (fun W => by have h := rbound46 1 0 ny (R (((2 * (tx - cx) + n : Int) : Rat) / 2)) W (by omega) (by omega) (by omega); exact h)
      have HO2 : Hid (∀ W, Calls Tryz.prog 45 #[.int .i64 p2, .int .i64 2] W (Ret W (.string (bs (R (((2 * (cx - tx) + n : Int) : Rat) / 2)))))) := Lib.hid (fun W => by
        have h := rover (2 * (cx - tx) + n) 2 W (by omega) (by decide) (by decide)
        rw [Rat.divInt_eq_div, ← hp2] at h
        rw [← hp2]
        exact h)
      have HN2 : Hid (∀ W, Calls Tryz.prog 76 #[.int .i64 (-1), .int .i64 0, .int .i64 cy, .string (bs (R (((2 * (cx - tx) + n : Int) : Rat) / 2)))] W (fun e w' => ∃ v, e = .returned v ∧ Below W.heap.size W w' ∧ IsBd (rx (castL [-1, 0, cy]), R (((2 * (cx - tx) + n : Int) : Rat) / 2)) w' v)) := Lib.hid (fun W => by have h := rbound46 (-1) 0 cy (R (((2 * (cx - tx) + n : Int) : Rat) / 2)) W (by omega) (by omega) (by omega); exact h)
      have HO3 : Hid (∀ W, Calls Tryz.prog 45 #[.int .i64 p3, .int .i64 2] W (Ret W (.string (bs (R (((2 * (ty - cy) + n : Int) : Rat) / 2)))))) := Lib.hid (fun W => by
        have h := rover (2 * (ty - cy) + n) 2 W (by omega) (by decide) (by decide)
        rw [Rat.divInt_eq_div, ← hp3] at h
        rw [← hp3]
        exact h)
      have HN3 : Hid (∀ W, Calls Tryz.prog 76 #[.int .i64 0, .int .i64 1, .int .i64 cx, .string (bs (R (((2 * (ty - cy) + n : Int) : Rat) / 2)))] W (fun e w' => ∃ v, e = .returned v ∧ Below W.heap.size W w' ∧ IsBd (rx (castL [0, 1, cx]), R (((2 * (ty - cy) + n : Int) : Rat) / 2)) w' v)) := Lib.hid (fun W => by have h := rbound46 0 1 cx (R (((2 * (ty - cy) + n : Int) : Rat) / 2)) W (by omega) (by omega) (by omega); exact h)
      have HO4 : Hid (∀ W, Calls Tryz.prog 45 #[.int .i64 p4, .int .i64 2] W (Ret W (.string (bs (R (((2 * (cy - ty) + n : Int) : Rat) / 2)))))) := Lib.hid (fun W => by
        have h := rover (2 * (cy - ty) + n) 2 W (by omega) (by decide) (by decide)
        rw [Rat.divInt_eq_div, ← hp4] at h
        rw [← hp4]
        exact h)
      have HN4 : Hid (∀ W, Calls Tryz.prog 76 #[.int .i64 0, .int .i64 (-1), .int .i64 nx, .string (bs (R (((2 * (cy - ty) + n : Int) : Rat) / 2)))] W (fun e w' => ∃ v, e = .returned v ∧ Below W.heap.size W w' ∧ IsBd (rx (castL [0, -1, nx]), R (((2 * (cy - ty) + n : Int) : Rat) / 2)) w' v)) := Lib.hid (fun W => by have h := rbound46 0 (-1) nx (R (((2 * (cy - ty) + n : Int) : Rat) / 2)) W (by omega) (by omega) (by omega); exact h)
      rw [← hny, ← hnx] at HTKI
      clear w1 r1 r2 r3 r4 hp1 hp2 hp3 hp4 hny hnx
      generalize R (((2 * (tx - cx) + n : Int) : Rat) / 2) = q1 at *
      generalize rx (castL [1, 0, ny]) = row1 at *
      generalize R (((2 * (cx - tx) + n : Int) : Rat) / 2) = q2 at *
      generalize rx (castL [-1, 0, cy]) = row2 at *
      generalize R (((2 * (ty - cy) + n : Int) : Rat) / 2) = q3 at *
      generalize rx (castL [0, 1, cx]) = row3 at *
      generalize R (((2 * (cy - ty) + n : Int) : Rat) / 2) = q4 at *
      generalize rx (castL [0, -1, nx]) = row4 at *
      have c0 := (HDI.out _ hin.out.bel).1
      have c1 := (HDI.out _ hin.out.bel).2.1
      go_wp2_with fail
      go_quiet (fail)
      clear c0 c1
      go_wp2_with fail
      refine genw (fun W => ExS w W (.slice Av nv cv) es) (hin.out.to (below_drewN (Below.refl _ _) _)) ?_
      intro W5 hW5
      have HI5 := Lib.hid hW5
      clear hW5 hin
      obtain ⟨a0, a1, a2, a3, a4, a5, a6⟩ := HVI.out _ HI5.out.bel
      obtain ⟨d0, d1, d2⟩ := HDI.out _ HI5.out.bel
      have ma0 := cell_regrown a0
      have ma1 := cell_regrown a1
      have ma2 := cell_regrown a2
      have ma3 := cell_regrown a3
      have ma4 := cell_regrown a4
      have ma5 := cell_regrown a5
      have ma6 := cell_regrown a6
      have md0 := cell_regrown d0
      have md1 := cell_regrown d1
      have md2 := cell_regrown d2
      have e1 : ∀ args w, (callFunc 68 args).run Tryz.prog w = .ok (.enter 68 args) w := enters_of Tryz.func68 (by kernel_rfl) rfl
      have k1 := reg_of (w := W5) (fun W _ => HW1.out W)
      clear a0 a1 a2 a3 a4 a5 a6 d0 d1 d2
      go_wp2_with fail
      refine wp_region_quiet_below (by kernel_rfl) (by kernel_rfl) ?_
      repeat (go_big_quiet_step (fail))
      go_big_quiet_step (exact k1 _ _)
      repeat (go_big_quiet_step (fail))
      refine wpQuiet_nil ?_
      intro W6 hw'
      have hb6 : Below W5.heap.size W5 W6 := by obtain ⟨p, e⟩ := hw'; rw [e]; exact below_regrown W5 p.d p.os
      clear hw'
      have HI6 := Lib.hid (HI5.out.to hb6)
      clear ma0 ma1 ma2 ma3 ma4 ma5 ma6 md0 md1 md2 e1 k1 hb6 HI5 HW1
      go_wp2_with fail
      refine genw (fun W => ExS w W (.slice Av nv cv) es) HI6.out ?_
      intro W hW
      have H7 := Lib.hid hW
      clear hW HI6
      have HBD := Lib.hid (RowKit.Below.drew (Below.refl W.heap.size W))
      have HLN2 := Lib.hid (show ((es).length + 2) * 40 ≤ 140737488355328 by have := HSI.out; omega)
      go_region_held3 (fun E => E.cell? ⟨bt, ot + i * 7, none⟩ = some (.int .i64 tx))
        (first | exact (HVI.out _ HI9.out.bel).1 | exact (HVI.out _ HX.out.bel).1 | exact (HVI.out _ (bel_to H7.out.bel HB4.out)).1 | exact (HVI.out _ (bel_to H7.out.bel HB3.out)).1 | exact (HVI.out _ (bel_to H7.out.bel HB2.out)).1 | exact (HVI.out _ (bel_to H7.out.bel HB1.out)).1 | exact (HVI.out _ (bel_to H7.out.bel HBD.out)).1 | exact (HVI.out _ H7.out.bel).1 | exact (HVI.out _ (bel_to H7.out.bel (bel_to HB4.out (bel_al u4 (Obj.cells (bcs [((.slice A1 n1 c1 : Value), ((row1, q1) : BT)), ((.slice A2 n2 c2 : Value), ((row2, q2) : BT))]).toArray 51 (0, 0)))))).1)
        (first
        | (go_at_call 45; first
          | (have hz2 := HB2; clear hz2; refine (HO2.out _).mono ?_; rintro e u3 ⟨rfl, hb3⟩; have HB3 := Lib.hid (bel_to HB2.out hb3); have HV3 := Lib.hid (OwnS.below HV1.out hb3); clear hb3)
          | (refine (HO1.out _).mono ?_; rintro e u1 ⟨rfl, hb1⟩; have HB1 := Lib.hid (bel_to HBD.out hb1); clear hb1))
        | (go_at_call 76; first
          | (have hz3 := HB3; clear hz3; refine (HN2.out _).mono ?_; rintro e u4 ⟨v2, rfl, hb4, hv2⟩; have HB4 := Lib.hid (bel_to HB3.out hb4); obtain ⟨vr2, B2, rfl, ho2⟩ := hv2; obtain ⟨A2, n2, c2, rfl⟩ := OwnS.shape ho2; have HX := Lib.hid (H7.out.to (bel_to HB4.out (bel_al u4 (Obj.cells (bcs [((.slice A1 n1 c1 : Value), ((row1, q1) : BT)), ((.slice A2 n2 c2 : Value), ((row2, q2) : BT))]).toArray 51 (0, 0))))); have HGG := Lib.hid (good_two ((OwnS.below HV3.out hb4).below (bel_al u4 (Obj.cells (bcs [((.slice A1 n1 c1 : Value), ((row1, q1) : BT)), ((.slice A2 n2 c2 : Value), ((row2, q2) : BT))]).toArray 51 (0, 0)))) (OwnS.below ho2 (bel_al u4 (Obj.cells (bcs [((.slice A1 n1 c1 : Value), ((row1, q1) : BT)), ((.slice A2 n2 c2 : Value), ((row2, q2) : BT))]).toArray 51 (0, 0)))) (q := q1) (q2 := q2)); clear hb4 ho2)
          | (refine (HN1.out _).mono ?_; rintro e u2 ⟨v1, rfl, hb2, hv1⟩; have HB2 := Lib.hid (bel_to HB1.out hb2); obtain ⟨vr1, B1, rfl, ho1⟩ := hv1; obtain ⟨A1, n1, c1, rfl⟩ := OwnS.shape ho1; have HV1 := Lib.hid ho1; clear hb2 ho1))
        | (refine step_app_e rfl (.tmp 37) (.tmp 67) rfl rfl rfl HX.out.own (srcE_new u4 [((.slice A1 n1 c1 : Value), ((row1, q1) : BT)), ((.slice A2 n2 c2 : Value), ((row2, q2) : BT))]) HGG.out.good HX.out.bel.size HLN2.out ?_; intro v9 w9 ho9 hg9; obtain ⟨A9, n9, c9, rfl⟩ := OwnE.shape ho9; have HI9 := Lib.hid (ExS.app HX.out HGG.out ho9 hg9); clear ho9 hg9))
      all_goals
        refine genw (fun W => ExS w W (.slice A9 n9 c9) (es ++ [((.slice A1 n1 c1 : Value), ((row1, q1) : BT)), ((.slice A2 n2 c2 : Value), ((row2, q2) : BT))])) HI9.out ?_
        intro W8 hW
        have hes1 : ((es ++ [((.slice A1 n1 c1 : Value), ((row1, q1) : BT)), ((.slice A2 n2 c2 : Value), ((row2, q2) : BT))])).map (·.2) = es.map (·.2) ++ [((row1, q1) : BT), (row2, q2)] := by rw [List.map_append]; rfl
        have hlen1 : ((es ++ [((.slice A1 n1 c1 : Value), ((row1, q1) : BT)), ((.slice A2 n2 c2 : Value), ((row2, q2) : BT))])).length = es.length + 2 := by simp
        have H8 := Lib.hid hW
        clear hW HI9 HX HB1 HB2 HB3 HB4 HV1 HV3 HGG HBD HLN2 H7
        generalize (es ++ [((.slice A1 n1 c1 : Value), ((row1, q1) : BT)), ((.slice A2 n2 c2 : Value), ((row2, q2) : BT))]) = es1 at *
        have HES1 := Lib.hid hes1
        have HLE1 := Lib.hid hlen1
        clear hes1 hlen1
        go_wp2_with fail
        refine genw (fun W => ExS w W (.slice A9 n9 c9) es1) H8.out ?_
        clear H8
        intro W hW
        have H7 := Lib.hid hW
        clear hW
        have HBD := Lib.hid (RowKit.Below.drew (Below.refl W.heap.size W))
        have HLN2 := Lib.hid (show ((es1).length + 2) * 40 ≤ 140737488355328 by have := HSI.out; have := HLE1.out; omega)
        go_region_held3 (fun E => E.cell? ⟨bt, ot + i * 7 + 1, none⟩ = some (.int .i64 ty))
          (first | exact (HVI.out _ HI9.out.bel).2.1 | exact (HVI.out _ HX.out.bel).2.1 | exact (HVI.out _ (bel_to H7.out.bel HB4.out)).2.1 | exact (HVI.out _ (bel_to H7.out.bel HB3.out)).2.1 | exact (HVI.out _ (bel_to H7.out.bel HB2.out)).2.1 | exact (HVI.out _ (bel_to H7.out.bel HB1.out)).2.1 | exact (HVI.out _ (bel_to H7.out.bel HBD.out)).2.1 | exact (HVI.out _ H7.out.bel).2.1 | exact (HVI.out _ (bel_to H7.out.bel (bel_to HB4.out (bel_al u4 (Obj.cells (bcs [((.slice A1 n1 c1 : Value), ((row3, q3) : BT)), ((.slice A2 n2 c2 : Value), ((row4, q4) : BT))]).toArray 51 (0, 0)))))).2.1)
          (first
          | (go_at_call 45; first
            | (have hz2 := HB2; clear hz2; refine (HO4.out _).mono ?_; rintro e u3 ⟨rfl, hb3⟩; have HB3 := Lib.hid (bel_to HB2.out hb3); have HV3 := Lib.hid (OwnS.below HV1.out hb3); clear hb3)
            | (refine (HO3.out _).mono ?_; rintro e u1 ⟨rfl, hb1⟩; have HB1 := Lib.hid (bel_to HBD.out hb1); clear hb1))
          | (go_at_call 76; first
            | (have hz3 := HB3; clear hz3; refine (HN4.out _).mono ?_; rintro e u4 ⟨v2, rfl, hb4, hv2⟩; have HB4 := Lib.hid (bel_to HB3.out hb4); obtain ⟨vr2, B2, rfl, ho2⟩ := hv2; obtain ⟨A2, n2, c2, rfl⟩ := OwnS.shape ho2; have HX := Lib.hid (H7.out.to (bel_to HB4.out (bel_al u4 (Obj.cells (bcs [((.slice A1 n1 c1 : Value), ((row3, q3) : BT)), ((.slice A2 n2 c2 : Value), ((row4, q4) : BT))]).toArray 51 (0, 0))))); have HGG := Lib.hid (good_two ((OwnS.below HV3.out hb4).below (bel_al u4 (Obj.cells (bcs [((.slice A1 n1 c1 : Value), ((row3, q3) : BT)), ((.slice A2 n2 c2 : Value), ((row4, q4) : BT))]).toArray 51 (0, 0)))) (OwnS.below ho2 (bel_al u4 (Obj.cells (bcs [((.slice A1 n1 c1 : Value), ((row3, q3) : BT)), ((.slice A2 n2 c2 : Value), ((row4, q4) : BT))]).toArray 51 (0, 0)))) (q := q3) (q2 := q4)); clear hb4 ho2)
            | (refine (HN3.out _).mono ?_; rintro e u2 ⟨v1, rfl, hb2, hv1⟩; have HB2 := Lib.hid (bel_to HB1.out hb2); obtain ⟨vr1, B1, rfl, ho1⟩ := hv1; obtain ⟨A1, n1, c1, rfl⟩ := OwnS.shape ho1; have HV1 := Lib.hid ho1; clear hb2 ho1))
          | (refine step_app_e rfl (.tmp 69) (.tmp 99) rfl rfl rfl HX.out.own (srcE_new u4 [((.slice A1 n1 c1 : Value), ((row3, q3) : BT)), ((.slice A2 n2 c2 : Value), ((row4, q4) : BT))]) HGG.out.good HX.out.bel.size HLN2.out ?_; intro v9 w9 ho9 hg9; obtain ⟨A9, n9, c9, rfl⟩ := OwnE.shape ho9; have HI9 := Lib.hid (ExS.app HX.out HGG.out ho9 hg9); clear ho9 hg9))
        all_goals
          have hes2 : ((es1 ++ [((.slice A1 n1 c1 : Value), ((row3, q3) : BT)), ((.slice A2 n2 c2 : Value), ((row4, q4) : BT))])).map (·.2) = bx (bnds (pl.take (i + 1))) := by
            rw [List.map_append, HES1.out, hes.out, HTKI.out, List.append_assoc]
            rfl
          have HES2 := Lib.hid hes2
          clear hes2 HX HB1 HB2 HB3 HB4 HV1 HV3 HGG HBD HLN2 H7 HES1 HLE1 hes
          go_wp2
          go_roundw
          case rel => exact ⟨i + 1, _, by go_num, by omega, HI9, HES2⟩
          case measure => simp [intOf]; omega
    · obtain rfl : i = ts.length := by omega
      have hes2 := hes.out
      rw [HEND.out] at hes2
      have HE := Lib.hid (And.intro hin.out hes2)
      clear hes hes2 hin
      go_wp2
      go_ret
      exact ⟨_, es, rfl, HE.out.1, HE.out.2⟩
end W
end Go.Proofs.YtnaikafamjebdaaGreatDoor
end
section
namespace Go.Proofs.YtnaikafamjebdaaGreatDoor
open Go Go.RowKit Go.Deep
namespace W
open M
attribute [local go_sem] bs_size bs_toList bs_get bs_extract bs_append bs_lit0 bs_lit1 lit1_bs
set_option maxHeartbeats 2000000
set_option maxRecDepth 20000
theorem rsame02 (va vb : Value) (l : List (List UInt8)) (w : World) (ha : RdT w va l) (hb : RdT w vb l) (hn : l.length ≤ 1000000) :
    Calls Tryz.prog 20 #[va, vb] w (Ret w (.bool true)) := by
  obtain ⟨A, ca, rfl⟩ := ha.len
  obtain ⟨B, cb, rfl⟩ := hb.len
  have HA := Lib.hid ha
  have HB := Lib.hid hb
  clear ha hb
  go_enter Tryz.func20, Tryz.ntmps20
  go_wp2
  go_loopw [5] (fun iv wr => ∃ i : Nat, iv = .int .i64 (i : Int) ∧ i ≤ l.length ∧ Below w.heap.size w wr) (fun iv _ => l.length - (intOf iv).toNat)
  case atStart => exact ⟨0, rfl, by omega, Below.refl _ _⟩
  case round =>
    obtain ⟨i, rfl, hi, hbw⟩ := hrel
    by_cases hlt : i < l.length
    · obtain ⟨b1, o1, rfl, hw1⟩ := HA.out.row i hlt
      obtain ⟨b2, o2, rfl, hw2⟩ := HB.out.row i hlt
      have c1 := (hw1.below' hbw).val i hlt
      have c2 := (hw2.below' hbw).val i hlt
      have hi1 : (i : Int) < (l.length : Int) := by omega
      clear hw1 hw2
      generalize l[i] = x at *
      go_wp2_with fail
      go_quiet (fail)
      clear c1 c2
      go_wp2
      go_roundw
      case rel => exact ⟨i + 1, by go_num, by omega, bel_to hbw (below_drewN (Below.refl _ _) _)⟩
      case measure => simp [intOf]; omega
    · obtain rfl : i = l.length := by omega
      go_wp2
      go_ret
      exact ⟨rfl, hbw⟩
theorem rbounds_bad (vt vc : Value) (ts : List Tg) (cs : List Cc) (w : World) (ht : RdG w vt ts) (hc : RdC w vc cs) (nt : ts.length ≤ maxLen) (nc : cs.length ≤ maxLen) (h : chk46 ts cs ≠ 0) :
    Calls Tryz.prog 15 #[vt, vc] w (Ret w (.tuple #[.slice none 0 0, .int .i64 ((chk46 ts cs : Nat) : Int)])) := by
  have HC := Lib.hid (rcheck46 vt vc ts cs w ht hc nt nc)
  have hz := nz_bne h
  obtain ⟨At, ct, rfl⟩ := ht.len
  obtain ⟨Ac, cc, rfl⟩ := hc.len
  generalize ((chk46 ts cs : Nat) : Int) = ck at *
  clear ht hc nt nc h
  go_enter Tryz.func15, Tryz.ntmps15
  go_wp2_with fail
  refine (HC.out).mono ?_
  rintro e w1 ⟨rfl, hb1⟩
  go_wp2
  go_ret2
  exact ⟨rfl, hb1⟩
theorem rbounds_ok (vt vc : Value) (ts : List Tg) (cs : List Cc) (w : World) (ht : RdG w vt ts) (hc : RdC w vc cs) (nt : ts.length ≤ maxLen) (nc : cs.length ≤ maxLen) (h : chk46 ts cs = 0) :
    Calls Tryz.prog 15 #[vt, vc] w (fun e w' => ∃ v, e = .returned (.tuple #[v, .int .i64 0]) ∧ RdB w' v (bx (bnds (ts.zip cs))) ∧ Below w.heap.size w w') := by
  have hc0 := rcheck46 vt vc ts cs w ht hc nt nc
  rw [h] at hc0
  have HC : Hid (Calls Tryz.prog 9 #[vt, vc] w (Ret w (.int .i64 0))) := Lib.hid hc0
  have HA := Lib.hid (fun W (hW : Below w.heap.size w W) => rall46 vt vc ts cs W (ht.below hW) (hc.below hW) h)
  obtain ⟨At, ct, rfl⟩ := ht.len
  obtain ⟨Ac, cc, rfl⟩ := hc.len
  clear ht hc nt nc h hc0
  go_enter Tryz.func15, Tryz.ntmps15
  go_wp2_with fail
  refine (HC.out).mono ?_
  rintro e w1 ⟨rfl, hb1⟩
  have HB1 := Lib.hid hb1
  go_wp2_with fail
  refine (HA.out _ HB1.out).mono ?_
  rintro e w2 ⟨v, es, rfl, hs, hm⟩
  have HF := Lib.hid (show RdB w2 v (bx (bnds (ts.zip cs))) ∧ Below w.heap.size w w2 from ⟨by rw [← hm]; exact OwnE.rd hs.own hs.good.good, bel_to HB1.out hs.bel⟩)
  obtain ⟨A, c, rfl⟩ := HF.out.1.len
  clear hs hm hb1
  go_wp2
  go_ret2
  exact ⟨_, rfl, HF.out⟩
end W
end Go.Proofs.YtnaikafamjebdaaGreatDoor
end
section
namespace Go.Proofs.YtnaikafamjebdaaGreatDoor
open Go Go.RowKit Go.Deep
namespace W
open M
attribute [local go_sem] bs_size bs_toList bs_get bs_extract bs_append bs_lit0 bs_lit1 lit1_bs
set_option maxHeartbeats 2000000
set_option maxRecDepth 20000
theorem sameB (va vb : Value) (l : List (List UInt8)) (q : List UInt8) (w : World) (ha : RdT w va l) (hb : RdT w vb l) (hn : l.length ≤ 1000000) :
    Calls Tryz.prog 19 #[.agg #[va, .string (bs q)], .agg #[vb, .string (bs q)]] w (Ret w (.bool true)) := by
  have HS := Lib.hid (fun W (hW : Below w.heap.size w W) => rsame02 va vb l W (ha.below hW) (hb.below hW) hn)
  obtain ⟨A, ca, rfl⟩ := ha.len
  obtain ⟨B, cb, rfl⟩ := hb.len
  have h0 := bel_al w (.cells #[.slice A l.length ca, .string (bs q)] 51 (0, 0))
  have h1 := bel_to h0 (bel_al _ (.cells #[.slice B l.length cb, .string (bs q)] 51 (0, 0)))
  have H1 := Lib.hid h1
  clear ha hb h0 h1
  go_enter Tryz.func19, Tryz.ntmps19
  go_wp2_with fail
  refine (HS.out _ H1.out).mono ?_
  rintro e w1 ⟨rfl, hb1⟩
  have HB1 := Lib.hid (bel_to H1.out hb1)
  clear hb1
  go_wp2
  go_ret
  exact ⟨rfl, HB1.out⟩
theorem equalB (va vb : Value) (l : List BT) (w : World) (ha : RdB w va l) (hb : RdB w vb l) (hn : l.length ≤ 1000000) (hr : ∀ b ∈ l, b.1.length ≤ 1000000) :
    Calls Tryz.prog 18 #[va, vb, .func (.func 19) #[] #[]] w (Ret w (.bool true)) := by
  have HS := Lib.hid (fun i (hi : i < l.length) ua ub W (h1 : RdT W ua l[i].1) (h2 : RdT W ub l[i].1) => sameB ua ub l[i].1 l[i].2 W h1 h2 (hr _ (List.getElem_mem hi)))
  obtain ⟨A, ca, rfl⟩ := ha.len
  obtain ⟨B, cb, rfl⟩ := hb.len
  have HA := Lib.hid ha
  have HB := Lib.hid hb
  clear ha hb hr
  go_enter Tryz.func18, Tryz.ntmps18
  go_wp2
  go_loopw [17] (fun iv wr => ∃ i : Nat, iv = .int .i64 (i : Int) ∧ i ≤ l.length ∧ Hid (Below w.heap.size w wr)) (fun iv _ => l.length - (intOf iv).toNat)
  case atStart => exact ⟨0, rfl, by omega, Lib.hid (Below.refl _ _)⟩
  case round =>
    obtain ⟨i, rfl, hi, hbw⟩ := hrel
    by_cases hlt : i < l.length
    · obtain ⟨b1, o1, rfl, hw1⟩ := HA.out.row i hlt
      obtain ⟨b2, o2, rfl, hw2⟩ := HB.out.row i hlt
      obtain ⟨ua, c1, hua, hsa⟩ := (hw1.below' hbw.out).row i hlt
      have c2 := (hw1.below' hbw.out).most i hlt
      obtain ⟨ub, d1, hub, hsb⟩ := (hw2.below' hbw.out).row i hlt
      have d2 := (hw2.below' hbw.out).most i hlt
      have hi1 : (i : Int) < (l.length : Int) := by omega
      have HI := Lib.hid (fun W (hW : Below wr.heap.size wr W) => HS.out i hlt ua ub W (hua.below hW) (hub.below hW))
      have d1' := fun o : Obj => ((bel_al wr o).cell (block_lt_of_cell d1)).trans d1
      have d2' := fun o : Obj => ((bel_al wr o).cell (block_lt_of_cell d2)).trans d2
      obtain ⟨Ar, cr, rfl⟩ := hua.len
      obtain ⟨Br, dr, rfl⟩ := hub.len
      clear hw1 hw2 hua hub
      generalize l[i] = x at *
      go_wp2_with fail
      have H2 := Lib.hid (bel_to (bel_al wr (.cells #[.slice Ar x.1.length cr, .string (bs x.2)] 51 (0, 0))) (bel_al _ (.cells #[.slice Br x.1.length dr, .string (bs x.2)] 51 (0, 0))))
      refine (HI.out _ H2.out).mono ?_
      rintro e w1 ⟨rfl, hb1⟩
      have HB1 := Lib.hid (bel_to hbw.out (bel_to H2.out hb1))
      clear hb1 H2 d1' d2' c1 c2 d1 d2
      go_wp2
      go_roundw
      case rel => exact ⟨i + 1, by go_num, by omega, HB1⟩
      case measure => simp [intOf]; omega
    · obtain rfl : i = l.length := by omega
      go_wp2
      go_ret
      exact ⟨rfl, hbw.out⟩
end W
end Go.Proofs.YtnaikafamjebdaaGreatDoor
end
