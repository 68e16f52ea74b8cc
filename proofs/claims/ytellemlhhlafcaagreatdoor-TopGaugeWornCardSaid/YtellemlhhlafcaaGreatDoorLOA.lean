/-
  Chapters 44 and 47 of the program: virtual sizes of right targets at maximum material.
  Chapter 47 of the program: 'mapped' to numbers, 'virtual'.
  Chapter 47: lists of elements, and of tools. (Printed by wip/otc.py.)
  Chapter 47 of the program: 'mapped' to elements, with errors.
-/
import Derived.Test.YtellemlhhlafcaaGreatDoorLQ
import Derived.Test.YtellemlhhlafcaaGreatDoorLU
import Derived.Test.YtellemlhhlafcaaGreatDoorLM
import Derived.Maps.AppendAt
section
namespace Go.Proofs.YtellemlhhlafcaaGreatDoor
open Go Go.RowKit Go.Deep Go.Sort
namespace M
def virt (t : Tg) : Int := if t.pin = true then t.hi + t.tol else t.lo - t.tol
theorem virt_rng {t : Tg} (h : RtT t) : 1 ≤ virt t ∧ virt t ≤ 200000 := by
  have h1 := h.lo
  have h2 := h.hi
  have h3 := h.tol
  have h4 := h.pin
  unfold virt
  cases hp : t.pin with
  | true => rw [if_pos rfl]; omega
  | false =>
    have := h4 hp
    rw [if_neg (by decide)]
    omega
theorem virt_side {t : Tg} (hm : t.mat = 1) : (if sideT t < 0 then t.lo else t.hi) + sideT t * t.tol = virt t ∧ (sideT t = 1 ∨ sideT t = -1) := by
  unfold sideT virt
  rw [hm]
  cases t.pin with
  | true => simp
  | false => simp; omega
end M
namespace W
open M
attribute [local go_sem] bs_size bs_toList bs_get bs_extract bs_append bs_lit0 bs_lit1 lit1_bs
set_option maxHeartbeats 1000000
set_option maxRecDepth 20000
theorem bvirtual (t : Tg) (w : World) (hs : Sig w) (ht : RtT t) (hm : t.mat = 1) : Calls Tryz.prog 49 #[tgV t] w (Ret w (.tuple #[.int .i64 (virt t), .int .i64 0])) := by
  have HB0 := Lib.hid (bel_al w (tgO t))
  have HX := Lib.hid (rnw (w := w) (t := 27) (xs := tgC t))
  have hc := fun W => bcheck t W
  rw [(chkT_iff t).2 ht] at hc
  have HC := Lib.hid hc
  have HO := Lib.hid (fun W (hW : Below w.heap.size w W) => bof t W (hs.below hW) ht.mat)
  obtain ⟨hv, hsd⟩ := virt_side hm
  have hr := virt_rng ht
  have htl := ht.tol
  have hlo := ht.lo
  have hhi := ht.hi
  have hpr : wrap64 (sideT t * t.tol) = sideT t * t.tol := by
    rcases hsd with e | e <;> rw [e] <;> unfold wrap64 <;> omega
  have hsm : wrap64 ((if sideT t < 0 then t.lo else t.hi) + sideT t * t.tol) = virt t := by rw [hv]; unfold wrap64; omega
  have HE := Lib.hid (fun W => bend t (sideT t) (sideT t) W)
  generalize virt t = V at *
  generalize sideT t = s at *
  generalize (if s < 0 then t.lo else t.hi) = ed at *
  clear hs ht hm hc hv hsd hr htl hlo hhi
  unfold tgO tgC at *
  obtain ⟨x, y, lo, hi, tol, mat, pin⟩ := t
  simp only at *
  have x0 := HX.out.cell (i := 0) rfl
  go_enter Tryz.func49, Tryz.ntmps49
  go_wp2_with fail
  refine (HC.out _).mono ?_
  rintro e w1 ⟨rfl, hb1⟩
  have HX1 := Lib.hid (HX.out.below' hb1)
  have HB1 := Lib.hid (bel_to HB0.out hb1)
  clear x0
  have x0 := HX1.out.cell (i := 0) rfl
  have x1 := HX1.out.cell (i := 1) rfl
  have x2 := HX1.out.cell (i := 2) rfl
  have x3 := HX1.out.cell (i := 3) rfl
  have x4 := HX1.out.cell (i := 4) rfl
  have x5 := HX1.out.cell (i := 5) rfl
  have x6 := HX1.out.cell (i := 6) rfl
  clear hb1 HX HB0 HC
  go_wp2_with fail
  refine (HO.out _ HB1.out).mono ?_
  rintro e w2 ⟨rfl, hb2⟩
  have hal := bel_al w2 (.cells #[.int .i64 x, .int .i64 y, .int .i64 lo, .int .i64 hi, .int .i64 tol, .int .i64 mat, .bool pin, .int .i64 s] 177 (0, 0))
  have hrw : Row (w2.alloc (.cells #[.int .i64 x, .int .i64 y, .int .i64 lo, .int .i64 hi, .int .i64 tol, .int .i64 mat, .bool pin, .int .i64 s] 177 (0, 0))) w2.heap.size 177 [.int .i64 x, .int .i64 y, .int .i64 lo, .int .i64 hi, .int .i64 tol, .int .i64 mat, .bool pin, .int .i64 s] := rnw
  have HB2 := Lib.hid (bel_to (bel_to HB1.out hb2) hal)
  have HR := Lib.hid hrw
  clear hb2 hal hrw HX1 HB1 HO x0 x1 x2 x3 x4 x5 x6
  go_wp2_with fail
  generalize w2.alloc (.cells #[.int .i64 x, .int .i64 y, .int .i64 lo, .int .i64 hi, .int .i64 tol, .int .i64 mat, .bool pin, .int .i64 s] 177 (0, 0)) = V2 at *
  generalize w2.heap.size = vb at *
  have m0 := cell_regrown (HR.out.cell (i := 0) rfl)
  have m1 := cell_regrown (HR.out.cell (i := 1) rfl)
  have m2 := cell_regrown (HR.out.cell (i := 2) rfl)
  have m3 := cell_regrown (HR.out.cell (i := 3) rfl)
  have m4 := cell_regrown (HR.out.cell (i := 4) rfl)
  have m5 := cell_regrown (HR.out.cell (i := 5) rfl)
  have m6 := cell_regrown (HR.out.cell (i := 6) rfl)
  have m7 := cell_regrown (HR.out.cell (i := 7) rfl)
  have k1 := reg_of (w := V2) (fun W _ => HE.out W)
  have e1 : ∀ args w, (callFunc 88 args).run Tryz.prog w = .ok (.enter 88 args) w := enters_of Tryz.func88 (by kernel_rfl) rfl
  refine wp_region_quiet_below (by kernel_rfl) (by kernel_rfl) ?_
  repeat (go_big_quiet_step (fail))
  go_big_quiet_step (exact k1 _ _)
  repeat (go_big_quiet_step (fail))
  refine wpQuiet_nil ?_
  intro W6 hw'
  have hb6 : Below V2.heap.size V2 W6 := by obtain ⟨p, e⟩ := hw'; rw [e]; exact below_regrown V2 p.d p.os
  clear hw'
  have hb6' := bel_to HB2.out hb6
  clear hb6 k1 e1 m0 m1 m2 m3 m4 m5 m6 m7 HB2 HR HE
  go_wp2
  go_ret2
  exact Ret.of (by rw [← hsm]; rfl) hb6'
end W
end Go.Proofs.YtellemlhhlafcaaGreatDoor
end
section
namespace Go.Proofs.YtellemlhhlafcaaGreatDoor
open Go Go.RowKit Go.Deep Go.Sort
theorem OwnI.shape {w : World} {B : Nat} {v : Value} {l : List Int} (h : OwnI w B v l) : ∃ A n c, v = .slice A n c := by
  rcases h.2 with ⟨e, _⟩ | ⟨g, cap, _, e, _⟩
  · exact ⟨_, _, _, e⟩
  · exact ⟨_, _, _, e⟩
namespace W
open M
attribute [local go_sem] bs_size bs_toList bs_get bs_extract bs_append bs_lit0 bs_lit1 lit1_bs
set_option maxHeartbeats 1000000
set_option maxRecDepth 20000
theorem gmapI (f : Nat) (g : Tg → Int) (vl : Value) (l : List Tg) (w : World) (hf : Enters Tryz.prog f) (hl : RdG w vl l) (hn : l.length ≤ 16)
    (hF : ∀ wx, Below w.heap.size w wx → ∀ i (hi : i < l.length), Calls Tryz.prog f #[.int .i64 (i : Int), tgV l[i]] wx (Ret wx (.tuple #[.int .i64 (g l[i]), .int .i64 0]))) :
    Calls Tryz.prog 123 #[vl, .func (.func f) #[] #[]] w (fun e w' => ∃ v, e = .returned (.tuple #[v, .int .i64 0]) ∧ OwnI w' w.heap.size v (l.map g) ∧ Below w.heap.size w w') := by
  obtain ⟨A, cap, rfl⟩ := hl.len
  have HL := Lib.hid hl
  have HF := Lib.hid hF
  unfold Enters at hf
  have HTK := Lib.hid (fun i (hi : i < l.length) => show (l.map g).take (i + 1) = (l.map g).take i ++ [g l[i]] from by
    rw [List.take_succ_eq_append_getElem (by rw [List.length_map]; exact hi)]
    simp)
  have HFU : Hid ((l.map g).take l.length = l.map g) := Lib.hid (List.take_of_length_le (by rw [List.length_map]; omega))
  have HLT := Lib.hid (fun i (hi : i ≤ l.length) => show ((l.map g).take i).length = i from by rw [List.length_take, List.length_map]; omega)
  clear hl hF
  go_enter Tryz.func123, Tryz.ntmps123
  go_wp2
  go_loopw [6, 13] (fun ov iv wr => ∃ (i : Nat) (vo : Value), iv = .int .i64 (i : Int) ∧ ov = vo ∧ i ≤ l.length ∧ Hid (OwnI wr w.heap.size vo ((l.map g).take i) ∧ Below w.heap.size w wr)) (fun _ iv _ => l.length - (intOf iv).toNat)
  case atStart => exact ⟨0, _, rfl, rfl, by omega, Lib.hid ⟨by rw [List.take_zero]; exact World.ownsRow_nil _ _ _ _, Below.refl _ _⟩⟩
  case round =>
    obtain ⟨i, vo, rfl, e4, hi, hk⟩ := hrel
    obtain ⟨VA, vn, vc, hv⟩ := hk.out.1.shape
    subst hv
    subst e4
    by_cases hlt : i < l.length
    · obtain ⟨b, o, rfl, hsl⟩ := RdG.row (n := l.length) (HL.out.below hk.out.2) i hlt
      obtain ⟨c0, c1, c2, c3, c4, c5, c6⟩ := hsl.val i hlt
      have hi0 : (0 : Int) ≤ (i : Int) := by omega
      have hi1 : (i : Int) < (l.length : Int) := by omega
      have HX := Lib.hid (fun W (hW : Below w.heap.size w W) => HF.out W hW i hlt)
      have HTK1 := Lib.hid (HTK.out i hlt)
      have HLT1 := Lib.hid (HLT.out i (by omega))
      clear hsl
      unfold tgV at HX
      generalize g l[i] = gz at *
      generalize l[i].x = tx at *
      generalize l[i].y = ty at *
      generalize l[i].lo = tl at *
      generalize l[i].hi = th at *
      generalize l[i].tol = tt at *
      generalize l[i].mat = tm at *
      generalize l[i].pin = tp at *
      have hal := bel_al wr (.cells #[.int .i64 tx, .int .i64 ty, .int .i64 tl, .int .i64 th, .int .i64 tt, .int .i64 tm, .bool tp] 27 (0, 0))
      have H1 := Lib.hid (And.intro (hk.out.1.below hal) (bel_to hk.out.2 hal))
      clear hal hk
      go_wp2_with fail
      refine (HX.out _ H1.out.2).mono ?_
      rintro e w2 ⟨rfl, hb2⟩
      have H2 := Lib.hid (And.intro (H1.out.1.below hb2) (bel_to H1.out.2 hb2))
      clear hb2 H1 HX c0 c1 c2 c3 c4 c5 c6
      obtain ⟨iI, r1, r2, r3, r4⟩ := info_parts infoInt
      go_wp2_with (at_builtin; refine wpList_app_g (t := 45) (v := .slice VA vn vc) Tryz.underlying45 r1 r2 r3 r4 rfl rfl _ _ rfl rfl rfl rfl H2.out.1 H2.out.2.size (.int .i64 gz) rfl (by rw [HLT1.out]; omega) (by decide) ?_; intro g2 cap2 w10 ho2 hk3)
      have HN := Lib.hid (And.intro (show OwnI w10 w.heap.size (.slice (some ⟨g2, 0, none⟩) (((l.map g).take i).length + 1) cap2) ((l.map g).take (i + 1)) from by
        rw [HTK1.out]
        have h := ho2
        unfold OwnI
        rw [List.length_append, show IntC ((l.map g).take i ++ [gz]) = IntC ((l.map g).take i) ++ [.int .i64 gz] by simp [IntC]]
        exact h) ((bel_to H2.out.2 (bel_al _ _)).grown hk3 (bel_to H2.out.2 (bel_al _ _)).size fun k hk => (World.ownsRow.lt H2.out.1 k hk).1))
      clear ho2 hk3 H2
      go_wp2
      go_roundw
      case rel => exact ⟨i + 1, _, by go_num, rfl, by omega, Lib.hid (by have h := HN.out; rwa [HLT1.out] at h)⟩
      case measure => simp [intOf]; omega
    · obtain rfl : l.length = i := by omega
      have hk2 := hk.out
      rw [HFU.out] at hk2
      have HK := Lib.hid hk2
      clear hk hk2
      go_wp2
      go_ret2
      exact ⟨_, rfl, HK.out.1, HK.out.2⟩
theorem gvirt1 (i : Int) (t : Tg) (w : World) (hs : Sig w) (ht : RtT t) (hm : t.mat = 1) : Calls Tryz.prog 124 #[.int .i64 i, tgV t] w (Ret w (.tuple #[.int .i64 (virt t), .int .i64 0])) := by
  have HV := Lib.hid (fun W (hW : Below w.heap.size w W) => bvirtual t W (hs.below hW) ht hm)
  have HR := Lib.hid (And.intro (rnw (w := w) (t := 27) (xs := tgC t)) (bel_al w (tgO t)))
  have HM := Lib.hid hm
  clear hs ht hm
  generalize virt t = V at *
  unfold tgO tgC at *
  obtain ⟨x, y, lo, hi, tol, mat, pin⟩ := t
  simp only at *
  obtain rfl : mat = 1 := HM.out
  go_enter Tryz.func124, Tryz.ntmps124
  go_wp2_with fail
  refine (HV.out _ HR.out.2).mono ?_
  rintro e w1 ⟨rfl, hb1⟩
  have H1 := Lib.hid (And.intro (HR.out.1.below' hb1) (bel_to HR.out.2 hb1))
  clear hb1 HR HV HM
  have x5 := H1.out.1.cell (i := 5) rfl
  go_wp2
  go_ret2
  exact Ret.of rfl H1.out.2
theorem ent_virt1 : Enters Tryz.prog 124 := enters_of Tryz.func124 (by kernel_rfl) rfl
theorem gfew (n : Int) (w : World) : Calls Tryz.prog 76 #[.int .i64 n] w fun e w' => e = .returned (.int .i64 (if 16 < n then 5 else 0)) ∧ w = w' := by
  by_cases h : 16 < n
  · have d : decide (16 < n) = true := decide_eq_true h
    rw [if_pos h]
    go_enter Tryz.func76, Tryz.ntmps76
    go_wp2
    go_ret
    exact ⟨rfl, rfl⟩
  · have d : decide (16 < n) = false := decide_eq_false h
    rw [if_neg h]
    go_enter Tryz.func76, Tryz.ntmps76
    go_wp2
    go_ret
    exact ⟨rfl, rfl⟩
theorem gvirtual (vl : Value) (l : List Tg) (w : World) (hs : Sig w) (hl : RdG w vl l) (h0 : 0 < l.length) (hn : l.length ≤ 16) (ht : ∀ t ∈ l, RtT t ∧ t.mat = 1) :
    Calls Tryz.prog 73 #[vl] w (fun e w' => ∃ v, e = .returned (.tuple #[v, .int .i64 0]) ∧ OwnI w' w.heap.size v (l.map virt) ∧ Below w.heap.size w w') := by
  have HG := Lib.hid (fun W (hW : Below w.heap.size w W) => gmapI 124 virt vl l W ent_virt1 (hl.below hW) hn (fun wx hx i hi => gvirt1 _ _ wx (hs.below (bel_to hW hx)) (ht _ (List.getElem_mem hi)).1 (ht _ (List.getElem_mem hi)).2))
  obtain ⟨A, cap, rfl⟩ := hl.len
  have d0 : ((l.length : Int) == 0) = false := by rw [beq_eq_false_iff_ne]; omega
  have d1 : decide (16 < (l.length : Int)) = false := by simp; omega
  clear hl hs ht
  go_enter Tryz.func73, Tryz.ntmps73
  go_wp2_with fail
  refine (gfew _ w).mono ?_
  rintro e w1 ⟨rfl, rfl⟩
  rw [if_neg (show ¬ (16 : Int) < (l.length : Int) by omega)]
  go_wp2_with fail
  refine (HG.out _ (Below.refl _ _)).mono ?_
  rintro e w2 ⟨v, rfl, ho, hb2⟩
  have HO := Lib.hid (And.intro ho hb2)
  obtain ⟨VA, vn, vc, hv⟩ := ho.shape
  clear ho hb2 HG
  subst hv
  go_wp2
  go_ret2
  exact ⟨_, rfl, HO.out⟩
end W
end Go.Proofs.YtellemlhhlafcaaGreatDoor
end
section
namespace Go.Proofs.YtellemlhhlafcaaGreatDoor
open Go Go.RowKit Go.Deep Go.Sort
namespace M
structure El where
  x : Int
  y : Int
  hole : Bool
  lo : Int
  hi : Int
structure To where
  x : Int
  y : Int
  hole : Bool
  n : Int
end M
structure SlEL (w : World) (b o : Nat) (l : List M.El) : Prop where
  lt : b < w.heap.size
  val : ∀ i (h : i < l.length), w.cell? ⟨b, o + i * 5, none⟩ = some (.int .i64 l[i].x) ∧ w.cell? ⟨b, o + i * 5 + 1, none⟩ = some (.int .i64 l[i].y) ∧ w.cell? ⟨b, o + i * 5 + 2, none⟩ = some (.bool l[i].hole) ∧ w.cell? ⟨b, o + i * 5 + 3, none⟩ = some (.int .i64 l[i].lo) ∧ w.cell? ⟨b, o + i * 5 + 4, none⟩ = some (.int .i64 l[i].hi)
theorem SlEL.below' {w w' : World} {b o : Nat} {l : List M.El} (h : SlEL w b o l) (hb : Below w.heap.size w w') : SlEL w' b o l :=
  ⟨Nat.lt_of_lt_of_le h.lt hb.size, fun i hi => by
    have h1 := h.val i hi
    have hc : ∀ o v, w.cell? ⟨b, o, none⟩ = some v → w'.cell? ⟨b, o, none⟩ = some v := fun o v e => (hb.cell (by exact h.lt)).trans e
    exact ⟨hc _ _ h1.1, hc _ _ h1.2.1, hc _ _ h1.2.2.1, hc _ _ h1.2.2.2.1, hc _ _ h1.2.2.2.2⟩⟩
def RdEL (w : World) (v : Value) (l : List M.El) : Prop := ∃ A cap, v = .slice A l.length cap ∧ (l = [] ∨ ∃ b o, A = some ⟨b, o, none⟩ ∧ SlEL w b o l)
theorem RdEL.below {w w' : World} {v : Value} {l : List M.El} (h : RdEL w v l) (hb : Below w.heap.size w w') : RdEL w' v l := by
  obtain ⟨A, cap, e, h2⟩ := h
  refine ⟨A, cap, e, ?_⟩
  rcases h2 with h2 | ⟨b, o, e2, h3⟩
  · exact Or.inl h2
  · exact Or.inr ⟨b, o, e2, h3.below' hb⟩
theorem RdEL.len {w : World} {v : Value} {l : List M.El} (h : RdEL w v l) : ∃ A cap, v = .slice A l.length cap := by
  obtain ⟨A, cap, e, _⟩ := h; exact ⟨A, cap, e⟩
theorem RdEL.row {w : World} {A : Option Addr} {n cap : Nat} {l : List M.El} (h : RdEL w (.slice A n cap) l) (i : Nat) (hi : i < l.length) : ∃ b o, A = some ⟨b, o, none⟩ ∧ SlEL w b o l := by
  obtain ⟨A', cap', e, h2⟩ := h
  injection e with e
  subst e
  exact h2.resolve_left (fun e => by rw [e] at hi; cases hi)
def csEL (l : List M.El) : List Value := l.flatMap fun x => [.int .i64 x.x, .int .i64 x.y, .bool x.hole, .int .i64 x.lo, .int .i64 x.hi]
theorem csEL_append (a b : List M.El) : csEL (a ++ b) = csEL a ++ csEL b := by simp [csEL]
theorem csEL_len (l : List M.El) : (csEL l).length = l.length * 5 := by
  induction l with
  | nil => rfl
  | cons x t ih => simp only [csEL, List.flatMap_cons, List.length_append, List.length_cons, List.length_nil] at *; omega
theorem csEL_get (l : List M.El) (i : Nat) (h : i < l.length) : (csEL l)[i * 5]? = some (.int .i64 l[i].x) ∧ (csEL l)[i * 5 + 1]? = some (.int .i64 l[i].y) ∧ (csEL l)[i * 5 + 2]? = some (.bool l[i].hole) ∧ (csEL l)[i * 5 + 3]? = some (.int .i64 l[i].lo) ∧ (csEL l)[i * 5 + 4]? = some (.int .i64 l[i].hi) := by
  induction l generalizing i with
  | nil => cases h
  | cons x t ih =>
    rcases i with _ | j
    · exact ⟨rfl, rfl, rfl, rfl, rfl⟩
    · have hj : j < t.length := by simpa using h
      have e1 : csEL (x :: t) = (.int .i64 x.x : Value) :: (.int .i64 x.y : Value) :: (.bool x.hole : Value) :: (.int .i64 x.lo : Value) :: (.int .i64 x.hi : Value) :: csEL t := rfl
      have k := ih j hj
      rw [e1]
      have hs : ∀ m v, (csEL t)[m]? = some v → ((.int .i64 x.x : Value) :: (.int .i64 x.y : Value) :: (.bool x.hole : Value) :: (.int .i64 x.lo : Value) :: (.int .i64 x.hi : Value) :: csEL t)[m + 5]? = some v := fun m v e => e
      exact ⟨(by have := hs _ _ k.1; rwa [show j * 5 + 5 = (j + 1) * 5 by omega] at this), (by have := hs _ _ k.2.1; rwa [show j * 5 + 1 + 5 = (j + 1) * 5 + 1 by omega] at this), (by have := hs _ _ k.2.2.1; rwa [show j * 5 + 2 + 5 = (j + 1) * 5 + 2 by omega] at this), (by have := hs _ _ k.2.2.2.1; rwa [show j * 5 + 3 + 5 = (j + 1) * 5 + 3 by omega] at this), (by have := hs _ _ k.2.2.2.2; rwa [show j * 5 + 4 + 5 = (j + 1) * 5 + 4 by omega] at this)⟩
def OwnEL (w : World) (B : Nat) (v : Value) (l : List M.El) : Prop := w.ownsRow B 162 5 v l.length (csEL l)
theorem OwnEL.below {w w' : World} {B : Nat} {v : Value} {l : List M.El} (h : OwnEL w B v l) (hb : Below w.heap.size w w') : OwnEL w' B v l :=
  World.ownsRow.kept (row := none) h ⟨hb.os, hb.tape, hb.output, hb.size, fun k hk _ => hb.block k hk⟩ (Classical.em _)
theorem OwnEL.cells {w : World} {B g cap : Nat} {l : List M.El} (h : OwnEL w B (.slice (some ⟨g, 0, none⟩) l.length cap) l) (j : Nat) (u : Value) (hu : (csEL l)[j]? = some u) : w.cell? ⟨g, j, none⟩ = some u := by
  have hj : j < l.length * 5 := by rw [← csEL_len]; exact (List.getElem?_eq_some_iff.1 hu).1
  rw [World.ownsRow.cellAt h j hj, hu]
theorem OwnEL.form {w : World} {B : Nat} {v : Value} {l : List M.El} (h : OwnEL w B v l) (h0 : 0 < l.length) : ∃ g cap, v = .slice (some ⟨g, 0, none⟩) l.length cap ∧ B ≤ g ∧ g < w.heap.size := by
  obtain ⟨h1, h2⟩ := h
  rcases h2 with ⟨hv, hn⟩ | ⟨g, cap, cur, hv, hB, hh, _⟩
  · omega
  · exact ⟨g, cap, hv, hB, lt_of_block hh⟩
theorem OwnEL.shape {w : World} {B : Nat} {v : Value} {l : List M.El} (h : OwnEL w B v l) : ∃ A n c, v = .slice A n c := by
  rcases h.2 with ⟨e, _⟩ | ⟨g, cap, _, e, _⟩
  · exact ⟨_, _, _, e⟩
  · exact ⟨_, _, _, e⟩
theorem OwnEL.rd {w : World} {B : Nat} {v : Value} {l : List M.El} (h : OwnEL w B v l) : RdEL w v l := by
  by_cases h0 : 0 < l.length
  · obtain ⟨g, cap, rfl, hB, hlt⟩ := h.form h0
    refine ⟨_, _, rfl, Or.inr ⟨g, 0, rfl, hlt, fun i hi => ?_⟩⟩
    have hg := csEL_get l i hi
    simp only [Nat.zero_add]
    exact ⟨h.cells _ _ hg.1, h.cells _ _ hg.2.1, h.cells _ _ hg.2.2.1, h.cells _ _ hg.2.2.2.1, h.cells _ _ hg.2.2.2.2⟩
  · obtain rfl : l = [] := List.length_eq_zero_iff.1 (by omega)
    rcases h.2 with ⟨e, _⟩ | ⟨g, cap, _, e, _⟩
    · exact ⟨_, _, e, Or.inl rfl⟩
    · exact ⟨_, _, e, Or.inl rfl⟩
theorem csEL_one {l : List M.El} : ∀ u ∈ csEL l, u.oneCell' = true := by
  intro u hu
  simp only [csEL, List.mem_flatMap] at hu
  obtain ⟨x, hx, hx2⟩ := hu
  simp at hx2
  rcases hx2 with rfl | rfl | rfl | rfl | rfl <;> rfl
theorem infoElement : (Tryz.prog.info? 162).map (fun i => (i.zero, i.size, i.bytes)) = some (some (.agg #[.int .i64 0, .int .i64 0, .bool false, .int .i64 0, .int .i64 0]), 5, 40) := by kernel_rfl
theorem OwnEL.nil (w : World) (B : Nat) : OwnEL w B (.slice none 0 0) [] := World.ownsRow_nil _ _ _ _
theorem run_app_OwnEL {w : World} {B : Nat} {v : Value} {l m : List M.El} {ad : Addr} {cap : Nat} (ty : TypeId) (h : OwnEL w B v l) (hc : ∀ j u, (csEL m)[j]? = some u → w.cell? (ad.add j) = some u) (hB : B ≤ w.heap.size) (hn : (l.length + m.length) * 40 ≤ 140737488355328) :
    ∃ v' w', (Builtin.append_ #[102, 102] ty #[v, .slice (some ad) m.length cap]).run Tryz.prog w = .ok v' w' ∧ OwnEL w' B v' (l ++ m) ∧ w.grownBy w' v.ownBlock := by
  obtain ⟨i, h1, h2, h3, h4⟩ := info_parts infoElement
  obtain ⟨v', w', k1, k2, k3, _⟩ := run_append_own (P := Tryz.prog) w B _ ty _ i _ 5 40 Tryz.underlying102 h1 h2 h3 h4 rfl (by decide) v l.length (csEL l) h ad m.length cap (csEL m) (csEL_len m)
      hc csEL_one (by unfold maxLen; omega) hn hB
  refine ⟨v', w', k1, ?_, k3⟩
  unfold OwnEL
  rw [csEL_append, List.length_append]
  exact k2
theorem wpList_app_OwnEL {ops : Array Oper} {rest : List Oper} {o : Oper} {a : Act} {Q : Exit → Act → World → Prop} {w : World} {B : Nat} {v xv : Value} {l m : List M.El} {ad : Addr} {cap : Nat} (hgd : o.guard = none) (s x : Operand)
    (ho : o.op = .call { callee := .builtin .append, args := #[s, x], argTypes := #[102, 102] }) (hs : a.eval s = v) (hx : a.eval x = xv) (hxv : xv = .slice (some ad) m.length cap)
    (h : OwnEL w B v l) (hc : ∀ j u, (csEL m)[j]? = some u → w.cell? (ad.add j) = some u) (hB : B ≤ w.heap.size) (hn : (l.length + m.length) * 40 ≤ 140737488355328)
    (hK : ∀ v' w', OwnEL w' B v' (l ++ m) → w.grownBy w' v.ownBlock → wpList Tryz.prog ops Q rest (a.put o.dst v') w') : wpList Tryz.prog ops Q (o :: rest) a w :=
  wpList_plain hgd fun _ hK2 => by
    subst hxv
    obtain ⟨v', w', hr, h2, h3⟩ := run_app_OwnEL (cap := cap) o.type h hc hB hn
    unfold Oper.wp execOp
    simp only [ho, resolve, invoke, builtin, Sem.run_bind, Sem.run_pure, Result.andThen_ok, List.map_toArray, List.map_cons, List.map_nil, hs, hx, hr]
    exact hK2 _ _ (hK v' w' h2 h3)
theorem app_belOwnEL {W w w' : World} {B : Nat} {v : Value} {l : List M.El} (h : OwnEL w B v l) (hb : Below W.heap.size W w) (hB : W.heap.size ≤ B) (hg : w.grownBy w' v.ownBlock) : Below W.heap.size W w' :=
  hb.grown hg hb.size fun k hk => Nat.le_trans hB (World.ownsRow.lt h k hk).1
structure SlTL (w : World) (b o : Nat) (l : List M.To) : Prop where
  lt : b < w.heap.size
  val : ∀ i (h : i < l.length), w.cell? ⟨b, o + i * 4, none⟩ = some (.int .i64 l[i].x) ∧ w.cell? ⟨b, o + i * 4 + 1, none⟩ = some (.int .i64 l[i].y) ∧ w.cell? ⟨b, o + i * 4 + 2, none⟩ = some (.bool l[i].hole) ∧ w.cell? ⟨b, o + i * 4 + 3, none⟩ = some (.int .i64 l[i].n)
theorem SlTL.below' {w w' : World} {b o : Nat} {l : List M.To} (h : SlTL w b o l) (hb : Below w.heap.size w w') : SlTL w' b o l :=
  ⟨Nat.lt_of_lt_of_le h.lt hb.size, fun i hi => by
    have h1 := h.val i hi
    have hc : ∀ o v, w.cell? ⟨b, o, none⟩ = some v → w'.cell? ⟨b, o, none⟩ = some v := fun o v e => (hb.cell (by exact h.lt)).trans e
    exact ⟨hc _ _ h1.1, hc _ _ h1.2.1, hc _ _ h1.2.2.1, hc _ _ h1.2.2.2⟩⟩
def RdTL (w : World) (v : Value) (l : List M.To) : Prop := ∃ A cap, v = .slice A l.length cap ∧ (l = [] ∨ ∃ b o, A = some ⟨b, o, none⟩ ∧ SlTL w b o l)
theorem RdTL.below {w w' : World} {v : Value} {l : List M.To} (h : RdTL w v l) (hb : Below w.heap.size w w') : RdTL w' v l := by
  obtain ⟨A, cap, e, h2⟩ := h
  refine ⟨A, cap, e, ?_⟩
  rcases h2 with h2 | ⟨b, o, e2, h3⟩
  · exact Or.inl h2
  · exact Or.inr ⟨b, o, e2, h3.below' hb⟩
theorem RdTL.len {w : World} {v : Value} {l : List M.To} (h : RdTL w v l) : ∃ A cap, v = .slice A l.length cap := by
  obtain ⟨A, cap, e, _⟩ := h; exact ⟨A, cap, e⟩
theorem RdTL.row {w : World} {A : Option Addr} {n cap : Nat} {l : List M.To} (h : RdTL w (.slice A n cap) l) (i : Nat) (hi : i < l.length) : ∃ b o, A = some ⟨b, o, none⟩ ∧ SlTL w b o l := by
  obtain ⟨A', cap', e, h2⟩ := h
  injection e with e
  subst e
  exact h2.resolve_left (fun e => by rw [e] at hi; cases hi)
def csTL (l : List M.To) : List Value := l.flatMap fun x => [.int .i64 x.x, .int .i64 x.y, .bool x.hole, .int .i64 x.n]
theorem csTL_append (a b : List M.To) : csTL (a ++ b) = csTL a ++ csTL b := by simp [csTL]
theorem csTL_len (l : List M.To) : (csTL l).length = l.length * 4 := by
  induction l with
  | nil => rfl
  | cons x t ih => simp only [csTL, List.flatMap_cons, List.length_append, List.length_cons, List.length_nil] at *; omega
theorem csTL_get (l : List M.To) (i : Nat) (h : i < l.length) : (csTL l)[i * 4]? = some (.int .i64 l[i].x) ∧ (csTL l)[i * 4 + 1]? = some (.int .i64 l[i].y) ∧ (csTL l)[i * 4 + 2]? = some (.bool l[i].hole) ∧ (csTL l)[i * 4 + 3]? = some (.int .i64 l[i].n) := by
  induction l generalizing i with
  | nil => cases h
  | cons x t ih =>
    rcases i with _ | j
    · exact ⟨rfl, rfl, rfl, rfl⟩
    · have hj : j < t.length := by simpa using h
      have e1 : csTL (x :: t) = (.int .i64 x.x : Value) :: (.int .i64 x.y : Value) :: (.bool x.hole : Value) :: (.int .i64 x.n : Value) :: csTL t := rfl
      have k := ih j hj
      rw [e1]
      have hs : ∀ m v, (csTL t)[m]? = some v → ((.int .i64 x.x : Value) :: (.int .i64 x.y : Value) :: (.bool x.hole : Value) :: (.int .i64 x.n : Value) :: csTL t)[m + 4]? = some v := fun m v e => e
      exact ⟨(by have := hs _ _ k.1; rwa [show j * 4 + 4 = (j + 1) * 4 by omega] at this), (by have := hs _ _ k.2.1; rwa [show j * 4 + 1 + 4 = (j + 1) * 4 + 1 by omega] at this), (by have := hs _ _ k.2.2.1; rwa [show j * 4 + 2 + 4 = (j + 1) * 4 + 2 by omega] at this), (by have := hs _ _ k.2.2.2; rwa [show j * 4 + 3 + 4 = (j + 1) * 4 + 3 by omega] at this)⟩
def OwnTL (w : World) (B : Nat) (v : Value) (l : List M.To) : Prop := w.ownsRow B 67 4 v l.length (csTL l)
theorem OwnTL.below {w w' : World} {B : Nat} {v : Value} {l : List M.To} (h : OwnTL w B v l) (hb : Below w.heap.size w w') : OwnTL w' B v l :=
  World.ownsRow.kept (row := none) h ⟨hb.os, hb.tape, hb.output, hb.size, fun k hk _ => hb.block k hk⟩ (Classical.em _)
theorem OwnTL.cells {w : World} {B g cap : Nat} {l : List M.To} (h : OwnTL w B (.slice (some ⟨g, 0, none⟩) l.length cap) l) (j : Nat) (u : Value) (hu : (csTL l)[j]? = some u) : w.cell? ⟨g, j, none⟩ = some u := by
  have hj : j < l.length * 4 := by rw [← csTL_len]; exact (List.getElem?_eq_some_iff.1 hu).1
  rw [World.ownsRow.cellAt h j hj, hu]
theorem OwnTL.form {w : World} {B : Nat} {v : Value} {l : List M.To} (h : OwnTL w B v l) (h0 : 0 < l.length) : ∃ g cap, v = .slice (some ⟨g, 0, none⟩) l.length cap ∧ B ≤ g ∧ g < w.heap.size := by
  obtain ⟨h1, h2⟩ := h
  rcases h2 with ⟨hv, hn⟩ | ⟨g, cap, cur, hv, hB, hh, _⟩
  · omega
  · exact ⟨g, cap, hv, hB, lt_of_block hh⟩
theorem OwnTL.shape {w : World} {B : Nat} {v : Value} {l : List M.To} (h : OwnTL w B v l) : ∃ A n c, v = .slice A n c := by
  rcases h.2 with ⟨e, _⟩ | ⟨g, cap, _, e, _⟩
  · exact ⟨_, _, _, e⟩
  · exact ⟨_, _, _, e⟩
theorem OwnTL.rd {w : World} {B : Nat} {v : Value} {l : List M.To} (h : OwnTL w B v l) : RdTL w v l := by
  by_cases h0 : 0 < l.length
  · obtain ⟨g, cap, rfl, hB, hlt⟩ := h.form h0
    refine ⟨_, _, rfl, Or.inr ⟨g, 0, rfl, hlt, fun i hi => ?_⟩⟩
    have hg := csTL_get l i hi
    simp only [Nat.zero_add]
    exact ⟨h.cells _ _ hg.1, h.cells _ _ hg.2.1, h.cells _ _ hg.2.2.1, h.cells _ _ hg.2.2.2⟩
  · obtain rfl : l = [] := List.length_eq_zero_iff.1 (by omega)
    rcases h.2 with ⟨e, _⟩ | ⟨g, cap, _, e, _⟩
    · exact ⟨_, _, e, Or.inl rfl⟩
    · exact ⟨_, _, e, Or.inl rfl⟩
theorem csTL_one {l : List M.To} : ∀ u ∈ csTL l, u.oneCell' = true := by
  intro u hu
  simp only [csTL, List.mem_flatMap] at hu
  obtain ⟨x, hx, hx2⟩ := hu
  simp at hx2
  rcases hx2 with rfl | rfl | rfl | rfl <;> rfl
theorem infoTool : (Tryz.prog.info? 67).map (fun i => (i.zero, i.size, i.bytes)) = some (some (.agg #[.int .i64 0, .int .i64 0, .bool false, .int .i64 0]), 4, 32) := by kernel_rfl
theorem OwnTL.nil (w : World) (B : Nat) : OwnTL w B (.slice none 0 0) [] := World.ownsRow_nil _ _ _ _
theorem run_app_OwnTL {w : World} {B : Nat} {v : Value} {l m : List M.To} {ad : Addr} {cap : Nat} (ty : TypeId) (h : OwnTL w B v l) (hc : ∀ j u, (csTL m)[j]? = some u → w.cell? (ad.add j) = some u) (hB : B ≤ w.heap.size) (hn : (l.length + m.length) * 32 ≤ 140737488355328) :
    ∃ v' w', (Builtin.append_ #[53, 53] ty #[v, .slice (some ad) m.length cap]).run Tryz.prog w = .ok v' w' ∧ OwnTL w' B v' (l ++ m) ∧ w.grownBy w' v.ownBlock := by
  obtain ⟨i, h1, h2, h3, h4⟩ := info_parts infoTool
  obtain ⟨v', w', k1, k2, k3, _⟩ := run_append_own (P := Tryz.prog) w B _ ty _ i _ 4 32 Tryz.underlying53 h1 h2 h3 h4 rfl (by decide) v l.length (csTL l) h ad m.length cap (csTL m) (csTL_len m)
      hc csTL_one (by unfold maxLen; omega) hn hB
  refine ⟨v', w', k1, ?_, k3⟩
  unfold OwnTL
  rw [csTL_append, List.length_append]
  exact k2
theorem wpList_app_OwnTL {ops : Array Oper} {rest : List Oper} {o : Oper} {a : Act} {Q : Exit → Act → World → Prop} {w : World} {B : Nat} {v xv : Value} {l m : List M.To} {ad : Addr} {cap : Nat} (hgd : o.guard = none) (s x : Operand)
    (ho : o.op = .call { callee := .builtin .append, args := #[s, x], argTypes := #[53, 53] }) (hs : a.eval s = v) (hx : a.eval x = xv) (hxv : xv = .slice (some ad) m.length cap)
    (h : OwnTL w B v l) (hc : ∀ j u, (csTL m)[j]? = some u → w.cell? (ad.add j) = some u) (hB : B ≤ w.heap.size) (hn : (l.length + m.length) * 32 ≤ 140737488355328)
    (hK : ∀ v' w', OwnTL w' B v' (l ++ m) → w.grownBy w' v.ownBlock → wpList Tryz.prog ops Q rest (a.put o.dst v') w') : wpList Tryz.prog ops Q (o :: rest) a w :=
  wpList_plain hgd fun _ hK2 => by
    subst hxv
    obtain ⟨v', w', hr, h2, h3⟩ := run_app_OwnTL (cap := cap) o.type h hc hB hn
    unfold Oper.wp execOp
    simp only [ho, resolve, invoke, builtin, Sem.run_bind, Sem.run_pure, Result.andThen_ok, List.map_toArray, List.map_cons, List.map_nil, hs, hx, hr]
    exact hK2 _ _ (hK v' w' h2 h3)
theorem app_belOwnTL {W w w' : World} {B : Nat} {v : Value} {l : List M.To} (h : OwnTL w B v l) (hb : Below W.heap.size W w) (hB : W.heap.size ≤ B) (hg : w.grownBy w' v.ownBlock) : Below W.heap.size W w' :=
  hb.grown hg hb.size fun k hk => Nat.le_trans hB (World.ownsRow.lt h k hk).1
end Go.Proofs.YtellemlhhlafcaaGreatDoor
end
section
namespace Go.Proofs.YtellemlhhlafcaaGreatDoor
open Go Go.RowKit Go.Deep Go.Sort
abbrev elV (e : M.El) : Value := .agg #[.int .i64 e.x, .int .i64 e.y, .bool e.hole, .int .i64 e.lo, .int .i64 e.hi]
theorem srcEL_one (V : World) (d : M.El) (j : Nat) (u : Value) (hu : (csEL [d])[j]? = some u) (g : Nat) (hg : g = V.heap.size) : (V.alloc (.cells #[.int .i64 d.x, .int .i64 d.y, .bool d.hole, .int .i64 d.lo, .int .i64 d.hi] 162 (0, 0))).cell? ((⟨g, 0, none⟩ : Addr).add j) = some u := by
  subst hg
  have hr : Row (V.alloc (.cells #[.int .i64 d.x, .int .i64 d.y, .bool d.hole, .int .i64 d.lo, .int .i64 d.hi] 162 (0, 0))) V.heap.size 162 (csEL [d]) := rnw
  have hadd : (⟨V.heap.size, 0, none⟩ : Addr).add j = ⟨V.heap.size, j, none⟩ := by unfold Addr.add; split <;> simp_all
  rw [hadd]
  exact hr.cell hu
namespace W
open M
attribute [local go_sem] bs_size bs_toList bs_get bs_extract bs_append bs_lit0 bs_lit1 lit1_bs
set_option maxHeartbeats 1000000
set_option maxRecDepth 20000
theorem gmapE (f : Nat) (q1 q2 : Value) (g : Tg → El) (er : Tg → Int) (vl : Value) (l : List Tg) (w : World) (hf : Enters Tryz.prog f) (hl : RdG w vl l) (hn : l.length ≤ 16)
    (hF : ∀ wx, Below w.heap.size w wx → ∀ i (hi : i < l.length), Calls Tryz.prog f #[.int .i64 (i : Int), tgV l[i], q1, q2] wx (Ret wx (.tuple #[elV (g l[i]), .int .i64 (er l[i])]))) :
    Calls Tryz.prog 74 #[vl, .func (.func f) #[] #[q1, q2]] w (fun e w' => ((∃ v, e = .returned (.tuple #[v, .int .i64 0]) ∧ (∀ t ∈ l, er t = 0) ∧ OwnEL w' w.heap.size v (l.map g)) ∨ ∃ t ∈ l, er t ≠ 0 ∧ e = .returned (.tuple #[.slice none 0 0, .int .i64 (er t)])) ∧ Below w.heap.size w w') := by
  obtain ⟨A, cap, rfl⟩ := hl.len
  have HL := Lib.hid hl
  have HF := Lib.hid hF
  unfold Enters at hf
  have HTK := Lib.hid (fun i (hi : i < l.length) => show (l.map g).take (i + 1) = (l.map g).take i ++ [g l[i]] from by
    rw [List.take_succ_eq_append_getElem (by rw [List.length_map]; exact hi)]
    simp)
  have HFU : Hid ((l.map g).take l.length = l.map g) := Lib.hid (List.take_of_length_le (by rw [List.length_map]; omega))
  have HLT := Lib.hid (fun i (hi : i ≤ l.length) => show ((l.map g).take i).length ≤ 16 from by rw [List.length_take, List.length_map]; omega)
  clear hl hF
  go_enter Tryz.func74, Tryz.ntmps74
  go_wp2
  go_loopw [6, 13] (fun ov iv wr => ∃ (i : Nat) (vo : Value), iv = .int .i64 (i : Int) ∧ ov = vo ∧ i ≤ l.length ∧ Hid (OwnEL wr w.heap.size vo ((l.map g).take i) ∧ Below w.heap.size w wr ∧ ∀ j (hj : j < l.length), j < i → er l[j] = 0)) (fun _ iv _ => l.length - (intOf iv).toNat)
  case atStart => exact ⟨0, _, rfl, rfl, by omega, Lib.hid ⟨by rw [List.take_zero]; exact OwnEL.nil _ _, Below.refl _ _, fun j _ h => absurd h (by omega)⟩⟩
  case round =>
    obtain ⟨i, vo, rfl, e4, hi, hk⟩ := hrel
    obtain ⟨VA, vn, vc, hv⟩ := hk.out.1.shape
    subst hv
    subst e4
    by_cases hlt : i < l.length
    · obtain ⟨b, o, rfl, hsl⟩ := RdG.row (n := l.length) (HL.out.below hk.out.2.1) i hlt
      obtain ⟨c0, c1, c2, c3, c4, c5, c6⟩ := hsl.val i hlt
      have hi0 : (0 : Int) ≤ (i : Int) := by omega
      have hi1 : (i : Int) < (l.length : Int) := by omega
      have HX := Lib.hid (fun W (hW : Below w.heap.size w W) => HF.out W hW i hlt)
      have HTK1 := Lib.hid (HTK.out i hlt)
      have HLT1 := Lib.hid (HLT.out i (by omega))
      clear hsl
      have HZ := Lib.hid hk.out.2.2
      have HM := Lib.hid (List.getElem_mem hlt)
      obtain ⟨ez, hez⟩ : ∃ ez, ez = er l[i] := ⟨_, rfl⟩
      rw [← hez] at HX
      have HEZ := Lib.hid hez
      clear hez
      unfold tgV elV at HX
      generalize g l[i] = gz at *
      generalize l[i].x = tx at *
      generalize l[i].y = ty at *
      generalize l[i].lo = tl at *
      generalize l[i].hi = th at *
      generalize l[i].tol = tt at *
      generalize l[i].mat = tm at *
      generalize l[i].pin = tp at *
      have hal := bel_al wr (.cells #[.int .i64 tx, .int .i64 ty, .int .i64 tl, .int .i64 th, .int .i64 tt, .int .i64 tm, .bool tp] 27 (0, 0))
      have H1 := Lib.hid (And.intro (hk.out.1.below hal) (bel_to hk.out.2.1 hal))
      clear hal hk
      go_wp2_with fail
      refine (HX.out _ H1.out.2).mono ?_
      rintro e w2 ⟨rfl, hb2⟩
      have H2 := Lib.hid (And.intro (H1.out.1.below hb2) (bel_to H1.out.2 hb2))
      clear hb2 H1 HX c0 c1 c2 c3 c4 c5 c6
      by_cases he : ez = 0
      · subst he
        have HC := Lib.hid (fun j u hu => srcEL_one (w2.alloc (.cells #[.int .i64 gz.x, .int .i64 gz.y, .bool gz.hole, .int .i64 gz.lo, .int .i64 gz.hi] 162 (0, 0))) gz j u hu (w2.heap.size + 1) (World.size_alloc _ _).symm)
        have hal := bel_al w2 (.cells #[.int .i64 gz.x, .int .i64 gz.y, .bool gz.hole, .int .i64 gz.lo, .int .i64 gz.hi] 162 (0, 0))
        have hrd : Row (w2.alloc (.cells #[.int .i64 gz.x, .int .i64 gz.y, .bool gz.hole, .int .i64 gz.lo, .int .i64 gz.hi] 162 (0, 0))) w2.heap.size 162 [.int .i64 gz.x, .int .i64 gz.y, .bool gz.hole, .int .i64 gz.lo, .int .i64 gz.hi] := rnw
        have k0 := hrd.cell (i := 0) rfl
        have k1 := hrd.cell (i := 1) rfl
        have k2 := hrd.cell (i := 2) rfl
        have k3 := hrd.cell (i := 3) rfl
        have k4 := hrd.cell (i := 4) rfl
        have hal2 := bel_to hal (bel_al (w2.alloc (.cells #[.int .i64 gz.x, .int .i64 gz.y, .bool gz.hole, .int .i64 gz.lo, .int .i64 gz.hi] 162 (0, 0))) (.cells #[.int .i64 gz.x, .int .i64 gz.y, .bool gz.hole, .int .i64 gz.lo, .int .i64 gz.hi] 162 (0, 0)))
        have H4 := Lib.hid (And.intro (H2.out.1.below hal2) (bel_to H2.out.2 hal2))
        have HSZ := Lib.hid H4.out.2.size
        clear hal hrd hal2 H2
        go_wp2_with (at_builtin; refine wpList_app_OwnEL (m := [gz]) rfl _ _ rfl rfl rfl rfl H4.out.1 HC.out HSZ.out (by have := HLT1.out; simp only [List.length_cons, List.length_nil]; omega) ?_; intro v2 w4 ho2 hg2)
        have HN := Lib.hid (And.intro (by rw [HTK1.out]; exact ho2 : OwnEL w4 w.heap.size v2 ((l.map g).take (i + 1))) (app_belOwnEL H4.out.1 H4.out.2 (Nat.le_refl _) hg2))
        clear ho2 hg2 H4 HC HSZ k0 k1 k2 k3 k4
        go_wp2
        go_roundw
        case rel => exact ⟨i + 1, _, by go_num, rfl, by omega, Lib.hid ⟨HN.out.1, HN.out.2, fun j hj h => by
          by_cases hji : j = i
          · subst hji; exact HEZ.out.symm
          · exact HZ.out j hj (by omega)⟩⟩
        case measure => simp [intOf]; omega
      · have hne : (ez != (0 : Int)) = true := by simpa using he
        have hal := bel_to H2.out.2 (bel_al w2 (.cells #[.int .i64 gz.x, .int .i64 gz.y, .bool gz.hole, .int .i64 gz.lo, .int .i64 gz.hi] 162 (0, 0)))
        have HE := Lib.hid (And.intro (And.intro HM.out (show er l[i] ≠ 0 by rw [← HEZ.out]; exact he)) hal)
        clear hal H2 HZ HM
        go_wp2
        go_ret2
        exact ⟨Or.inr ⟨_, HE.out.1.1, HE.out.1.2, by rw [← HEZ.out]; rfl⟩, HE.out.2⟩
    · obtain rfl : l.length = i := by omega
      have hk2 := hk.out
      rw [HFU.out] at hk2
      have HK := Lib.hid hk2
      clear hk hk2
      go_wp2
      go_ret2
      exact ⟨Or.inl ⟨_, rfl, fun t ht => by
        obtain ⟨j, hj, rfl⟩ := List.mem_iff_getElem.1 ht
        exact HK.out.2.2 j hj hj, HK.out.1⟩, HK.out.2.1⟩
end W
end Go.Proofs.YtellemlhhlafcaaGreatDoor
end
