/-
  Chapter 3's reference: Without and Difference.
-/
import Derived.Test.YtpjaoapnangccaaGreatDoorKX
namespace Go.Proofs.YtpjaoapnangccaaGreatDoor
open Go Go.RowKit Go.Deep Go.Sort
namespace M
theorem rhalf : R (Rat.divInt 1 2) = [49, 47, 50] := by decide +kernel
theorem midQ_bq {p q : Rat} (hp : Bq 30 p) (hq : Bq 30 q) : Bq 100 (midQ p q) := by
  have h := (hp.add hq).mul (show Bq 1 (Rat.divInt 1 2) by decide +kernel)
  exact h.mono (by decide)
/-- What lies between the number ahead and the next one. -/
def preS (a b : List SQ) : Option Rat → Rat → List SQ
  | none, _ => []
  | some q, x => woS a b q x
theorem wo_cons (a b : List SQ) (p : Option Rat) (x : Rat) (t : List Rat) : wo a b p (x :: t) = woP a b x ++ preS a b p x ++ wo a b (some x) t := by
  cases p <;> rfl
theorem wo_nil (a b : List SQ) (p : Option Rat) : wo a b p [] = [] := by cases p <;> rfl
theorem wo_snoc (a b : List SQ) : ∀ (l : List Rat) (p : Option Rat) (x : Rat), wo a b p (l ++ [x]) = wo a b p l ++ (woP a b x ++ preS a b (if h : l = [] then p else some (l.getLast h)) x)
  | [], p, x => by rw [List.nil_append, wo_cons, wo_nil, wo_nil, List.append_nil]; rfl
  | y :: t, p, x => by
    rw [List.cons_append, wo_cons, wo_cons, wo_snoc a b t (some y) x]
    have e : (if h : t = [] then some y else some (t.getLast h)) = (if h : y :: t = [] then p else some ((y :: t).getLast h)) := by
      rw [dif_neg (show ¬ (y :: t = []) by simp)]
      by_cases ht : t = []
      · subst ht; rw [dif_pos rfl]; rfl
      · rw [dif_neg ht, List.getLast_cons ht]
    rw [e]
    simp only [List.append_assoc]
theorem wo_take (a b : List SQ) (es : List Rat) (i : Nat) (h : i < es.length) :
    wo a b none (es.take (i + 1)) = (wo a b none (es.take i) ++ woP a b es[i]) ++ (if i = 0 then [] else woS a b es[i - 1] es[i]) := by
  rw [List.take_succ_eq_append_getElem h, wo_snoc]
  by_cases h0 : i = 0
  · subst h0; rw [if_pos rfl, List.append_nil]; simp [wo_nil, preS]
  · have hne : es.take i ≠ [] := by
      intro e
      have : (es.take i).length = 0 := by rw [e]; rfl
      rw [List.length_take] at this; omega
    have hl : (es.take i).getLast hne = es[i - 1] := by
      rw [List.getLast_eq_getElem, List.getElem_take]
      congr 1
      rw [List.length_take]; omega
    rw [dif_neg hne, hl, if_neg h0, List.append_assoc]; rfl
theorem wo_mem {a b : List SQ} {P : Rat → Prop} : ∀ (es : List Rat) (p : Option Rat), (∀ x ∈ es, P x) → (∀ q, p = some q → P q) → ∀ s ∈ wo a b p es, P s.1 ∧ P s.2
  | [], p, _, _, s, h => by cases h
  | x :: t, p, he, hp, s, h => by
    have hx := he x List.mem_cons_self
    rw [wo_cons] at h
    rcases List.mem_append.1 h with h | h
    · rcases List.mem_append.1 h with h | h
      · unfold woP at h
        split at h
        · rw [List.mem_singleton.1 h]; exact ⟨hx, hx⟩
        · cases h
      · cases p with
        | none => simp only [preS] at h; cases h
        | some q =>
          simp only [preS, woS] at h
          split at h
          · rw [List.mem_singleton.1 h]; exact ⟨hp q rfl, hx⟩
          · cases h
    · exact wo_mem t (some x) (fun y hy => he y (List.mem_cons_of_mem _ hy)) (fun q e => by injection e with e; rw [← e]; exact hx) s h
theorem woP_len (a b : List SQ) (x : Rat) : (woP a b x).length ≤ 1 := by unfold woP; split <;> simp
theorem woS_len (a b : List SQ) (q x : Rat) : (woS a b q x).length ≤ 1 := by unfold woS; split <;> simp
theorem wo_len (a b : List SQ) : ∀ (es : List Rat) (p : Option Rat), (wo a b p es).length ≤ 2 * es.length
  | [], p => by rw [wo_nil]; simp
  | x :: t, p => by
    rw [wo_cons]
    have h1 := woP_len a b x
    have h2 := wo_len a b t (some x)
    cases p with
    | none => simp only [preS, List.length_append, List.length_cons, List.length_nil]; omega
    | some q =>
      have h3 := woS_len a b q x
      simp only [preS, List.length_append, List.length_cons]; omega
theorem wo_sp {a b : List SQ} (ha : ∀ s ∈ a ++ b, SpB 30 s) : ∀ s ∈ wo a b none (endsZ (a ++ b)), SpB 30 s := fun s hs => by
  have hE := endsZ_ok (a ++ b)
  have h1 := wo_right (a := a) (b := b) (p := none) hE.1 (fun q e => by cases e) s hs
  have h2 := wo_mem (P := Bq 30) (endsZ (a ++ b)) none (fun v hv => by
    obtain ⟨t, ht, e⟩ := (hE.2 v).1 hv
    rcases e with rfl | rfl
    · exact (ha t ht).2.1
    · exact (ha t ht).2.2) (fun q e => by cases e) s hs
  exact ⟨h1, h2.1, h2.2⟩
end M
namespace W
open M
attribute [local go_sem] bs_size bs_toList bs_get bs_extract bs_append bs_lit0 bs_lit1 lit1_bs
set_option maxHeartbeats 4000000
set_option maxRecDepth 20000
theorem rwithout (a b : List SQ) (va vb : Value) (w : World) (ha : RdP w va (sx a)) (hb : RdP w vb (sx b)) (sa : Shp va) (sb : Shp vb) (na : a.length ≤ 8) (nb : b.length ≤ 8) (ra : ∀ s ∈ a, SpB 30 s) (rb : ∀ s ∈ b, SpB 30 s) :
    Calls Tryz.prog 65 #[va, vb] w (TidP (tidy (wo a b none (endsZ (a ++ b)))) w) := by
  have rab : ∀ s ∈ a ++ b, SpB 30 s := fun s h => (List.mem_append.1 h).elim (ra s) (rb s)
  have HEN := Lib.hid (fun v W (hv : RdP W v (sx (a ++ b))) => rends v (a ++ b) W hv (by rw [List.length_append]; omega) fun s h => SpB.up (rab s h) (by decide))
  have HSA := Lib.hid (fun E (hE : Below w.heap.size w E) => SrcA.of (ha.below hE) sa)
  have HSB := Lib.hid (fun E (hE : Below w.heap.size w E) => SrcA.of (hb.below hE) sb)
  have HHA := Lib.hid (fun W (hW : Below w.heap.size w W) x (hx : Bq 100 x) => rhas va a x W (ha.below hW) (by omega) (fun s h => ⟨(ra s h).2.1.mono (by decide), (ra s h).2.2.mono (by decide)⟩) hx)
  have HHB := Lib.hid (fun W (hW : Below w.heap.size w W) x (hx : Bq 100 x) => rhas vb b x W (hb.below hW) (by omega) (fun s h => ⟨(rb s h).2.1.mono (by decide), (rb s h).2.2.mono (by decide)⟩) hx)
  have hes := endsZ_size (a ++ b)
  rw [List.length_append] at hes
  have HBE := Lib.hid (fun i (hi : i < (endsZ (a ++ b)).length) => (by
    obtain ⟨t, ht, e⟩ := ((endsZ_ok (a ++ b)).2 _).1 (List.getElem_mem hi)
    rcases e with e | e
    · rw [e]; exact (rab t ht).2.1
    · rw [e]; exact (rab t ht).2.2 : Bq 30 (endsZ (a ++ b))[i]))
  have HWT := Lib.hid (fun i (hi : i < (endsZ (a ++ b)).length) => wo_take a b (endsZ (a ++ b)) i hi)
  have HWL := Lib.hid (fun i => wo_len a b ((endsZ (a ++ b)).take i) none)
  have HWS := Lib.hid (fun v W (hv : RdP W v (sx (wo a b none (endsZ (a ++ b))))) => rtidy v (wo a b none (endsZ (a ++ b))) W hv (by have := wo_len a b (endsZ (a ++ b)) none; omega) fun s h => SpB.up (wo_sp rab s h) (by decide))
  obtain ⟨A0, c0, rfl⟩ := ha.len
  obtain ⟨B0, d0, rfl⟩ := hb.len
  have la : (sx a).length ≤ 60 := by rw [sx_len]; omega
  have lb : (sx b).length ≤ 60 := by rw [sx_len]; omega
  have hsx := sx_append a b
  clear ha hb ra rb rab
  generalize endsZ (a ++ b) = es at *
  generalize sx (a ++ b) = sab at *
  subst hsx
  have E1 := Lib.hid ((Below.refl w.heap.size w).alloc (Nat.le_refl _) (Obj.cells #[] 24 (0, 0)))
  have O1 := Lib.hid (OwnP.fresh w w.heap.size w.heap.size rfl (Nat.le_refl _))
  go_enter Tryz.func65, Tryz.ntmps65
  go_wp2_with (first
    | (at_builtin; refine wpList_app_a rfl _ _ rfl rfl rfl HO1.out (HSB.out _ HB2.out) HB2.out.size (by simp; omega) ?_; intro v2 w3 ho2 hg2)
    | (at_builtin; refine wpList_app_a rfl _ _ rfl rfl rfl O1.out (HSA.out _ E1.out) E1.out.size (by simp; omega) ?_; intro v1 w2 ho1 hg1; have HB2 := Lib.hid (app_bel O1.out E1.out (Nat.le_refl _) hg1); have HO1 := Lib.hid ho1; clear hg1 ho1))
  have HB3 := Lib.hid (app_bel HO1.out HB2.out (Nat.le_refl _) hg2)
  obtain ⟨A2, c2, rfl⟩ := ho2.rd.len
  have HE2 := Lib.hid (HEN.out _ w3 ho2.rd)
  clear hg2 ho2 HO1 O1 E1 HB2 HSA HSB HEN la lb
  go_wp2_with fail
  refine (HE2.out).mono ?_
  rintro e W0 ⟨ve, rfl, hap⟩
  have HBL := Lib.hid (Below.then HB3.out hap.2)
  have HHA := Lib.hid (fun W (hW : Below W0.heap.size W0 W) x (hx : Bq 100 x) => HHA.out W (Below.then HBL.out hW) x hx)
  have HHB := Lib.hid (fun W (hW : Below W0.heap.size W0 W) x (hx : Bq 100 x) => HHB.out W (Below.then HBL.out hW) x hx)
  have hfm := hap.1.forms2
  clear hap HE2 HB3
  rcases hfm with ⟨rfl, hre⟩ | ⟨g, cr, rfl, hgc, hgm, hps⟩
  · have he0 : es = [] := by simpa using hre
    subst he0
    have HT := Lib.hid (HWS.out (.slice none 0 0) W0 ⟨none, 0, rfl, Or.inl rfl⟩)
    clear HWS HWL HWT HBE hre HHA HHB
    generalize tidy (wo a b none []) = t at *
    go_wp2_with fail
    refine wp_loop_rounds 1 ?_
    rw [rounds_succ]
    go_wp2_with fail
    refine (HT.out).mono ?_
    rintro e w9 ⟨v, rfl, ho, hb9⟩
    have HF := Lib.hid (And.intro (ownsRow_base ho HBL.out.size) (Below.then HBL.out hb9))
    clear ho hb9
    go_wp2
    go_ret
    exact ⟨_, rfl, HF.out.1, HF.out.2⟩
  · rw [List.length_map] at hgc ⊢
    have HCE := Lib.hid (fun E (hE : Below W0.heap.size W0 E) i (hi : i < es.length) => (by
      have q := (hps.below' hE).val i (by rw [List.length_map]; exact hi)
      rw [List.getElem_map, Nat.zero_add] at q
      exact q : E.cell? ⟨g, i, none⟩ = some (.string (bs (R es[i])))))
    clear hps
    go_wp2_with fail
    go_loopw [6, 7] (fun ov iv wr => ∃ (i : Nat) (vo : Value), iv = .int .i64 (i : Int) ∧ ov = vo ∧ i ≤ es.length ∧ Hid (InP W0 wr vo (wo a b none (es.take i)))) (fun _ iv _ => es.length - (intOf iv).toNat)
    case atStart => exact ⟨0, _, rfl, rfl, by omega, Lib.hid ⟨OwnP.nil _ _, Below.refl _ _⟩⟩
    case round =>
      obtain ⟨i, vo, rfl, hvo, hi, hin⟩ := hrel
      have hvo := hvo.symm
      subst hvo
      by_cases hlt : i < es.length
      · have HIN := hin
        have HWO := Lib.hid (HWT.out i hlt)
        have hwl := HWL.out i
        rw [List.length_take] at hwl
        have hii0 : (0 : Int) ≤ (i : Int) := by omega
        have hii1 : (i : Int) < (es.length : Int) := by omega
        have cx := HCE.out wr hin.out.2 i hlt
        have hbx := (HBE.out i hlt).mono (show 30 ≤ 100 by decide)
        have HX1 := Lib.hid (fun W hW => HHA.out W hW es[i] hbx)
        have HX2 := Lib.hid (fun W hW => HHB.out W hW es[i] hbx)
        have HCX1 := Lib.hid (fun E (hE : Below W0.heap.size W0 E) => HCE.out E hE i hlt)
        have hpl := woP_len a b es[i]
        clear hin hbx
        cases hA : hasB a es[i] with
        | false =>
          rw [hA] at HX1
          rw [show woP a b es[i] = [] by unfold woP; rw [hA]; rfl, List.append_nil] at HWO
          generalize hcur : wo a b none (es.take i) = cur at *
          clear hcur
          have HLC : Hid ((sx cur).length + 1 ≤ 1000000000) := Lib.hid (by rw [sx_len]; omega)
          go_wp2_with fail
          refine (HX1.out _ HIN.out.2).mono ?_
          rintro e w5 ⟨rfl, hb5⟩
          have HIN := Lib.hid (HIN.out.to hb5)
          obtain ⟨W, hW⟩ : ∃ z, z = w5 := ⟨w5, rfl⟩
          subst hW
          clear hb5 cx HX1 HX2 HCX1
          by_cases hi0 : i = 0
          · have HFIN : Hid (InP W0 W vo (wo a b none (es.take (i + 1)))) := by rw [HWO.out, if_pos hi0, List.append_nil]; exact HIN
            have hid : decide ((i : Int) = 0) = true := by simp; exact hi0
            have hib : ((i : Int) == 0) = true := by simp; exact hi0
            clear HIN HWO
            go_wp2
            go_roundw
            case rel => exact ⟨i + 1, _, by go_num, rfl, hlt, HFIN⟩
            case measure => simp [intOf]; omega
          · rw [if_neg hi0] at HWO
            have hid : decide ((i : Int) = 0) = false := by simp; exact hi0
            have hib : ((i : Int) == 0) = false := by simp; exact hi0
            have hsw : IntKind.i64.wrap ((i : Int) - 1) = ((i - 1 : Nat) : Int) := by simp [IntKind.wrap, IntKind.bits, IntKind.signed]; omega
            have hp0 : (0 : Int) ≤ ((i - 1 : Nat) : Int) := by omega
            have hp1 : ((i - 1 : Nat) : Int) < (es.length : Int) := by omega
            have HCX := Lib.hid (fun E (hE : Below W0.heap.size W0 E) => And.intro (HCE.out E hE (i - 1) (by omega)) (HCE.out E hE i hlt))
            have hbq := HBE.out (i - 1) (by omega)
            have HPL := Lib.hid (fun W => plus_R es[i - 1] es[i] W (hbq.sh (by decide) (by decide)) ((HBE.out i hlt).sh (by decide) (by decide)))
            have hbm : Bq 100 (midQ es[i - 1] es[i]) := midQ_bq hbq (HBE.out i hlt)
            have HTI := Lib.hid (fun W => timesR (es[i - 1] + es[i]) (Rat.divInt 1 2) W ((hbq.add (HBE.out i hlt)).sh (by decide) (by decide)) ((show Bq 1 (Rat.divInt 1 2) by decide +kernel).sh (by decide) (by decide)))
            rw [show R (Rat.divInt 1 2) = [49, 47, 50] from rhalf] at HTI
            have HM1 := Lib.hid (fun W hW => HHA.out W hW (midQ es[i - 1] es[i]) hbm)
            have HM2 := Lib.hid (fun W hW => HHB.out W hW (midQ es[i - 1] es[i]) hbm)
            unfold woS at HWO
            clear hbq
            generalize hmq : midQ es[i - 1] es[i] = mq at *
            have HTI : Hid (∀ W, Calls Tryz.prog 95 #[.string (bs (R (es[i - 1] + es[i]))), .string (bs [49, 47, 50])] W (Ret W (.string (bs (R mq))))) := by rw [← hmq]; exact HTI
            clear hmq
            generalize es[i - 1] + es[i] = sm at *
            generalize es[i - 1] = q at *
            generalize es[i] = x at *
            have k1 := reg_of (w := W) (fun W _ => HPL.out W)
            have k2 := reg_of (w := W) (fun W _ => HTI.out W)
            have c0 := (HCX.out W HIN.out.2).1
            have c1 := (HCX.out W HIN.out.2).2
            have m0 := cell_regrown c0
            have m1 := cell_regrown c1
            have e1 : ∀ args w, (callFunc 79 args).run Tryz.prog w = .ok (.enter 79 args) w := enters_of Tryz.func79 (by kernel_rfl) rfl
            have e2 : ∀ args w, (callFunc 95 args).run Tryz.prog w = .ok (.enter 95 args) w := enters_of Tryz.func95 (by kernel_rfl) rfl
            clear c0 c1
            go_wp2_with fail
            refine wp_region_quiet_below (by kernel_rfl) (by kernel_rfl) ?_
            repeat (go_big_quiet_step (fail))
            go_big_quiet_step (exact k1 _ _)
            repeat (go_big_quiet_step (fail))
            go_big_quiet_step (exact k2 _ _)
            repeat (go_big_quiet_step (fail))
            refine wpQuiet_nil ?_
            intro W6 hw'
            have hb6 : Below W.heap.size W W6 := by obtain ⟨p, e⟩ := hw'; rw [e]; exact below_regrown W p.d p.os
            have HIN := Lib.hid (HIN.out.to hb6)
            clear k1 k2 m0 m1 e1 e2 hw' hb6 HPL HTI hsw
            have hsw : IntKind.i64.wrap ((i : Int) - 1) = ((i - 1 : Nat) : Int) := by simp [IntKind.wrap, IntKind.bits, IntKind.signed]; omega
            cases hA2 : hasB a mq with
            | false =>
              rw [hA2] at HM1
              have HFIN0 := HWO.out
              rw [show rDif (hasB a mq) (hasB b mq) = false by rw [hA2]; rfl, if_neg (by decide), List.append_nil] at HFIN0
              go_wp2_with fail
              refine (HM1.out _ HIN.out.2).mono ?_
              rintro e w7 ⟨rfl, hb7⟩
              have HFIN : Hid (InP W0 w7 vo (wo a b none (es.take (i + 1)))) := by rw [HFIN0]; exact Lib.hid (HIN.out.to hb7)
              clear HIN HWO HFIN0 hb7 HM1 HM2 hsw
              clear HCX
              go_wp2
              go_roundw
              case rel => exact ⟨i + 1, _, by go_num, rfl, hlt, HFIN⟩
              case measure => simp [intOf]; omega
            | true =>
              rw [hA2] at HM1
              cases hB2 : hasB b mq with
              | true =>
                rw [hB2] at HM2
                have HFIN0 := HWO.out
                rw [show rDif (hasB a mq) (hasB b mq) = false by rw [hA2, hB2]; rfl, if_neg (by decide), List.append_nil] at HFIN0
                go_wp2_with fail
                refine (HM1.out _ HIN.out.2).mono ?_
                rintro e w7 ⟨rfl, hb7⟩
                have HIN := Lib.hid (HIN.out.to hb7)
                clear hb7 HM1
                go_wp2_with fail
                refine (HM2.out _ HIN.out.2).mono ?_
                rintro e w8 ⟨rfl, hb8⟩
                have HFIN : Hid (InP W0 w8 vo (wo a b none (es.take (i + 1)))) := by rw [HFIN0]; exact Lib.hid (HIN.out.to hb8)
                clear HIN HWO HFIN0 hb8 HM2 hsw
                clear HCX
                go_wp2
                go_roundw
                case rel => exact ⟨i + 1, _, by go_num, rfl, hlt, HFIN⟩
                case measure => simp [intOf]; omega
              | false =>
                rw [hB2] at HM2
                have HFIN0 := HWO.out
                rw [show rDif (hasB a mq) (hasB b mq) = true by rw [hA2, hB2]; rfl, if_pos rfl] at HFIN0
                go_wp2_with fail
                refine (HM1.out _ HIN.out.2).mono ?_
                rintro e w7 ⟨rfl, hb7⟩
                have HIN := Lib.hid (HIN.out.to hb7)
                clear hb7 HM1
                go_wp2_with fail
                refine (HM2.out _ HIN.out.2).mono ?_
                rintro e w8 ⟨rfl, hb8⟩
                have HIN := Lib.hid (HIN.out.to hb8)
                clear hb8 HM2 HWO
                obtain ⟨W, hW⟩ : ∃ z, z = w8 := ⟨w8, rfl⟩
                subst hW
                go_wp2_with fail
                go_region_held3 (fun E => E.cell? ⟨g, i - 1, none⟩ = some (.string (bs (R q))) ∧ E.cell? ⟨g, i, none⟩ = some (.string (bs (R x))))
                  (first | exact HCX.out _ HA2.out.2 | exact HCX.out _ HIN.out.2 | exact HCX.out _ (HIN.out.to (RowKit.Below.drew (Below.refl W.heap.size W))).2 | exact HCX.out _ (HIN.out.to (RowKit.Below.drew ((Below.refl W.heap.size W).alloc (Nat.le_refl _) (Obj.cells #[.string (bs (R q)), .string (bs (R x))] 24 (0, 0))))).2)
                  (first | (refine step_app_rd rfl (.tmp 70) (.tmp 81) rfl rfl rfl (HIN.out.to (RowKit.Below.drew ((Below.refl W.heap.size W).alloc (Nat.le_refl _) (Obj.cells #[.string (bs (R q)), .string (bs (R x))] 24 (0, 0))))).1 (src_row (show Row (W.alloc (Obj.cells #[.string (bs (R q)), .string (bs (R x))] 24 (0, 0))).drew W.heap.size 24 [.string (bs (R q)), .string (bs (R x))] from rnw)) (HIN.out.to (RowKit.Below.drew ((Below.refl W.heap.size W).alloc (Nat.le_refl _) (Obj.cells #[.string (bs (R q)), .string (bs (R x))] 24 (0, 0))))).2.size HLC.out ?_; intro v2 w2 ho2 hk2; have HA2 := Lib.hid ((HIN.out.to (RowKit.Below.drew ((Below.refl W.heap.size W).alloc (Nat.le_refl _) (Obj.cells #[.string (bs (R q)), .string (bs (R x))] 24 (0, 0))))).app (q, x) ho2 hk2)))
                have HFIN : Hid (InP W0 w2 v2 (wo a b none (es.take (i + 1)))) := by rw [HFIN0]; exact HA2
                clear HIN HA2 HFIN0 ho2 hk2
                clear HCX
                go_wp2
                go_roundw
                case rel => exact ⟨i + 1, _, by go_num, rfl, hlt, HFIN⟩
                case measure => simp [intOf]; omega
        | true =>
          rw [hA] at HX1
          cases hB : hasB b es[i] with
          | true =>
            rw [hB] at HX2
            rw [show woP a b es[i] = [] by unfold woP; rw [hA, hB]; rfl, List.append_nil] at HWO
            generalize hcur : wo a b none (es.take i) = cur at *
            clear hcur
            have HLC : Hid ((sx cur).length + 1 ≤ 1000000000) := Lib.hid (by rw [sx_len]; omega)
            go_wp2_with fail
            refine (HX1.out _ HIN.out.2).mono ?_
            rintro e w5 ⟨rfl, hb5⟩
            have HIN := Lib.hid (HIN.out.to hb5)
            have cx := HCX1.out w5 HIN.out.2
            clear hb5 HX1
            go_wp2_with fail
            refine (HX2.out _ HIN.out.2).mono ?_
            rintro e w6 ⟨rfl, hb6⟩
            have HIN := Lib.hid (HIN.out.to hb6)
            obtain ⟨W, hW⟩ : ∃ z, z = w6 := ⟨w6, rfl⟩
            subst hW
            clear hb6 cx HX2 HCX1
            by_cases hi0 : i = 0
            · have HFIN : Hid (InP W0 W vo (wo a b none (es.take (i + 1)))) := by rw [HWO.out, if_pos hi0, List.append_nil]; exact HIN
              have hid : decide ((i : Int) = 0) = true := by simp; exact hi0
              have hib : ((i : Int) == 0) = true := by simp; exact hi0
              clear HIN HWO
              go_wp2
              go_roundw
              case rel => exact ⟨i + 1, _, by go_num, rfl, hlt, HFIN⟩
              case measure => simp [intOf]; omega
            · rw [if_neg hi0] at HWO
              have hid : decide ((i : Int) = 0) = false := by simp; exact hi0
              have hib : ((i : Int) == 0) = false := by simp; exact hi0
              have hsw : IntKind.i64.wrap ((i : Int) - 1) = ((i - 1 : Nat) : Int) := by simp [IntKind.wrap, IntKind.bits, IntKind.signed]; omega
              have hp0 : (0 : Int) ≤ ((i - 1 : Nat) : Int) := by omega
              have hp1 : ((i - 1 : Nat) : Int) < (es.length : Int) := by omega
              have HCX := Lib.hid (fun E (hE : Below W0.heap.size W0 E) => And.intro (HCE.out E hE (i - 1) (by omega)) (HCE.out E hE i hlt))
              have hbq := HBE.out (i - 1) (by omega)
              have HPL := Lib.hid (fun W => plus_R es[i - 1] es[i] W (hbq.sh (by decide) (by decide)) ((HBE.out i hlt).sh (by decide) (by decide)))
              have hbm : Bq 100 (midQ es[i - 1] es[i]) := midQ_bq hbq (HBE.out i hlt)
              have HTI := Lib.hid (fun W => timesR (es[i - 1] + es[i]) (Rat.divInt 1 2) W ((hbq.add (HBE.out i hlt)).sh (by decide) (by decide)) ((show Bq 1 (Rat.divInt 1 2) by decide +kernel).sh (by decide) (by decide)))
              rw [show R (Rat.divInt 1 2) = [49, 47, 50] from rhalf] at HTI
              have HM1 := Lib.hid (fun W hW => HHA.out W hW (midQ es[i - 1] es[i]) hbm)
              have HM2 := Lib.hid (fun W hW => HHB.out W hW (midQ es[i - 1] es[i]) hbm)
              unfold woS at HWO
              clear hbq
              generalize hmq : midQ es[i - 1] es[i] = mq at *
              have HTI : Hid (∀ W, Calls Tryz.prog 95 #[.string (bs (R (es[i - 1] + es[i]))), .string (bs [49, 47, 50])] W (Ret W (.string (bs (R mq))))) := by rw [← hmq]; exact HTI
              clear hmq
              generalize es[i - 1] + es[i] = sm at *
              generalize es[i - 1] = q at *
              generalize es[i] = x at *
              have k1 := reg_of (w := W) (fun W _ => HPL.out W)
              have k2 := reg_of (w := W) (fun W _ => HTI.out W)
              have c0 := (HCX.out W HIN.out.2).1
              have c1 := (HCX.out W HIN.out.2).2
              have m0 := cell_regrown c0
              have m1 := cell_regrown c1
              have e1 : ∀ args w, (callFunc 79 args).run Tryz.prog w = .ok (.enter 79 args) w := enters_of Tryz.func79 (by kernel_rfl) rfl
              have e2 : ∀ args w, (callFunc 95 args).run Tryz.prog w = .ok (.enter 95 args) w := enters_of Tryz.func95 (by kernel_rfl) rfl
              clear c0 c1
              go_wp2_with fail
              refine wp_region_quiet_below (by kernel_rfl) (by kernel_rfl) ?_
              repeat (go_big_quiet_step (fail))
              go_big_quiet_step (exact k1 _ _)
              repeat (go_big_quiet_step (fail))
              go_big_quiet_step (exact k2 _ _)
              repeat (go_big_quiet_step (fail))
              refine wpQuiet_nil ?_
              intro W6 hw'
              have hb6 : Below W.heap.size W W6 := by obtain ⟨p, e⟩ := hw'; rw [e]; exact below_regrown W p.d p.os
              have HIN := Lib.hid (HIN.out.to hb6)
              clear k1 k2 m0 m1 e1 e2 hw' hb6 HPL HTI hsw
              have hsw : IntKind.i64.wrap ((i : Int) - 1) = ((i - 1 : Nat) : Int) := by simp [IntKind.wrap, IntKind.bits, IntKind.signed]; omega
              cases hA2 : hasB a mq with
              | false =>
                rw [hA2] at HM1
                have HFIN0 := HWO.out
                rw [show rDif (hasB a mq) (hasB b mq) = false by rw [hA2]; rfl, if_neg (by decide), List.append_nil] at HFIN0
                go_wp2_with fail
                refine (HM1.out _ HIN.out.2).mono ?_
                rintro e w7 ⟨rfl, hb7⟩
                have HFIN : Hid (InP W0 w7 vo (wo a b none (es.take (i + 1)))) := by rw [HFIN0]; exact Lib.hid (HIN.out.to hb7)
                clear HIN HWO HFIN0 hb7 HM1 HM2 hsw
                clear HCX
                go_wp2
                go_roundw
                case rel => exact ⟨i + 1, _, by go_num, rfl, hlt, HFIN⟩
                case measure => simp [intOf]; omega
              | true =>
                rw [hA2] at HM1
                cases hB2 : hasB b mq with
                | true =>
                  rw [hB2] at HM2
                  have HFIN0 := HWO.out
                  rw [show rDif (hasB a mq) (hasB b mq) = false by rw [hA2, hB2]; rfl, if_neg (by decide), List.append_nil] at HFIN0
                  go_wp2_with fail
                  refine (HM1.out _ HIN.out.2).mono ?_
                  rintro e w7 ⟨rfl, hb7⟩
                  have HIN := Lib.hid (HIN.out.to hb7)
                  clear hb7 HM1
                  go_wp2_with fail
                  refine (HM2.out _ HIN.out.2).mono ?_
                  rintro e w8 ⟨rfl, hb8⟩
                  have HFIN : Hid (InP W0 w8 vo (wo a b none (es.take (i + 1)))) := by rw [HFIN0]; exact Lib.hid (HIN.out.to hb8)
                  clear HIN HWO HFIN0 hb8 HM2 hsw
                  clear HCX
                  go_wp2
                  go_roundw
                  case rel => exact ⟨i + 1, _, by go_num, rfl, hlt, HFIN⟩
                  case measure => simp [intOf]; omega
                | false =>
                  rw [hB2] at HM2
                  have HFIN0 := HWO.out
                  rw [show rDif (hasB a mq) (hasB b mq) = true by rw [hA2, hB2]; rfl, if_pos rfl] at HFIN0
                  go_wp2_with fail
                  refine (HM1.out _ HIN.out.2).mono ?_
                  rintro e w7 ⟨rfl, hb7⟩
                  have HIN := Lib.hid (HIN.out.to hb7)
                  clear hb7 HM1
                  go_wp2_with fail
                  refine (HM2.out _ HIN.out.2).mono ?_
                  rintro e w8 ⟨rfl, hb8⟩
                  have HIN := Lib.hid (HIN.out.to hb8)
                  clear hb8 HM2 HWO
                  obtain ⟨W, hW⟩ : ∃ z, z = w8 := ⟨w8, rfl⟩
                  subst hW
                  go_wp2_with fail
                  go_region_held3 (fun E => E.cell? ⟨g, i - 1, none⟩ = some (.string (bs (R q))) ∧ E.cell? ⟨g, i, none⟩ = some (.string (bs (R x))))
                    (first | exact HCX.out _ HA2.out.2 | exact HCX.out _ HIN.out.2 | exact HCX.out _ (HIN.out.to (RowKit.Below.drew (Below.refl W.heap.size W))).2 | exact HCX.out _ (HIN.out.to (RowKit.Below.drew ((Below.refl W.heap.size W).alloc (Nat.le_refl _) (Obj.cells #[.string (bs (R q)), .string (bs (R x))] 24 (0, 0))))).2)
                    (first | (refine step_app_rd rfl (.tmp 70) (.tmp 81) rfl rfl rfl (HIN.out.to (RowKit.Below.drew ((Below.refl W.heap.size W).alloc (Nat.le_refl _) (Obj.cells #[.string (bs (R q)), .string (bs (R x))] 24 (0, 0))))).1 (src_row (show Row (W.alloc (Obj.cells #[.string (bs (R q)), .string (bs (R x))] 24 (0, 0))).drew W.heap.size 24 [.string (bs (R q)), .string (bs (R x))] from rnw)) (HIN.out.to (RowKit.Below.drew ((Below.refl W.heap.size W).alloc (Nat.le_refl _) (Obj.cells #[.string (bs (R q)), .string (bs (R x))] 24 (0, 0))))).2.size HLC.out ?_; intro v2 w2 ho2 hk2; have HA2 := Lib.hid ((HIN.out.to (RowKit.Below.drew ((Below.refl W.heap.size W).alloc (Nat.le_refl _) (Obj.cells #[.string (bs (R q)), .string (bs (R x))] 24 (0, 0))))).app (q, x) ho2 hk2)))
                  have HFIN : Hid (InP W0 w2 v2 (wo a b none (es.take (i + 1)))) := by rw [HFIN0]; exact HA2
                  clear HIN HA2 HFIN0 ho2 hk2
                  clear HCX
                  go_wp2
                  go_roundw
                  case rel => exact ⟨i + 1, _, by go_num, rfl, hlt, HFIN⟩
                  case measure => simp [intOf]; omega
          | false =>
            rw [hB] at HX2
            rw [show woP a b es[i] = [(es[i], es[i])] by unfold woP; rw [hA, hB]; rfl] at HWO
            have HLC1 : Hid ((sx (wo a b none (es.take i))).length + 1 ≤ 1000000000) := Lib.hid (by rw [sx_len]; omega)
            have HLC : Hid ((sx (wo a b none (es.take i) ++ [(es[i], es[i])])).length + 1 ≤ 1000000000) := Lib.hid (by rw [sx_len, List.length_append]; simp; omega)
            go_wp2_with fail
            refine (HX1.out _ HIN.out.2).mono ?_
            rintro e w5 ⟨rfl, hb5⟩
            have HIN := Lib.hid (HIN.out.to hb5)
            have cx := HCX1.out w5 HIN.out.2
            clear hb5 HX1
            go_wp2_with fail
            refine (HX2.out _ HIN.out.2).mono ?_
            rintro e w6 ⟨rfl, hb6⟩
            have HIN := Lib.hid (HIN.out.to hb6)
            obtain ⟨W, hW⟩ : ∃ z, z = w6 := ⟨w6, rfl⟩
            subst hW
            have HCX := HCX1
            have HXX : Hid (es[i] = es[i]) := Lib.hid rfl
            clear hb6 cx HX2 HCX1
            go_wp2_with fail
            go_region_held3 (fun E => E.cell? ⟨g, i, none⟩ = some (.string (bs (R es[i]))))
              (first | exact HCX.out _ HA2.out.2 | exact HCX.out _ HIN.out.2 | exact HCX.out _ (HIN.out.to (RowKit.Below.drew (Below.refl W.heap.size W))).2 | exact HCX.out _ (HIN.out.to (RowKit.Below.drew ((Below.refl W.heap.size W).alloc (Nat.le_refl _) (Obj.cells #[.string (bs (R es[i])), .string (bs (R es[i]))] 24 (0, 0))))).2)
              (first | (refine step_app_rd rfl (.tmp 36) (.tmp 46) rfl rfl rfl (HIN.out.to (RowKit.Below.drew ((Below.refl W.heap.size W).alloc (Nat.le_refl _) (Obj.cells #[.string (bs (R es[i])), .string (bs (R es[i]))] 24 (0, 0))))).1 (src_row (show Row (W.alloc (Obj.cells #[.string (bs (R es[i])), .string (bs (R es[i]))] 24 (0, 0))).drew W.heap.size 24 [.string (bs (R es[i])), .string (bs (R es[i]))] from rnw)) (HIN.out.to (RowKit.Below.drew ((Below.refl W.heap.size W).alloc (Nat.le_refl _) (Obj.cells #[.string (bs (R es[i])), .string (bs (R es[i]))] 24 (0, 0))))).2.size HLC1.out ?_; intro v2 w2 ho2 hk2; have HA2 := Lib.hid ((HIN.out.to (RowKit.Below.drew ((Below.refl W.heap.size W).alloc (Nat.le_refl _) (Obj.cells #[.string (bs (R es[i])), .string (bs (R es[i]))] 24 (0, 0))))).app (es[i], es[i]) ho2 hk2)))
            clear HIN HCX HLC1
            have HIN := HA2
            clear HA2 ho2 hk2
            obtain ⟨W, hW⟩ : ∃ z, z = w2 := ⟨w2, rfl⟩
            subst hW
            obtain ⟨vo, hvo⟩ : ∃ z, z = v2 := ⟨v2, rfl⟩
            subst hvo
            generalize hcur : wo a b none (es.take i) ++ [(es[i], es[i])] = cur at *
            clear hcur
            by_cases hi0 : i = 0
            · have HFIN : Hid (InP W0 W vo (wo a b none (es.take (i + 1)))) := by rw [HWO.out, if_pos hi0, List.append_nil]; exact HIN
              have hid : decide ((i : Int) = 0) = true := by simp; exact hi0
              have hib : ((i : Int) == 0) = true := by simp; exact hi0
              clear HIN HWO
              go_wp2
              go_roundw
              case rel => exact ⟨i + 1, _, by go_num, rfl, hlt, HFIN⟩
              case measure => simp [intOf]; omega
            · rw [if_neg hi0] at HWO
              have hid : decide ((i : Int) = 0) = false := by simp; exact hi0
              have hib : ((i : Int) == 0) = false := by simp; exact hi0
              have hsw : IntKind.i64.wrap ((i : Int) - 1) = ((i - 1 : Nat) : Int) := by simp [IntKind.wrap, IntKind.bits, IntKind.signed]; omega
              have hp0 : (0 : Int) ≤ ((i - 1 : Nat) : Int) := by omega
              have hp1 : ((i - 1 : Nat) : Int) < (es.length : Int) := by omega
              have HCX := Lib.hid (fun E (hE : Below W0.heap.size W0 E) => And.intro (HCE.out E hE (i - 1) (by omega)) (HCE.out E hE i hlt))
              have hbq := HBE.out (i - 1) (by omega)
              have HPL := Lib.hid (fun W => plus_R es[i - 1] es[i] W (hbq.sh (by decide) (by decide)) ((HBE.out i hlt).sh (by decide) (by decide)))
              have hbm : Bq 100 (midQ es[i - 1] es[i]) := midQ_bq hbq (HBE.out i hlt)
              have HTI := Lib.hid (fun W => timesR (es[i - 1] + es[i]) (Rat.divInt 1 2) W ((hbq.add (HBE.out i hlt)).sh (by decide) (by decide)) ((show Bq 1 (Rat.divInt 1 2) by decide +kernel).sh (by decide) (by decide)))
              rw [show R (Rat.divInt 1 2) = [49, 47, 50] from rhalf] at HTI
              have HM1 := Lib.hid (fun W hW => HHA.out W hW (midQ es[i - 1] es[i]) hbm)
              have HM2 := Lib.hid (fun W hW => HHB.out W hW (midQ es[i - 1] es[i]) hbm)
              unfold woS at HWO
              clear hbq
              generalize hmq : midQ es[i - 1] es[i] = mq at *
              have HTI : Hid (∀ W, Calls Tryz.prog 95 #[.string (bs (R (es[i - 1] + es[i]))), .string (bs [49, 47, 50])] W (Ret W (.string (bs (R mq))))) := by rw [← hmq]; exact HTI
              clear hmq
              generalize es[i - 1] + es[i] = sm at *
              generalize es[i - 1] = q at *
              generalize es[i] = x at *
              have k1 := reg_of (w := W) (fun W _ => HPL.out W)
              have k2 := reg_of (w := W) (fun W _ => HTI.out W)
              have c0 := (HCX.out W HIN.out.2).1
              have c1 := (HCX.out W HIN.out.2).2
              have m0 := cell_regrown c0
              have m1 := cell_regrown c1
              have e1 : ∀ args w, (callFunc 79 args).run Tryz.prog w = .ok (.enter 79 args) w := enters_of Tryz.func79 (by kernel_rfl) rfl
              have e2 : ∀ args w, (callFunc 95 args).run Tryz.prog w = .ok (.enter 95 args) w := enters_of Tryz.func95 (by kernel_rfl) rfl
              clear c0 c1
              go_wp2_with fail
              refine wp_region_quiet_below (by kernel_rfl) (by kernel_rfl) ?_
              repeat (go_big_quiet_step (fail))
              go_big_quiet_step (exact k1 _ _)
              repeat (go_big_quiet_step (fail))
              go_big_quiet_step (exact k2 _ _)
              repeat (go_big_quiet_step (fail))
              refine wpQuiet_nil ?_
              intro W6 hw'
              have hb6 : Below W.heap.size W W6 := by obtain ⟨p, e⟩ := hw'; rw [e]; exact below_regrown W p.d p.os
              have HIN := Lib.hid (HIN.out.to hb6)
              clear k1 k2 m0 m1 e1 e2 hw' hb6 HPL HTI hsw
              have hsw : IntKind.i64.wrap ((i : Int) - 1) = ((i - 1 : Nat) : Int) := by simp [IntKind.wrap, IntKind.bits, IntKind.signed]; omega
              cases hA2 : hasB a mq with
              | false =>
                rw [hA2] at HM1
                have HFIN0 := HWO.out
                rw [show rDif (hasB a mq) (hasB b mq) = false by rw [hA2]; rfl, if_neg (by decide), List.append_nil] at HFIN0
                go_wp2_with fail
                refine (HM1.out _ HIN.out.2).mono ?_
                rintro e w7 ⟨rfl, hb7⟩
                have HFIN : Hid (InP W0 w7 vo (wo a b none (es.take (i + 1)))) := by rw [HFIN0]; exact Lib.hid (HIN.out.to hb7)
                clear HIN HWO HFIN0 hb7 HM1 HM2 hsw
                clear HCX
                go_wp2
                go_roundw
                case rel => exact ⟨i + 1, _, by go_num, rfl, hlt, HFIN⟩
                case measure => simp [intOf]; omega
              | true =>
                rw [hA2] at HM1
                cases hB2 : hasB b mq with
                | true =>
                  rw [hB2] at HM2
                  have HFIN0 := HWO.out
                  rw [show rDif (hasB a mq) (hasB b mq) = false by rw [hA2, hB2]; rfl, if_neg (by decide), List.append_nil] at HFIN0
                  go_wp2_with fail
                  refine (HM1.out _ HIN.out.2).mono ?_
                  rintro e w7 ⟨rfl, hb7⟩
                  have HIN := Lib.hid (HIN.out.to hb7)
                  clear hb7 HM1
                  go_wp2_with fail
                  refine (HM2.out _ HIN.out.2).mono ?_
                  rintro e w8 ⟨rfl, hb8⟩
                  have HFIN : Hid (InP W0 w8 vo (wo a b none (es.take (i + 1)))) := by rw [HFIN0]; exact Lib.hid (HIN.out.to hb8)
                  clear HIN HWO HFIN0 hb8 HM2 hsw
                  clear HCX
                  go_wp2
                  go_roundw
                  case rel => exact ⟨i + 1, _, by go_num, rfl, hlt, HFIN⟩
                  case measure => simp [intOf]; omega
                | false =>
                  rw [hB2] at HM2
                  have HFIN0 := HWO.out
                  rw [show rDif (hasB a mq) (hasB b mq) = true by rw [hA2, hB2]; rfl, if_pos rfl] at HFIN0
                  go_wp2_with fail
                  refine (HM1.out _ HIN.out.2).mono ?_
                  rintro e w7 ⟨rfl, hb7⟩
                  have HIN := Lib.hid (HIN.out.to hb7)
                  clear hb7 HM1
                  go_wp2_with fail
                  refine (HM2.out _ HIN.out.2).mono ?_
                  rintro e w8 ⟨rfl, hb8⟩
                  have HIN := Lib.hid (HIN.out.to hb8)
                  clear hb8 HM2 HWO
                  obtain ⟨W, hW⟩ : ∃ z, z = w8 := ⟨w8, rfl⟩
                  subst hW
                  go_wp2_with fail
                  go_region_held3 (fun E => E.cell? ⟨g, i - 1, none⟩ = some (.string (bs (R q))) ∧ E.cell? ⟨g, i, none⟩ = some (.string (bs (R x))))
                    (first | exact HCX.out _ HA2.out.2 | exact HCX.out _ HIN.out.2 | exact HCX.out _ (HIN.out.to (RowKit.Below.drew (Below.refl W.heap.size W))).2 | exact HCX.out _ (HIN.out.to (RowKit.Below.drew ((Below.refl W.heap.size W).alloc (Nat.le_refl _) (Obj.cells #[.string (bs (R q)), .string (bs (R x))] 24 (0, 0))))).2)
                    (first | (refine step_app_rd rfl (.tmp 70) (.tmp 81) rfl rfl rfl (HIN.out.to (RowKit.Below.drew ((Below.refl W.heap.size W).alloc (Nat.le_refl _) (Obj.cells #[.string (bs (R q)), .string (bs (R x))] 24 (0, 0))))).1 (src_row (show Row (W.alloc (Obj.cells #[.string (bs (R q)), .string (bs (R x))] 24 (0, 0))).drew W.heap.size 24 [.string (bs (R q)), .string (bs (R x))] from rnw)) (HIN.out.to (RowKit.Below.drew ((Below.refl W.heap.size W).alloc (Nat.le_refl _) (Obj.cells #[.string (bs (R q)), .string (bs (R x))] 24 (0, 0))))).2.size HLC.out ?_; intro v2 w2 ho2 hk2; have HA2 := Lib.hid ((HIN.out.to (RowKit.Below.drew ((Below.refl W.heap.size W).alloc (Nat.le_refl _) (Obj.cells #[.string (bs (R q)), .string (bs (R x))] 24 (0, 0))))).app (q, x) ho2 hk2)))
                  have HFIN : Hid (InP W0 w2 v2 (wo a b none (es.take (i + 1)))) := by rw [HFIN0]; exact HA2
                  clear HIN HA2 HFIN0 ho2 hk2
                  clear HCX
                  go_wp2
                  go_roundw
                  case rel => exact ⟨i + 1, _, by go_num, rfl, hlt, HFIN⟩
                  case measure => simp [intOf]; omega
      · obtain rfl : i = es.length := by omega
        have hin2 := hin.out
        rw [List.take_length] at hin2
        have hrd := hin2.1.rd
        have HB := Lib.hid (Below.then HBL.out hin2.2)
        obtain ⟨A5, c5, rfl⟩ := hrd.len
        have HT := Lib.hid (HWS.out _ wr hrd)
        clear hin hin2 hrd HWS HWL HWT HBE HHA HHB HCE
        generalize tidy (wo a b none es) = t at *
        go_wp2_with fail
        refine (HT.out).mono ?_
        rintro e w9 ⟨v, rfl, ho, hb9⟩
        have HF := Lib.hid (And.intro (ownsRow_base ho HB.out.size) (Below.then HB.out hb9))
        clear ho hb9
        go_wp2
        go_ret
        exact ⟨_, rfl, HF.out.1, HF.out.2⟩
theorem rdiff_bad (la lb : List PT) (va vb : Value) (w : World) (ha : RdP w va la) (hb : RdP w vb lb) (fa : FewS la) (fb : FewS lb) (na : la.length ≤ maxLen) (nb : lb.length ≤ maxLen) (hc : setsC la lb ≠ 0) :
    Calls Tryz.prog 25 #[va, vb] w (Ret w (.tuple #[.slice none 0 0, .int .i64 ((setsC la lb : Nat) : Int)])) := by
  have HS := Lib.hid (rsets va vb la lb w ha hb fa fb na nb)
  have hz : (((setsC la lb : Nat) : Int) != 0) = true := by simp; exact hc
  clear ha hb hc
  generalize ((setsC la lb : Nat) : Int) = c at *
  go_enter Tryz.func25, Tryz.ntmps25
  go_wp2_with fail
  refine (HS.out).mono ?_
  rintro e w1 ⟨rfl, hb1⟩
  go_wp2
  go_ret2
  exact Ret.of rfl hb1
theorem rdiff_ok (a b : List SQ) (va vb : Value) (w : World) (ha : RdP w va (sx a)) (hb : RdP w vb (sx b)) (sa : Shp va) (sb : Shp vb) (na : a.length ≤ 8) (nb : b.length ≤ 8) (ra : ∀ s ∈ a, SpB 30 s) (rb : ∀ s ∈ b, SpB 30 s) :
    Calls Tryz.prog 25 #[va, vb] w (LstP (sx (tidy (wo a b none (endsZ (a ++ b))))) w) := by
  have rab : ∀ s ∈ a ++ b, SpB 30 s := fun s h => (List.mem_append.1 h).elim (ra s) (rb s)
  have hs := rsets va vb (sx a) (sx b) w ha hb (fewS_sx (by omega) ra) (fewS_sx (by omega) rb) (by rw [sx_len]; unfold maxLen; omega) (by rw [sx_len]; unfold maxLen; omega)
  rw [setsC_yes (by omega) (by omega) ra rb] at hs
  have HS := Lib.hid hs
  have HWI := Lib.hid (fun W (hW : Below w.heap.size w W) => rwithout a b va vb W (ha.below hW) (hb.below hW) sa sb na nb ra rb)
  have ht : (tidy (wo a b none (endsZ (a ++ b)))).length ≤ 256 := by
    have h1 := (tidy_sp (wo_sp rab)).2
    have h2 := wo_len a b (endsZ (a ++ b)) none
    have h3 := endsZ_size (a ++ b)
    rw [List.length_append] at h3
    omega
  clear ha hb hs ra rb rab
  generalize tidy (wo a b none (endsZ (a ++ b))) = t at *
  go_enter Tryz.func25, Tryz.ntmps25
  go_wp2_with fail
  refine (HS.out).mono ?_
  rintro e w1 ⟨rfl, hb1⟩
  go_wp2_with fail
  refine (HWI.out w1 hb1).mono ?_
  intro e w2 htd
  obtain ⟨A, cap, rfl, hr, hb2⟩ := tid_lst htd
  have HR := Lib.hid hr
  have HB := Lib.hid (Below.then hb1 hb2)
  have HL := Lib.hid (rlimited A t.length cap w2 ht)
  clear hr hb1 hb2 htd
  go_wp2_with fail
  refine (HL.out).mono ?_
  rintro e w3 ⟨rfl, rfl⟩
  go_wp2
  go_ret2
  exact LstP.of HR.out HB.out
end W
end Go.Proofs.YtpjaoapnangccaaGreatDoor
