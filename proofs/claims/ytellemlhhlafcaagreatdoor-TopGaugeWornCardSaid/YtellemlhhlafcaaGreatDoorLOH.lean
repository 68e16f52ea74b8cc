/-
  Top 24: an argument that is an array of three numbers of eight bits.
  Chapter 46: lists that are changed from the front on; cells that are stored to.
  Top 24: the law TopGaugeWorn.
-/
import Derived.Test.YtellemlhhlafcaaGreatDoorLQF
import Derived.Test.YtellemlhhlafcaaGreatDoorLU
import Derived.Test.YtellemlhhlafcaaGreatDoorLRE
import Derived.Test.YtellemlhhlafcaaGreatDoorLOG
section
namespace Go.Proofs.YtellemlhhlafcaaGreatDoor
open Go Go.RowKit Go.ChangeShapes Go.WideShapes Go.ChangeAt Go.Deep
namespace Fin
set_option maxRecDepth 20000
section
variable {H : Type} {enc : TypeId × Value → H} {W : World}
theorem cellsB3 : Tryz.prog.cellsOf 65 = 3 := by kernel_rfl
theorem cellsB1 : Tryz.prog.cellsOf 5 = 1 := by kernel_rfl
theorem array3b {α : Type} {cs : Array α} (h : cs.size = 3) : ∃ c0 c1 c2, cs = #[c0, c1, c2] := by
  obtain ⟨l⟩ := cs
  match l, h with
  | [c0, c1, c2], _ => exact ⟨c0, c1, c2, rfl⟩
theorem elt_u8 {n : Nat} {c : Value} {x : DataW H × List MemPlace} (h : DataW.trod enc Tryz.prog W 0 (fun _ => true) true n 5 [c] = some x) : ∃ z : Int, c = .int .u8 z ∧ 0 ≤ z ∧ z ≤ 255 := by
  obtain ⟨z, hz, _, hw⟩ := DataW.trod_int Tryz.underlying5 h
  refine ⟨z, by simpa using hz, ?_⟩
  simp [Lit.wf, IntKind.min, IntKind.max, IntKind.bits, IntKind.signed] at hw
  omega
theorem open_b3 {r : Reach} {b0 : Nat} {v : Value} {d : DataW H} {p : List MemPlace} (hv : Value.okWide Tryz.prog W r b0 65 v) (h : DataW.Trod enc Tryz.prog W 0 (fun _ => true) true 65 v d p) :
    ∃ x y z : Int, v = .agg #[.int .u8 x, .int .u8 y, .int .u8 z] ∧ (0 ≤ x ∧ x ≤ 255) ∧ (0 ≤ y ∧ y ≤ 255) ∧ (0 ≤ z ∧ z ≤ 255) := by
  obtain ⟨cs, rfl, hsz⟩ := okWide_array Tryz.underlying65 hv
  rw [cellsB3] at hsz
  obtain ⟨c0, c1, c2, rfl⟩ := array3b hsz
  obtain ⟨fuel, hf⟩ := h
  have hf' : DataW.trod enc Tryz.prog W 0 (fun _ => true) true fuel 65 [c0, c1, c2] = some (d, p) := hf
  obtain ⟨xs, k, _, _, _, hxl, hel⟩ := DataW.trod_array Tryz.underlying65 hf'
  have h0 := hel 0 (by decide)
  have h1 := hel 1 (by decide)
  have h2 := hel 2 (by decide)
  rw [cellsB1] at h0 h1 h2
  change DataW.trod enc Tryz.prog W 0 (fun _ => true) true k 5 [c0] = xs[0]? at h0
  change DataW.trod enc Tryz.prog W 0 (fun _ => true) true k 5 [c1] = xs[1]? at h1
  change DataW.trod enc Tryz.prog W 0 (fun _ => true) true k 5 [c2] = xs[2]? at h2
  match xs, hxl with
  | [x0, x1, x2], _ =>
    simp only [List.getElem?_cons_zero, List.getElem?_cons_succ] at h0 h1 h2
    obtain ⟨a, rfl, ha⟩ := elt_u8 h0
    obtain ⟨b, rfl, hb⟩ := elt_u8 h1
    obtain ⟨c, rfl, hc⟩ := elt_u8 h2
    exact ⟨a, b, c, rfl, ha, hb, hc⟩
end
end Fin
end Go.Proofs.YtellemlhhlafcaaGreatDoor
end
section
namespace Go.Proofs.YtellemlhhlafcaaGreatDoor
open Go Go.RowKit Go.Deep
def mixL {α : Type} (f : α → α) (k : Nat) (l : List α) : List α := (l.take k).map f ++ l.drop k
theorem mixL_zero {α : Type} (f : α → α) (l : List α) : mixL f 0 l = l := by simp [mixL]
theorem mixL_all {α : Type} (f : α → α) (l : List α) : mixL f l.length l = l.map f := by simp [mixL]
theorem mixL_len {α : Type} (f : α → α) (k : Nat) (l : List α) (hk : k ≤ l.length) : (mixL f k l).length = l.length := by simp [mixL]; omega
theorem mixL_get {α : Type} (f : α → α) (k : Nat) (l : List α) (hk : k < l.length) : (mixL f k l)[k]'(by rw [mixL_len f k l (by omega)]; exact hk) = l[k] := by
  unfold mixL
  rw [List.getElem_append_right (by simp; omega)]
  simp [Nat.min_eq_left (Nat.le_of_lt hk)]
theorem mixL_set {α : Type} (f : α → α) (k : Nat) (l : List α) (hk : k < l.length) : (mixL f k l).set k (f l[k]) = mixL f (k + 1) l := by
  unfold mixL
  have h1 : ((l.take k).map f).length = k := by simp; omega
  rw [List.set_append_right _ _ (by omega), h1, Nat.sub_self, List.drop_eq_getElem_cons hk, List.set_cons_zero, List.take_add_one, List.getElem?_eq_getElem hk, List.map_append]
  simp
end Go.Proofs.YtellemlhhlafcaaGreatDoor
end
section
namespace Go.Proofs.YtellemlhhlafcaaGreatDoor
open Go Go.RowKit Go.Deep Go.Sort
theorem csTL_cons (x : M.To) (t : List M.To) : csTL (x :: t) = .int .i64 x.x :: .int .i64 x.y :: .bool x.hole :: .int .i64 x.n :: csTL t := rfl
theorem csTL_n : ∀ (l : List M.To) (i : Nat) (h : i < l.length) (z : Int), (csTL l).set (i * 4 + 3) (.int .i64 z) = csTL (l.set i { l[i] with n := z })
  | [], _, h, _ => by cases h
  | x :: t, 0, _, z => by rw [csTL_cons]; rfl
  | x :: t, i + 1, h, z => by
    have hi : i < t.length := by simpa using h
    rw [csTL_cons, show (i + 1) * 4 + 3 = i * 4 + 3 + 1 + 1 + 1 + 1 by omega]
    simp only [List.set_cons_succ, List.getElem_cons_succ, csTL_cons]
    rw [csTL_n t i hi z]
theorem OwnTL.setN {w : World} {B g cap : Nat} {l : List M.To} (h : OwnTL w B (.slice (some ⟨g, 0, none⟩) l.length cap) l) (i : Nat) (hi : i < l.length) (z : Int) :
    OwnTL (w.setCell ⟨g, i * 4 + 3, none⟩ (.int .i64 z)) B (.slice (some ⟨g, 0, none⟩) l.length cap) (l.set i { l[i] with n := z }) := by
  have h2 := (World.ownsRow.stored h (i * 4 + 3) (.int .i64 z)).1
  unfold OwnTL
  rw [List.length_set, ← csTL_n l i hi z]
  exact h2
namespace M
theorem worn_of {a b k : Int} {t : Tg} {c : Cc} (ht : RtT t) (hm : t.mat = 1) (hc : RtC c) (hk : 0 ≤ k ∧ k ≤ a) (ha : a ≤ 7) (hb : 0 ≤ b ∧ b ≤ 7) (hd : desC a b t = 0) :
    RtO (wornT k (hiT (desQ a b t)), c) ∧ (wornT k (hiT (desQ a b t))).x = t.x ∧ (wornT k (hiT (desQ a b t))).y = t.y ∧ plyT (wornT k (hiT (desQ a b t)), c) ≤ wide t c := by
  have hr := virt_rng ht
  have hid := plyT_id (c := c) hm
  cases hp : t.pin with
  | true =>
    have h1 : ¬ virt t - a - b < 1 := by
      intro h
      rw [(desQ_e rfl hp h).2] at hd
      cases hd
    rw [(desQ_t rfl hp h1).1]
    unfold plyT idT at hid
    dsimp only at hid
    rw [hp, if_pos rfl] at hid
    unfold hiT wornT
    dsimp only
    rw [if_pos rfl]
    refine ⟨⟨ht.x, ht.y, ?_, hc⟩, rfl, rfl, ?_⟩
    · dsimp only; omega
    · unfold plyT; dsimp only; rw [if_pos rfl]; omega
  | false =>
    rw [(desQ_f rfl hr.1 (by omega) hp).1]
    unfold plyT idT at hid
    dsimp only at hid
    rw [hp, if_neg (by decide)] at hid
    unfold hiT wornT
    dsimp only
    rw [if_neg (by decide)]
    refine ⟨⟨ht.x, ht.y, ?_, hc⟩, rfl, rfl, ?_⟩
    · dsimp only; omega
    · unfold plyT; dsimp only; rw [if_neg (by decide)]; omega
def wornL (a b k : Int) (ts : List Tg) : List To := (ts.map fun t => hiT (desQ a b t)).map (wornT k)
theorem worn_len (a b k : Int) (ts : List Tg) : (wornL a b k ts).length = ts.length := by simp [wornL]
theorem worn_get (a b k : Int) (ts : List Tg) (i : Nat) (h : i < ts.length) : (wornL a b k ts)[i]'(by rw [worn_len]; exact h) = wornT k (hiT (desQ a b ts[i])) := by simp [wornL]
theorem worn_rt {a b k : Int} {ts : List Tg} {cs : List Cc} (h : chk46 ts cs = 0) (hm : ∀ t ∈ ts, t.mat = 1) (hk : 0 ≤ k ∧ k ≤ a) (ha : a ≤ 7) (hb : 0 ≤ b ∧ b ≤ 7) (hd : ∀ t ∈ ts, desC a b t = 0) : RtR (wornL a b k ts) cs := by
  obtain ⟨h1, h16, hlen, hrt⟩ := chk46_iff.1 h
  refine ⟨by rw [worn_len]; exact h1, by rw [worn_len]; exact h16, by rw [worn_len]; exact hlen, fun i hi hj => ?_⟩
  rw [worn_len] at hi
  have hr := hrt (ts[i], cs[i]) (by rw [show (ts[i], cs[i]) = (ts.zip cs)[i]'(by rw [List.length_zip]; omega) by simp]; exact List.getElem_mem _)
  rw [worn_get]
  exact (worn_of hr.1 (hm _ (List.getElem_mem hi)) hr.2.1 hk ha hb (hd _ (List.getElem_mem hi))).1
theorem worn_mono {a b k : Int} {ts : List Tg} {cs : List Cc} (h : chk46 ts cs = 0) (hm : ∀ t ∈ ts, t.mat = 1) (hk : 0 ≤ k ∧ k ≤ a) (ha : a ≤ 7) (hb : 0 ≤ b ∧ b ≤ 7) (hd : ∀ t ∈ ts, desC a b t = 0) (hg : goT ((wornL a b k ts).zip cs) = true) : (firstD ((ts.zip cs).map dkP)).isSome = true := by
  obtain ⟨h1, h16, hlen, hrt⟩ := chk46_iff.1 h
  refine go_mono (by rw [List.length_zip, List.length_zip, worn_len]) (fun e => ?_) (fun i hi hj => ?_) hg
  · have := congrArg List.length e
    rw [List.length_zip, worn_len] at this
    simp only [List.length_nil] at this
    omega
  · rw [List.length_zip] at hj
    have hi' : i < ts.length := by omega
    have hr := hrt (ts[i], cs[i]'(by omega)) (by rw [show (ts[i], cs[i]'(by omega)) = (ts.zip cs)[i]'(by rw [List.length_zip]; omega) by simp]; exact List.getElem_mem _)
    obtain ⟨_, e1, e2, e3⟩ := worn_of hr.1 (hm _ (List.getElem_mem hi')) hr.2.1 hk ha hb (hd _ (List.getElem_mem hi'))
    rw [List.getElem_zip, List.getElem_zip, worn_get a b k ts i hi']
    exact ⟨e1, e2, rfl, e3⟩
end M
namespace W
open M
attribute [local go_sem] bs_size bs_toList bs_get bs_extract bs_append bs_lit0 bs_lit1 lit1_bs
set_option maxHeartbeats 1000000
set_option maxRecDepth 20000
theorem worn_law (vt vc : Value) (ts : List Tg) (cs : List Cc) (b0 b1 b2 : Int) (w : World) (hg : Glob w) (hs : Sig w) (ht : RdG w vt ts) (hc : RdC w vc cs) (nt : ts.length ≤ maxLen) (nc : cs.length ≤ maxLen)
    (k0 : 0 ≤ b0 ∧ b0 ≤ 255) (k1 : 0 ≤ b1 ∧ b1 ≤ 255) (k2 : 0 ≤ b2 ∧ b2 ≤ 255) : Calls Tryz.prog 5 #[vt, vc, .agg #[.int .u8 b0, .int .u8 b1, .int .u8 b2]] w (Ret w (.bool true)) := by
  have HP := Lib.hid (fun W (hW : Below w.heap.size w W) => ptryPlate vt vc ts cs W (ht.below hW) (hc.below hW) nt nc)
  have HY := Lib.hid (fun W (hW : Below w.heap.size w W) => ptryGauge W (hg.of hW) (hs.below hW))
  have hal := bel_al w (.cells #[.int .u8 b0, .int .u8 b1, .int .u8 b2] 65 (0, 0))
  have hrw : Row (w.alloc (.cells #[.int .u8 b0, .int .u8 b1, .int .u8 b2] 65 (0, 0))) w.heap.size 65 [.int .u8 b0, .int .u8 b1, .int .u8 b2] := rnw
  have HR := Lib.hid (And.intro hrw hal)
  clear hal hrw
  by_cases hr : (decide (ts.length ≤ 4) && decide (chk47 ts = 0) && decide (chk46 ts cs = 0)) = true
  · rw [hr] at HP
    rw [Bool.and_eq_true, Bool.and_eq_true, decide_eq_true_eq, decide_eq_true_eq, decide_eq_true_eq] at hr
    obtain ⟨⟨h4, h7⟩, h0⟩ := hr
    obtain ⟨h1, h16, hok⟩ := chk47_ok h7
    have hm : ∀ t ∈ ts, t.mat = 1 := fun t ht => (hok t ht).2
    have HF := Lib.hid (fun W (hW : Below w.heap.size w W) => sfeasible vt vc ts cs W (hg.of hW) (hs.below hW) (ht.below hW) (hc.below hW) h0)
    obtain ⟨a, ha⟩ : ∃ a, a = b0 % 8 := ⟨_, rfl⟩
    obtain ⟨b, hb⟩ : ∃ b, b = b1 % 8 := ⟨_, rfl⟩
    obtain ⟨k, hk⟩ : ∃ k, k = b2 % (1 + b0 % 8) := ⟨_, rfl⟩
    have ha7 : 0 ≤ a ∧ a ≤ 7 := by omega
    have hb7 : 0 ≤ b ∧ b ≤ 7 := by omega
    have hka : 0 ≤ k ∧ k ≤ a := by
      have h1 := Int.emod_nonneg b2 (b := 1 + b0 % 8) (by omega)
      have h2 := Int.emod_lt_of_pos b2 (b := 1 + b0 % 8) (by omega)
      omega
    have HI := Lib.hid (fun W (hW : Below w.heap.size w W) => ptryIdeal vt vc ts cs a b W (hs.below hW) (ht.below hW) (hc.below hW) h1 h16 hok ha7.1 hb7.1 (by omega))
    have HGO := Lib.hid (fun v (hd : ∀ t ∈ ts, desC a b t = 0) W (hW : Below w.heap.size w W) (hv : RdTL W v (wornL a b k ts)) => tGoes v vc (wornL a b k ts) cs W (hg.of hW) hv (hc.below hW) (worn_rt h0 hm hka ha7.2 hb7 hd))
    have HMO := Lib.hid (fun (hd : ∀ t ∈ ts, desC a b t = 0) => worn_mono (a := a) (b := b) (k := k) h0 hm hka ha7.2 hb7 hd)
    have HSZ := Lib.hid (fun (hd : ∀ t ∈ ts, desC a b t = 0) i (hi : i < ts.length) => des_lim (hok _ (List.getElem_mem hi)).1 ha7.1 hb7.1 (by omega) (hd _ (List.getElem_mem hi)))
    unfold GoP GoQ at HGO
    unfold IdP at HI
    obtain ⟨At, ct, rfl⟩ := ht.len
    obtain ⟨Ac, cc, rfl⟩ := hc.len
    generalize firstD ((ts.zip cs).map dkP) = fd at *
    obtain ⟨x, hx⟩ : ∃ x, x = fd.getD ⟨0, 0, 0⟩ := ⟨_, rfl⟩
    rw [← hx] at HF
    generalize fd.isSome = ok at *
    clear hx ht hc hg hs h0 h4 h7 hok hm
    unfold tkV wnV at HF
    go_enter Tryz.func5, Tryz.ntmps5
    go_wp2_with fail
    refine (HP.out _ HR.out.2).mono ?_
    rintro e w1 ⟨rfl, hb1⟩
    have H1 := Lib.hid (And.intro (HR.out.1.below' hb1) (bel_to HR.out.2 hb1))
    clear hb1 HR HP
    have r0 := H1.out.1.cell (i := 0) rfl
    have r1 := H1.out.1.cell (i := 1) rfl
    go_wp2_with fail
    rw [← ha, ← hb]
    refine (HI.out _ H1.out.2).mono ?_
    rintro e w2 ⟨v, hq, hb2⟩
    rcases hq with ⟨rfl, hd, hv⟩ | ⟨⟨TA, tn, tc, rfl⟩, _, rfl⟩
    · have HSD := Lib.hid (HSZ.out hd)
      have HG2 := Lib.hid (fun v W => HGO.out v hd W)
      have HM2 := Lib.hid (HMO.out hd)
      obtain ⟨l, hl⟩ : ∃ l, l = ts.map fun t => hiT (desQ a b t) := ⟨_, rfl⟩
      have hll : l.length = ts.length := by rw [hl, List.length_map]
      have HWL := Lib.hid (show wornL a b k ts = l.map (wornT k) from by rw [hl]; rfl)
      have HLN := Lib.hid (fun i (hi : i < l.length) => (show 1 ≤ l[i].n ∧ l[i].n ≤ 300000 from by
        have hi2 : i < ts.length := by omega
        have h := HSD.out i hi2
        have e : l[i].n = (desQ a b ts[i]).hi := by simp only [hl, List.getElem_map, hiT]
        rw [e]
        omega))
      rw [← hl] at hv
      obtain ⟨g, cap, hve, hgB, hglt⟩ := hv.form (by omega)
      subst hve
      have hl16 : l.length ≤ 16 := by omega
      clear HSD HSZ HGO HMO hd hl hll
      unfold trV at HG2
      generalize goT ((wornL a b k ts).zip cs) = go at *
      generalize witT ((wornL a b k ts).zip cs) = wx at *
      have hne1 : w.heap.size ≠ g := by have := H1.out.1.lt; omega
      have hal := bel_al w2 (.cells #[.bool false, .slice (some ⟨g, 0, none⟩) l.length cap, .slice Ac cs.length cc] 55 (0, 0))
      have hrt : Row (w2.alloc (.cells #[.bool false, .slice (some ⟨g, 0, none⟩) l.length cap, .slice Ac cs.length cc] 55 (0, 0))) w2.heap.size 55 [.bool false, .slice (some ⟨g, 0, none⟩) l.length cap, .slice Ac cs.length cc] := rnw
      have H2 := Lib.hid (And.intro ((H1.out.1.below' hb2).below' hal) (And.intro hrt (And.intro (show OwnTL (w2.alloc (.cells #[.bool false, .slice (some ⟨g, 0, none⟩) l.length cap, .slice Ac cs.length cc] 55 (0, 0))) w1.heap.size (.slice (some ⟨g, 0, none⟩) l.length cap) (mixL (wornT k) 0 l) by rw [mixL_zero]; exact hv.below hal) (bel_to (bel_to H1.out.2 hb2) hal))))
      have hgw : w.heap.size ≤ g := by have := H1.out.2.size; omega
      have hne2 : w2.heap.size ≠ g := by omega
      clear hb2 hv hal hrt H1 HI r0 r1 ha hb
      have r1 := H2.out.2.1.cell (i := 1) rfl
      go_wp2_with fail
      generalize w2.alloc (.cells #[.bool false, .slice (some ⟨g, 0, none⟩) l.length cap, .slice Ac cs.length cc] 55 (0, 0)) = V at *
      generalize w2.heap.size = gt at *
      subst hk
      go_loopw [43] (fun iv wr => ∃ i : Nat, iv = .int .i64 (i : Int) ∧ i ≤ l.length ∧ Hid (Row wr w.heap.size 65 [.int .u8 b0, .int .u8 b1, .int .u8 b2] ∧ Row wr gt 55 [.bool false, .slice (some ⟨g, 0, none⟩) l.length cap, .slice Ac cs.length cc] ∧ OwnTL wr w1.heap.size (.slice (some ⟨g, 0, none⟩) l.length cap) (mixL (wornT (b2 % (1 + b0 % 8))) i l) ∧ Below w.heap.size w wr)) (fun iv _ => l.length - (intOf iv).toNat)
      case atStart => exact ⟨0, rfl, by omega, H2⟩
      case round =>
        clear H2 r1
        obtain ⟨i, rfl, hi, hin⟩ := hrel
        by_cases hlt : i < l.length
        · have hlm := mixL_len (wornT (b2 % (1 + b0 % 8))) i l hi
          have hin2 := hin.out.2.2.1
          rw [← hlm] at hin2
          have him : i < (mixL (wornT (b2 % (1 + b0 % 8))) i l).length := by omega
          have hcn := hin2.cells _ _ (csTL_get _ i him).2.2.2
          have hch := hin2.cells _ _ (csTL_get _ i him).2.2.1
          rw [mixL_get (wornT (b2 % (1 + b0 % 8))) i l hlt] at hcn hch
          have hfz := World.ownsRow.frozenAt hin2 (i * 4 + 3)
          have hbn := HLN.out i hlt
          have q0 := hin.out.1.cell (i := 0) rfl
          have q2 := hin.out.1.cell (i := 2) rfl
          have r1 := hin.out.2.1.cell (i := 1) rfl
          have hnz : ¬ (1 + b0 % 8 = 0) := by omega
          have hi0 : (0 : Int) ≤ (i : Int) := by omega
          have hi1 : (i : Int) < (l.length : Int) := by omega
          cases hh : l[i].hole with
          | true =>
            rw [hh] at hch
            have hst2 := hin2.setN i him (l[i].n + b2 % (1 + b0 % 8))
            rw [mixL_get (wornT (b2 % (1 + b0 % 8))) i l hlt] at hst2
            rw [show ({ l[i] with n := l[i].n + b2 % (1 + b0 % 8) } : To) = wornT (b2 % (1 + b0 % 8)) l[i] from by unfold wornT; rw [if_pos hh], mixL_set (wornT (b2 % (1 + b0 % 8))) i l hlt, hlm] at hst2
            have HN := Lib.hid (And.intro (row_other (p := ⟨g, i * 4 + 3, none⟩) hin.out.1 hne1 (.int .i64 (l[i].n + b2 % (1 + b0 % 8)))) (And.intro (row_other (p := ⟨g, i * 4 + 3, none⟩) hin.out.2.1 hne2 (.int .i64 (l[i].n + b2 % (1 + b0 % 8)))) (And.intro hst2 (Below.setCell (p := ⟨g, i * 4 + 3, none⟩) hin.out.2.2.2 hgw (.int .i64 (l[i].n + b2 % (1 + b0 % 8)))))))
            have hwr : wrap64 (l[i].n + b2 % (1 + b0 % 8)) = l[i].n + b2 % (1 + b0 % 8) := by unfold wrap64; omega
            clear hin hin2 hlm him hst2 hbn
            generalize l[i].n = tn at *
            go_wp2
            go_roundw
            case rel => exact ⟨i + 1, by go_num, by omega, HN⟩
            case measure => simp [intOf]; omega
          | false =>
            rw [hh] at hch
            have hst2 := hin2.setN i him (l[i].n - b2 % (1 + b0 % 8))
            rw [mixL_get (wornT (b2 % (1 + b0 % 8))) i l hlt] at hst2
            rw [show ({ l[i] with n := l[i].n - b2 % (1 + b0 % 8) } : To) = wornT (b2 % (1 + b0 % 8)) l[i] from by unfold wornT; rw [if_neg (by rw [hh]; decide)], mixL_set (wornT (b2 % (1 + b0 % 8))) i l hlt, hlm] at hst2
            have HN := Lib.hid (And.intro (row_other (p := ⟨g, i * 4 + 3, none⟩) hin.out.1 hne1 (.int .i64 (l[i].n - b2 % (1 + b0 % 8)))) (And.intro (row_other (p := ⟨g, i * 4 + 3, none⟩) hin.out.2.1 hne2 (.int .i64 (l[i].n - b2 % (1 + b0 % 8)))) (And.intro hst2 (Below.setCell (p := ⟨g, i * 4 + 3, none⟩) hin.out.2.2.2 hgw (.int .i64 (l[i].n - b2 % (1 + b0 % 8)))))))
            have hwr : wrap64 (l[i].n - b2 % (1 + b0 % 8)) = l[i].n - b2 % (1 + b0 % 8) := by unfold wrap64; omega
            clear hin hin2 hlm him hst2 hbn
            generalize l[i].n = tn at *
            go_wp2
            go_roundw
            case rel => exact ⟨i + 1, by go_num, by omega, HN⟩
            case measure => simp [intOf]; omega
        · obtain rfl : i = l.length := by omega
          have hin2 := hin.out.2.2.1
          rw [mixL_all, ← HWL.out] at hin2
          have H3 := Lib.hid (And.intro hin.out.2.1 (And.intro hin.out.2.2.2 hin2.rd))
          clear hin hin2 HLN HWL
          have r0 := H3.out.1.cell (i := 0) rfl
          have r1 := H3.out.1.cell (i := 1) rfl
          have r2 := H3.out.1.cell (i := 2) rfl
          go_wp2_with fail
          refine (HG2.out _ _ H3.out.2.1 H3.out.2.2).mono ?_
          rintro e w3 ⟨i, j, s, GA, gn, gc, rfl, hw, hb3⟩
          have hb3 := bel_to (bel_to H3.out.2.1 hb3) (bel_al w3 (.cells #[.int .i64 i, .int .i64 j, .int .i64 s, .slice none 0 0, .slice GA gn gc, .slice none 0 0] 62 (0, 0)))
          clear hw H3 HG2 r0 r1 r2
          go_wp2_with fail
          refine (HF.out _ hb3).mono ?_
          rintro e w4 ⟨rfl, hb4⟩
          have hb4 := bel_to (bel_to hb3 hb4) (bel_al w4 (.cells #[.int .i64 (x.i : Int), .int .i64 (x.j : Int), .int .i64 x.side] 42 (0, 0)))
          clear hb3 HF
          cases go with
          | true =>
            obtain rfl : ok = true := HM2.out rfl
            clear HM2
            go_wp2_with fail
            refine (HY.out _ hb4).mono ?_
            rintro e w5 ⟨rfl, hb5⟩
            go_wp2
            go_ret
            exact Ret.of rfl (bel_to hb4 hb5)
          | false =>
            clear HM2
            go_wp2_with fail
            refine (HY.out _ hb4).mono ?_
            rintro e w5 ⟨rfl, hb5⟩
            go_wp2
            go_ret
            exact Ret.of rfl (bel_to hb4 hb5)
    · have hb2 := bel_to H1.out.2 (bel_to hb2 (bel_al w2 (.cells #[.bool false, .slice TA tn tc, .slice Ac cs.length cc] 55 (0, 0))))
      clear H1 HI HGO HMO HSZ HF r0 r1 ha hb hk
      go_wp2_with fail
      refine (HY.out _ hb2).mono ?_
      rintro e w3 ⟨rfl, hb3⟩
      go_wp2
      go_ret
      exact Ret.of rfl (bel_to hb2 hb3)
  · rw [Bool.eq_false_iff.2 hr] at HP
    obtain ⟨At, ct, rfl⟩ := ht.len
    obtain ⟨Ac, cc, rfl⟩ := hc.len
    clear ht hc hg hs hr
    go_enter Tryz.func5, Tryz.ntmps5
    go_wp2_with fail
    refine (HP.out _ HR.out.2).mono ?_
    rintro e w1 ⟨rfl, hb1⟩
    have hb1 := bel_to HR.out.2 hb1
    go_wp2_with fail
    refine (HY.out _ hb1).mono ?_
    rintro e w2 ⟨rfl, hb2⟩
    go_wp2
    go_ret
    exact Ret.of rfl (bel_to hb1 hb2)
end W
end Go.Proofs.YtellemlhhlafcaaGreatDoor
end
