/-
  Chapter 5's laws: ProgramMoves, the case in which all is right.
  Chapter 5's laws: ProgramMoves, all cases. (Printed by wip/moves.py.)
-/
import Derived.Test.YtijpgddpejiohaaGreatDoorLW
section
namespace Go.Proofs.YtijpgddpejiohaaGreatDoor
open Go Go.RowKit Go.Deep Go.Sort
namespace W
open M Sx
attribute [local go_sem] bs_size bs_toList bs_get bs_extract bs_append bs_lit0 bs_lit1 lit1_bs
set_option maxHeartbeats 4000000
set_option maxRecDepth 20000
theorem mapk_snoc (z : Rat) (a : List Rat) (j : Nat) (h : j < a.length) : rx ((a.take (j + 1)).map fun x => z * x) = rx ((a.take j).map fun x => z * x) ++ [R (z * a[j])] := by
  rw [List.take_succ_eq_append_getElem h, List.map_append]
  unfold rx
  rw [List.map_append]; rfl
theorem goodM_one {w : World} {B : Nat} {v : Value} {l : List (List UInt8)} (h : OwnS w B v l) (q : List UInt8) : GoodM w [(v, (l, q))] := fun x hx => by
  rw [List.mem_singleton.1 hx]; exact ⟨B, h⟩
theorem moves_main (k : Nat) (zl : List BQ) (zb zg : List Rat) (vl v0 v1 : Value) (w : World) (hg : Glob w) (hl : RdB w vl (bx zl)) (h0 : RdT w v0 (rx zb)) (h1 : RdT w v1 (rx zg))
    (hr : RightS k zl) (hf : FewS k zl.length) (hbl : zb.length = k) (hbq : ∀ x ∈ zb, Sq x) (hgl : zg.length = k) (hgq : ∀ x ∈ zg, Sq x)
    (hrt : ∀ W, Below w.heap.size w W → Calls Tryz.prog 9 #[.int .i64 (k : Int), vl] W (Ret W (.bool true)))
    (hs0 : ∀ W, Below w.heap.size w W → Calls Tryz.prog 10 #[v0] W (Ret W (.bool true)))
    (hs1 : ∀ W, Below w.heap.size w W → Calls Tryz.prog 10 #[v1] W (Ret W (.bool true)))
    (hn0 : ∀ W, Below w.heap.size w W → Calls Tryz.prog 11 #[v0] W (Ret W (.int .i64 0)))
    (hn1 : ∀ W, Below w.heap.size w W → Calls Tryz.prog 11 #[v1] W (Ret W (.int .i64 0))) :
    Calls Tryz.prog 3 #[.int .i64 (k : Int), vl, .agg #[v0, v1]] w (Ret w (.bool true)) := by
  have hk8 : k ≤ 8 := hf.2.1
  have hm9 : zl.length ≤ 9 := hf.2.2.1
  have hrow := Row.new w 24 [v0, v1]
  have hal := (Below.refl w.heap.size w).alloc (Nat.le_refl _) (.cells #[v0, v1] 24)
  obtain ⟨zm, hzm⟩ : ∃ zm, zm = movT k zb 0 zl := ⟨_, rfl⟩
  have hzl : zm.length = zl.length := by rw [hzm, movT_len]
  have hzg : ∀ i (h : i < zl.length), zm[i]? = some (movB ((1 + (i : Int) % 3 : Int) : Rat) k zb zl[i]) := fun i h => by
    have h := movT_get k zb zl 0 i h
    rw [Nat.zero_add] at h
    rw [hzm]; exact h
  have hzb : ∀ i (h : i < zl.length), ((movB ((1 + (i : Int) % 3 : Int) : Rat) k zb zl[i]).1.length = k ∧ (∀ x ∈ (movB ((1 + (i : Int) % 3 : Int) : Rat) k zb zl[i]).1, Bq 1000 x) ∧ Bq 1000 (movB ((1 + (i : Int) % 3 : Int) : Rat) k zb zl[i]).2) ∧ Bq 1 ((1 + (i : Int) % 3 : Int) : Rat) ∧ Bq 137 (dotP zl[i].1 zb k) := fun i h =>
    movB_bq (by omega) hk8 (hr _ (List.getElem_mem h)) hbq hbl
  have hzq : ∀ b ∈ bx zm, b.1.length ≤ maxLen ∧ (∀ p ∈ b.1, p.length ≤ maxLen) ∧ b.2.length ≤ maxLen := fun b hb => by
    obtain ⟨x, hx, rfl⟩ := List.mem_map.1 hb
    obtain ⟨j, hj, e⟩ := List.getElem_of_mem hx
    have hj2 : j < zl.length := by omega
    have h3 := hzg j hj2
    rw [List.getElem?_eq_getElem hj, e] at h3
    obtain ⟨⟨q1, q2, q3⟩, _, _⟩ := hzb j hj2
    rw [← Option.some.inj h3] at q1 q2 q3
    refine ⟨by rw [rx_len, q1]; unfold maxLen; omega, fun p hp => ?_, ?_⟩
    · obtain ⟨y, hy, rfl⟩ := List.mem_map.1 hp
      have := (q2 y hy).R_len (by decide)
      unfold maxLen; omega
    · have := q3.R_len (by decide)
      show (R x.2).length ≤ maxLen
      unfold maxLen; omega
  have HFW := Lib.hid (fun vd W (hd : RdB W vd (bx zm)) => rfew (k : Int) vd (bx zm) W hd (by rw [bx_len, hzl]; unfold maxLen; omega) hzq)
  have HPR := Lib.hid (fun (h : few5 (k : Int) (bx zm) = true) => (by
    rw [hzm] at h ⊢
    exact movs_pair hr hf hbq hbl hgq hgl h : ∃ s1 s2 c1 c2, MovC k zb zg s1 s2 c1 c2 ∧ (∀ (vl vg : Value) (W : World), Glob W → RdB W vl (bx zl) → RdT W vg (rx zg) → Calls Tryz.prog 18 #[.int .i64 (k : Int), vl, vg] W (MoD s1 c1 W)) ∧
      ∀ (vl vg : Value) (W : World), Glob W → RdB W vl (bx zm) → RdT W vg (rx zg) → Calls Tryz.prog 18 #[.int .i64 (k : Int), vl, vg] W (MoD s2 c2 W)))
  have HTI := Lib.hid (fun i (hi : i < zl.length) j (hj : j < zl[i].1.length) W => timesR ((1 + (i : Int) % 3 : Int) : Rat) zl[i].1[j] W ((hzb i hi).2.1.sh (by decide) (by decide)) (((hr _ (List.getElem_mem hi)).2.1 _ (List.getElem_mem hj)).bq.sh (by decide) (by decide)))
  have HVA := Lib.hid (fun i (hi : i < zl.length) u vp W (hu : RdT W u (rx zl[i].1)) (hp : RdT W vp (rx zb)) => (by
    have hlen := (hr _ (List.getElem_mem hi)).1
    have h := rvalue u vp zl[i].1 zb W hu hp (by omega) (by omega) (fun x hx => ((hr _ (List.getElem_mem hi)).2.1 x hx).bq.mono (by decide)) (fun x hx => (hbq x hx).bq.mono (by decide))
    rw [hlen] at h
    exact h : Calls Tryz.prog 16 #[u, vp] W (Ret W (.string (bs (R (dotP zl[i].1 zb k)))))))
  have HPL := Lib.hid (fun i (hi : i < zl.length) W => plus_R zl[i].2 (dotP zl[i].1 zb k) W ((hr _ (List.getElem_mem hi)).2.2.bq.sh (by decide) (by decide)) ((hzb i hi).2.2.sh (by decide) (by decide)))
  have HTM := Lib.hid (fun i (hi : i < zl.length) W => timesR ((1 + (i : Int) % 3 : Int) : Rat) (zl[i].2 + dotP zl[i].1 zb k) W ((hzb i hi).2.1.sh (by decide) (by decide)) ((Bq.add (hr _ (List.getElem_mem hi)).2.2.bq (hzb i hi).2.2).sh (by decide) (by decide)))
  have HWH := Lib.hid (fun (i : Nat) W => whole_R (1 + (i : Int) % 3) W (by omega) (by omega))
  have HLN := Lib.hid (fun i (hi : i < zl.length) => (hr _ (List.getElem_mem hi)).1)
  have HVG := Lib.hid (fun vp vq W (hp : RdT W vp (rx zg)) (hq : RdT W vq (rx zb)) => (by
    have h := rvalue vp vq zg zb W hp hq (by omega) (by omega) (fun x hx => (hgq x hx).bq.mono (by decide)) (fun x hx => (hbq x hx).bq.mono (by decide))
    rw [hgl] at h
    exact h : Calls Tryz.prog 16 #[vp, vq] W (Ret W (.string (bs (R (dotP zg zb k)))))))
  have HDB : Hid (Bq 137 (dotP zg zb k)) := Lib.hid ((dotP_bq (e := 8) (e2 := 8) (fun x hx => (hgq x hx).bq) (fun x hx => (hbq x hx).bq) k (by omega) (by omega)).mono (by omega))
  have HZG := Lib.hid hzg
  have HAW := Lib.hid (fun W (hW : Below w.heap.size w W) => awake5 W (hg.of hW))
  have HGB := Lib.hid (fun W (hW : Below w.heap.size w W) => hg.of hW)
  have HL := Lib.hid (fun W (hW : Below w.heap.size w W) => hl.below hW)
  have H0 := Lib.hid (fun W (hW : Below w.heap.size w W) => h0.below hW)
  have H1 := Lib.hid (fun W (hW : Below w.heap.size w W) => h1.below hW)
  have HRT := Lib.hid hrt
  have HS0 := Lib.hid hs0
  have HS1 := Lib.hid hs1
  have HN0 := Lib.hid hn0
  have HN1 := Lib.hid hn1
  have HRW := Lib.hid (And.intro hrow hal)
  have HZL := Lib.hid hzl
  obtain ⟨Al, cl, rfl⟩ := hl.len
  obtain ⟨A0, c0, rfl⟩ := h0.len
  obtain ⟨A1, c1, rfl⟩ := h1.len
  rw [rx_len, hbl] at HRW HS0 HN0 H0 ⊢
  rw [rx_len, hgl] at HRW HS1 HN1 H1 ⊢
  rw [bx_len] at HRT HL ⊢
  obtain ⟨m, hm⟩ : ∃ m, m = zl.length := ⟨_, rfl⟩
  rw [← hm] at HRT hm9
  have HMM := Lib.hid hm
  clear hg hl h0 h1 hr hf hbl hbq hgl hgq hrt hs0 hs1 hn0 hn1 hrow hal hzm hzl hzg hzb hzq
  rw [← hm] at HL ⊢
  clear hm
  go_enter Tryz.func3, Tryz.ntmps3
  go_wp2_with fail
  obtain ⟨W0, hW0⟩ : ∃ V, V = w.alloc (.cells #[.slice A0 k c0, .slice A1 k c1] 24) := ⟨_, rfl⟩
  rw [← hW0] at HRW ⊢
  clear hW0
  have m0 := cell_regrown (HRW.out.1.cell (i := 0) rfl)
  have m1 := cell_regrown (HRW.out.1.cell (i := 1) rfl)
  refine wp_region_quiet_below (by kernel_rfl) (by kernel_rfl) ?_
  repeat (go_big_quiet_step (fail))
  refine wpQuiet_nil ?_
  intro W6 hw'
  have hb6 : Below W0.heap.size W0 W6 := by obtain ⟨p, e⟩ := hw'; rw [e]; exact below_regrown W0 p.d p.os
  clear hw'
  have HB0 := Lib.hid (bel_to HRW.out.2 hb6)
  clear hb6 m0 m1 HRW
  go_wp2_with fail
  refine (HRT.out _ HB0.out).mono ?_
  rintro e w1 ⟨rfl, hb1⟩
  have HB1 := Lib.hid (bel_to HB0.out hb1)
  clear hb1 HB0 HRT
  go_wp2_with fail
  refine (HS0.out _ HB1.out).mono ?_
  rintro e w2 ⟨rfl, hb2⟩
  have HB2 := Lib.hid (bel_to HB1.out hb2)
  clear hb2 HB1 HS0
  go_wp2_with fail
  refine (HS1.out _ HB2.out).mono ?_
  rintro e w3 ⟨rfl, hb3⟩
  have HB3 := Lib.hid (bel_to HB2.out hb3)
  clear hb3 HB2 HS1
  go_wp2_with fail
  refine (HN0.out _ HB3.out).mono ?_
  rintro e w4 ⟨rfl, hb4⟩
  have HB4 := Lib.hid (bel_to HB3.out hb4)
  clear hb4 HB3 HN0
  go_wp2_with fail
  refine (HN1.out _ HB4.out).mono ?_
  rintro e w5 ⟨rfl, hb5⟩
  have HB5 := Lib.hid (bel_to HB4.out hb5)
  clear hb5 HB4 HN1
  go_wp2_with fail
  go_loopw [9, 67] (fun mv iv wr => ∃ (i : Nat) (es : List (Value × BT)), iv = .int .i64 (i : Int) ∧ i ≤ m ∧ Hid (OwnE wr w5.heap.size mv es ∧ GoodM wr es ∧ Below w5.heap.size w5 wr) ∧ Hid (es.map (·.2) = (bx zm).take i)) (fun _ iv _ => m - (intOf iv).toNat)
  case atStart => exact ⟨0, [], rfl, by omega, Lib.hid ⟨World.ownsRow_nil _ _ _ _, fun x hx => (by cases hx), Below.refl _ _⟩, Lib.hid rfl⟩
  case round =>
    obtain ⟨i, es, rfl, hi, hin, hes⟩ := hrel
    by_cases hlt : i < m
    · have hbw := bel_to HB5.out hin.out.2.2
      have hil : i < zl.length := by rw [← HMM.out]; exact hlt
      obtain ⟨b1, o1, rfl, hw⟩ := (HL.out wr hbw).row i (by rw [bx_len]; exact hil)
      obtain ⟨u, cu, hu, _, cm⟩ := bound_at hw i hil
      obtain ⟨Au, cpu, hue⟩ := hu.len
      have hlu := HLN.out i hil
      rw [rx_len, hlu] at hue
      subst hue
      obtain ⟨Am, nm, cpm, rfl⟩ := OwnE.shapeX hin.out.1
      have hi0 : (0 : Int) ≤ (i : Int) := by omega
      have hi1 : (i : Int) < (m : Int) := by omega
      obtain ⟨z, hz⟩ : ∃ z, z = ((1 + (i : Int) % 3 : Int) : Rat) := ⟨_, rfl⟩
      have HTJ := Lib.hid (HTI.out i hil)
      have HVI := Lib.hid (HVA.out i hil)
      have HPI := Lib.hid (HPL.out i hil)
      have HTK := Lib.hid (HTM.out i hil)
      have HWI := Lib.hid (HWH.out i)
      have HZI := Lib.hid (HZG.out i hil)
      rw [← hz] at HTJ HTK HWI HZI
      have HB6 := Lib.hid (And.intro (bel_to hbw (bel_alloc (Below.refl _ _) (.cells #[.slice Au k cpu, .string (bs (R zl[i].2))] 31))) (And.intro (rnw (w := wr) (t := 31) (xs := [.slice Au k cpu, .string (bs (R zl[i].2))])) (And.intro (hu.below (bel_alloc (Below.refl _ _) (.cells #[.slice Au k cpu, .string (bs (R zl[i].2))] 31))) (bel_alloc (Below.refl wr.heap.size wr) (.cells #[.slice Au k cpu, .string (bs (R zl[i].2))] 31)))))
      obtain ⟨row, hrow⟩ : ∃ row, row = zl[i].1 := ⟨_, rfl⟩
      obtain ⟨mo, hmo⟩ : ∃ mo, mo = zl[i].2 := ⟨_, rfl⟩
      have hrl : row.length = k := by rw [hrow]; exact hlu
      rw [← hrow] at HTJ HVI HPI HTK HB6
      rw [← hmo] at HPI HTK HB6 cm
      have HZ2 : Hid (zm[i]? = some (row.map (fun x => z * x), z * (mo + dotP row zb k))) := Lib.hid (by rw [hrow, hmo]; exact HZI.out)
      obtain ⟨dt, hdt⟩ : ∃ dt, dt = dotP row zb k := ⟨_, rfl⟩
      rw [← hdt] at HVI HPI HTK HZ2
      have HRL := Lib.hid hrl
      have HUU := Lib.hid hu
      clear hz hrow hmo hrl hdt hlu hw HZI hbw hu
      go_wp2_with fail
      refine (HWI.out _).mono ?_
      rintro e w7 ⟨rfl, hb7⟩
      have HB7 := Lib.hid (And.intro (bel_to HB6.out.1 hb7) (And.intro (HB6.out.2.1.below' hb7) (And.intro (HB6.out.2.2.1.below hb7) (bel_to HB6.out.2.2.2 hb7))))
      clear hb7 HB6 HWI HUU cm
      have HBI := Lib.hid HB7.out.2.2.2
      obtain ⟨N, hN⟩ : ∃ N, N = wr.heap.size := ⟨_, rfl⟩
      rw [← hN] at HB7 ⊢
      clear hN
      have x0 := HB7.out.2.1.cell (i := 0) rfl
      go_wp2_with fail
      go_loopw [13, 79] (fun rv jv wq => ∃ (j : Nat) (Av : Option Addr) (nv cv : Nat), jv = .int .i64 (j : Int) ∧ rv = .slice Av nv cv ∧ j ≤ k ∧ Hid (OwnS wq w7.heap.size (.slice Av nv cv) (rx ((row.take j).map fun x => z * x)) ∧ Below w7.heap.size w7 wq)) (fun _ jv _ => k - (intOf jv).toNat)
      case atStart => exact ⟨0, _, _, _, rfl, rfl, by omega, Lib.hid ⟨World.ownsRow_nil _ _ _ _, Below.refl _ _⟩⟩
      case round =>
        obtain ⟨j, Av, nv, cv, rfl, rfl, hj, hjn⟩ := hrel
        by_cases hjl : j < k
        · have hjr : j < row.length := by rw [HRL.out]; exact hjl
          obtain ⟨b2, o2, rfl, t2⟩ := RdT.row (n := k) (HB7.out.2.2.1.below hjn.out.2) j (by rw [rx_len]; exact hjr)
          have c2 := t2.val j (by rw [rx_len]; exact hjr)
          rw [rx_get row j hjr] at c2
          have hj0 : (0 : Int) ≤ (j : Int) := by omega
          have hj1 : (j : Int) < (k : Int) := by omega
          have HMJ := Lib.hid (mapk_snoc z row j hjr)
          have HTX := Lib.hid (HTJ.out j hjr)
          have HLJ : Hid ((rx ((row.take j).map fun x => z * x)).length + 1 ≤ 1000) := Lib.hid (by rw [rx_len, List.length_map, List.length_take]; omega)
          clear t2
          generalize row[j] = aj at *
          go_wp2_with fail
          refine (HTX.out _).mono ?_
          rintro e w8 ⟨rfl, hb8⟩
          have HT6 := Lib.hid (And.intro (hjn.out.1.below hb8) (bel_to hjn.out.2 hb8))
          clear hb8 HTX c2 hjn
          go_wp2_with (at_builtin; refine wpList_app_s (q := R (z * aj)) rfl _ _ rfl rfl rfl rfl HT6.out.1 HT6.out.2.size (by have := HLJ.out; omega) ?_; intro v2 w2 ho2 hk2)
          have HFI : Hid (OwnS w2 w7.heap.size v2 (rx ((row.take (j + 1)).map fun x => z * x)) ∧ Below w7.heap.size w7 w2) := Lib.hid ⟨by
            rw [HMJ.out]; exact ho2, hk2 _ _ (Nat.le_refl _) HT6.out.2⟩
          clear ho2 hk2 HT6
          obtain ⟨A2, d2, rfl⟩ := HFI.out.1.rd.len
          go_wp2
          go_roundw
          case rel => exact ⟨j + 1, _, _, _, by go_num, rfl, hjl, HFI⟩
          case measure => simp [intOf]; omega
        · obtain rfl : k = j := by omega
          have hor := hjn.out.1
          rw [List.take_of_length_le (by rw [HRL.out]; exact Nat.le_refl _)] at hor
          have hrr : k = nv := by
            obtain ⟨A', c', e⟩ := hor.rd.len
            injection e with _ e _
            rw [e, rx_len, List.length_map, HRL.out]
          subst hrr
          have HOR := Lib.hid hor
          have hbq := bel_to HB7.out.1 hjn.out.2
          have y0 := (HB7.out.2.1.below' hjn.out.2).cell (i := 0) rfl
          have y1 := (HB7.out.2.1.below' hjn.out.2).cell (i := 1) rfl
          have hus := HB7.out.2.2.1.below hjn.out.2
          have k1 := reg_of (w := wr) (fun W hW => HVI.out (.slice Au k cpu) (.slice A0 k c0) W (hus.below hW) (H0.out W (bel_to hbq hW)))
          have k2 := reg_of (w := wr) (fun W _ => HPI.out W)
          have k3 := reg_of (w := wr) (fun W _ => HTK.out W)
          have m0 := cell_regrown y0
          have m1 := cell_regrown y1
          have e1 : ∀ args w, (callFunc 16 args).run Tryz.prog w = .ok (.enter 16 args) w := enters_of Tryz.func16 (by kernel_rfl) rfl
          have e2 : ∀ args w, (callFunc 15 args).run Tryz.prog w = .ok (.enter 15 args) w := enters_of Tryz.func15 (by kernel_rfl) rfl
          have e3 : ∀ args w, (callFunc 14 args).run Tryz.prog w = .ok (.enter 14 args) w := enters_of Tryz.func14 (by kernel_rfl) rfl
          have hbi := bel_to HBI.out hjn.out.2
          have HIN2 := Lib.hid (And.intro (hin.out.1.below hbi) (And.intro (hin.out.2.1.below hbi) (bel_to hin.out.2.2 hbi)))
          have HEL : Hid (es.length ≤ 9) := Lib.hid (by have h := congrArg List.length hes.out; rw [List.length_map, List.length_take] at h; omega)
          clear x0 y0 y1 hus hbi hbq hor hjn hin
          generalize R dt = sd at *
          generalize mo + dt = ms at *
          go_wp2_with fail
          refine region_below_tail1 (v := (.slice Am nm cpm)) 11 (by kernel_rfl) (by kernel_rfl) (fun _ _ _ h => h) (Or.inl ⟨by rfl, fun wz => by go_simp⟩) ?_
          simp only [List.take_succ_cons, List.take_zero, List.drop_succ_cons, List.drop_zero, Act.put, List.setIfInBounds_toArray, List.set_cons_zero, List.set_cons_succ]
          repeat (go_big_quiet_step (fail))
          go_big_quiet_step (exact k1 _ _)
          repeat (go_big_quiet_step (fail))
          go_big_quiet_step (exact k2 _ _)
          repeat (go_big_quiet_step (fail))
          go_big_quiet_step (exact k3 _ _)
          repeat (go_big_quiet_step (fail))
          refine wpQuiet_nil ?_
          intro W6 hw'
          have hb6 : Below wr.heap.size wr W6 := by obtain ⟨p, e⟩ := hw'; rw [e]; exact below_regrown wr p.d p.os
          clear hw'
          have HT6 := Lib.hid (And.intro (HIN2.out.1.below hb6) (And.intro (HIN2.out.2.1.below hb6) (And.intro (bel_to HIN2.out.2.2 hb6) (HOR.out.below hb6))))
          clear k1 k2 k3 m0 m1 e1 e2 e3 hb6 HIN2 HOR
          have HBA := Lib.hid (bel_alloc (Below.refl W6.heap.size W6) (.cells #[.slice Av k cv, .string (bs (R (z * ms)))] 31 (0, 0)))
          go_wp2_with (at_builtin; refine wpList_app_e rfl _ _ rfl rfl rfl (HT6.out.1.below HBA.out) (SrcE.newX W6 (.slice Av k cv) (rx (row.map fun x => z * x), R (z * ms)) W6.heap.size rfl) (goodM_one (HT6.out.2.2.2.below HBA.out) _).good (bel_to HT6.out.2.2.1 HBA.out).size (by have := HEL.out; simp only [List.length_cons, List.length_nil]; omega) ?_; intro v2 w2 ho2 hk2)
          have HNX : Hid (OwnE w2 w5.heap.size v2 (es ++ [(.slice Av k cv, rx (row.map fun x => z * x), R (z * ms))]) ∧ GoodM w2 (es ++ [(.slice Av k cv, rx (row.map fun x => z * x), R (z * ms))]) ∧ Below w5.heap.size w5 w2) := Lib.hid ⟨ho2, GoodM.grown (GoodM.append (HT6.out.2.1.below HBA.out) (goodM_one (HT6.out.2.2.2.below HBA.out) _)) (HT6.out.1.below HBA.out) hk2, app_belE (HT6.out.1.below HBA.out) (bel_to HT6.out.2.2.1 HBA.out) (Nat.le_refl _) hk2⟩
          have HES : Hid ((es ++ [((.slice Av k cv, rx (row.map fun x => z * x), R (z * ms)) : Value × BT)]).map (·.2) = (bx zm).take (i + 1)) := Lib.hid (by
            have hzi : i < zm.length := by rw [HZL.out, ← HMM.out]; exact hlt
            have h3 := HZ2.out
            rw [List.getElem?_eq_getElem hzi] at h3
            have h4 := Option.some.inj h3
            rw [List.map_append, hes.out, List.take_succ_eq_append_getElem (by rw [bx_len]; exact hzi)]
            congr 1
            show [(rx (row.map fun x => z * x), R (z * ms))] = [(bx zm)[i]'(by rw [bx_len]; exact hzi)]
            unfold bx
            rw [List.getElem_map, h4])
          clear ho2 hk2 HT6 HBA
          go_wp2
          go_roundw
          case rel => exact ⟨i + 1, _, by go_num, hlt, HNX, HES⟩
          case measure => simp [intOf]; omega
    · obtain rfl : m = i := by omega
      have hms := hes.out
      rw [List.take_of_length_le (by rw [bx_len, HZL.out, HMM.out]; exact Nat.le_refl _)] at hms
      have hrd := hin.out.1.rd hin.out.2.1.good
      rw [hms] at hrd
      obtain ⟨Am, nm, cpm, rfl⟩ := OwnE.shapeX hin.out.1
      have HRD := Lib.hid (fun W (hW : Below wr.heap.size wr W) => hrd.below hW)
      have HB6 := Lib.hid (bel_to HB5.out hin.out.2.2)
      have hfw := HFW.out _ wr hrd
      clear HB5 hin hes hms hrd HTI HVA HPL HTM HWH HLN HZG HFW
      by_cases hff : few5 (k : Int) (bx zm) = true
      · rw [hff] at hfw
        obtain ⟨s1, s2, c1', c2', hcs, M1, M2⟩ := HPR.out hff
        have HFX := Lib.hid hfw
        have HM1 := Lib.hid M1
        have HM2 := Lib.hid M2
        have HCS := Lib.hid hcs
        clear hfw hff M1 M2 hcs HPR
        go_wp2_with fail
        refine (HFX.out).mono ?_
        rintro e w7 ⟨rfl, hb7⟩
        have HB7 := Lib.hid (bel_to HB6.out hb7)
        have HR7 := Lib.hid (fun W (hW : Below w7.heap.size w7 W) => HRD.out W (bel_to hb7 hW))
        clear hb7 HB6 HFX HRD
        go_wp2_with fail
        refine (HM1.out _ _ w7 (HGB.out _ HB7.out) (HL.out _ HB7.out) (H1.out _ HB7.out)).mono ?_
        rintro e w8 ⟨B1, n1, d1, B2, n2, d2, rfl, hb8⟩
        have HB8 := Lib.hid (bel_to HB7.out hb8)
        have HR8 := Lib.hid (HR7.out _ hb8)
        clear hb8 HB7 HR7 HM1
        go_wp2_with fail
        refine (HM2.out _ _ w8 (HGB.out _ HB8.out) HR8.out (H1.out _ HB8.out)).mono ?_
        rintro e w9 ⟨B3, n3, d3, B4, n4, d4, rfl, hb9⟩
        have HB9 := Lib.hid (bel_to HB8.out hb9)
        clear hb9 HB8 HR8 HM2 HL
        rcases HCS.out with ⟨rfl, rfl, v, rfl, rfl, hlen, hvq⟩ | ⟨rfl, rfl | rfl⟩
        · clear HCS
          have hch : chkRs [R v] = 0 := by rw [chkRs, hvq.chk (by decide), if_pos rfl, chkRs]
          have HNU := Lib.hid (fun W : World => (by
            have h := rnumbers (.slice (some ⟨W.heap.size, 0, none⟩) 1 1) [R v] (W.alloc (.cells #[.string (bs (R v))] 29 (0, 0))) (rdt_row (cap := 1) (l := [R v]) rnw) (fun p hp => by rw [List.mem_singleton.1 hp]; omega) (by simp)
            rw [hch] at h
            exact h : Calls Tryz.prog 11 #[.slice (some ⟨W.heap.size, 0, none⟩) 1 1] (W.alloc (.cells #[.string (bs (R v))] 29 (0, 0))) (Ret (W.alloc (.cells #[.string (bs (R v))] 29 (0, 0))) (.int .i64 0))))
          have HPV := Lib.hid (fun W => plus_R v (dotP zg zb k) W (hvq.sh (by decide) (by decide)) (HDB.out.sh (by decide) (by decide)))
          have z1 : decide ((0 : Int) < (((R v).length : Nat) : Int)) = true := decide_eq_true (by have := R_posD v; omega)
          have z2 : 0 < (R v).length := R_posD v
          have z3 : decide ((((R v).length : Nat) : Int) < 300) = true := decide_eq_true (by omega)
          have z4 : (R v).length < 300 := by omega
          clear hch hlen hvq
          generalize R v = sv at *
          generalize R (v + dotP zg zb k) = su at *
          generalize R (dotP zg zb k) = sd at *
          go_wp2_with fail
          refine (HNU.out w9).mono ?_
          rintro e7 w10 ⟨rfl, hb10⟩
          have HB10 := Lib.hid (bel_to HB9.out (bel_to (bel_alloc (Below.refl w9.heap.size w9) _) hb10))
          clear hb10 HNU HB9
          go_wp2_with fail
          refine (HVG.out _ _ w10 (H1.out _ HB10.out) (H0.out _ HB10.out)).mono ?_
          rintro e8 w11 ⟨rfl, hb11⟩
          have HB11 := Lib.hid (bel_to HB10.out hb11)
          clear hb11 HB10 HVG
          go_wp2_with fail
          refine (HPV.out _).mono ?_
          rintro e w12 ⟨rfl, hb12⟩
          have HB12 := Lib.hid (bel_to HB11.out hb12)
          clear hb12 HB11 HPV
          go_wp2_with fail
          refine (HAW.out _ HB12.out).mono ?_
          rintro e w13 ⟨rfl, hb13⟩
          have hbz := bel_to HB12.out hb13
          clear hb13 HB12 HAW
          go_wp2
          go_ret
          exact Ret.of rfl hbz
        · clear HCS
          go_wp2_with fail
          refine (HAW.out _ HB9.out).mono ?_
          rintro e w12 ⟨rfl, hb12⟩
          have hbz := bel_to HB9.out hb12
          clear hb12 HB9
          go_wp2
          go_ret
          exact Ret.of rfl hbz
        · clear HCS
          go_wp2_with fail
          refine (HAW.out _ HB9.out).mono ?_
          rintro e w12 ⟨rfl, hb12⟩
          have hbz := bel_to HB9.out hb12
          clear hb12 HB9
          go_wp2
          go_ret
          exact Ret.of rfl hbz
      · rw [Bool.not_eq_true] at hff
        rw [hff] at hfw
        have HFX := Lib.hid hfw
        clear hfw hff HPR
        go_wp2_with fail
        refine (HFX.out).mono ?_
        rintro e w7 ⟨rfl, hb7⟩
        have HB7 := Lib.hid (bel_to HB6.out hb7)
        clear hb7 HB6 HFX
        go_wp2_with fail
        refine (HAW.out _ HB7.out).mono ?_
        rintro e w12 ⟨rfl, hb12⟩
        have hbz := bel_to HB7.out hb12
        clear hb12 HB7
        go_wp2
        go_ret
        exact Ret.of rfl hbz
end W
end Go.Proofs.YtijpgddpejiohaaGreatDoor
end
section
namespace Go.Proofs.YtijpgddpejiohaaGreatDoor
open Go Go.RowKit Go.Deep Go.Sort
namespace W
open M Sx
attribute [local go_sem] bs_size bs_toList bs_get bs_extract bs_append bs_lit0 bs_lit1 lit1_bs
set_option maxHeartbeats 1000000
set_option maxRecDepth 20000
theorem moves_law (n : Int) (vl v0 v1 : Value) (l : List BT) (p0 p1 : List (List UInt8)) (w : World) (hg : Glob w) (hl : RdB w vl l) (h0 : RdT w v0 p0) (h1 : RdT w v1 p1)
    (nl : l.length ≤ maxLen) (sl : ∀ b ∈ l, b.1.length ≤ maxLen ∧ (∀ p ∈ b.1, p.length ≤ maxLen) ∧ b.2.length ≤ maxLen) (n0 : p0.length ≤ maxLen) (s0 : ∀ p ∈ p0, p.length ≤ maxLen) (n1 : p1.length ≤ maxLen) (s1 : ∀ p ∈ p1, p.length ≤ maxLen) :
    Calls Tryz.prog 3 #[.int .i64 n, vl, .agg #[v0, v1]] w (Ret w (.bool true)) := by
  have hrow := Row.new w 24 [v0, v1]
  have hal := (Below.refl w.heap.size w).alloc (Nat.le_refl _) (.cells #[v0, v1] 24)
  have hrt := fun W (hW : Below w.heap.size w W) => rright n vl l W (hl.below hW) nl sl
  have hs0 := fun W (hW : Below w.heap.size w W) => rshort5 v0 p0 W (h0.below hW) s0 n0
  have hs1 := fun W (hW : Below w.heap.size w W) => rshort5 v1 p1 W (h1.below hW) s1 n1
  have HAW := Lib.hid (fun W (hW : Below w.heap.size w W) => awake5 W (hg.of hW))
  by_cases q1 : rightV n l = true
  rotate_left
  · rw [Bool.not_eq_true] at q1
    rw [q1] at hrt
    obtain ⟨Al, cl, rfl⟩ := hl.len
    obtain ⟨A0, c0, rfl⟩ := h0.len
    obtain ⟨A1, c1, rfl⟩ := h1.len
    have HRT := Lib.hid hrt
    have HRW := Lib.hid (And.intro hrow hal)
    clear hrt hs0 hs1 nl sl n0 s0 n1 s1 q1
    clear hl h0 h1 hg hrow hal
    go_enter Tryz.func3, Tryz.ntmps3
    go_wp2_with fail
    obtain ⟨W0, hW0⟩ : ∃ V, V = w.alloc (.cells #[.slice A0 p0.length c0, .slice A1 p1.length c1] 24) := ⟨_, rfl⟩
    rw [← hW0] at HRW ⊢
    clear hW0
    have m0 := cell_regrown (HRW.out.1.cell (i := 0) rfl)
    have m1 := cell_regrown (HRW.out.1.cell (i := 1) rfl)
    refine wp_region_quiet_below (by kernel_rfl) (by kernel_rfl) ?_
    repeat (go_big_quiet_step (fail))
    refine wpQuiet_nil ?_
    intro W6 hw'
    have hb6 : Below W0.heap.size W0 W6 := by obtain ⟨p, e⟩ := hw'; rw [e]; exact below_regrown W0 p.d p.os
    clear hw'
    have HB0 := Lib.hid (bel_to HRW.out.2 hb6)
    clear hb6 m0 m1 HRW
    go_wp2_with fail
    refine (HRT.out _ HB0.out).mono ?_
    rintro e w1 ⟨rfl, hb1⟩
    have HB1 := Lib.hid (bel_to HB0.out hb1)
    clear hb1 HB0
    go_wp2_with fail
    refine (HAW.out _ HB1.out).mono ?_
    rintro e w9 ⟨rfl, hb9⟩
    have hbz := bel_to HB1.out hb9
    clear hb9
    go_wp2
    go_ret
    exact Ret.of rfl hbz
  rw [q1] at hrt
  by_cases q2 : ¬ (((p0.length : Nat) : Int) ≠ n)
  rotate_left
  · rw [Classical.not_not] at q2
    obtain ⟨Al, cl, rfl⟩ := hl.len
    obtain ⟨A0, c0, rfl⟩ := h0.len
    obtain ⟨A1, c1, rfl⟩ := h1.len
    have d1 : (((p0.length : Nat) : Int) != n) = true := by simpa using q2
    have HRT := Lib.hid hrt
    have HRW := Lib.hid (And.intro hrow hal)
    clear hrt hs0 hs1 nl sl n0 s0 n1 s1 q1 q2
    clear hl h0 h1 hg hrow hal
    go_enter Tryz.func3, Tryz.ntmps3
    go_wp2_with fail
    obtain ⟨W0, hW0⟩ : ∃ V, V = w.alloc (.cells #[.slice A0 p0.length c0, .slice A1 p1.length c1] 24) := ⟨_, rfl⟩
    rw [← hW0] at HRW ⊢
    clear hW0
    have m0 := cell_regrown (HRW.out.1.cell (i := 0) rfl)
    have m1 := cell_regrown (HRW.out.1.cell (i := 1) rfl)
    refine wp_region_quiet_below (by kernel_rfl) (by kernel_rfl) ?_
    repeat (go_big_quiet_step (fail))
    refine wpQuiet_nil ?_
    intro W6 hw'
    have hb6 : Below W0.heap.size W0 W6 := by obtain ⟨p, e⟩ := hw'; rw [e]; exact below_regrown W0 p.d p.os
    clear hw'
    have HB0 := Lib.hid (bel_to HRW.out.2 hb6)
    clear hb6 m0 m1 HRW
    go_wp2_with fail
    refine (HRT.out _ HB0.out).mono ?_
    rintro e w1 ⟨rfl, hb1⟩
    have HB1 := Lib.hid (bel_to HB0.out hb1)
    clear hb1 HB0
    go_wp2_with fail
    refine (HAW.out _ HB1.out).mono ?_
    rintro e w9 ⟨rfl, hb9⟩
    have hbz := bel_to HB1.out hb9
    clear hb9
    go_wp2
    go_ret
    exact Ret.of rfl hbz
  by_cases q3 : ¬ (((p1.length : Nat) : Int) ≠ n)
  rotate_left
  · rw [Classical.not_not] at q3
    obtain ⟨Al, cl, rfl⟩ := hl.len
    obtain ⟨A0, c0, rfl⟩ := h0.len
    obtain ⟨A1, c1, rfl⟩ := h1.len
    have d1 : (((p0.length : Nat) : Int) != n) = false := by simpa using q2
    have d2 : (((p1.length : Nat) : Int) != n) = true := by simpa using q3
    have HRT := Lib.hid hrt
    have HRW := Lib.hid (And.intro hrow hal)
    clear hrt hs0 hs1 nl sl n0 s0 n1 s1 q1 q2 q3
    clear hl h0 h1 hg hrow hal
    go_enter Tryz.func3, Tryz.ntmps3
    go_wp2_with fail
    obtain ⟨W0, hW0⟩ : ∃ V, V = w.alloc (.cells #[.slice A0 p0.length c0, .slice A1 p1.length c1] 24) := ⟨_, rfl⟩
    rw [← hW0] at HRW ⊢
    clear hW0
    have m0 := cell_regrown (HRW.out.1.cell (i := 0) rfl)
    have m1 := cell_regrown (HRW.out.1.cell (i := 1) rfl)
    refine wp_region_quiet_below (by kernel_rfl) (by kernel_rfl) ?_
    repeat (go_big_quiet_step (fail))
    refine wpQuiet_nil ?_
    intro W6 hw'
    have hb6 : Below W0.heap.size W0 W6 := by obtain ⟨p, e⟩ := hw'; rw [e]; exact below_regrown W0 p.d p.os
    clear hw'
    have HB0 := Lib.hid (bel_to HRW.out.2 hb6)
    clear hb6 m0 m1 HRW
    go_wp2_with fail
    refine (HRT.out _ HB0.out).mono ?_
    rintro e w1 ⟨rfl, hb1⟩
    have HB1 := Lib.hid (bel_to HB0.out hb1)
    clear hb1 HB0
    go_wp2_with fail
    refine (HAW.out _ HB1.out).mono ?_
    rintro e w9 ⟨rfl, hb9⟩
    have hbz := bel_to HB1.out hb9
    clear hb9
    go_wp2
    go_ret
    exact Ret.of rfl hbz
  by_cases q4 : short5 p0 = true
  rotate_left
  · rw [Bool.not_eq_true] at q4
    rw [q4] at hs0
    obtain ⟨Al, cl, rfl⟩ := hl.len
    obtain ⟨A0, c0, rfl⟩ := h0.len
    obtain ⟨A1, c1, rfl⟩ := h1.len
    have d1 : (((p0.length : Nat) : Int) != n) = false := by simpa using q2
    have d2 : (((p1.length : Nat) : Int) != n) = false := by simpa using q3
    have HRT := Lib.hid hrt
    have HS0 := Lib.hid hs0
    have HRW := Lib.hid (And.intro hrow hal)
    clear hrt hs0 hs1 nl sl n0 s0 n1 s1 q1 q2 q3 q4
    clear hl h0 h1 hg hrow hal
    go_enter Tryz.func3, Tryz.ntmps3
    go_wp2_with fail
    obtain ⟨W0, hW0⟩ : ∃ V, V = w.alloc (.cells #[.slice A0 p0.length c0, .slice A1 p1.length c1] 24) := ⟨_, rfl⟩
    rw [← hW0] at HRW ⊢
    clear hW0
    have m0 := cell_regrown (HRW.out.1.cell (i := 0) rfl)
    have m1 := cell_regrown (HRW.out.1.cell (i := 1) rfl)
    refine wp_region_quiet_below (by kernel_rfl) (by kernel_rfl) ?_
    repeat (go_big_quiet_step (fail))
    refine wpQuiet_nil ?_
    intro W6 hw'
    have hb6 : Below W0.heap.size W0 W6 := by obtain ⟨p, e⟩ := hw'; rw [e]; exact below_regrown W0 p.d p.os
    clear hw'
    have HB0 := Lib.hid (bel_to HRW.out.2 hb6)
    clear hb6 m0 m1 HRW
    go_wp2_with fail
    refine (HRT.out _ HB0.out).mono ?_
    rintro e w1 ⟨rfl, hb1⟩
    have HB1 := Lib.hid (bel_to HB0.out hb1)
    clear hb1 HB0
    go_wp2_with fail
    refine (HS0.out _ HB1.out).mono ?_
    rintro e w2 ⟨rfl, hb2⟩
    have HB2 := Lib.hid (bel_to HB1.out hb2)
    clear hb2 HB1
    go_wp2_with fail
    refine (HAW.out _ HB2.out).mono ?_
    rintro e w9 ⟨rfl, hb9⟩
    have hbz := bel_to HB2.out hb9
    clear hb9
    go_wp2
    go_ret
    exact Ret.of rfl hbz
  rw [q4] at hs0
  by_cases q5 : short5 p1 = true
  rotate_left
  · rw [Bool.not_eq_true] at q5
    rw [q5] at hs1
    obtain ⟨Al, cl, rfl⟩ := hl.len
    obtain ⟨A0, c0, rfl⟩ := h0.len
    obtain ⟨A1, c1, rfl⟩ := h1.len
    have d1 : (((p0.length : Nat) : Int) != n) = false := by simpa using q2
    have d2 : (((p1.length : Nat) : Int) != n) = false := by simpa using q3
    have HRT := Lib.hid hrt
    have HS0 := Lib.hid hs0
    have HS1 := Lib.hid hs1
    have HRW := Lib.hid (And.intro hrow hal)
    clear hrt hs0 hs1 nl sl n0 s0 n1 s1 q1 q2 q3 q4 q5
    clear hl h0 h1 hg hrow hal
    go_enter Tryz.func3, Tryz.ntmps3
    go_wp2_with fail
    obtain ⟨W0, hW0⟩ : ∃ V, V = w.alloc (.cells #[.slice A0 p0.length c0, .slice A1 p1.length c1] 24) := ⟨_, rfl⟩
    rw [← hW0] at HRW ⊢
    clear hW0
    have m0 := cell_regrown (HRW.out.1.cell (i := 0) rfl)
    have m1 := cell_regrown (HRW.out.1.cell (i := 1) rfl)
    refine wp_region_quiet_below (by kernel_rfl) (by kernel_rfl) ?_
    repeat (go_big_quiet_step (fail))
    refine wpQuiet_nil ?_
    intro W6 hw'
    have hb6 : Below W0.heap.size W0 W6 := by obtain ⟨p, e⟩ := hw'; rw [e]; exact below_regrown W0 p.d p.os
    clear hw'
    have HB0 := Lib.hid (bel_to HRW.out.2 hb6)
    clear hb6 m0 m1 HRW
    go_wp2_with fail
    refine (HRT.out _ HB0.out).mono ?_
    rintro e w1 ⟨rfl, hb1⟩
    have HB1 := Lib.hid (bel_to HB0.out hb1)
    clear hb1 HB0
    go_wp2_with fail
    refine (HS0.out _ HB1.out).mono ?_
    rintro e w2 ⟨rfl, hb2⟩
    have HB2 := Lib.hid (bel_to HB1.out hb2)
    clear hb2 HB1
    go_wp2_with fail
    refine (HS1.out _ HB2.out).mono ?_
    rintro e w3 ⟨rfl, hb3⟩
    have HB3 := Lib.hid (bel_to HB2.out hb3)
    clear hb3 HB2
    go_wp2_with fail
    refine (HAW.out _ HB3.out).mono ?_
    rintro e w9 ⟨rfl, hb9⟩
    have hbz := bel_to HB3.out hb9
    clear hb9
    go_wp2
    go_ret
    exact Ret.of rfl hbz
  rw [q5] at hs1
  have hn0 := fun W (hW : Below w.heap.size w W) => rnumbers v0 p0 W (h0.below hW) (fun p hp => by have := (short5_len q4).1 p hp; omega) (by have := (short5_len q4).2; omega)
  have hn1 := fun W (hW : Below w.heap.size w W) => rnumbers v1 p1 W (h1.below hW) (fun p hp => by have := (short5_len q5).1 p hp; omega) (by have := (short5_len q5).2; omega)
  by_cases q6 : chkRs p0 = 0
  rotate_left
  · have hz : (((chkRs p0 : Nat) : Int) != 0) = true := by simp; exact q6
    generalize ((chkRs p0 : Nat) : Int) = zz at *
    obtain ⟨Al, cl, rfl⟩ := hl.len
    obtain ⟨A0, c0, rfl⟩ := h0.len
    obtain ⟨A1, c1, rfl⟩ := h1.len
    have d1 : (((p0.length : Nat) : Int) != n) = false := by simpa using q2
    have d2 : (((p1.length : Nat) : Int) != n) = false := by simpa using q3
    have HRT := Lib.hid hrt
    have HS0 := Lib.hid hs0
    have HS1 := Lib.hid hs1
    have HN0 := Lib.hid hn0
    have HRW := Lib.hid (And.intro hrow hal)
    clear hrt hs0 hs1 hn0 hn1 nl sl n0 s0 n1 s1 q1 q2 q3 q4 q5 q6
    clear hl h0 h1 hg hrow hal
    go_enter Tryz.func3, Tryz.ntmps3
    go_wp2_with fail
    obtain ⟨W0, hW0⟩ : ∃ V, V = w.alloc (.cells #[.slice A0 p0.length c0, .slice A1 p1.length c1] 24) := ⟨_, rfl⟩
    rw [← hW0] at HRW ⊢
    clear hW0
    have m0 := cell_regrown (HRW.out.1.cell (i := 0) rfl)
    have m1 := cell_regrown (HRW.out.1.cell (i := 1) rfl)
    refine wp_region_quiet_below (by kernel_rfl) (by kernel_rfl) ?_
    repeat (go_big_quiet_step (fail))
    refine wpQuiet_nil ?_
    intro W6 hw'
    have hb6 : Below W0.heap.size W0 W6 := by obtain ⟨p, e⟩ := hw'; rw [e]; exact below_regrown W0 p.d p.os
    clear hw'
    have HB0 := Lib.hid (bel_to HRW.out.2 hb6)
    clear hb6 m0 m1 HRW
    go_wp2_with fail
    refine (HRT.out _ HB0.out).mono ?_
    rintro e w1 ⟨rfl, hb1⟩
    have HB1 := Lib.hid (bel_to HB0.out hb1)
    clear hb1 HB0
    go_wp2_with fail
    refine (HS0.out _ HB1.out).mono ?_
    rintro e w2 ⟨rfl, hb2⟩
    have HB2 := Lib.hid (bel_to HB1.out hb2)
    clear hb2 HB1
    go_wp2_with fail
    refine (HS1.out _ HB2.out).mono ?_
    rintro e w3 ⟨rfl, hb3⟩
    have HB3 := Lib.hid (bel_to HB2.out hb3)
    clear hb3 HB2
    go_wp2_with fail
    refine (HN0.out _ HB3.out).mono ?_
    rintro e w4 ⟨rfl, hb4⟩
    have HB4 := Lib.hid (bel_to HB3.out hb4)
    clear hb4 HB3
    go_wp2_with fail
    refine (HAW.out _ HB4.out).mono ?_
    rintro e w9 ⟨rfl, hb9⟩
    have hbz := bel_to HB4.out hb9
    clear hb9
    go_wp2
    go_ret
    exact Ret.of rfl hbz
  by_cases q7 : chkRs p1 = 0
  rotate_left
  · have hz : (((chkRs p1 : Nat) : Int) != 0) = true := by simp; exact q7
    rw [q6] at hn0
    generalize ((chkRs p1 : Nat) : Int) = zz at *
    obtain ⟨Al, cl, rfl⟩ := hl.len
    obtain ⟨A0, c0, rfl⟩ := h0.len
    obtain ⟨A1, c1, rfl⟩ := h1.len
    have d1 : (((p0.length : Nat) : Int) != n) = false := by simpa using q2
    have d2 : (((p1.length : Nat) : Int) != n) = false := by simpa using q3
    have HRT := Lib.hid hrt
    have HS0 := Lib.hid hs0
    have HS1 := Lib.hid hs1
    have HN0 := Lib.hid hn0
    have HN1 := Lib.hid hn1
    have HRW := Lib.hid (And.intro hrow hal)
    clear hrt hs0 hs1 hn0 hn1 nl sl n0 s0 n1 s1 q1 q2 q3 q4 q5 q6 q7
    clear hl h0 h1 hg hrow hal
    go_enter Tryz.func3, Tryz.ntmps3
    go_wp2_with fail
    obtain ⟨W0, hW0⟩ : ∃ V, V = w.alloc (.cells #[.slice A0 p0.length c0, .slice A1 p1.length c1] 24) := ⟨_, rfl⟩
    rw [← hW0] at HRW ⊢
    clear hW0
    have m0 := cell_regrown (HRW.out.1.cell (i := 0) rfl)
    have m1 := cell_regrown (HRW.out.1.cell (i := 1) rfl)
    refine wp_region_quiet_below (by kernel_rfl) (by kernel_rfl) ?_
    repeat (go_big_quiet_step (fail))
    refine wpQuiet_nil ?_
    intro W6 hw'
    have hb6 : Below W0.heap.size W0 W6 := by obtain ⟨p, e⟩ := hw'; rw [e]; exact below_regrown W0 p.d p.os
    clear hw'
    have HB0 := Lib.hid (bel_to HRW.out.2 hb6)
    clear hb6 m0 m1 HRW
    go_wp2_with fail
    refine (HRT.out _ HB0.out).mono ?_
    rintro e w1 ⟨rfl, hb1⟩
    have HB1 := Lib.hid (bel_to HB0.out hb1)
    clear hb1 HB0
    go_wp2_with fail
    refine (HS0.out _ HB1.out).mono ?_
    rintro e w2 ⟨rfl, hb2⟩
    have HB2 := Lib.hid (bel_to HB1.out hb2)
    clear hb2 HB1
    go_wp2_with fail
    refine (HS1.out _ HB2.out).mono ?_
    rintro e w3 ⟨rfl, hb3⟩
    have HB3 := Lib.hid (bel_to HB2.out hb3)
    clear hb3 HB2
    go_wp2_with fail
    refine (HN0.out _ HB3.out).mono ?_
    rintro e w4 ⟨rfl, hb4⟩
    have HB4 := Lib.hid (bel_to HB3.out hb4)
    clear hb4 HB3
    go_wp2_with fail
    refine (HN1.out _ HB4.out).mono ?_
    rintro e w5 ⟨rfl, hb5⟩
    have HB5 := Lib.hid (bel_to HB4.out hb5)
    clear hb5 HB4
    go_wp2_with fail
    refine (HAW.out _ HB5.out).mono ?_
    rintro e w9 ⟨rfl, hb9⟩
    have hbz := bel_to HB5.out hb9
    clear hb9
    go_wp2
    go_ret
    exact Ret.of rfl hbz
  rw [q6] at hn0
  rw [q7] at hn1
  clear hrow hal HAW nl sl n0 s0 n1 s1
  unfold rightV at q1
  rw [Bool.and_eq_true, decide_eq_true_eq] at q1
  obtain ⟨k, zl, rfl, rfl, hr, hf⟩ := few_rightS q1.1 q1.2
  obtain ⟨zb, rfl, hbq⟩ := short_sq q4 q6
  obtain ⟨zg, rfl, hgq⟩ := short_sq q5 q7
  rw [rx_len] at q2 q3
  exact moves_main k zl zb zg vl v0 v1 w hg hl h0 h1 hr hf (by omega) hbq (by omega) hgq hrt hs0 hs1 hn0 hn1
end W
end Go.Proofs.YtijpgddpejiohaaGreatDoor
end
