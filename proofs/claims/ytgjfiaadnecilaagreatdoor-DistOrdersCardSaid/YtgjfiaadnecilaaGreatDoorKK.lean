/-
  Chapter 26: 'Few', 'Short', and what both sides return for few elements.
  Chapter 26: the laws 'DistMeasures' and 'DistPlaces', walked.
-/
import Derived.Test.YtgjfiaadnecilaaGreatDoorKJ
namespace Go.Proofs.YtgjfiaadnecilaaGreatDoor
open Go Go.RowKit Go.Deep
namespace M
/-- Few elements with short weights, or too many. -/
def fewB (l : List WT) : Bool := (l.take 13).all (fun x => decide (x.2.length ≤ 20)) && (decide (l.length ≤ 12) || (decide (4096 < l.length) && decide (l.length < 8192)))
def shortB (p : List UInt8) : Bool := decide ((cutN p).length ≤ 30) && decide ((cutD p).length ≤ 30)
end M
namespace W
open M
attribute [local go_sem] bs_size bs_toList bs_get bs_extract bs_append bs_lit0 bs_lit1 lit1_bs
set_option maxHeartbeats 1000000
set_option maxRecDepth 20000
theorem few_end (n : Nat) (hn : n ≤ 9223372036854775807) : (decide ((n : Int) ≤ 12) || (decide (4096 < (n : Int)) && decide ((n : Int) < 8192))) = (decide (n ≤ 12) || (decide (4096 < n) && decide (n < 8192))) := by
  have a : decide ((n : Int) ≤ 12) = decide (n ≤ 12) := by rw [decide_eq_decide]; omega
  have b : decide (4096 < (n : Int)) = decide (4096 < n) := by rw [decide_eq_decide]; omega
  have c : decide ((n : Int) < 8192) = decide (n < 8192) := by rw [decide_eq_decide]; omega
  rw [a, b, c]
theorem few_tail (l : List WT) (h : (l.take 13).all (fun x => decide (x.2.length ≤ 20)) = true) : fewB l = (decide (l.length ≤ 12) || (decide (4096 < l.length) && decide (l.length < 8192))) := by
  unfold fewB; rw [h, Bool.true_and]
theorem few_some (l : List WT) (b o cap : Nat) (w : World) (hw : WSl w b o l) (hn : l.length ≤ maxLen) (hs : ∀ x ∈ l, x.2.length ≤ maxLen) :
    Calls Tryz.prog 11 #[.slice (some ⟨b, o, none⟩) l.length cap] w (fun e w' => e = .returned (.bool (fewB l)) ∧ w = w') := by
  unfold maxLen at hn hs
  have HW := Lib.hid hw
  have HS := Lib.hid hs
  have hle := few_end l.length hn
  have HLE := Lib.hid hle
  have HTL := Lib.hid (few_tail l)
  generalize hfb : fewB l = fb
  have HFB := Lib.hid hfb
  clear hw hs hle hfb
  go_enter Tryz.func11, Tryz.ntmps11
  go_wp2
  go_loop [3] (fun iv => ∃ i : Nat, iv = .int .i64 (i : Int) ∧ i ≤ l.length ∧ i ≤ 13 ∧ Hid ((l.take i).all (fun x => decide (x.2.length ≤ 20)) = true)) (fun iv => 14 - (intOf iv).toNat)
  case atStart => exact ⟨0, rfl, by omega, by omega, rfl⟩
  case round =>
    obtain ⟨i, rfl, hi, hi13, hk⟩ := hrel
    by_cases hlt : i < l.length
    · by_cases h13 : i < 13
      · have cw := HW.out.wt i hlt
        have hsl := HS.out _ (List.getElem_mem hlt)
        by_cases hlen : l[i].2.length ≤ 20
        · have hk2 : Hid ((l.take (i + 1)).all (fun x => decide (x.2.length ≤ 20)) = true) := by
            rw [List.take_succ_eq_append_getElem hlt, List.all_append, hk.out]; simp [hlen, Hid]
          clear hk
          go_wp2
          go_round
          case rel => exact ⟨i + 1, by go_num, by omega, by omega, hk2⟩
          case measure => simp [intOf]; omega
        · have hfin : fb = false := by
            rw [← HFB.out]
            unfold fewB
            have : (l.take 13).all (fun x => decide (x.2.length ≤ 20)) = false := by
              rw [List.all_eq_false]
              refine ⟨l[i], ?_, by simpa using hlen⟩
              rw [List.mem_take_iff_getElem]
              exact ⟨i, by omega, rfl⟩
            rw [this, Bool.false_and]
          have HF := Lib.hid hfin
          clear hk hfin
          go_wp2
          go_ret
          exact ⟨by rw [HF.out]; rfl, rfl⟩
      · obtain rfl : i = 13 := by omega
        have hfin := HTL.out hk.out
        rw [HFB.out, ← HLE.out] at hfin
        have HF := Lib.hid hfin
        clear hk hfin
        by_cases h12 : l.length ≤ 12
        · omega
        · have d1 : decide ((l.length : Int) ≤ 12) = false := by simp; omega
          by_cases h40 : 4096 < l.length
          · have d2 : decide (4096 < (l.length : Int)) = true := by simp; omega
            rw [d1, d2] at HF
            clear h12 h40
            go_wp2
            go_ret
            exact ⟨by rw [HF.out]; simp, rfl⟩
          · have d2 : decide (4096 < (l.length : Int)) = false := by simp; omega
            rw [d1, d2] at HF
            clear h12 h40
            go_wp2
            go_ret
            exact ⟨by rw [HF.out]; rfl, rfl⟩
    · obtain rfl : i = l.length := by omega
      have hall : (l.take 13).all (fun x => decide (x.2.length ≤ 20)) = true := by
        have := hk.out
        rw [List.take_length] at this
        rw [List.take_of_length_le hi13]; exact this
      have hfin := HTL.out hall
      rw [HFB.out, ← HLE.out] at hfin
      have HF := Lib.hid hfin
      clear hk hfin hall
      by_cases h12 : l.length ≤ 12
      · have d1 : decide ((l.length : Int) ≤ 12) = true := by simp; omega
        rw [d1] at HF
        go_wp2
        go_ret
        exact ⟨by rw [HF.out]; rfl, rfl⟩
      · have d1 : decide ((l.length : Int) ≤ 12) = false := by simp; omega
        have d2 : decide (4096 < (l.length : Int)) = false := by simp; omega
        rw [d1, d2] at HF
        clear h12
        go_wp2
        go_ret
        exact ⟨by rw [HF.out]; rfl, rfl⟩
theorem few_any (v : Value) (l : List WT) (w : World) (hv : RdW w v l) (hn : l.length ≤ maxLen) (hs : ∀ x ∈ l, x.2.length ≤ maxLen) :
    Calls Tryz.prog 11 #[v] w (fun e w' => e = .returned (.bool (fewB l)) ∧ w = w') := by
  obtain ⟨A, cap, rfl, h⟩ := hv
  rcases h with rfl | ⟨b, o, rfl, hw⟩
  · have hfb : fewB [] = true := rfl
    rw [hfb]
    go_enter Tryz.func11, Tryz.ntmps11
    go_wp2
    refine wp_loop_rounds 1 ?_
    rw [rounds_succ]
    go_wp2
    go_ret
    exact ⟨rfl, rfl⟩
  · exact few_some l b o cap w hw hn hs
theorem short_any (p : List UInt8) (w : World) (hl : p.length ≤ 1000000000000000) :
    Calls Tryz.prog 12 #[.string (bs p)] w (Ret w (.bool (shortB p))) := by
  have HS := Lib.hid (split_any p w hl)
  have hn := cutN_len p
  have hd := cutD_len p
  unfold shortB
  generalize cutN p = a at *
  generalize cutD p = b at *
  by_cases h1 : a.length ≤ 30
  · by_cases h2 : b.length ≤ 30
    · rw [decide_eq_true h1, decide_eq_true h2]
      have d2 : decide ((b.length : Int) ≤ 30) = true := by simp; omega
      go_enter Tryz.func12, Tryz.ntmps12
      go_wp2_with fail
      refine (HS.out).mono ?_
      rintro e w1 ⟨rfl, hb1⟩
      go_wp2
      go_ret
      exact Ret.of rfl hb1
    · rw [decide_eq_true h1, decide_eq_false h2]
      have d2 : decide ((b.length : Int) ≤ 30) = false := by simp; omega
      go_enter Tryz.func12, Tryz.ntmps12
      go_wp2_with fail
      refine (HS.out).mono ?_
      rintro e w1 ⟨rfl, hb1⟩
      go_wp2
      go_ret
      exact Ret.of rfl hb1
  · rw [decide_eq_false h1]
    have d1 : decide ((a.length : Int) ≤ 30) = false := by simp; omega
    go_enter Tryz.func12, Tryz.ntmps12
    go_wp2_with fail
    refine (HS.out).mono ?_
    rintro e w1 ⟨rfl, hb1⟩
    go_wp2
    go_ret
    exact Ret.of (by simp) hb1
end W
end Go.Proofs.YtgjfiaadnecilaaGreatDoor
namespace Go.Proofs.YtgjfiaadnecilaaGreatDoor
open Go Go.RowKit Go.Deep
namespace M
theorem fewB_true {l : List WT} (h : fewB l = true) : (l.length ≤ 12 ∧ ∀ x ∈ l, x.2.length ≤ 20) ∨ 4096 < l.length := by
  unfold fewB at h
  rw [Bool.and_eq_true, Bool.or_eq_true, Bool.and_eq_true, decide_eq_true_eq, decide_eq_true_eq, decide_eq_true_eq] at h
  obtain ⟨h1, h2⟩ := h
  rcases h2 with h2 | h2
  · left
    refine ⟨h2, fun x hx => ?_⟩
    rw [List.take_of_length_le (by omega), List.all_eq_true] at h1
    simpa using h1 x hx
  · exact Or.inr h2.1
theorem I_short {z : Int} {k : Nat} (h : (I z).length ≤ k) (hk : 1 ≤ k) : z.natAbs < 10 ^ k := (D_len_le hk).1 (Nat.le_trans (D_le_I z) h)
theorem good_few {l : List WT} (hl : l.length ≤ 12) (hs : ∀ x ∈ l, x.2.length ≤ 20) (h : chk26 l = 0) : ∃ zl, l = tx zl ∧ GoodL zl ∧ zl.length ≤ 12 ∧ ∀ x ∈ zl, x.2.natAbs < 10 ^ 20 := by
  obtain ⟨zl, e, hr, hn, _⟩ := chk26_right h
  subst e
  rw [tx_len] at hl
  have hb : ∀ x ∈ zl, x.2.natAbs < 10 ^ 20 := fun x hx => I_short (hs (x.1, I x.2) (List.mem_map.2 ⟨x, hx, rfl⟩)) (by decide)
  exact ⟨zl, rfl, ⟨hr, hn, by omega, fun x hx => pow_up (hb x hx) (by decide)⟩, hl, hb⟩
theorem short_num {p : List UInt8} (h : shortB p = true) : p.length ≤ 61 := by
  unfold shortB at h
  rw [Bool.and_eq_true, decide_eq_true_eq, decide_eq_true_eq] at h
  by_cases hc : p.contains 47 = true
  · have e := congrArg List.length (cut_back hc)
    simp at e; omega
  · have hn : ∀ c ∈ p, c ≠ (47 : UInt8) := fun c hm e => hc (by rw [e] at hm; simpa using hm)
    rw [cutN_none hn] at h; omega
theorem short_R {p : List UInt8} (h : shortB p = true) (h0 : chkR p = 0) : ∃ q, p = R q ∧ Bq 30 q := by
  obtain ⟨q, rfl, _, _⟩ := chkR_form h0
  unfold shortB at h
  rw [Bool.and_eq_true, decide_eq_true_eq, decide_eq_true_eq, R_cutN, R_cutD] at h
  refine ⟨q, rfl, I_short h.1 (by decide), ?_⟩
  have := I_short h.2 (by decide)
  rwa [Int.natAbs_natCast] at this
end M
namespace W
open M
attribute [local go_sem] bs_size bs_toList bs_get bs_extract bs_append bs_lit0 bs_lit1 lit1_bs
set_option maxHeartbeats 1000000
set_option maxRecDepth 20000
/-- Two functions return the same. -/
def Both (f g : Nat) (args : Array Value) (r : Value) (w : World) : Prop := (∀ wx, Below w.heap.size w wx → Calls Tryz.prog f args wx (Ret wx r)) ∧ (∀ wx, Below w.heap.size w wx → Calls Tryz.prog g args wx (Ret wx r))
theorem chk_pair (v : Value) (l : List WT) (w : World) (hg : Glob w) (hv : RdW w v l) (hn : l.length ≤ maxLen) (hf : fewB l = true) :
    ∃ c : Nat, ChkD v c w ∧ ChkE v c w ∧ (c = 0 → ∃ zl b o cap, v = .slice (some ⟨b, o, none⟩) zl.length cap ∧ WSl w b o (tx zl) ∧ GoodL zl ∧ zl.length ≤ 12 ∧ ∀ x ∈ zl, x.2.natAbs < 10 ^ 20) := by
  obtain ⟨A, cap, rfl, h⟩ := hv
  rcases fewB_true hf with ⟨h12, hs⟩ | hbig
  · rcases h with rfl | ⟨b, o, rfl, hw⟩
    · exact ⟨13, fun wx _ => dcheck_len A 0 cap wx (Or.inl rfl) (Nat.zero_le _), fun wx _ => rcheck_len A 0 cap wx (Or.inl rfl) (Nat.zero_le _), fun h => by cases h⟩
    · by_cases hne : l = []
      · subst hne
        exact ⟨13, fun wx _ => dcheck_len _ 0 cap wx (Or.inl rfl) (Nat.zero_le _), fun wx _ => rcheck_len _ 0 cap wx (Or.inl rfl) (Nat.zero_le _), fun h => by cases h⟩
      · have hs2 : ∀ x ∈ l, x.2.length ≤ 90000 := fun x hx => by have := hs x hx; omega
        refine ⟨chkW none l, fun wx hx => dcheck_some l b o cap wx (hg.of hx) (hw.below' hx) hne (by omega) hs2, fun wx hx => rcheck_some l b o cap wx (hw.below' hx) hne (by omega) hs2, fun h0 => ?_⟩
        have hpos := List.length_pos_iff.2 hne
        obtain ⟨zl, e, hgd, hl12, hb⟩ := good_few h12 hs (by unfold chk26; rw [if_neg (by omega), if_neg (by omega)]; exact h0)
        subst e
        rw [M.tx_len]
        exact ⟨zl, b, o, cap, rfl, hw, hgd, hl12, hb⟩
  · refine ⟨5, fun wx _ => ?_, fun wx _ => ?_, fun h => by cases h⟩
    · have := dcheck_len A l.length cap wx (Or.inr hbig) hn
      rwa [if_neg (by omega)] at this
    · have := rcheck_len A l.length cap wx (Or.inr hbig) hn
      rwa [if_neg (by omega)] at this
theorem meas_pair (v : Value) (l : List WT) (w : World) (hg : Glob w) (hv : RdW w v l) (hn : l.length ≤ maxLen) (hf : fewB l = true) :
    ∃ (c : Nat) (s1 s2 s3 : List UInt8), ChkD v c w ∧ ChkE v c w ∧
      Both 18 19 #[v] (.tuple #[.string (bs s1), .int .i64 (c : Int)]) w ∧
      Both 20 21 #[v] (.tuple #[.string (bs s2), .int .i64 (c : Int)]) w ∧
      Both 22 23 #[v] (.tuple #[.string (bs s3), .int .i64 (c : Int)]) w := by
  obtain ⟨c, hd, he, h0⟩ := chk_pair v l w hg hv hn hf
  by_cases hc : c = 0
  · subst hc
    obtain ⟨zl, b, o, cap, rfl, hw, hgd, _, _⟩ := h0 rfl
    exact ⟨0, I (tot zl), R (meanQ zl), R (varQ zl), hd, he,
      ⟨fun wx hx => total_ok zl b o cap wx (hg.of hx) (hw.below' hx) hgd, fun wx hx => rtotal_ok zl b o cap wx (hw.below' hx) hgd⟩,
      ⟨fun wx hx => mean_ok zl b o cap wx (hg.of hx) (hw.below' hx) hgd, fun wx hx => rmean_ok zl b o cap wx (hw.below' hx) hgd⟩,
      ⟨fun wx hx => variance_ok zl b o cap wx (hg.of hx) (hw.below' hx) hgd, fun wx hx => rvariance_ok zl b o cap wx (hw.below' hx) hgd⟩⟩
  · exact ⟨c, [], [], [], hd, he,
      ⟨fun wx hx => total_bad v c wx (hd.below hx) hc, fun wx hx => rtotal_bad v c wx (he.below hx) hc⟩,
      ⟨fun wx hx => mean_bad v c wx (hd.below hx) hc, fun wx hx => rmean_bad v c wx (he.below hx) hc⟩,
      ⟨fun wx hx => variance_bad v c wx (hd.below hx) hc, fun wx hx => rvariance_bad v c wx (he.below hx) hc⟩⟩
theorem measures_law (v : Value) (l : List WT) (w : World) (hg : Glob w) (hv : RdW w v l) (hn : l.length ≤ maxLen) (hs : ∀ x ∈ l, x.2.length ≤ maxLen) :
    Calls Tryz.prog 4 #[v] w (Ret w (.bool true)) := by
  have HF := Lib.hid (few_any v l w hv hn hs)
  have HAW := Lib.hid (fun wx hgx => awake_ok wx hgx)
  by_cases hf : fewB l = true
  · obtain ⟨c, s1, s2, s3, hd, he, ⟨t1, t2⟩, ⟨m1, m2⟩, ⟨v1, v2⟩⟩ := meas_pair v l w hg hv hn hf
    rw [hf] at HF
    have HD := Lib.hid hd
    have HE := Lib.hid he
    have T1 := Lib.hid t1
    have T2 := Lib.hid t2
    have M1 := Lib.hid m1
    have M2 := Lib.hid m2
    have V1 := Lib.hid v1
    have V2 := Lib.hid v2
    clear hd he t1 t2 m1 m2 v1 v2 hv hn hs hf
    go_enter Tryz.func4, Tryz.ntmps4
    go_wp2_with fail
    refine (HF.out).mono ?_
    rintro e w' ⟨rfl, rfl⟩
    go_wp2_with fail
    refine (T1.out _ (Below.refl _ _)).mono ?_
    rintro e w1 ⟨rfl, hb1⟩
    go_wp2_with fail
    refine (T2.out _ hb1).mono ?_
    rintro e w2 ⟨rfl, hb2⟩
    have hb2 := Below.then hb1 hb2
    go_wp2_with fail
    refine (M1.out _ hb2).mono ?_
    rintro e w3 ⟨rfl, hb3⟩
    have hb3 := Below.then hb2 hb3
    go_wp2_with fail
    refine (M2.out _ hb3).mono ?_
    rintro e w4 ⟨rfl, hb4⟩
    have hb4 := Below.then hb3 hb4
    go_wp2_with fail
    refine (V1.out _ hb4).mono ?_
    rintro e w5 ⟨rfl, hb5⟩
    have hb5 := Below.then hb4 hb5
    go_wp2_with fail
    refine (V2.out _ hb5).mono ?_
    rintro e w6 ⟨rfl, hb6⟩
    have hb6 := Below.then hb5 hb6
    go_wp2_with fail
    refine (HAW.out _ (hg.of hb6)).mono ?_
    rintro e w7 ⟨rfl, hb7⟩
    have hb7 := Below.then hb6 hb7
    go_wp2_with fail
    refine (HD.out _ hb7).mono ?_
    rintro e w8 ⟨rfl, hb8⟩
    have hb8 := Below.then hb7 hb8
    go_wp2_with fail
    refine (HE.out _ hb8).mono ?_
    rintro e w9 ⟨rfl, hb9⟩
    have hb9 := Below.then hb8 hb9
    go_wp2
    go_ret
    exact Ret.of (by simp) hb9
  · rw [Bool.eq_false_iff.2 hf] at HF
    clear hv hn hs hf
    go_enter Tryz.func4, Tryz.ntmps4
    go_wp2_with fail
    refine (HF.out).mono ?_
    rintro e w' ⟨rfl, rfl⟩
    go_wp2_with fail
    refine (HAW.out _ hg).mono ?_
    rintro e w1 ⟨rfl, hb1⟩
    go_wp2
    go_ret
    exact Ret.of rfl hb1
theorem place_pair (v : Value) (l : List WT) (lo hi : Int) (p : List UInt8) (w : World) (hg : Glob w) (hv : RdW w v l) (hn : l.length ≤ maxLen) (hf : fewB l = true) (hp : shortB p = true) :
    ∃ (c d : Nat) (s : List UInt8) (z : Int),
      Both 14 15 #[v, .agg #[.int .i64 lo, .int .i64 hi]] (.tuple #[.string (bs s), .int .i64 (c : Int)]) w ∧
      Both 16 17 #[v, .string (bs p)] (.tuple #[.int .i64 z, .int .i64 (d : Int)]) w := by
  obtain ⟨c, hd, he, h0⟩ := chk_pair v l w hg hv hn hf
  have hpl := short_num hp
  by_cases hc : c = 0
  · subst hc
    obtain ⟨zl, b, o, cap, rfl, hw, hgd, _, _⟩ := h0 rfl
    obtain ⟨cp, s, hP⟩ : ∃ (c : Nat) (s : List UInt8), Both 14 15 #[.slice (some ⟨b, o, none⟩) zl.length cap, .agg #[.int .i64 lo, .int .i64 hi]] (.tuple #[.string (bs s), .int .i64 (c : Int)]) w := by
      by_cases hle : lo ≤ hi
      · exact ⟨0, _, fun wx hx => probability_ok zl b o cap lo hi wx (hg.of hx) (hw.below' hx) hgd hle, fun wx hx => rprobability_ok zl b o cap lo hi wx (hw.below' hx) hgd hle⟩
      · exact ⟨9, [], fun wx hx => probability_order _ lo hi wx (hd.below hx) (by omega), fun wx hx => rprobability_order _ lo hi wx (he.below hx) (by omega)⟩
    by_cases hq : chkR p = 0
    · obtain ⟨q, rfl, hb⟩ := short_R hp hq
      by_cases hu : Un q
      · exact ⟨cp, 0, s, quanV zl q, hP, fun wx hx => quantile_ok zl b o cap q wx (hg.of hx) (hw.below' hx) hgd hb hu, fun wx hx => rquantile_ok zl b o cap q wx (hw.below' hx) hgd hb hu⟩
      · exact ⟨cp, 2, s, 0, hP, fun wx hx => quantile_range _ q wx (hg.of hx) (hd.below hx) hb hu, fun wx hx => rquantile_range _ q wx (he.below hx) hb hu⟩
    · exact ⟨cp, chkR p, s, 0, hP, fun wx hx => quantile_form _ p wx (hg.of hx) (hd.below hx) (by omega) hq, fun wx hx => rquantile_form _ p wx (he.below hx) (by omega) hq⟩
  · exact ⟨c, c, [], 0, ⟨fun wx hx => probability_bad v c lo hi wx (hd.below hx) hc, fun wx hx => rprobability_bad v c lo hi wx (he.below hx) hc⟩,
      ⟨fun wx hx => quantile_bad v p c wx (hd.below hx) hc, fun wx hx => rquantile_bad v p c wx (he.below hx) hc⟩⟩
theorem places_law (v : Value) (l : List WT) (lo hi : Int) (p : List UInt8) (w : World) (hg : Glob w) (hv : RdW w v l) (hn : l.length ≤ maxLen) (hs : ∀ x ∈ l, x.2.length ≤ maxLen) (hp : p.length ≤ 1000000000000000) :
    Calls Tryz.prog 3 #[v, .agg #[.int .i64 lo, .int .i64 hi], .string (bs p)] w (Ret w (.bool true)) := by
  have hrn := (Row.new w 24 [.int .i64 lo, .int .i64 hi])
  have hb0 : Below w.heap.size w (w.alloc (.cells #[.int .i64 lo, .int .i64 hi] 24)) := (Below.refl _ _).alloc (Nat.le_refl _) _
  have HF := Lib.hid (few_any v l _ (hv.below hb0) hn hs)
  have HAW := Lib.hid (fun wx hgx => awake_ok wx hgx)
  have HSH := Lib.hid (fun wx => short_any p wx hp)
  by_cases hf : fewB l = true
  · rw [hf] at HF
    by_cases hsh : shortB p = true
    · obtain ⟨c, d, s, z, ⟨p1, p2⟩, ⟨q1, q2⟩⟩ := place_pair v l lo hi p w hg hv hn hf hsh
      rw [hsh] at HSH
      have P1 := Lib.hid p1
      have P2 := Lib.hid p2
      have Q1 := Lib.hid q1
      have Q2 := Lib.hid q2
      have HRN := Lib.hid hrn
      clear p1 p2 q1 q2 hv hn hs hf hsh hrn
      go_enter Tryz.func3, Tryz.ntmps3
      go_wp2_with fail
      refine (HF.out).mono ?_
      rintro e w' ⟨rfl, rfl⟩
      go_wp2_with fail
      refine (HSH.out _).mono ?_
      rintro e w1 ⟨rfl, hb1⟩
      have hr1 := HRN.out.below' hb1
      have c0 := hr1.cell (i := 0) rfl
      have c1 := hr1.cell (i := 1) rfl
      have hb1 := hb0.trans (hb1.mono hb0.size)
      go_wp2_with fail
      refine (P1.out _ hb1).mono ?_
      rintro e w2 ⟨rfl, hb2⟩
      have hr2 := hr1.below' hb2
      have c0 := hr2.cell (i := 0) rfl
      have c1 := hr2.cell (i := 1) rfl
      have hb2 := Below.then hb1 hb2
      go_wp2_with fail
      refine (P2.out _ hb2).mono ?_
      rintro e w3 ⟨rfl, hb3⟩
      have hb3 := Below.then hb2 hb3
      go_wp2_with fail
      refine (Q1.out _ hb3).mono ?_
      rintro e w4 ⟨rfl, hb4⟩
      have hb4 := Below.then hb3 hb4
      go_wp2_with fail
      refine (Q2.out _ hb4).mono ?_
      rintro e w5 ⟨rfl, hb5⟩
      have hb5 := Below.then hb4 hb5
      go_wp2_with fail
      refine (HAW.out _ (hg.of hb5)).mono ?_
      rintro e w6 ⟨rfl, hb6⟩
      have hb6 := Below.then hb5 hb6
      go_wp2
      go_ret
      exact Ret.of (by simp) hb6
    · rw [Bool.eq_false_iff.2 hsh] at HSH
      clear hv hn hs hf hsh hrn
      go_enter Tryz.func3, Tryz.ntmps3
      go_wp2_with fail
      refine (HF.out).mono ?_
      rintro e w' ⟨rfl, rfl⟩
      go_wp2_with fail
      refine (HSH.out _).mono ?_
      rintro e w1 ⟨rfl, hb1⟩
      have hb1 := hb0.trans (hb1.mono hb0.size)
      go_wp2_with fail
      refine (HAW.out _ (hg.of hb1)).mono ?_
      rintro e w2 ⟨rfl, hb2⟩
      go_wp2
      go_ret
      exact Ret.of rfl (Below.then hb1 hb2)
  · rw [Bool.eq_false_iff.2 hf] at HF
    clear hv hn hs hf hrn
    go_enter Tryz.func3, Tryz.ntmps3
    go_wp2_with fail
    refine (HF.out).mono ?_
    rintro e w' ⟨rfl, rfl⟩
    go_wp2_with fail
    refine (HAW.out _ (hg.of hb0)).mono ?_
    rintro e w2 ⟨rfl, hb2⟩
    have hb2 := hb0.trans (hb2.mono hb0.size)
    go_wp2
    go_ret
    exact Ret.of rfl hb2
end W
end Go.Proofs.YtgjfiaadnecilaaGreatDoor
