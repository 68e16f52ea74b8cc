/-
  Chapter 5: 'Check' of the program.
  Chapter 5: lists of texts that are made by 'append'; 'Check' of the reference.
  Chapter 5: the sum of products, on both sides.
  Chapter 5: which bounds a point keeps; 'Verify' on both sides.
  Chapter 5: 'Verify' on both sides.
  A region that draws its order: reads and calls that lay blocks at most, then a tail in one forced order (a store, an append). The head goes by the walk of the lexical order over a class of worlds; the tail is walked from any world of the class.
  Chapter 5: the reference's weighted sums.
  Chapter 5: the reference's weighted sums, walked.
  Chapter 5: the simplex table in memory.
  Chapter 5, plain: the simplex over tables that are written out anew at each step.
  Sums of rational numbers, plain.
  Tables of equations, plain: what a pivot keeps; a table is determined by its basis.
-/
import Derived.Test.YtijpgddpejiohaaGreatDoorKH
import Derived.Deep.RegionHeld3
import Derived.StillTail
import Derived.Lib.QuietBelow
section
namespace Go.Proofs.YtijpgddpejiohaaGreatDoor
open Go Go.RowKit Go.Deep Go.Sort
namespace M
noncomputable def chk5 (n : Int) (l : List BT) : Nat := if n < 1 ∨ 8 < n then 2 else if 64 < l.length then 5 else chkBs n l
end M
namespace W
open M
attribute [local go_sem] bs_size bs_toList bs_get bs_extract bs_append bs_lit0 bs_lit1 lit1_bs
set_option maxHeartbeats 1000000
set_option maxRecDepth 20000
theorem chkLs_two (a b : List (List UInt8)) : chkLs [a, b] = chkRs (a ++ b) := by
  rw [chkRs_append, chkLs, chkLs, chkLs]
  by_cases h : chkRs a = 0
  · rw [if_pos h, if_pos h]
    by_cases h2 : chkRs b = 0
    · rw [if_pos h2, h2]
    · rw [if_neg h2]
  · rw [if_neg h, if_neg h]
theorem tnew {w : World} {p : List UInt8} : RdT (w.alloc (.cells #[.string (bs p)] 29 (0, 0))) (.slice (some ⟨w.heap.size, 0, none⟩) 1 1) [p] := by
  have hr := Row.new w 29 [.string (bs p)]
  exact ⟨_, _, rfl, Or.inr ⟨_, _, rfl, hr.lt, fun i hi => by
    obtain rfl : i = 0 := by simpa using hi
    exact hr.cell rfl⟩⟩
theorem pnum2 (u : Value) (l : List (List UInt8)) (p : List UInt8) (w : World) (hg : Glob w) (hu : RdT w u l) (hl : ∀ q ∈ l, q.length ≤ 90000) (hn : l.length ≤ 1000000) (hp : p.length ≤ 90000) :
    Calls Tryz.prog 62 #[.slice (some ⟨w.heap.size + 1, 0, none⟩) 2 2] ((w.alloc (.cells #[.string (bs p)] 29)).alloc (.cells #[u, .slice (some ⟨w.heap.size, 0, none⟩) 1 1] 23)) (Ret w (.int .i64 ((chkRs (l ++ [p]) : Nat) : Int))) := by
  have b1 : Below w.heap.size w (w.alloc (.cells #[.string (bs p)] 29)) := (Below.refl _ _).alloc (Nat.le_refl _) _
  have b2 : Below w.heap.size w ((w.alloc (.cells #[.string (bs p)] 29)).alloc (.cells #[u, .slice (some ⟨w.heap.size, 0, none⟩) 1 1] 23)) := b1.alloc b1.size _
  have b3 := (Below.refl (w.alloc (.cells #[.string (bs p)] 29)).heap.size (w.alloc (.cells #[.string (bs p)] 29))).alloc (Nat.le_refl _) (.cells #[u, .slice (some ⟨w.heap.size, 0, none⟩) 1 1] 23)
  have hr : Row ((w.alloc (.cells #[.string (bs p)] 29)).alloc (.cells #[u, .slice (some ⟨w.heap.size, 0, none⟩) 1 1] 23)) (w.heap.size + 1) 23 [u, .slice (some ⟨w.heap.size, 0, none⟩) 1 1] := by
    have := Row.new (w.alloc (.cells #[.string (bs p)] 29)) 23 [u, .slice (some ⟨w.heap.size, 0, none⟩) 1 1]
    rwa [World.size_alloc] at this
  have h := pnumbers [(u, l), (.slice (some ⟨w.heap.size, 0, none⟩) 1 1, [p])] (w.heap.size + 1) _ (hg.of b2) hr (fun x hx => by
    simp only [List.mem_cons, List.not_mem_nil, or_false] at hx
    rcases hx with rfl | rfl
    · exact ⟨hu.below b2, hn, hl⟩
    · exact ⟨tnew.below b3, by simp, fun q hq => by rw [List.mem_singleton.1 hq]; exact hp⟩) (by simp)
  refine h.mono fun e w' hr => ?_
  obtain ⟨rfl, hb⟩ := hr
  refine ⟨?_, b2.trans (hb.mono b2.size)⟩
  rw [show ([(u, l), (Value.slice (some ⟨w.heap.size, 0, none⟩) 1 1, [p])].map (·.2)) = [l, [p]] from rfl, chkLs_two]
theorem pcheck5 (n : Int) (va : Value) (l : List BT) (w : World) (hg : Glob w) (ha : RdB w va l) (hl : l.length ≤ maxLen) (hs : l.length ≤ 64 → ∀ b ∈ l, b.1.length ≤ 1000000 ∧ (∀ q ∈ b.1, q.length ≤ 90000) ∧ b.2.length ≤ 90000) :
    Calls Tryz.prog 61 #[.int .i64 n, va] w (Ret w (.int .i64 ((chk5 n l : Nat) : Int))) := by
  unfold maxLen at hl
  obtain ⟨A, cap, rfl⟩ := ha.len
  unfold chk5
  by_cases h1 : n < 1
  · rw [if_pos (Or.inl h1)]
    have d1 : decide (n < 1) = true := decide_eq_true h1
    clear ha hs
    go_enter Tryz.func61, Tryz.ntmps61
    go_wp2
    go_ret
    exact Ret.of rfl (Below.refl _ _)
  · have d1 : decide (n < 1) = false := decide_eq_false h1
    by_cases h8 : 8 < n
    · rw [if_pos (Or.inr h8)]
      have d8 : decide (8 < n) = true := decide_eq_true h8
      clear ha hs
      go_enter Tryz.func61, Tryz.ntmps61
      go_wp2
      go_ret
      exact Ret.of rfl (Below.refl _ _)
    · rw [if_neg (by omega)]
      have d8 : decide (8 < n) = false := decide_eq_false h8
      by_cases hb : 64 < l.length
      · rw [if_pos hb]
        have hd : decide (64 < (l.length : Int)) = true := by simp; omega
        clear ha hs
        go_enter Tryz.func61, Tryz.ntmps61
        go_wp2
        go_ret
        exact Ret.of rfl (Below.refl _ _)
      · rw [if_neg hb]
        have hd : decide (64 < (l.length : Int)) = false := by simp; omega
        have HW := Lib.hid ha
        have HSS := Lib.hid (fun i (hi : i < l.length) => hs (by omega) _ (List.getElem_mem hi))
        have hl64 : l.length ≤ 64 := by omega
        generalize hch : ((chkBs n l : Nat) : Int) = ch
        have HCH := Lib.hid hch
        clear ha hs hch
        go_enter Tryz.func61, Tryz.ntmps61
        go_wp2
        go_loopw [21] (fun iv wr => ∃ i : Nat, iv = .int .i64 (i : Int) ∧ i ≤ l.length ∧ Hid (chkBs n l = chkBs n (l.drop i)) ∧ Below w.heap.size w wr) (fun iv _ => l.length - (intOf iv).toNat)
        case atStart => exact ⟨0, rfl, by omega, (rfl : chkBs n l = chkBs n (l.drop 0)), Below.refl _ _⟩
        case round =>
          obtain ⟨i, rfl, hi, hk, hbw⟩ := hrel
          by_cases hlt : i < l.length
          · obtain ⟨b1, o1, rfl, hw⟩ := HW.out.row i hlt
            have hwr := hw.below' hbw
            obtain ⟨u, cu, hu, _⟩ := hwr.row i hlt
            have cm := hwr.most i hlt
            have hk2 := hk.out
            rw [chkBs_drop n l i hlt] at hk2
            obtain ⟨s1, s2, s3⟩ := HSS.out i hlt
            clear hk hwr hw
            generalize l[i] = x at *
            obtain ⟨xr, xm⟩ := x
            simp only at cm hu s1 s2 s3
            have hbn := (Below.refl wr.heap.size wr).alloc (Nat.le_refl _) (.cells #[u, .string (bs xm)] 31)
            have row := Row.new wr 31 [u, .string (bs xm)]
            have c0 := row.cell (i := 0) rfl
            have c1 := row.cell (i := 1) rfl
            have HBN := Lib.hid hbn
            have hnm := pnum2 u xr xm (wr.alloc (.cells #[u, .string (bs xm)] 31)) (hg.of (bel_to hbw hbn)) (hu.below hbn) s2 s1 s3
            rw [World.size_alloc] at hnm
            have HNM := Lib.hid hnm
            clear hnm
            obtain ⟨Au, cpu, rfl⟩ := hu.len
            clear row hbn hu s2 s3
            by_cases hln : (xr.length : Int) = n
            · have hdn : ((xr.length : Int) != n) = false := by simp; exact hln
              rw [show chkB1 n (xr, xm) = chkRs (xr ++ [xm]) by unfold chkB1; rw [if_neg (by simpa using hln)]] at hk2
              by_cases hc : chkRs (xr ++ [xm]) = 0
              · rw [if_pos hc] at hk2
                rw [hc] at HNM
                have HK := Lib.hid hk2
                clear hk2 hc
                go_wp2_with fail
                refine (HNM.out).mono ?_
                rintro e w1 ⟨rfl, hb1⟩
                have hb1' := bel_to hbw (HBN.out.trans (hb1.mono HBN.out.size))
                clear hb1 HNM HBN
                go_wp2
                go_roundw
                case rel => exact ⟨i + 1, by go_num, by omega, HK, hb1'⟩
                case measure => simp [intOf]; omega
              · rw [if_neg hc] at hk2
                have hz : (((chkRs (xr ++ [xm]) : Nat) : Int) != 0) = true := by simp; exact hc
                have HK := Lib.hid hk2
                clear hk2 hc
                generalize hcc : ((chkRs (xr ++ [xm]) : Nat) : Int) = c at *
                have HCC := Lib.hid hcc
                clear hcc
                go_wp2_with fail
                refine (HNM.out).mono ?_
                rintro e w1 ⟨rfl, hb1⟩
                have hb1' := bel_to hbw (HBN.out.trans (hb1.mono HBN.out.size))
                clear hb1 HNM HBN
                go_wp2
                go_ret
                exact Ret.of (by rw [← HCH.out, HK.out, HCC.out]; rfl) hb1'
            · have hdn : ((xr.length : Int) != n) = true := by simp; exact hln
              rw [show chkB1 n (xr, xm) = 8 by unfold chkB1; rw [if_pos (by simpa using hln)], if_neg (by decide)] at hk2
              have HK := Lib.hid hk2
              have HBE := Lib.hid (bel_to hbw HBN.out)
              clear hk2 HNM HBN
              go_wp2
              go_ret
              exact Ret.of (by rw [← HCH.out, HK.out]; rfl) HBE.out
          · obtain rfl : i = l.length := by omega
            have hk2 := hk.out
            rw [List.drop_length] at hk2
            have HK := Lib.hid hk2
            clear hk2 hk
            go_wp2
            go_ret
            exact Ret.of (by rw [← HCH.out, HK.out]; rfl) hbw
end W
end Go.Proofs.YtijpgddpejiohaaGreatDoor
end
section
namespace Go.Proofs.YtijpgddpejiohaaGreatDoor
open Go Go.RowKit Go.Deep Go.Sort
theorem rnw {w : World} {t : TypeId} {xs : List Value} : Row (w.alloc (.cells xs.toArray t (0, 0))) w.heap.size t xs := Row.new w t xs
theorem rnew0 {w : World} {b : Nat} {t : TypeId} {xs : List Value} (hb : b = w.heap.size) : Row (w.alloc (.cells xs.toArray t (0, 0))) b t xs := by subst hb; exact rnw
theorem row_grown {w w' : World} {row : Option Nat} {b : Nat} {t : TypeId} {xs : List Value} (h : Row w b t xs) (hg : w.grownBy w' row) (hne : some b ≠ row) : Row w' b t xs := by
  have hlt := h.lt
  unfold Row at *
  rw [hg.block b hlt hne]; exact h
theorem grown_same (w : World) (row : Option Nat) : w.grownBy w row := ⟨rfl, rfl, rfl, Nat.le_refl _, fun _ _ _ => rfl⟩
theorem OwnS.rd {w : World} {B : Nat} {v : Value} {l : List (List UInt8)} (h : OwnS w B v l) : RdT w v l := by
  by_cases hl : l = []
  · subst hl
    rcases h.2 with ⟨hv, _⟩ | ⟨g, cap, cur, hv, _⟩
    · exact ⟨_, _, hv, Or.inl rfl⟩
    · exact ⟨_, _, hv, Or.inl rfl⟩
  · obtain ⟨g, cap, e, _, hlt, hc⟩ := h.form hl
    exact ⟨_, _, e, Or.inr ⟨_, _, rfl, hlt, fun i hi => by rw [Nat.zero_add]; exact hc i hi⟩⟩
namespace W
open M
attribute [local go_sem] bs_size bs_toList bs_get bs_extract bs_append bs_lit0 bs_lit1 lit1_bs
set_option maxHeartbeats 1000000
set_option maxRecDepth 20000
end W
end Go.Proofs.YtijpgddpejiohaaGreatDoor
end
section
namespace Go.Proofs.YtijpgddpejiohaaGreatDoor
open Go Go.RowKit Go.Deep Go.Sort
namespace M
def rx (l : List Rat) : List (List UInt8) := l.map R
theorem rx_len (l : List Rat) : (rx l).length = l.length := by simp [rx]
theorem rx_get (l : List Rat) (i : Nat) (h : i < l.length) : (rx l)[i]'(by rw [rx_len]; exact h) = R l[i] := by simp [rx]
def dotP (a b : List Rat) : Nat → Rat
  | 0 => 0
  | i + 1 => dotP a b i + nth a i * nth b i
theorem nth_get (l : List Rat) (i : Nat) (h : i < l.length) : nth l i = l[i] := by unfold nth; simp [h]
theorem Bq_nil : Bq 1 (0 : Rat) := by unfold Bq; decide +kernel
theorem dotP_bq {a b : List Rat} {e e2 : Nat} (ha : ∀ x ∈ a, Bq e x) (hb : ∀ x ∈ b, Bq e2 x) : ∀ i, i ≤ a.length → i ≤ b.length → Bq ((e + e2 + 1) * i + 1) (dotP a b i)
  | 0, _, _ => Bq_nil
  | i + 1, h1, h2 => by
    have ih := dotP_bq ha hb i (by omega) (by omega)
    unfold dotP
    rw [nth_get a i (by omega), nth_get b i (by omega)]
    have := ih.add ((ha _ (List.getElem_mem (show i < a.length by omega))).mul (hb _ (List.getElem_mem (show i < b.length by omega))))
    refine this.mono ?_
    rw [Nat.mul_succ]; omega
end M
namespace W
open M
attribute [local go_sem] bs_size bs_toList bs_get bs_extract bs_append bs_lit0 bs_lit1 lit1_bs
set_option maxHeartbeats 1000000
set_option maxRecDepth 20000
theorem pdot (S : Nat) (va vb : Value) (a b : List Rat) (e e2 : Nat) (w : World) (hg : Glob w) (hs : NoErP w S) (ha : RdT w va (rx a)) (hb : RdT w vb (rx b)) (hab : a.length ≤ b.length) (hn : (e + e2 + 1) * a.length + 1 ≤ 1000) (ea : ∀ x ∈ a, Bq e x) (eb : ∀ x ∈ b, Bq e2 x) (he2 : e + e2 ≤ 1000) :
    Calls Tryz.prog 71 #[.pointer (some ⟨S, 0, none⟩), va, vb] w (Ret w (.string (bs (R (dotP a b a.length))))) := by
  obtain ⟨A, ca, rfl⟩ := ha.len
  obtain ⟨B, cb, rfl⟩ := hb.len
  have HA := Lib.hid ha
  have HB := Lib.hid hb
  have HD := Lib.hid (fun i (hi : i ≤ a.length) => dotP_bq ea eb i hi (by omega))
  have HT := Lib.hid (fun i (hi : i < a.length) W (hW : Below w.heap.size w W) => ratMul a[i] (b[i]'(by omega)) e e2 W (hg.of hW) (ea _ (List.getElem_mem hi)) (eb _ (List.getElem_mem (by omega))) (by omega))
  have HP := Lib.hid (fun i (hi : i < a.length) W (hW : Below w.heap.size w W) => ratAdd (dotP a b i) (a[i] * b[i]'(by omega)) ((e + e2 + 1) * i + 1) (e + e2) W (hg.of hW) (HD.out i (by omega)) ((ea _ (List.getElem_mem hi)).mul (eb _ (List.getElem_mem (show i < b.length by omega)))) (by
    have h1 : (e + e2 + 1) * (i + 1) ≤ (e + e2 + 1) * a.length := Nat.mul_le_mul_left _ hi
    rw [Nat.mul_succ] at h1
    omega))
  have HO := Lib.hid (fun s W (hW : Below w.heap.size w W) => psof S s W (hs.below' hW))
  have HS := Lib.hid (fun i (hi : i < a.length) => (show dotP a b (i + 1) = dotP a b i + a[i] * b[i]'(by omega) by
    show dotP a b i + nth a i * nth b i = _
    rw [nth_get a i hi, nth_get b i (by omega)]))
  have han : a.length ≤ 1000 := by
    have : 1 * a.length ≤ (e + e2 + 1) * a.length := Nat.mul_le_mul_right _ (by omega)
    omega
  rw [rx_len a] at HA ⊢
  rw [rx_len b] at HB ⊢
  clear ha hb ea eb HD hn hs
  go_enter Tryz.func71, Tryz.ntmps71
  go_wp2
  go_loopw [7, 12] (fun sv iv wr => ∃ i : Nat, iv = .int .i64 (i : Int) ∧ i ≤ a.length ∧ sv = .string (bs (R (dotP a b i))) ∧ Below w.heap.size w wr) (fun _ iv _ => a.length - (intOf iv).toNat)
  case atStart => exact ⟨0, rfl, by omega, by rw [show dotP a b 0 = 0 from rfl, R_nil]; rfl, Below.refl _ _⟩
  case round =>
    obtain ⟨i, rfl, hi, rfl, hbw⟩ := hrel
    by_cases hlt : i < a.length
    · have ha2 := HA.out
      rw [← rx_len a] at ha2
      have hb2 := HB.out
      rw [← rx_len b] at hb2
      obtain ⟨b1, o1, rfl, hw1⟩ := ha2.row i (by rw [rx_len]; exact hlt)
      obtain ⟨b2, o2, rfl, hw2⟩ := hb2.row i (by rw [rx_len]; omega)
      have c0 := (hw1.below' hbw).val i (by rw [rx_len]; exact hlt)
      have c1 := (hw2.below' hbw).val i (by rw [rx_len]; omega)
      rw [rx_get a i hlt] at c0
      rw [rx_get b i (by omega)] at c1
      have HTI := Lib.hid (fun W hW => HT.out i hlt W hW)
      have HPI := Lib.hid (fun W hW => HP.out i hlt W hW)
      have hsi := HS.out i hlt
      have HL1 := Lib.hid (hw1.below' hbw).lt
      have HL2 := Lib.hid (hw2.below' hbw).lt
      clear ha2 hb2 hw1 hw2
      by_cases hx : a[i] = 0
      · have e1 := R_is0.2 hx
        have hs1 : dotP a b (i + 1) = dotP a b i := by rw [hsi, hx]; grind
        have HSS := Lib.hid hs1
        clear hsi hs1 HTI HPI hx
        generalize R a[i] = sx at *
        subst e1
        go_wp2
        go_roundw
        case rel => exact ⟨i + 1, by go_num, hlt, by rw [HSS.out], hbw⟩
        case measure => simp [intOf]; omega
      · have nx : (R a[i] == [48]) = false := by rw [beq_eq_false_iff_ne]; exact fun h => hx (R_is0.1 h)
        by_cases hy : b[i]'(by omega) = 0
        · have e1 := R_is0.2 hy
          have hs1 : dotP a b (i + 1) = dotP a b i := by rw [hsi, hy]; grind
          have HSS := Lib.hid hs1
          clear hsi hs1 HTI HPI hy hx
          generalize R a[i] = sx at *
          generalize R (b[i]'(by omega)) = sy at *
          subst e1
          go_wp2
          go_roundw
          case rel => exact ⟨i + 1, by go_num, hlt, by rw [HSS.out], hbw⟩
          case measure => simp [intOf]; omega
        · have ny : (R (b[i]'(by omega)) == [48]) = false := by rw [beq_eq_false_iff_ne]; exact fun h => hy (R_is0.1 h)
          rw [← hsi] at HPI
          clear hsi hx hy
          generalize R a[i] = sx at *
          generalize R (b[i]'(by omega)) = sy at *
          generalize R (a[i] * b[i]'(by omega)) = sp at *
          generalize R (dotP a b i) = s1 at *
          generalize hs2 : R (dotP a b (i + 1)) = s2 at *
          have HS2 := Lib.hid hs2
          clear hs2
          go_wp2_with fail
          refine (HTI.out _ hbw).mono ?_
          rintro e w1 ⟨rfl, hb1⟩
          have h1 := bel_to hbw hb1
          clear hb1 HTI
          go_wp2_with fail
          refine (HO.out _ _ h1).mono ?_
          rintro e w2 ⟨rfl, hb2⟩
          have h2 := bel_to h1 hb2
          clear hb2 h1
          go_wp2_with fail
          refine (HPI.out _ h2).mono ?_
          rintro e w3 ⟨rfl, hb3⟩
          have h3 := bel_to h2 hb3
          clear hb3 h2 HPI
          go_wp2_with fail
          refine (HO.out _ _ h3).mono ?_
          rintro e w4 ⟨rfl, hb4⟩
          have h4 := bel_to h3 hb4
          clear hb4 h3
          go_wp2
          go_roundw
          case rel => exact ⟨i + 1, by go_num, hlt, by rw [HS2.out], h4⟩
          case measure => simp [intOf]; omega
    · obtain rfl : i = a.length := by omega
      clear HT HP HS
      go_wp2
      go_ret
      exact Ret.of rfl hbw
end W
end Go.Proofs.YtijpgddpejiohaaGreatDoor
end
section
namespace Go.Proofs.YtijpgddpejiohaaGreatDoor
open Go Go.RowKit Go.Deep Go.Sort
namespace M
def bx (l : List BQ) : List BT := l.map fun b => (rx b.1, R b.2)
theorem bx_len (l : List BQ) : (bx l).length = l.length := by simp [bx]
theorem bx_get (l : List BQ) (i : Nat) (h : i < l.length) : (bx l)[i]'(by rw [bx_len]; exact h) = (rx l[i].1, R l[i].2) := by simp [bx]
def RightW (n : Nat) (l : List BQ) : Prop := ∀ b ∈ l, b.1.length = n ∧ (∀ x ∈ b.1, Bq 20 x) ∧ Bq 20 b.2
end M
namespace W
open M
attribute [local go_sem] bs_size bs_toList bs_get bs_extract bs_append bs_lit0 bs_lit1 lit1_bs
set_option maxHeartbeats 1000000
set_option maxRecDepth 20000
theorem cmpQ_le5 {a b : Rat} : cmpQ a b ≤ 0 ↔ a ≤ b := by rw [← Int.not_lt, cmpQ_gt, Rat.not_lt]
theorem bound_at {w : World} {b o : Nat} {l : List BQ} (h : BSl w b o (bx l)) (i : Nat) (hi : i < l.length) :
    ∃ u, w.cell? ⟨b, o + i * 2, none⟩ = some u ∧ RdT w u (rx l[i].1) ∧ Shp u ∧ w.cell? ⟨b, o + i * 2 + 1, none⟩ = some (.string (bs (R l[i].2))) := by
  have hi2 : i < (bx l).length := by rw [bx_len]; exact hi
  obtain ⟨u, h1, h2, h3⟩ := h.row i hi2
  have h4 := h.most i hi2
  rw [bx_get l i hi] at h2 h4
  exact ⟨u, h1, h2, h3, h4⟩
theorem sign_pos {q : Rat} : 0 < Int.sign q.num ↔ 0 < q := by
  rw [Int.sign_pos_iff, Rat.lt_iff]
  simp
end W
end Go.Proofs.YtijpgddpejiohaaGreatDoor
end
section
namespace Go.Proofs.YtijpgddpejiohaaGreatDoor
open Go Go.RowKit Go.Deep Go.Sort
namespace M
end M
namespace W
open M
attribute [local go_sem] bs_size bs_toList bs_get bs_extract bs_append bs_lit0 bs_lit1 lit1_bs
set_option maxHeartbeats 1000000
set_option maxRecDepth 20000
theorem pnum1 (u : Value) (l : List (List UInt8)) (w : World) (hg : Glob w) (hu : RdT w u l) (hl : ∀ q ∈ l, q.length ≤ 90000) (hn : l.length ≤ 1000000) :
    Calls Tryz.prog 62 #[.slice (some ⟨w.heap.size, 0, none⟩) 1 1] (w.alloc (.cells #[u] 23)) (Ret w (.int .i64 ((chkRs l : Nat) : Int))) := by
  have b1 : Below w.heap.size w (w.alloc (.cells #[u] 23)) := (Below.refl _ _).alloc (Nat.le_refl _) _
  have h := pnumbers [(u, l)] w.heap.size _ (hg.of b1) (show Row (w.alloc (.cells #[u] 23)) w.heap.size 23 [u] from rnw) (fun x hx => by
    rw [List.mem_singleton.1 hx]; exact ⟨hu.below b1, hn, hl⟩) (by simp)
  refine h.mono fun e w' hr => ?_
  obtain ⟨rfl, hb⟩ := hr
  refine ⟨?_, b1.trans (hb.mono b1.size)⟩
  have e1 : chkLs [l] = chkRs l := by
    rw [chkLs, chkLs]
    by_cases h : chkRs l = 0
    · rw [if_pos h, h]
    · rw [if_neg h]
  rw [show ([(u, l)].map (·.2)) = [l] from rfl, e1]
end W
end Go.Proofs.YtijpgddpejiohaaGreatDoor
end
section
namespace Go.Proofs.YtijpgddpejiohaaGreatDoor
open Go Go.Sort Go.RowKit
section
variable {P : Program} {ops : Array Oper} {md : Region.Mode} {C : World → Prop}
def anyT (P : Program) (md : Region.Mode) (ops : Array Oper) (C : World → Prop) (n : Nat) (L : Array Bool → Act → Prop) : Nat → Array Bool → Act → Prop
  | 0, ls, a => L ls a
  | f + 1, ls, a => Region.ready md ops ls ≠ [] ∧ ∀ i ∈ Region.ready md ops ls, i < n ∧ qOp P ops C i (anyT P md ops C n L f (ls.setIfInBounds i true)) a
theorem wpAny_of_anyT {n g : Nat} {L : Array Bool → Act → Prop} {Q : Exit → Act → World → Prop} (hL : ∀ ls a w, C w → L ls a → wpAny P md ops Q g ls a w) :
    ∀ (f : Nat) (ls : Array Bool) (a : Act) (w : World), C w → anyT P md ops C n L f ls a → wpAny P md ops Q (f + g) ls a w := by
  intro f
  induction f with
  | zero => intro ls a w hw h; rw [Nat.zero_add]; exact hL _ _ _ hw h
  | succ f ih =>
    intro ls a w hw h
    rw [Nat.succ_add]
    exact ⟨fun h0 => absurd h0 h.1, fun i hi => wpOp_of_qOp hw (fun a' w' hw' h' => ih _ a' w' hw' h') (h.2 i hi).2⟩
theorem anyT_first {n i : Nat} {oi : Oper} {v : Value} {L : Array Bool → Act → Prop} (hi : ops[i]? = some oi) (hsel : ∀ (j : Nat) (o : Oper) cs b, ops[j]? = some o → o.op ≠ .select cs b)
    (hs : Region.sinkB md ops n = true) (hc : Region.chainB md ops n = true) (hn : n < ops.size) (hin : i < n) (hdone : ∀ ls a, L ls a → ∀ j ∈ Region.ready md ops ls, n ≤ j) :
    ∀ (f : Nat) (ls : Array Bool) (a : Act), HeadInv md ops n ls →
      (∀ j oj, ops[j]? = some oj → j ≠ i → ls.getD j true = false → (∀ e ∈ oj.after, Region.binds md e = true → e.on ≠ i) → oi.apart ops oj = true) →
      i ∈ Region.ready md ops ls → YieldsIn P ops C oi v a → anyT P md ops C n L f (ls.setIfInBounds i true) (a.put oi.dst v) → anyT P md ops C n L (f + 1) ls a := by
  intro f
  induction f with
  | zero =>
    intro ls a inv _ hr hy H
    refine ⟨List.ne_nil_of_mem hr, fun j hj => ?_⟩
    have hjn : j < n := Nat.lt_of_not_le fun h => tail_waits hs hc hn inv _ i rfl hin (mem_ready.1 hr).1 j h hj
    refine ⟨hjn, ?_⟩
    by_cases e : j = i
    · subst e; exact hy.qOp hi H
    · exact absurd (hdone _ _ H j (ready_mono hj e)) (by omega)
  | succ f ih =>
    intro ls a inv hfree hr hy H
    refine ⟨List.ne_nil_of_mem hr, fun j hj => ?_⟩
    have hjn : j < n := Nat.lt_of_not_le fun h => tail_waits hs hc hn inv _ i rfl hin (mem_ready.1 hr).1 j h hj
    refine ⟨hjn, ?_⟩
    by_cases e : j = i
    · subst e; exact hy.qOp hi H
    · obtain ⟨hju, oj, hoj, hall⟩ := mem_ready.1 hj
      have hno : ∀ e ∈ oj.after, Region.binds md e = true → e.on ≠ i := fun e he hb heq => by
        have h2 := hall e he hb
        rw [heq, getD_both (mem_ready.1 hr).1] at h2
        cases h2
      refine qOp_mono (fun a' h3 => ih (ls.setIfInBounds j true) a' (inv.set hj hjn) (fun k ok hk hki hun h4 => ?_) (ready_mono hr (Ne.symm e)) h3.1 (by rw [Array.setIfInBounds_comm _ _ e]; exact h3.2))
        (qOp_put hoj (hfree j oj hoj e hju hno) (fun cs b => hsel i oi cs b hi) (fun cs b => hsel j oj cs b hoj) hy (H.2 j (ready_mono hj e)).2)
      refine hfree k ok hk hki ?_ h4
      by_cases ek : j = k
      · subst ek; exact hju
      · rwa [getD_set_ne true ek] at hun
theorem anyT_lex {n g : Nat} {Lq : Act → Prop} (hsel : Region.noSelect ops = true) (hs : Region.sinkB md ops n = true) (hc : Region.chainB md ops n = true) (hn : n < ops.size) :
    ∀ (l : List Oper) (k : Nat) (ls : Array Bool) (a : Act), (∀ j, j < l.length → l[j]? = ops[k + j]?) → k + l.length = n → HeadInv md ops n ls → Region.lexHead md ops g l.length k ls = true → wpQuiet P ops C Lq l a →
      anyT P md ops C n (fun ls' a' => Region.seqB md ops g n ls' = true ∧ Lq a') l.length ls a := by
  intro l
  induction l with
  | nil =>
    intro k ls a _ hk _ hB h
    have e : k = n := by simpa using hk
    subst e
    exact ⟨by simpa [Region.lexHead] using hB, h⟩
  | cons o l ih =>
    intro k ls a hl hk inv hB h
    have h0 : ops[k]? = some o := by simpa using (hl 0 (by simp)).symm
    simp only [List.length_cons, Region.lexHead, Bool.and_eq_true] at hB
    have hkn : k < n := by simp only [List.length_cons] at hk; omega
    have hr : k ∈ Region.ready md ops ls := by simpa using hB.1.1
    obtain ⟨v, hy, hK⟩ := yieldsIn_of_qOp h0 (show qOp P ops C k (wpQuiet P ops C Lq l) a by unfold qOp; simp only [h0]; exact h)
    exact anyT_first h0 (Region.noSelect_spec hsel) hs hc hn hkn (fun ls' a' hL => seqB_ready hL.1) l.length ls a inv (Region.free_spec h0 hB.1.2) hr hy
      (ih (k + 1) _ _ (fun j hj => by have := hl (j + 1) (by simp; omega); simpa [Nat.add_assoc, Nat.add_comm 1 j] using this) (by simp only [List.length_cons] at hk; omega) (inv.set hr hkn) hB.2 hK)
theorem region_quiet_tail {id : Nat} {Q : Exit → Act → World → Prop} {a : Act} {w : World} {l : List Oper} (n : Nat) (hm : P.follows .mixedOrders = true) (hB : Region.lexTailB .any l.toArray n = true) (hC : C { w with drawn := w.drawn + 1 })
    (h : wpQuiet P l.toArray C (fun a' => ∀ w', C w' → wpList P l.toArray Q (l.drop n) a' w') (l.take n) a) : (Code.region id l.toArray true).wp P Q a w := by
  simp only [Region.lexTailB, Bool.and_eq_true, decide_eq_true_eq] at hB
  obtain ⟨⟨⟨⟨hsel, hn⟩, hs⟩, hc⟩, hlex⟩ := hB
  have hn2 : n < l.length := by simpa using hn
  have ht : (l.take n).length = n := by simp; omega
  have hd : (l.drop n).length = l.toArray.size - n := by simp
  have inv : HeadInv .any l.toArray n (Array.replicate l.toArray.size false) :=
    ⟨by simp, fun j oj _ h2 => (by rw [getD_replicate_false] at h2; cases h2), fun t _ h2 => getD_in (by simpa using h2) (getD_replicate_false _ _)⟩
  have H := anyT_lex (md := .any) (g := l.toArray.size - n) hsel hs hc hn (l.take n) 0 _ a (fun j hj => by rw [ht] at hj; simp [hj]) (by simpa using ht) inv (by rw [ht]; exact hlex) h
  refine wp_region_any hm ?_
  have h2 := wpAny_of_anyT (Q := Q) (g := l.toArray.size - n) (fun ls a' w' hw' hL => by
    have h3 := wpAny_of_seq (md := .any) (Q' := Q) (l.drop n) n ls a' w' (fun j => by simp [List.getElem?_drop]) (by rw [hd]; exact hL.1) (hL.2 w' hw')
    rwa [hd] at h3) _ _ _ _ hC H
  rw [ht, show n + (l.toArray.size - n) = l.toArray.size by omega] at h2
  exact h2
theorem region_below_tail {id : Nat} {Q : Exit → Act → World → Prop} {a : Act} {w : World} {l : List Oper} (n : Nat) (hm : P.follows .mixedOrders = true) (hB : Region.lexTailB .any l.toArray n = true)
    (h : wpQuiet P l.toArray (fun w' => ∃ p : Regrown, w' = grow (redrawn w p.d) p.os) (fun a' => ∀ w', (∃ p : Regrown, w' = grow (redrawn w p.d) p.os) → wpList P l.toArray Q (l.drop n) a' w') (l.take n) a) : (Code.region id l.toArray true).wp P Q a w :=
  region_quiet_tail n hm hB ⟨⟨w.drawn + 1, #[]⟩, by rw [grow_empty]; rfl⟩ h
end
end Go.Proofs.YtijpgddpejiohaaGreatDoor
end
section
namespace Go.Proofs.YtijpgddpejiohaaGreatDoor
open Go Go.RowKit Go.Deep Go.Sort
namespace M
def wrow (l : List BQ) (q : List Rat) : Nat → Nat → Rat
  | 0, _ => 0
  | i + 1, k => wrow l q i k + nth q i * nth (l.getD i ([], 0)).1 k
def wmost (l : List BQ) (q : List Rat) : Nat → Rat
  | 0 => 0
  | i + 1 => wmost l q i + nth q i * (l.getD i ([], 0)).2
def mapR (f : Nat → Rat) (n : Nat) : List (List UInt8) := (List.range n).map fun k => R (f k)
theorem mapR_len (f : Nat → Rat) (n : Nat) : (mapR f n).length = n := by simp [mapR]
theorem mapR_get (f : Nat → Rat) (n k : Nat) (h : k < n) : (mapR f n)[k]'((mapR_len f n).symm ▸ h) = R (f k) := by simp [mapR]
def mix (f g : Nat → Rat) (k : Nat) : Nat → Rat := fun j => if j < k then g j else f j
theorem mix_zero (f g : Nat → Rat) : mix f g 0 = f := by funext j; simp [mix]
end M
theorem OwnS.stored {w : World} {B g cap : Nat} {l : List (List UInt8)} (h : OwnS w B (.slice (some ⟨g, 0, none⟩) l.length cap) l) (k : Nat) (q : List UInt8) :
    OwnS (w.setCell ⟨g, k, none⟩ (.string (bs q))) B (.slice (some ⟨g, 0, none⟩) (l.set k q).length cap) (l.set k q) := by
  have h2 := World.ownsRow.stored h k (.string (bs q))
  unfold OwnS
  rw [List.length_set]
  have e : Strs (l.set k q) = (Strs l).set k (.string (bs q)) := by simp [Strs, List.map_set]
  rw [e]
  exact h2.1
end Go.Proofs.YtijpgddpejiohaaGreatDoor
end
section
namespace Go.Proofs.YtijpgddpejiohaaGreatDoor
open Go Go.RowKit Go.Deep Go.Sort
namespace W
open M
attribute [local go_sem] bs_size bs_toList bs_get bs_extract bs_append bs_lit0 bs_lit1 lit1_bs
set_option maxHeartbeats 2000000
set_option maxRecDepth 20000
end W
end Go.Proofs.YtijpgddpejiohaaGreatDoor
end
section
namespace Go.Proofs.YtijpgddpejiohaaGreatDoor
open Go Go.RowKit Go.Deep Go.Sort
def Pre (w : World) (b : Nat) (t : TypeId) (xs : List Value) : Prop := ∃ sp, Row w b t (xs ++ sp)
theorem Pre.of {w : World} {b : Nat} {t : TypeId} {xs : List Value} (h : Row w b t xs) : Pre w b t xs := ⟨[], by rw [List.append_nil]; exact h⟩
theorem Pre.lt {w : World} {b : Nat} {t : TypeId} {xs : List Value} (h : Pre w b t xs) : b < w.heap.size := by
  obtain ⟨sp, h⟩ := h; exact h.lt
theorem Pre.cell {w : World} {b : Nat} {t : TypeId} {xs : List Value} (h : Pre w b t xs) {i : Nat} {v : Value} (hi : xs[i]? = some v) : w.cell? ⟨b, i, none⟩ = some v := by
  obtain ⟨sp, h⟩ := h
  refine h.cell ?_
  have := (List.getElem?_eq_some_iff.1 hi).1
  rw [List.getElem?_append_left this]; exact hi
theorem Pre.free {w : World} {b : Nat} {t : TypeId} {xs : List Value} (h : Pre w b t xs) (i : Nat) : w.frozen? ⟨b, i, none⟩ = false := by
  obtain ⟨sp, h⟩ := h; exact h.free i
theorem Pre.set {w : World} {b : Nat} {t : TypeId} {xs : List Value} (h : Pre w b t xs) {i : Nat} (hi : i < xs.length) (v : Value) : Pre (w.setCell ⟨b, i, none⟩ v) b t (xs.set i v) := by
  obtain ⟨sp, h⟩ := h
  refine ⟨sp, ?_⟩
  have := h.set i v
  rwa [List.set_append_left _ _ hi] at this
theorem Pre.other {w : World} {b : Nat} {t : TypeId} {xs : List Value} (h : Pre w b t xs) {a : Addr} (ha : b ≠ a.block) (v : Value) : Pre (w.setCell a v) b t xs := by
  obtain ⟨sp, h⟩ := h; exact ⟨sp, h.other ha v⟩
theorem Pre.alloc {w : World} {b : Nat} {t : TypeId} {xs : List Value} (h : Pre w b t xs) (o : Obj) : Pre (w.alloc o) b t xs := by
  obtain ⟨sp, h⟩ := h; exact ⟨sp, h.alloc o⟩
theorem Pre.below' {w w' : World} {b : Nat} {t : TypeId} {xs : List Value} (h : Pre w b t xs) (hb : Below w.heap.size w w') : Pre w' b t xs := by
  obtain ⟨sp, h⟩ := h; exact ⟨sp, h.below' hb⟩
theorem pre_own {w : World} {B : Nat} {e : TypeId} {v : Value} {n : Nat} {xs : List Value} (h : w.ownsRow B e 1 v n xs) (h0 : 0 < n) : ∃ g cap, v = .slice (some ⟨g, 0, none⟩) n cap ∧ B ≤ g ∧ Pre w g e xs := by
  obtain ⟨h1, h2⟩ := h
  rcases h2 with ⟨_, h3⟩ | ⟨g, cap, cur, rfl, hg, hh, _, _, _, hx⟩
  · omega
  · refine ⟨g, cap, rfl, hg, cur.toList.drop (n * 1), ?_⟩
    rw [← hx, List.take_append_drop]
    unfold Row
    rw [Array.toArray_toList]; exact hh
namespace M
def upd {α : Type} (f : Nat → α) (k : Nat) (v : α) : Nat → α := fun j => if j = k then v else f j
theorem upd_same {α : Type} (f : Nat → α) (k : Nat) (v : α) : upd f k v k = v := by unfold upd; rw [if_pos rfl]
theorem upd_other {α : Type} (f : Nat → α) {k j : Nat} (h : j ≠ k) (v : α) : upd f k v j = f j := by unfold upd; rw [if_neg h]
theorem mapR_upd (f : Nat → Rat) (k n : Nat) (q : Rat) : mapR (upd f k q) n = (mapR f n).set k (R q) := by
  apply List.ext_getElem
  · rw [List.length_set, mapR_len, mapR_len]
  · intro j h1 h2
    rw [mapR_len] at h1
    rw [mapR_get _ _ _ h1, List.getElem_set]
    by_cases e : k = j
    · subst e; rw [if_pos rfl, upd_same]
    · rw [if_neg e, mapR_get _ _ _ h1, upd_other _ (fun h => e h.symm)]
theorem mapR_congr {f g : Nat → Rat} {n : Nat} (h : ∀ k, k < n → f k = g k) : mapR f n = mapR g n := by
  unfold mapR
  apply List.map_congr_left
  intro k hk
  rw [h k (List.mem_range.1 hk)]
def intsV (b : Nat → Nat) (m : Nat) : List Value := (List.range m).map fun i => .int .i64 (b i : Int)
theorem intsV_upd (b : Nat → Nat) (k m c : Nat) : intsV (upd b k c) m = (intsV b m).set k (.int .i64 (c : Int)) := by
  unfold intsV
  apply List.ext_getElem
  · simp
  · intro j h1 h2
    have h3 : j < m := by simpa using h1
    rw [List.getElem_set]
    by_cases e : k = j
    · subst e; rw [if_pos rfl]; simp [upd_same]
    · rw [if_neg e]; simp [upd_other _ (show j ≠ k from fun h => e h.symm)]
theorem intsV_congr {f g : Nat → Nat} {n : Nat} (h : ∀ k, k < n → f k = g k) : intsV f n = intsV g n := by
  unfold intsV
  apply List.map_congr_left
  intro k hk
  rw [h k (List.mem_range.1 hk)]
def rowsV (h : Nat → Nat) (m L : Nat) : List Value := (List.range m).map fun i => .slice (some ⟨h i, 0, none⟩) L L
def wdt (n m : Nat) : Nat := 2 * n + m + 1
end M
open M
structure TabS (w : World) (B p S gr gb cr cb : Nat) (h : Nat → Nat) (n m : Nat) (A : Nat → Nat → Rat) (b : Nat → Nat) : Prop where
  tab : Pre w p 108 [.pointer (some ⟨S, 0, none⟩), .int .i64 (n : Int), .int .i64 (m : Int), .slice (some ⟨gr, 0, none⟩) m cr, .slice (some ⟨gb, 0, none⟩) m cb, .slice (some ⟨h m, 0, none⟩) (wdt n m + 1) (wdt n m + 1)]
  err : NoErP w S
  rows : Pre w gr 23 (rowsV h m (wdt n m + 1))
  bas : Pre w gb 3 (intsV b m)
  mat : ∀ j, j ≤ m → Pre w (h j) 29 (Strs (mapR (A j) (wdt n m + 1)))
  blt : ∀ i, i < m → b i < wdt n m
  lowp : B ≤ p
  lowS : B ≤ S
  lowr : B ≤ gr
  lowb : B ≤ gb
  lowh : ∀ j, j ≤ m → B ≤ h j
  inj : ∀ i j, i ≤ m → j ≤ m → h i = h j → i = j
  hne : ∀ j, j ≤ m → h j ≠ p ∧ h j ≠ S ∧ h j ≠ gr ∧ h j ≠ gb
  pne : p ≠ S ∧ p ≠ gr ∧ p ≠ gb ∧ S ≠ gr ∧ S ≠ gb ∧ gr ≠ gb
  gl : Glob w
  hB : 8 ≤ B
  hn : n ≤ 100
  hm : m ≤ 1000
section
variable {w w' : World} {B p S gr gb cr cb : Nat} {h : Nat → Nat} {n m : Nat} {A : Nat → Nat → Rat} {b : Nat → Nat}
theorem TabS.below' (t : TabS w B p S gr gb cr cb h n m A b) (hb : Below w.heap.size w w') : TabS w' B p S gr gb cr cb h n m A b :=
  { t with gl := t.gl.of hb, tab := t.tab.below' hb, err := t.err.below' hb, rows := t.rows.below' hb, bas := t.bas.below' hb, mat := fun j hj => (t.mat j hj).below' hb }
theorem TabS.congr (t : TabS w B p S gr gb cr cb h n m A b) {A2 : Nat → Nat → Rat} {b2 : Nat → Nat} (h1 : ∀ j, j ≤ m → ∀ k, k ≤ wdt n m → A j k = A2 j k) (h2 : ∀ i, i < m → b i = b2 i) : TabS w B p S gr gb cr cb h n m A2 b2 :=
  { t with bas := by rw [← intsV_congr h2]; exact t.bas, mat := fun j hj => by rw [← mapR_congr (fun k hk => h1 j hj k (by omega))]; exact t.mat j hj, blt := fun i hi => by rw [← h2 i hi]; exact t.blt i hi }
theorem TabS.c0 (t : TabS w B p S gr gb cr cb h n m A b) : w.cell? ⟨p, 0, none⟩ = some (.pointer (some ⟨S, 0, none⟩)) := t.tab.cell rfl
theorem TabS.c1 (t : TabS w B p S gr gb cr cb h n m A b) : w.cell? ⟨p, 1, none⟩ = some (.int .i64 (n : Int)) := t.tab.cell rfl
theorem TabS.c2 (t : TabS w B p S gr gb cr cb h n m A b) : w.cell? ⟨p, 2, none⟩ = some (.int .i64 (m : Int)) := t.tab.cell rfl
theorem TabS.c3 (t : TabS w B p S gr gb cr cb h n m A b) : w.cell? ⟨p, 3, none⟩ = some (.slice (some ⟨gr, 0, none⟩) m cr) := t.tab.cell rfl
theorem TabS.c4 (t : TabS w B p S gr gb cr cb h n m A b) : w.cell? ⟨p, 4, none⟩ = some (.slice (some ⟨gb, 0, none⟩) m cb) := t.tab.cell rfl
theorem TabS.c5 (t : TabS w B p S gr gb cr cb h n m A b) : w.cell? ⟨p, 5, none⟩ = some (.slice (some ⟨h m, 0, none⟩) (wdt n m + 1) (wdt n m + 1)) := t.tab.cell rfl
theorem TabS.crow (t : TabS w B p S gr gb cr cb h n m A b) {j : Nat} (hj : j < m) : w.cell? ⟨gr, j, none⟩ = some (.slice (some ⟨h j, 0, none⟩) (wdt n m + 1) (wdt n m + 1)) :=
  t.rows.cell (by simp [rowsV, hj])
theorem TabS.cbas (t : TabS w B p S gr gb cr cb h n m A b) {i : Nat} (hi : i < m) : w.cell? ⟨gb, i, none⟩ = some (.int .i64 (b i : Int)) :=
  t.bas.cell (by simp [intsV, hi])
theorem TabS.ce (t : TabS w B p S gr gb cr cb h n m A b) {j k : Nat} (hj : j ≤ m) (hk : k ≤ wdt n m) : w.cell? ⟨h j, k, none⟩ = some (.string (bs (R (A j k)))) :=
  (t.mat j hj).cell (by simp [Strs, mapR, show k < wdt n m + 1 by omega])
theorem TabS.fe (t : TabS w B p S gr gb cr cb h n m A b) {j : Nat} (hj : j ≤ m) (k : Nat) : w.frozen? ⟨h j, k, none⟩ = false := (t.mat j hj).free k
theorem TabS.fb (t : TabS w B p S gr gb cr cb h n m A b) (k : Nat) : w.frozen? ⟨gb, k, none⟩ = false := t.bas.free k
theorem TabS.ft (t : TabS w B p S gr gb cr cb h n m A b) (k : Nat) : w.frozen? ⟨p, k, none⟩ = false := t.tab.free k
theorem TabS.setA (t : TabS w B p S gr gb cr cb h n m A b) {j k : Nat} (hj : j ≤ m) (hk : k ≤ wdt n m) (q : Rat) :
    TabS (w.setCell ⟨h j, k, none⟩ (.string (bs (R q)))) B p S gr gb cr cb h n m (upd A j (upd (A j) k q)) b := by
  obtain ⟨n1, n2, n3, n4⟩ := t.hne j hj
  refine { t with gl := t.gl.below ((Below.refl B w).setCell (p := ⟨h j, k, none⟩) (t.lowh j hj) _) t.hB, tab := t.tab.other (fun e => n1 e.symm) _, err := Row.other t.err (fun e => n2 e.symm) _, rows := t.rows.other (fun e => n3 e.symm) _, bas := t.bas.other (fun e => n4 e.symm) _, mat := fun i hi => ?_ }
  by_cases e : i = j
  · subst e
    rw [upd_same, mapR_upd]
    have h2 := (t.mat i hi).set (i := k) (by simp [Strs, mapR_len]; omega) (.string (bs (R q)))
    have e2 : Strs ((mapR (A i) (wdt n m + 1)).set k (R q)) = (Strs (mapR (A i) (wdt n m + 1))).set k (.string (bs (R q))) := by simp [Strs, List.map_set]
    rw [e2]; exact h2
  · rw [upd_other _ e]
    exact (t.mat i hi).other (fun e2 => e (t.inj i j hi hj e2)) _
theorem TabS.setB (t : TabS w B p S gr gb cr cb h n m A b) {r c : Nat} (hr : r < m) (hc : c < wdt n m) :
    TabS (w.setCell ⟨gb, r, none⟩ (.int .i64 (c : Int))) B p S gr gb cr cb h n m A (upd b r c) := by
  obtain ⟨_, _, n3, _, n5, n6⟩ := t.pne
  refine { t with gl := t.gl.below ((Below.refl B w).setCell (p := ⟨gb, r, none⟩) t.lowb _) t.hB, tab := t.tab.other n3 _, err := Row.other t.err n5 _, rows := t.rows.other n6 _, bas := ?_, mat := fun i hi => (t.mat i hi).other (t.hne i hi).2.2.2 _, blt := fun i hi => ?_ }
  · rw [intsV_upd]; exact t.bas.set (by simp [intsV]; exact hr) _
  · unfold upd; split
    · exact hc
    · exact t.blt i hi
theorem TabS.belowA (t : TabS w B p S gr gb cr cb h n m A b) {w0 : World} (h0 : Below B w0 w) {j : Nat} (hj : j ≤ m) (k : Nat) (v : Value) : Below B w0 (w.setCell ⟨h j, k, none⟩ v) := h0.setCell (p := ⟨h j, k, none⟩) (t.lowh j hj) v
theorem TabS.belowB (t : TabS w B p S gr gb cr cb h n m A b) {w0 : World} (h0 : Below B w0 w) (k : Nat) (v : Value) : Below B w0 (w.setCell ⟨gb, k, none⟩ v) := h0.setCell (p := ⟨gb, k, none⟩) t.lowb v
end
end Go.Proofs.YtijpgddpejiohaaGreatDoor
end
section
namespace Go.Proofs.YtijpgddpejiohaaGreatDoor
open Go Go.RowKit Go.Deep
namespace M
abbrev Mx := Nat → Nat → Rat
def pivA (A : Mx) (r c : Nat) : Mx := fun i k => if i = r then A r k / A r c else A i k - A i c * (A r k / A r c)
structure Tbl where
  rows : List (List Rat)
  bas : List Nat
def Tbl.A (t : Tbl) : Mx := fun j k => nth (t.rows.getD j []) k
def Tbl.b (t : Tbl) : Nat → Nat := fun i => t.bas.getD i 0
def tab (n m : Nat) (A : Mx) (b : Nat → Nat) : Tbl := ⟨(List.range (m + 1)).map fun j => (List.range (wdt n m + 1)).map fun k => A j k, (List.range m).map b⟩
theorem nth_map (f : Nat → Rat) (n k : Nat) (h : k < n) : nth ((List.range n).map f) k = f k := by unfold nth; simp [h]
theorem tab_A {n m : Nat} (A : Mx) (b : Nat → Nat) {j k : Nat} (hj : j ≤ m) (hk : k ≤ wdt n m) : (tab n m A b).A j k = A j k := by
  unfold Tbl.A tab
  simp only
  rw [show ((List.range (m + 1)).map fun j => (List.range (wdt n m + 1)).map fun k => A j k).getD j [] = (List.range (wdt n m + 1)).map fun k => A j k by simp [show j < m + 1 by omega]]
  exact nth_map _ _ _ (by omega)
theorem tab_b {n m : Nat} (A : Mx) (b : Nat → Nat) {i : Nat} (hi : i < m) : (tab n m A b).b i = b i := by
  unfold Tbl.b tab; simp [hi]
def smallQ (ez : Nat) (q : Rat) : Bool := decide (q.num.natAbs < 10 ^ ez) && decide (q.den < 10 ^ ez)
theorem smallQ_bq {ez : Nat} {q : Rat} (h : smallQ ez q = true) : Bq ez q := by
  unfold smallQ at h
  simp only [Bool.and_eq_true, decide_eq_true_eq] at h
  exact h
def smallT (ez n m : Nat) (t : Tbl) : Bool := (List.range (m + 1)).all fun j => (List.range (wdt n m + 1)).all fun k => smallQ ez (t.A j k)
theorem smallT_bq {ez n m : Nat} {t : Tbl} (h : smallT ez n m t = true) {j k : Nat} (hj : j ≤ m) (hk : k ≤ wdt n m) : Bq ez (t.A j k) := by
  unfold smallT at h
  rw [List.all_eq_true] at h
  have h1 := h j (List.mem_range.2 (by omega))
  rw [List.all_eq_true] at h1
  exact smallQ_bq (h1 k (List.mem_range.2 (by omega)))
def smallL (ez : Nat) (l : List Rat) : Bool := l.all (smallQ ez)
theorem smallL_bq {ez : Nat} {l : List Rat} (h : smallL ez l = true) : ∀ q ∈ l, Bq ez q := fun q hq => smallQ_bq (List.all_eq_true.1 h q hq)
def colT (n m : Nat) (A : Mx) (ban : Option Nat) : Option Nat := (List.range (wdt n m)).find? fun c => decide (some c ≠ ban) && decide (0 < A m c)
def lvOne (A : Mx) (b : Nat → Nat) (c wd i : Nat) : Option Nat × Rat → Option Nat × Rat
  | (none, l) => if A i c ≤ 0 then (none, l) else (some i, A i wd / A i c)
  | (some k, l) => if A i c ≤ 0 then (some k, l) else
      if A i wd / A i c < l ∨ (A i wd / A i c = l ∧ b i < b k) then (some i, A i wd / A i c) else (some k, l)
def lvS (A : Mx) (b : Nat → Nat) (c wd : Nat) : Nat → Option Nat × Rat
  | 0 => (none, 0)
  | i + 1 => lvOne A b c wd i (lvS A b c wd i)
def leaveT (n m : Nat) (A : Mx) (b : Nat → Nat) (c : Nat) : Option Nat := (lvS A b c (wdt n m) m).1
def pivT (n m : Nat) (t : Tbl) (r c : Nat) : Tbl := tab n m (pivA t.A r c) (upd t.b r c)
def climbT (ez n m : Nat) (ban : Option Nat) : Nat → Tbl → Option (Bool × Tbl)
  | 0, _ => none
  | f + 1, t => if smallT ez n m t = false then none else
    match colT n m t.A ban with
    | none => some (true, t)
    | some c => match leaveT n m t.A t.b c with
      | none => some (false, t)
      | some r => climbT ez n m ban f (pivT n m t r c)
def wsOne (A : Mx) (wd i : Nat) : Option Nat → Option Nat
  | none => if 0 ≤ A i wd then none else some i
  | some k => if 0 ≤ A i wd then some k else if A k wd ≤ A i wd then some k else some i
def wsS (A : Mx) (wd : Nat) : Nat → Option Nat
  | 0 => none
  | i + 1 => wsOne A wd i (wsS A wd i)
def outT (n m : Nat) (t : Tbl) : Tbl :=
  match (List.range m).find? fun i => decide (t.b i = wdt n m - 1) with
  | none => t
  | some r => match (List.range (wdt n m - 1)).find? fun c => decide (t.A r c ≠ 0) with
    | none => t
    | some c => pivT n m t r c
def readyC (ez n m f : Nat) (t : Tbl) : Option (Bool × Tbl) :=
  if smallT ez n m t = false then none else
  match wsS t.A (wdt n m) m with
  | none => some (true, t)
  | some w =>
    if t.A w (wdt n m - 1) = 0 then none else
    match climbT ez n m none f (tab n m (pivA (upd t.A m (upd (t.A m) (wdt n m - 1) (-1))) w (wdt n m - 1)) (upd t.b w (wdt n m - 1))) with
    | none => none
    | some (_, t1) => if t1.A m (wdt n m) ≠ 0 then some (false, t1) else some (true, outT n m t1)
def readyT (ez n m f : Nat) (t : Tbl) : Option (Bool × Tbl) := match readyC ez n m f t with
  | none => none
  | some s => if smallT ez n m s.2 = true then some s else none
def allS (A : Mx) (b : Nat → Nat) (wd : Nat) : Nat → Nat → Rat
  | 0 => fun _ => 0
  | i + 1 => upd (allS A b wd i) (b i) (A i wd)
def pointF (n m : Nat) (A : Mx) (b : Nat → Nat) (k : Nat) : Rat := allS A b (wdt n m) m k - allS A b (wdt n m) m (n + k)
def weightF (n m : Nat) (A : Mx) (i : Nat) : Rat := - A m (2 * n + i)
def goalF (n : Nat) (goal : List Rat) (k : Nat) : Rat := if k < n then nth goal k else if k < 2 * n then - nth goal (k - n) else 0
def aimT (ez n m : Nat) (A : Mx) (b : Nat → Nat) (goal : List Rat) : Nat → Option (List Rat)
  | 0 => some ((List.range (wdt n m + 1)).map (goalF n goal))
  | i + 1 => match aimT ez n m A b goal i with
    | none => none
    | some g => if smallL ez g = true then some ((List.range (wdt n m + 1)).map fun k => nth g k - nth g (b i) * A i k) else none
def laidA (n : Nat) (l : List BQ) : Mx := fun j k =>
  if j < l.length then
    if k < n then nth (l.getD j ([], 0)).1 k else if k < 2 * n then - nth (l.getD j ([], 0)).1 (k - n)
    else if k = 2 * n + j then 1 else if k = wdt n l.length - 1 then -1 else if k = wdt n l.length then (l.getD j ([], 0)).2 else 0
  else 0
def laidT (n : Nat) (l : List BQ) : Tbl := tab n l.length (laidA n l) fun i => 2 * n + i
def mostT (ez f n : Nat) (l : List BQ) (goal : List Rat) : Option ((Rat × List Rat × List Rat) ⊕ Nat) :=
  match readyT ez n l.length f (laidT n l) with
  | none => none
  | some (false, _) => some (.inr 6)
  | some (true, t) => match aimT ez n l.length t.A t.b goal l.length with
    | none => none
    | some g => match climbT ez n l.length (some (wdt n l.length - 1)) f (tab n l.length (upd t.A l.length (nth g)) t.b) with
      | none => none
      | some (ok, t2) =>
        let p := (List.range n).map (pointF n l.length t2.A t2.b)
        if smallL ez p = true then (if ok = true then some (.inl (dotP goal p n, p, (List.range l.length).map (weightF n l.length t2.A))) else some (.inr 14)) else none
end M
end Go.Proofs.YtijpgddpejiohaaGreatDoor
end
section
namespace Go.Proofs.YtijpgddpejiohaaGreatDoor
open Go
namespace Sx
open M
def sm : Nat → (Nat → Rat) → Rat
  | 0, _ => 0
  | n + 1, f => sm n f + f n
theorem sm_congr {n : Nat} {f g : Nat → Rat} (h : ∀ k, k < n → f k = g k) : sm n f = sm n g := by
  induction n with
  | zero => rfl
  | succ n ih => rw [sm, sm, ih fun k hk => h k (by omega), h n (by omega)]
theorem sm_zero {n : Nat} {f : Nat → Rat} (h : ∀ k, k < n → f k = 0) : sm n f = 0 := by
  induction n with
  | zero => rfl
  | succ n ih => rw [sm, ih fun k hk => h k (by omega), h n (by omega)]; grind
theorem sm_add (n : Nat) (f g : Nat → Rat) : sm n (fun k => f k + g k) = sm n f + sm n g := by
  induction n with
  | zero => simp only [sm]; grind
  | succ n ih => rw [sm, sm, sm, ih]; grind
theorem sm_sub (n : Nat) (f g : Nat → Rat) : sm n (fun k => f k - g k) = sm n f - sm n g := by
  induction n with
  | zero => simp only [sm]; grind
  | succ n ih => rw [sm, sm, sm, ih]; grind
theorem sm_mul (n : Nat) (c : Rat) (f : Nat → Rat) : sm n (fun k => c * f k) = c * sm n f := by
  induction n with
  | zero => rw [sm, sm, Rat.mul_zero]
  | succ n ih => rw [sm, sm, ih]; grind
theorem sm_mul_right (n : Nat) (c : Rat) (f : Nat → Rat) : sm n (fun k => f k * c) = sm n f * c := by
  induction n with
  | zero => rw [sm, sm, Rat.zero_mul]
  | succ n ih => rw [sm, sm, ih]; grind
theorem sm_neg (n : Nat) (f : Nat → Rat) : sm n (fun k => - f k) = - sm n f := by
  induction n with
  | zero => simp only [sm]; grind
  | succ n ih => rw [sm, sm, ih]; grind
theorem sm_one {n k : Nat} {f : Nat → Rat} (hk : k < n) (h : ∀ j, j < n → j ≠ k → f j = 0) : sm n f = f k := by
  induction n with
  | zero => omega
  | succ n ih =>
    rw [sm]
    by_cases e : k = n
    · subst e
      rw [sm_zero fun j hj => h j (by omega) (by omega)]; grind
    · rw [ih (by omega) fun j hj => h j (by omega), h n (by omega) (by omega)]; grind
theorem sm_swap (n m : Nat) (f : Nat → Nat → Rat) : sm n (fun i => sm m fun j => f i j) = sm m (fun j => sm n fun i => f i j) := by
  induction n with
  | zero =>
    rw [sm]
    exact (sm_zero fun k _ => rfl).symm
  | succ n ih =>
    rw [sm, ih, ← sm_add]
    exact sm_congr fun k _ => rfl
theorem sm_le {n : Nat} {f g : Nat → Rat} (h : ∀ k, k < n → f k ≤ g k) : sm n f ≤ sm n g := by
  induction n with
  | zero => exact Rat.le_refl
  | succ n ih =>
    have h1 := ih fun k hk => h k (by omega)
    have h2 := h n (by omega)
    rw [sm, sm]; grind
theorem sm_nonneg {n : Nat} {f : Nat → Rat} (h : ∀ k, k < n → 0 ≤ f k) : 0 ≤ sm n f := by
  induction n with
  | zero => exact Rat.le_refl
  | succ n ih =>
    have h1 := ih fun k hk => h k (by omega)
    have h2 := h n (by omega)
    rw [sm]; grind
theorem sm_nonpos {n : Nat} {f : Nat → Rat} (h : ∀ k, k < n → f k ≤ 0) : sm n f ≤ 0 := by
  induction n with
  | zero => exact Rat.le_refl
  | succ n ih =>
    have h1 := ih fun k hk => h k (by omega)
    have h2 := h n (by omega)
    rw [sm]; grind
theorem sm_neg_ex {n : Nat} {f : Nat → Rat} (h : sm n f < 0) : ∃ k, k < n ∧ f k < 0 := by
  induction n with
  | zero => simp only [sm] at h; exact absurd h Rat.lt_irrefl
  | succ n ih =>
    rw [sm] at h
    by_cases h1 : sm n f < 0
    · obtain ⟨k, hk, hf⟩ := ih h1
      exact ⟨k, by omega, hf⟩
    · exact ⟨n, by omega, by grind⟩
theorem sm_split (a b : Nat) (f : Nat → Rat) : sm (a + b) f = sm a f + sm b (fun k => f (a + k)) := by
  induction b with
  | zero => rw [sm]; show sm a f = _; grind
  | succ b ih => rw [← Nat.add_assoc, sm, ih, sm]; grind
end Sx
end Go.Proofs.YtijpgddpejiohaaGreatDoor
end
section
namespace Go.Proofs.YtijpgddpejiohaaGreatDoor
open Go
namespace Sx
open M
def Sol (m D : Nat) (A : Mx) (t : Rat) (x : Nat → Rat) : Prop := ∀ i, i < m → sm D (fun k => A i k * x k) = A i D * t
def Zv (m D : Nat) (A : Mx) (t : Rat) (x : Nat → Rat) : Rat := sm D (fun k => A m k * x k) - A m D * t
structure Bas (m D : Nat) (A : Mx) (b : Nat → Nat) : Prop where
  lt : ∀ i, i < m → b i < D
  one : ∀ i, i < m → A i (b i) = 1
  zer : ∀ i j, i < m → j ≤ m → j ≠ i → A j (b i) = 0
theorem Bas.inj {m D : Nat} {A : Mx} {b : Nat → Nat} (h : Bas m D A b) {i j : Nat} (hi : i < m) (hj : j < m) (e : b i = b j) : i = j := by
  by_cases h1 : i = j
  · exact h1
  · have h2 := h.zer j i hj (by omega) h1
    rw [← e, h.one i hi] at h2
    exact absurd h2 (by decide +kernel)
section
variable {m D : Nat} {A A' : Mx} {b : Nat → Nat} {r c : Nat}
theorem piv_row {i k : Nat} (h : i ≠ r) : pivA A r c i k = A i k - A i c * (A r k / A r c) := by unfold pivA; rw [if_neg h]
theorem piv_r (k : Nat) : pivA A r c r k = A r k / A r c := by unfold pivA; rw [if_pos rfl]
theorem piv_sum_r (x : Nat → Rat) : sm D (fun k => pivA A r c r k * x k) = sm D (fun k => A r k * x k) / A r c := by
  rw [Rat.div_def, ← sm_mul_right]
  exact sm_congr fun k _ => by rw [piv_r]; grind
theorem piv_sum {i : Nat} (h : i ≠ r) (x : Nat → Rat) : sm D (fun k => pivA A r c i k * x k) = sm D (fun k => A i k * x k) - A i c * (sm D (fun k => A r k * x k) / A r c) := by
  rw [← piv_sum_r, ← sm_mul, ← sm_sub]
  exact sm_congr fun k _ => by rw [piv_row h, piv_r]; grind
theorem piv_sol (hr : r < m) (h0 : A r c ≠ 0) {t : Rat} {x : Nat → Rat} : Sol m D (pivA A r c) t x ↔ Sol m D A t x := by
  constructor
  · intro h i hi
    have h1 := h r hr
    rw [piv_sum_r, piv_r] at h1
    have h2 : sm D (fun k => A r k * x k) = A r D * t := by grind
    by_cases e : i = r
    · subst e; exact h2
    · have h3 := h i hi
      rw [piv_sum e, piv_row e] at h3
      grind
  · intro h i hi
    have h2 := h r hr
    by_cases e : i = r
    · subst e
      rw [piv_sum_r, piv_r, h2]; grind
    · rw [piv_sum e, piv_row e, h i hi, h2]; grind
theorem piv_zv (hr : r < m) {t : Rat} {x : Nat → Rat} (h : Sol m D A t x) : Zv m D (pivA A r c) t x = Zv m D A t x := by
  unfold Zv
  rw [piv_sum (by omega), piv_row (by omega), h r hr]; grind
theorem piv_bas (h : Bas m D A b) (hr : r < m) (hc : c < D) (h0 : A r c ≠ 0) : Bas m D (pivA A r c) (upd b r c) := by
  refine ⟨fun i hi => ?_, fun i hi => ?_, fun i j hi hj hij => ?_⟩
  · by_cases e : i = r
    · subst e; rw [upd_same]; exact hc
    · rw [upd_other _ e]; exact h.lt i hi
  · by_cases e : i = r
    · subst e; rw [upd_same, piv_r]; grind
    · rw [upd_other _ e, piv_row e, h.one i hi, h.zer i r hi (by omega) (by omega)]; grind
  · by_cases e : i = r
    · subst e
      rw [upd_same, piv_row hij]; grind
    · rw [upd_other _ e]
      have h1 := h.zer i r hi (by omega) (by omega)
      by_cases e2 : j = r
      · subst e2; rw [piv_r, h1]; grind
      · rw [piv_row e2, h1, h.zer i j hi hj hij]; grind
def bv (m : Nat) (b : Nat → Nat) (y : Nat → Rat) : Nat → Rat := fun k => sm m fun i => if b i = k then y i else 0
theorem bv_at (h : Bas m D A b) (y : Nat → Rat) {i : Nat} (hi : i < m) : bv m b y (b i) = y i := by
  unfold bv
  rw [sm_one hi fun j hj e => ?_, if_pos rfl]
  rw [if_neg fun e2 => e (h.inj hj hi e2)]
theorem bv_off (y : Nat → Rat) {k : Nat} (hk : ∀ i, i < m → b i ≠ k) : bv m b y k = 0 := sm_zero fun i hi => if_neg (hk i hi)
theorem bv_sum (hb : ∀ i, i < m → b i < D) (f y : Nat → Rat) : sm D (fun k => f k * bv m b y k) = sm m fun i => f (b i) * y i := by
  have e : sm D (fun k => f k * bv m b y k) = sm D (fun k => sm m fun i => if b i = k then f k * y i else 0) :=
    sm_congr fun k _ => by
      unfold bv
      rw [← sm_mul]
      exact sm_congr fun i _ => by split <;> grind
  rw [e, sm_swap]
  refine sm_congr fun i hi => ?_
  rw [sm_one (hb i hi) fun j _ e => if_neg fun e2 => e e2.symm, if_pos rfl]
theorem bv_row (h : Bas m D A b) (y : Nat → Rat) {i : Nat} (hi : i < m) : sm D (fun k => A i k * bv m b y k) = y i := by
  rw [bv_sum h.lt, sm_one hi fun j hj e => by rw [h.zer j i hj (by omega) (by omega)]; grind, h.one i hi]; grind
theorem bv_goal (h : Bas m D A b) (y : Nat → Rat) : sm D (fun k => A m k * bv m b y k) = 0 := by
  rw [bv_sum h.lt]
  exact sm_zero fun i hi => by rw [h.zer i m hi (Nat.le_refl _) (by omega)]; grind
theorem bas_sol (h : Bas m D A b) : Sol m D A 1 (bv m b fun i => A i D) := fun i hi => by rw [bv_row h _ hi]; grind
theorem bas_zv (h : Bas m D A b) : Zv m D A 1 (bv m b fun i => A i D) = - A m D := by unfold Zv; rw [bv_goal h]; grind
def dirV (m : Nat) (A : Mx) (b : Nat → Nat) (s : Nat) : Nat → Rat := fun k => (if k = s then 1 else 0) - bv m b (fun i => A i s) k
theorem dir_sum {s : Nat} (hs : s < D) (f : Nat → Rat) : sm D (fun k => f k * dirV m A b s k) = f s - sm D (fun k => f k * bv m b (fun i => A i s) k) := by
  have e : sm D (fun k => f k * dirV m A b s k) = sm D (fun k => (if k = s then f k else 0) - f k * bv m b (fun i => A i s) k) :=
    sm_congr fun k _ => by unfold dirV; split <;> grind
  rw [e, sm_sub, sm_one hs fun j _ e => if_neg e, if_pos rfl]
theorem dir_sol (h : Bas m D A b) {s : Nat} (hs : s < D) : Sol m D A 0 (dirV m A b s) := fun i hi => by
  rw [dir_sum hs, bv_row h _ hi]; grind
theorem dir_zv (h : Bas m D A b) {s : Nat} (hs : s < D) : Zv m D A 0 (dirV m A b s) = A m s := by
  unfold Zv
  rw [dir_sum hs, bv_goal h]; grind
structure Eqv (m D : Nat) (A A' : Mx) : Prop where
  sol : ∀ t x, Sol m D A t x ↔ Sol m D A' t x
  zv : ∀ t x, Sol m D A t x → Zv m D A t x = Zv m D A' t x
theorem Eqv.refl (m D : Nat) (A : Mx) : Eqv m D A A := ⟨fun _ _ => Iff.rfl, fun _ _ _ => rfl⟩
theorem Eqv.symm (h : Eqv m D A A') : Eqv m D A' A := ⟨fun t x => (h.sol t x).symm, fun t x hs => (h.zv t x ((h.sol t x).2 hs)).symm⟩
theorem Eqv.trans {A'' : Mx} (h : Eqv m D A A') (h2 : Eqv m D A' A'') : Eqv m D A A'' :=
  ⟨fun t x => (h.sol t x).trans (h2.sol t x), fun t x hs => (h.zv t x hs).trans (h2.zv t x ((h.sol t x).1 hs))⟩
theorem eqv_piv (hr : r < m) (h0 : A r c ≠ 0) : Eqv m D A (pivA A r c) := ⟨fun _ _ => (piv_sol hr h0).symm, fun _ _ h => (piv_zv hr h).symm⟩
theorem Eqv.col (e : Eqv m D A A') (h : Bas m D A b) (h' : Bas m D A' b) {s : Nat} (hs : s < D) : (∀ i, i < m → A i s = A' i s) ∧ A m s = A' m s := by
  have hd := dir_sol h hs
  have hz := e.zv 0 _ hd
  rw [dir_zv h hs] at hz
  have hd' := (e.sol 0 _).1 hd
  refine ⟨fun i hi => ?_, ?_⟩
  · have h1 := hd' i hi
    rw [dir_sum hs, bv_row h' _ hi] at h1
    grind
  · rw [hz]; unfold Zv
    rw [dir_sum hs, bv_goal h']; grind
theorem Eqv.rhs (e : Eqv m D A A') (h : Bas m D A b) (h' : Bas m D A' b) : (∀ i, i < m → A i D = A' i D) ∧ A m D = A' m D := by
  have hd := bas_sol h
  have hz := e.zv 1 _ hd
  rw [bas_zv h] at hz
  have hd' := (e.sol 1 _).1 hd
  refine ⟨fun i hi => ?_, ?_⟩
  · have h1 := hd' i hi
    rw [bv_row h' _ hi] at h1
    grind
  · unfold Zv at hz
    rw [bv_goal h'] at hz
    grind
end
end Sx
end Go.Proofs.YtijpgddpejiohaaGreatDoor
end
