/-
  Chapter 26 of the program: 'Scale'.
  Layer 1 of the program: 'Binomial' for few elements.
  Chapter 26 of the program: 'powers', 'product'.
  Chapter 26 of the program: 'Binomial'.
  Chapter 26: 'Sample' and 'awake'.
-/
import Derived.Test.YtgjfiaadnecilaaGreatDoorKI
namespace Go.Proofs.YtgjfiaadnecilaaGreatDoor
open Go Go.RowKit Go.Deep
namespace M
def scZ (k y : Int) (zl : List ZT) : List ZT := zl.map fun x => (k * x.1 + y, x.2)
def scR (k y : Int) (zl : List ZT) : List ZT := if k < 0 then (scZ k y zl).reverse else scZ k y zl
def scOk (k y : Int) (zl : List ZT) : Bool := zl.all fun x => okv (k * x.1 + y)
theorem tx_append (a b : List ZT) : tx (a ++ b) = tx a ++ tx b := by simp [tx]
theorem tx_reverse (a : List ZT) : tx a.reverse = (tx a).reverse := by simp [tx]
theorem scZ_take (k y : Int) (zl : List ZT) (i : Nat) (h : i < zl.length) : tx (scZ k y (zl.take (i + 1))) = tx (scZ k y (zl.take i)) ++ [(k * zl[i].1 + y, I zl[i].2)] := by
  unfold scZ; rw [List.take_succ_eq_append_getElem h, List.map_append, tx_append]; rfl
theorem scZ_len (k y : Int) (zl : List ZT) : (tx (scZ k y zl)).length = zl.length := by simp [tx, scZ]
theorem mul_bd {k v : Int} (hk : -1048576 ≤ k ∧ k ≤ 1048576) (hv : -1048576 ≤ v ∧ v ≤ 1048576) : -1099511627776 ≤ k * v ∧ k * v ≤ 1099511627776 := by
  have h1 : (k * v).natAbs ≤ 1048576 * 1048576 := by rw [Int.natAbs_mul]; exact Nat.mul_le_mul (by omega) (by omega)
  omega
end M
namespace W
open M
attribute [local go_sem] bs_size bs_toList bs_get bs_extract bs_append bs_lit0 bs_lit1 lit1_bs
set_option maxHeartbeats 1000000
set_option maxRecDepth 20000
theorem scale_bad (v : Value) (c : Nat) (k y : Int) (w : World) (hc : ChkD v c w) (h0 : c ≠ 0) : Calls Tryz.prog 31 #[v, .int .i64 k, .int .i64 y] w (Ret w (.tuple #[.slice none 0 0, .int .i64 (c : Int)])) := by
  have HC := Lib.hid hc
  have hz : ((c : Int) == 0) = false := by simp; exact h0
  clear hc h0
  go_enter Tryz.func31, Tryz.ntmps31
  go_wp2_with fail
  refine (HC.out _ (Below.refl _ _)).mono ?_
  rintro e w1 ⟨rfl, hb1⟩
  go_wp2
  go_ret2
  exact Ret.of rfl hb1
theorem scale_zero (v : Value) (y : Int) (w : World) (hc : ChkD v 0 w) : Calls Tryz.prog 31 #[v, .int .i64 0, .int .i64 y] w (Ret w (.tuple #[.slice none 0 0, .int .i64 10])) := by
  have HC := Lib.hid hc
  clear hc
  go_enter Tryz.func31, Tryz.ntmps31
  go_wp2_with fail
  refine (HC.out _ (Below.refl _ _)).mono ?_
  rintro e w1 ⟨rfl, hb1⟩
  go_wp2
  go_ret2
  exact Ret.of rfl hb1
theorem scale_range (v : Value) (k y : Int) (w : World) (hc : ChkD v 0 w) (h0 : k ≠ 0) (h : ¬ (okv k = true ∧ okv y = true)) : Calls Tryz.prog 31 #[v, .int .i64 k, .int .i64 y] w (Ret w (.tuple #[.slice none 0 0, .int .i64 2])) := by
  have HC := Lib.hid hc
  have hk0 : (k == 0) = false := by simp; exact h0
  have HK := Lib.hid (fun w' => within_any k w')
  have HY := Lib.hid (fun w' => within_any y w')
  by_cases hk : okv k = true
  · have hy : okv y = false := Bool.eq_false_iff.2 (fun h2 => h ⟨hk, h2⟩)
    rw [hk] at HK
    rw [hy] at HY
    clear hc h0 h hk hy
    go_enter Tryz.func31, Tryz.ntmps31
    go_wp2_with fail
    refine (HC.out _ (Below.refl _ _)).mono ?_
    rintro e w1 ⟨rfl, hb1⟩
    go_wp2_with fail
    refine (HK.out _).mono ?_
    rintro e w' ⟨rfl, rfl⟩
    go_wp2_with fail
    refine (HY.out _).mono ?_
    rintro e w' ⟨rfl, rfl⟩
    go_wp2
    go_ret2
    exact Ret.of rfl hb1
  · rw [Bool.eq_false_iff.2 hk] at HK
    clear hc h0 h hk
    go_enter Tryz.func31, Tryz.ntmps31
    go_wp2_with fail
    refine (HC.out _ (Below.refl _ _)).mono ?_
    rintro e w1 ⟨rfl, hb1⟩
    go_wp2_with fail
    refine (HK.out _).mono ?_
    rintro e w' ⟨rfl, rfl⟩
    go_wp2
    go_ret2
    exact Ret.of rfl hb1
/-- What 'Scale' returns: a list of the call's own, or that a value is out of its range. -/
def ListP (ok : Bool) (l : List WT) (c : Int) (w : World) (e : Ending) (w' : World) : Prop :=
  if ok = true then ∃ v, e = .returned (.tuple #[v, .int .i64 0]) ∧ OwnW w' w.heap.size v l ∧ Below w.heap.size w w'
  else Ret w (.tuple #[.slice none 0 0, .int .i64 c]) e w'
theorem ListP.yes {l : List WT} {c : Int} {w w' : World} {v : Value} (h : OwnW w' w.heap.size v l) (hb : Below w.heap.size w w') : ListP true l c w (.returned (.tuple #[v, .int .i64 0])) w' := by
  unfold ListP; rw [if_pos rfl]; exact ⟨v, rfl, h, hb⟩
theorem ListP.no {l : List WT} {c : Int} {w w' : World} (hb : Below w.heap.size w w') : ListP false l c w (.returned (.tuple #[.slice none 0 0, .int .i64 c])) w' := by
  unfold ListP; rw [if_neg (by decide)]; exact ⟨rfl, hb⟩
theorem scale_ok (zl : List ZT) (b o cap : Nat) (k y : Int) (w : World) (hg : Glob w) (hw : WSl w b o (tx zl)) (h : GoodL zl) (h0 : k ≠ 0) (hk : okv k = true) (hy : okv y = true) :
    Calls Tryz.prog 31 #[.slice (some ⟨b, o, none⟩) zl.length cap, .int .i64 k, .int .i64 y] w (ListP (scOk k y zl) (tx (scR k y zl)) 2 w) := by
  have HC := Lib.hid (chk_good b o cap w hg hw h)
  have hk0 : (k == 0) = false := by simp; exact h0
  have HK := Lib.hid (fun w' => within_any k w')
  have HY := Lib.hid (fun w' => within_any y w')
  have HW := Lib.hid hw
  have HV := Lib.hid (fun i (hlt : i < zl.length) => (h.1.mem _ (List.getElem_mem hlt)).2.2)
  have hl := h.2.2.1
  have hnl := List.length_pos_iff.2 h.2.1
  have HB := Lib.hid (And.intro (okv_true.1 hk) (okv_true.1 hy))
  rw [hk] at HK
  rw [hy] at HY
  generalize hok : scOk k y zl = ok
  generalize hrl : tx (scR k y zl) = rl
  have HOK := Lib.hid hok
  have HRL := Lib.hid hrl
  clear hok hrl hw h h0 hk hy
  go_enter Tryz.func31, Tryz.ntmps31
  go_wp2_with fail
  refine (HC.out _ (Below.refl _ _)).mono ?_
  rintro e w1 ⟨rfl, hb1⟩
  go_wp2_with fail
  refine (HK.out _).mono ?_
  rintro e w' ⟨rfl, rfl⟩
  go_wp2_with fail
  refine (HY.out _).mono ?_
  rintro e w' ⟨rfl, rfl⟩
  go_wp2
  go_loopw [9, 31] (fun ov iv wr => ∃ (i : Nat) (vo : Value), iv = .int .i64 (i : Int) ∧ ov = vo ∧ i ≤ zl.length ∧ Hid (scOk k y (zl.take i) = true) ∧ Hid (OwnW wr w.heap.size vo (tx (scZ k y (zl.take i)))) ∧ Below w.heap.size w wr) (fun _ iv _ => zl.length - (intOf iv).toNat)
  case atStart => exact ⟨0, _, rfl, rfl, by omega, rfl, OwnW.nil _ _, hb1⟩
  case round =>
    clear hb1
    obtain ⟨i, ov, rfl, hvo, hil, hak, hown, hbw⟩ := hrel
    have hvo := hvo.symm
    subst hvo
    by_cases hlt : i < zl.length
    · have hwr := HW.out.below' hbw
      have hlt' : i < (tx zl).length := by rw [tx_len]; exact hlt
      have cv := hwr.val i hlt'
      have cw := hwr.wt i hlt'
      rw [tx_get zl i hlt] at cv cw
      simp only at cv cw
      have hmb := mul_bd HB.out.1 (HV.out i hlt)
      have hyb := HB.out.2
      have hw3 : wrap64 (k * zl[i].1) = k * zl[i].1 := IntWalk.wrap64_in _ (by omega)
      have hw4 : wrap64 (k * zl[i].1 + y) = k * zl[i].1 + y := IntWalk.wrap64_in _ (by omega)
      have HQ := Lib.hid (fun w' => within_any (k * zl[i].1 + y) w')
      have HTK := Lib.hid (scZ_take k y zl i hlt)
      by_cases hov : okv (k * zl[i].1 + y) = true
      · have hak2 : Hid (scOk k y (zl.take (i + 1)) = true) := by
          have := hak.out
          unfold scOk at this ⊢
          rw [List.take_succ_eq_append_getElem hlt, List.all_append, this]
          simp [hov, Hid]
        rw [hov] at HQ
        have hwn := hbw.alloc hbw.size (.cells #[.int .i64 (k * zl[i].1 + y), .string (bs (I zl[i].2))] 61)
        have hown1 : OwnW (wr.alloc (.cells #[.int .i64 (k * zl[i].1 + y), .string (bs (I zl[i].2))] 61)) w.heap.size ov (tx (scZ k y (zl.take i))) := World.ownsRow.alloc hown.out _
        have hlen : (tx (scZ k y (zl.take i))).length ≤ 1000000000 := by rw [scZ_len, List.length_take]; omega
        have HW1 := Lib.hid (And.intro hown1 (And.intro hwn hlen))
        clear hwr hak hown hov hmb hown1 hwn hlen
        go_wp2_with fail
        refine (HQ.out _).mono ?_
        rintro e w' ⟨rfl, rfl⟩
        go_wp2_with (at_builtin; refine wpList_app_w rfl _ _ rfl rfl rfl (by simp) HW1.out.1 HW1.out.2.1.size HW1.out.2.2 ?_; intro v' w' ho' hk')
        go_roundw
        case rel => exact ⟨i + 1, _, by go_num, rfl, by omega, hak2, by rw [HTK.out]; exact ho', hk' _ _ (Nat.le_refl _) HW1.out.2.1⟩
        case measure => simp [intOf]; omega
      · have hfin : ok = false := by
          rw [← HOK.out]
          unfold scOk
          rw [List.all_eq_false]
          exact ⟨zl[i], List.getElem_mem hlt, hov⟩
        rw [Bool.eq_false_iff.2 hov] at HQ
        have HF := Lib.hid hfin
        clear hwr hak hown hov hmb hfin
        go_wp2_with fail
        refine (HQ.out _).mono ?_
        rintro e w' ⟨rfl, rfl⟩
        go_wp2
        go_ret2
        rw [HF.out]
        exact ListP.no (hbw.alloc hbw.size _)
    · obtain rfl : i = zl.length := by omega
      have hok : ok = true := by
        have := hak.out
        rw [List.take_length, HOK.out] at this
        exact this
      have ho := hown.out
      rw [List.take_length] at ho
      obtain ⟨g, cp, rfl, hgB⟩ : ∃ g cp, ov = .slice (some ⟨g, 0, none⟩) zl.length cp ∧ w.heap.size ≤ g := by
        obtain ⟨_, h2⟩ := ho
        rcases h2 with ⟨_, h3⟩ | ⟨g, cp, _, h3, h4, _⟩
        · rw [scZ_len] at h3; omega
        · rw [scZ_len] at h3; exact ⟨g, cp, h3, h4⟩
      by_cases hneg : k < 0
      · have hrl : rl = (tx (scZ k y zl)).reverse := by
          rw [← HRL.out]; unfold scR; rw [if_pos hneg, tx_reverse]
        have HF := Lib.hid (And.intro hok hrl)
        have hne : tx (scZ k y zl) ≠ [] := by
          intro e; have h9 : (tx (scZ k y zl)).length = 0 := by rw [e]; rfl
          rw [scZ_len] at h9; omega
        have hlen := scZ_len k y zl
        rw [← hlen] at ho
        have HR := Lib.hid (reverse_some g cp w.heap.size (tx (scZ k y zl)) wr (by rw [hlen] at ho ⊢; exact ho) (by rw [hlen]; omega) hne hgB)
        rw [hlen] at HR
        clear hak hown hok ho hrl hne hlen
        go_wp2_with fail
        refine HR.out.mono ?_
        rintro e w3 ⟨rfl, ho3, hk3⟩
        have hb3 := hk3 _ _ (Nat.le_refl _) hbw
        have HO3 := Lib.hid ho3
        clear hk3 ho3
        go_wp2
        go_ret2
        rw [HF.out.1, HF.out.2]
        exact ListP.yes (by unfold OwnW at *; have := HO3.out; rw [List.length_reverse, scZ_len] at *; exact this) hb3
      · have hrl : rl = tx (scZ k y zl) := by
          rw [← HRL.out]; unfold scR; rw [if_neg hneg]
        have HF := Lib.hid (And.intro hok hrl)
        have HO := Lib.hid ho
        clear hak hown hok ho hrl
        go_wp2
        go_ret2
        rw [HF.out.1, HF.out.2]
        exact ListP.yes HO.out hbw
end W
end Go.Proofs.YtgjfiaadnecilaaGreatDoor
namespace Go.Proofs.YtgjfiaadnecilaaGreatDoor
open Go Go.RowKit Go.Deep
namespace M
/-- The number of sets of k among n. -/
def ch : Nat → Nat → Nat
  | _, 0 => 1
  | 0, _ + 1 => 0
  | n + 1, k + 1 => ch n k + ch n (k + 1)
theorem ch_zero (n : Nat) : ch n 0 = 1 := by cases n <;> rfl
theorem ch_big : ∀ (n k : Nat), n < k → ch n k = 0
  | 0, k + 1, _ => rfl
  | n + 1, k + 1, h => by rw [ch, ch_big n k (by omega), ch_big n (k + 1) (by omega)]
theorem ch_self : ∀ n, ch n n = 1
  | 0 => rfl
  | n + 1 => by rw [ch, ch_self n, ch_big n (n + 1) (by omega)]
theorem ch_up : ∀ (n k : Nat), (n + 1) * ch n k = ch (n + 1) (k + 1) * (k + 1)
  | 0, 0 => rfl
  | 0, k + 1 => by rw [ch_big 0 (k + 1) (by omega), ch_big (0 + 1) (k + 1 + 1) (by omega)]; simp
  | n + 1, 0 => by
    have := ch_up n 0
    rw [ch_zero] at this ⊢
    rw [ch, ch_zero]
    omega
  | n + 1, k + 1 => by
    have h1 := ch_up n k
    have h2 := ch_up n (k + 1)
    have e1 : ch (n + 1) (k + 1) = ch n k + ch n (k + 1) := rfl
    have e2 : ch (n + 1 + 1) (k + 1 + 1) = ch (n + 1) (k + 1) + ch (n + 1) (k + 1 + 1) := rfl
    rw [e2]
    generalize ch (n + 1) (k + 1) = x at *
    generalize ch (n + 1) (k + 1 + 1) = y at *
    generalize ch n k = a at *
    generalize ch n (k + 1) = b at *
    rw [Nat.add_mul, Nat.add_mul] at *
    simp only [Nat.mul_add, Nat.add_mul, Nat.mul_one, Nat.one_mul] at *
    subst e1
    simp only [Nat.mul_add, Nat.add_mul] at *
    omega
theorem ch_alg {a b k d : Nat} (h : (k + d + 1) * a = a * (k + 1) + b) : b = a * d := by
  have e1 : (k + d + 1) * a = a * k + a * d + a := by rw [Nat.mul_comm, Nat.mul_add, Nat.mul_add, Nat.mul_one]
  have e2 : a * (k + 1) = a * k + a := by rw [Nat.mul_add, Nat.mul_one]
  omega
theorem ch_step {n k : Nat} (h : k ≤ n) : ch n (k + 1) * (k + 1) = ch n k * (n - k) := by
  have h1 := ch_up n k
  have e1 : ch (n + 1) (k + 1) = ch n k + ch n (k + 1) := rfl
  rw [e1] at h1
  obtain ⟨d, rfl⟩ : ∃ d, n = k + d := ⟨n - k, by omega⟩
  rw [show k + d - k = d by omega]
  refine ch_alg (k := k) (h1.trans ?_)
  rw [Nat.add_mul]
theorem ch_symm : ∀ (n k : Nat), k ≤ n → ch n (n - k) = ch n k
  | 0, 0, _ => rfl
  | n + 1, 0, _ => by rw [Nat.sub_zero, ch_self, ch_zero]
  | n + 1, k + 1, h => by
    rw [show n + 1 - (k + 1) = n - k by omega]
    by_cases hk : k = n
    · subst hk; rw [Nat.sub_self, ch_zero, ch_self]
    · obtain ⟨j, hj⟩ : ∃ j, n - k = j + 1 := ⟨n - k - 1, by omega⟩
      have e1 := ch_symm n (k + 1) (by omega)
      have e2 := ch_symm n k (by omega)
      rw [show n - (k + 1) = j by omega] at e1
      rw [hj] at e2
      rw [hj, ch, ch, e1, e2, Nat.add_comm]
theorem ch_le : ∀ (n k : Nat), ch n k ≤ 2 ^ n
  | 0, 0 => by decide
  | 0, k + 1 => by rw [ch_big 0 (k + 1) (by omega)]; omega
  | n + 1, 0 => by rw [ch_zero]; exact Nat.one_le_pow _ _ (by decide)
  | n + 1, k + 1 => by
    have h1 := ch_le n k
    have h2 := ch_le n (k + 1)
    rw [ch, Nat.pow_succ]; omega
theorem ch_min {n k : Nat} (h : k ≤ n) : ch n (min k (n - k)) = ch n k := by
  rcases Nat.le_total k (n - k) with h1 | h1
  · rw [Nat.min_eq_left h1]
  · rw [Nat.min_eq_right h1, ch_symm n k h]
theorem ch_lt {n k : Nat} (hn : n ≤ 100) : ch n k < 10 ^ 31 := by
  have h1 := ch_le n k
  have h2 : (2 : Nat) ^ n ≤ 2 ^ 100 := Nat.pow_le_pow_right (by decide) hn
  have h3 : (2 : Nat) ^ 100 < 10 ^ 31 := by decide
  omega
theorem bb4 : BB ^ 4 = 10 ^ 36 := by decide
theorem ch_nw {n k : Nat} (hn : n ≤ 100) : nw (ch n k) ≤ 4 := nw_le.2 (by rw [bb4]; exact Nat.lt_of_lt_of_le (ch_lt hn) (Nat.pow_le_pow_right (by decide) (by decide)))
theorem ch_next {n i : Nat} (h : i ≤ n) : ch n i * (n - i) / (i + 1) = ch n (i + 1) := by
  rw [← ch_step h, Nat.mul_div_cancel _ (by omega)]
theorem ch_room {X m : Nat} (hx : X < 10 ^ 31) (hm : m ≤ 1000) : X * m < BB ^ 232 ∧ nw X + nw m ≤ 232 := by
  have h1 : nw X ≤ 4 := nw_le.2 (by rw [bb4]; exact Nat.lt_of_lt_of_le hx (Nat.pow_le_pow_right (by decide) (by decide)))
  have h2 : nw m ≤ 1 := nw_le.2 (by simp only [BB]; omega)
  refine ⟨?_, by omega⟩
  have h3 : X * m ≤ 10 ^ 31 * 10 ^ 3 := Nat.mul_le_mul (Nat.le_of_lt hx) (by rw [show (10 : Nat) ^ 3 = 1000 by decide]; exact hm)
  have h4 : (10 : Nat) ^ 31 * 10 ^ 3 < BB ^ 4 := by rw [bb4]; decide
  have h5 : BB ^ 4 ≤ BB ^ 232 := Nat.pow_le_pow_right (by decide) (by decide)
  omega
theorem nw_small {m : Nat} (hm : m ≤ 1000) : nw m ≤ 200 := Nat.le_trans (nw_le.2 (by simp only [BB]; omega : m < BB ^ 1)) (by decide)
end M
namespace W
open M
attribute [local go_sem] bs_size bs_toList bs_get bs_extract bs_append bs_lit0 bs_lit1 lit1_bs
set_option maxHeartbeats 1000000
set_option maxRecDepth 20000
theorem binomial_ok (n k : Nat) (w : World) (hg : Glob w) (hn : n ≤ 100) (hk : k ≤ n) :
    Calls Tryz.prog 71 #[.int .i64 (n : Int), .int .i64 (k : Int)] w (Ret w (.tuple #[.string (bs (I ((ch n k : Nat) : Int))), .int .i64 0])) := by
  have HR1 := Lib.hid (read_I 1 w (ok_of (by decide)))
  have H1 := Lib.hid I_one
  have HRN := Lib.hid (fun (m : Nat) (hm : m ≤ 1000) wx => read_I (m : Int) wx (ok_of (by omega)))
  have HOF := Lib.hid (fun (m : Nat) (hm : m ≤ 1000) wx hgx => vof_any (m : Int) wx hgx (by omega) (by omega))
  have HM := Lib.hid (ch_min hk)
  have HN := Lib.hid (fun i => @ch_nw n i hn)
  have HNX := Lib.hid (fun i h => @ch_next n i h)
  have hok : Ok ((ch n k : Nat) : Int) := ok_pow (k := 31) (by rw [Int.natAbs_natCast]; exact ch_lt hn) (by decide)
  have HL := Lib.hid (fun b wx hgx hwx => limited_any b false (ch n k) wx hgx hwx)
  have hsg : sg false (ch n k) = ((ch n k : Nat) : Int) := rfl
  rw [hsg, resV_ok hok] at HL
  have HLT := Lib.hid (fun i => @ch_lt n i hn)
  obtain ⟨m, hm⟩ : ∃ m, min k (n - k) = m := ⟨_, rfl⟩
  have hmn : m ≤ n := by omega
  have hmin : min (k : Int) ((n : Int) - (k : Int)) = (m : Int) := by omega
  have hmk : m ≤ k ∧ m ≤ n - k := by omega
  rw [hm] at HM
  have HMI := Lib.hid hmin
  clear hok hsg hm hmin
  go_enter Tryz.func71, Tryz.ntmps71
  go_wp2_with fail
  rw [show (Value.string ⟨#[49]⟩) = Value.string (bs (I 1)) by rw [H1.out]; rfl]
  refine HR1.out.mono ?_
  rintro e w1 ⟨b1, hb1, rfl, hw1, hbe1⟩
  have hbw0 := hbe1
  clear hbe1
  go_wp2
  rw [HMI.out]
  go_loopw [6, 27] (fun ov iv wr => ∃ (i b : Nat), iv = .int .i64 (i : Int) ∧ ov = .pointer (some ⟨b, 0, none⟩) ∧ i ≤ m ∧ Wide wr b false (ch n i) ∧ Below w.heap.size w wr) (fun _ iv _ => m - (intOf iv).toNat)
  case atStart => exact ⟨0, b1, rfl, rfl, by omega, by rw [ch_zero]; exact hw1, hbw0⟩
  case round =>
    clear hw1 hbw0
    obtain ⟨i, b, rfl, rfl, him, hwd, hbw⟩ := hrel
    by_cases hlt : i < m
    · have hc := HN.out i
      have hc2 := HN.out (i + 1)
      have HWD := Lib.hid hwd
      have e1 : (n : Int) - (i : Int) = ((n - i : Nat) : Int) := by omega
      have HE1 := Lib.hid e1
      clear hwd e1
      go_wp2_with fail
      rw [HE1.out]
      refine (HOF.out (n - i) (by omega) _ (hg.of hbw)).mono ?_
      rintro e w2 ⟨rfl, hb2⟩
      have hb2' := hbw.trans (hb2.mono hbw.size)
      go_wp2_with fail
      refine (HRN.out (n - i) (by omega) _).mono ?_
      rintro e w3 ⟨b3, hb3, rfl, hw3, hbe3⟩
      have hb3' := Below.then hb2' hbe3
      have hwd3 := (HWD.out.below hb2).below hbe3
      go_wp2_with fail
      refine (times_any b b3 _ _ _ _ _ hwd3 hw3 ?_ ?_).mono ?_
      · rw [Int.natAbs_natCast]; exact (ch_room (HLT.out i) (by omega)).1
      · rw [Int.natAbs_natCast]; exact (ch_room (HLT.out i) (by omega)).2
      rintro e w4 ⟨b4, hb4, rfl, hw4, hbe4⟩
      rw [Int.natAbs_natCast, show decide (((n - i : Nat) : Int) < 0) = false by simp] at hw4
      have hb4' := Below.then hb3' hbe4
      have e2 : (i : Int) + 1 = ((i + 1 : Nat) : Int) := by omega
      have HE2 := Lib.hid e2
      have HW4 := Lib.hid hw4
      clear hw3 hwd3 hw4 hb2 hbe3 hbe4 hb3 hb4 e2
      go_wp2_with fail
      rw [HE2.out]
      refine (HOF.out (i + 1) (by omega) _ (hg.of hb4')).mono ?_
      rintro e w5 ⟨rfl, hb5⟩
      have hb5' := Below.then hb4' hb5
      go_wp2_with fail
      refine (HRN.out (i + 1) (by omega) _).mono ?_
      rintro e w6 ⟨b6, hb6, rfl, hw6, hbe6⟩
      have hb6' := Below.then hb5' hbe6
      have hw46 := (HW4.out.below hb5).below hbe6
      rw [Int.natAbs_natCast] at hw6
      go_wp2_with fail
      refine (divided_any b4 b6 _ _ _ _ _ hw46 hw6 (by omega) (nw_small (by omega))).mono ?_
      rintro e w7 ⟨bq, br, hbq, hbr, hne, rfl, hwq, hwr, hbe7⟩
      have hb7' := Below.then hb6' hbe7
      rw [HNX.out i (by omega)] at hwq
      have cn := n_cell hwq
      have HWQ := Lib.hid hwq
      have hc3 : ((nw (ch n (i + 1)) : Nat) : Int) ≤ 4 := by omega
      have hc4 : (0 : Int) ≤ ((nw (ch n (i + 1)) : Nat) : Int) := by omega
      clear hwq hwr hw46 hw6 hbe7 hbe6 hb5 hb6 hbq hbr hne hc hc2
      generalize ((nw (ch n (i + 1)) : Nat) : Int) = q at *
      go_wp2
      go_roundw
      case rel => exact ⟨i + 1, bq, by go_num, rfl, by omega, HWQ.out, hb7'⟩
      case measure => simp [intOf]; omega
    · obtain rfl : i = m := by omega
      rw [HM.out] at hwd
      have HWD := Lib.hid hwd
      clear hwd
      go_wp2_with fail
      refine (HL.out b _ (hg.of hbw) HWD.out).mono ?_
      rintro e w2 ⟨rfl, hb2⟩
      go_wp2
      go_ret2
      exact Ret.of rfl (hbw.trans (hb2.mono hbw.size))
end W
end Go.Proofs.YtgjfiaadnecilaaGreatDoor
namespace Go.Proofs.YtgjfiaadnecilaaGreatDoor
open Go Go.RowKit Go.Deep
namespace M
def ipw (a : Int) (k : Nat) : Int := a ^ k
theorem ipw_zero (a : Int) : ipw a 0 = 1 := by unfold ipw; exact Int.pow_zero a
theorem ipw_succ (a : Int) (k : Nat) : ipw a (k + 1) = ipw a k * a := Int.pow_succ a k
def powl (a : Int) (k : Nat) : List (List UInt8) := (List.range k).map fun j => I (ipw a j)
theorem powl_succ (a : Int) (k : Nat) : powl a (k + 1) = powl a k ++ [I (ipw a k)] := by unfold powl; rw [List.range_succ, List.map_append]; rfl
theorem powl_len (a : Int) (k : Nat) : (powl a k).length = k := by simp [powl]
theorem powl_get (a : Int) (k j : Nat) (h : j < (powl a k).length) : (powl a k)[j] = I (ipw a j) := by simp [powl]
theorem powl_one (a : Int) : powl a 1 = [I 1] := by rw [powl_succ, ipw_zero]; rfl
theorem ipw_bd {a : Int} {k j n : Nat} (ha : a.natAbs < 10 ^ j) (hk : k ≤ n) : (ipw a k).natAbs < 10 ^ (j * n + 1) := by
  unfold ipw
  rw [Int.natAbs_pow]
  have h1 : a.natAbs ^ k ≤ (10 ^ j) ^ k := Nat.pow_le_pow_left (Nat.le_of_lt ha) k
  rw [← Nat.pow_mul] at h1
  have h2 : (10 : Nat) ^ (j * k) ≤ 10 ^ (j * n) := Nat.pow_le_pow_right (by decide) (Nat.mul_le_mul_left _ hk)
  have h3 : (10 : Nat) ^ (j * n) < 10 ^ (j * n + 1) := Nat.pow_lt_pow_right (by decide) (by omega)
  omega
end M
/-- The powers of a number, in a row of texts. -/
def PowAt (w : World) (g : Nat) (a : Int) (n : Nat) : Prop := g < w.heap.size ∧ ∀ j, j ≤ n → w.cell? ⟨g, j, none⟩ = some (.string (bs (M.I (M.ipw a j))))
theorem PowAt.below {w w' : World} {g : Nat} {a : Int} {n : Nat} (h : PowAt w g a n) (hb : Below w.heap.size w w') : PowAt w' g a n :=
  ⟨Nat.lt_of_lt_of_le h.1 hb.size, fun j hj => (hb.cell (p := ⟨g, j, none⟩) h.1).trans (h.2 j hj)⟩
namespace W
open M
attribute [local go_sem] bs_size bs_toList bs_get bs_extract bs_append bs_lit0 bs_lit1 lit1_bs
set_option maxHeartbeats 1000000
set_option maxRecDepth 20000
theorem product_ok (zs : List Int) (bl cap : Nat) (w : World) (hg : Glob w) (hz : ∀ z ∈ zs, Ok z) (hp : ∀ k, k ≤ zs.length → Ok (pr (zs.take k))) (hn : zs.length ≤ 1000) (hbl : bl < w.heap.size)
    (hc : ∀ i (h : i < zs.length), w.cell? ⟨bl, i, none⟩ = some (.string (bs (I zs[i])))) :
    Calls Tryz.prog 72 #[.slice (some ⟨bl, 0, none⟩) zs.length cap] w (Ret w (.tuple #[.string (bs (I (pr zs))), .int .i64 0])) := by
  have HC := Lib.hid hc
  have HZ := Lib.hid hz
  have HP := Lib.hid hp
  have H1 := Lib.hid I_one
  have HPR : Hid (pr zs = pr (zs.take zs.length)) := by rw [List.take_length]; exact rfl
  clear hc hz hp
  go_enter Tryz.func72, Tryz.ntmps72
  go_wp2
  go_loopw [4, 10] (fun ov iv wr => ∃ i : Nat, iv = .int .i64 (i : Int) ∧ i ≤ zs.length ∧ ov = .string (bs (I (pr (zs.take i)))) ∧ Below w.heap.size w wr) (fun _ iv _ => zs.length - (intOf iv).toNat)
  case atStart =>
    refine ⟨0, rfl, by omega, ?_, Below.refl _ _⟩
    rw [List.take_zero, pr, H1.out]; rfl
  case round =>
    obtain ⟨i, rfl, hi, rfl, hbw⟩ := hrel
    by_cases hlt : i < zs.length
    · have hcell : wr.cell? ⟨bl, i, none⟩ = some (.string (bs (I zs[i]))) := (hbw.cell (by exact hbl)).trans (HC.out i hlt)
      have hq := pr_take zs i hlt
      have HD := mul_I (pr (zs.take i)) zs[i] wr (hg.of hbw) (HP.out i hi) (HZ.out _ (List.getElem_mem hlt))
      rw [← hq, resV_ok (HP.out (i + 1) hlt)] at HD
      have HDD := Lib.hid HD
      generalize hx : pr (zs.take (i + 1)) = x at *
      have HX := Lib.hid hx
      clear hq HD hx
      go_wp2_with fail
      refine (HDD.out).mono ?_
      rintro e w1 ⟨rfl, hb1⟩
      go_wp2
      go_roundw
      case rel => exact ⟨i + 1, by go_num, by omega, by rw [HX.out], hbw.trans (hb1.mono hbw.size)⟩
      case measure => simp [intOf]; omega
    · obtain rfl : i = zs.length := by omega
      go_wp2
      go_ret2
      exact Ret.of (by rw [HPR.out]; rfl) hbw
/-- What 'powers' returns. -/
def PowP (a : Int) (n : Nat) (w : World) (e : Ending) (w' : World) : Prop := ∃ g cp, w.heap.size ≤ g ∧ e = .returned (.tuple #[.slice (some ⟨g, 0, none⟩) (n + 1) cp, .int .i64 0]) ∧ PowAt w' g a n ∧ Below w.heap.size w w'
theorem OwnS.powAt {w : World} {B g cp : Nat} {a : Int} {n : Nat} (h : OwnS w B (.slice (some ⟨g, 0, none⟩) (n + 1) cp) (powl a (n + 1))) : B ≤ g ∧ PowAt w g a n := by
  obtain ⟨g2, cp2, e, hB, hlt, hc⟩ := h.form (by intro e; have := congrArg List.length e; rw [powl_len] at this; simp at this)
  rw [powl_len] at e
  obtain ⟨rfl, _⟩ : g = g2 ∧ cp = cp2 := by simpa using e
  refine ⟨hB, hlt, fun j hj => ?_⟩
  have hj2 : j < (powl a (n + 1)).length := by rw [powl_len]; omega
  have := hc j hj2
  rw [powl_get] at this
  exact this
theorem powers_ok (a : Int) (n : Nat) (w : World) (hg : Glob w) (ha : -1048576 ≤ a ∧ a ≤ 1048576) (hn : n ≤ 1000) (ho : ∀ j, j ≤ n → Ok (ipw a j)) :
    Calls Tryz.prog 70 #[.int .i64 a, .int .i64 (n : Int)] w (PowP a n w) := by
  have HO := Lib.hid ho
  have H1 := Lib.hid I_one
  have HOF := Lib.hid (fun wx hgx => vof_any a wx hgx (by omega) (by omega))
  have hok : Ok a := ok_of (by omega)
  have HM := Lib.hid (fun i (hi : i ≤ n) wx hgx => mul_I (ipw a i) a wx hgx (ho i hi) hok)
  have hown0 : OwnS (w.alloc (.cells #[.string (bs (I 1))] 39 (0, 0))) w.heap.size (.slice (some ⟨w.heap.size, 0, none⟩) 1 1) (powl a 1) := by
    rw [powl_one]
    exact World.ownsRow_lit w #[.string (bs (I 1))] 1 (Nat.le_refl _) (by decide) rfl
  have HO0 := Lib.hid hown0
  clear ho hok hown0
  go_enter Tryz.func70, Tryz.ntmps70
  go_wp2
  go_loopw [6, 12] (fun ov iv wr => ∃ (i g cp : Nat), iv = .int .i64 (i : Int) ∧ ov = .slice (some ⟨g, 0, none⟩) (i + 1) cp ∧ i ≤ n ∧ Hid (OwnS wr w.heap.size (.slice (some ⟨g, 0, none⟩) (i + 1) cp) (powl a (i + 1))) ∧ Below w.heap.size w wr) (fun _ iv _ => n - (intOf iv).toNat)
  case atStart =>
    refine ⟨0, w.heap.size, 1, rfl, rfl, by omega, ?_, (Below.refl _ _).alloc (Nat.le_refl _) _⟩
    have := HO0.out
    rw [H1.out] at this
    exact this
  case round =>
    clear HO0
    obtain ⟨i, g, cp, rfl, rfl, hi, hown, hbw⟩ := hrel
    have hpw := OwnS.powAt hown.out
    by_cases hlt : i < n
    · have c1 := hpw.2.2 i (Nat.le_refl _)
      have hglt := hpw.2.1
      have hm := fun wx hgx => HM.out i hi wx hgx
      rw [← ipw_succ] at hm
      have hm2 := fun wx hgx => hm wx hgx
      rw [resV_ok (HO.out (i + 1) hlt)] at hm2
      have HMM := Lib.hid hm2
      have HPS := Lib.hid (powl_succ a (i + 1))
      have hi0 : (0 : Int) ≤ (i : Int) := by omega
      have hi1 : (i : Int) < (i : Int) + 1 := by omega
      have hbd : Below w.heap.size w wr.drew := hbw.trans ((RowKit.Below.drew (Below.refl _ wr)).mono hbw.size)
      clear hm hm2 hpw
      go_wp2
      go_region_with (first | (go_at_call 112; refine (HOF.out _ (hg.of hbd)).mono ?_; rintro e w5 ⟨rfl, hb5⟩; have c2 := (hb5.cell (p := ⟨g, i, none⟩) hglt).trans c1) | (go_at_call 111; refine (HMM.out _ (hg.of (Below.then hbd hb5))).mono ?_; rintro e w6 ⟨rfl, hb6⟩))
      all_goals
        have hb9 := Below.then (Below.then hbd hb5) hb6
        have hown2 : OwnS w6 w.heap.size (.slice (some ⟨g, 0, none⟩) (i + 1) cp) (powl a (i + 1)) := OwnS.below (OwnS.below (w := wr.drew) hown.out hb5) hb6
        have hln : (powl a (i + 1)).length ≤ 1000000000 := by rw [powl_len]; omega
        have HX := Lib.hid (And.intro hown2 (And.intro hb9 hln))
        clear hown2 hb9 hln c1 c2 hown
        go_wp2_with (at_builtin; refine wpList_app_s rfl _ _ rfl rfl rfl rfl HX.out.1 HX.out.2.1.size HX.out.2.2 ?_; intro v' w' ho' hk')
        rw [← HPS.out] at ho'
        obtain ⟨g2, cp2, hv, _⟩ := ho'.form (by intro e; have := congrArg List.length e; rw [powl_len] at this; simp at this)
        rw [powl_len] at hv
        have hbk := hk' _ _ (Nat.le_refl _) HX.out.2.1
        subst hv
        go_roundw
        case rel => exact ⟨i + 1, g2, cp2, by go_num, rfl, by omega, ho', hbk⟩
        case measure => simp [intOf]; omega
    · obtain rfl : i = n := by omega
      have HPW := Lib.hid hpw
      clear hpw hown
      go_wp2
      go_ret2
      exact ⟨g, cp, HPW.out.1, rfl, HPW.out.2, hbw⟩
end W
end Go.Proofs.YtgjfiaadnecilaaGreatDoor
namespace Go.Proofs.YtgjfiaadnecilaaGreatDoor
open Go Go.RowKit Go.Deep
namespace M
/-- The weight of k successes among n trials. -/
def wB (n : Nat) (p q : Int) (k : Nat) : Int := pr [((ch n k : Nat) : Int), ipw p k, ipw (q - p) (n - k)]
def triL (n : Nat) (p q : Int) : Nat → List ZT
  | 0 => []
  | k + 1 => triL n p q k ++ (if wB n p q k = 0 then [] else [((k : Int), wB n p q k)])
theorem triL_yes {n : Nat} {p q : Int} {k : Nat} (h : wB n p q k ≠ 0) : tx (triL n p q (k + 1)) = tx (triL n p q k) ++ [((k : Int), I (wB n p q k))] := by
  rw [triL, if_neg h, tx_append]; rfl
theorem triL_no {n : Nat} {p q : Int} {k : Nat} (h : wB n p q k = 0) : tx (triL n p q (k + 1)) = tx (triL n p q k) := by
  rw [triL, if_pos h, List.append_nil]
theorem triL_len (n : Nat) (p q : Int) (k : Nat) : (tx (triL n p q k)).length ≤ k := by
  induction k with
  | zero => simp [triL, tx]
  | succ k ih =>
    by_cases h : wB n p q k = 0
    · rw [triL_no h]; omega
    · rw [triL_yes h, List.length_append]; simp; omega
/-- Fewer trials. -/
def OkS (n : Nat) (p q : Int) : Prop := n ≤ 60 ∧ 1 ≤ q ∧ q ≤ 1048576 ∧ 0 ≤ p ∧ p ≤ q
theorem OkS.pw {n : Nat} {p q : Int} (h : OkS n p q) {J : Nat} (hJ : J = 421) : (∀ j, j ≤ n → (ipw p j).natAbs < 10 ^ J) ∧ (∀ j, j ≤ n → (ipw (q - p) j).natAbs < 10 ^ J) := by
  obtain ⟨h1, h2, h3, h4, h5⟩ := h
  have hp : p.natAbs < 10 ^ 7 := by rw [show (10 : Nat) ^ 7 = 10000000 by decide]; omega
  have hq : (q - p).natAbs < 10 ^ 7 := by rw [show (10 : Nat) ^ 7 = 10000000 by decide]; omega
  have e : J = 7 * 60 + 1 := by omega
  clear hJ
  subst e
  generalize hN : 60 = N at *
  exact ⟨fun j hj => ipw_bd hp (Nat.le_trans hj h1), fun j hj => ipw_bd hq (Nat.le_trans hj h1)⟩
theorem OkS.terms {n : Nat} {p q : Int} (h : OkS n p q) (k : Nat) (hk : k ≤ n) : Ok ((ch n k : Nat) : Int) ∧ Ok (ipw p k) ∧ Ok (ipw (q - p) (n - k)) ∧ Ok (((ch n k : Nat) : Int) * ipw p k) ∧ Ok (wB n p q k) := by
  obtain ⟨J, hJ⟩ : ∃ J, J = 421 := ⟨_, rfl⟩
  obtain ⟨K, hK⟩ : ∃ K, K = 31 := ⟨_, rfl⟩
  have h1 : (((ch n k : Nat) : Int)).natAbs < 10 ^ K := by rw [Int.natAbs_natCast, hK]; exact ch_lt (by have := h.1; omega)
  have h2 := (h.pw hJ).1 k hk
  have h3 := (h.pw hJ).2 (n - k) (by omega)
  have h4 := mul_pow h1 h2
  have h5 := mul_pow h4 h3
  have e : wB n p q k = ((ch n k : Nat) : Int) * ipw p k * ipw (q - p) (n - k) := by unfold wB; simp only [pr]; rw [Int.mul_one, Int.mul_assoc]
  rw [← e] at h5
  exact ⟨ok_pow h1 (by omega), ok_pow h2 (by omega), ok_pow h3 (by omega), ok_pow h4 (by omega), ok_pow h5 (by omega)⟩
theorem OkS.okp {n : Nat} {p q : Int} (h : OkS n p q) (j : Nat) (hj : j ≤ n) : Ok (ipw p j) ∧ Ok (ipw (q - p) j) := by
  obtain ⟨J, hJ⟩ : ∃ J, J = 421 := ⟨_, rfl⟩
  exact ⟨ok_pow ((h.pw hJ).1 j hj) (by omega), ok_pow ((h.pw hJ).2 j hj) (by omega)⟩
end M
namespace W
open M
attribute [local go_sem] bs_size bs_toList bs_get bs_extract bs_append bs_lit0 bs_lit1 lit1_bs
set_option maxHeartbeats 1000000
set_option maxRecDepth 20000
theorem prod_three (x y z : Int) (w : World) (hg : Glob w) (hx : Ok x) (hy : Ok y) (hz : Ok z) (hxy : Ok (x * y)) (hp : Ok (pr [x, y, z])) :
    Calls Tryz.prog 72 #[.slice (some ⟨w.heap.size, 0, none⟩) 3 3] (w.alloc (.cells #[.string (bs (I x)), .string (bs (I y)), .string (bs (I z))] 39)) (Ret (w.alloc (.cells #[.string (bs (I x)), .string (bs (I y)), .string (bs (I z))] 39)) (.tuple #[.string (bs (I (pr [x, y, z]))), .int .i64 0])) := by
  have hr := Row.new w 39 [.string (bs (I x)), .string (bs (I y)), .string (bs (I z))]
  exact product_ok [x, y, z] w.heap.size 3 _ (alloc_glob hg _) (fun z hz => by simp at hz; rcases hz with rfl | rfl | rfl <;> assumption)
    (fun k hk => by
      match k, hk with
      | 0, _ => exact ok_of (by simp [pr])
      | 1, _ => simpa [pr] using hx
      | 2, _ => simpa [pr] using hxy
      | 3, _ => exact hp) (by simp) hr.lt (fun i hi => by
      match i, hi with
      | 0, _ => exact hr.cell rfl
      | 1, _ => exact hr.cell rfl
      | 2, _ => exact hr.cell rfl)
theorem binom_bad (n p q : Int) (w : World) (h : n < 0 ∨ 256 < n ∨ q < 1 ∨ 1048576 < q ∨ p < 0 ∨ q < p) :
    Calls Tryz.prog 28 #[.int .i64 n, .int .i64 p, .int .i64 q] w (Ret w (.tuple #[.slice none 0 0, .int .i64 2])) := by
  by_cases h1 : n < 0
  · clear h
    go_enter Tryz.func28, Tryz.ntmps28
    go_wp2
    go_ret2
    exact Ret.of rfl (Below.refl _ _)
  have d1 : decide (n < 0) = false := decide_eq_false h1
  by_cases h2 : 256 < n
  · clear h
    go_enter Tryz.func28, Tryz.ntmps28
    go_wp2
    go_ret2
    exact Ret.of rfl (Below.refl _ _)
  have d2 : decide (256 < n) = false := decide_eq_false h2
  by_cases h3 : q < 1
  · clear h
    go_enter Tryz.func28, Tryz.ntmps28
    go_wp2
    go_ret2
    exact Ret.of rfl (Below.refl _ _)
  have d3 : decide (q < 1) = false := decide_eq_false h3
  by_cases h4 : 1048576 < q
  · clear h
    go_enter Tryz.func28, Tryz.ntmps28
    go_wp2
    go_ret2
    exact Ret.of rfl (Below.refl _ _)
  have d4 : decide (1048576 < q) = false := decide_eq_false h4
  by_cases h5 : p < 0
  · clear h
    go_enter Tryz.func28, Tryz.ntmps28
    go_wp2
    go_ret2
    exact Ret.of rfl (Below.refl _ _)
  have d5 : decide (p < 0) = false := decide_eq_false h5
  have h6 : q < p := by omega
  clear h
  go_enter Tryz.func28, Tryz.ntmps28
  go_wp2
  go_ret2
  exact Ret.of rfl (Below.refl _ _)
theorem binom_ok (n : Nat) (p q : Int) (w : World) (hg : Glob w) (h : OkS n p q) :
    Calls Tryz.prog 28 #[.int .i64 (n : Int), .int .i64 p, .int .i64 q] w (ListP true (tx (triL n p q (n + 1))) 0 w) := by
  have HT := Lib.hid (fun k hk => h.terms k hk)
  have HTL := Lib.hid (fun k => triL_len n p q k)
  have HY := Lib.hid (fun k => @triL_yes n p q k)
  have HN := Lib.hid (fun k => @triL_no n p q k)
  obtain ⟨h1, h2, h3, h4, h5⟩ := id h
  have HP1 := Lib.hid (fun wx hgx => powers_ok p n wx hgx (by omega) (by omega) (fun j hj => (h.okp j hj).1))
  have HP2 := Lib.hid (fun wx hgx => powers_ok (q - p) n wx hgx (by omega) (by omega) (fun j hj => (h.okp j hj).2))
  have HB := Lib.hid (fun k (hk : k ≤ n) wx hgx => binomial_ok n k wx hgx (by omega) hk)
  have hw1 : wrap64 (q - p) = q - p := IntWalk.wrap64_in _ (by omega)
  have d1 : decide ((n : Int) < 0) = false := by simp
  have d2 : decide (256 < (n : Int)) = false := by simp; omega
  have d3 : decide (q < 1) = false := by simp; omega
  have d4 : decide (1048576 < q) = false := by simp; omega
  have d5 : decide (p < 0) = false := by simp; omega
  have d6 : decide (q < p) = false := by simp; omega
  have HWB := Lib.hid (fun k => show pr [((ch n k : Nat) : Int), ipw p k, ipw (q - p) (n - k)] = wB n p q k from rfl)
  clear h
  go_enter Tryz.func28, Tryz.ntmps28
  go_wp2_with fail
  refine (HP1.out _ hg).mono ?_
  rintro e w1 ⟨g1, c1, hg1, rfl, hpa1, hb1⟩
  go_wp2_with fail
  refine (HP2.out _ (hg.of hb1)).mono ?_
  rintro e w2 ⟨g2, c2, hg2, rfl, hpa2, hb2⟩
  have hpa1' := hpa1.below hb2
  have hb2' := Below.then hb1 hb2
  have HWW := Lib.hid hb2'.size
  have HPA := Lib.hid (And.intro hpa1' hpa2)
  have hgs : g1 < w2.heap.size := hpa1'.1
  have hgs2 : g2 < w2.heap.size := hpa2.1
  clear hpa1 hpa2 hpa1' hb1 hb2 hg1 hg2
  go_wp2
  go_loopw [11, 61] (fun ov iv wr => ∃ (k : Nat) (vo : Value), iv = .int .i64 (k : Int) ∧ ov = vo ∧ k ≤ n + 1 ∧ Hid (OwnW wr w2.heap.size vo (tx (triL n p q k))) ∧ Below w.heap.size w wr ∧ Below w2.heap.size w2 wr) (fun _ iv _ => n + 1 - (intOf iv).toNat)
  case atStart => exact ⟨0, _, rfl, rfl, by omega, OwnW.nil _ _, hb2', Below.refl _ _⟩
  case round =>
    clear hb2'
    obtain ⟨k, ov, rfl, hvo, hk, hown, hbw, hbw2⟩ := hrel
    have hvo := hvo.symm
    subst hvo
    by_cases hlt : k < n + 1
    · have hkn : k ≤ n := by omega
      have p1 := (HPA.out.1.below hbw2).2 k hkn
      have p2 := (HPA.out.2.below hbw2).2 (n - k) (by omega)
      have hg1 := (HPA.out.1.below hbw2).1
      have hg2 := (HPA.out.2.below hbw2).1
      have HBI := Lib.hid (HB.out k hkn)
      obtain ⟨t1, t2, t3, t4, t5⟩ := HT.out k hkn
      have HPR := Lib.hid (fun wx hgx => prod_three _ _ _ wx hgx t1 t2 t3 t4 (by rw [HWB.out]; exact t5))
      rw [HWB.out k] at HPR
      have hk0 : (0 : Int) ≤ (k : Int) := by omega
      have hk1 : (k : Int) < (n : Int) + 1 := by omega
      have e1 : (n : Int) - (k : Int) = ((n - k : Nat) : Int) := by omega
      have hn0 : (0 : Int) ≤ (n : Int) - (k : Int) := by omega
      have hn1 : (n : Int) - (k : Int) < (n : Int) + 1 := by omega
      have e2 : ((n : Int) - (k : Int)).toNat = n - k := by omega
      have HE := Lib.hid (And.intro e1 e2)
      clear t1 t2 t3 t4 t5 e1 e2
      go_wp2_with fail
      refine (HBI.out _ (hg.of hbw)).mono ?_
      rintro e w3 ⟨rfl, hb3⟩
      have p3 := (hb3.cell (p := ⟨g1, k, none⟩) hg1).trans p1
      have p4 := (hb3.cell (p := ⟨g2, n - k, none⟩) hg2).trans p2
      have hb3' := hbw.trans (hb3.mono hbw.size)
      have hb32 := hbw2.trans (hb3.mono hbw2.size)
      have ho3 := OwnW.below hown.out hb3
      have HO3 := Lib.hid ho3
      clear p1 p2 ho3 hown
      have p5 := p4
      rw [← HE.out.2] at p5
      have hwk : IntKind.i64.wrap ((n : Int) - (k : Int)) = (n : Int) - (k : Int) := IntWalk.i64_in _ (by omega)
      have hgd : Glob w3.drew := hg.of (hb3'.trans ((RowKit.Below.drew (Below.refl _ w3)).mono hb3'.size))
      have hkl : k < 1000000 := by omega
      by_cases h0 : wB n p q k = 0
      · have hz : (I (wB n p q k) == [48]) = true := by rw [beq_iff_eq]; exact I_eq_zero.2 h0
        have HX := Lib.hid (HN.out k h0)
        clear h0
        generalize wB n p q k = wk at *
        go_wp2
        go_region_with (go_at_call 72; refine (HPR.out w3.drew hgd).mono ?_; rintro e w4 ⟨rfl, hb4⟩)
        all_goals
          have hb4a := alloc_then hb4
          have hbd3 : Below w3.heap.size w3 w4 := (RowKit.Below.drew (Below.refl _ w3)).trans hb4a
          have hb4' := hb3'.trans (hbd3.mono hb3'.size)
          have hb42 := hb32.trans (hbd3.mono hb32.size)
          have ho4 := OwnW.below HO3.out hbd3
          have HO4 := Lib.hid ho4
          clear ho4 hb4 hb4a hbd3 p3 p4 p5
          go_wp2
          go_roundw
          case rel => exact ⟨k + 1, _, by go_num, rfl, by omega, by rw [HX.out]; exact HO4.out, hb4', hb42⟩
          case measure => simp [intOf]; omega
      · have hz : (I (wB n p q k) == [48]) = false := by
          rw [beq_eq_false_iff_ne]; intro e; exact h0 (I_eq_zero.1 e)
        have HX := Lib.hid (HY.out k h0)
        have hl4 := HTL.out k
        clear h0
        generalize wB n p q k = wk at *
        go_wp2
        go_region_with (go_at_call 72; refine (HPR.out w3.drew hgd).mono ?_; rintro e w4 ⟨rfl, hb4⟩)
        all_goals
          have hb4a := alloc_then hb4
          have hbd3 : Below w3.heap.size w3 w4 := (RowKit.Below.drew (Below.refl _ w3)).trans hb4a
          have hb4' := hb3'.trans (hbd3.mono hb3'.size)
          have hb42 := hb32.trans (hbd3.mono hb32.size)
          have ho4 := OwnW.below HO3.out hbd3
          have HO4 := Lib.hid ho4
          have hl5 : (tx (triL n p q k)).length ≤ 1000000000 := by omega
          have HB4 := Lib.hid (And.intro hb4' (And.intro hb42 hl5))
          clear ho4 hb4 hb4a hbd3 p3 p4 p5 hl4 hl5 hb4' hb42
          go_wp2_with (at_builtin; refine wpList_app_w rfl _ _ rfl rfl rfl rfl HO4.out HB4.out.2.1.size HB4.out.2.2 ?_; intro v' w' ho' hk')
          have hbk := hk' _ _ HWW.out HB4.out.1
          have hbk2 := hk' _ _ (Nat.le_refl _) HB4.out.2.1
          go_roundw
          case rel => exact ⟨k + 1, _, by go_num, rfl, by omega, by rw [HX.out]; exact ho', hbk, hbk2⟩
          case measure => simp [intOf]; omega
    · obtain rfl : k = n + 1 := by omega
      go_wp2
      go_ret2
      exact ListP.yes (ownsRow_base hown.out HWW.out) hbw
end W
end Go.Proofs.YtgjfiaadnecilaaGreatDoor
namespace Go.Proofs.YtgjfiaadnecilaaGreatDoor
open Go Go.RowKit Go.Deep
namespace M
def samp : List ZT := [(1, 1), (2, 2), (4, 1)]
theorem I_dig {n : Nat} (h : n < 10) : I (n : Int) = [UInt8.ofNat (48 + n)] := by rw [I_nonneg, D_small h]
theorem I_two {n : Nat} (h : 10 ≤ n) (h2 : n < 100) : I (n : Int) = [UInt8.ofNat (48 + n / 10), UInt8.ofNat (48 + n % 10)] := by
  rw [I_nonneg, D_big (by omega), D_small (by omega)]; rfl
theorem samp_good : GoodL samp := by
  refine ⟨⟨by decide, ok_of (by decide), by decide, by decide, by decide, ok_of (by decide), by decide, by simp, by decide, ok_of (by decide), by decide, by simp, trivial⟩, by decide, by decide, ?_⟩
  intro x hx
  simp [samp] at hx
  rcases hx with rfl | rfl | rfl <;> decide
theorem R_frac {n d : Int} (hd : 1 < d) (hg : Int.gcd n d = 1) : R (Rat.divInt n d) = I n ++ 47 :: I d := by
  obtain ⟨l1, l2, _⟩ := low_num n d (by omega) 1 (by rw [if_neg (by omega), hg]; rfl)
  rw [Int.fdiv_one] at l1 l2
  unfold R
  rw [← l1, ← l2, if_neg (by omega)]
theorem samp_mean : R (meanQ samp) = [57, 47, 52] := by
  have h1 : meanQ samp = Rat.divInt 9 4 := by unfold meanQ; rw [show mo 1 samp = 9 by decide, show tot samp = 4 by decide]
  rw [h1, R_frac (by decide) (by decide), show (9 : Int) = ((9 : Nat) : Int) from rfl, show (4 : Int) = ((4 : Nat) : Int) from rfl, I_dig (by decide), I_dig (by decide)]; rfl
theorem samp_var : R (varQ samp) = [49, 57, 47, 49, 54] := by
  have h1 : varQ samp = Rat.divInt 19 16 := by
    unfold varQ secQ meanQ
    rw [show mo 1 samp = 9 by decide, show mo 2 samp = 25 by decide, show tot samp = 4 by decide]
    rw [Rat.divInt_eq_div, Rat.divInt_eq_div, Rat.divInt_eq_div]
    grind
  rw [h1, R_frac (by decide) (by decide), show (19 : Int) = ((19 : Nat) : Int) from rfl, show (16 : Int) = ((16 : Nat) : Int) from rfl, I_two (by decide) (by decide), I_two (by decide) (by decide)]; rfl
theorem samp_prob : R (probQ samp 2 3) = [49, 47, 50] := by
  have h1 : probQ samp 2 3 = Rat.divInt 1 2 := by
    unfold probQ
    rw [show inw 2 3 samp = 2 by decide, show tot samp = 4 by decide, Rat.divInt_eq_div, Rat.divInt_eq_div]
    grind
  rw [h1, R_frac (by decide) (by decide), show (1 : Int) = ((1 : Nat) : Int) from rfl, show (2 : Int) = ((2 : Nat) : Int) from rfl, I_dig (by decide), I_dig (by decide)]; rfl
def q45 : Rat := Rat.divInt 4 5
theorem q45_R : R q45 = [52, 47, 53] := by
  unfold q45
  rw [R_frac (by decide) (by decide), show (4 : Int) = ((4 : Nat) : Int) from rfl, show (5 : Int) = ((5 : Nat) : Int) from rfl, I_dig (by decide), I_dig (by decide)]; rfl
theorem q45_b : Bq 30 q45 := Bq_div (by decide) (by decide) (by decide)
theorem q45_div : q45 = 4 / 5 := by unfold q45; rw [Rat.divInt_eq_div]; rfl
theorem q45_u : Un q45 := by unfold Un; rw [q45_div]; constructor <;> grind
theorem samp_quan : quanV samp q45 = 4 := by
  have c0 : cumQ samp 0 = 1 / 4 := by
    unfold cumQ parQ
    rw [show psm (·.2) samp 1 = 1 by decide, show tot samp = 4 by decide, Rat.divInt_eq_div]; rfl
  have c1 : cumQ samp 1 = 3 / 4 := by
    unfold cumQ parQ
    rw [show psm (·.2) samp 2 = 3 by decide, show tot samp = 4 by decide, Rat.divInt_eq_div]; rfl
  have c2 : cumQ samp 2 = 1 := cum_last samp_good 2 rfl
  unfold quanV
  rw [show samp.length = 3 from rfl, qfrom, c0, q45_div, if_neg (by grind), qfrom, c1, if_neg (by grind), qfrom, c2, if_pos (by grind)]
  rfl
theorem samp_bin : tx (triL 3 1 3 4) = [(0, [56]), (1, [49, 50]), (2, [54]), (3, [49])] := by
  have h1 : triL 3 1 3 4 = [(0, 8), (1, 12), (2, 6), (3, 1)] := by decide
  rw [h1]
  simp only [tx, List.map_cons, List.map_nil]
  rw [show (8 : Int) = ((8 : Nat) : Int) from rfl, show (12 : Int) = ((12 : Nat) : Int) from rfl, show (6 : Int) = ((6 : Nat) : Int) from rfl, I_dig (by decide), I_two (by decide) (by decide), I_dig (by decide), I_one]
  rfl
theorem samp_scale : tx (scR (-2) 10 samp) = [(2, [49]), (6, [50]), (8, [49])] := by
  have h1 : scR (-2) 10 samp = [(2, 1), (6, 2), (8, 1)] := by decide
  rw [h1]
  simp only [tx, List.map_cons, List.map_nil]
  rw [I_one, show (2 : Int) = ((2 : Nat) : Int) from rfl, I_dig (by decide)]
  rfl
theorem samp_sc : scOk (-2) 10 samp = true := by decide
theorem samp_tx : tx samp = [(1, [49]), (2, [50]), (4, [49])] := by
  simp only [samp, tx, List.map_cons, List.map_nil]
  rw [I_one, show (2 : Int) = ((2 : Nat) : Int) from rfl, I_dig (by decide)]
  rfl
end M
/-- A new row that holds a list, as its text writes it. -/
theorem WSl.new (w : World) (l : List M.WT) (cs : Array Value) (h : cs = (wcs l).toArray) : WSl (w.alloc (.cells cs 61 (0, 0))) w.heap.size 0 l := by
  subst h
  have hr := Row.new w 61 (wcs l)
  exact ⟨hr.lt, fun i hi => by rw [Nat.zero_add]; exact hr.cell (wcs_get l i hi).1, fun i hi => by rw [Nat.zero_add]; exact hr.cell (wcs_get l i hi).2⟩
theorem RdW.new (w : World) (l : List M.WT) (cs : Array Value) (n : Nat) (h : cs = (wcs l).toArray) (hn : n = l.length) : RdW (w.alloc (.cells cs 61 (0, 0))) (.slice (some ⟨w.heap.size, 0, none⟩) n n) l := by
  subst hn
  exact ⟨_, _, rfl, Or.inr ⟨_, _, rfl, WSl.new w l cs h⟩⟩
namespace W
open M
attribute [local go_sem] bs_size bs_toList bs_get bs_extract bs_append bs_lit0 bs_lit1 lit1_bs
set_option maxHeartbeats 1000000
set_option maxRecDepth 20000
theorem ListP.open {l : List WT} {c : Int} {w w' : World} {e : Ending} (h : ListP true l c w e w') : ∃ v, e = .returned (.tuple #[v, .int .i64 0]) ∧ OwnW w' w.heap.size v l ∧ Below w.heap.size w w' := by
  unfold ListP at h; rwa [if_pos rfl] at h
theorem same_yes (va vb : Value) (l : List WT) (w : World) (ha : RdW w va l) (hb : RdW w vb l) (hl : l.length ≤ 100000) :
    Calls Tryz.prog 30 #[va, vb] w (Quie w (.bool true)) := by
  have := same_any va vb l l w ha hb hl hl
  rw [decide_eq_true rfl] at this
  exact this
theorem sample_any (w : World) : Calls Tryz.prog 50 #[] w (fun e w' => ∃ b, w.heap.size ≤ b ∧ e = .returned (.slice (some ⟨b, 0, none⟩) 3 3) ∧ WSl w' b 0 (tx samp) ∧ Below w.heap.size w w') := by
  have hw := WSl.new w (tx samp) #[.int .i64 1, .string ⟨#[49]⟩, .int .i64 2, .string ⟨#[50]⟩, .int .i64 4, .string ⟨#[49]⟩] (by rw [samp_tx]; rfl)
  have HW := Lib.hid hw
  clear hw
  go_enter Tryz.func50, Tryz.ntmps50
  go_wp2
  go_ret
  exact ⟨w.heap.size, Nat.le_refl _, rfl, HW.out, (Below.refl _ _).alloc (Nat.le_refl _) _⟩
theorem awake_ok (w : World) (hg : Glob w) : Calls Tryz.prog 13 #[] w (Ret w (.bool true)) := by
  have HG := samp_good
  have HS := Lib.hid (sample_any w)
  have HME := Lib.hid (fun b wx hgx hwx => mean_ok samp b 0 3 wx hgx hwx HG)
  have HVA := Lib.hid (fun b wx hgx hwx => variance_ok samp b 0 3 wx hgx hwx HG)
  have HPR := Lib.hid (fun b wx hgx hwx => probability_ok samp b 0 3 2 3 wx hgx hwx HG (by decide))
  have HQU := Lib.hid (fun b wx hgx hwx => quantile_ok samp b 0 3 q45 wx hgx hwx HG q45_b q45_u)
  have HBI := Lib.hid (fun wx hgx => binom_ok 3 1 3 wx hgx ⟨by decide, by decide, by decide, by decide, by decide⟩)
  have HSC := Lib.hid (fun b wx hgx hwx => scale_ok samp b 0 3 (-2) 10 wx hgx hwx HG (by decide) (by decide) (by decide))
  rw [samp_mean] at HME
  rw [samp_var] at HVA
  rw [samp_prob] at HPR
  rw [q45_R, samp_quan] at HQU
  rw [show 3 + 1 = 4 from rfl, samp_bin] at HBI
  rw [samp_sc, samp_scale] at HSC
  rw [show samp.length = 3 from rfl] at HME HVA HPR HQU HSC
  rw [show ((3 : Nat) : Int) = 3 from rfl] at HBI
  clear HG
  go_enter Tryz.func13, Tryz.ntmps13
  go_wp2_with fail
  refine HS.out.mono ?_
  rintro e w1 ⟨b, hb, rfl, hw1, hb1⟩
  go_wp2_with fail
  refine (HME.out b _ (hg.of hb1) hw1).mono ?_
  rintro e w2 ⟨rfl, hb2⟩
  have hw2 := hw1.below' hb2
  have hb2 := Below.then hb1 hb2
  go_wp2_with fail
  refine (HVA.out b _ (hg.of hb2) hw2).mono ?_
  rintro e w3 ⟨rfl, hb3⟩
  have hw3 := hw2.below' hb3
  have hb3 := Below.then hb2 hb3
  go_wp2_with fail
  refine (HPR.out b _ (hg.of hb3) hw3).mono ?_
  rintro e w4 ⟨rfl, hb4⟩
  have hw4 := hw3.below' hb4
  have hb4 := Below.then hb3 hb4
  go_wp2_with fail
  rw [show (Value.string ⟨#[52, 47, 53]⟩) = Value.string (bs [52, 47, 53]) from rfl]
  refine (HQU.out b _ (hg.of hb4) hw4).mono ?_
  rintro e w5 ⟨rfl, hb5⟩
  have hw5 := hw4.below' hb5
  have hb5 := Below.then hb4 hb5
  go_wp2_with fail
  refine (HBI.out _ (hg.of hb5)).mono ?_
  intro e w6 h6
  obtain ⟨v6, rfl, ho6, hb6⟩ := h6.open
  have hw6 := hw5.below' hb6
  have hr6 := OwnW.rd ho6
  have hb6 := Below.then hb5 hb6
  clear h6 ho6
  go_wp2_with fail
  refine (HSC.out b _ (hg.of hb6) hw6).mono ?_
  intro e w7 h7
  obtain ⟨v7, rfl, ho7, hb7⟩ := h7.open
  have hr7 := OwnW.rd ho7
  have hr6 := hr6.below hb7
  have hb7 := Below.then hb6 hb7
  have HR := Lib.hid (And.intro hr6 (And.intro hr7 hb7))
  clear h7 ho7 hr6 hr7 hb1 hb2 hb3 hb4 hb5 hb6 hw1 hw2 hw3 hw4 hw5 hw6 hb7
  go_wp2_with fail
  have hbl := HR.out.2.2.alloc HR.out.2.2.size (.cells #[.int .i64 0, .string ⟨#[56]⟩, .int .i64 1, .string ⟨#[49, 50]⟩, .int .i64 2, .string ⟨#[54]⟩, .int .i64 3, .string ⟨#[49]⟩] 61 (0, 0))
  have hq1 := same_yes _ _ [(0, [56]), (1, [49, 50]), (2, [54]), (3, [49])] _ (HR.out.1.below ((Below.refl _ _).alloc (Nat.le_refl _) (.cells #[.int .i64 0, .string ⟨#[56]⟩, .int .i64 1, .string ⟨#[49, 50]⟩, .int .i64 2, .string ⟨#[54]⟩, .int .i64 3, .string ⟨#[49]⟩] 61 (0, 0)))) (RdW.new w7 _ #[.int .i64 0, .string ⟨#[56]⟩, .int .i64 1, .string ⟨#[49, 50]⟩, .int .i64 2, .string ⟨#[54]⟩, .int .i64 3, .string ⟨#[49]⟩] 4 rfl rfl) (by decide)
  have HR7 := Lib.hid (HR.out.2.1.below ((Below.refl _ _).alloc (Nat.le_refl _) (.cells #[.int .i64 0, .string ⟨#[56]⟩, .int .i64 1, .string ⟨#[49, 50]⟩, .int .i64 2, .string ⟨#[54]⟩, .int .i64 3, .string ⟨#[49]⟩] 61 (0, 0))))
  have HBL := Lib.hid hbl
  clear hbl
  refine hq1.mono ?_
  rintro e w8 ⟨rfl, n8, rfl⟩
  generalize w7.alloc (.cells #[.int .i64 0, .string ⟨#[56]⟩, .int .i64 1, .string ⟨#[49, 50]⟩, .int .i64 2, .string ⟨#[54]⟩, .int .i64 3, .string ⟨#[49]⟩] 61 (0, 0)) = w8 at *
  clear hq1
  go_wp2_with fail
  have hq2 := same_yes _ _ [(2, [49]), (6, [50]), (8, [49])] _ (RdW.below (w := w8) HR7.out ((Below.drewN (Below.refl _ w8) n8).alloc (Nat.le_refl _) (.cells #[.int .i64 2, .string ⟨#[49]⟩, .int .i64 6, .string ⟨#[50]⟩, .int .i64 8, .string ⟨#[49]⟩] 61 (0, 0)))) (RdW.new (w8.drewN n8) _ #[.int .i64 2, .string ⟨#[49]⟩, .int .i64 6, .string ⟨#[50]⟩, .int .i64 8, .string ⟨#[49]⟩] 3 rfl rfl) (by decide)
  refine hq2.mono ?_
  rintro e w9 ⟨rfl, n9, rfl⟩
  have hbl9 := (Below.drewN HBL.out n8).alloc HBL.out.size (.cells #[.int .i64 2, .string ⟨#[49]⟩, .int .i64 6, .string ⟨#[50]⟩, .int .i64 8, .string ⟨#[49]⟩] 61 (0, 0))
  have HB9 := Lib.hid hbl9
  clear hq2 hbl9
  go_wp2
  go_ret
  exact Ret.of rfl (Below.drewN HB9.out n9)
end W
end Go.Proofs.YtgjfiaadnecilaaGreatDoor
