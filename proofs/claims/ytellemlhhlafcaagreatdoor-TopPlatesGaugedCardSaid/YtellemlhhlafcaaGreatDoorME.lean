/-
  Layer 1 of the program: 'small', 'result', 'sum', 'Add', 'Sub', 'Neg', 'Mul' at valid integers.
  Layer 1 of the program: 'Sub', 'Neg', 'Mul', 'Gcd' at valid integers.
  Layer 1 of the program: 'Gcd'.
  Layer 1 of the program: 'parted', 'Quo', 'Sign'.
  Layer 1 of the program: 'parted' of long integers, 'Quo', 'Sign'.
  Layer 1 of the program: 'Quo', 'Sign'.
-/
import Derived.Test.YtellemlhhlafcaaGreatDoorMD
import Derived.RegionTactic
import Derived.ChangeAlike
import Derived.StillTailTactics
import Derived.BigRegion
section
namespace Go.Proofs.YtellemlhhlafcaaGreatDoor
open Go Go.RowKit Go.Deep
namespace M
theorem bbpw (k n : Nat) (h : n ≤ 9 * k) : pw n ≤ BB ^ k := by
  unfold pw
  rw [show BB = 10 ^ 9 from rfl, ← Nat.pow_mul]; exact Nat.pow_le_pow_right (by decide) h
theorem bbpw2 (k n : Nat) (h : 6 + n ≤ 9 * k) : 1000000 * pw n ≤ BB ^ k := by
  unfold pw
  rw [show BB = 10 ^ 9 from rfl, ← Nat.pow_mul, show 1000000 = 10 ^ 6 by decide, ← Nat.pow_add]; exact Nat.pow_le_pow_right (by decide) h
theorem bb114 : lim ≤ BB ^ 114 := bbpw 114 1024 (by decide)
theorem bb232' (K : Nat) (h : K = lim) : 1000000 * K ≤ BB ^ 232 := by
  have h3 : K = pw 1024 := h
  rw [h3]
  exact bbpw2 232 1024 (by decide)
theorem Ok.nw {z : Int} (h : Ok z) : nw z.natAbs ≤ 114 := nw_le.2 (Nat.lt_of_lt_of_le h bb114)
theorem short9 {z : Int} (h : (I z).length ≤ 9) : z.natAbs < 1000000000 := by
  have h1 := (D_len_le (n := z.natAbs) (k := 9) (by omega)).1 (Nat.le_trans (D_le_I z) h)
  have e : (10 : Nat) ^ 9 = 1000000000 := by decide
  omega
theorem ok_of {z : Int} (h : z.natAbs < 1000000000000000000) : Ok z := lt_lim.1 (Nat.le_trans ((D_len_le (k := 18) (by decide)).2 (by rw [show (10 : Nat) ^ 18 = 1000000000000000000 by decide]; exact h)) (by decide))
def sm : List Int → Int
  | [] => 0
  | z :: t => z + sm t
theorem sm_append (a b : List Int) : sm (a ++ b) = sm a + sm b := by
  induction a with
  | nil => simp [sm]
  | cons z t ih => simp only [List.cons_append, sm, ih]; omega
theorem sm_take (l : List Int) (i : Nat) (h : i < l.length) : sm (l.take (i + 1)) = sm (l.take i) + l[i] := by
  rw [List.take_succ_eq_append_getElem h, sm_append]; simp [sm]
theorem sm_bound {l : List Int} {K : Nat} (h : ∀ z ∈ l, z.natAbs ≤ K) : (sm l).natAbs ≤ l.length * K := by
  induction l with
  | nil => simp [sm]
  | cons z t ih =>
    have h1 := h z (by simp)
    have h2 := ih fun x hx => h x (by simp [hx])
    rw [sm, List.length_cons, Nat.add_mul]
    omega
theorem sg_decide (z : Int) : sg (decide (z < 0)) z.natAbs = z := by
  unfold sg; by_cases h : z < 0
  · simp [h]; omega
  · simp [h]; omega
end M
namespace W
open M
attribute [local go_sem] bs_size bs_toList bs_get bs_extract bs_append bs_lit0 bs_lit1 lit1_bs
set_option maxHeartbeats 1000000
set_option maxRecDepth 20000
theorem small_yes (x y : Int) (w : World) (hx : (I x).length ≤ 9) (hy : (I y).length ≤ 9) :
    Calls Tryz.prog 208 #[.string (bs (I x)), .string (bs (I y))] w (Ret w (.tuple #[.int .i64 x, .int .i64 y, .bool true])) := by
  have bx : x.natAbs < 9223372036854775808 := by
    have h1 := (D_len_le (n := x.natAbs) (k := 9) (by omega)).1 (Nat.le_trans (D_le_I x) hx)
    have e : (10 : Nat) ^ 9 = 1000000000 := by decide
    omega
  have by_ : y.natAbs < 9223372036854775808 := by
    have h1 := (D_len_le (n := y.natAbs) (k := 9) (by omega)).1 (Nat.le_trans (D_le_I y) hy)
    have e : (10 : Nat) ^ 9 = 1000000000 := by decide
    omega
  have HX := Lib.hid (fun w' => atoi_ret (I x) x w' (by omega) (atoi_I bx))
  have HY := Lib.hid (fun w' => atoi_ret (I y) y w' (by omega) (atoi_I by_))
  clear bx by_
  go_enter Tryz.func208, Tryz.ntmps208
  go_wp2_with fail
  refine (HX.out _).mono ?_
  rintro e w1 ⟨rfl, hb1⟩
  go_wp2_with fail
  refine (HY.out _).mono ?_
  rintro e w2 ⟨rfl, hb2⟩
  go_wp2
  go_ret3
  exact Ret.of rfl (Below.then hb1 hb2)
theorem small_no (x y : List UInt8) (w : World) (h : ¬ (x.length ≤ 9 ∧ y.length ≤ 9)) (hx : x.length ≤ 1000000) (hy : y.length ≤ 1000000) :
    Calls Tryz.prog 208 #[.string (bs x), .string (bs y)] w (Ret w (.tuple #[.int .i64 0, .int .i64 0, .bool false])) := by
  by_cases h1 : 9 < x.length
  · clear h
    go_enter Tryz.func208, Tryz.ntmps208
    go_wp2
    go_ret3
    exact Ret.of rfl (RowKit.Below.refl _ _)
  · have h2 : 9 < y.length := by omega
    clear h
    go_enter Tryz.func208, Tryz.ntmps208
    go_wp2
    go_ret3
    exact Ret.of rfl (RowKit.Below.refl _ _)
theorem result_any (n : Int) (w : World) (hg : Glob w) (h0 : -9223372036854775808 ≤ n) (h1 : n ≤ 9223372036854775807) :
    Calls Tryz.prog 209 #[.int .i64 n] w (Ret w (.tuple #[.string (bs (I n)), .int .i64 0])) := by
  go_enter Tryz.func209, Tryz.ntmps209
  go_wp2_with fail
  refine (vof_any n _ hg h0 h1).mono ?_
  rintro e w1 ⟨rfl, hb1⟩
  go_wp2
  go_ret2
  exact Ret.of rfl hb1
def resV (z : Int) : Value := if z.natAbs < lim then .tuple #[.string (bs (I z)), .int .i64 0] else .tuple #[.string (bs []), .int .i64 11]
theorem resV_form (z : Int) : ∃ r c, resV z = .tuple #[.string (bs r), .int .i64 c] := by
  unfold resV; split
  · exact ⟨_, _, rfl⟩
  · exact ⟨_, _, rfl⟩
theorem resV_ok {z : Int} (h : Ok z) : resV z = .tuple #[.string (bs (I z)), .int .i64 0] := if_pos h
theorem limited_any (b : Nat) (neg : Bool) (m : Nat) (w : World) (hg : Glob w) (hx : Wide w b neg m) :
    Calls Tryz.prog 211 #[.pointer (some ⟨b, 0, none⟩)] w (Ret w (resV (sg neg m))) := by
  unfold resV
  by_cases h : Ok (sg neg m)
  · rw [if_pos h]; exact limited_ok b neg m w hg hx h
  · rw [if_neg h]; exact limited_no b neg m w hg hx h
theorem sum_any (zs : List Int) (b off cap : Nat) (w : World) (hg : Glob w) (hz : ∀ z ∈ zs, Ok z) (hn : zs.length ≤ 5000) (hb : b < w.heap.size)
    (hc : ∀ i (h : i < zs.length), w.cell? ⟨b, off + i, none⟩ = some (.string (bs (I zs[i])))) :
    Calls Tryz.prog 248 #[.slice (some ⟨b, off, none⟩) zs.length cap] w (Ret w (resV (sm zs))) := by
  obtain ⟨r, c, hrc⟩ := resV_form (sm zs)
  rw [hrc]
  have HRC := Lib.hid hrc
  have HC := Lib.hid hc
  have HZ := Lib.hid hz
  clear hrc
  have HB : Hid (∀ i, i ≤ zs.length → (sm (zs.take i)).natAbs ≤ 5000 * lim) := by
    intro i hi
    have h1 := sm_bound (l := zs.take i) (K := lim) fun z hz' => Nat.le_of_lt (hz z (List.mem_of_mem_take hz'))
    rw [List.length_take, Nat.min_eq_left hi] at h1
    exact Nat.le_trans h1 (Nat.mul_le_mul_right _ (Nat.le_trans hi hn))
  clear hc hz
  have hq0 := Lib.hid (Wide.zero0 w)
  have hbl : Below w.heap.size w (w.alloc (.cells Tryz.zeroCells248 248)) := RowKit.Below.alloc (RowKit.Below.refl _ _) (Nat.le_refl _) _
  go_enter Tryz.func248, Tryz.ntmps248
  go_wp2
  go_loopg [11] zs.length (fun k iv wr => ∃ (i : Nat) (neg : Bool) (m : Nat), k = zs.length - i ∧ iv = .int .i64 (i : Int) ∧ i ≤ zs.length ∧ Wide wr w.heap.size neg m ∧ Hid (sg neg m = sm (zs.take i)) ∧ Below w.heap.size w wr)
  case atStart => exact ⟨0, false, 0, rfl, rfl, by omega, hq0.out, rfl, hbl⟩
  case round =>
    obtain ⟨i, neg, m, hk, rfl, hi, hwr, hs, hbw⟩ := hrel
    by_cases hlt : i < zs.length
    · have hcell : wr.cell? ⟨b, off + i, none⟩ = some (.string (bs (I zs[i]))) := (hbw.cell (by exact hb)).trans (HC.out i hlt)
      have HZi := Lib.hid (HZ.out zs[i] (List.getElem_mem hlt))
      have HN := Lib.hid (sm_take zs i hlt)
      have hmb : m ≤ 5000 * lim := by
        have h1 := HB.out i hi
        rw [← hs.out, sg_abs] at h1
        exact h1
      have HM := Lib.hid hmb
      clear hmb
      generalize zs[i] = z at *
      go_wp2_with fail
      refine (read_I z _ HZi.out).mono ?_
      rintro e w1 ⟨bz, hbz, rfl, hwz, hb1⟩
      have hw1 := hwr.below hb1
      have hws := hwr.lt
      have HP := Lib.hid (plus_any w.heap.size bz neg (decide (z < 0)) m z.natAbs w1 (by omega) hw1 hwz (by
        have h1 := HM.out
        have h2 : z.natAbs < lim := HZi.out
        have h3 := bb232' lim rfl
        generalize BB ^ 232 = B at *
        generalize lim = K at *
        omega))
      rw [sg_decide] at HP
      have hb2 := hbw.trans (hb1.mono hbw.size)
      clear hwr hcell
      go_wp2_with fail
      refine HP.out.mono ?_
      rintro e w2 ⟨rfl, ⟨nz, Z, hZ, hsZ⟩, ho⟩
      have hb3 := hb2.trans (ho.below (Nat.le_refl _) hb2.size)
      have HS : Hid (sg nz Z = sm (zs.take (i + 1))) := by
        show _ = _
        rw [hsZ, hs.out, HN.out]
      clear hsZ
      go_wp2
      go_roundg (zs.length - (i + 1))
      case measure => omega
      case rel => exact ⟨i + 1, nz, Z, rfl, by go_num, by omega, hZ, HS, hb3⟩
    · obtain rfl : i = zs.length := by omega
      have h1 := hs.out
      rw [List.take_length] at h1
      have HL := Lib.hid (limited_any w.heap.size neg m wr (hg.of hbw) hwr)
      rw [h1, HRC.out] at HL
      clear h1 hs hk
      go_wp2_with fail
      refine HL.out.mono ?_
      rintro e w1 ⟨rfl, hb1⟩
      go_wp2
      go_ret2
      exact Ret.of rfl (hbw.trans (hb1.mono hbw.size))
theorem sum_two (x y : Int) (w : World) (hg : Glob w) (hx : Ok x) (hy : Ok y) :
    Calls Tryz.prog 248 #[.slice (some ⟨w.heap.size, 0, none⟩) 2 2] (w.alloc (.cells #[.string (bs (I x)), .string (bs (I y))] 185)) (Ret (w.alloc (.cells #[.string (bs (I x)), .string (bs (I y))] 185)) (resV (x + y))) := by
  have hr := Row.new w 185 (Strs [I x, I y])
  have := sum_any [x, y] w.heap.size 0 2 (w.alloc (.cells #[.string (bs (I x)), .string (bs (I y))] 185)) (hg.below (RowKit.Below.alloc (RowKit.Below.refl _ _) (Nat.le_refl _) _) hg.2.2) (fun z hz => by simp at hz; rcases hz with rfl | rfl <;> assumption) (by simp) (by simp) (fun i hi => by
    rw [Nat.zero_add]
    match i, hi with
    | 0, _ => exact hr.cell rfl
    | 1, _ => exact hr.cell rfl)
  rw [show sm [x, y] = x + y by simp [sm]] at this
  exact this
theorem alloc_glob {w : World} (hg : Glob w) (o : Obj) : Glob (w.alloc o) := hg.below (RowKit.Below.alloc (RowKit.Below.refl _ _) (Nat.le_refl _) _) hg.2.2
theorem add_I (x y : Int) (w : World) (hg : Glob w) (hx : Ok x) (hy : Ok y) :
    Calls Tryz.prog 229 #[.string (bs (I x)), .string (bs (I y))] w (Ret w (resV (x + y))) := by
  have lx := hx.len
  have ly := hy.len
  have ha := fun w' => vall_two (I x) (I y) w' (by omega) (by omega)
  rw [chkAll_two hx hy] at ha
  have HA := Lib.hid ha
  have HS := Lib.hid (fun w' (hg : Glob w') => sum_two x y w' hg hx hy)
  have hbl : ∀ w', Below w.heap.size w w' → Glob w' := fun w' h => hg.of h
  by_cases hs : (I x).length ≤ 9 ∧ (I y).length ≤ 9
  · have b1 := short9 hs.1
    have b2 := short9 hs.2
    have hok : Ok (x + y) := ok_of (by clear ha hx hy; omega)
    rw [resV_ok hok]
    have HM := Lib.hid (fun w' => small_yes x y w' hs.1 hs.2)
    clear hs ha hok hx hy
    go_enter Tryz.func229, Tryz.ntmps229
    go_wp2_with fail
    refine (HA.out _).mono ?_
    rintro e w1 ⟨rfl, hb1⟩
    have hb1' := alloc_then hb1
    go_wp2_with fail
    refine (HM.out _).mono ?_
    rintro e w2 ⟨rfl, hb2⟩
    have hb2' := Below.then hb1' hb2
    go_wp2_with fail
    refine (result_any (x + y) _ (hg.of hb2') (by omega) (by omega)).mono ?_
    rintro e w3 ⟨rfl, hb3⟩
    go_wp2
    go_ret2
    exact Ret.of rfl (Below.then hb2' hb3)
  · obtain ⟨r, c, hrc⟩ := resV_form (x + y)
    rw [hrc]
    rw [hrc] at HS
    have HM := Lib.hid (fun w' => small_no (I x) (I y) w' hs (by omega) (by omega))
    clear hs ha hrc hx hy
    go_enter Tryz.func229, Tryz.ntmps229
    go_wp2_with fail
    refine (HA.out _).mono ?_
    rintro e w1 ⟨rfl, hb1⟩
    have hb1' := alloc_then hb1
    go_wp2_with fail
    refine (HM.out _).mono ?_
    rintro e w2 ⟨rfl, hb2⟩
    have hb2' := Below.then hb1' hb2
    go_wp2_with fail
    refine (HS.out _ (hg.of hb2')).mono ?_
    rintro e w3 ⟨rfl, hb3⟩
    go_wp2
    go_ret2
    exact Ret.of rfl (Below.then hb2' (alloc_then hb3))
end W
end Go.Proofs.YtellemlhhlafcaaGreatDoor
end
section
namespace Go.Proofs.YtellemlhhlafcaaGreatDoor
open Go Go.RowKit Go.Deep
namespace M
theorem Ok.neg {z : Int} (h : Ok z) : Ok (-z) := by unfold Ok at *; rw [Int.natAbs_neg]; exact h
theorem mul_nw {X Y : Nat} (hx : nw X ≤ 114) (hy : nw Y ≤ 114) : X * Y < BB ^ 232 := by
  have h1 := nw_le.1 hx
  have h2 := nw_le.1 hy
  have h3 := Nat.mul_lt_mul'' h1 h2
  rw [← Nat.pow_add] at h3
  exact Nat.lt_of_lt_of_le h3 (Nat.pow_le_pow_right (by decide) (by decide))
theorem signed_mul' (x y : Int) : (if (!(decide (x < 0) == decide (y < 0))) = true then -((x.natAbs * y.natAbs : Nat) : Int) else ((x.natAbs * y.natAbs : Nat) : Int)) = x * y := by
  rcases Int.lt_or_le x 0 with hx | hx <;> rcases Int.lt_or_le y 0 with hy | hy
  · rw [decide_eq_true hx, decide_eq_true hy, if_neg (by simp), Int.natCast_mul, show ((x.natAbs : Nat) : Int) = -x by omega, show ((y.natAbs : Nat) : Int) = -y by omega]
    exact Int.neg_mul_neg x y
  · rw [decide_eq_true hx, decide_eq_false (show ¬ y < 0 by omega), if_pos (by simp), Int.natCast_mul, show ((x.natAbs : Nat) : Int) = -x by omega, show ((y.natAbs : Nat) : Int) = y by omega, Int.neg_mul, Int.neg_neg]
  · rw [decide_eq_false (show ¬ x < 0 by omega), decide_eq_true hy, if_pos (by simp), Int.natCast_mul, show ((x.natAbs : Nat) : Int) = x by omega, show ((y.natAbs : Nat) : Int) = -y by omega, Int.mul_neg, Int.neg_neg]
  · rw [decide_eq_false (show ¬ x < 0 by omega), decide_eq_false (show ¬ y < 0 by omega), if_neg (by simp), Int.natCast_mul, show ((x.natAbs : Nat) : Int) = x by omega, show ((y.natAbs : Nat) : Int) = y by omega]
theorem sg_mul (x y : Int) : sg (decide (x < 0) != decide (y < 0)) (x.natAbs * y.natAbs) = x * y := by
  have := signed_mul' x y
  unfold sg
  exact this
end M
namespace W
open M
attribute [local go_sem] bs_size bs_toList bs_get bs_extract bs_append bs_lit0 bs_lit1 lit1_bs
set_option maxHeartbeats 1000000
set_option maxRecDepth 20000
theorem sub_I (x y : Int) (w : World) (hg : Glob w) (hx : Ok x) (hy : Ok y) :
    Calls Tryz.prog 228 #[.string (bs (I x)), .string (bs (I y))] w (Ret w (resV (x - y))) := by
  have lx := hx.len
  have ly := hy.len
  have ha := fun w' => vall_two (I x) (I y) w' (by omega) (by omega)
  rw [chkAll_two hx hy] at ha
  have HA := Lib.hid ha
  have HD := Lib.hid (fun w' (hg : Glob w') => add_I x (-y) w' hg hx hy.neg)
  obtain ⟨r, c, hrc⟩ := resV_form (x - y)
  rw [hrc]
  rw [← Int.sub_eq_add_neg, hrc] at HD
  clear ha hrc hx hy
  go_enter Tryz.func228, Tryz.ntmps228
  go_wp2_with fail
  refine (HA.out _).mono ?_
  rintro e w1 ⟨rfl, hb1⟩
  have hb1' := alloc_then hb1
  go_wp2_with fail
  refine (opposite_I y _ (by omega)).mono ?_
  rintro e w' ⟨rfl, rfl⟩
  go_wp2_with fail
  refine (HD.out _ (hg.of hb1')).mono ?_
  rintro e w2 ⟨rfl, hb2⟩
  go_wp2
  go_ret2
  exact Ret.of rfl (Below.then hb1' hb2)
theorem mul_I (x y : Int) (w : World) (hg : Glob w) (hx : Ok x) (hy : Ok y) :
    Calls Tryz.prog 171 #[.string (bs (I x)), .string (bs (I y))] w (Ret w (resV (x * y))) := by
  have lx := hx.len
  have ly := hy.len
  have ha := fun w' => vall_two (I x) (I y) w' (by omega) (by omega)
  rw [chkAll_two hx hy] at ha
  have HA := Lib.hid ha
  by_cases hs : (I x).length ≤ 9 ∧ (I y).length ≤ 9
  · have b1 := short9 hs.1
    have b2 := short9 hs.2
    have b3 : (x * y).natAbs < 1000000000000000000 := by
      rw [Int.natAbs_mul]
      have : x.natAbs * y.natAbs ≤ 999999999 * 999999999 := Nat.mul_le_mul (by omega) (by omega)
      omega
    have hok : Ok (x * y) := ok_of b3
    rw [resV_ok hok]
    have b4 : -1000000000000000000 ≤ x * y ∧ x * y ≤ 1000000000000000000 := by clear ha hx hy; omega
    have HM := Lib.hid (fun w' => small_yes x y w' hs.1 hs.2)
    clear hs ha hok hx hy b3
    go_enter Tryz.func171, Tryz.ntmps171
    go_wp2_with fail
    refine (HA.out _).mono ?_
    rintro e w1 ⟨rfl, hb1⟩
    have hb1' := alloc_then hb1
    go_wp2_with fail
    refine (HM.out _).mono ?_
    rintro e w2 ⟨rfl, hb2⟩
    have hb2' := Below.then hb1' hb2
    go_wp2_with fail
    refine (result_any (x * y) _ (hg.of hb2') (by omega) (by omega)).mono ?_
    rintro e w3 ⟨rfl, hb3⟩
    go_wp2
    go_ret2
    exact Ret.of rfl (Below.then hb2' hb3)
  · obtain ⟨r, c, hrc⟩ := resV_form (x * y)
    rw [hrc]
    have HRC := Lib.hid hrc
    have HM := Lib.hid (fun w' => small_no (I x) (I y) w' hs (by omega) (by omega))
    have HRX := Lib.hid (fun w' => read_I x w' hx)
    have HRY := Lib.hid (fun w' => read_I y w' hy)
    have HNW := Lib.hid (And.intro hx.nw hy.nw)
    clear hs ha hrc hx hy
    go_enter Tryz.func171, Tryz.ntmps171
    go_wp2_with fail
    refine (HA.out _).mono ?_
    rintro e w1 ⟨rfl, hb1⟩
    have hb1' := alloc_then hb1
    go_wp2_with fail
    refine (HM.out _).mono ?_
    rintro e w2 ⟨rfl, hb2⟩
    have hb2' := Below.then hb1' hb2
    go_wp2_with fail
    refine (HRX.out _).mono ?_
    rintro e w3 ⟨bx, hbx, rfl, hwx, hb3⟩
    have hb3' := Below.then hb2' hb3
    go_wp2_with fail
    refine (HRY.out _).mono ?_
    rintro e w4 ⟨by_, hby, rfl, hwy, hb4⟩
    have hb4' := Below.then hb3' hb4
    have hwx4 := hwx.below hb4
    go_wp2_with fail
    refine (times_any bx by_ _ _ _ _ _ hwx4 hwy (mul_nw HNW.out.1 HNW.out.2) (by have h1 := HNW.out.1; have h2 := HNW.out.2; omega)).mono ?_
    rintro e w5 ⟨bz, hbz, rfl, hwz, hb5⟩
    have hb5' := Below.then hb4' hb5
    have HL := Lib.hid (limited_any bz _ _ w5 (hg.of hb5') hwz)
    rw [sg_mul, HRC.out] at HL
    go_wp2_with fail
    refine HL.out.mono ?_
    rintro e w6 ⟨rfl, hb6⟩
    go_wp2
    go_ret2
    exact Ret.of rfl (Below.then hb5' hb6)
end W
end Go.Proofs.YtellemlhhlafcaaGreatDoor
end
section
namespace Go.Proofs.YtellemlhhlafcaaGreatDoor
open Go Go.RowKit Go.Deep
namespace M
theorem word0 {ws : List Nat} {n X : Nat} (hl : 0 < ws.length) (hz : ZeroFrom ws n) (hn : n ≤ 1) (h : wv ws = X) : ws[0] = X := by
  have h1 := wv_drop ws 0 hl
  rw [List.drop_zero, drop_nw hz 1 hn, Nat.mul_zero, Nat.add_zero, h] at h1
  exact h1.symm
theorem one_word {m : Nat} (h : nw m ≤ 1) : m < 1000000000 := by
  have := nw_le.1 h
  simpa [BB] using this
theorem nw_mod_le {X Y k : Nat} (h0 : 0 < Y) (h : nw Y ≤ k) : nw (X % Y) ≤ k := by
  have h1 := nw_le.1 h
  have h2 := Nat.mod_lt X h0
  exact nw_le.2 (by omega)
theorem sg_false (m : Nat) : sg false m = (m : Int) := rfl
end M
theorem Wide.word0 {w : World} {b : Nat} {neg : Bool} {m : Nat} (h : Wide w b neg m) (h1 : M.nw m ≤ 1) : w.cell? ⟨b, 2, none⟩ = some (.int .i64 (m : Int)) := by
  obtain ⟨ws, h2, h3⟩ := h
  have h4 := h3.row.cell (wc_w neg (M.nw m) ws 0 (by rw [h3.len]; decide))
  rw [M.word0 (by rw [h3.len]; decide) h3.zero h1 h2] at h4
  exact h4
theorem Wide.setLess {w : World} {b : Nat} {neg : Bool} {m : Nat} (h : Wide w b neg m) (k : Bool) : Wide (w.setCell ⟨b, 0, none⟩ (.bool k)) b k m := by
  obtain ⟨ws, h2, h3⟩ := h
  have h4 := h3.row.set 0 (.bool k)
  rw [wc_sets] at h4
  exact ⟨ws, h2, h4, h3.len, h3.small, h3.zero, h3.le⟩
theorem Wide.row0 {w : World} {b : Nat} {neg : Bool} {m : Nat} (h : Wide w b neg m) : ∃ xs, Row w b 248 xs := by
  obtain ⟨ws, h2, h3⟩ := h
  exact ⟨_, h3.row⟩
namespace W
open M
attribute [local go_sem] bs_size bs_toList bs_get bs_extract bs_append bs_lit0 bs_lit1 lit1_bs
set_option maxHeartbeats 1000000
set_option maxRecDepth 20000
theorem gcd_I (x y : Int) (w : World) (hg : Glob w) (hx : Ok x) (hy : Ok y) :
    Calls Tryz.prog 97 #[.string (bs (I x)), .string (bs (I y))] w (Ret w (.tuple #[.string (bs (I ((Int.gcd x y : Nat) : Int))), .int .i64 0])) := by
  have lx := hx.len
  have ly := hy.len
  have ha := fun w' => vall_two (I x) (I y) w' (by omega) (by omega)
  rw [chkAll_two hx hy] at ha
  have HA := Lib.hid ha
  obtain ⟨G, hG⟩ : ∃ G, Int.gcd x y = G := ⟨_, rfl⟩
  rw [hG]
  rw [Int.gcd_eq_natAbs_gcd_natAbs] at hG
  have HG := Lib.hid hG
  have HRX := Lib.hid (fun w' => read_I x w' hx)
  have HRY := Lib.hid (fun w' => read_I y w' hy)
  have HNW := Lib.hid (And.intro hx.nw hy.nw)
  clear ha hG hx hy
  go_enter Tryz.func97, Tryz.ntmps97
  go_wp2_with fail
  refine (HA.out _).mono ?_
  rintro e w1 ⟨rfl, hb1⟩
  have hb1' := alloc_then hb1
  go_wp2_with fail
  refine (HRX.out _).mono ?_
  rintro e w3 ⟨bx, hbx, rfl, hwx, hb3⟩
  have hb3' := Below.then hb1' hb3
  go_wp2_with fail
  refine (HRY.out _).mono ?_
  rintro e w4 ⟨by_, hby, rfl, hwy, hb4⟩
  have hb4' := Below.then hb3' hb4
  have hwx4 := hwx.below hb4
  have hbx' : w.heap.size ≤ bx := Nat.le_trans hb1'.size hbx
  have hby' : w.heap.size ≤ by_ := Nat.le_trans hb3'.size hby
  have HST := Lib.hid (And.intro hbx' (And.intro hby' (And.intro hwx4 (And.intro hwy hb4'))))
  clear hb1 hb1' hb3 hb3' hb4 hb4' hwx hwx4 hwy hbx hby hbx' hby' lx ly
  have hnx : nw x.natAbs ≤ 200 := by have := HNW.out.1; omega
  have hny : nw y.natAbs ≤ 200 := by have := HNW.out.2; omega
  generalize hX0 : x.natAbs = X0 at *
  generalize hY0 : y.natAbs = Y0 at *
  clear hX0 hY0 HRX HRY HNW
  go_wp2
  go_loopg [7, 8] Y0 (fun k xv yv wr => ∃ (bx by_ : Nat) (nx ny : Bool) (X : Nat), xv = .pointer (some ⟨bx, 0, none⟩) ∧ yv = .pointer (some ⟨by_, 0, none⟩) ∧ w.heap.size ≤ bx ∧ w.heap.size ≤ by_ ∧ Hid (Nat.gcd X k = G) ∧ nw X ≤ 200 ∧ nw k ≤ 200 ∧ Wide wr bx nx X ∧ Wide wr by_ ny k ∧ Below w.heap.size w wr)
  case atStart => exact ⟨bx, by_, _, _, X0, rfl, rfl, HST.out.1, HST.out.2.1, HG, hnx, hny, HST.out.2.2.1, HST.out.2.2.2.1, HST.out.2.2.2.2⟩
  case round =>
    clear HG HST hnx hny
    obtain ⟨bx, by_, nx, ny, X, rfl, rfl, hbx, hby, hgg, hnx, hny, hwx, hwy, hbw⟩ := hrel
    have cx := n_cell hwx
    have cy := n_cell hwy
    have cl := less_cell hwx
    have hgw := hg.of hbw
    have hHW := Lib.hid (And.intro hwx hwy)
    by_cases hk0 : gk = 0
    · subst hk0
      have hgx := hgg.out
      rw [Nat.gcd_zero_right] at hgx
      subst hgx
      rw [nw_zero] at cy
      obtain ⟨xs, hxr⟩ := hwx.row0
      have fx := hxr.free 0
      have HT := Lib.hid (fun w' (h : Wide w' bx false X) (hg : Glob w') => text_x bx false X w' hg h)
      clear hgg hwx hwy
      go_wp2_with fail
      refine (HT.out _ (hHW.out.1.setLess false) ?_).mono ?_
      · exact hg.of (hbw.trans (((Only.refl bx wr).setCell 0 (.bool false)).below hbx hbw.size))
      · rintro e w2 ⟨rfl, hb2⟩
        have hb3 := hbw.trans (((Only.refl bx wr).setCell 0 (.bool false)).below hbx hbw.size)
        rw [sg_false]
        go_wp2
        go_ret2
        exact Ret.of rfl (Below.then hb3 hb2)
    · have ck : (0 : Int) < (nw gk : Int) := by have := nw_pos (m := gk) (by omega); omega
      have hDV := Lib.hid (fun w' h1 h2 => divided_any bx by_ nx ny X gk w' h1 h2 (by omega) hny)
      by_cases hs : nw X ≤ 1 ∧ nw gk ≤ 1
      · have c0 := hwx.word0 hs.1
        have c1 := hwy.word0 hs.2
        have hX := one_word hs.1
        have hY := one_word hs.2
        obtain ⟨hs1, hs2⟩ := hs
        clear hwx hwy
        go_wp2
        go_quiet (fail)
        go_wp2
        go_loopg [9, 10] gk (fun n mv nv wr => ∃ m : Nat, mv = .int .i64 (m : Int) ∧ nv = .int .i64 (n : Int) ∧ Hid (Nat.gcd m n = G) ∧ m < 1000000000 ∧ n < 1000000000 ∧ Below w.heap.size w wr)
        case atStart => exact ⟨X, rfl, rfl, hgg, hX, hY, Below.drewN hbw _⟩
        case round =>
          clear hgg hX hY hbw
          obtain ⟨p, rfl, rfl, hgg, hp, hq, hbw⟩ := hrel
          by_cases hq0 : gk = 0
          · subst hq0
            have hgx := hgg.out
            rw [Nat.gcd_zero_right] at hgx
            subst hgx
            clear hgg
            go_wp2_with fail
            refine (vof_any (p : Int) _ (hg.of hbw) (by omega) (by omega)).mono ?_
            rintro e w1 ⟨rfl, hb1⟩
            go_wp2
            go_ret2
            exact Ret.of rfl (Below.then hbw hb1)
          · have hg3 : Hid (Nat.gcd gk (p % gk) = G) := (gcd_step p gk).symm.trans hgg.out
            have hmn : p % gk < gk := Nat.mod_lt _ (by omega)
            clear hgg
            go_wp2
            go_region
            all_goals
              go_wp2
              go_roundg (p % gk)
              case measure => exact hmn
              case rel => exact ⟨gk, rfl, by go_num, hg3, hq, by omega, hbw.drew⟩
      · have hg3 : Hid (Nat.gcd gk (X % gk) = G) := (gcd_step X gk).symm.trans hgg.out
        have hmn : X % gk < gk := Nat.mod_lt _ (by omega)
        have hnr : nw (X % gk) ≤ 200 := nw_mod_le (by omega) hny
        clear hwx hwy hgg
        have hs2 : nw X ≤ 1 → ¬ nw gk ≤ 1 := fun h1 h => hs ⟨h1, h⟩
        clear hs
        by_cases hs1 : nw X ≤ 1
        all_goals
          try replace hs2 := hs2 hs1
          go_wp2_with fail
          refine (hDV.out _ hHW.out.1 hHW.out.2).mono ?_
          rintro e w2 ⟨bq, br, hbq, hbr, hqr, rfl, hwq, hwr, hb2⟩
          clear hwq
          have hb3 := Below.then hbw hb2
          have hwy2 := hHW.out.2.below hb2
          have hbr' : w.heap.size ≤ br := Nat.le_trans hbw.size hbr
          clear hbq hbr hqr hHW hDV
          go_wp2
          go_roundg (X % gk)
          case measure => exact hmn
          case rel => exact ⟨by_, br, ny, false, gk, rfl, rfl, hby, hbr', hg3, hny, hnr, hwy2, hwr, hb3⟩
end W
end Go.Proofs.YtellemlhhlafcaaGreatDoor
end
section
namespace Go.Proofs.YtellemlhhlafcaaGreatDoor
open Go Go.RowKit Go.Deep
namespace M
theorem tdiv_sg (x y : Int) : x.tdiv y = sg (decide (x < 0) != decide (y < 0)) (x.natAbs / y.natAbs) := by
  have e1 : ∀ m n : Nat, (m : Int).tdiv (n : Int) = ((m / n : Nat) : Int) := fun m n => rfl
  rcases Int.lt_or_le x 0 with hx | hx <;> rcases Int.lt_or_le y 0 with hy | hy
  · rw [decide_eq_true hx, decide_eq_true hy]
    obtain ⟨m, rfl⟩ : ∃ m : Nat, x = -(m : Int) := ⟨x.natAbs, by omega⟩
    obtain ⟨n, rfl⟩ : ∃ n : Nat, y = -(n : Int) := ⟨y.natAbs, by omega⟩
    clear hx hy
    simp [sg, Int.neg_tdiv, Int.tdiv_neg, e1]
  · rw [decide_eq_true hx, decide_eq_false (show ¬ y < 0 by omega)]
    obtain ⟨m, rfl⟩ : ∃ m : Nat, x = -(m : Int) := ⟨x.natAbs, by omega⟩
    obtain ⟨n, rfl⟩ : ∃ n : Nat, y = (n : Int) := ⟨y.natAbs, by omega⟩
    clear hx hy
    simp [sg, Int.neg_tdiv, e1]
  · rw [decide_eq_false (show ¬ x < 0 by omega), decide_eq_true hy]
    obtain ⟨m, rfl⟩ : ∃ m : Nat, x = (m : Int) := ⟨x.natAbs, by omega⟩
    obtain ⟨n, rfl⟩ : ∃ n : Nat, y = -(n : Int) := ⟨y.natAbs, by omega⟩
    clear hx hy
    simp [sg, Int.tdiv_neg, e1]
  · rw [decide_eq_false (show ¬ x < 0 by omega), decide_eq_false (show ¬ y < 0 by omega)]
    obtain ⟨m, rfl⟩ : ∃ m : Nat, x = (m : Int) := ⟨x.natAbs, by omega⟩
    obtain ⟨n, rfl⟩ : ∃ n : Nat, y = (n : Int) := ⟨y.natAbs, by omega⟩
    clear hx hy
    simp [sg, e1]
theorem tmod_sg (x y : Int) : x.tmod y = sg (decide (x < 0)) (x.natAbs % y.natAbs) := by
  have e1 : ∀ m n : Nat, (m : Int).tmod (n : Int) = ((m % n : Nat) : Int) := fun m n => rfl
  rcases Int.lt_or_le x 0 with hx | hx <;> rcases Int.lt_or_le y 0 with hy | hy
  · rw [decide_eq_true hx]
    obtain ⟨m, rfl⟩ : ∃ m : Nat, x = -(m : Int) := ⟨x.natAbs, by omega⟩
    obtain ⟨n, rfl⟩ : ∃ n : Nat, y = -(n : Int) := ⟨y.natAbs, by omega⟩
    clear hx hy
    simp [sg, Int.neg_tmod, Int.tmod_neg, e1]
  · rw [decide_eq_true hx]
    obtain ⟨m, rfl⟩ : ∃ m : Nat, x = -(m : Int) := ⟨x.natAbs, by omega⟩
    obtain ⟨n, rfl⟩ : ∃ n : Nat, y = (n : Int) := ⟨y.natAbs, by omega⟩
    clear hx hy
    simp [sg, Int.neg_tmod, e1]
  · rw [decide_eq_false (show ¬ x < 0 by omega)]
    obtain ⟨m, rfl⟩ : ∃ m : Nat, x = (m : Int) := ⟨x.natAbs, by omega⟩
    obtain ⟨n, rfl⟩ : ∃ n : Nat, y = -(n : Int) := ⟨y.natAbs, by omega⟩
    clear hx hy
    simp [sg, Int.tmod_neg, e1]
  · rw [decide_eq_false (show ¬ x < 0 by omega)]
    obtain ⟨m, rfl⟩ : ∃ m : Nat, x = (m : Int) := ⟨x.natAbs, by omega⟩
    obtain ⟨n, rfl⟩ : ∃ n : Nat, y = (n : Int) := ⟨y.natAbs, by omega⟩
    clear hx hy
    simp [sg, e1]
theorem fdiv_keep {x y : Int} (hy : y ≠ 0) (h : x.tmod y = 0 ∨ decide (x.tmod y < 0) = decide (y < 0)) : x.tdiv y = x.fdiv y := by
  obtain ⟨h1, h2, h3⟩ := tmod_facts x y hy
  simp only [decide_eq_decide] at h
  generalize x.tmod y = r at *
  exact ((fdiv_of h3 (by omega)).1).symm
theorem fdiv_move {x y : Int} (hy : y ≠ 0) (h0 : x.tmod y ≠ 0) (h : ¬ decide (x.tmod y < 0) = decide (y < 0)) : x.tdiv y - 1 = x.fdiv y := by
  obtain ⟨h1, h2, h3⟩ := tmod_facts x y hy
  simp only [decide_eq_decide] at h
  generalize x.tmod y = r at *
  exact ((fdiv_of (q := x.tdiv y - 1) (r := r + y) (by rw [Int.sub_mul, Int.one_mul]; omega) (by omega)).1).symm
end M
namespace W
open M
attribute [local go_sem] bs_size bs_toList bs_get bs_extract bs_append bs_lit0 bs_lit1 lit1_bs
set_option maxHeartbeats 1000000
set_option maxRecDepth 20000
theorem parted_small (x y : Int) (w : World) (hg : Glob w) (hx : Ok x) (hy : Ok y) (h0 : y ≠ 0) (hs : (I x).length ≤ 9 ∧ (I y).length ≤ 9) :
    Calls Tryz.prog 230 #[.string (bs (I x)), .string (bs (I y))] w (Ret w (.tuple #[.string (bs (I (x.fdiv y))), .string (bs (I (x.fmod y))), .int .i64 0])) := by
  have lx := hx.len
  have ly := hy.len
  have ha := fun w' => vall_two (I x) (I y) w' (by omega) (by omega)
  rw [chkAll_two hx hy] at ha
  have HA := Lib.hid ha
  have b1 := short9 hs.1
  have b2 := short9 hs.2
  have HM := Lib.hid (fun w' => small_yes x y w' hs.1 hs.2)
  have hy0 : ((I y) == [48]) = false := by simp [I_eq_zero]; omega
  have hyb : ((y : Int) == 0) = false := by simpa using h0
  obtain ⟨t1, t2, -⟩ := tmod_facts x y h0
  have hq := Int.natAbs_tdiv_le_natAbs x y
  have hk1 := Lib.hid (fmod_keep (x := x) h0)
  have hk2 := Lib.hid (fdiv_keep (x := x) h0)
  have hm1 := Lib.hid (fmod_move (x := x) h0)
  have hm2 := Lib.hid (fdiv_move (x := x) h0)
  obtain ⟨q0, hq0⟩ : ∃ q0, x.tdiv y = q0 := ⟨_, rfl⟩
  obtain ⟨r0, hr0⟩ : ∃ r0, x.tmod y = r0 := ⟨_, rfl⟩
  rw [hq0] at hq hk2 hm2
  rw [hr0] at t1 t2 hk1 hk2 hm1 hm2
  clear t2 hx hy ha hs
  by_cases hr : r0 = 0
  · have hrb : (r0 != 0) = false := by simpa using hr
    have e1 := hk1.out (Or.inl hr)
    have e2 := hk2.out (Or.inl hr)
    rw [← e1, ← e2]
    have HE := Lib.hid (And.intro e1 e2)
    clear hr e1 e2 hk1 hk2 hm1 hm2
    go_enter Tryz.func230, Tryz.ntmps230
    go_wp2_with fail
    refine (HA.out _).mono ?_
    rintro e w1 ⟨rfl, hb1⟩
    have hb1' := alloc_then hb1
    go_wp2_with fail
    refine (HM.out _).mono ?_
    rintro e w2 ⟨rfl, hb2⟩
    have hb2' := Below.then hb1' hb2
    have HO := Lib.hid (fun w' hg => vof_any q0 w' hg (by omega) (by omega))
    have HO2 := Lib.hid (fun w' hg => vof_any r0 w' hg (by omega) (by omega))
    go_wp2
    go_quiet (fail)
    go_wp2_with fail
    refine (HO.out _ (hg.of (Below.drewN hb2' _))).mono ?_
    rintro e w3 ⟨rfl, hb3⟩
    have hb3' := Below.then (Below.drewN hb2' _) hb3
    go_wp2_with fail
    refine (HO2.out _ (hg.of hb3')).mono ?_
    rintro e w4 ⟨rfl, hb4⟩
    go_wp2
    go_ret3
    exact Ret.of rfl (Below.then hb3' hb4)
  · have hrb : (r0 != 0) = true := by simpa using hr
    by_cases hsg : decide (r0 < 0) = decide (y < 0)
    · have hb3 : (decide (r0 < 0) == decide (y < 0)) = true := by simpa using hsg
      have hb4 : (decide (r0 < 0) != decide (y < 0)) = false := by simpa using hsg
      have e1 := hk1.out (Or.inr hsg)
      have e2 := hk2.out (Or.inr hsg)
      rw [← e1, ← e2]
      clear hr e1 e2 hk1 hk2 hm1 hm2 hsg
      go_enter Tryz.func230, Tryz.ntmps230
      go_wp2_with fail
      refine (HA.out _).mono ?_
      rintro e w1 ⟨rfl, hb1⟩
      have hb1' := alloc_then hb1
      go_wp2_with fail
      refine (HM.out _).mono ?_
      rintro e w2 ⟨rfl, hb2⟩
      have hb2' := Below.then hb1' hb2
      have HO := Lib.hid (fun w' hg => vof_any q0 w' hg (by omega) (by omega))
      have HO2 := Lib.hid (fun w' hg => vof_any r0 w' hg (by omega) (by omega))
      go_wp2
      go_quiet (fail)
      go_wp2_with fail
      refine (HO.out _ (hg.of (Below.drewN hb2' _))).mono ?_
      rintro e w3 ⟨rfl, hb3⟩
      have hb3' := Below.then (Below.drewN hb2' _) hb3
      go_wp2_with fail
      refine (HO2.out _ (hg.of hb3')).mono ?_
      rintro e w4 ⟨rfl, hb4⟩
      go_wp2
      go_ret3
      exact Ret.of rfl (Below.then hb3' hb4)
    · have hb3 : (decide (r0 < 0) == decide (y < 0)) = false := by simpa using hsg
      have hb4 : (decide (r0 < 0) != decide (y < 0)) = true := by simpa using hsg
      have e1 := hm1.out hr hsg
      have e2 := hm2.out hr hsg
      rw [← e1, ← e2]
      clear hr e1 e2 hk1 hk2 hm1 hm2 hsg
      go_enter Tryz.func230, Tryz.ntmps230
      go_wp2_with fail
      refine (HA.out _).mono ?_
      rintro e w1 ⟨rfl, hb1⟩
      have hb1' := alloc_then hb1
      go_wp2_with fail
      refine (HM.out _).mono ?_
      rintro e w2 ⟨rfl, hb2⟩
      have hb2' := Below.then hb1' hb2
      have HO := Lib.hid (fun w' hg => vof_any (q0 - 1) w' hg (by omega) (by omega))
      have HO2 := Lib.hid (fun w' hg => vof_any (r0 + y) w' hg (by omega) (by omega))
      go_wp2
      go_quiet (fail)
      go_wp2_with fail
      refine (HO.out _ (hg.of (Below.drewN hb2' _))).mono ?_
      rintro e w3 ⟨rfl, hb3⟩
      have hb3' := Below.then (Below.drewN hb2' _) hb3
      go_wp2_with fail
      refine (HO2.out _ (hg.of hb3')).mono ?_
      rintro e w4 ⟨rfl, hb4⟩
      go_wp2
      go_ret3
      exact Ret.of rfl (Below.then hb3' hb4)
end W
end Go.Proofs.YtellemlhhlafcaaGreatDoor
end
section
namespace Go.Proofs.YtellemlhhlafcaaGreatDoor
open Go Go.RowKit Go.Deep
namespace M
theorem nw_pos_lt {m : Nat} (h : m ≠ 0) : (0 : Int) < (nw m : Int) := by have := nw_pos h; omega
theorem room2 {a b : Nat} (ha : nw a ≤ 114) (hb : nw b ≤ 114) : a + b < BB ^ 232 := by
  have h1 := nw_le.1 ha
  have h2 := nw_le.1 hb
  have h3 : BB ^ 115 ≤ BB ^ 232 := Nat.pow_le_pow_right (by decide) (by decide)
  have h4 : BB ^ 115 = BB ^ 114 * BB := Nat.pow_succ _ _
  have h5 : BB ^ 114 * 2 ≤ BB ^ 114 * BB := Nat.mul_le_mul_left _ (by decide)
  omega
theorem nw_one : nw 1 = 1 := by
  rw [nw_pos (by decide), show 1 / BB = 0 by decide, nw_zero]
theorem wv_one : wv (1 :: List.replicate 231 0) = 1 := by
  rw [wv, wv_zeros]; rfl
theorem nw_le_of {a b : Nat} {k : Nat} (h : a ≤ b) (hb : nw b ≤ k) : nw a ≤ k := nw_le.2 (Nat.lt_of_le_of_lt h (nw_le.1 hb))
end M
theorem one_cells : (((Tryz.zeroCells248.setIfInBounds 0 (.bool true)).setIfInBounds 1 (.int .i64 1)).setIfInBounds 2 (.int .i64 1)) = (wcells true 1 (1 :: List.replicate 231 0)).toArray := by kernel_rfl
theorem Wide.one (w : World) : Wide (w.alloc (.cells (((Tryz.zeroCells248.setIfInBounds 0 (.bool true)).setIfInBounds 1 (.int .i64 1)).setIfInBounds 2 (.int .i64 1)) 248)) w.heap.size true 1 := by
  refine ⟨1 :: List.replicate 231 0, M.wv_one, ?_, (List.length_cons).trans (congrArg (· + 1) List.length_replicate), fun c hc => ?_, fun i hi h1 => ?_, by rw [M.nw_one]; omega⟩
  · rw [one_cells, M.nw_one]
    exact Row.new w _ _
  · rcases List.mem_cons.1 hc with rfl | hc
    · decide
    · rw [List.eq_of_mem_replicate hc]; decide
  · rw [M.nw_one] at h1
    obtain ⟨j, rfl⟩ : ∃ j, i = j + 1 := ⟨i - 1, by omega⟩
    rw [List.getElem_cons_succ]; exact List.getElem_replicate _
namespace W
open M
attribute [local go_sem] bs_size bs_toList bs_get bs_extract bs_append bs_lit0 bs_lit1 lit1_bs
set_option maxHeartbeats 1000000
set_option maxRecDepth 20000
theorem parted_big (x y : Int) (w : World) (hg : Glob w) (hx : Ok x) (hy : Ok y) (h0 : y ≠ 0) (hs : ¬ ((I x).length ≤ 9 ∧ (I y).length ≤ 9)) :
    Calls Tryz.prog 230 #[.string (bs (I x)), .string (bs (I y))] w (Ret w (.tuple #[.string (bs (I (x.fdiv y))), .string (bs (I (x.fmod y))), .int .i64 0])) := by
  have lx := hx.len
  have ly := hy.len
  have ha := fun w' => vall_two (I x) (I y) w' (by omega) (by omega)
  rw [chkAll_two hx hy] at ha
  have HA := Lib.hid ha
  have HM := Lib.hid (fun w' => small_no (I x) (I y) w' hs (by omega) (by omega))
  have hy0 : ((I y) == [48]) = false := by simp [I_eq_zero]; omega
  have hk1 := fmod_keep (x := x) h0
  have hk2 := fdiv_keep (x := x) h0
  have hm1 := fmod_move (x := x) h0
  have hm2 := fdiv_move (x := x) h0
  obtain ⟨-, t2, -⟩ := tmod_facts x y h0
  rw [tmod_sg] at hk1 hk2 hm1 hm2 t2
  rw [tdiv_sg] at hk2 hm2
  have HRX := Lib.hid (fun w' => read_I x w' hx)
  have HRY := Lib.hid (fun w' => read_I y w' hy)
  have hnx := hx.nw
  have hny := hy.nw
  have hYp : 0 < y.natAbs := by omega
  obtain ⟨X, hX⟩ : ∃ X, x.natAbs = X := ⟨_, rfl⟩
  obtain ⟨Y, hY⟩ : ∃ Y, y.natAbs = Y := ⟨_, rfl⟩
  obtain ⟨nx, hNX⟩ : ∃ nx, decide (x < 0) = nx := ⟨_, rfl⟩
  obtain ⟨ny, hNY⟩ : ∃ ny, decide (y < 0) = ny := ⟨_, rfl⟩
  rw [hX] at HRX hnx hk1 hk2 hm1 hm2 t2
  rw [hY] at HRY hny hYp hk1 hk2 hm1 hm2 t2
  rw [hNX] at HRX hk1 hk2 hm1 hm2 t2
  rw [hNY] at HRY hk1 hk2 hm1 hm2
  have hyv : y = sg ny Y := by rw [← hNY, ← hY]; unfold sg; simp only [decide_eq_true_eq]; split <;> omega
  have HDV := Lib.hid (fun bx by_ w' h1 h2 => divided_any bx by_ nx ny X Y w' h1 h2 hYp (by omega))
  obtain ⟨q0, hq0⟩ : ∃ q0, x.fdiv y = q0 := ⟨_, rfl⟩
  obtain ⟨r0, hr0⟩ : ∃ r0, x.fmod y = r0 := ⟨_, rfl⟩
  rw [hq0, hr0]
  rw [hr0] at hk1 hm1
  rw [hq0] at hk2 hm2
  have HK := Lib.hid (And.intro hk1 (And.intro hk2 (And.intro hm1 (And.intro hm2 (And.intro t2 hyv)))))
  have HYP := Lib.hid hYp
  clear hk1 hk2 hm1 hm2 t2 hyv ha hx hy h0 hs hX hY hNX hNY hq0 hr0 lx ly hYp
  go_enter Tryz.func230, Tryz.ntmps230
  go_wp2_with fail
  refine (HA.out _).mono ?_
  rintro e w1 ⟨rfl, hb1⟩
  have hb1' := alloc_then hb1
  go_wp2_with fail
  refine (HM.out _).mono ?_
  rintro e w2 ⟨rfl, hb2⟩
  have hb2' := Below.then hb1' hb2
  go_wp2_with fail
  refine (HRX.out _).mono ?_
  rintro e w3 ⟨bx, hbx, rfl, hwx, hb3⟩
  have hb3' := Below.then hb2' hb3
  go_wp2_with fail
  refine (HRY.out _).mono ?_
  rintro e w4 ⟨by_, hby, rfl, hwy, hb4⟩
  have hb4' := Below.then hb3' hb4
  have hwx4 := hwx.below hb4
  go_wp2_with fail
  refine (HDV.out _ _ _ hwx4 hwy).mono ?_
  rintro e w5 ⟨bq, br, hbq, hbr, hqr, rfl, hwq, hwr, hb5⟩
  have hb5' := Below.then hb4' hb5
  have hwx5 := hwx4.below hb5
  have hwy5 := hwy.below hb5
  have l1 := hwx4.lt
  have l2 := hwy.lt
  have c1 := less_cell hwx5
  have c2 := less_cell hwy5
  have c3 := less_cell hwq
  have c4 := less_cell hwr
  obtain ⟨_, hqrow⟩ := hwq.row0
  obtain ⟨_, hrrow⟩ := hwr.row0
  have f3 := hqrow.free 0
  have f4 := hrrow.free 0
  have d1 : w.heap.size ≤ bx := Nat.le_trans hb2'.size hbx
  have d2 : w.heap.size ≤ by_ := Nat.le_trans hb3'.size hby
  have d3 : w.heap.size ≤ bq := Nat.le_trans hb4'.size hbq
  have d4 : w.heap.size ≤ br := Nat.le_trans hb4'.size hbr
  have n1 : bx < br := by omega
  have n2 : by_ < bq := by omega
  clear hwx hwx4 hwy hb1 hb2 hb3 hb4 hb5 hb1' hb2' hb3' hb4' hqrow hrrow HA HM HRX HRY HDV
  go_wp2
  go_region
  have hnm : (!(nx == ny)) = (nx != ny) := rfl
  rw [hnm]
  clear hnm c1 c2 c3 c4 f3 f4
  have o1 := (Only.refl bq w5).setCell 0 (.bool (nx != ny))
  have hq2 := hwq.setLess (nx != ny)
  have hr2 := (hwr.only o1 (by omega)).setLess nx
  have o2 := (Only.refl br (w5.setCell ⟨bq, 0, none⟩ (.bool (nx != ny)))).setCell 0 (.bool nx)
  have hq3 := Wide.drewN (hq2.only o2 (by omega)) 1
  have hr3 := Wide.drewN hr2 1
  have hx3 := Wide.drewN ((hwx5.only o1 (by omega)).only o2 (by omega)) 1
  have hy3 := Wide.drewN ((hwy5.only o1 (by omega)).only o2 (by omega)) 1
  have hb3 := Below.drew ((hb5'.trans (o1.below d3 hb5'.size)).trans (o2.below d4 (hb5'.trans (o1.below d3 hb5'.size)).size))
  change Wide (((w5.setCell ⟨bq, 0, none⟩ (.bool (nx != ny))).setCell ⟨br, 0, none⟩ (.bool nx)).drew) _ _ _ at hq3 hr3 hx3 hy3
  change Below w.heap.size w (((w5.setCell ⟨bq, 0, none⟩ (.bool (nx != ny))).setCell ⟨br, 0, none⟩ (.bool nx)).drew) at hb3
  generalize (((w5.setCell ⟨bq, 0, none⟩ (.bool (nx != ny))).setCell ⟨br, 0, none⟩ (.bool nx)).drew) = W6 at *
  clear hwq hwr hwx5 hwy5 hq2 hr2 o1 o2 hb5'
  have e1 := less_cell hx3
  have e2 := less_cell hy3
  have e3 := n_cell hr3
  obtain ⟨k1, k2, m1, m2, t2, hyv⟩ := HK.out
  clear HK
  generalize hRR : X % Y = R at *
  have hRY : R < Y := by rw [← hRR]; exact Nat.mod_lt _ HYP.out
  have hsz : R ≠ 0 → sg nx R ≠ 0 := by intro h; unfold sg; split <;> omega
  by_cases hd : R = 0 ∨ nx = ny
  · have hc : sg nx R = 0 ∨ decide (sg nx R < 0) = ny := by
      rcases hd with h | h
      · left; subst h; unfold sg; split <;> rfl
      · rcases t2 with h2 | h2
        · exact Or.inl h2
        · right; rw [h2]; exact h
    have HT1 := Lib.hid (fun w' hg h => text_x bq (nx != ny) (X / Y) w' hg h)
    have HT2 := Lib.hid (fun w' hg h => text_x br nx R w' hg h)
    rw [k2 hc] at HT1
    rw [k1 hc] at HT2
    have fin : ∀ n, Glob (W6.drewN n) := fun n => hg.of (Below.drewN hb3 n)
    clear k1 k2 m1 m2 t2 hyv hsz hc
    by_cases hR : R = 0
    · subst hR
      rw [nw_zero] at e3
      clear hd
      go_wp2
      go_quiet (fail)
      go_wp2_with fail
      refine (HT1.out _ (hg.of (Below.drewN hb3 _)) (Wide.drewN hq3 _)).mono ?_
      rintro e w1 ⟨rfl, hb1⟩
      have hb1' := Below.then (Below.drewN hb3 _) hb1
      go_wp2_with fail
      refine (HT2.out _ (hg.of hb1') ((Wide.drewN hr3 _).below hb1)).mono ?_
      rintro e w2 ⟨rfl, hb2⟩
      go_wp2
      go_ret3
      exact Ret.of rfl (Below.then hb1' hb2)
    · have hnn : nx = ny := hd.resolve_left hR
      subst hnn
      have e4 := nw_pos_lt hR
      obtain ⟨nr, hnr⟩ : ∃ nr : Int, (nw R : Int) = nr := ⟨_, rfl⟩
      rw [hnr] at e3 e4
      clear hnr
      have e7 : decide (0 < nr) = true := decide_eq_true e4
      have e5 : (nx != nx) = false := by simp
      have e6 : (nx == nx) = true := by simp
      clear hd
      go_wp2
      go_quiet (fail)
      clear e7 e4
      have hq4 : Wide (W6.drewN nq) bq (nx != nx) (X / Y) := Wide.drewN hq3 nq
      have hr4 : Wide (W6.drewN nq) br nx R := Wide.drewN hr3 nq
      have hb4 := Below.drewN hb3 nq
      go_wp2_with fail
      refine (HT1.out _ (hg.of hb4) hq4).mono ?_
      rintro e w1 ⟨rfl, hb1⟩
      have hb1' := Below.then hb4 hb1
      go_wp2_with fail
      refine (HT2.out _ (hg.of hb1') (hr4.below hb1)).mono ?_
      rintro e w2 ⟨rfl, hb2⟩
      go_wp2
      go_ret3
      exact Ret.of rfl (Below.then hb1' hb2)
  · have hR : R ≠ 0 := fun h => hd (Or.inl h)
    have hnn : nx ≠ ny := fun h => hd (Or.inr h)
    have e4 := nw_pos_lt hR
    obtain ⟨nr, hnr⟩ : ∃ nr : Int, (nw R : Int) = nr := ⟨_, rfl⟩
    rw [hnr] at e3 e4
    clear hnr
    have e7 : decide (0 < nr) = true := decide_eq_true e4
    have e5 : (nx != ny) = true := by simpa using hnn
    have e6 : (nx == ny) = false := by simpa using hnn
    have hc : ¬ decide (sg nx R < 0) = ny := by
      rcases t2 with h2 | h2
      · exact absurd h2 (hsz hR)
      · rw [h2]; exact hnn
    have m1' := m1 (hsz hR) hc
    have m2' := m2 (hsz hR) hc
    clear k1 k2 m1 m2 t2 hsz hc hd hR hnn
    rw [e5] at m2' hq3
    go_wp2
    go_quiet (fail)
    have hq4 : Wide (W6.drewN nq) bq true (X / Y) := Wide.drewN hq3 nq
    have hr4 : Wide (W6.drewN nq) br nx R := Wide.drewN hr3 nq
    have hy4 : Wide (W6.drewN nq) by_ ny Y := Wide.drewN hy3 nq
    have hb4 := Below.drewN hb3 nq
    clear hq3 hr3 hy3 hb3 hx3
    generalize (W6.drewN nq) = W7 at *
    have a1 : Below W7.heap.size W7 (W7.alloc (.cells (((Tryz.zeroCells248.setIfInBounds 0 (.bool true)).setIfInBounds 1 (.int .i64 1)).setIfInBounds 2 (.int .i64 1)) 248)) := RowKit.Below.alloc (RowKit.Below.refl _ _) (Nat.le_refl _) _
    have b0 := hq4.lt
    have b1 := hr4.lt
    have b2 := hy4.lt
    have hq5 := hq4.below a1
    have hr5 := hr4.below a1
    have hy5 := hy4.below a1
    have h1 := Wide.one W7
    have hb5 := hb4.trans (a1.mono hb4.size)
    have f1 := less_cell hq5
    obtain ⟨_, hrw⟩ := hq5.row0
    have f2 := hrw.free 0
    have hsz : (W7.setCell ⟨bq, 0, none⟩ (.bool true)).heap.size = W7.heap.size := by simp [World.setCell]
    have o1 := (Only.refl bq W7).setCell 0 (.bool true)
    have a2 : Below (W7.setCell ⟨bq, 0, none⟩ (.bool true)).heap.size (W7.setCell ⟨bq, 0, none⟩ (.bool true)) ((W7.setCell ⟨bq, 0, none⟩ (.bool true)).alloc (.cells (((Tryz.zeroCells248.setIfInBounds 0 (.bool true)).setIfInBounds 1 (.int .i64 1)).setIfInBounds 2 (.int .i64 1)) 248)) := RowKit.Below.alloc (RowKit.Below.refl _ _) (Nat.le_refl _) _
    have hq6 := (hq4.setLess true).below a2
    have hr6 := (hr4.only o1 (Ne.symm hqr)).below a2
    have hy6 := (hy4.only o1 (by omega)).below a2
    have h16 := Wide.one (W7.setCell ⟨bq, 0, none⟩ (.bool true))
    rw [hsz] at h16
    have hb6 := (hb4.trans (o1.below d3 hb4.size)).trans (a2.mono (hb4.trans (o1.below d3 hb4.size)).size)
    clear hq5 a1 hrw o1 hq4 hr4 hy4 hb5 hr5 hy5 h1 a2
    have hX1 : nw (X / Y) ≤ 114 := nw_le_of (Nat.div_le_self _ _) hnx
    have hR1 : nw R ≤ 114 := nw_le_of (Nat.le_of_lt hRY) hny
    have h11 : nw 1 ≤ 114 := by rw [nw_one]; decide
    have HP1 := Lib.hid (fun w' h1 h2 => plus_any bq W7.heap.size true true (X / Y) 1 w' (by omega) h1 h2 (room2 hX1 h11))
    have HP2 := Lib.hid (fun w' h1 h2 => plus_any br by_ nx ny R Y w' (by omega) h1 h2 (room2 hR1 hny))
    clear hX1 hR1 h11
    go_wp2_with fail
    refine (HP1.out _ hq6 h16).mono ?_
    rintro e w8 ⟨rfl, ⟨nz, Z, hz, hzs⟩, o8⟩
    have hb8 := hb6.trans (o8.below d3 hb6.size)
    have hr8 := hr6.only o8 (Ne.symm hqr)
    have hy8 := hy6.only o8 (by omega)
    clear hq6 hr6 hy6 h16 hb6 o8
    go_wp2_with fail
    refine (HP2.out _ hr8 hy8).mono ?_
    rintro e w9 ⟨rfl, ⟨nr2, Z2, hz2, hzs2⟩, o9⟩
    have hb9 := hb8.trans (o9.below d4 hb8.size)
    have hz9 := hz.only o9 hqr
    have HT1 := Lib.hid (fun w' hg h => text_x bq nz Z w' hg h)
    have HT2 := Lib.hid (fun w' hg h => text_x br nr2 Z2 w' hg h)
    have q1 : sg nz Z = q0 := by rw [hzs, ← m2']; show _ + -((1 : Nat) : Int) = _; omega
    have q2 : sg nr2 Z2 = r0 := by rw [hzs2, ← m1', hyv]
    rw [q1] at HT1
    rw [q2] at HT2
    clear hr8 hy8 hz hzs hzs2 o9 q1 q2 m1' m2' hyv
    go_wp2_with fail
    refine (HT1.out _ (hg.of hb9) hz9).mono ?_
    rintro e w1 ⟨rfl, hb1⟩
    have hb1' := Below.then hb9 hb1
    go_wp2_with fail
    refine (HT2.out _ (hg.of hb1') (hz2.below hb1)).mono ?_
    rintro e w2 ⟨rfl, hb2⟩
    go_wp2
    go_ret3
    exact Ret.of rfl (Below.then hb1' hb2)
theorem vparted_I (x y : Int) (w : World) (hg : Glob w) (hx : Ok x) (hy : Ok y) (h0 : y ≠ 0) :
    Calls Tryz.prog 230 #[.string (bs (I x)), .string (bs (I y))] w (Ret w (.tuple #[.string (bs (I (x.fdiv y))), .string (bs (I (x.fmod y))), .int .i64 0])) := by
  by_cases hs : (I x).length ≤ 9 ∧ (I y).length ≤ 9
  · exact parted_small x y w hg hx hy h0 hs
  · exact parted_big x y w hg hx hy h0 hs
end W
end Go.Proofs.YtellemlhhlafcaaGreatDoor
end
section
namespace Go.Proofs.YtellemlhhlafcaaGreatDoor
open Go Go.RowKit Go.Deep
namespace W
open M
attribute [local go_sem] bs_size bs_toList bs_get bs_extract bs_append bs_lit0 bs_lit1 lit1_bs
set_option maxHeartbeats 1000000
set_option maxRecDepth 20000
theorem quo_I (x y : Int) (w : World) (hg : Glob w) (hx : Ok x) (hy : Ok y) (h0 : y ≠ 0) :
    Calls Tryz.prog 206 #[.string (bs (I x)), .string (bs (I y))] w (Ret w (.tuple #[.string (bs (I (x.fdiv y))), .int .i64 0])) := by
  have hq : Ok (x.fdiv y) := Nat.lt_of_le_of_lt (Int.natAbs_fdiv_le_natAbs x y) hx
  have lq := hq.len
  have HC := Lib.hid (fun w' => vcheck_any (I (x.fdiv y)) w' (by omega))
  rw [chk_I0 hq] at HC
  have HP := Lib.hid (vparted_I x y w hg hx hy h0)
  clear hq hx hy h0 hg
  generalize x.fdiv y = q0 at *
  generalize x.fmod y = r0 at *
  go_enter Tryz.func206, Tryz.ntmps206
  go_wp2_with fail
  refine (HP.out).mono ?_
  rintro e w1 ⟨rfl, hb1⟩
  go_wp2_with fail
  refine (HC.out _).mono ?_
  rintro e w2 ⟨rfl, hb2⟩
  go_wp2
  go_ret2
  exact Ret.of rfl (Below.then hb1 hb2)
theorem vSign_I (z : Int) (w : World) (hz : Ok z) :
    Calls Tryz.prog 226 #[.string (bs (I z))] w (Ret w (.tuple #[.int .i64 (Int.sign z), .int .i64 0])) := by
  have lz := hz.len
  have HC := Lib.hid (fun w' => vcheck_any (I z) w' (by omega))
  rw [chk_I0 hz] at HC
  clear hz
  go_enter Tryz.func226, Tryz.ntmps226
  go_wp2_with fail
  refine (HC.out _).mono ?_
  rintro e w1 ⟨rfl, hb1⟩
  go_wp2_with fail
  refine (vsign_I z _).mono ?_
  rintro e w' ⟨rfl, rfl⟩
  go_wp2
  go_ret2
  exact Ret.of rfl hb1
end W
end Go.Proofs.YtellemlhhlafcaaGreatDoor
end
