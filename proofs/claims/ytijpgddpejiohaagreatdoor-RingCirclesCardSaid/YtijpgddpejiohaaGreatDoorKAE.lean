/-
  Chapter 35's laws: the reference's vectors, and the order of points.
  Chapter 35's laws: 'slices.SortFunc' on points: the library's contract at this program.
  Chapter 35's laws: three points in order, in plain terms.
  Chapter 35's laws: RingCircles.
-/
import Derived.Test.YtijpgddpejiohaaGreatDoorKQ
import Derived.Test.YtijpgddpejiohaaGreatDoorKW
import Derived.Test.YtijpgddpejiohaaGreatDoorShelfs
import Derived.Test.YtijpgddpejiohaaGreatDoorKAD
section
namespace Go.Proofs.YtijpgddpejiohaaGreatDoor
open Go Go.RowKit Go.Deep Go.Sort
namespace M
theorem mul_bdY {a b : Int} (h1 : -200000 ≤ a ∧ a ≤ 200000) (h2 : -200000 ≤ b ∧ b ≤ 200000) : -40000000000 ≤ a * b ∧ a * b ≤ 40000000000 := by
  have h : (a * b).natAbs ≤ 200000 * 200000 := by rw [Int.natAbs_mul]; exact Nat.mul_le_mul (by omega) (by omega)
  omega
end M
namespace W
open M
attribute [local go_sem] bs_size bs_toList bs_get bs_extract bs_append bs_lit0 bs_lit1 lit1_bs
set_option maxHeartbeats 2000000
set_option maxRecDepth 20000
theorem rminus07 (ax ay bx bY : Int) (w : World) (h1 : -100000 ≤ ax ∧ ax ≤ 100000) (h2 : -100000 ≤ ay ∧ ay ≤ 100000) (h3 : -100000 ≤ bx ∧ bx ≤ 100000) (h4 : -100000 ≤ bY ∧ bY ≤ 100000) :
    Calls Tryz.prog 105 #[.agg #[.int .i64 ax, .int .i64 ay], .agg #[.int .i64 bx, .int .i64 bY]] w (Ret w (.agg #[.int .i64 (ax - bx), .int .i64 (ay - bY)])) := by
  have hw1 : IntKind.i64.wrap (ax - bx) = ax - bx := IntWalk.i64_in _ (by omega)
  have hw2 : IntKind.i64.wrap (ay - bY) = ay - bY := IntWalk.i64_in _ (by omega)
  have hB := Lib.hid (bel_alloc (bel_alloc (bel_alloc (Below.refl w.heap.size w) (.cells #[.int .i64 ax, .int .i64 ay] 69 (0, 0))) (.cells #[.int .i64 bx, .int .i64 bY] 69 (0, 0))) (.cells #[.int .i64 (ax - bx), .int .i64 (ay - bY)] 69 (0, 0)))
  have hr := (rnew0 (w := (w.alloc (.cells #[.int .i64 ax, .int .i64 ay] 69 (0, 0))).alloc (.cells #[.int .i64 bx, .int .i64 bY] 69 (0, 0))) (b := w.heap.size + 1 + 1) (t := 69) (xs := [.int .i64 (ax - bx), .int .i64 (ay - bY)]) (by rw [World.size_alloc, World.size_alloc]))
  have q0 := hr.cell (i := 0) rfl
  have q1 := hr.cell (i := 1) rfl
  clear hr h1 h2 h3 h4
  go_enter Tryz.func105, Tryz.ntmps105
  go_wp2
  refine bodyPost_ret (v := .agg #[.int .i64 (ax - bx), .int .i64 (ay - bY)]) (by simp [results, Tryz.results105, go_sem, q0, q1]) rfl ⟨rfl, hB.out⟩
theorem rturn07 (ax ay bx bY : Int) (w : World) (h1 : -200000 ≤ ax ∧ ax ≤ 200000) (h2 : -200000 ≤ ay ∧ ay ≤ 200000) (h3 : -200000 ≤ bx ∧ bx ≤ 200000) (h4 : -200000 ≤ bY ∧ bY ≤ 200000) :
    Calls Tryz.prog 104 #[.agg #[.int .i64 ax, .int .i64 ay], .agg #[.int .i64 bx, .int .i64 bY]] w (Ret w (.int .i64 (ax * bY - ay * bx))) := by
  have m1 := mul_bdY (a := ax) (b := bY) h1 h4
  have m2 := mul_bdY (a := ay) (b := bx) h2 h3
  have hw1 : IntKind.i64.wrap (ax * bY) = ax * bY := IntWalk.i64_in _ (by omega)
  have hw2 : IntKind.i64.wrap (ay * bx) = ay * bx := IntWalk.i64_in _ (by omega)
  have hw3 : IntKind.i64.wrap (ax * bY - ay * bx) = ax * bY - ay * bx := IntWalk.i64_in _ (by omega)
  have hB := Lib.hid (bel_alloc (bel_alloc (Below.refl w.heap.size w) (.cells #[.int .i64 ax, .int .i64 ay] 69 (0, 0))) (.cells #[.int .i64 bx, .int .i64 bY] 69 (0, 0)))
  clear h1 h2 h3 h4 m1 m2
  go_enter Tryz.func104, Tryz.ntmps104
  go_wp2
  go_ret
  exact Ret.of rfl hB.out
theorem rtimes07 (ax ay bx bY : Int) (w : World) (h1 : -200000 ≤ ax ∧ ax ≤ 200000) (h2 : -200000 ≤ ay ∧ ay ≤ 200000) (h3 : -200000 ≤ bx ∧ bx ≤ 200000) (h4 : -200000 ≤ bY ∧ bY ≤ 200000) :
    Calls Tryz.prog 109 #[.agg #[.int .i64 ax, .int .i64 ay], .agg #[.int .i64 bx, .int .i64 bY]] w (Ret w (.int .i64 (ax * bx + ay * bY))) := by
  have m1 := mul_bdY (a := ax) (b := bx) h1 h3
  have m2 := mul_bdY (a := ay) (b := bY) h2 h4
  have hw1 : IntKind.i64.wrap (ax * bx) = ax * bx := IntWalk.i64_in _ (by omega)
  have hw2 : IntKind.i64.wrap (ay * bY) = ay * bY := IntWalk.i64_in _ (by omega)
  have hw3 : IntKind.i64.wrap (ax * bx + ay * bY) = ax * bx + ay * bY := IntWalk.i64_in _ (by omega)
  have hB := Lib.hid (bel_alloc (bel_alloc (Below.refl w.heap.size w) (.cells #[.int .i64 ax, .int .i64 ay] 69 (0, 0))) (.cells #[.int .i64 bx, .int .i64 bY] 69 (0, 0)))
  clear h1 h2 h3 h4 m1 m2
  go_enter Tryz.func109, Tryz.ntmps109
  go_wp2
  go_ret
  exact Ret.of rfl hB.out
theorem rleft07 (a b c : PZ) (w : World) (ha : inP a = true) (hb : inP b = true) (hc : inP c = true) :
    Calls Tryz.prog 42 #[ptV a, ptV b, ptV c] w (Ret w (.int .i64 (leftZ a b c))) := by
  unfold inP at ha hb hc
  rw [Bool.and_eq_true] at ha hb hc
  have a1 := in_bd ha.1
  have a2 := in_bd ha.2
  have b1 := in_bd hb.1
  have b2 := in_bd hb.2
  have c1 := in_bd hc.1
  have c2 := in_bd hc.2
  obtain ⟨ax, ay⟩ := a
  obtain ⟨bx, bY⟩ := b
  obtain ⟨cx, cy⟩ := c
  simp only at a1 a2 b1 b2 c1 c2
  unfold ptV leftZ
  simp only
  have hw0 : Below w.heap.size w (((w.alloc (.cells #[.int .i64 ax, .int .i64 ay] 69 (0, 0))).alloc (.cells #[.int .i64 bx, .int .i64 bY] 69 (0, 0))).alloc (.cells #[.int .i64 cx, .int .i64 cy] 69 (0, 0))) := bel_alloc (bel_alloc (bel_alloc (Below.refl w.heap.size w) _) _) _
  have ra : Row (((w.alloc (.cells #[.int .i64 ax, .int .i64 ay] 69 (0, 0))).alloc (.cells #[.int .i64 bx, .int .i64 bY] 69 (0, 0))).alloc (.cells #[.int .i64 cx, .int .i64 cy] 69 (0, 0))) w.heap.size 69 [.int .i64 ax, .int .i64 ay] := (rnw.alloc _).alloc _
  have rb : Row (((w.alloc (.cells #[.int .i64 ax, .int .i64 ay] 69 (0, 0))).alloc (.cells #[.int .i64 bx, .int .i64 bY] 69 (0, 0))).alloc (.cells #[.int .i64 cx, .int .i64 cy] 69 (0, 0))) (w.heap.size + 1) 69 [.int .i64 bx, .int .i64 bY] := (rnew0 (World.size_alloc _ _).symm).alloc _
  have rc : Row (((w.alloc (.cells #[.int .i64 ax, .int .i64 ay] 69 (0, 0))).alloc (.cells #[.int .i64 bx, .int .i64 bY] 69 (0, 0))).alloc (.cells #[.int .i64 cx, .int .i64 cy] 69 (0, 0))) (w.heap.size + 1 + 1) 69 [.int .i64 cx, .int .i64 cy] := rnew0 (by rw [World.size_alloc, World.size_alloc])
  obtain ⟨W1, hW1⟩ : ∃ V, V = (((w.alloc (.cells #[.int .i64 ax, .int .i64 ay] 69 (0, 0))).alloc (.cells #[.int .i64 bx, .int .i64 bY] 69 (0, 0))).alloc (.cells #[.int .i64 cx, .int .i64 cy] 69 (0, 0))) := ⟨_, rfl⟩
  rw [← hW1] at hw0 ra rb rc
  have k1 := reg_of (w := W1) (fun W _ => rminus07 bx bY ax ay W b1 b2 a1 a2)
  have k2 := reg_of (w := W1) (fun W _ => rminus07 cx cy ax ay W c1 c2 a1 a2)
  have k3 := reg_of (w := W1) (fun W _ => rturn07 (bx - ax) (bY - ay) (cx - ax) (cy - ay) W (by omega) (by omega) (by omega) (by omega))
  have e1 : ∀ args w, (callFunc 105 args).run Tryz.prog w = .ok (.enter 105 args) w := enters_of Tryz.func105 (by kernel_rfl) rfl
  have e2 : ∀ args w, (callFunc 104 args).run Tryz.prog w = .ok (.enter 104 args) w := enters_of Tryz.func104 (by kernel_rfl) rfl
  have m0 := cell_regrown (ra.cell (i := 0) rfl)
  have m1 := cell_regrown (ra.cell (i := 1) rfl)
  have m2 := cell_regrown (rb.cell (i := 0) rfl)
  have m3 := cell_regrown (rb.cell (i := 1) rfl)
  have m4 := cell_regrown (rc.cell (i := 0) rfl)
  have m5 := cell_regrown (rc.cell (i := 1) rfl)
  have HB := Lib.hid hw0
  clear ha hb hc a1 a2 b1 b2 c1 c2 hw0 ra rb rc
  go_enter Tryz.func42, Tryz.ntmps42
  go_wp2_with fail
  rw [← hW1]
  clear hW1
  refine wp_region_quiet_below (by kernel_rfl) (by kernel_rfl) ?_
  repeat (go_big_quiet_step (fail))
  go_big_quiet_step (exact k1 _ _)
  repeat (go_big_quiet_step (fail))
  go_big_quiet_step (exact k2 _ _)
  repeat (go_big_quiet_step (fail))
  go_big_quiet_step (exact k3 _ _)
  repeat (go_big_quiet_step (fail))
  refine wpQuiet_nil ?_
  intro W6 hw'
  have hb6 : Below W1.heap.size W1 W6 := by obtain ⟨p, e⟩ := hw'; rw [e]; exact below_regrown W1 p.d p.os
  clear hw'
  have hb6' := bel_to HB.out hb6
  clear hb6 k1 k2 k3 e1 e2 m0 m1 m2 m3 m4 m5 HB
  go_wp2
  go_ret
  exact Ret.of rfl hb6'
theorem rfar07 (a b : PZ) (w : World) (ha : inP a = true) (hb : inP b = true) :
    Calls Tryz.prog 47 #[ptV a, ptV b] w (Ret w (.int .i64 (farZ a b))) := by
  unfold inP at ha hb
  rw [Bool.and_eq_true] at ha hb
  have a1 := in_bd ha.1
  have a2 := in_bd ha.2
  have b1 := in_bd hb.1
  have b2 := in_bd hb.2
  obtain ⟨ax, ay⟩ := a
  obtain ⟨bx, bY⟩ := b
  simp only at a1 a2 b1 b2
  unfold ptV farZ
  simp only
  have hw0 : Below w.heap.size w ((w.alloc (.cells #[.int .i64 ax, .int .i64 ay] 69 (0, 0))).alloc (.cells #[.int .i64 bx, .int .i64 bY] 69 (0, 0))) := bel_alloc (bel_alloc (Below.refl w.heap.size w) _) _
  have ra : Row ((w.alloc (.cells #[.int .i64 ax, .int .i64 ay] 69 (0, 0))).alloc (.cells #[.int .i64 bx, .int .i64 bY] 69 (0, 0))) w.heap.size 69 [.int .i64 ax, .int .i64 ay] := rnw.alloc _
  have rb : Row ((w.alloc (.cells #[.int .i64 ax, .int .i64 ay] 69 (0, 0))).alloc (.cells #[.int .i64 bx, .int .i64 bY] 69 (0, 0))) (w.heap.size + 1) 69 [.int .i64 bx, .int .i64 bY] := rnew0 (World.size_alloc _ _).symm
  obtain ⟨W1, hW1⟩ : ∃ V, V = ((w.alloc (.cells #[.int .i64 ax, .int .i64 ay] 69 (0, 0))).alloc (.cells #[.int .i64 bx, .int .i64 bY] 69 (0, 0))) := ⟨_, rfl⟩
  rw [← hW1] at hw0 ra rb
  have k1 := reg_of (w := W1) (fun W _ => rminus07 ax ay bx bY W a1 a2 b1 b2)
  have k3 := reg_of (w := W1) (fun W _ => rtimes07 (ax - bx) (ay - bY) (ax - bx) (ay - bY) W (by omega) (by omega) (by omega) (by omega))
  have e1 : ∀ args w, (callFunc 105 args).run Tryz.prog w = .ok (.enter 105 args) w := enters_of Tryz.func105 (by kernel_rfl) rfl
  have e2 : ∀ args w, (callFunc 109 args).run Tryz.prog w = .ok (.enter 109 args) w := enters_of Tryz.func109 (by kernel_rfl) rfl
  have m0 := cell_regrown (ra.cell (i := 0) rfl)
  have m1 := cell_regrown (ra.cell (i := 1) rfl)
  have m2 := cell_regrown (rb.cell (i := 0) rfl)
  have m3 := cell_regrown (rb.cell (i := 1) rfl)
  have HB := Lib.hid hw0
  clear ha hb a1 a2 b1 b2 hw0 ra rb
  go_enter Tryz.func47, Tryz.ntmps47
  go_wp2_with fail
  rw [← hW1]
  clear hW1
  refine wp_region_quiet_below (by kernel_rfl) (by kernel_rfl) ?_
  repeat (go_big_quiet_step (fail))
  go_big_quiet_step (exact k1 _ _)
  repeat (go_big_quiet_step (fail))
  go_big_quiet_step (exact k1 _ _)
  repeat (go_big_quiet_step (fail))
  go_big_quiet_step (exact k3 _ _)
  repeat (go_big_quiet_step (fail))
  refine wpQuiet_nil ?_
  intro W6 hw'
  have hb6 : Below W1.heap.size W1 W6 := by obtain ⟨p, e⟩ := hw'; rw [e]; exact below_regrown W1 p.d p.os
  clear hw'
  have hb6' := bel_to HB.out hb6
  clear hb6 k1 k3 e1 e2 m0 m1 m2 m3 HB
  go_wp2
  go_ret
  exact Ret.of rfl hb6'
end W
end Go.Proofs.YtijpgddpejiohaaGreatDoor
end
section
namespace Go.Proofs.YtijpgddpejiohaaGreatDoor
open Go Go.RowKit Go.Deep
set_option maxRecDepth 20000
attribute [local go_sem] bs_size bs_toList bs_get bs_extract bs_append bs_lit0 bs_lit1 lit1_bs
def encP (x : M.PZ) : List Value := [.int .i64 x.1, .int .i64 x.2]
def cfP (x y : M.PZ) : Int := if M.beforeZ x y = true then -1 else 1
theorem beforeZ_iff {x y : M.PZ} : M.beforeZ x y = true ↔ x.1 < y.1 ∨ (x.1 = y.1 ∧ x.2 < y.2) := by
  unfold M.beforeZ
  rw [Bool.or_eq_true, Bool.and_eq_true, decide_eq_true_eq, decide_eq_true_eq, decide_eq_true_eq]
theorem ltP (x y : M.PZ) : Go.Proofs.ltOf cfP x y = M.beforeZ x y := by
  unfold Go.Proofs.ltOf cfP
  by_cases h : M.beforeZ x y = true
  · rw [if_pos h, h]; rfl
  · rw [if_neg h]; rw [Bool.not_eq_true] at h; rw [h]; rfl
theorem swoP : Go.Sort.SWO (Go.Proofs.ltOf cfP) where
  irrefl x := by
    rw [ltP]
    cases h : M.beforeZ x x with
    | false => simp
    | true => have := beforeZ_iff.1 h; omega
  trans x y z h1 h2 := by rw [ltP] at *; rw [beforeZ_iff] at *; omega
  ntrans x y z h1 h2 := by
    rw [ltP] at *
    cases h : M.beforeZ x z with
    | false => rfl
    | true =>
      have e1 : ¬ M.beforeZ x y = true := by rw [h1]; decide
      have e2 : ¬ M.beforeZ y z = true := by rw [h2]; decide
      rw [beforeZ_iff] at h e1 e2
      omega
theorem ent_cmpP : Enters Tryz.prog 44 := enters_of Tryz.func44 (by kernel_rfl) rfl
set_option maxHeartbeats 1000000 in
theorem rbefore07 (ax ay bx bY : Int) (W : World) : Calls Tryz.prog 45 #[.agg #[.int .i64 ax, .int .i64 ay], .agg #[.int .i64 bx, .int .i64 bY]] W fun e w' => e = .returned (.bool (M.beforeZ (ax, ay) (bx, bY))) ∧ ∃ os', w' = Go.Sort.grow W os' := by
  have hq : ∀ b, M.beforeZ (ax, ay) (bx, bY) = b → M.beforeZ (ax, ay) (bx, bY) = b := fun _ h => h
  by_cases h1 : ax < bx
  · have hb : M.beforeZ (ax, ay) (bx, bY) = true := beforeZ_iff.2 (Or.inl h1)
    have d1 : decide (ax < bx) = true := decide_eq_true h1
    rw [hb]
    clear hb hq h1
    go_enter Tryz.func45, Tryz.ntmps45
    go_wp2
    go_ret
    exact ⟨rfl, _, by rw [Go.Sort.alloc_eq_grow, Go.Sort.alloc_eq_grow, Go.Sort.grow_grow]⟩
  · have d1 : decide (ax < bx) = false := decide_eq_false h1
    by_cases h2 : ax = bx
    · subst h2
      obtain ⟨b, hb⟩ : ∃ b, b = decide (ay < bY) := ⟨_, rfl⟩
      have e : M.beforeZ (ax, ay) (ax, bY) = b := by unfold M.beforeZ; simp [hb]
      rw [e]
      clear e hq h1
      go_enter Tryz.func45, Tryz.ntmps45
      go_wp2
      go_ret
      exact ⟨by simp [hb], _, by rw [Go.Sort.alloc_eq_grow, Go.Sort.alloc_eq_grow, Go.Sort.grow_grow]⟩
    · have hb : M.beforeZ (ax, ay) (bx, bY) = false := by
        cases h : M.beforeZ (ax, ay) (bx, bY) with
        | false => rfl
        | true => rw [beforeZ_iff] at h; simp only at h; omega
      have d2 : (ax = bx) = False := eq_false h2
      rw [hb]
      clear hb hq h1 h2
      go_enter Tryz.func45, Tryz.ntmps45
      go_wp2
      go_ret
      exact ⟨rfl, _, by rw [Go.Sort.alloc_eq_grow, Go.Sort.alloc_eq_grow, Go.Sort.grow_grow]⟩
set_option maxHeartbeats 1000000 in
theorem closeP (x y : M.PZ) (W : World) : Calls Tryz.prog 44 #[.agg (encP x).toArray, .agg (encP y).toArray] W fun e w' => e = .returned (.int .i64 (cfP x y)) ∧ ∃ q os', w' = Go.Sort.grow (W.drewN q) os' := by
  obtain ⟨ax, ay⟩ := x
  obtain ⟨bx, bY⟩ := y
  have HB := Lib.hid (fun V => rbefore07 ax ay bx bY V)
  unfold encP cfP
  simp only
  generalize M.beforeZ (ax, ay) (bx, bY) = b at *
  go_enter Tryz.func44, Tryz.ntmps44
  go_wp2_with fail
  refine (HB.out _).mono ?_
  rintro e w1 ⟨rfl, os, rfl⟩
  clear HB
  cases b with
  | true =>
    go_wp2
    go_ret
    exact ⟨rfl, 0, _, by rw [Go.Sort.alloc_eq_grow, Go.Sort.alloc_eq_grow, Go.Sort.grow_grow, Go.Sort.grow_grow]; rfl⟩
  | false =>
    go_wp2
    go_ret
    exact ⟨rfl, 0, _, by rw [Go.Sort.alloc_eq_grow, Go.Sort.alloc_eq_grow, Go.Sort.grow_grow, Go.Sort.grow_grow]; rfl⟩
theorem flatP (d : Array M.PZ) : (Go.Sort.flatK encP 2 d).toList = csV d.toList := by
  apply List.ext_getElem?
  intro t
  have hs : (Go.Sort.flatK encP 2 d).size = d.size * 2 := Go.Sort.size_flatK _ _ _
  have hl : (csV d.toList).length = d.size * 2 := by rw [csV_len]; simp
  by_cases ht : t < d.size * 2
  · have hq : t / 2 < d.size := by omega
    have e1 : (Go.Sort.flatK encP 2 d).toList[t]? = some (Go.Sort.flatK encP 2 d)[t]! := by
      rw [Array.getElem?_toList, getElem!_pos _ t (by omega), Array.getElem?_eq_getElem (by omega)]
    rw [e1, Go.Sort.get_flatK _ _ _ _ ht]
    obtain ⟨k1, k2⟩ := csV_get d.toList (t / 2) (by simpa using hq)
    have e2 : d[t / 2]! = d[t / 2] := getElem!_pos d (t / 2) hq
    have e3 : d.toList[t / 2]'(by simpa using hq) = d[t / 2] := by simp
    rw [e3] at k1 k2
    rw [e2]
    rcases Nat.mod_two_eq_zero_or_one t with hm | hm
    · rw [show t / 2 * 2 = t by omega] at k1
      rw [k1, hm]; rfl
    · rw [show t / 2 * 2 + 1 = t by omega] at k2
      rw [k2, hm]; rfl
  · rw [List.getElem?_eq_none (by rw [Array.length_toList]; omega), List.getElem?_eq_none (by omega)]
theorem holdsP {w : World} {g : Nat} {cur : Array Value} {e : TypeId} {F : Array Value} (hb : w.heap[g]? = some (.cells cur e (0, 0))) (ht : cur.toList.take F.size = F.toList) : Go.Sort.Holds id w g 0 F := by
  intro j hj
  refine ⟨?_, by simp [World.frozen?, hb]⟩
  have h1 : (cur.toList.take F.size)[j]? = F.toList[j]? := by rw [ht]
  rw [List.getElem?_take_of_lt hj] at h1
  simp only [World.cell?, hb, Nat.zero_add]
  simp only [Option.isSome_none, Bool.false_eq_true, if_false]
  rw [← Array.getElem?_toList, h1, Array.getElem?_toList, Array.getElem?_eq_getElem hj, getElem!_pos F j hj]; rfl
theorem heapP {w : World} {g n : Nat} {os : Array Obj} {cur : Array Value} {e : TypeId} {fr : Nat × Nat} (F : Array Value) (hb : w.heap[g]? = some (.cells cur e fr)) :
    (Go.Sort.grow (Go.Sort.putRow id (Go.Sort.ahead w n) g 0 F) os).heap[g]? = some (.cells (Go.Sort.putCells id 0 F cur) e fr) := by
  have hg : g < w.heap.size := (Array.getElem?_eq_some_iff.1 hb).1
  rw [Go.Sort.heap_grow_old _ _ (by simpa using hg)]
  simp [Go.Sort.putRow, Go.Sort.mapBlock, Go.Sort.ahead, Array.getElem?_modify, hb, Go.Sort.onCells]
theorem grownP {w : World} {g n : Nat} {os : Array Obj} (F : Array Value) : w.grownBy (Go.Sort.grow (Go.Sort.putRow id (Go.Sort.ahead w n) g 0 F) os) (some g) := by
  refine ⟨rfl, rfl, rfl, by simp, fun k hk hne => ?_⟩
  rw [Go.Sort.heap_grow_old _ _ (by simpa using hk)]
  have : g ≠ k := fun e => hne (by rw [e])
  simp [Go.Sort.putRow, Go.Sort.mapBlock, Go.Sort.ahead, Array.getElem?_modify, this]
theorem takeP (cur F : Array Value) (h : F.size ≤ cur.size) : (Go.Sort.putCells id 0 F cur).toList.take F.size = F.toList := by
  apply List.ext_getElem?
  intro j
  by_cases hj : j < F.size
  · rw [List.getElem?_take_of_lt hj, Array.getElem?_toList, Array.getElem?_toList]
    simp [Go.Sort.putCells, hj, show j < cur.size by omega]
  · rw [List.getElem?_take_eq_none (by omega), List.getElem?_eq_none (by simp; omega)]
theorem isAggP (w : World) : (isAgg 69).run Tryz.prog w = .ok true w := by kernel_rfl
theorem sizeP (w : World) : (Go.sizeOf 69).run Tryz.prog w = .ok 2 w := by kernel_rfl
theorem sort_pts (l : List M.PZ) (B g cap : Nat) (w : World) (h : OwnV w B (.slice (some ⟨g, 0, none⟩) l.length cap) l) (hl : l.length ≤ 4096) :
    Calls Tryz.prog 43 #[.slice (some ⟨g, 0, none⟩) l.length cap, .func (.func 44) #[] #[]] w
      (fun e w' => e = .returned (.tuple #[]) ∧ ∃ l', l'.Perm l ∧ l'.Pairwise (fun a b => M.beforeZ b a = false) ∧ OwnV w' B (.slice (some ⟨g, 0, none⟩) l.length cap) l' ∧ w.grownBy w' (some g)) := by
  obtain ⟨d, hd⟩ : ∃ d : Array M.PZ, d.toList = l := ⟨l.toArray, by simp⟩
  have hdl : d.size = l.length := by rw [← hd]; simp
  obtain ⟨h1, h2⟩ := h
  rcases h2 with ⟨e, _⟩ | ⟨g', cap', cur, e, hB, hh, hc, hm, hs, ht⟩
  · cases e
  · injection e with e1 e2 e3
    injection e1 with e1
    injection e1 with e1
    subst e1 e3
    have hF : (Go.Sort.flatK encP 2 d).size = l.length * 2 := by rw [Go.Sort.size_flatK, hdl]
    have hH : Go.Sort.HoldsK encP 2 w g 0 d := holdsP hh (by rw [hF, flatP, hd]; exact ht)
    have hgl : g < w.heap.size := (Array.getElem?_eq_some_iff.1 hh).1
    have hcon := Go.Proofs.AnyQ.slices_SortFunc Tryz.sortW 2 isAggP sizeP encP (fun _ => rfl) (fun x v hv => by simp [encP] at hv; rcases hv with rfl | rfl <;> rfl) cfP swoP 44 #[] g 0 cap d w ent_cmpP (fun _ _ _ _ x y => closeP x y _) hH hgl (by omega)
    change Calls Tryz.prog 43 _ _ _ at hcon
    rw [hdl] at hcon
    refine hcon.mono ?_
    rintro e w' ⟨rfl, d', n, os, hp, hso, rfl⟩
    have hdl' : d'.size = l.length := by rw [hp.1, hdl]
    have hF' : (Go.Sort.flatK encP 2 d').size = l.length * 2 := by rw [Go.Sort.size_flatK, hdl']
    have hperm : d'.toList.Perm d.toList := by
      have := hp.2.2
      rw [← hdl] at this
      simpa [Array.extract_eq_self_of_le, hp.1] using this
    refine ⟨rfl, d'.toList, by rw [← hd]; exact hperm, ?_, ?_, grownP _⟩
    · rw [List.pairwise_iff_getElem]
      intro i j hi hj hij
      simp only [Array.length_toList] at hi hj
      have := hso i j (Nat.zero_le _) hij (by omega)
      rw [ltP, getElem!_pos d' j hj, getElem!_pos d' i hi] at this
      simpa using this
    · have hll : d'.toList.length = l.length := by rw [Array.length_toList, hdl']
      refine ⟨by rw [csV_len], Or.inr ⟨g, cap, Go.Sort.putCells id 0 (Go.Sort.flatK encP 2 d') cur, by rw [hll], hB, heapP _ hh, by rw [hll]; exact hc, hm, by simp [Go.Sort.putCells, hs], ?_⟩⟩
      rw [← flatP, hll, ← hF']
      exact takeP cur _ (by rw [hF', hs]; omega)
end Go.Proofs.YtijpgddpejiohaaGreatDoor
end
section
namespace Go.Proofs.YtijpgddpejiohaaGreatDoor
open Go
namespace M
theorem left_any {a b c : PZ} (h : leftZ a b c = 0) : ∀ x ∈ [a, b, c], ∀ y ∈ [a, b, c], ∀ z ∈ [a, b, c], leftZ x y z = 0 := by
  intro x hx y hy z hz
  simp only [List.mem_cons, List.not_mem_nil, or_false] at hx hy hz
  unfold leftZ at *
  rcases hx with rfl | rfl | rfl <;> rcases hy with rfl | rfl | rfl <;> rcases hz with rfl | rfl | rfl <;> grind
theorem before_of {x y : PZ} (hne : x ≠ y) (h : beforeZ y x = false) : beforeZ x y = true := by
  rw [beforeZ_iff]
  have h2 : ¬ (y.1 < x.1 ∨ (y.1 = x.1 ∧ y.2 < x.2)) := fun e => by rw [beforeZ_iff.2 e] at h; cases h
  rcases Int.lt_trichotomy x.1 y.1 with h1 | h1 | h1
  · exact Or.inl h1
  · rcases Int.lt_trichotomy x.2 y.2 with h3 | h3 | h3
    · exact Or.inr ⟨h1, h3⟩
    · exact absurd (Prod.ext h1 h3) hne
    · exact absurd (Or.inr ⟨h1.symm, h3⟩) h2
  · exact absurd (Or.inl h1) h2
theorem sorted3 {a b c : PZ} (hab : a ≠ b) (hbc : b ≠ c) (hac : a ≠ c) {l' : List PZ} (hp : l'.Perm [a, b, c]) (hs : l'.Pairwise (fun x y => beforeZ y x = false)) :
    ∃ s0 s1 s2, l' = [s0, s1, s2] ∧ (∀ p, p ∈ [a, b, c] ↔ p ∈ [s0, s1, s2]) ∧ beforeZ s0 s1 = true ∧ beforeZ s1 s2 = true := by
  have hlen : l'.length = 3 := hp.length_eq
  match l', hlen with
  | [s0, s1, s2], _ =>
    have hnd : [s0, s1, s2].Nodup := hp.nodup_iff.2 (by simp [hab, hbc, hac])
    simp only [List.nodup_cons, List.mem_cons, List.not_mem_nil, or_false, not_or] at hnd
    simp only [List.pairwise_cons, List.mem_cons, List.not_mem_nil, or_false] at hs
    exact ⟨s0, s1, s2, rfl, fun p => hp.symm.mem_iff, before_of hnd.1.1 (hs.1 s1 (Or.inl rfl)), before_of hnd.2.1 (hs.2.1 s2 rfl)⟩
theorem farZ_bd {a b : PZ} (ha : inP a = true) (hb : inP b = true) : -80000000000 ≤ farZ a b ∧ farZ a b ≤ 80000000000 := by
  have h1 := inP_iff.1 ha
  have h2 := inP_iff.1 hb
  have m1 := mul_bdY (a := a.1 - b.1) (b := a.1 - b.1) (by omega) (by omega)
  have m2 := mul_bdY (a := a.2 - b.2) (b := a.2 - b.2) (by omega) (by omega)
  unfold farZ
  omega
theorem farZ_bq {a b : PZ} (ha : inP a = true) (hb : inP b = true) : Bq 11 ((farZ a b : Int) : Rat) := by
  have := farZ_bd ha hb
  exact ⟨by rw [Rat.num_intCast]; omega, by rw [Rat.den_intCast]; decide⟩
theorem three_zero {a b c : PZ} (h : a = b ∨ b = c ∨ a = c ∨ leftZ a b c ≠ 0) {x : Rat} (hx : WidIs [a, b, c] x) : x = 0 := by
  rcases h with rfl | rfl | rfl | h
  · exact hx.unique (wid_two (by simp) (a := a) (b := c) fun p hp => by simpa using hp)
  · exact hx.unique (wid_two (by simp) (a := a) (b := b) fun p hp => by simpa using hp)
  · exact hx.unique (wid_two (by simp) (a := a) (b := b) fun p hp => by
      simp only [List.mem_cons, List.not_mem_nil, or_false] at hp
      rcases hp with h | h | h
      · exact Or.inl h
      · exact Or.inr h
      · exact Or.inl h)
  · exact hx.unique (wid_left h)
end M
end Go.Proofs.YtijpgddpejiohaaGreatDoor
end
section
namespace Go.Proofs.YtijpgddpejiohaaGreatDoor
open Go Go.RowKit Go.Deep Go.Sort
namespace W
open M
attribute [local go_sem] bs_size bs_toList bs_get bs_extract bs_append bs_lit0 bs_lit1 lit1_bs
set_option maxHeartbeats 2000000
set_option maxRecDepth 20000
structure CiS (w W : World) (ax ay bx bY cx cy : Int) : Prop where
  ra : Row W w.heap.size 69 [.int .i64 ax, .int .i64 ay]
  rb : Row W (w.heap.size + 1) 69 [.int .i64 bx, .int .i64 bY]
  rc : Row W (w.heap.size + 1 + 1) 69 [.int .i64 cx, .int .i64 cy]
  rd : RdV W (.slice (some ⟨w.heap.size + 1 + 1 + 1, 0, none⟩) 3 3) [(ax, ay), (bx, bY), (cx, cy)]
  bel : Below w.heap.size w W
theorem CiS.to {w W W' : World} {ax ay bx bY cx cy : Int} (h : CiS w W ax ay bx bY cx cy) (hb : Below W.heap.size W W') : CiS w W' ax ay bx bY cx cy :=
  ⟨h.ra.below' hb, h.rb.below' hb, h.rc.below' hb, h.rd.below hb, bel_to h.bel hb⟩
abbrev ciW (w : World) (ax ay bx bY cx cy : Int) : World := (((w.alloc (.cells #[.int .i64 ax, .int .i64 ay] 69 (0, 0))).alloc (.cells #[.int .i64 bx, .int .i64 bY] 69 (0, 0))).alloc (.cells #[.int .i64 cx, .int .i64 cy] 69 (0, 0))).alloc (.cells #[.int .i64 ax, .int .i64 ay, .int .i64 bx, .int .i64 bY, .int .i64 cx, .int .i64 cy] 69 (0, 0))
theorem CiS.new (w : World) (ax ay bx bY cx cy : Int) : CiS w (ciW w ax ay bx bY cx cy) ax ay bx bY cx cy := by
  have hl : Row (ciW w ax ay bx bY cx cy) (w.heap.size + 1 + 1 + 1) 69 (csV [(ax, ay), (bx, bY), (cx, cy)]) := rnew0 (by rw [World.size_alloc, World.size_alloc, World.size_alloc])
  refine ⟨((rnw.alloc _).alloc _).alloc _, ((rnew0 (World.size_alloc _ _).symm).alloc _).alloc _, (rnew0 (by rw [World.size_alloc, World.size_alloc])).alloc _, ⟨_, _, rfl, Or.inr ⟨_, 0, rfl, SlV.of_row hl⟩⟩, bel_alloc (bel_alloc (bel_alloc (bel_alloc (Below.refl _ _) _) _) _) _⟩
theorem eqlPt (ax ay bx bY : Int) (w : World) : (binOp .eql 69 (.agg #[.int .i64 ax, .int .i64 ay]) (.agg #[.int .i64 bx, .int .i64 bY])).run Tryz.prog w = .ok (.bool (decide (ax = bx) && decide (ay = bY))) w := by
  by_cases h1 : ax = bx
  · subst h1
    by_cases h2 : ay = bY
    · subst h2
      simp [go_sem]
    · simp [go_sem, h2]
  · simp [go_sem, h1]
theorem eq_pt {ax ay bx bY : Int} : (decide (ax = bx) && decide (ay = bY)) = true ↔ ((ax, ay) : PZ) = (bx, bY) := by
  rw [Bool.and_eq_true, decide_eq_true_eq, decide_eq_true_eq]
  exact ⟨fun h => by rw [h.1, h.2], fun h => ⟨congrArg Prod.fst h, congrArg Prod.snd h⟩⟩
theorem circles_law (a b c : PZ) (w : World) (hg : Glob w) :
    Calls Tryz.prog 8 #[ptV a, ptV b, ptV c] w (Ret w (.bool true)) := by
  have HAW := Lib.hid (fun W hW => awake35 W hW)
  have HG := Lib.hid hg
  obtain ⟨ax, ay⟩ := a
  obtain ⟨bx, bY⟩ := b
  obtain ⟨cx, cy⟩ := c
  unfold ptV
  simp only
  have H0 := Lib.hid (CiS.new w ax ay bx bY cx cy)
  have HRI := Lib.hid (pright35 _ _ _ H0.out.rd (show 3 ≤ maxLen by decide))
  by_cases hr : rightP [(ax, ay), (bx, bY), (cx, cy)] = true
  · rw [hr] at HRI
    unfold rightP at hr
    rw [Bool.and_eq_true, decide_eq_true_eq] at hr
    obtain ⟨_, hne, hin⟩ := givP_iff.1 hr.2
    have ha := hin _ (List.mem_cons_self ..)
    have hb := hin _ (List.mem_cons_of_mem _ (List.mem_cons_self ..))
    have hc := hin _ (List.mem_cons_of_mem _ (List.mem_cons_of_mem _ (List.mem_cons_self ..)))
    obtain ⟨x, wx, bq, hwx⟩ := pwidth35 hne hin (show 3 ≤ 8 by decide)
    have HWX := Lib.hid hwx
    have HLF := Lib.hid (fun W => rleft07 (ax, ay) (bx, bY) (cx, cy) W ha hb hc)
    unfold ptV at HLF
    simp only at HLF
    clear hr hwx hne hg
    go_enter Tryz.func8, Tryz.ntmps8
    go_wp2_with fail
    refine HRI.out.mono ?_
    rintro e w1 ⟨rfl, hb1⟩
    have H1 := Lib.hid (H0.out.to hb1)
    clear hb1 H0 HRI
    go_wp2_with fail
    refine (HWX.out _ _ (HG.out.of H1.out.bel) H1.out.rd).mono ?_
    rintro e w2 ⟨rfl, hb2⟩
    have H2 := Lib.hid (H1.out.to hb2)
    clear hb2 H1 HWX
    have a0 := H2.out.ra.cell (i := 0) rfl
    have a1 := H2.out.ra.cell (i := 1) rfl
    have b0 := H2.out.rb.cell (i := 0) rfl
    have b1 := H2.out.rb.cell (i := 1) rfl
    have c0 := H2.out.rc.cell (i := 0) rfl
    have c1 := H2.out.rc.cell (i := 1) rfl
    obtain ⟨e1, he1⟩ : ∃ e, e = (decide (ax = bx) && decide (ay = bY)) := ⟨_, rfl⟩
    obtain ⟨e2, he2⟩ : ∃ e, e = (decide (bx = cx) && decide (bY = cy)) := ⟨_, rfl⟩
    obtain ⟨e3, he3⟩ : ∃ e, e = (decide (ax = cx) && decide (ay = cy)) := ⟨_, rfl⟩
    obtain ⟨n, hn⟩ : ∃ n, n = leftZ (ax, ay) (bx, bY) (cx, cy) := ⟨_, rfl⟩
    rw [← hn] at HLF
    have q1 := fun w => eqlPt ax ay bx bY w
    have q2 := fun w => eqlPt bx bY cx cy w
    have q3 := fun w => eqlPt ax ay cx cy w
    rw [← he1] at q1
    rw [← he2] at q2
    rw [← he3] at q3
    have HE := Lib.hid (And.intro (And.intro he1 he2) (And.intro he3 hn))
    have HWX := Lib.hid (And.intro wx bq)
    have HIN := Lib.hid (And.intro ha (And.intro hb hc))
    have HSX : Hid (e1 = true ∨ e2 = true ∨ e3 = true ∨ n ≠ 0 → R x = [48]) := Lib.hid (fun h => by
      have hz : x = 0 := by
        refine three_zero ?_ wx
        rcases h with h | h | h | h
        · exact Or.inl (eq_pt.1 (by rw [← he1]; exact h))
        · exact Or.inr (Or.inl (eq_pt.1 (by rw [← he2]; exact h)))
        · exact Or.inr (Or.inr (Or.inl (eq_pt.1 (by rw [← he3]; exact h))))
        · exact Or.inr (Or.inr (Or.inr (by rw [← hn]; exact h)))
      rw [hz, t0])
    clear he1 he2 he3 hn wx bq ha hb hc hin
    cases e1 with
    | true =>
      rw [HSX.out (Or.inl rfl)]
      clear HLF HE
      go_wp2_with fail
      refine (HAW.out _ (HG.out.of H2.out.bel)).mono ?_
      rintro e w9 ⟨rfl, hb9⟩
      have hbz := bel_to H2.out.bel hb9
      clear hb9
      go_wp2
      go_ret
      exact Ret.of rfl hbz
    | false =>
      cases e2 with
      | true =>
        rw [HSX.out (Or.inr (Or.inl rfl))]
        clear HLF HE
        go_wp2_with fail
        refine (HAW.out _ (HG.out.of H2.out.bel)).mono ?_
        rintro e w9 ⟨rfl, hb9⟩
        have hbz := bel_to H2.out.bel hb9
        clear hb9
        go_wp2
        go_ret
        exact Ret.of rfl hbz
      | false =>
        cases e3 with
        | true =>
          rw [HSX.out (Or.inr (Or.inr (Or.inl rfl)))]
          clear HLF HE
          go_wp2_with fail
          refine (HAW.out _ (HG.out.of H2.out.bel)).mono ?_
          rintro e w9 ⟨rfl, hb9⟩
          have hbz := bel_to H2.out.bel hb9
          clear hb9
          go_wp2
          go_ret
          exact Ret.of rfl hbz
        | false =>
          by_cases hn0 : n = 0
          · subst hn0
            go_wp2_with fail
            refine (HLF.out _).mono ?_
            rintro e w3 ⟨rfl, hb3⟩
            have H3 := Lib.hid (H2.out.to hb3)
            clear hb3 H2 HLF a0 a1 b0 b1 c0 c1 q1 q2 q3
            go_wp2_with fail
            refine (pcloneOwnV _ [(ax, ay), (bx, bY), (cx, cy)] _ H3.out.rd (show 0 < 3 by decide) (show 3 ≤ 1000000 by decide)).mono ?_
            rintro e w4 ⟨g, cp, rfl, hgB, ho4, hb4⟩
            have HO4 : Hid (OwnV w4 w3.heap.size (.slice (some ⟨g, 0, none⟩) 3 cp) [(ax, ay), (bx, bY), (cx, cy)] ∧ Below w.heap.size w w4 ∧ w.heap.size ≤ g) := Lib.hid ⟨ho4, bel_to H3.out.bel hb4, Nat.le_trans H3.out.bel.size hgB⟩
            clear ho4 hb4 H3 hgB
            go_wp2_with fail
            refine (sort_pts [(ax, ay), (bx, bY), (cx, cy)] w3.heap.size g cp w4 HO4.out.1 (show 3 ≤ 4096 by decide)).mono ?_
            rintro e w5 ⟨rfl, l', hpm, hpw, ho5, hg5⟩
            obtain ⟨s0, s1, s2, rfl, hmem, hs1, hs2⟩ := sorted3 (fun e => by have := eq_pt.2 e; rw [← HE.out.1.1] at this; cases this) (fun e => by have := eq_pt.2 e; rw [← HE.out.1.2] at this; cases this) (fun e => by have := eq_pt.2 e; rw [← HE.out.2.1] at this; cases this) hpm hpw
            have hinl : ∀ p ∈ [s0, s1, s2], inP p = true := fun p hp => by
              have h := (hmem p).2 hp
              simp only [List.mem_cons, List.not_mem_nil, or_false] at h
              rcases h with rfl | rfl | rfl
              · exact HIN.out.1
              · exact HIN.out.2.1
              · exact HIN.out.2.2
            have i0 := hinl s0 (by simp)
            have i1 := hinl s1 (by simp)
            have i2 := hinl s2 (by simp)
            have hxx := circles_plain hmem (left_any HE.out.2.2.symm s0 ((hmem s0).2 (by simp)) s1 ((hmem s1).2 (by simp)) s2 ((hmem s2).2 (by simp))) hs1 hs2 HWX.out.1
            have f1 := farZ_bd i0 i1
            have f2 := farZ_bd i1 i2
            have k1 := reg_of (w := w5) (fun W _ => rfar07 s0 s1 W i0 i1)
            have k3 := reg_of (w := w5) (fun W _ => rfar07 s1 s2 W i1 i2)
            have hb5 : Below w.heap.size w w5 := HO4.out.2.1.grown hg5 HO4.out.2.1.size fun b hbb => by cases hbb; exact HO4.out.2.2
            have k2 := reg_of (w := w5) (fun W hW => ratWhole (farZ s0 s1) W (HG.out.of (bel_to hb5 hW)) (by omega) (by omega))
            have k4 := reg_of (w := w5) (fun W hW => ratWhole (farZ s1 s2) W (HG.out.of (bel_to hb5 hW)) (by omega) (by omega))
            have k5 := reg_of (w := w5) (fun W hW => ratMul ((farZ s0 s1 : Int) : Rat) ((farZ s1 s2 : Int) : Rat) 11 11 W (HG.out.of (bel_to hb5 hW)) (farZ_bq i0 i1) (farZ_bq i1 i2) (by decide))
            rw [← hxx] at k5
            have HMX := Lib.hid (fun W hW => ratMul x x 123 123 W hW HWX.out.2 HWX.out.2 (by decide))
            have HB5 := Lib.hid hb5
            unfold ptV at k1 k3
            have m0 := cell_regrown (ho5.cells 0 _ rfl)
            have m1 := cell_regrown (ho5.cells 1 _ rfl)
            have m2 := cell_regrown (ho5.cells 2 _ rfl)
            have m3 := cell_regrown (ho5.cells 3 _ rfl)
            have m4 := cell_regrown (ho5.cells 4 _ rfl)
            have m5 := cell_regrown (ho5.cells 5 _ rfl)
            clear hmem hs1 hs2 hinl i0 i1 i2 hxx f1 f2 hb5 ho5 hg5 hpm hpw HO4 HE HIN HWX HSX
            generalize farZ s0 s1 = F1 at *
            generalize farZ s1 s2 = F2 at *
            obtain ⟨x0, y0⟩ := s0
            obtain ⟨x1, y1⟩ := s1
            obtain ⟨x2, y2⟩ := s2
            simp only at k1 k3 m0 m1 m2 m3 m4 m5
            have e1 : ∀ args w, (callFunc 47 args).run Tryz.prog w = .ok (.enter 47 args) w := enters_of Tryz.func47 (by kernel_rfl) rfl
            have e2 : ∀ args w, (callFunc 46 args).run Tryz.prog w = .ok (.enter 46 args) w := enters_of Tryz.func46 (by kernel_rfl) rfl
            have e3 : ∀ args w, (callFunc 40 args).run Tryz.prog w = .ok (.enter 40 args) w := enters_of Tryz.func40 (by kernel_rfl) rfl
            go_wp2_with fail
            refine wp_region_quiet_below (by kernel_rfl) (by kernel_rfl) ?_
            repeat (go_big_quiet_step (fail))
            go_big_quiet_step (exact k1 _ _)
            repeat (go_big_quiet_step (fail))
            go_big_quiet_step (exact k2 _ _)
            repeat (go_big_quiet_step (fail))
            go_big_quiet_step (exact k3 _ _)
            repeat (go_big_quiet_step (fail))
            go_big_quiet_step (exact k4 _ _)
            repeat (go_big_quiet_step (fail))
            go_big_quiet_step (exact k5 _ _)
            repeat (go_big_quiet_step (fail))
            refine wpQuiet_nil ?_
            intro W6 hw'
            have hb6 : Below w5.heap.size w5 W6 := by obtain ⟨p, e⟩ := hw'; rw [e]; exact below_regrown w5 p.d p.os
            clear hw'
            have HB6 := Lib.hid (bel_to HB5.out hb6)
            clear hb6 k1 k2 k3 k4 k5 e1 e2 e3 m0 m1 m2 m3 m4 m5 HB5
            generalize R (x * x) = sxx at *
            go_wp2_with fail
            refine (HMX.out _ (HG.out.of HB6.out)).mono ?_
            rintro e w7 ⟨rfl, hb7⟩
            have HB7 := Lib.hid (bel_to HB6.out hb7)
            clear hb7 HB6 HMX
            go_wp2_with fail
            refine (HAW.out _ (HG.out.of HB7.out)).mono ?_
            rintro e w9 ⟨rfl, hb9⟩
            have hbz := bel_to HB7.out hb9
            clear hb9
            go_wp2
            go_ret
            exact Ret.of rfl hbz
          · have hnf : (n = 0) = False := eq_false hn0
            rw [HSX.out (Or.inr (Or.inr (Or.inr hn0)))]
            clear HE
            go_wp2_with fail
            refine (HLF.out _).mono ?_
            rintro e w3 ⟨rfl, hb3⟩
            have H3 := Lib.hid (bel_to H2.out.bel hb3)
            clear hb3 H2 HLF a0 a1 b0 b1 c0 c1 q1 q2 q3
            go_wp2_with fail
            refine (HAW.out _ (HG.out.of H3.out)).mono ?_
            rintro e w9 ⟨rfl, hb9⟩
            have hbz := bel_to H3.out hb9
            clear hb9
            go_wp2
            go_ret
            exact Ret.of rfl hbz
  · rw [Bool.not_eq_true] at hr
    rw [hr] at HRI
    clear hr hg
    go_enter Tryz.func8, Tryz.ntmps8
    go_wp2_with fail
    refine HRI.out.mono ?_
    rintro e w1 ⟨rfl, hb1⟩
    have H1 := Lib.hid (bel_to H0.out.bel hb1)
    clear hb1 H0 HRI
    go_wp2_with fail
    refine (HAW.out _ (HG.out.of H1.out)).mono ?_
    rintro e w2 ⟨rfl, hb2⟩
    go_wp2
    go_ret
    exact Ret.of rfl (bel_to H1.out hb2)
end W
end Go.Proofs.YtijpgddpejiohaaGreatDoor
end
