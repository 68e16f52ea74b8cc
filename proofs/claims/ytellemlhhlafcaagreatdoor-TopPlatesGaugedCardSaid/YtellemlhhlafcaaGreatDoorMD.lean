/-
  Layer 1 of the program: 'beyond'.
  Layer 1 of the program: 'plus'.
  Layer 1 of the program: 'times'.
  Layer 1 of the program: 'text' and 'limited'.
  Layer 1 of the program: 'limited' and 'read'.
  Layer 1 of the program: 'estimate'.
  Layer 1 of the program: 'divided'.
-/
import Derived.Test.YtellemlhhlafcaaGreatDoorMC
import Derived.Laws.Rows
import Derived.Laws.Tables
import Derived.StillTailTactics
import Derived.Deep.RegionWith
import Derived.Laws.CopyRow
section
namespace Go.Proofs.YtellemlhhlafcaaGreatDoor
open Go Go.RowKit Go.Deep
theorem drewN_two (w : World) (a b : Nat) : (w.drewN a).drewN b = w.drewN (a + b) := by simp [World.drewN, Nat.add_assoc]
def BeyP (X Y : Nat) (w : World) (e : Ending) (w' : World) : Prop := ∃ v : Int, (0 ≤ v ↔ Y ≤ X) ∧ (-2000000000 ≤ v ∧ v ≤ 2000000000) ∧ e = .returned (.int .i64 v) ∧ ∃ n, w' = w.drewN n
namespace W
open M
attribute [local go_sem] bs_size bs_toList bs_get bs_extract bs_append bs_lit0 bs_lit1 lit1_bs
set_option maxHeartbeats 1000000
set_option maxRecDepth 20000
theorem beyond_any (bx by_ : Nat) (nx ny : Bool) (X Y : Nat) (w : World) (hx : Wide w bx nx X) (hy : Wide w by_ ny Y) :
    Calls Tryz.prog 184 #[.pointer (some ⟨bx, 0, none⟩), .pointer (some ⟨by_, 0, none⟩)] w (BeyP X Y w) := by
  obtain ⟨xws, hX, hxr⟩ := hx
  obtain ⟨yws, hY, hyr⟩ := hy
  have cx := hxr.row.cell (wc_n nx (nw X) xws)
  have cy := hyr.row.cell (wc_n ny (nw Y) yws)
  have lx := hxr.le
  have ly := hyr.le
  by_cases hn : nw X = nw Y
  · have HXY := Lib.hid (And.intro hX hY)
    rw [← hn] at hyr cy
    have HX := Lib.hid hxr
    have HY := Lib.hid hyr
    clear hX hY hxr hyr hn ly
    generalize nw X = n at *
    have hb1 : ((n : Int) == (n : Int)) = true := by simp
    go_enter Tryz.func184, Tryz.ntmps184
    go_wp2
    go_quiet (fail)
    go_wp2
    go_loopg [5] n (fun k iv wr => iv = .int .i64 ((k : Int) - 1) ∧ k ≤ n ∧ Hid (xws.drop k = yws.drop k) ∧ ∃ q, wr = w.drewN q)
    case atStart =>
      refine ⟨rfl, Nat.le_refl _, ?_, _, rfl⟩
      show xws.drop n = yws.drop n
      apply List.ext_getElem
      · simp [HX.out.len, HY.out.len]
      · intro j h1 h2
        rw [List.getElem_drop, List.getElem_drop, HX.out.zero (n + j) (by simp at h1; omega) (by omega), HY.out.zero (n + j) (by simp at h2; omega) (by omega)]
    case round =>
      obtain ⟨rfl, hk, hd, q, rfl⟩ := hrel
      rcases gk with _ | m
      · have h1 := hd.out
        rw [List.drop_zero, List.drop_zero] at h1
        have h2 : X = Y := by rw [← HXY.out.1, ← HXY.out.2, h1]
        have H2 := Lib.hid h2
        clear h1 h2 hd
        go_wp2
        go_ret
        exact ⟨0, by rw [H2.out]; omega, by omega, rfl, _, rfl⟩
      · have hz : ((m + 1 : Nat) : Int) - 1 = (m : Int) := by omega
        rw [hz]
        clear hz
        have hmx : m < xws.length := by rw [HX.out.len]; omega
        have hmy : m < yws.length := by rw [HY.out.len]; omega
        have cxm := HX.out.row.cell (wc_w nx n xws m hmx)
        have cym := HY.out.row.cell (wc_w ny n yws m hmy)
        have sx := HX.out.small _ (List.getElem_mem hmx)
        have sy := HY.out.small _ (List.getElem_mem hmy)
        simp only [BB] at sx sy
        have i0 : (0 : Int) ≤ (m : Int) := by omega
        have i1 : (m : Int) < 232 := by omega
        by_cases he : xws[m] = yws[m]
        · have hd2 : xws.drop m = yws.drop m := by
            rw [List.drop_eq_getElem_cons hmx, List.drop_eq_getElem_cons hmy, he, hd.out]
          have HD := Lib.hid hd2
          rw [← he] at cym
          clear hd hd2 he
          generalize xws[m] = x at *
          have hb2 : ((x : Int) == (x : Int)) = true := by simp
          go_wp2
          go_quiet (fail)
          go_wp2
          go_roundg m
          case measure => omega
          case rel => exact ⟨rfl, by omega, HD, _, rfl⟩
        · have hb2 : ((xws[m] : Int) == (yws[m] : Int)) = false := by simp; omega
          have hb3 : ((xws[m] : Int) != (yws[m] : Int)) = true := by simp; omega
          have hw : IntKind.i64.wrap ((xws[m] : Int) - (yws[m] : Int)) = (xws[m] : Int) - (yws[m] : Int) := IntWalk.i64_in _ (by omega)
          have hfin : (0 ≤ (xws[m] : Int) - (yws[m] : Int)) ↔ Y ≤ X := by
            have hl : xws.length = yws.length := by rw [HX.out.len, HY.out.len]
            rw [← HXY.out.1, ← HXY.out.2]
            rcases Nat.lt_trichotomy xws[m] yws[m] with h | h | h
            · have := wv_cmp HX.out.small hl hmx hd.out h
              omega
            · exact absurd h he
            · have := wv_cmp HY.out.small hl.symm hmy hd.out.symm h
              omega
          have HF := Lib.hid hfin
          clear he hd hfin
          generalize xws[m] = x at *
          generalize yws[m] = y at *
          go_wp2
          go_quiet (fail)
          go_wp2
          go_quiet (fail)
          go_wp2
          go_ret
          exact ⟨(x : Int) - (y : Int), HF.out, by omega, rfl, _, by rw [drewN_two, drewN_two]⟩
  · have hb1 : ((nw X : Int) == (nw Y : Int)) = false := by simp; omega
    have hb2 : ((nw X : Int) != (nw Y : Int)) = true := by simp; omega
    have hfin : (0 ≤ (nw X : Int) - (nw Y : Int)) ↔ Y ≤ X := by
      rcases Nat.lt_trichotomy (nw X) (nw Y) with h | h | h
      · have := nw_lt h; omega
      · exact absurd h hn
      · have := nw_lt h; omega
    have HF := Lib.hid hfin
    have hw : IntKind.i64.wrap ((nw X : Int) - (nw Y : Int)) = (nw X : Int) - (nw Y : Int) := IntWalk.i64_in _ (by omega)
    clear hn hfin hX hY hxr hyr
    generalize nw X = x at *
    generalize nw Y = y at *
    go_enter Tryz.func184, Tryz.ntmps184
    go_wp2
    go_quiet (fail)
    go_wp2
    go_quiet (fail)
    go_wp2
    go_ret
    exact ⟨(x : Int) - (y : Int), HF.out, by omega, rfl, _, drewN_two _ _ _⟩
end W
end Go.Proofs.YtellemlhhlafcaaGreatDoor
end
section
namespace Go.Proofs.YtellemlhhlafcaaGreatDoor
open Go Go.RowKit Go.Deep
namespace M
def sg (neg : Bool) (m : Nat) : Int := if neg = true then -(m : Int) else (m : Int)
theorem sg_abs (neg : Bool) (m : Nat) : (sg neg m).natAbs = m := by unfold sg; split <;> omega
theorem nw232 {m : Nat} (h : m < BB ^ 232) : nw m ≤ 232 := nw_le.2 h
end M
theorem size141 : (Tryz.prog.info? 248).map (·.size) = some 234 := by kernel_rfl
theorem wc_size (neg : Bool) (n : Nat) {ws : List Nat} (h : ws.length = 232) : (wcells neg n ws).toArray.size = 234 := by simp [wcells, I64_len, h]
theorem wc_one (neg : Bool) (n : Nat) (ws : List Nat) : (wcells neg n ws).toArray.all (·.oneCell') = true := by
  rw [List.all_toArray, List.all_eq_true]
  intro v hv
  rcases List.mem_cons.1 hv with rfl | hv
  · rfl
  · rcases List.mem_cons.1 hv with rfl | hv
    · rfl
    · obtain ⟨c, _, rfl⟩ := List.mem_map.1 hv; rfl
theorem zero141 : Tryz.zeroCells248 = (wcells false 0 (List.replicate 232 0)).toArray := by kernel_rfl
theorem WideR.move' {w w' : World} {b c : Nat} {neg : Bool} {n : Nat} {ws : List Nat} (h : WideR w b neg n ws) (hr : Row w' c 248 (wcells neg n ws)) : WideR w' c neg n ws := ⟨hr, h.len, h.small, h.zero, h.le⟩
theorem Only.setRow {b : Nat} {a c : World} (h : Only b a c) (r : Array Value) : Only b a (c.setRow b r) :=
  ⟨h.os, h.tape, h.output, by simpa [World.setRow] using h.size, fun k hk hb => by
    rw [← h.block k hk hb]; simp only [World.setRow, Array.getElem?_modify]; rw [if_neg (by omega)]⟩
namespace W
open M
attribute [local go_sem] bs_size bs_toList bs_get bs_extract bs_append bs_lit0 bs_lit1 lit1_bs
set_option maxHeartbeats 1000000
set_option maxRecDepth 20000
def PlusP (bx : Nat) (s : Int) (w : World) (e : Ending) (w' : World) : Prop := e = .returned (.tuple #[]) ∧ (∃ nz Z, Wide w' bx nz Z ∧ sg nz Z = s) ∧ Only bx w w'
theorem carry0 (bx by_ : Nat) (nx ny : Bool) (X Y T : Nat) (f : Int) (w : World) (hne : by_ ≠ bx) (hx : Wide w bx nx X) (hy : Wide w by_ ny Y) (hf : -1000000000 < f ∧ f < 1000000000)
    (hT : (X : Int) + f * (Y : Int) = (T : Int)) (hT2 : T < BB ^ 232) :
    Calls Tryz.prog 186 #[.pointer (some ⟨bx, 0, none⟩), .pointer (some ⟨by_, 0, none⟩), .int .i64 f, .int .i64 0] w fun e w' => e = .returned (.tuple #[]) ∧ Wide w' bx nx T ∧ Only bx w w' :=
  carry_any bx by_ nx ny X Y T f 0 w hne hx hy hf (by simpa using hT) hT2 (by rw [Nat.add_zero]; exact nw232 hy.bound)
theorem less_cell {w : World} {b : Nat} {n : Bool} {X : Nat} (h : Wide w b n X) : w.cell? ⟨b, 0, none⟩ = some (.bool n) := by obtain ⟨ws, _, h⟩ := h; exact h.row.cell (wc_less _ _ _)
theorem Wide.drewN {w : World} {b : Nat} {n : Bool} {X : Nat} (h : Wide w b n X) (q : Nat) : Wide (w.drewN q) b n X := by
  obtain ⟨ws, h1, h2⟩ := h
  exact ⟨ws, h1, h2.move (h2.row.drewN q)⟩
theorem plus_same (bx by_ : Nat) (n : Bool) (X Y : Nat) (w : World) (hne : by_ ≠ bx) (hx : Wide w bx n X) (hy : Wide w by_ n Y) (hb : X + Y < BB ^ 232) :
    Calls Tryz.prog 249 #[.pointer (some ⟨bx, 0, none⟩), .pointer (some ⟨by_, 0, none⟩)] w (PlusP bx (sg n X + sg n Y) w) := by
  have cx := less_cell hx
  have cy := less_cell hy
  have HC := Lib.hid (fun w' (h1 : Wide w' bx n X) (h2 : Wide w' by_ n Y) => carry0 bx by_ n n X Y (X + Y) 1 w' hne h1 h2 (by omega) (by omega) hb)
  have HX := Lib.hid hx
  have HY := Lib.hid hy
  have hb1 : (n == n) = true := by simp
  clear hx hy hb hne
  go_enter Tryz.func249, Tryz.ntmps249
  go_wp2
  go_quiet (fail)
  go_wp2_with (go_at_call 186; refine (HC.out _ (Wide.drewN HX.out _) (Wide.drewN HY.out _)).mono ?_; rintro e w1 ⟨rfl, ht, ho⟩)
  go_end0
  refine ⟨rfl, ⟨n, X + Y, ht, ?_⟩, (Only.drewN (Only.refl _ _) _).trans ho⟩
  unfold sg; split <;> omega
theorem plus_ge (bx by_ : Nat) (n m : Bool) (X Y : Nat) (w : World) (hne : by_ ≠ bx) (hx : Wide w bx n X) (hy : Wide w by_ m Y) (hnm : n ≠ m) (hge : Y ≤ X) :
    Calls Tryz.prog 249 #[.pointer (some ⟨bx, 0, none⟩), .pointer (some ⟨by_, 0, none⟩)] w (PlusP bx (sg n X + sg m Y) w) := by
  have cx := less_cell hx
  have cy := less_cell hy
  have hXb := hx.bound
  have HC := Lib.hid (fun w' (h1 : Wide w' bx n X) (h2 : Wide w' by_ m Y) => carry0 bx by_ n m X Y (X - Y) (-1) w' hne h1 h2 (by omega) (by omega) (by omega))
  have HB := Lib.hid (fun w' (h1 : Wide w' bx n X) (h2 : Wide w' by_ m Y) => beyond_any bx by_ n m X Y w' h1 h2)
  have HX := Lib.hid hx
  have HY := Lib.hid hy
  have hb1 : (n == m) = false := by simpa using hnm
  have HG := Lib.hid (And.intro hnm hge)
  clear hx hy hne hnm hge hXb
  go_enter Tryz.func249, Tryz.ntmps249
  go_wp2
  go_quiet (fail)
  go_wp2_with fail
  refine (HB.out _ (Wide.drewN HX.out _) (Wide.drewN HY.out _)).mono ?_
  rintro e w1 ⟨v, hv, hvb, rfl, q, rfl⟩
  have hv0 : 0 ≤ v := hv.2 HG.out.2
  clear hv
  rw [drewN_two]
  generalize nq + q = d
  go_wp2_with fail
  refine (HC.out _ (Wide.drewN HX.out _) (Wide.drewN HY.out _)).mono ?_
  rintro e w1 ⟨rfl, ht, ho⟩
  go_wp2
  go_end0
  refine ⟨rfl, ⟨n, X - Y, ht, ?_⟩, (Only.drewN (Only.refl _ _) _).trans ho⟩
  have := HG.out.2
  have hnm := HG.out.1
  unfold sg; cases n <;> cases m <;> simp at hnm ⊢ <;> omega
theorem plus_lt (bx by_ : Nat) (n m : Bool) (X Y : Nat) (w : World) (hne : by_ ≠ bx) (hx : Wide w bx n X) (hy : Wide w by_ m Y) (hnm : n ≠ m) (hlt : X < Y) :
    Calls Tryz.prog 249 #[.pointer (some ⟨bx, 0, none⟩), .pointer (some ⟨by_, 0, none⟩)] w (PlusP bx (sg n X + sg m Y) w) := by
  have cx := less_cell hx
  have cy := less_cell hy
  have hYb := hy.bound
  have hbx := hx.lt
  have hby := hy.lt
  have HC := Lib.hid (fun g w' (hg : bx ≠ g) (h1 : Wide w' g m Y) (h2 : Wide w' bx n X) => carry0 g bx m n Y X (Y - X) (-1) w' hg h1 h2 (by omega) (by omega) (by omega))
  have HB := Lib.hid (fun w' (h1 : Wide w' bx n X) (h2 : Wide w' by_ m Y) => beyond_any bx by_ n m X Y w' h1 h2)
  have HX := Lib.hid hx
  have HY := Lib.hid hy
  have hb1 : (n == m) = false := by simpa using hnm
  have HG := Lib.hid (And.intro hnm hlt)
  have HN := Lib.hid hne
  clear hx hy hne hnm hlt hYb
  go_enter Tryz.func249, Tryz.ntmps249
  go_wp2
  go_quiet (fail)
  go_wp2_with fail
  refine (HB.out _ (Wide.drewN HX.out _) (Wide.drewN HY.out _)).mono ?_
  rintro e w1 ⟨v, hv, hvb, rfl, q, rfl⟩
  have hv0 : v < 0 := by
    rcases Int.lt_or_le v 0 with h | h
    · exact h
    · have := hv.1 h; have := HG.out.2; omega
  clear hv
  obtain ⟨yws, hY1, hY2⟩ := HY.out
  rw [drewN_two]
  generalize nq + q = d
  have hlen : (wcells m (nw Y) yws).length = 234 := by simp [wcells, I64_len, hY2.len]
  have hrow : (w.drewN d).heap[by_]? = some (.cells (wcells m (nw Y) yws).toArray 248 (0, 0)) := hY2.row
  have hz : (w.alloc (.cells Tryz.zeroCells248 248)).heap[w.heap.size]? = some (.cells Tryz.zeroCells248 248 (0, 0)) := heap_alloc_new _ _
  have hzs : Tryz.zeroCells248.size = (wcells m (nw Y) yws).toArray.size := by rw [wc_size _ _ hY2.len, zero141, wc_size _ _ (by simp)]
  have hsz : (Tryz.prog.info? 248).map (·.size) = some (wcells m (nw Y) yws).toArray.size := by rw [size141, wc_size _ _ hY2.len]
  have HZ := Lib.hid (And.intro hz (And.intro hzs hsz))
  clear hz hzs hsz hlen
  go_wp2_with (first
    | (refine wpList_load_row rfl 248 _ rfl by_ rfl 248 _ (0, 0) _ hrow Tryz.underlying248 rfl HZ.out.2.2 ?_)
    | (refine wpList_plain rfl fun _ hK => wp_store_row 248 _ _ rfl w.heap.size (wcells m (nw Y) yws).toArray rfl rfl 248 Tryz.zeroCells248 HZ.out.1 HZ.out.2.2 HZ.out.2.1 (wc_one _ _ _) (hK _ _ ?_)))
  obtain ⟨w2, hw2⟩ : ∃ w2, w2 = ((w.drewN d).alloc (Obj.cells Tryz.zeroCells248 248)).setRow w.heap.size (wcells m (nw Y) yws).toArray := ⟨_, rfl⟩
  rw [← hw2]
  have hr0 : Row ((w.drewN d).alloc (Obj.cells Tryz.zeroCells248 248)) w.heap.size 248 Tryz.zeroCells248.toList := by
    have h1 : ((w.drewN d).alloc (Obj.cells Tryz.zeroCells248 248)).heap[w.heap.size]? = some (.cells Tryz.zeroCells248 248 (0, 0)) := HZ.out.1
    unfold Row; rw [h1]
  have hr2 : Row w2 w.heap.size 248 (wcells m (nw Y) yws) := by rw [hw2]; simpa using hr0.setRow (wcells m (nw Y) yws).toArray
  have hbel : Below w.heap.size w w2 := by
    rw [hw2]
    exact Below.setRow (RowKit.Below.alloc (Below.drewN (RowKit.Below.refl _ _) d) (Nat.le_refl _) _) (Nat.le_refl _) _
  have hw2X := HX.out.below hbel
  have hw2Z : Wide w2 w.heap.size m Y := ⟨yws, hY1, hY2.move' hr2⟩
  have hs2 := hr2.lt
  clear hw2 hr0 hr2 hrow cx cy
  refine (HC.out w.heap.size w2 (by omega) hw2Z hw2X).mono ?_
  rintro e w3 ⟨rfl, ht, ho⟩
  have hX3 := hw2X.only ho (by omega)
  obtain ⟨zws, hz1, hz2⟩ := ht
  obtain ⟨xws, hx1, hx2⟩ := hX3
  have hrow3 : w3.heap[w.heap.size]? = some (.cells (wcells m (nw (Y - X)) zws).toArray 248 (0, 0)) := hz2.row
  have hrowx : w3.heap[bx]? = some (.cells (wcells n (nw X) xws).toArray 248 (0, 0)) := hx2.row
  have HS := Lib.hid (show (Tryz.prog.info? 248).map (·.size) = some (wcells m (nw (Y - X)) zws).toArray.size ∧ (wcells n (nw X) xws).toArray.size = (wcells m (nw (Y - X)) zws).toArray.size by rw [size141, wc_size _ _ hz2.len, wc_size _ _ hx2.len]; exact ⟨rfl, rfl⟩)
  go_wp2_with (first
    | (refine wpList_load_row rfl 248 _ rfl w.heap.size rfl 248 _ (0, 0) _ hrow3 Tryz.underlying248 rfl HS.out.1 ?_)
    | (refine wpList_plain rfl fun _ hK => wp_store_row 248 _ _ rfl bx (wcells m (nw (Y - X)) zws).toArray rfl rfl 248 _ hrowx HS.out.1 HS.out.2 (wc_one _ _ _) (hK _ _ ?_)))
  go_end0
  refine ⟨rfl, ⟨m, Y - X, ⟨zws, hz1, hz2.move' (by simpa using hx2.row.setRow (wcells m (nw (Y - X)) zws).toArray)⟩, ?_⟩, ?_⟩
  · have := HG.out.2
    have hnm := HG.out.1
    unfold sg; cases n <;> cases m <;> simp at hnm ⊢ <;> omega
  · exact Only.setRow (Only.of (hbel.trans (ho.below (Nat.le_refl _) hbel.size))) _
theorem plus_any (bx by_ : Nat) (n m : Bool) (X Y : Nat) (w : World) (hne : by_ ≠ bx) (hx : Wide w bx n X) (hy : Wide w by_ m Y) (hb : X + Y < BB ^ 232) :
    Calls Tryz.prog 249 #[.pointer (some ⟨bx, 0, none⟩), .pointer (some ⟨by_, 0, none⟩)] w (PlusP bx (sg n X + sg m Y) w) := by
  by_cases h : n = m
  · subst h; exact plus_same bx by_ n X Y w hne hx hy hb
  · rcases Nat.lt_or_ge X Y with h2 | h2
    · exact plus_lt bx by_ n m X Y w hne hx hy h h2
    · exact plus_ge bx by_ n m X Y w hne hx hy h h2
end W
end Go.Proofs.YtellemlhhlafcaaGreatDoor
end
section
namespace Go.Proofs.YtellemlhhlafcaaGreatDoor
open Go Go.RowKit Go.Deep
theorem zero141_set (b : Bool) : Tryz.zeroCells248.setIfInBounds 0 (.bool b) = (wcells b 0 (List.replicate 232 0)).toArray := by
  rw [zero141]; simp [wcells]
theorem Wide.zero (w : World) (b : Bool) : Wide (w.alloc (.cells (Tryz.zeroCells248.setIfInBounds 0 (.bool b)) 248)) w.heap.size b 0 := by
  refine ⟨List.replicate 232 0, M.wv_zeros _, ?_, List.length_replicate, fun c hc => by rw [List.eq_of_mem_replicate hc]; decide, fun i hi _ => List.getElem_replicate _, by rw [M.nw_zero]; omega⟩
  rw [zero141_set, M.nw_zero]
  exact Row.new w _ _
theorem Wide.zero0 (w : World) : Wide (w.alloc (.cells Tryz.zeroCells248 248)) w.heap.size false 0 := by
  refine ⟨List.replicate 232 0, M.wv_zeros _, ?_, List.length_replicate, fun c hc => by rw [List.eq_of_mem_replicate hc]; decide, fun i hi _ => List.getElem_replicate _, by rw [M.nw_zero]; omega⟩
  rw [zero141, M.nw_zero]
  exact Row.new w _ _
def NewP (neg : Bool) (m : Nat) (w : World) (e : Ending) (w' : World) : Prop := ∃ b, w.heap.size ≤ b ∧ e = .returned (.pointer (some ⟨b, 0, none⟩)) ∧ Wide w' b neg m ∧ Below w.heap.size w w'
namespace W
open M
attribute [local go_sem] bs_size bs_toList bs_get bs_extract bs_append bs_lit0 bs_lit1 lit1_bs
set_option maxHeartbeats 1000000
set_option maxRecDepth 20000
theorem n_cell {w : World} {b : Nat} {n : Bool} {X : Nat} (h : Wide w b n X) : w.cell? ⟨b, 1, none⟩ = some (.int .i64 (nw X : Int)) := by obtain ⟨ws, _, h⟩ := h; exact h.row.cell (wc_n _ _ _)
theorem times_any (bx by_ : Nat) (n m : Bool) (X Y : Nat) (w : World) (hx : Wide w bx n X) (hy : Wide w by_ m Y) (hb : X * Y < BB ^ 232) (hn : nw X + nw Y ≤ 232) :
    Calls Tryz.prog 210 #[.pointer (some ⟨bx, 0, none⟩), .pointer (some ⟨by_, 0, none⟩)] w (NewP (n != m) (X * Y) w) := by
  have cx := less_cell hx
  have cy := less_cell hy
  have cn := n_cell hy
  obtain ⟨yws, hY1, hY2⟩ := hy
  have hxl := hx.lt
  have hyl := hY2.row.lt
  have HX := Lib.hid hx
  have HY := Lib.hid (And.intro hY1 hY2)
  have HB := Lib.hid hb
  have HN := Lib.hid hn
  have hYl := hY2.le
  have hnw : nw Y ≤ 232 := hY2.le
  obtain ⟨nY, hnY⟩ : ∃ nY, nY = nw Y := ⟨_, rfl⟩
  rw [← hnY] at cn hYl hnw
  have HNY := Lib.hid hnY
  clear hx hY1 hY2 hb hn hnY
  go_enter Tryz.func210, Tryz.ntmps210
  go_wp2
  go_still_tail 10, (by kernel_rfl)
  change wpList _ _ _ _ _ w.drew
  go_wp2
  have hnm : (!(n == m)) = (n != m) := rfl
  rw [hnm]
  clear hnm cx cy cn
  have hz : Wide (w.alloc (.cells (Tryz.zeroCells248.setIfInBounds 0 (.bool (n != m))) 248)).drew w.heap.size (n != m) 0 := Wide.drewN (Wide.zero w (n != m)) 1
  have hbl : Below w.heap.size w (w.alloc (.cells (Tryz.zeroCells248.setIfInBounds 0 (.bool (n != m))) 248)).drew := RowKit.Below.drew (RowKit.Below.alloc (RowKit.Below.refl _ _) (Nat.le_refl _) _)
  go_loopg [22] nY (fun k iv wr => ∃ i : Nat, k = nY - i ∧ iv = .int .i64 (i : Int) ∧ i ≤ nY ∧ Wide wr w.heap.size (n != m) (X * wv (yws.take i)) ∧ Below w.heap.size w wr)
  case atStart => exact ⟨0, rfl, rfl, by omega, by simpa [wv] using hz, hbl⟩
  case round =>
    obtain ⟨i, hk, rfl, hi, hwr, hbw⟩ := hrel
    by_cases hlt : i < nY
    · have hiy : i < yws.length := by rw [HY.out.2.len]; omega
      have cyw : wr.cell? ⟨by_, 2 + i, none⟩ = some (.int .i64 (yws[i] : Int)) := (hbw.cell (by exact hyl)).trans (HY.out.2.row.cell (wc_w _ _ _ _ hiy))
      have hyw := HY.out.2.small _ (List.getElem_mem hiy)
      simp only [BB] at hyw
      have hT : X * wv (yws.take (i + 1)) < BB ^ 232 := by
        refine Nat.lt_of_le_of_lt (Nat.mul_le_mul_left X ?_) HB.out
        rw [← HY.out.1]
        have h1 := wv_split yws i hiy
        have h2 := wv_take yws i hiy
        omega
      have HC := Lib.hid (carry_any w.heap.size bx (n != m) n (X * wv (yws.take i)) X (X * wv (yws.take (i + 1))) (yws[i] : Int) i wr (by omega) hwr (HX.out.below hbw) (by omega) (by
        rw [wv_take yws i hiy, Nat.mul_add]
        simp only [Int.natCast_add, Int.natCast_mul, Int.natCast_pow]
        rw [Int.mul_comm ((yws[i] : Nat) : Int) (X : Int), Int.mul_assoc]) hT (by have := HN.out; have := HNY.out; omega))
      clear hT hwr
      generalize yws[i] = y at *
      go_wp2_with (go_at_call 186; refine HC.out.mono ?_; rintro e w1 ⟨rfl, ht, ho⟩)
      have hb1 := hbw.trans (ho.below (Nat.le_refl _) hbw.size)
      go_wp2
      go_roundg (nY - (i + 1))
      case measure => omega
      case rel => exact ⟨i + 1, rfl, by go_num, by omega, ht, hb1⟩
    · obtain rfl : i = nY := by omega
      have h2 : wv (yws.take i) = Y := by rw [take_all (HY.out.2.zero) i (by have := HNY.out; omega), HY.out.1]
      rw [h2] at hwr
      clear h2
      go_wp2
      go_ret
      exact ⟨w.heap.size, Nat.le_refl _, rfl, hwr, hbw⟩
end W
end Go.Proofs.YtellemlhhlafcaaGreatDoor
end
section
namespace Go.Proofs.YtellemlhhlafcaaGreatDoor
open Go Go.RowKit Go.Deep
namespace M
theorem D_words {v c : Nat} (hv : 0 < v) (hc : c < BB) : D (c + BB * v) = D v ++ pad (D c) 9 := by
  have hcl : (D c).length ≤ 9 := D_len_of hc (by omega)
  have hp := pad_len hcl
  have hd : Digs (D v ++ pad (D c) 9) := (D_digs v).append (pad_digs (D_digs c))
  have hval : val (D v ++ pad (D c) 9) = c + BB * v := by
    rw [val_append, hp, pad_val, D_val, D_val]; simp only [BB]; omega
  rw [← hval]
  refine D_of_val _ hd (by simp [D_ne]) (Or.inl ?_)
  obtain ⟨x, t, e, _⟩ := D_cons v
  rw [e]
  simp only [List.cons_append, List.head?_cons]
  intro h
  rcases D_head v with h2 | h2
  · rw [e] at h2; exact h2 h
  · rw [e] at h2
    have ht : t = [] := List.length_eq_zero_iff.1 (by simpa using h2)
    have hx : x = 48 := Option.some.inj h
    rw [ht, hx] at e
    have := D_eq_zero.1 e
    omega
theorem wv_drop (l : List Nat) (i : Nat) (h : i < l.length) : wv (l.drop i) = l[i] + BB * wv (l.drop (i + 1)) := by
  rw [List.drop_eq_getElem_cons h, wv]
theorem drop_nw {l : List Nat} {n : Nat} (hz : ZeroFrom l n) (i : Nat) (hi : n ≤ i) : wv (l.drop i) = 0 := by
  have hd : l.drop i = List.replicate (l.length - i) 0 := by
    apply List.ext_getElem
    · simp
    · intro j h1 h2
      rw [List.getElem_drop, List.getElem_replicate]
      exact hz (i + j) (by simp at h1; omega) (by omega)
  rw [hd, wv_zeros]
theorem wv_dlen {l : List Nat} (hs : Small l) {k : Nat} (hl : l.length ≤ k) (hk : 1 ≤ k) : (D (wv l)).length ≤ 9 * k := by
  refine D_len_of ?_ (by omega)
  rw [Nat.pow_mul]
  exact Nat.lt_of_lt_of_le (wv_lt hs) (Nat.pow_le_pow_right (by decide) hl)
def sgn (neg : Bool) : List UInt8 := if neg = true then [45] else []
theorem I_sg {neg : Bool} {m : Nat} (h : m ≠ 0) : I (sg neg m) = sgn neg ++ D m := by
  unfold sg sgn; cases neg
  · simp [I_nonneg]
  · simp only [if_true, List.cons_append, List.nil_append]; exact I_neg (by omega)
theorem top_ne {l : List Nat} {n : Nat} (hs : Small l) (hn : n < l.length) (h : nw (wv l) = n + 1) (hz : ZeroFrom l (n + 1)) : 0 < l[n] := by
  rcases Nat.eq_zero_or_pos l[n] with h0 | h0
  · exfalso
    have hz2 : ZeroFrom l n := by
      intro i hi hin
      by_cases he : i = n
      · subst he; exact h0
      · exact hz i hi (by omega)
    have := nw_le.2 (hz2.wv hs)
    omega
  · exact h0
end M
theorem nine_extract (k : Nat) (_h : k ≤ 9) : (⟨#[48, 48, 48, 48, 48, 48, 48, 48, 48]⟩ : ByteArray).extract k 9 = bs (List.replicate (9 - k) 48) := by
  rw [show (⟨#[48, 48, 48, 48, 48, 48, 48, 48, 48]⟩ : ByteArray) = bs (List.replicate 9 48) from rfl, bs_extract, List.drop_replicate, List.take_replicate, Nat.min_self]
theorem IsB.below {B b : Nat} {l : List Value} {w w' : World} (h : W.IsB B b l w) (hb : Below w.heap.size w w') : W.IsB B b l w' := by
  have key : ∀ p, Lib.BuilderAt 302 5 B b p l w → Lib.BuilderAt 302 5 B b p l w' := by
    rintro p ⟨hB, v, hv, hown, hne⟩
    exact ⟨hB, v, (hb.block b (lt_of_block hv)).trans hv, hown.kept (row := none) ⟨hb.os, hb.tape, hb.output, hb.size, fun k hk _ => hb.block k hk⟩ (Classical.em _), hne⟩
  rcases h with h | h
  · exact Or.inl (key _ h)
  · exact Or.inr (key _ h)
theorem IsB.new (w : World) : W.IsB w.heap.size w.heap.size [] (w.alloc (.cells #[.pointer none, .slice none 0 0] 302)) :=
  Or.inl ⟨Nat.le_refl _, .slice none 0 0, heap_alloc_new _ _, World.ownsRow_nil _ _ _ _, by simp [Value.ownBlock]⟩
namespace W
open M
attribute [local go_sem] bs_size bs_toList bs_get bs_extract bs_append bs_lit0 bs_lit1 lit1_bs
set_option maxHeartbeats 1000000
set_option maxRecDepth 20000
theorem strCells_bs (l : List UInt8) : Lib.strCells (bs l) = Lib.byteCells l := by
  unfold Lib.strCells Lib.byteCells; simp [bs]
theorem byteCells_append (a b : List UInt8) : Lib.byteCells (a ++ b) = Lib.byteCells a ++ Lib.byteCells b := by simp [Lib.byteCells]
theorem itoa_D (c : Nat) (w : World) (hg : Glob w) (h1 : c ≤ 9223372036854775807) :
    Calls Tryz.prog 168 #[.int .i64 (c : Int)] w (Ret w (.string (bs (D c)))) := by
  have := itoa_any (c : Int) w hg (by omega) (by omega)
  rw [I_nonneg] at this
  exact this
theorem text_x (b : Nat) (neg : Bool) (m : Nat) (w : World) (hg : Glob w) (hx : Wide w b neg m) :
    Calls Tryz.prog 143 #[.pointer (some ⟨b, 0, none⟩)] w (Ret w (.string (bs (I (sg neg m))))) := by
  have cl := less_cell hx
  have cn := n_cell hx
  by_cases h0 : m = 0
  · subst h0
    rw [nw_zero] at cn
    have hI : I (sg neg 0) = [48] := by unfold sg; cases neg <;> simp [I_zero]
    rw [hI]
    clear hI
    go_enter Tryz.func143, Tryz.ntmps143
    go_wp2
    go_ret
    exact Ret.of rfl (RowKit.Below.refl _ _)
  · obtain ⟨ws, hw, hr⟩ := hx
    obtain ⟨n, hn⟩ : ∃ n, nw m = n + 1 := ⟨nw (m / BB), nw_pos h0⟩
    rw [hn] at cn hr
    have hnl : n < ws.length := by rw [hr.len]; have := hr.le; omega
    have ct := hr.row.cell (wc_w neg (n + 1) ws n hnl)
    have hn232 : n < 232 := by have := hr.le; omega
    have hlt := hr.row.lt
    have HR := Lib.hid hr
    have HW := Lib.hid hw
    have H0 := Lib.hid h0
    have HN := Lib.hid hn
    have e1 : ((n + 1 : Nat) : Int) = (n : Int) + 1 := by omega
    rw [e1] at cn
    have e2 : (((n : Int) + 1) == 0) = false := by simp; omega
    have w1 : IntKind.i64.wrap (n : Int) = (n : Int) := IntWalk.i64_in _ (by omega)
    have w2 : IntKind.i64.wrap ((n : Int) + 1 - 1) = (n : Int) := by rw [show (n : Int) + 1 - 1 = (n : Int) by omega]; exact w1
    have i0 : (0 : Int) ≤ (n : Int) := by omega
    have i1 : (n : Int) < 232 := by omega
    have hwn := hr.small _ (List.getElem_mem hnl)
    simp only [BB] at hwn
    have hwl := D_len_of (n := ws[n]) (k := 9) (by simp only [show (10:Nat)^9 = 1000000000 by decide]; omega) (by decide)
    clear hr hw h0 hn e1
    have hB0 := IsB.new w
    have hbl : Below w.heap.size w (w.alloc (.cells #[.pointer none, .slice none 0 0] 302)) := RowKit.Below.alloc (RowKit.Below.refl _ _) (Nat.le_refl _) _
    have H141 : ∀ k, k ≤ 9 → (⟨#[48, 48, 48, 48, 48, 48, 48, 48, 48]⟩ : ByteArray).extract k 9 = bs (List.replicate (9 - k) 48) := nine_extract
    have HE := Lib.hid H141
    have HT := Lib.hid (top_ne HR.out.small hnl (by rw [HW.out]; exact HN.out) HR.out.zero)
    have HSg : Hid (sgn true = [45] ∧ sgn false = []) := ⟨rfl, rfl⟩
    clear H141
    cases neg
    · have HB0 := Lib.hid hB0
      clear hB0
      go_enter Tryz.func143, Tryz.ntmps143
      go_wp2
      generalize hw1 : w.alloc (.cells #[.pointer none, .slice none 0 0] 302) = w1 at *
      have hb2 := hbl
      have hB1 : IsB w.heap.size w.heap.size (Lib.byteCells (sgn false)) w1 := HB0.out
      have hlB : (Lib.byteCells (sgn false)).length ≤ 1 := by rw [HSg.out.2]; simp [Lib.byteCells]
      have hc := (bcell hb2).1
      rw [← hc b 1 hlt] at cn
      rw [← hc b (2 + n) hlt] at ct
      clear hc cl hw1 HB0 hbl
      go_region_with (first | (go_at_call 168; refine (itoa_D ws[n] _ (by exact hg.of (RowKit.Below.drew hb2)) (by omega)).mono ?_; rintro e w2 ⟨rfl, hb3⟩) | (go_at_call 188; refine (writeString_any w.heap.size w.heap.size _ _ _ (by exact IsB.below (w := w1.drew) hB1 hb3) (by rw [bs_size]; omega) (by have h1 := hb2.size; have h2 := hb3.size; exact Nat.le_trans h1 h2)).mono ?_; rintro e w3 ⟨rfl, hB3, hb4⟩))
      have hb5 : Below w.heap.size w w3 := hb2.trans ((RowKit.Below.drew (RowKit.Below.refl _ w1)).trans ((hb3.mono (by exact hb2.size)).trans hb4))
      have hB4 : IsB w.heap.size w.heap.size (Lib.byteCells (sgn false ++ D (wv (ws.drop n)))) w3 := by
        rw [byteCells_append, wv_drop ws n hnl, drop_nw HR.out.zero (n + 1) (Nat.le_refl _), Nat.mul_zero, Nat.add_zero, ← strCells_bs (D ws[n])]
        exact hB3
      clear hb2 hb3 hb4 hB1 hB3 ct cn
      have cn3 : w3.cell? ⟨b, 1, none⟩ = some (.int .i64 ((n : Int) + 1)) := by
        have h := (hb5.cell (p := ⟨b, 1, none⟩) hlt).trans (HR.out.row.cell (wc_n _ _ _))
        rw [show ((n + 1 : Nat) : Int) = (n : Int) + 1 by omega] at h
        exact h
      go_wp2
      clear cn3
      go_loopg [4] n (fun k iv wr => iv = .int .i64 ((k : Int) - 1) ∧ k ≤ n ∧ IsB w.heap.size w.heap.size (Lib.byteCells (sgn false ++ D (wv (ws.drop k)))) wr ∧ Below w.heap.size w wr)
      case atStart => exact ⟨by congr 1; omega, Nat.le_refl _, hB4, hb5⟩
      case round =>
        clear hB4 hb5
        obtain ⟨rfl, hk, hB, hbw⟩ := hrel
        rcases gk with _ | j
        · have hS := Tryz.Builder_String_any w.heap.size w.heap.size (sgn false ++ D (wv (ws.drop 0))) wr hB hbw.size
          have HS := Lib.hid hS
          clear hS hB
          go_wp2_with (go_at_call 189; refine HS.out.mono ?_; rintro e w4 ⟨rfl, hb6⟩)
          go_ret
          refine Ret.of ?_ (hbw.trans hb6)
          rw [I_sg H0.out, ← HW.out]
          rfl
        · have hz : ((j + 1 : Nat) : Int) - 1 = (j : Int) := by omega
          rw [hz]
          clear hz
          have hjl : j < ws.length := by omega
          have cj : wr.cell? ⟨b, 2 + j, none⟩ = some (.int .i64 (ws[j] : Int)) := (hbw.cell (by exact hlt)).trans (HR.out.row.cell (wc_w _ _ _ _ hjl))
          have hwj := HR.out.small _ (List.getElem_mem hjl)
          simp only [BB] at hwj
          have hdl := D_len_of (n := ws[j]) (k := 9) (by simp only [show (10:Nat)^9 = 1000000000 by decide]; omega) (by decide)
          have hx := HE.out (D ws[j]).length hdl
          have hvpos : 0 < wv (ws.drop (j + 1)) := by
            have h1 := HT.out
            rcases Nat.eq_zero_or_pos (wv (ws.drop (j + 1))) with h0 | h0
            · exfalso
              have h2 : ZeroFrom (ws.drop (j + 1)) 0 := ZeroFrom.of (by rw [h0]; exact Nat.pow_pos (by decide))
              have h3 := h2 (n - (j + 1)) (by simp; omega) (by omega)
              rw [List.getElem_drop] at h3
              simp only [show j + 1 + (n - (j + 1)) = n by omega] at h3
              omega
            · exact h0
          have HV := Lib.hid (show Lib.byteCells (sgn false ++ D (wv (ws.drop (j + 1)))) ++ Lib.strCells (bs (List.replicate (9 - (D ws[j]).length) 48 ++ D ws[j])) = Lib.byteCells (sgn false ++ D (wv (ws.drop j))) by
            rw [strCells_bs, ← byteCells_append, wv_drop ws j hjl, D_words hvpos (by simp only [BB]; omega), List.append_assoc]; rfl)
          have hlb : (Lib.byteCells (sgn false ++ D (wv (ws.drop (j + 1))))).length ≤ 3000 := by
            have h2 := wv_dlen (HR.out.small.drop (j + 1)) (k := 232) (by simp; have := HR.out.len; omega) (by decide)
            have h3 : (sgn false).length ≤ 1 := by unfold sgn; simp
            simp [Lib.byteCells]; omega
          have hjn : j < n := by omega
          clear hvpos
          generalize hD : D ws[j] = dj at *
          go_wp2_with fail
          refine (itoa_D ws[j] _ (hg.of hbw) (by omega)).mono ?_
          rintro e w4 ⟨rfl, hb6⟩
          rw [hD]
          clear hD
          have hB5 := IsB.below hB hb6
          have hb7 := hbw.trans (hb6.mono hbw.size)
          clear hB hb6 hbw cj
          go_wp2_with fail
          refine (writeString_any w.heap.size w.heap.size _ _ _ hB5 (by rw [bs_size]; simp; omega) hb7.size).mono ?_
          rintro e w5 ⟨rfl, hB6, hb8⟩
          rw [HV.out] at hB6
          go_wp2
          go_roundg j
          case measure => omega
          case rel => exact ⟨rfl, by omega, hB6, hb7.trans hb8⟩
    · have HWB := Lib.hid (writeByte_any w.heap.size w.heap.size [] 45 _ hB0 (by simp) (by simp))
      clear hB0
      go_enter Tryz.func143, Tryz.ntmps143
      go_wp2_with fail
      refine HWB.out.mono ?_
      rintro e w1 ⟨rfl, hB1', hb1⟩
      have hB1 : IsB w.heap.size w.heap.size (Lib.byteCells (sgn true)) w1 := hB1'
      have hlB : (Lib.byteCells (sgn true)).length ≤ 1 := by rw [HSg.out.1]; simp [Lib.byteCells]
      clear HWB hB1'
      have hb2 := hbl.trans hb1
      have hc := (bcell hb2).1
      rw [← hc b 1 hlt] at cn
      rw [← hc b (2 + n) hlt] at ct
      clear hc cl hb1 hbl
      go_wp2
      go_region_with (first | (go_at_call 168; refine (itoa_D ws[n] _ (by exact hg.of (RowKit.Below.drew hb2)) (by omega)).mono ?_; rintro e w2 ⟨rfl, hb3⟩) | (go_at_call 188; refine (writeString_any w.heap.size w.heap.size _ _ _ (by exact IsB.below (w := w1.drew) hB1 hb3) (by rw [bs_size]; omega) (by have h1 := hb2.size; have h2 := hb3.size; exact Nat.le_trans h1 h2)).mono ?_; rintro e w3 ⟨rfl, hB3, hb4⟩))
      have hb5 : Below w.heap.size w w3 := hb2.trans ((RowKit.Below.drew (RowKit.Below.refl _ w1)).trans ((hb3.mono (by exact hb2.size)).trans hb4))
      have hB4 : IsB w.heap.size w.heap.size (Lib.byteCells (sgn true ++ D (wv (ws.drop n)))) w3 := by
        rw [byteCells_append, wv_drop ws n hnl, drop_nw HR.out.zero (n + 1) (Nat.le_refl _), Nat.mul_zero, Nat.add_zero, ← strCells_bs (D ws[n])]
        exact hB3
      clear hb2 hb3 hb4 hB1 hB3 ct cn
      have cn3 : w3.cell? ⟨b, 1, none⟩ = some (.int .i64 ((n : Int) + 1)) := by
        have h := (hb5.cell (p := ⟨b, 1, none⟩) hlt).trans (HR.out.row.cell (wc_n _ _ _))
        rw [show ((n + 1 : Nat) : Int) = (n : Int) + 1 by omega] at h
        exact h
      go_wp2
      clear cn3
      go_loopg [4] n (fun k iv wr => iv = .int .i64 ((k : Int) - 1) ∧ k ≤ n ∧ IsB w.heap.size w.heap.size (Lib.byteCells (sgn true ++ D (wv (ws.drop k)))) wr ∧ Below w.heap.size w wr)
      case atStart => exact ⟨by congr 1; omega, Nat.le_refl _, hB4, hb5⟩
      case round =>
        clear hB4 hb5
        obtain ⟨rfl, hk, hB, hbw⟩ := hrel
        rcases gk with _ | j
        · have hS := Tryz.Builder_String_any w.heap.size w.heap.size (sgn true ++ D (wv (ws.drop 0))) wr hB hbw.size
          have HS := Lib.hid hS
          clear hS hB
          go_wp2_with (go_at_call 189; refine HS.out.mono ?_; rintro e w4 ⟨rfl, hb6⟩)
          go_ret
          refine Ret.of ?_ (hbw.trans hb6)
          rw [I_sg H0.out, ← HW.out]
          rfl
        · have hz : ((j + 1 : Nat) : Int) - 1 = (j : Int) := by omega
          rw [hz]
          clear hz
          have hjl : j < ws.length := by omega
          have cj : wr.cell? ⟨b, 2 + j, none⟩ = some (.int .i64 (ws[j] : Int)) := (hbw.cell (by exact hlt)).trans (HR.out.row.cell (wc_w _ _ _ _ hjl))
          have hwj := HR.out.small _ (List.getElem_mem hjl)
          simp only [BB] at hwj
          have hdl := D_len_of (n := ws[j]) (k := 9) (by simp only [show (10:Nat)^9 = 1000000000 by decide]; omega) (by decide)
          have hx := HE.out (D ws[j]).length hdl
          have hvpos : 0 < wv (ws.drop (j + 1)) := by
            have h1 := HT.out
            rcases Nat.eq_zero_or_pos (wv (ws.drop (j + 1))) with h0 | h0
            · exfalso
              have h2 : ZeroFrom (ws.drop (j + 1)) 0 := ZeroFrom.of (by rw [h0]; exact Nat.pow_pos (by decide))
              have h3 := h2 (n - (j + 1)) (by simp; omega) (by omega)
              rw [List.getElem_drop] at h3
              simp only [show j + 1 + (n - (j + 1)) = n by omega] at h3
              omega
            · exact h0
          have HV := Lib.hid (show Lib.byteCells (sgn true ++ D (wv (ws.drop (j + 1)))) ++ Lib.strCells (bs (List.replicate (9 - (D ws[j]).length) 48 ++ D ws[j])) = Lib.byteCells (sgn true ++ D (wv (ws.drop j))) by
            rw [strCells_bs, ← byteCells_append, wv_drop ws j hjl, D_words hvpos (by simp only [BB]; omega), List.append_assoc]; rfl)
          have hlb : (Lib.byteCells (sgn true ++ D (wv (ws.drop (j + 1))))).length ≤ 3000 := by
            have h2 := wv_dlen (HR.out.small.drop (j + 1)) (k := 232) (by simp; have := HR.out.len; omega) (by decide)
            have h3 : (sgn true).length ≤ 1 := by unfold sgn; simp
            simp [Lib.byteCells]; omega
          have hjn : j < n := by omega
          clear hvpos
          generalize hD : D ws[j] = dj at *
          go_wp2_with fail
          refine (itoa_D ws[j] _ (hg.of hbw) (by omega)).mono ?_
          rintro e w4 ⟨rfl, hb6⟩
          rw [hD]
          clear hD
          have hB5 := IsB.below hB hb6
          have hb7 := hbw.trans (hb6.mono hbw.size)
          clear hB hb6 hbw cj
          go_wp2_with fail
          refine (writeString_any w.heap.size w.heap.size _ _ _ hB5 (by rw [bs_size]; simp; omega) hb7.size).mono ?_
          rintro e w5 ⟨rfl, hB6, hb8⟩
          rw [HV.out] at hB6
          go_wp2
          go_roundg j
          case measure => omega
          case rel => exact ⟨rfl, by omega, hB6, hb7.trans hb8⟩
end W
end Go.Proofs.YtellemlhhlafcaaGreatDoor
end
section
namespace Go.Proofs.YtellemlhhlafcaaGreatDoor
open Go Go.RowKit Go.Deep
theorem below_bytes (w : World) (e : TypeId) (s : ByteArray) : Below w.heap.size w (Lib.bytesWorld w e s) := by
  have h1 : Below w.heap.size w (w.drew.alloc (.cells (Lib.bytesCells w e s) e)) := (RowKit.Below.drew (RowKit.Below.refl _ w)).alloc (Nat.le_refl _) _
  refine ⟨h1.os, h1.tape, h1.output, ?_, fun k hk => ?_⟩
  · unfold Lib.bytesWorld World.freeze
    simp
  · rw [← h1.block k hk]
    unfold Lib.bytesWorld World.freeze
    simp only [Nat.one_ne_zero, if_false, Array.getElem?_modify]
    rw [if_neg (by omega)]
namespace M
structure ReadS (L : List UInt8) (r k : Nat) (ws : List Nat) : Prop where
  len : ws.length = 232
  small : Small ws
  zero : ZeroFrom ws k
  rest : r + 9 * k ≤ L.length + 8 ∧ (0 < r → r + 9 * k = L.length)
  val : wv ws = M.val (L.drop r)
theorem ReadS.step {L : List UInt8} {r k : Nat} {ws : List Nat} (hL : Digs L) (hlen : L.length ≤ 1024) (h : ReadS L r k ws) (hr : 0 < r) (hrl : r ≤ L.length) :
    ReadS L (r - 9) (k + 1) (ws.set k (M.val ((L.take r).drop (r - 9)))) ∧ k < 232 ∧ M.val ((L.take r).drop (r - 9)) < 1000000000 := by
  obtain ⟨h1, h2, h3, ⟨h4, h5⟩, h6⟩ := h
  have hk : r + 9 * k = L.length := h5 hr
  have hk2 : k < 232 := by omega
  have hd : Digs ((L.take r).drop (r - 9)) := (hL.take r).drop _
  have hv := val_lt hd
  have hcl : ((L.take r).drop (r - 9)).length ≤ 9 := by simp; omega
  have hv2 : M.val ((L.take r).drop (r - 9)) < 1000000000 := by
    have : 10 ^ ((L.take r).drop (r - 9)).length ≤ 10 ^ 9 := Nat.pow_le_pow_right (by decide) hcl
    have e : (10 : Nat) ^ 9 = 1000000000 := by decide
    omega
  have hkw : k < ws.length := by omega
  refine ⟨⟨by rw [List.length_set]; exact h1, h2.set k _ hv2, ?_, ⟨by omega, fun h => by omega⟩, ?_⟩, hk2, hv2⟩
  · exact (h3.mono (Nat.le_succ k)).set (Nat.lt_succ_self k)
  · have hs := wv_set ws k (M.val ((L.take r).drop (r - 9))) hkw
    rw [h3 k hkw (Nat.le_refl _), Nat.zero_mul, Nat.add_zero, h6] at hs
    rw [hs]
    have e1 : L.drop (r - 9) = (L.take r).drop (r - 9) ++ L.drop r := by
      have e : L = L.take r ++ L.drop r := (List.take_append_drop r L).symm
      have h7 : L.drop (r - 9) = (L.take r ++ L.drop r).drop (r - 9) := by rw [← e]
      rw [h7, List.drop_append_of_le_length (by simp; omega)]
    rw [e1, val_append, List.length_drop, show L.length - r = 9 * k by omega, Nat.pow_mul, show (10 : Nat) ^ 9 = BB from rfl]
    omega
end M
namespace W
open M
attribute [local go_sem] bs_size bs_toList bs_get bs_extract bs_append bs_lit0 bs_lit1 lit1_bs
set_option maxHeartbeats 1000000
set_option maxRecDepth 20000
theorem I_sg_len {b : Nat} {neg : Bool} {m : Nat} {w : World} (h : Wide w b neg m) : (I (sg neg m)).length ≤ 3000 := by
  obtain ⟨ws, hw, hr⟩ := h
  have h1 := wv_dlen hr.small (k := 232) (by rw [hr.len]; omega) (by decide)
  have h2 := I_len_D (sg neg m)
  rw [sg_abs, ← hw] at h2
  rw [← hw]; omega
theorem limited_ok (b : Nat) (neg : Bool) (m : Nat) (w : World) (hg : Glob w) (hx : Wide w b neg m) (hm : Ok (sg neg m)) :
    Calls Tryz.prog 211 #[.pointer (some ⟨b, 0, none⟩)] w (Ret w (.tuple #[.string (bs (I (sg neg m))), .int .i64 0])) := by
  have HT := Lib.hid (text_x b neg m w hg hx)
  have hl := I_sg_len hx
  have hv := fun w' => vcheck_any (I (sg neg m)) w' (by omega)
  rw [chk_I0 hm] at hv
  have HV := Lib.hid hv
  clear hv hm
  go_enter Tryz.func211, Tryz.ntmps211
  go_wp2_with fail
  refine (HT.out).mono ?_
  rintro e w1 ⟨rfl, hb1⟩
  go_wp2_with fail
  refine (HV.out _).mono ?_
  rintro e w2 ⟨rfl, hb2⟩
  go_wp2
  go_ret2
  exact Ret.of rfl (Below.then hb1 hb2)
theorem limited_no (b : Nat) (neg : Bool) (m : Nat) (w : World) (hg : Glob w) (hx : Wide w b neg m) (hm : ¬ Ok (sg neg m)) :
    Calls Tryz.prog 211 #[.pointer (some ⟨b, 0, none⟩)] w (Ret w (.tuple #[.string (bs []), .int .i64 11])) := by
  have HT := Lib.hid (text_x b neg m w hg hx)
  have hl := I_sg_len hx
  have hv := fun w' => vcheck_any (I (sg neg m)) w' (by omega)
  rw [chk_I, if_neg hm] at hv
  have HV := Lib.hid hv
  clear hv hm
  go_enter Tryz.func211, Tryz.ntmps211
  go_wp2_with fail
  refine (HT.out).mono ?_
  rintro e w1 ⟨rfl, hb1⟩
  go_wp2_with fail
  refine (HV.out _).mono ?_
  rintro e w2 ⟨rfl, hb2⟩
  go_wp2
  go_ret2
  exact Ret.of rfl (Below.then hb1 hb2)
theorem atoi_ret (l : List UInt8) (v : Int) (w : World) (hl : l.length ≤ 1000000000) (h : Lib.atoiAll l = .ok v) :
    Calls Tryz.prog 182 #[.string (bs l)] w (Ret w (.tuple #[.int .i64 v, .nilIface])) := by
  refine (Tryz.strconv_Atoi_ok (bs l) (by rw [bs_size]; omega) v (by rw [bs_dl]; exact h) w).mono ?_
  rintro e w' ⟨rfl, hw⟩
  refine Ret.of rfl ?_
  rcases hw with rfl | ⟨t, rfl⟩
  · exact RowKit.Below.refl _ _
  · exact below_bytes _ _ _
theorem read_I (z : Int) (w : World) (hz : Ok z) :
    Calls Tryz.prog 141 #[.string (bs (I z))] w (NewP (decide (z < 0)) z.natAbs w) := by
  have hLl := hz.dlen
  have hLd := D_digs z.natAbs
  have hLv := D_val z.natAbs
  have hLp := D_len_pos z.natAbs
  have hpx := trimPrefix_minus (I z)
  rw [sz_I] at hpx
  obtain ⟨L, hL⟩ : ∃ L, D z.natAbs = L := ⟨_, rfl⟩
  rw [hL] at hLl hLd hLv hpx hLp
  have HP := Lib.hid hpx
  have HV := Lib.hid hLv
  obtain ⟨c, t, e, h⟩ := I_cons z
  have h2 : ((c.toNat : Int) == 45) = decide (z < 0) := by rw [b45]; exact h
  have hcs := Lib.hid e
  rw [e]
  rw [e] at HP
  generalize hneg : decide (z < 0) = neg at *
  clear h hpx hLv hL e hneg
  have hw0 := Wide.zero w neg
  have hbl : Below w.heap.size w (w.alloc (.cells (Tryz.zeroCells248.setIfInBounds 0 (.bool neg)) 248)) := RowKit.Below.alloc (RowKit.Below.refl _ _) (Nat.le_refl _) _
  have HW0 := Lib.hid hw0
  clear hw0
  go_enter Tryz.func141, Tryz.ntmps141
  go_wp2_with fail
  refine (HP.out _).mono ?_
  rintro e w' ⟨rfl, rfl⟩
  clear HP hcs h2
  go_wp2
  go_loopg [3] L.length (fun r sv wr => ∃ (k : Nat) (ws : List Nat), sv = .string (bs (L.take r)) ∧ r ≤ L.length ∧ ReadS L r k ws ∧ Row wr w.heap.size 248 (wcells neg k ws) ∧ Below w.heap.size w wr)
  case atStart =>
    refine ⟨0, List.replicate 232 0, by rw [List.take_length], Nat.le_refl _, ⟨List.length_replicate, fun c hc => by rw [List.eq_of_mem_replicate hc]; decide, fun i hi _ => List.getElem_replicate _, ⟨by omega, fun _ => by omega⟩, by rw [wv_zeros, List.drop_length]; rfl⟩, ?_, hbl⟩
    rw [zero141_set]
    exact Row.new w _ _
  case round =>
    obtain ⟨k, ws, rfl, hr, hS, hrow, hbw⟩ := hrel
    have cn := hrow.cell (wc_n neg k ws)
    have f1 := hrow.free 1
    have hlt := hrow.lt
    by_cases h0 : gk = 0
    · subst h0
      rw [List.take_zero]
      have hval := hS.val
      rw [List.drop_zero, HV.out] at hval
      have hwr : WideR wr w.heap.size neg k ws := ⟨hrow, hS.len, hS.small, hS.zero, by have := hS.rest.1; omega⟩
      have HT := Lib.hid (trimmed_any w.heap.size neg k ws wr hwr)
      rw [hval] at HT
      clear hS hrow hwr hval cn f1
      go_wp2_with (go_at_call 183; refine HT.out.mono ?_; rintro e w1 ⟨rfl, ht, ho⟩)
      go_ret
      exact ⟨w.heap.size, Nat.le_refl _, rfl, ht, hbw.trans (ho.below (Nat.le_refl _) hbw.size)⟩
    · obtain ⟨hS2, hk2, hv9⟩ := hS.step hLd hLl (by omega) hr
      have hkw : k < ws.length := by rw [hS.len]; exact hk2
      have ck := hrow.cell (wc_w neg k ws k hkw)
      have f2 := hrow.free (2 + k)
      have htl : (L.take gk).length = gk := by simp; omega
      obtain ⟨s, hs⟩ : ∃ s, L.take gk = s := ⟨_, rfl⟩
      obtain ⟨fr, hfr⟩ : ∃ fr, gk - 9 = fr := ⟨_, rfl⟩
      rw [hs] at hS2 hv9 htl
      rw [hs]
      rw [hfr] at hS2 hv9
      have hsd : Digs s := by rw [← hs]; exact hLd.take gk
      have hfl : fr < s.length := by omega
      have hmax : max (0 : Int) ((s.length : Int) - 9) = (fr : Int) := by omega
      have hat := atoi_digs (l := s.drop fr) (hsd.drop _) (by intro h; have := congrArg List.length h; simp at this; omega) (by omega)
      have HA := Lib.hid (fun w' => atoi_ret _ _ w' (by simp; omega) hat)
      have hr1 := hrow.set (2 + k) (.int .i64 ((val (s.drop fr) : Nat) : Int))
      rw [wc_setw] at hr1
      have htk : List.take (s.length - fr) (List.drop fr s) = List.drop fr s := List.take_of_length_le (by simp)
      have HX := Lib.hid (show List.take fr s = L.take fr by rw [← hs, List.take_take, Nat.min_eq_left (by omega)])
      have s1 : s.length ≤ 1024 := by omega
      have s2 : 0 < s.length := by omega
      have sg1 : s.length ≤ gk := by omega
      have sg2 : gk ≤ s.length := by omega
      have hmeas : fr < gk := by omega
      have hfrL : fr ≤ L.length := by omega
      have i0 : (0 : Int) ≤ (k : Int) := by omega
      have i1 : (k : Int) < 232 := by omega
      have HS2 := Lib.hid hS2
      generalize hvv : val (s.drop fr) = v at *
      clear hS htl hat hs hfr hS2 hvv
      go_wp2
      go_region_with (go_at_call 182; refine (HA.out _).mono ?_; rintro e w2 ⟨rfl, hb2⟩; have cn2 : w2.cell? ⟨w.heap.size, 1, none⟩ = some (.int .i64 (k : Int)) := (hb2.cell (p := ⟨w.heap.size, 1, none⟩) hlt).trans cn; have ck2 : w2.cell? ⟨w.heap.size, 2 + k, none⟩ = some (.int .i64 (ws[k] : Int)) := (hb2.cell (p := ⟨w.heap.size, 2 + k, none⟩) hlt).trans ck; have fk2 : w2.frozen? ⟨w.heap.size, 2 + k, none⟩ = false := (hb2.frozen (p := ⟨w.heap.size, 2 + k, none⟩) hlt).trans f2)
      all_goals
        have hr3 := (((Row.drew hrow).below hb2 hlt).set (2 + k) (.int .i64 (v : Int))).set 1 (.int .i64 ((k + 1 : Nat) : Int))
        rw [wc_setw, wc_setn] at hr3
        have hb3 : Below w.heap.size w w2 := hbw.trans ((RowKit.Below.drew (RowKit.Below.refl _ wr)).trans (hb2.mono (by exact hbw.size)))
        have fn2 := hr3.free 1
        have fn3 : w2.frozen? ⟨w.heap.size, 1, none⟩ = false := (hb2.frozen (p := ⟨w.heap.size, 1, none⟩) hlt).trans f1
        clear cn ck f1 f2 hr1 hrow hmax htk
        go_wp2
        go_roundg fr
        case measure => first | exact hmeas | omega
        case rel =>
          refine ⟨k + 1, ws.set k v, ?_, hfrL, HS2.out, ?_, (hb3.setCell (p := ⟨w.heap.size, 2 + k, none⟩) (Nat.le_refl _) _).setCell (p := ⟨w.heap.size, 1, none⟩) (Nat.le_refl _) _⟩
          · rw [← HX.out]
          · exact hr3
end W
end Go.Proofs.YtellemlhhlafcaaGreatDoor
end
section
namespace Go.Proofs.YtellemlhhlafcaaGreatDoor
open Go Go.RowKit Go.Deep
namespace M
theorem getD_zero {l : List Nat} {n : Nat} (hz : ZeroFrom l n) (i : Nat) (h : n ≤ i) : l.getD i 0 = 0 := by
  rw [List.getD_eq_getElem?_getD]
  rcases Nat.lt_or_ge i l.length with h2 | h2
  · rw [List.getElem?_eq_getElem h2]; exact hz i h2 h
  · rw [List.getElem?_eq_none h2]; rfl
theorem getD_small {l : List Nat} (hs : Small l) (i : Nat) : l.getD i 0 < BB := by
  rw [List.getD_eq_getElem?_getD]
  rcases Nat.lt_or_ge i l.length with h2 | h2
  · rw [List.getElem?_eq_getElem h2]; exact hs _ (List.getElem_mem h2)
  · rw [List.getElem?_eq_none h2]; exact (by decide : (0 : Nat) < BB)
theorem est_le {xs ys : List Nat} {k : Nat} (hxl : xs.length = 232) (hk : k < 232) (hyl : ys.length = 232) (hys : Small ys) (hyz : ZeroFrom ys (k + 1)) {b q : Nat}
    (hb : b = if k = 0 then ys.getD k 0 else ys.getD k 0 + 1) (hq : q * b ≤ xs.getD (k + 1) 0 * BB + xs.getD k 0) : q * wv ys ≤ wv xs := by
  have hyk : ys.getD k 0 = ys[k]'(by omega) := by rw [List.getD_eq_getElem?_getD, List.getElem?_eq_getElem (by omega)]; rfl
  have hxk : xs.getD k 0 = xs[k]'(by omega) := by rw [List.getD_eq_getElem?_getD, List.getElem?_eq_getElem (by omega)]; rfl
  have hY : wv ys ≤ b * BB ^ k := by
    have h1 := wv_split ys k (by omega)
    rw [drop_nw hyz (k + 1) (Nat.le_refl _), Nat.mul_zero, Nat.add_zero] at h1
    rw [hb, hyk]
    split
    · rename_i h0
      subst h0
      rw [h1]; simp [wv]
    · have h2 := wv_lt (hys.take k)
      rw [List.length_take, Nat.min_eq_left (by omega)] at h2
      rw [h1, Nat.add_mul, Nat.one_mul]; omega
  have hX : (xs.getD (k + 1) 0 * BB + xs.getD k 0) * BB ^ k ≤ wv xs := by
    have h1 := wv_split xs k (by omega)
    rw [hxk]
    rcases Nat.lt_or_ge (k + 1) xs.length with h2 | h2
    · have h3 : xs.getD (k + 1) 0 = xs[k + 1] := by rw [List.getD_eq_getElem?_getD, List.getElem?_eq_getElem h2]; rfl
      rw [h3, h1, wv_drop xs (k + 1) h2, Nat.add_mul, Nat.mul_add, Nat.pow_succ]
      have e1 : xs[k + 1] * BB * BB ^ k = BB ^ k * BB * xs[k + 1] := by rw [Nat.mul_assoc, Nat.mul_comm BB, Nat.mul_comm]
      rw [e1]
      omega
    · have h3 : xs.getD (k + 1) 0 = 0 := by rw [List.getD_eq_getElem?_getD, List.getElem?_eq_none h2]; rfl
      rw [h3, h1]; simp; omega
  calc q * wv ys ≤ q * (b * BB ^ k) := Nat.mul_le_mul_left q hY
    _ = q * b * BB ^ k := by rw [Nat.mul_assoc]
    _ ≤ (xs.getD (k + 1) 0 * BB + xs.getD k 0) * BB ^ k := Nat.mul_le_mul_right _ hq
    _ ≤ wv xs := hX
theorem top_pos {ys : List Nat} {k : Nat} (hs : Small ys) (hk : k < ys.length) (hn : nw (wv ys) = k + 1) (hz : ZeroFrom ys (k + 1)) : 0 < ys.getD k 0 := by
  rw [List.getD_eq_getElem?_getD, List.getElem?_eq_getElem hk]; exact top_ne hs hk hn hz
end M
def EstP (X Y : Nat) (w : World) (e : Ending) (w' : World) : Prop := ∃ k : Nat, 1 ≤ k ∧ k < 1000000000 ∧ k * Y ≤ X ∧ e = .returned (.int .i64 (k : Int)) ∧ ∃ n, w' = w.drewN n
namespace W
open M
attribute [local go_sem] bs_size bs_toList bs_get bs_extract bs_append bs_lit0 bs_lit1 lit1_bs
set_option maxHeartbeats 1000000
set_option maxRecDepth 20000
theorem top_any (b : Nat) (neg : Bool) (n : Nat) (ws : List Nat) (w : World) (h : WideR w b neg n ws) (i : Nat) :
    Calls Tryz.prog 221 #[.pointer (some ⟨b, 0, none⟩), .int .i64 (i : Int)] w fun e w' => e = .returned (.int .i64 ((ws.getD i 0 : Nat) : Int)) ∧ w = w' := by
  have cn := h.row.cell (wc_n neg n ws)
  by_cases hi : n ≤ i
  · rw [getD_zero h.zero i hi]
    clear h
    go_enter Tryz.func221, Tryz.ntmps221
    go_wp2
    go_ret
    exact ⟨rfl, rfl⟩
  · have hiw : i < ws.length := by rw [h.len]; have := h.le; omega
    have hi2 : i < 232 := by have := h.le; omega
    have ci := h.row.cell (wc_w neg n ws i hiw)
    rw [show ws.getD i 0 = ws[i] by rw [List.getD_eq_getElem?_getD, List.getElem?_eq_getElem hiw]; rfl]
    clear h
    go_enter Tryz.func221, Tryz.ntmps221
    go_wp2
    go_ret
    exact ⟨rfl, rfl⟩
theorem estimate_any (bx by_ : Nat) (nx ny : Bool) (X Y : Nat) (w : World) (hx : Wide w bx nx X) (hy : Wide w by_ ny Y) (hY0 : 0 < Y) (hle : Y ≤ X) :
    Calls Tryz.prog 185 #[.pointer (some ⟨bx, 0, none⟩), .pointer (some ⟨by_, 0, none⟩)] w (EstP X Y w) := by
  obtain ⟨xws, hX, hxr⟩ := hx
  obtain ⟨yws, hY, hyr⟩ := hy
  obtain ⟨k, hk⟩ : ∃ k, nw Y = k + 1 := ⟨nw (Y / BB), nw_pos (by omega)⟩
  rw [hk] at hyr
  have cy := hyr.row.cell (wc_n ny (k + 1) yws)
  have e1 : ((k + 1 : Nat) : Int) = (k : Int) + 1 := by omega
  rw [e1] at cy
  have hk2 : k < 232 := by have := hyr.le; omega
  have T1 : ∀ q, Calls Tryz.prog 221 #[.pointer (some ⟨bx, 0, none⟩), .int .i64 ((k : Int) + 1)] (w.drewN q) fun e w' => e = .returned (.int .i64 ((xws.getD (k + 1) 0 : Nat) : Int)) ∧ w' = w.drewN q := fun q => by
    rw [← e1]; exact still (top_any bx nx (nw X) xws (w.drewN q) (hxr.move (hxr.row.drewN q)) (k + 1))
  have T2 : ∀ q, Calls Tryz.prog 221 #[.pointer (some ⟨bx, 0, none⟩), .int .i64 (k : Int)] (w.drewN q) fun e w' => e = .returned (.int .i64 ((xws.getD k 0 : Nat) : Int)) ∧ w' = w.drewN q := fun q => still (top_any bx nx (nw X) xws (w.drewN q) (hxr.move (hxr.row.drewN q)) k)
  have T3 : ∀ q, Calls Tryz.prog 221 #[.pointer (some ⟨by_, 0, none⟩), .int .i64 (k : Int)] (w.drewN q) fun e w' => e = .returned (.int .i64 ((yws.getD k 0 : Nat) : Int)) ∧ w' = w.drewN q := fun q => still (top_any by_ ny (k + 1) yws (w.drewN q) (hyr.move (hyr.row.drewN q)) k)
  have b1 := getD_small hxr.small (k + 1)
  have b2 := getD_small hxr.small k
  have b3 := getD_small hyr.small k
  have b4 := top_pos hyr.small (by rw [hyr.len]; exact hk2) (by rw [hY]; exact hk) hyr.zero
  simp only [BB] at b1 b2 b3
  have HE := Lib.hid (fun (b q : Nat) => est_le (xs := xws) (ys := yws) (k := k) (b := b) (q := q) hxr.len hk2 hyr.len hyr.small hyr.zero)
  rw [hX, hY] at HE
  simp only [BB] at HE
  have H1 := Lib.hid T1
  have H2 := Lib.hid T2
  have H3 := Lib.hid T3
  have wr1 : IntKind.i64.wrap (k : Int) = (k : Int) := IntWalk.i64_in _ (by omega)
  have wr2 : IntKind.i64.wrap ((k : Int) + 1 - 1) = (k : Int) := by rw [show (k : Int) + 1 - 1 = (k : Int) by omega]; exact wr1
  clear hX hY hxr hyr hk e1 T1 T2 T3
  generalize xws.getD (k + 1) 0 = x1 at *
  generalize xws.getD k 0 = x0 at *
  generalize yws.getD k 0 = y0 at *
  have wr3 : IntKind.i64.wrap ((x1 : Int) * 1000000000) = (x1 : Int) * 1000000000 := IntWalk.i64_in _ (by omega)
  have wr4 : IntKind.i64.wrap ((x1 : Int) * 1000000000 + (x0 : Int)) = (x1 : Int) * 1000000000 + (x0 : Int) := IntWalk.i64_in _ (by omega)
  obtain ⟨b, hb⟩ : ∃ b, b = if k = 0 then y0 else y0 + 1 := ⟨_, rfl⟩
  have hb0 : 0 < b := by rw [hb]; split <;> omega
  have hbb : b ≤ 1000000000 := by rw [hb]; split <;> omega
  have hq := Nat.div_mul_le_self (x1 * 1000000000 + x0) b
  have HQ := Lib.hid (fun q (h : q ≤ (x1 * 1000000000 + x0) / b) => HE.out b q hb (Nat.le_trans (Nat.mul_le_mul_right b h) hq))
  by_cases hk0 : k = 0
  · have hby : b = y0 := by rw [hb, if_pos hk0]
    subst hby
    have hk1 : (k : Int) + 1 ≤ 1 := by omega
    clear hb hq hk0
    go_enter Tryz.func185, Tryz.ntmps185
    go_wp2
    go_quiet ((first | with_reducible exact Calls.quiet_of_same (H1.out _) | with_reducible exact Calls.quiet_of_same (H2.out _) | with_reducible exact Calls.quiet_of_same (H3.out _)))
    clear wr1 wr2 wr3 wr4
    go_wp2
    · have h1 : 0 < ((x1 : Int) * 1000000000 + (x0 : Int)) / (b : Int) := by assumption
      rw [show ((x1 : Int) * 1000000000 + (x0 : Int)) / (b : Int) = (((x1 * 1000000000 + x0) / b : Nat) : Int) by simp] at h1
      go_ret
      refine ⟨min ((x1 * 1000000000 + x0) / b) 999999999, by omega, by omega, HQ.out _ (Nat.min_le_left _ _), ?_, _, rfl⟩
      refine congrArg (fun z => Ending.returned (Value.int IntKind.i64 z)) ?_
      rw [show ((x1 : Int) * 1000000000 + (x0 : Int)) / (b : Int) = (((x1 * 1000000000 + x0) / b : Nat) : Int) by simp]
      omega
    · go_ret
      exact ⟨1, by omega, by omega, by omega, rfl, _, rfl⟩
  · have hby : b = y0 + 1 := by rw [hb, if_neg hk0]
    have hk1 : 1 < (k : Int) + 1 := by omega
    subst hby
    clear hb hq hk0
    go_enter Tryz.func185, Tryz.ntmps185
    go_wp2
    go_quiet ((first | with_reducible exact Calls.quiet_of_same (H1.out _) | with_reducible exact Calls.quiet_of_same (H2.out _) | with_reducible exact Calls.quiet_of_same (H3.out _)))
    clear wr1 wr2 wr3 wr4
    go_wp2
    · have h1 : 0 < ((x1 : Int) * 1000000000 + (x0 : Int)) / ((y0 : Int) + 1) := by assumption
      rw [show ((x1 : Int) * 1000000000 + (x0 : Int)) / ((y0 : Int) + 1) = (((x1 * 1000000000 + x0) / (y0 + 1) : Nat) : Int) by simp] at h1
      go_ret
      refine ⟨min ((x1 * 1000000000 + x0) / (y0 + 1)) 999999999, by omega, by omega, HQ.out _ (Nat.min_le_left _ _), ?_, _, rfl⟩
      refine congrArg (fun z => Ending.returned (Value.int IntKind.i64 z)) ?_
      rw [show ((x1 : Int) * 1000000000 + (x0 : Int)) / ((y0 : Int) + 1) = (((x1 * 1000000000 + x0) / (y0 + 1) : Nat) : Int) by simp]
      omega
    · go_ret
      exact ⟨1, by omega, by omega, by omega, rfl, _, rfl⟩
end W
end Go.Proofs.YtellemlhhlafcaaGreatDoor
end
section
namespace Go.Proofs.YtellemlhhlafcaaGreatDoor
open Go Go.RowKit Go.Deep
theorem wc_setn1 (neg : Bool) (n : Nat) (ws : List Nat) : (wcells neg n ws).set 1 (.int .i64 ((n : Int) + 1)) = wcells neg (n + 1) ws := by
  rw [show ((n : Int) + 1) = ((n + 1 : Nat) : Int) by omega]; rfl
theorem copy_up {w : World} {b : Nat} {neg : Bool} {n : Nat} {ws : List Nat} (h : WideR w b neg n ws) (hn : n < 232) (ty : TypeId) :
    (Builtin.copy_ #[45, 45] ty #[.slice (some ⟨b, 3, none⟩) 231 231, .slice (some ⟨b, 2, none⟩) n 232]).run Tryz.prog w =
      .ok (goInt n) (w.setRow b (wcells neg n (ws.take 1 ++ ws.take n ++ ws.drop (n + 1))).toArray) := by
  have hsrc : ∀ j v, (I64 (ws.take n))[j]? = some v → w.cell? ((⟨b, 2, none⟩ : Addr).add j) = some v := by
    intro j v hj
    have hjn : j < (ws.take n).length := by
      rcases Nat.lt_or_ge j (ws.take n).length with h2 | h2
      · exact h2
      · rw [List.getElem?_eq_none (by rw [I64_len]; exact h2)] at hj; cases hj
    have hjw : j < ws.length := by rw [List.length_take] at hjn; omega
    rw [I64_get _ j hjn, List.getElem_take] at hj
    have hadd : (⟨b, 2, none⟩ : Addr).add j = ⟨b, 2 + j, none⟩ := by unfold Addr.add; split <;> simp_all
    rw [hadd, h.row.cell (wc_w neg n ws j hjw), hj]
  have hlen : (I64 (ws.take n)).length = n := by rw [I64_len, List.length_take, Nat.min_eq_left (by rw [h.len]; omega)]
  have := run_copy_row (P := Tryz.prog) w 45 45 ty 3 b 3 231 231 ⟨b, 2, none⟩ n 232 (wcells neg n ws).toArray 248 (I64 (ws.take n)) Tryz.underlying45 (by kernel_rfl) h.row (by rw [hlen]; show n = min n 231; omega) hsrc (by rw [hlen, wc_size _ _ h.len]; omega) (fun v hv => by obtain ⟨c, _, rfl⟩ := List.mem_map.1 hv; rfl)
  rw [this, hlen]
  have hne : ws ≠ [] := by intro e; have := h.len; rw [e] at this; cases this
  obtain ⟨c, t, rfl⟩ : ∃ c t, ws = c :: t := by cases ws with
    | nil => exact absurd rfl hne
    | cons c t => exact ⟨c, t, rfl⟩
  have e : List.take 3 (wcells neg n (c :: t)).toArray.toList ++ I64 (List.take n (c :: t)) ++ List.drop (3 + n) (wcells neg n (c :: t)).toArray.toList = wcells neg n ((c :: t).take 1 ++ (c :: t).take n ++ (c :: t).drop (n + 1)) := by
    rw [show 3 + n = n + 1 + 1 + 1 by omega]
    simp [wcells, I64, List.map_take, List.map_drop]
  rw [e]
theorem copy_up' {w : World} {b : Nat} {neg : Bool} {n : Nat} {ws : List Nat} (h : WideR w b neg n ws) (hn : n < 232) :
    ∃ wc, (∀ ty, (Builtin.copy_ #[45, 45] ty #[.slice (some ⟨b, 3, none⟩) 231 231, .slice (some ⟨b, 2, none⟩) n 232]).run Tryz.prog w = .ok (goInt n) wc) ∧
      Row wc b 248 (wcells neg n (ws.take 1 ++ ws.take n ++ ws.drop (n + 1))) ∧ Only b w wc :=
  ⟨_, fun ty => copy_up h hn ty, by simpa using h.row.setRow (wcells neg n (ws.take 1 ++ ws.take n ++ ws.drop (n + 1))).toArray, Only.setRow (Only.refl _ _) _⟩
namespace M
theorem up_words {ws : List Nat} {n x : Nat} (hl : ws.length = 232) (hs : Small ws) (hz : ZeroFrom ws n) (hn : n < 232) (hx : x < BB) :
    let vs := (ws.take 1 ++ ws.take n ++ ws.drop (n + 1)).set 0 x
    vs.length = 232 ∧ Small vs ∧ ZeroFrom vs (n + 1) ∧ wv vs = x + BB * wv ws := by
  have hne : ws ≠ [] := by intro e; rw [e] at hl; cases hl
  obtain ⟨c, t, rfl⟩ : ∃ c t, ws = c :: t := by cases ws with
    | nil => exact absurd rfl hne
    | cons c t => exact ⟨c, t, rfl⟩
  have e : ((c :: t).take 1 ++ (c :: t).take n ++ (c :: t).drop (n + 1)).set 0 x = x :: ((c :: t).take n ++ (c :: t).drop (n + 1)) := by simp
  show _ ∧ _ ∧ _ ∧ _
  rw [e]
  have hsm : Small (x :: ((c :: t).take n ++ (c :: t).drop (n + 1))) := by
    intro y hy
    rcases List.mem_cons.1 hy with rfl | hy
    · exact hx
    · rcases List.mem_append.1 hy with hy | hy
      · exact hs y (List.mem_of_mem_take hy)
      · exact hs y (List.mem_of_mem_drop hy)
  have hv : wv (x :: ((c :: t).take n ++ (c :: t).drop (n + 1))) = x + BB * wv (c :: t) := by
    rw [wv, wv_append, take_all hz n (Nat.le_refl _), drop_nw hz (n + 1) (by omega), Nat.mul_zero, Nat.add_zero]
  refine ⟨by simp at hl ⊢; omega, hsm, ?_, hv⟩
  have h1 := hz.wv hs
  refine ZeroFrom.of ?_
  rw [hv, Nat.pow_succ, Nat.mul_comm (BB ^ n)]
  have h2 := Nat.mul_le_mul_left BB (Nat.succ_le_of_lt h1)
  rw [Nat.mul_succ] at h2
  omega
theorem div_step {qws xws : List Nat} {i d S S0 R Y : Nat} (hq : i < qws.length) (hx : i < xws.length) (h : wv (qws.drop (i + 1)) * Y + R = wv (xws.drop (i + 1))) (h0 : S0 = xws[i] + BB * R) (hS : S + d * Y = S0) :
    wv ((qws.set i d).drop i) * Y + S = wv (xws.drop i) := by
  have e1 : (qws.set i d).drop i = d :: qws.drop (i + 1) := by
    rw [List.drop_eq_getElem_cons (by simpa using hq)]
    simp [List.drop_set_of_lt]
  rw [e1, wv, wv_drop xws i hx, ← h, Nat.add_mul, Nat.mul_assoc, Nat.mul_add]
  omega
end M
def DivP (X Y : Nat) (w : World) (e : Ending) (w' : World) : Prop := ∃ bq br, w.heap.size ≤ bq ∧ w.heap.size ≤ br ∧ bq ≠ br ∧ e = .returned (.tuple #[.pointer (some ⟨bq, 0, none⟩), .pointer (some ⟨br, 0, none⟩)]) ∧ Wide w' bq false (X / Y) ∧ Wide w' br false (X % Y) ∧ Below w.heap.size w w'
namespace W
open M
attribute [local go_sem] bs_size bs_toList bs_get bs_extract bs_append bs_lit0 bs_lit1 lit1_bs
set_option maxHeartbeats 2000000
set_option maxRecDepth 20000
theorem divided_any (bx by_ : Nat) (nx ny : Bool) (X Y : Nat) (w : World) (hx : Wide w bx nx X) (hy : Wide w by_ ny Y) (hY0 : 0 < Y) (hYn : nw Y ≤ 200) :
    Calls Tryz.prog 142 #[.pointer (some ⟨bx, 0, none⟩), .pointer (some ⟨by_, 0, none⟩)] w (DivP X Y w) := by
  have cx := n_cell hx
  have hbx := hx.lt
  have hby := hy.lt
  obtain ⟨xws, hX, hxr⟩ := hx
  have hnl := hxr.le
  obtain ⟨n0, hn0⟩ : ∃ n0, nw X = n0 := ⟨_, rfl⟩
  rw [hn0] at cx hxr hnl
  have HX := Lib.hid (And.intro hX hxr)
  have HY := Lib.hid hy
  have hYb := hy.bound
  have HYb := Lib.hid (And.intro hYb hYn)
  have hq0 : Wide ((w.alloc (.cells Tryz.zeroCells248 248)).alloc (.cells Tryz.zeroCells248 248)) w.heap.size false 0 := (Wide.zero0 w).below (RowKit.Below.alloc (RowKit.Below.refl _ _) (Nat.le_refl _) _)
  have hr0 : Wide ((w.alloc (.cells Tryz.zeroCells248 248)).alloc (.cells Tryz.zeroCells248 248)) (w.heap.size + 1) false 0 := by
    have := Wide.zero0 (w.alloc (.cells Tryz.zeroCells248 248))
    simpa using this
  have hb0 : Below w.heap.size w ((w.alloc (.cells Tryz.zeroCells248 248)).alloc (.cells Tryz.zeroCells248 248)) := RowKit.Below.alloc (RowKit.Below.alloc (RowKit.Below.refl _ _) (Nat.le_refl _) _) (by simp) _
  have HQ0 := Lib.hid (And.intro hq0 (And.intro hr0 hb0))
  clear hX hxr hy hq0 hr0 hb0 hYb hYn hn0
  go_enter Tryz.func142, Tryz.ntmps142
  go_wp2
  go_loopg [8] n0 (fun j iv wr => ∃ (R nq : Nat) (qws : List Nat), iv = .int .i64 ((j : Int) - 1) ∧ j ≤ n0 ∧ R < Y ∧ Wide wr (w.heap.size + 1) false R ∧ WideR wr w.heap.size false nq qws ∧ Below w.heap.size w wr ∧
    Hid (wv (qws.drop j) * Y + R = wv (xws.drop j) ∧ (∀ i (h : i < qws.length), i < j → qws[i] = 0)))
  case atStart =>
    obtain ⟨q1, q2, q3⟩ := HQ0.out
    obtain ⟨qws, hq1, hq2⟩ := q1
    have hz : wv (qws.drop n0) = 0 := by
      have : ZeroFrom qws 0 := by have := hq2.zero; rwa [nw_zero] at this
      exact drop_nw this n0 (by omega)
    refine ⟨0, _, qws, rfl, Nat.le_refl _, hY0, q2, hq2, q3, ?_, fun i h _ => ?_⟩
    · rw [hz, drop_nw HX.out.2.zero n0 (Nat.le_refl _)]; simp
    · have := hq2.zero i h (by rw [nw_zero]; omega); exact this
  case round =>
    obtain ⟨R, nq, qws, rfl, hj, hR, hrw, hqr, hbw, hinv⟩ := hrel
    rcases gk with _ | i
    · have h1 := hinv.out.1
      rw [List.drop_zero, List.drop_zero, HX.out.1] at h1
      have HF := Lib.hid (show X / Y = wv qws ∧ X % Y = R by
        rw [← h1, Nat.mul_comm]
        exact ⟨by rw [Nat.mul_add_div hY0, Nat.div_eq_of_lt hR]; omega, by rw [Nat.mul_add_mod, Nat.mod_eq_of_lt hR]⟩)
      have HQ := Lib.hid hqr
      clear hqr h1 hinv
      go_wp2_with (go_at_call 183; refine (trimmed_any _ _ _ _ _ HQ.out).mono ?_; rintro e w1 ⟨rfl, ht, ho⟩)
      go_ret2
      refine ⟨w.heap.size, w.heap.size + 1, Nat.le_refl _, Nat.le_succ _, by omega, rfl, ?_, ?_, hbw.trans (ho.below (Nat.le_refl _) hbw.size)⟩
      · rw [HF.out.1]; exact ht
      · rw [HF.out.2]; exact hrw.only ho (by omega)
    · have hz : ((i + 1 : Nat) : Int) - 1 = (i : Int) := by omega
      rw [hz]
      clear hz
      have hix : i < xws.length := by rw [HX.out.2.len]; omega
      have cxi : wr.cell? ⟨bx, 2 + i, none⟩ = some (.int .i64 (xws[i] : Int)) := (hbw.cell (by exact hbx)).trans (HX.out.2.row.cell (wc_w _ _ _ _ hix))
      have hxi := HX.out.2.small _ (List.getElem_mem hix)
      obtain ⟨rws, hr1, hr2⟩ := hrw
      have hRn : nw R ≤ 200 := Nat.le_trans (nw_le.2 (Nat.lt_trans hR (lt_nw Y))) HYb.out.2
      have crn := hr2.row.cell (wc_n false (nw R) rws)
      have hb1s := hbw.size
      obtain ⟨n, hnr⟩ : ∃ n, nw R = n := ⟨_, rfl⟩
      rw [hnr] at crn hr2 hRn
      have i2 : (n : Int) ≤ 232 := by omega
      have i3 : (0 : Int) ≤ (n : Int) := by omega
      have i4 : n ≤ 232 := by omega
      obtain ⟨wc, hcp, hrc, hoc⟩ := copy_up' (hr2.move (Row.drew hr2.row) : WideR wr.drew (w.heap.size + 1) false n rws) (by omega)
      have hup := up_words hr2.len hr2.small hr2.zero (by omega) (x := xws[i]) (by simp only [BB]; exact hxi)
      obtain ⟨u1, u2, u3, u4⟩ := hup
      rw [hr1] at u4
      have HR := Lib.hid hr2
      have hqr1 := hoc.row (Row.drew hqr.row) (by omega : w.heap.size ≠ w.heap.size + 1)
      have HQR := Lib.hid (And.intro hqr hqr1)
      have hbc : Below w.heap.size w wc := (RowKit.Below.drew hbw).trans (hoc.below (Nat.le_succ _) hbw.size)
      have cxc : wc.cell? ⟨bx, 2 + i, none⟩ = some (.int .i64 (xws[i] : Int)) := (hbc.cell (by exact hbx)).trans (HX.out.2.row.cell (wc_w _ _ _ _ hix))
      generalize hvs : rws.take 1 ++ rws.take n ++ rws.drop (n + 1) = vs at *
      have hvl : 0 < vs.length := by
        have := u1; rw [List.length_set] at this; omega
      have crc := hrc.cell (wc_n false n vs)
      have c0c := hrc.cell (wc_w false n vs 0 hvl)
      rw [Nat.add_zero] at c0c
      have f1c := hrc.free 1
      have f2c := hrc.free 2
      have hrd := hrc.set 2 (.int .i64 (xws[i] : Int))
      rw [show 2 = 2 + 0 from rfl, wc_setw] at hrd
      have hre := hrd.set 1 (.int .i64 ((n : Int) + 1))
      rw [wc_setn1] at hre
      have hxi0 : (i : Int) < 232 := by omega
      have HE := Lib.hid (And.intro hre (And.intro u1 (And.intro u2 (And.intro u3 u4))))
      have HH := Lib.hid (And.intro hvs hnr)
      clear hqr hr1 hr2 hrc hrd hre u1 u2 u3 u4 hvs hnr cxi hqr1
      go_wp2
      go_still_tail 12, (by kernel_rfl)
      change wpList _ _ _ _ _ wr.drew
      go_wp2
      go_still_tail 10, (by kernel_rfl)
      change wpList _ _ _ _ _ wc.drew
      go_wp2_with fail
      obtain ⟨W3, hW3⟩ : ∃ W3, W3 = ((wc.setCell ⟨w.heap.size + 1, 2, none⟩ (.int .i64 (xws[i] : Int))).setCell ⟨w.heap.size + 1, 1, none⟩ (.int .i64 ((n : Int) + 1))).drew := ⟨_, rfl⟩
      rw [← hW3]
      have hw3 : WideR W3 (w.heap.size + 1) false (n + 1) (vs.set 0 xws[i]) := by
        rw [hW3]
        exact ⟨Row.drew HE.out.1, HE.out.2.1, HE.out.2.2.1, HE.out.2.2.2.1, by omega⟩
      have ho3 : Only (w.heap.size + 1) wc W3 := by
        rw [hW3]
        exact Only.drewN (((Only.refl _ _).setCell 2 _).setCell 1 _) 1
      clear hW3 crn crc c0c f1c f2c cxc hcp
      refine (trimmed_any _ _ _ _ _ hw3).mono ?_
      rintro e w1 ⟨rfl, ht, ho1⟩
      rw [HE.out.2.2.2.2] at ht
      obtain ⟨S0, hS0⟩ : ∃ S0, S0 = xws[i] + BB * R := ⟨_, rfl⟩
      rw [← hS0] at ht
      have hoq := ho3.trans ho1
      have hb1 : Below w.heap.size w w1 := hbc.trans (hoq.below (Nat.le_succ _) hbc.size)
      have hq1 := (HQR.out.1.move' (hoq.row HQR.out.2 (by omega)) : WideR w1 w.heap.size false nq qws)
      have HQ1 := Lib.hid hq1
      have HS0 := Lib.hid hS0
      have hS0Y : S0 < BB * Y := by
        have h1 := Nat.mul_le_mul_left BB (Nat.succ_le_of_lt hR)
        rw [Nat.mul_succ] at h1
        have hxi' : xws[i] < 1000000000 := hxi
        simp only [BB] at h1 hS0 ⊢
        omega
      have HSY := Lib.hid hS0Y
      have hqs := hq1.row.lt
      clear hw3 ho3 ho1 hoq hq1 hS0 hS0Y hbc hoc HQR HE HR hR hbw
      go_wp2
      go_loopg [9] S0 (fun g dv wz => ∃ d : Nat, dv = .int .i64 (d : Int) ∧ Hid (g + d * Y = S0) ∧ d < 1000000000 ∧ Wide wz (w.heap.size + 1) false g ∧ Only (w.heap.size + 1) w1 wz)
      case atStart => exact ⟨0, rfl, (by omega : S0 + 0 * Y = S0), by omega, ht, Only.refl _ _⟩
      case round =>
        clear ht
        obtain ⟨d, rfl, hd, hdb, hrz, hoz⟩ := hrel
        have hbz : Below w.heap.size w wr := hb1.trans (hoz.below (Nat.le_succ _) hb1.size)
        have HB := Lib.hid (beyond_any (w.heap.size + 1) by_ false ny gk Y wr hrz (HY.out.below hbz))
        by_cases hlt : gk < Y
        · have hqz := (HQ1.out.move' (hoz.row HQ1.out.row (by omega)) : WideR wr w.heap.size false nq qws)
          have hiq : i < qws.length := by rw [hqz.len]; omega
          have cqi := hqz.row.cell (wc_w false nq qws i hiq)
          have cqn := hqz.row.cell (wc_n false nq qws)
          have fq1 := hqz.row.free 1
          have fqi := hqz.row.free (2 + i)
          have hnq := hqz.le
          have HQZ := Lib.hid hqz
          have HST := Lib.hid (div_step hiq hix hinv.out.1 HS0.out hd.out)
          have HLT := Lib.hid hlt
          clear hqz hlt hd
          go_wp2_with fail
          refine HB.out.mono ?_
          rintro e w2 ⟨v, hv, hvb, rfl, q, rfl⟩
          have hv0 : v < 0 := by
            rcases Int.lt_or_le v 0 with h | h
            · exact h
            · have := hv.1 h; have := HLT.out; omega
          clear hv
          go_wp2
          go_roundg i
          case measure => omega
          case rel =>
            have hp := (HQZ.out.move' (HQZ.out.row.drewN q) : WideR (wr.drewN q) w.heap.size false nq qws).put i (by omega) (d : Int) (max (nq : Int) ((i : Int) + 1)) (by omega) (by omega)
            have hoq := ((Only.refl w.heap.size (wr.drewN q)).setCell (2 + i) (.int .i64 (d : Int))).setCell 1 (.int .i64 (max (nq : Int) ((i : Int) + 1)))
            rw [Int.toNat_natCast] at hp
            refine ⟨gk, max nq (i + 1), qws.set i d, rfl, by omega, HLT.out, (Wide.drewN hrz q).only hoq (by omega), hp, (Below.drewN hbz q).trans (hoq.below (Nat.le_refl _) hbz.size), HST.out, fun j hj hji => ?_⟩
            rw [List.getElem_set_ne (by omega)]
            exact hinv.out.2 j (by simpa using hj) (by omega)
        · have hge : Y ≤ gk := by omega
          have HGE := Lib.hid hge
          have hxz := HY.out.below hbz
          have HYZ := Lib.hid hxz
          clear hlt hge hxz
          go_wp2_with fail
          refine HB.out.mono ?_
          rintro e w2 ⟨v, hv, hvb, rfl, q, rfl⟩
          have hv0 : 0 ≤ v := hv.2 HGE.out
          clear hv
          go_wp2_with fail
          refine (estimate_any (w.heap.size + 1) by_ false ny gk Y _ (Wide.drewN hrz q) (Wide.drewN HYZ.out q) hY0 HGE.out).mono ?_
          rintro e w2 ⟨k, hk1, hk2, hk3, rfl, q2, rfl⟩
          rw [drewN_two]
          generalize q + q2 = q3
          have hkY : k ≤ k * Y := Nat.le_mul_of_pos_right _ hY0
          have HC := Lib.hid (carry0 (w.heap.size + 1) by_ false ny gk Y (gk - k * Y) (-(k : Int)) (wr.drewN q3) (by omega) (Wide.drewN hrz q3) (Wide.drewN HYZ.out q3) (by omega) (by rw [Int.neg_mul, ← Int.natCast_mul]; omega) (by have := hrz.bound; omega))
          have hdk : d + k < 1000000000 := by
            have h1 := hd.out
            have h2 : (d + k) * Y ≤ S0 := by rw [Nat.add_mul]; omega
            have h3 : (d + k) * Y < 1000000000 * Y := by have := HSY.out; simp only [BB] at this; omega
            exact Nat.lt_of_mul_lt_mul_right h3
          have hmeas : gk - k * Y < gk := by omega
          have hd2 : Hid (gk - k * Y + (d + k) * Y = S0) := by
            show _ = _
            have h1 := hd.out
            rw [Nat.add_mul]; omega
          clear hk3 hkY hd
          generalize hT : gk - k * Y = T at *
          go_wp2_with fail
          refine HC.out.mono ?_
          rintro e w2 ⟨rfl, ht2, ho2⟩
          have ho5 := (Only.drewN hoz q3).trans ho2
          clear hT
          go_wp2
          go_roundg T
          case measure => exact hmeas
          case rel => exact ⟨d + k, by go_num, hd2, hdk, ht2, ho5⟩
end W
end Go.Proofs.YtellemlhhlafcaaGreatDoor
end
