/-
  Chapter 5: 'first' takes the first column that an iterator hands on.
  Chapter 5: 'climb' makes the goal as great as possible.
  Chapter 5: slices.Index of a basis; the row of the least right side; 'ready'.
  Chapter 5: 'ready' makes all right sides not negative.
  XBt's law where the region's first operation is a move that only the tail waits for ('out = append(out, f(..))'): it is taken first.
-/
import Derived.Test.YtnaikafamjebdaaGreatDoorKJL
import Derived.RangeFuncBox
import Derived.Test.YtnaikafamjebdaaGreatDoorKJJ
section
namespace Go.Proofs.YtnaikafamjebdaaGreatDoor
open Go Go.RowKit Go.Deep Go.Sort Go.Shelf
def bodyPostR (F : Fence) (n : Nat) (P : Program) (fn : Func) (R : Ending → World → Prop) : Exit → Act → World → Prop
  | .normal, a, w | .ret, a, w => LeavesInM F n P fn a.tmps R a.defers .returning w
  | .outgrown, _, w => R .outgrown w
  | _, _, _ => False
theorem bodyPostR_M {F : Fence} {n : Nat} {P : Program} {fn : Func} {R : Ending → World → Prop} : ∀ (e : Exit) (a : Act) (w : World), bodyPostR F n P fn R e a w → bodyPostM F n P fn R e a w := by
  intro e a w h
  cases e <;> first | exact h | exact h.elim
namespace W
open M
attribute [local go_sem] bs_size bs_toList bs_get bs_extract bs_append bs_lit0 bs_lit1 lit1_bs
attribute [local go_sem] Oper.semAt_some
attribute [local go_sem] wide_asked wide_fn
set_option maxHeartbeats 2000000
set_option maxRecDepth 100000
def firstV : Option Nat → Value
  | none => .tuple #[.int .i64 0, .bool false]
  | some c => .tuple #[.int .i64 (c : Int), .bool true]
section
variable {w : World} {B p S gr gb cr cb : Nat} {h : Nat → Nat} {n m : Nat} {A : Mx} {b : Nat → Nat}
theorem cols_stops (t : TabS w B p S gr gb cr cb h n m A b) (xt xb e fnn : Nat) (ban : Int) (hf1 : 1 ≤ fnn)
    (hxt : Pre w xt 115 [.pointer (some ⟨p, 0, none⟩)]) (hxb : Pre w xb 3 [.int .i64 ban])
    (hA : ∀ k, k ≤ wdt n m → Bq e (A m k)) (he : e ≤ 210) :
    SeqStopsK Fence.wide fnn Tryz.prog 163 #[.pointer (some ⟨xt, 0, none⟩), .pointer (some ⟨xb, 0, none⟩)] encC (Below w.heap.size)
      (fun xs => xs = colsL m A ban (wdt n m)) (fun pre => ∃ r, colsL m A ban (wdt n m) = pre ++ r) (wdt n m) w := fun l J Jx W hW hJ _ hY h0 =>
  cols1_in t xt xb e fnn l ban hf1 hxt hxb hA he J Jx hY W hW hJ h0
theorem pfirst (t : TabS w B p S gr gb cr cb h n m A b) (xt xb e : Nat) (ban : Int)
    (hxt : Pre w xt 115 [.pointer (some ⟨p, 0, none⟩)]) (hxb : Pre w xb 3 [.int .i64 ban])
    (hA : ∀ k, k ≤ wdt n m → Bq e (A m k)) (he : e ≤ 210) :
    Calls Tryz.prog 91 #[.func (.func 163) #[] #[.pointer (some ⟨xt, 0, none⟩), .pointer (some ⟨xb, 0, none⟩)]] w
      (Ret w (firstV (colsL m A ban (wdt n m)).head?)) := by
  have HSQ := Lib.hid (cols_stops t xt xb e 2 ban (by decide) hxt hxb hA he)
  have HB0 : Below w.heap.size w ((w.alloc (.cells #[.int .i64 0] 3 (0, 0))).alloc (.cells #[.bool false] 4 (0, 0))) := ((Below.refl _ _).alloc (Nat.le_refl _) _).alloc (by simp) _
  have bH : Boxed ((w.alloc (.cells #[.int .i64 0] 3 (0, 0))).alloc (.cells #[.bool false] 4 (0, 0))) w.heap.size 3 (.int .i64 0) := (Boxed.new w 3 (.int .i64 0)).alloc _
  have bN := Boxed.new (w.alloc (.cells #[.int .i64 0] 3 (0, 0))) 4 (.bool false)
  rw [World.size_alloc] at bN
  have hsz : ((w.alloc (.cells #[.int .i64 0] 3 (0, 0))).alloc (.cells #[.bool false] 4 (0, 0))).heap.size = w.heap.size + 2 := by simp
  generalize colsL m A ban (wdt n m) = cl at *
  clear t hxt hxb hA he
  refine (callsIn_wide (n := 3)).1 ?_
  refine callsIn_of_wp_marks Tryz.func91 rfl trivial ?_ rfl
  simp only [Tryz.ntmps91, List.size_toArray, List.length_cons, List.length_nil, Nat.reduceAdd, Nat.reduceSub, Array.replicate_succ, Array.replicate_zero, List.push_toArray, List.append_toArray, List.nil_append, List.cons_append]
  refine wpIn_wide.2 ?_
  refine Code.wp_mono bodyPostR_M ?_
  go_wp2
  obtain ⟨W0, hW0⟩ : ∃ W0, ((w.alloc (.cells #[.int .i64 0] 3 (0, 0))).alloc (.cells #[.bool false] 4 (0, 0))) = W0 := ⟨_, rfl⟩
  rw [hW0] at HB0 bH bN hsz ⊢
  clear hW0
  refine (wpIn_wide (n := 3)).1 ?_
  refine wpIn_rangeFunc_ownF (F := Fence.wide) (n := 3) (encs := encC) rfl (by decide) (gf := 163) (lb := #[.pointer (some ⟨xt, 0, none⟩), .pointer (some ⟨xb, 0, none⟩)]) rfl trivial (enters_of Tryz.func163 (by kernel_rfl) rfl)
    HSQ.out (fun h k => h.trans k) (belowK_b (by omega)) HB0 (fun _ => rfl)
    (fun s W => (fun (_ : List Nat) => s = []) s ∧ Boxed W w.heap.size 3 (.int .i64 0) ∧ Boxed W (w.heap.size + 1) 4 (.bool false) ∧ Below w.heap.size w W)
    (fun c s W => ∃ x, (s = [x] ∧ c = .ret) ∧ Boxed W w.heap.size 3 (.int .i64 (x : Int)) ∧ Boxed W (w.heap.size + 1) 4 (.bool true) ∧ Below w.heap.size w W)
    ?hI ?hIx ⟨rfl, bH, bN, HB0⟩ (fun c => { tmps := #[.func (.func 163) #[] #[.pointer (some ⟨xt, 0, none⟩), .pointer (some ⟨xb, 0, none⟩)], undef, .pointer (some ⟨w.heap.size, 0, none⟩), .pointer (some ⟨w.heap.size + 1, 0, none⟩), .int .i64 (c : Int), .func (.func 163) #[] #[.pointer (some ⟨xt, 0, none⟩), .pointer (some ⟨xb, 0, none⟩)], .int .i64 (c : Int), undef], defers := [] })
    ?assign ?body ?done ?stop
  case hI =>
    rintro s X Y row ⟨h1, h2, h3, h4⟩ hg hr
    exact ⟨h1, (boxed_own (β := Unit) _ _ (fun _ => .int .i64 0)) () X Y row h2 hg (fun r e => (hr r e).2), (boxed_own (β := Unit) _ _ (fun _ => .bool false)) () X Y row h3 hg (fun r e => (hr r e).2), ownFrom_below (β := Unit) (Nat.le_refl _) (by omega) () X Y row h4 hg hr⟩
  case hIx =>
    rintro c s X Y row ⟨x, h1, h2, h3, h4⟩ hg hr
    exact ⟨x, h1, (boxed_own (β := Unit) _ _ (fun _ => .int .i64 (x : Int))) () X Y row h2 hg (fun r e => (hr r e).2), (boxed_own (β := Unit) _ _ (fun _ => .bool true)) () X Y row h3 hg (fun r e => (hr r e).2), ownFrom_below (β := Unit) (Nat.le_refl _) (by omega) () X Y row h4 hg hr⟩
  case assign =>
    rintro l x W K hK
    dsimp only [encC]
    gi_wp2
    exact hK
  case body =>
    rintro l pre x W ⟨rfl, b1, b2, hb⟩ hlt
    have c1 := b1.cell
    have c2 := b2.cell
    have f1 := b1.frozen
    have f2 := b2.frozen
    gi_wp2
    exact ⟨(KeepsOthers.setCell _ _ _).trans (KeepsOthers.setCell _ _ _), x, ⟨rfl, rfl⟩, (b1.set _).other (by omega) _, (b2.other (by omega) _).set _, (hb.setCell (p := ⟨w.heap.size, 0, none⟩) (Nat.le_refl _) _).setCell (p := ⟨w.heap.size + 1, 0, none⟩) (by show _ ≤ w.heap.size + 1; omega) _⟩
  case done =>
    rintro D xs W hD hS ⟨rfl, b1, b2, hb⟩ hK
    have c1 := b1.cell
    have c2 := b2.cell
    have f1 := b1.frozen
    have f2 := b2.frozen
    go_wp2
    have hK2 : ((W.setCell ⟨w.heap.size, 0, none⟩ (.int .i64 0)).setCell ⟨w.heap.size + 1, 0, none⟩ (.bool false)).heap[D]? = some (.deferred (some [])) :=
      (Below.heap_setCell _ _ _ D (by show D ≠ w.heap.size + 1; omega)).trans ((Below.heap_setCell _ _ _ D (by show D ≠ w.heap.size; omega)).trans hK)
    have d1 := ((b1.set (.int .i64 0)).other (B' := w.heap.size + 1) (by omega) (.bool false)).kept (grownBy_putObj' _ D (.deferred none)) (by intro e; cases e; omega)
    have d2 := ((b2.other (B' := w.heap.size) (by omega) (.int .i64 0)).set (.bool false)).kept (grownBy_putObj' _ D (.deferred none)) (by intro e; cases e; omega)
    have q0 := d1.cell
    have q1 := d2.cell
    refine ⟨by simp, .inl ⟨_, _, rfl, run_takeDeferred hK2, ?_⟩⟩
    refine ⟨.tuple #[.int .i64 0, .bool false], by simp [results, Tryz.results91, go_sem, q0, q1], by rw [← hS]; rfl, ?_⟩
    exact belowK_b (w := w) (Nat.le_refl _) _ D _ _ (by omega) hK2 rfl rfl |> fun hx => ((hb.setCell (p := ⟨w.heap.size, 0, none⟩) (Nat.le_refl _) _).setCell (p := ⟨w.heap.size + 1, 0, none⟩) (by show _ ≤ w.heap.size + 1; omega) _).trans hx
  case stop =>
    rintro D c pre W hD ⟨r, hr⟩ ⟨x, ⟨rfl, rfl⟩, b1, b2, hb⟩ hK
    have c1 := b1.cell
    have c2 := b2.cell
    gi_wp2
    have d1 := b1.kept (grownBy_putObj' _ D (.deferred none)) (by intro e; cases e; omega)
    have d2 := b2.kept (grownBy_putObj' _ D (.deferred none)) (by intro e; cases e; omega)
    have q0 := d1.cell
    have q1 := d2.cell
    refine ⟨by simp, .inl ⟨_, _, rfl, run_takeDeferred hK, ?_⟩⟩
    refine ⟨.tuple #[.int .i64 (x : Int), .bool true], by simp [results, Tryz.results91, go_sem, q0, q1], by rw [hr]; rfl, ?_⟩
    exact hb.trans (belowK_b (w := w) (Nat.le_refl _) _ D _ _ (by omega) hK rfl rfl)
end
end W
end Go.Proofs.YtnaikafamjebdaaGreatDoor
end
section
namespace Go.Proofs.YtnaikafamjebdaaGreatDoor
open Go Go.RowKit Go.Deep Go.Sort Go.Shelf
namespace M
theorem climbT_succ {ez n m k : Nat} {ban : Option Nat} {T : Tbl} {r : Bool × Tbl} (h : climbT ez n m ban (k + 1) T = some r) :
    smallT ez n m T = true ∧ ((colT n m T.A ban = none ∧ r = (true, T)) ∨ ∃ c, colT n m T.A ban = some c ∧ ((leaveT n m T.A T.b c = none ∧ r = (false, T)) ∨ ∃ q, leaveT n m T.A T.b c = some q ∧ climbT ez n m ban k (pivT n m T q c) = some r)) := by
  unfold climbT at h
  by_cases hs : smallT ez n m T = false
  · rw [if_pos hs] at h; cases h
  · rw [if_neg hs] at h
    refine ⟨by simpa using hs, ?_⟩
    cases hc : colT n m T.A ban with
    | none => rw [hc] at h; exact .inl ⟨rfl, (Option.some.inj h).symm⟩
    | some c =>
      rw [hc] at h
      refine .inr ⟨c, rfl, ?_⟩
      simp only at h
      cases hl : leaveT n m T.A T.b c with
      | none => rw [hl] at h; exact .inl ⟨rfl, (Option.some.inj h).symm⟩
      | some q => rw [hl] at h; exact .inr ⟨q, rfl, h⟩
theorem colT_head (n m : Nat) (A : Mx) (ban : Option Nat) : (colsL m A (plV ban) (wdt n m)).head? = colT n m A ban := by
  unfold colsL colT
  rw [List.head?_filter]
  congr 1
  funext c
  unfold colP
  congr 1
  rw [decide_eq_decide]
  cases ban with
  | none => simp [plV]
  | some k => simp [plV]; omega
theorem colT_lt {n m c : Nat} {A : Mx} {ban : Option Nat} (h : colT n m A ban = some c) : c < wdt n m := List.mem_range.1 (List.mem_of_find?_eq_some h)
end M
theorem TabS.piv {w : World} {B p S gr gb cr cb : Nat} {h : Nat → Nat} {n m : Nat} {A : M.Mx} {b : Nat → Nat} (t : TabS w B p S gr gb cr cb h n m A b) :
    TabS w B p S gr gb cr cb h n m (M.tab n m A b).A (M.tab n m A b).b :=
  t.congr (fun _ hj _ hk => (M.tab_A A b hj hk).symm) (fun _ hi => (M.tab_b A b hi).symm)
namespace W
open M
attribute [local go_sem] bs_size bs_toList bs_get bs_extract bs_append bs_lit0 bs_lit1 lit1_bs
set_option maxHeartbeats 2000000
set_option maxRecDepth 20000
section
variable {w : World} {B p S gr gb cr cb : Nat} {h : Nat → Nat} {n m : Nat}
theorem pclimb (ez f : Nat) (hez : ez ≤ 210) (hez1 : 1 ≤ ez) (T T' : Tbl) (ok : Bool) (ban : Option Nat) (hr : climbT ez n m ban f T = some (ok, T')) (t : TabS w B p S gr gb cr cb h n m T.A T.b) :
    Calls Tryz.prog 90 #[.pointer (some ⟨p, 0, none⟩), .func (.func 91) #[] #[], .int .i64 (plV ban)] w fun e w' =>
      e = .returned (.bool ok) ∧ (smallT ez n m T' = true ∧ TabS w' B p S gr gb cr cb h n m T'.A T'.b) ∧ Below B w w' := by
  have HT0 : Hid (TabS w B p S gr gb cr cb h n m T.A T.b ∧ Below B w w) := Lib.hid ⟨t, Below.refl _ _⟩
  have HR := Lib.hid hr
  obtain ⟨bv, hbv⟩ : ∃ bv, bv = plV ban := ⟨_, rfl⟩
  rw [← hbv]
  have HBV := Lib.hid hbv
  clear t hr hbv
  go_enter Tryz.func90, Tryz.ntmps90
  go_wp2_with fail
  go_loopg [] f (fun k wr => ∃ T1 : Tbl, Hid (climbT ez n m ban k T1 = some (ok, T')) ∧ Hid (TabS wr B p S gr gb cr cb h n m T1.A T1.b ∧ Below B w wr))
  case atStart => exact ⟨T, HR, HT0⟩
  case round =>
    clear HR HT0
    obtain ⟨T1, hr, hin⟩ := hrel
    cases gk with
    | zero => exact absurd hr.out (by unfold climbT; simp)
    | succ k =>
      obtain ⟨hsm, hcase⟩ := climbT_succ hr.out
      have hA : ∀ j, j ≤ m → ∀ k, k ≤ wdt n m → Bq ez (T1.A j k) := fun j hj k hk => smallT_bq hsm hj hk
      have c0 := hin.out.1.c0
      have e0 := hin.out.1.err.cell
      have hbB : Below wr.heap.size wr ((wr.alloc (.cells #[.pointer (some ⟨p, 0, none⟩)] 115 (0, 0))).alloc (.cells #[.int .i64 bv] 3 (0, 0))) := ((Below.refl _ _).alloc (Nat.le_refl _) _).alloc (by simp) _
      have p0 : Pre ((wr.alloc (.cells #[.pointer (some ⟨p, 0, none⟩)] 115 (0, 0))).alloc (.cells #[.int .i64 bv] 3 (0, 0))) wr.heap.size 115 [.pointer (some ⟨p, 0, none⟩)] :=
        (Pre.of (Row.new wr 115 [.pointer (some ⟨p, 0, none⟩)])).alloc _
      have p1 : Pre ((wr.alloc (.cells #[.pointer (some ⟨p, 0, none⟩)] 115 (0, 0))).alloc (.cells #[.int .i64 bv] 3 (0, 0))) (wr.heap.size + 1) 3 [.int .i64 bv] := by
        have := Pre.of (Row.new (wr.alloc (.cells #[.pointer (some ⟨p, 0, none⟩)] 115 (0, 0))) 3 [.int .i64 bv])
        rwa [World.size_alloc] at this
      have HF := Lib.hid (pfirst (hin.out.1.below' hbB) wr.heap.size (wr.heap.size + 1) ez bv p0 p1 (hA m (Nat.le_refl _)) hez)
      have HTB : Hid (TabS ((wr.alloc (.cells #[.pointer (some ⟨p, 0, none⟩)] 115 (0, 0))).alloc (.cells #[.int .i64 bv] 3 (0, 0))) B p S gr gb cr cb h n m T1.A T1.b ∧ Below B w ((wr.alloc (.cells #[.pointer (some ⟨p, 0, none⟩)] 115 (0, 0))).alloc (.cells #[.int .i64 bv] 3 (0, 0)))) :=
        Lib.hid ⟨hin.out.1.below' hbB, hin.out.2.trans (hbB.mono (TabS.size hin.out.1))⟩
      rw [HBV.out, colT_head, ← HBV.out] at HF
      have HAA := Lib.hid hA
      have HSM := Lib.hid hsm
      clear hin hbB p0 p1 hA hsm hr
      go_wp2_with fail
      refine (columns_ok bv wr).mono ?_
      rintro e w1 ⟨rfl, rfl⟩
      obtain ⟨W1, hW1⟩ : ∃ W1, W1 = ((wr.alloc (.cells #[.pointer (some ⟨p, 0, none⟩)] 115 (0, 0))).alloc (.cells #[.int .i64 bv] 3 (0, 0))) := ⟨_, rfl⟩
      rw [← hW1] at HF HTB ⊢
      clear c0 e0
      obtain ⟨x0, hx0⟩ : ∃ x0, x0 = wr.heap.size := ⟨_, rfl⟩
      rw [← hx0] at HF ⊢
      clear hW1 hx0
      rcases hcase with ⟨hc, hres⟩ | ⟨c, hc, hcase⟩
      · obtain ⟨rfl, rfl⟩ := Prod.mk.inj hres
        rw [hc] at HF
        clear hc hres HBV
        go_wp2_with fail
        refine (HF.out).mono ?_
        rintro e wa ⟨rfl, hba⟩
        have HX := Lib.hid (And.intro (HTB.out.1.below' hba) (HTB.out.2.trans (hba.mono (TabS.size HTB.out.1))))
        clear hba
        dsimp only [firstV]
        go_wp2
        go_ret
        exact ⟨rfl, ⟨HSM.out, HX.out.1⟩, HX.out.2⟩
      · rw [hc] at HF
        have hcw := colT_lt hc
        clear hc HBV
        go_wp2_with fail
        refine (HF.out).mono ?_
        rintro e wa ⟨rfl, hba⟩
        have HX := Lib.hid (And.intro (HTB.out.1.below' hba) (HTB.out.2.trans (hba.mono (TabS.size HTB.out.1))))
        have HL := Lib.hid (pleaving HX.out.1 c ez hcw HAA.out hez hez1)
        clear hba HTB HF
        dsimp only [firstV]
        rcases hcase with ⟨hl, hres⟩ | ⟨q, hl, hres⟩
        · obtain ⟨rfl, rfl⟩ := Prod.mk.inj hres
          rw [hl] at HL
          have HL2 : Hid (Calls Tryz.prog 128 #[.pointer (some ⟨p, 0, none⟩), .int .i64 (c : Int)] wa (Ret wa (.int .i64 (-1)))) := HL
          clear hl hres HL
          go_wp2_with fail
          refine (HL2.out).mono ?_
          rintro e wb ⟨rfl, hbb⟩
          have HY := Lib.hid (And.intro (HX.out.1.below' hbb) (HX.out.2.trans (hbb.mono (TabS.size HX.out.1))))
          clear hbb HX
          go_wp2
          go_ret
          exact ⟨rfl, ⟨HSM.out, HY.out.1⟩, HY.out.2⟩
        · rw [hl] at HL
          have hq := leaveT_some hl
          have HL2 : Hid (Calls Tryz.prog 128 #[.pointer (some ⟨p, 0, none⟩), .int .i64 (c : Int)] wa (Ret wa (.int .i64 (q : Int)))) := HL
          have HRS := Lib.hid hres
          clear hl hres HL
          go_wp2_with fail
          refine (HL2.out).mono ?_
          rintro e wb ⟨rfl, hbb⟩
          have HY := Lib.hid (And.intro (HX.out.1.below' hbb) (HX.out.2.trans (hbb.mono (TabS.size HX.out.1))))
          have HPV := Lib.hid (ppivot HY.out.1 q c ez hq.1 hcw HAA.out hez (by have := hq.2; grind))
          have hqn : ¬ ((q : Int) < 0) := by omega
          clear hbb HX HL2 hq
          go_wp2_with fail
          refine HPV.out.mono ?_
          rintro e wc ⟨rfl, hT, hbc⟩
          have HZ : Hid (TabS wc B p S gr gb cr cb h n m (pivT n m T1 q c).A (pivT n m T1 q c).b ∧ Below B w wc) := Lib.hid ⟨hT.piv, HY.out.2.trans hbc⟩
          clear hT hbc HY HPV
          go_wp2
          go_roundg k
          case measure => omega
          case rel => exact ⟨_, HRS, HZ⟩
end
end W
end Go.Proofs.YtnaikafamjebdaaGreatDoor
end
section
namespace Go.Proofs.YtnaikafamjebdaaGreatDoor
open Go Go.RowKit Go.Deep Go.Sort Go.Shelf
namespace M
theorem find_hit {p : Nat → Bool} {i m : Nat} (h : ∀ j, j < i → p j = false) (hi : i < m) (hp : p i = true) : (List.range m).find? p = some i := by
  obtain ⟨d, rfl⟩ := Nat.exists_eq_add_of_le (show i + 1 ≤ m by omega)
  rw [List.range_add, List.find?_append, List.range_succ, List.find?_append, List.find?_eq_none.2 (fun x hx => by rw [h x (List.mem_range.1 hx)]; decide)]
  simp [hp]
theorem find_miss {p : Nat → Bool} {m : Nat} (h : ∀ j, j < m → p j = false) : (List.range m).find? p = none :=
  List.find?_eq_none.2 fun x hx => by rw [h x (List.mem_range.1 hx)]; decide
theorem wsOne_none (A : Mx) (wd i : Nat) : wsOne A wd i none = if 0 ≤ A i wd then none else some i := rfl
theorem wsOne_some (A : Mx) (wd i k : Nat) : wsOne A wd i (some k) = if 0 ≤ A i wd then some k else if A k wd ≤ A i wd then some k else some i := rfl
theorem wsS_succ (A : Mx) (wd i : Nat) : wsS A wd (i + 1) = wsOne A wd i (wsS A wd i) := rfl
theorem wsS_lt (A : Mx) (wd : Nat) : ∀ i k, wsS A wd i = some k → k < i
  | 0, k, h => by cases h
  | i + 1, k, h => by
    rw [wsS_succ] at h
    cases hs : wsS A wd i with
    | none =>
      rw [hs, wsOne_none] at h
      by_cases h1 : 0 ≤ A i wd
      · rw [if_pos h1] at h; cases h
      · rw [if_neg h1] at h; have := Option.some.inj h; omega
    | some q =>
      have ih := wsS_lt A wd i q hs
      rw [hs, wsOne_some] at h
      by_cases h1 : 0 ≤ A i wd
      · rw [if_pos h1] at h; have := Option.some.inj h; omega
      · rw [if_neg h1] at h
        by_cases h2 : A q wd ≤ A i wd
        · rw [if_pos h2] at h; have := Option.some.inj h; omega
        · rw [if_neg h2] at h; have := Option.some.inj h; omega
end M
namespace W
open M
attribute [local go_sem] bs_size bs_toList bs_get bs_extract bs_append bs_lit0 bs_lit1 lit1_bs
set_option maxHeartbeats 2000000
set_option maxRecDepth 20000
section
variable {w : World} {B p S gr gb cr cb : Nat} {h : Nat → Nat} {n m : Nat} {A : Mx} {b : Nat → Nat}
theorem pindex (t : TabS w B p S gr gb cr cb h n m A b) (v : Nat) :
    Calls Tryz.prog 102 #[.slice (some ⟨gb, 0, none⟩) m cb, .int .i64 (v : Int)] w (Ret w (.int .i64 (plV ((List.range m).find? fun i => decide (b i = v))))) := by
  have HB := Lib.hid (fun i (hi : i < m) => t.cbas hi)
  have hms := t.hm
  obtain ⟨rv, hrv⟩ : ∃ rv, rv = plV ((List.range m).find? fun i => decide (b i = v)) := ⟨_, rfl⟩
  rw [← hrv]
  have HRV := Lib.hid hrv
  clear t hrv
  go_enter Tryz.func102, Tryz.ntmps102
  go_wp2
  go_loopw [8] (fun iv wr => ∃ i : Nat, iv = .int .i64 (i : Int) ∧ i ≤ m ∧ Hid (∀ j, j < i → decide (b j = v) = false) ∧ wr = w) (fun iv _ => m - (intOf iv).toNat)
  case atStart => exact ⟨0, rfl, by omega, Lib.hid (fun j hj => by omega), rfl⟩
  case round =>
    obtain ⟨i, rfl, hi, hno, rfl⟩ := hrel
    by_cases hlt : i < m
    · have c1 := HB.out i hlt
      have hi0 : (0 : Int) ≤ (i : Int) := by omega
      have his : (i : Int) < (m : Int) := by omega
      by_cases hv : b i = v
      · have HE : Hid (rv = (i : Int)) := Lib.hid (by rw [HRV.out, find_hit hno.out hlt (decide_eq_true hv)]; rfl)
        subst hv
        clear HRV hno HB
        go_wp2
        go_ret
        exact Ret.of (by rw [HE.out]; rfl) (Below.refl _ _)
      · have hvd : ((v : Int) == (b i : Int)) = false := by rw [beq_eq_false_iff_ne]; omega
        have hvd2 : ¬ ((v : Int) = (b i : Int)) := by omega
        have HN : Hid (∀ j, j < i + 1 → decide (b j = v) = false) := Lib.hid (fun j hj => by
          by_cases e : j = i
          · subst e; exact decide_eq_false hv
          · exact hno.out j (by omega))
        clear hno hv
        go_wp2
        go_roundw
        case rel => exact ⟨i + 1, by go_num, hlt, HN, trivial⟩
        case measure => simp [intOf]; omega
    · obtain rfl : m = i := by omega
      have HE : Hid (rv = -1) := Lib.hid (by rw [HRV.out, find_miss hno.out]; rfl)
      clear HRV hno
      go_wp2
      go_ret
      exact Ret.of (by rw [HE.out]; rfl) (Below.refl _ _)
end
end W
end Go.Proofs.YtnaikafamjebdaaGreatDoor
end
section
namespace Go.Proofs.YtnaikafamjebdaaGreatDoor
open Go Go.RowKit Go.Deep Go.Sort Go.Shelf
namespace M
theorem outT_none {n m : Nat} {T : Tbl} (h : (List.range m).find? (fun i => decide (T.b i = wdt n m - 1)) = none) : outT n m T = T := by unfold outT; rw [h]
theorem outT_some {n m r : Nat} {T : Tbl} (h : (List.range m).find? (fun i => decide (T.b i = wdt n m - 1)) = some r) :
    outT n m T = match (List.range (wdt n m - 1)).find? fun c => decide (T.A r c ≠ 0) with | none => T | some c => pivT n m T r c := by
  unfold outT
  simp only [h]
  cases (List.range (wdt n m - 1)).find? fun c => decide (T.A r c ≠ 0) <;> rfl
theorem piv_bq {n m r c e : Nat} {T : Tbl} (hr : r ≤ m) (hc : c ≤ wdt n m) (h0 : T.A r c ≠ 0) (hA : ∀ j, j ≤ m → ∀ k, k ≤ wdt n m → Bq e (T.A j k)) {j k : Nat} (hj : j ≤ m) (hk : k ≤ wdt n m) :
    Bq (4 * e + 1) ((pivT n m T r c).A j k) := by
  unfold pivT
  rw [tab_A _ _ hj hk]
  unfold pivA
  have hq := Bq.div (hA r hr k hk) (hA r hr c hc) h0
  split
  · exact hq.mono (by omega)
  · exact ((hA j hj k hk).sub ((hA j hj c hc).mul hq)).mono (by omega)
theorem readyC_some {ez n m f : Nat} {T : Tbl} {r : Bool × Tbl} (h : readyC ez n m f T = some r) :
    smallT ez n m T = true ∧ ((wsS T.A (wdt n m) m = none ∧ r = (true, T)) ∨ ∃ q, wsS T.A (wdt n m) m = some q ∧ T.A q (wdt n m - 1) ≠ 0 ∧
      ∃ ok T1, climbT ez n m none f (tab n m (pivA (upd T.A m (upd (T.A m) (wdt n m - 1) (-1))) q (wdt n m - 1)) (upd T.b q (wdt n m - 1))) = some (ok, T1) ∧
        ((T1.A m (wdt n m) ≠ 0 ∧ r = (false, T1)) ∨ (T1.A m (wdt n m) = 0 ∧ r = (true, outT n m T1)))) := by
  unfold readyC at h
  by_cases hs : smallT ez n m T = false
  · rw [if_pos hs] at h; cases h
  · rw [if_neg hs] at h
    refine ⟨by simpa using hs, ?_⟩
    cases hw : wsS T.A (wdt n m) m with
    | none => rw [hw] at h; exact .inl ⟨rfl, (Option.some.inj h).symm⟩
    | some q =>
      rw [hw] at h
      simp only at h
      by_cases h0 : T.A q (wdt n m - 1) = 0
      · rw [if_pos h0] at h; cases h
      · rw [if_neg h0] at h
        refine .inr ⟨q, rfl, h0, ?_⟩
        cases hc : climbT ez n m none f (tab n m (pivA (upd T.A m (upd (T.A m) (wdt n m - 1) (-1))) q (wdt n m - 1)) (upd T.b q (wdt n m - 1))) with
        | none => rw [hc] at h; cases h
        | some s =>
          obtain ⟨ok, T1⟩ := s
          rw [hc] at h
          simp only at h
          refine ⟨ok, T1, rfl, ?_⟩
          by_cases h1 : T1.A m (wdt n m) ≠ 0
          · rw [if_pos h1] at h; exact .inl ⟨h1, (Option.some.inj h).symm⟩
          · rw [if_neg h1] at h; exact .inr ⟨by simpa using h1, (Option.some.inj h).symm⟩
end M
namespace W
open M
attribute [local go_sem] bs_size bs_toList bs_get bs_extract bs_append bs_lit0 bs_lit1 lit1_bs
set_option maxHeartbeats 4000000
set_option maxRecDepth 20000
theorem R_neg1 : R (-1) = [45, 49] := by
  have e : (((-1 : Int) : Rat)) = -1 := rfl
  rw [← e, W.R_int]
  have h := I_one
  unfold I Lib.itoa at h ⊢
  rw [if_neg (by decide)] at h
  rw [if_pos (by decide)]
  exact congrArg (45 :: ·) h
theorem Bq_neg1 : Bq 1 (-1) := by unfold Bq; decide +kernel
theorem sign_nonneg {q : Rat} : 0 ≤ Int.sign q.num ↔ 0 ≤ q := by
  rw [← Int.not_lt, Int.sign_neg_iff, Int.not_lt, Rat.num_nonneg]
section
variable {w : World} {B p S gr gb cr cb : Nat} {h : Nat → Nat} {n m : Nat}
theorem preadyC (ez f : Nat) (hez : ez ≤ 210) (hez1 : 1 ≤ ez) (T T' : Tbl) (ok : Bool) (hr : readyC ez n m f T = some (ok, T')) (t : TabS w B p S gr gb cr cb h n m T.A T.b) :
    Calls Tryz.prog 56 #[.pointer (some ⟨p, 0, none⟩)] w fun e w' =>
      e = .returned (.bool ok) ∧ ((∀ j, j ≤ m → ∀ k, k ≤ wdt n m → Bq (4 * ez + 1) (T'.A j k)) ∧ TabS w' B p S gr gb cr cb h n m T'.A T'.b) ∧ Below B w w' := by
  obtain ⟨hsm, hcase⟩ := readyC_some hr
  have hA : ∀ j, j ≤ m → ∀ k, k ≤ wdt n m → Bq ez (T.A j k) := fun j hj k hk => smallT_bq hsm hj hk
  obtain ⟨L, hL⟩ : ∃ L, L = wdt n m + 1 := ⟨_, rfl⟩
  obtain ⟨D, hD⟩ : ∃ D, D = wdt n m := ⟨_, rfl⟩
  have hLs : L ≤ 100000 := by have := t.hn; have := t.hm; rw [hL]; unfold wdt; omega
  have hms := t.hm
  have HB := Lib.hid (TabS.size t)
  have HT := Lib.hid (fun W (hW : Below w.heap.size w W) => t.below' hW)
  have HAA := Lib.hid hA
  have HLT := Lib.hid (fun i k (h : wsS T.A D i = some k) => wsS_lt T.A D i k h)
  have HLQ := Lib.hid (fun k (h : wsS T.A D m = some k) => wsS_lt T.A D m k h)
  have HC := Lib.hid (fun W i (hi : i < m) (hW : Below w.heap.size w W) => (by
    have hT := t.below' hW
    have e2 := hT.ce (show i ≤ m by omega) (Nat.le_refl (wdt n m))
    have e3 := hT.crow hi
    rw [← hL] at e3
    rw [← hD] at e2
    exact ⟨hT.c0, hT.c3, e3, e2⟩ : W.cell? ⟨p, 0, none⟩ = some (.pointer (some ⟨S, 0, none⟩)) ∧ W.cell? ⟨p, 3, none⟩ = some (.slice (some ⟨gr, 0, none⟩) m cr) ∧ W.cell? ⟨gr, i, none⟩ = some (.slice (some ⟨h i, 0, none⟩) L L) ∧ W.cell? ⟨h i, D, none⟩ = some (.string (bs (R (T.A i D))))))
  have HSG := Lib.hid (fun W i (hi : i < m) (hW : Below w.heap.size w W) => pssign S (T.A i D) ez W ((t.below' hW).gl) ((t.below' hW).err) (by rw [hD]; exact hA i (by omega) _ (Nat.le_refl _)) (by omega))
  have HWD := Lib.hid (fun W (hW : Below w.heap.size w W) => pwidth (t.below' hW))
  have HCM := Lib.hid (fun W i k (hi : i < m) (hk : k < m) (hW : Below w.heap.size w W) => ratCompare (T.A i D) (T.A k D) ez ez W ((t.below' hW).gl) (by rw [hD]; exact hA i (by omega) _ (Nat.le_refl _)) (by rw [hD]; exact hA k (by omega) _ (Nat.le_refl _)) (by omega))
  rw [← hD] at HWD hcase ⊢
  have c3 := t.c3
  have hd0 : (0 : Int) ≤ (D : Int) := by omega
  have hdL : (D : Int) < (L : Int) := by omega
  have hd1 : 1 ≤ D := by rw [hD]; unfold wdt; omega
  obtain ⟨d, hd⟩ : ∃ d, D = d + 1 := ⟨D - 1, by omega⟩
  have hdd : D - 1 = d := by omega
  rw [hdd] at hcase
  have hw1 : IntKind.i64.wrap ((D : Int) - 1) = (d : Int) := by rw [IntWalk.i64_in _ (by omega)]; omega
  have HDD := Lib.hid hd
  have hdn0 : (0 : Int) ≤ (d : Int) := by omega
  have hdnL : (d : Int) < (L : Int) := by omega
  have hdl : d ≤ wdt n m := by omega
  have hdw : d < wdt n m := by omega
  have HDE : Hid (D = wdt n m ∧ L = wdt n m + 1) := Lib.hid ⟨hD, hL⟩
  have HW1 := Lib.hid (HWD.out w (Below.refl _ _))
  clear t hA hL hr hd hdd hD
  go_enter Tryz.func56, Tryz.ntmps56
  go_wp2_with fail
  refine (HW1.out).mono ?_
  rintro e wa ⟨rfl, hba⟩
  have HBA := Lib.hid hba
  have c3 := (HT.out wa hba).c3
  clear hba HW1
  go_wp2_with fail
  go_loopw [4, 19] (fun bv iv wr => ∃ (i : Nat) (o : Option Nat) (z : Int), iv = .int .i64 (i : Int) ∧ i ≤ m ∧ bv = .int .i64 z ∧ Hid (z = plV o) ∧ Hid (wsS T.A D i = o) ∧ Hid (Below w.heap.size w wr)) (fun _ iv _ => m - (intOf iv).toNat)
  case atStart => exact ⟨0, none, -1, rfl, by omega, rfl, Lib.hid rfl, Lib.hid rfl, HBA⟩
  case round =>
    clear HBA
    obtain ⟨i, o, z, rfl, hi, rfl, hz, hs, hbw⟩ := hrel
    by_cases hlt : i < m
    · obtain ⟨c0, c3, c5, c7⟩ := HC.out wr i hlt hbw.out
      have hi0 : (0 : Int) ≤ (i : Int) := by omega
      have his : (i : Int) < (m : Int) := by omega
      have HSN := Lib.hid (wsS_succ T.A D i)
      rw [hs.out] at HSN
      have k1 := reg_of (w := wr) (fun W hW => HWD.out W (bel_to hbw.out hW))
      have k2 := reg_of (w := wr) (fun W hW => HSG.out W i hlt (bel_to hbw.out hW))
      have m0 := cell_regrown c0
      have m7 := cell_regrown c7
      have e1 : ∀ args w, (callFunc 92 args).run Tryz.prog w = .ok (.enter 92 args) w := enters_of Tryz.func92 (by kernel_rfl) rfl
      have e2 : ∀ args w, (callFunc 100 args).run Tryz.prog w = .ok (.enter 100 args) w := enters_of Tryz.func100 (by kernel_rfl) rfl
      have HSD := Lib.hid (sign_nonneg (q := T.A i D))
      clear c0 c7
      generalize Int.sign (T.A i D).num = sg at *
      go_wp2_with fail
      refine wp_region_quiet_below (by kernel_rfl) (by kernel_rfl) ?_
      repeat (go_big_quiet_step (fail))
      go_big_quiet_step (exact k1 _ _)
      repeat (go_big_quiet_step (fail))
      go_big_quiet_step (exact k2 _ _)
      repeat (go_big_quiet_step (fail))
      refine wpQuiet_nil ?_
      intro W6 hw'
      have hb6 : Below wr.heap.size wr W6 := by obtain ⟨p, e⟩ := hw'; rw [e]; exact below_regrown wr p.d p.os
      clear hw'
      have HB6 := Lib.hid (bel_to hbw.out hb6)
      clear k1 k2 m0 m7 e1 e2 hb6 c5 c3
      by_cases hge : 0 ≤ sg
      · have hgq := HSD.out.1 hge
        have HN : Hid (wsS T.A D (i + 1) = o) := Lib.hid (by
          rw [HSN.out]
          cases o with
          | none => rw [wsOne_none, if_pos hgq]
          | some k => rw [wsOne_some, if_pos hgq])
        clear HSN hgq HSD
        go_wp2
        go_roundw
        case rel => exact ⟨i + 1, o, z, by go_num, hlt, rfl, hz, HN, HB6⟩
        case measure => simp [intOf]; omega
      · have hgq : ¬ 0 ≤ T.A i D := fun e => hge (HSD.out.2 e)
        cases o with
        | none =>
          have hz2 : z = -1 := hz.out
          have hzd : ¬ (0 ≤ z) := by omega
          have HN : Hid (wsS T.A D (i + 1) = some i) := Lib.hid (by rw [HSN.out, wsOne_none, if_neg hgq])
          clear HSN hgq HSD hz2
          go_wp2
          go_roundw
          case rel => exact ⟨i + 1, some i, _, by go_num, hlt, rfl, Lib.hid rfl, HN, HB6⟩
          case measure => simp [intOf]; omega
        | some k =>
          have hz2 : z = (k : Int) := hz.out
          have hkm : k < m := by have := HLT.out i k hs.out; omega
          obtain ⟨c0, c3, c5, c7⟩ := HC.out W6 i hlt HB6.out
          obtain ⟨_, _, d5, d7⟩ := HC.out W6 k hkm HB6.out
          have hzk : k = z.toNat := by omega
          have hz0 : 0 ≤ z := by omega
          have hzm : z < (m : Int) := by omega
          have HSN2 : Hid (wsS T.A D (i + 1) = if T.A k D ≤ T.A i D then some k else some i) := Lib.hid (by rw [HSN.out, wsOne_some, if_neg hgq])
          have k1 := reg_of (w := W6) (fun W hW => HWD.out W (bel_to HB6.out hW))
          have k3 := reg_of (w := W6) (fun W hW => HCM.out W i k hlt hkm (bel_to HB6.out hW))
          have hca : 0 ≤ cmpQ (T.A i D) (T.A k D) ↔ T.A k D ≤ T.A i D := cmpQ_ge
          have HCA := Lib.hid hca
          generalize cmpQ (T.A i D) (T.A k D) = cm at *
          clear hca
          have m7 := cell_regrown c7
          have n3 := cell_regrown c3
          have n5 := cell_regrown d5
          have n7 := cell_regrown d7
          have e1 : ∀ args w, (callFunc 92 args).run Tryz.prog w = .ok (.enter 92 args) w := enters_of Tryz.func92 (by kernel_rfl) rfl
          have e3 : ∀ args w, (callFunc 81 args).run Tryz.prog w = .ok (.enter 81 args) w := enters_of Tryz.func81 (by kernel_rfl) rfl
          obtain ⟨hkk, hhk⟩ : ∃ y, y = h k := ⟨_, rfl⟩
          rw [← hhk] at n5 n7
          obtain ⟨sk, hsk⟩ : ∃ y, y = R (T.A k D) := ⟨_, rfl⟩
          rw [← hsk] at n7 k3
          rw [hzk] at n5
          clear c0 c3 c5 c7 d5 d7 HSN hgq HSD hz2 hzk hhk hsk
          obtain ⟨W7, hW7⟩ : ∃ W7, W7 = W6 := ⟨_, rfl⟩
          rw [← hW7] at k1 k3 m7 n3 n5 n7 HB6 ⊢
          clear hW7
          go_wp2_with fail
          refine wp_region_quiet_below (by kernel_rfl) (by kernel_rfl) ?_
          repeat (go_big_quiet_step (fail))
          go_big_quiet_step (exact k1 _ _)
          repeat (go_big_quiet_step (fail))
          go_big_quiet_step (exact k1 _ _)
          repeat (go_big_quiet_step (fail))
          go_big_quiet_step (exact k3 _ _)
          repeat (go_big_quiet_step (fail))
          refine wpQuiet_nil ?_
          intro W6 hw'
          have hb6 : Below W7.heap.size W7 W6 := by obtain ⟨p, e⟩ := hw'; rw [e]; exact below_regrown W7 p.d p.os
          clear hw'
          have HB8 := Lib.hid (bel_to HB6.out hb6)
          clear k1 k3 m7 n3 n5 n7 e1 e3 hb6 HB6
          by_cases hcg : 0 ≤ cm
          · have HN : Hid (wsS T.A D (i + 1) = some k) := Lib.hid (by rw [HSN2.out, if_pos (HCA.out.1 hcg)])
            clear HCA HSN2
            go_wp2
            go_roundw
            case rel => exact ⟨i + 1, some k, z, by go_num, hlt, rfl, hz, HN, HB8⟩
            case measure => simp [intOf]; omega
          · have HN : Hid (wsS T.A D (i + 1) = some i) := Lib.hid (by rw [HSN2.out, if_neg (fun e => hcg (HCA.out.2 e))])
            clear HCA HSN2
            go_wp2
            go_roundw
            case rel => exact ⟨i + 1, some i, _, by go_num, hlt, rfl, Lib.hid rfl, HN, HB8⟩
            case measure => simp [intOf]; omega
    · obtain rfl : m = i := by omega
      clear HC HSG HWD HCM HLT
      have hs2 := hs.out
      have hz2 := hz.out
      have HTW := Lib.hid (HT.out wr hbw.out)
      have HBW := Lib.hid (hbw.out.mono HB.out)
      clear HT hs hz hbw HB
      rcases hcase with ⟨hc, hres⟩ | ⟨q, hc, hq0, ok1, T1, hcl, hcase⟩
      · have hzn : z < 0 := by rw [hz2, ← hs2, hc]; decide
        obtain ⟨rfl, rfl⟩ := Prod.mk.inj hres
        clear hz2 hs2 hc hres
        go_wp2
        go_ret
        exact ⟨rfl, ⟨fun j hj k hk => (HAA.out j hj k (by have := HDE.out.1; omega)).mono (by omega), HTW.out⟩, HBW.out⟩
      · have hzq : z = (q : Int) := by rw [hz2, ← hs2, hc]; rfl
        have hqm : q < m := by rw [← hs2] at hz2; exact HLQ.out q hc
        subst hzq
        have hqn : ¬ ((q : Int) < 0) := by omega
        have hqz : ¬ ((q : Int) ≤ -1) := by omega
        have HCL := Lib.hid hcl
        have HCS := Lib.hid hcase
        have HA1 : Hid (∀ j, j ≤ m → ∀ k, k ≤ wdt n m → Bq ez (upd T.A m (upd (T.A m) d (-1)) j k)) := Lib.hid fun j hj k hk => by
          by_cases e : j = m
          · subst e
            rw [upd_same]
            by_cases e2 : k = d
            · subst e2; rw [upd_same]; exact Bq_neg1.mono hez1
            · rw [upd_other _ e2]; exact HAA.out _ hj k hk
          · rw [upd_other _ e]; exact HAA.out j hj k hk
        have hq1 : upd T.A m (upd (T.A m) d (-1)) q d ≠ 0 := by rw [upd_other _ (by omega)]; exact hq0
        have HST := Lib.hid (HTW.out.setA (Nat.le_refl m) hdl (-1))
        have HSB := Lib.hid (HTW.out.belowA HBW.out (Nat.le_refl m) d (.string (bs (R (-1)))))
        have c5 := HTW.out.c5
        rw [← HDE.out.2] at c5
        have fz := HTW.out.fe (Nat.le_refl m) d
        have fc := HTW.out.ce (Nat.le_refl m) hdl
        rw [R_neg1] at HST HSB
        have HPV := Lib.hid (ppivot HST.out q d ez hqm hdw HA1.out hez hq1)
        clear hz2 hs2 hc hcl hcase hq1 HTW HBW HA1 HAA HLQ
        go_wp2_with fail
        refine HPV.out.mono ?_
        rintro e wb ⟨rfl, hT, hbb⟩
        have HTP := Lib.hid (And.intro hT.piv (HSB.out.trans hbb))
        clear hT hbb HPV HST HSB c5 fz fc
        have HCB := Lib.hid (pclimb ez f hez hez1 _ T1 ok1 none HCL.out HTP.out.1)
        clear HCL
        go_wp2_with fail
        refine HCB.out.mono ?_
        rintro e wc ⟨rfl, ⟨hsm1, hT1⟩, hbc⟩
        have HA1 : Hid (∀ j, j ≤ m → ∀ k, k ≤ wdt n m → Bq ez (T1.A j k)) := Lib.hid (fun j hj k hk => smallT_bq hsm1 hj hk)
        have HT1 := Lib.hid (And.intro hT1 (HTP.out.2.trans hbc))
        clear hT1 hbc hsm1 HTP HCB
        have c0 := HT1.out.1.c0
        have e0 := HT1.out.1.err.cell
        have c5 := HT1.out.1.c5
        rw [← HDE.out.2] at c5
        have c7 := HT1.out.1.ce (Nat.le_refl m) (Nat.le_refl (wdt n m))
        rw [← HDE.out.1] at c7
        have k1 := reg_of (w := wc) (fun W hW => pwidth (HT1.out.1.below' hW))
        rw [← HDE.out.1] at k1
        have m0 := cell_regrown c0
        have m1 := cell_regrown e0
        have m5 := cell_regrown c5
        have m7 := cell_regrown c7
        have e1 : ∀ args w, (callFunc 92 args).run Tryz.prog w = .ok (.enter 92 args) w := enters_of Tryz.func92 (by kernel_rfl) rfl
        clear c0 e0 c5 c7
        go_wp2_with fail
        refine wp_region_quiet_below (by kernel_rfl) (by kernel_rfl) ?_
        repeat (go_big_quiet_step (fail))
        go_big_quiet_step (exact k1 _ _)
        repeat (go_big_quiet_step (fail))
        refine wpQuiet_nil ?_
        intro W6 hw'
        have hb6 : Below wc.heap.size wc W6 := by obtain ⟨p, e⟩ := hw'; rw [e]; exact below_regrown wc p.d p.os
        clear hw'
        have HT2 := Lib.hid (And.intro (HT1.out.1.below' hb6) (HT1.out.2.trans (hb6.mono (TabS.size HT1.out.1))))
        clear k1 m0 m1 m5 m7 e1 hb6 HT1
        rcases HCS.out with ⟨hg1, hres⟩ | ⟨hg1, hres⟩
        · have hz1 : (R (T1.A m D) == [48]) = false := by rw [beq_eq_false_iff_ne]; exact fun e => hg1 (R_is0.1 e)
          rw [hz1]
          obtain ⟨rfl, rfl⟩ := Prod.mk.inj hres
          clear hg1 hres HCS hz1
          go_wp2
          go_ret
          exact ⟨rfl, ⟨fun j hj k hk => (HA1.out j hj k (by have := HDE.out.1; omega)).mono (by omega), HT2.out.1⟩, HT2.out.2⟩
        · have hz1 : R (T1.A m D) = [48] := R_is0.2 hg1
          rw [hz1]
          have c4 := HT2.out.1.c4
          have HIX := Lib.hid (pindex HT2.out.1 d)
          have HRS := Lib.hid hres
          have HO1 := Lib.hid (outT_none (n := n) (m := m) (T := T1))
          have HO2 := Lib.hid (fun r => outT_some (n := n) (m := m) (r := r) (T := T1))
          rw [← HDE.out.1, show D - 1 = d by have := HDD.out; omega] at HO1 HO2
          clear hg1 hres HCS hz1
          cases hix : (List.range m).find? fun i => decide (T1.b i = d) with
          | none =>
            rw [hix] at HIX
            have HI2 : Hid (Calls Tryz.prog 102 #[.slice (some ⟨gb, 0, none⟩) m cb, .int .i64 (d : Int)] W6 (Ret W6 (.int .i64 (-1)))) := HIX
            have he := HRS.out
            rw [HO1.out hix] at he
            obtain ⟨rfl, rfl⟩ := Prod.mk.inj he
            clear HIX hix HRS HO1 HO2 he
            go_wp2_with fail
            refine (HI2.out).mono ?_
            rintro e wd ⟨rfl, hbd⟩
            have HT3 := Lib.hid (And.intro (HT2.out.1.below' hbd) (HT2.out.2.trans (hbd.mono (TabS.size HT2.out.1))))
            clear hbd HT2
            go_wp2
            go_ret
            exact ⟨rfl, ⟨fun j hj k hk => (HA1.out j hj k (by have := HDE.out.1; omega)).mono (by omega), HT3.out.1⟩, HT3.out.2⟩
          | some r =>
            rw [hix] at HIX
            have HI2 : Hid (Calls Tryz.prog 102 #[.slice (some ⟨gb, 0, none⟩) m cb, .int .i64 (d : Int)] W6 (Ret W6 (.int .i64 (r : Int)))) := HIX
            have he := HRS.out
            rw [HO2.out r hix] at he
            have hrm : r < m := List.mem_range.1 (List.mem_of_find?_eq_some hix)
            have HRE := Lib.hid he
            clear HIX hix HRS HO1 HO2 he
            go_wp2_with fail
            refine (HI2.out).mono ?_
            rintro e wd ⟨rfl, hbd⟩
            have HT3 := Lib.hid (And.intro (HT2.out.1.below' hbd) (HT2.out.2.trans (hbd.mono (TabS.size HT2.out.1))))
            clear hbd HT2 HI2 c4
            have hr0 : (0 : Int) ≤ (r : Int) := by omega
            have hrs : (r : Int) < (m : Int) := by omega
            have HRC := Lib.hid (fun W c (hc : c < d) (hW : TabS W B p S gr gb cr cb h n m T1.A T1.b) => (by
              have e3 := hW.crow hrm
              rw [← HDE.out.2] at e3
              exact ⟨hW.c3, e3, hW.ce (show r ≤ m by omega) (show c ≤ wdt n m by omega)⟩ : W.cell? ⟨p, 3, none⟩ = some (.slice (some ⟨gr, 0, none⟩) m cr) ∧ W.cell? ⟨gr, r, none⟩ = some (.slice (some ⟨h r, 0, none⟩) L L) ∧ W.cell? ⟨h r, c, none⟩ = some (.string (bs (R (T1.A r c))))))
            obtain ⟨W0, hW0⟩ : ∃ W0, W0 = wd := ⟨_, rfl⟩
            rw [← hW0] at HT3 ⊢
            clear hW0
            go_wp2_with fail
            go_loopw [103] (fun iv wr => ∃ c : Nat, iv = .int .i64 (c : Int) ∧ c ≤ d ∧ Hid (∀ j, j < c → decide (T1.A r j ≠ 0) = false) ∧ wr = W0) (fun iv _ => d - (intOf iv).toNat)
            case atStart => exact ⟨0, rfl, by omega, Lib.hid (fun j hj => by omega), rfl⟩
            case round =>
              obtain ⟨c, rfl, hc, hno, rfl⟩ := hrel
              by_cases hlc : c < d
              · obtain ⟨c3, c4, c5⟩ := HRC.out wr c hlc HT3.out.1
                have hc0 : (0 : Int) ≤ (c : Int) := by omega
                have hcs : (c : Int) < (L : Int) := by omega
                by_cases hz : T1.A r c = 0
                · have hz1 : R (T1.A r c) = [48] := R_is0.2 hz
                  rw [hz1] at c5
                  have HN : Hid (∀ j, j < c + 1 → decide (T1.A r j ≠ 0) = false) := Lib.hid (fun j hj => by
                    by_cases e : j = c
                    · subst e; simp [hz]
                    · exact hno.out j (by omega))
                  clear hno hz hz1
                  go_wp2
                  go_roundw
                  case rel => exact ⟨c + 1, by go_num, hlc, HN, trivial⟩
                  case measure => simp [intOf]; omega
                · have hz1 : (R (T1.A r c) == [48]) = false := by rw [beq_eq_false_iff_ne]; exact fun e => hz (R_is0.1 e)
                  have he := HRE.out
                  rw [find_hit hno.out hlc (by simp [hz])] at he
                  obtain ⟨rfl, rfl⟩ := Prod.mk.inj he
                  have HPV := Lib.hid (ppivot HT3.out.1 r c ez hrm (by omega) HA1.out hez hz)
                  have HBQ : Hid (∀ j, j ≤ m → ∀ k, k ≤ wdt n m → Bq (4 * ez + 1) ((pivT n m T1 r c).A j k)) := Lib.hid (fun j hj k hk => (piv_bq (by omega) (by omega) hz HA1.out hj hk).mono (by omega))
                  clear hno hz he HRE HRC
                  go_wp2_with fail
                  refine HPV.out.mono ?_
                  rintro e we ⟨rfl, hT, hbe⟩
                  have HTP := Lib.hid (And.intro hT.piv (HT3.out.2.trans hbe))
                  clear hT hbe HPV HT3
                  go_wp2
                  go_ret
                  exact ⟨rfl, ⟨fun j hj k hk => HBQ.out j hj k (by have := HDE.out.1; omega), HTP.out.1⟩, HTP.out.2⟩
              · obtain rfl : d = c := by omega
                have he := HRE.out
                rw [find_miss hno.out] at he
                obtain ⟨rfl, rfl⟩ := Prod.mk.inj he
                clear hno he HRE HRC
                go_wp2
                go_ret
                exact ⟨rfl, ⟨fun j hj k hk => (HA1.out j hj k (by have := HDE.out.1; omega)).mono (by omega), HT3.out.1⟩, HT3.out.2⟩
theorem pready (ez f : Nat) (hez : ez ≤ 210) (hez1 : 1 ≤ ez) (T T' : Tbl) (ok : Bool) (hr : readyT ez n m f T = some (ok, T')) (t : TabS w B p S gr gb cr cb h n m T.A T.b) :
    Calls Tryz.prog 56 #[.pointer (some ⟨p, 0, none⟩)] w fun e w' =>
      e = .returned (.bool ok) ∧ ((∀ j, j ≤ m → ∀ k, k ≤ wdt n m → Bq ez (T'.A j k)) ∧ TabS w' B p S gr gb cr cb h n m T'.A T'.b) ∧ Below B w w' := by
  unfold readyT at hr
  cases hc : readyC ez n m f T with
  | none => rw [hc] at hr; cases hr
  | some s =>
    rw [hc] at hr
    simp only at hr
    by_cases hs : smallT ez n m s.2 = true
    · rw [if_pos hs] at hr
      obtain rfl := Option.some.inj hr
      refine (preadyC ez f hez hez1 T T' ok hc t).mono ?_
      rintro e w' ⟨h1, ⟨_, h3⟩, h4⟩
      exact ⟨h1, ⟨fun j hj k hk => smallT_bq hs hj hk, h3⟩, h4⟩
    · rw [if_neg hs] at hr; cases hr
end
end W
end Go.Proofs.YtnaikafamjebdaaGreatDoor
end
section
namespace Go.Proofs.YtnaikafamjebdaaGreatDoor
open Go Go.Sort Go.RowKit
section
variable {P : Program} {ops : Array Oper} {md : Region.Mode} {C : World → Prop}
def sink1B (md : Region.Mode) (ops : Array Oper) (n : Nat) : Bool :=
  (List.range n).all fun i => decide (i = 0) || (List.range (n + 1)).any fun j => decide (i < j) && Region.waitsFor md ops j i
theorem tail_waits1 {n : Nat} {listed : Array Bool} (hs : sink1B md ops n = true) (hc : Region.chainB md ops n = true) (hn : n < ops.size) (inv : HeadInv md ops n listed) :
    ∀ (d i : Nat), n - i = d → 1 ≤ i → i < n → listed.getD i true = false → ∀ t, n ≤ t → t ∉ Region.ready md ops listed := by
  intro d
  induction d using Nat.strongRecOn with
  | _ d ih =>
    intro i hd h1i hi hun t ht hr
    obtain ⟨_, ot, hot, hall⟩ := mem_ready.1 hr
    have htlt : t < ops.size := (Array.getElem?_eq_some_iff.1 hot).1
    by_cases htn : t = n
    · subst htn
      have h1 := List.all_eq_true.1 hs i (List.mem_range.2 hi)
      rw [Bool.or_eq_true] at h1
      have h1 := h1.resolve_left (by simp; omega)
      obtain ⟨j, hj, hj2⟩ := List.any_eq_true.1 h1
      simp only [Bool.and_eq_true, decide_eq_true_eq] at hj2
      obtain ⟨oj, hoj, e, he, hb, hon⟩ := Region.waitsFor_spec hj2.2
      have hjle : j ≤ t := by have := List.mem_range.1 hj; omega
      by_cases hjt : j = t
      · subst hjt
        have : oj = ot := Option.some.inj (hoj.symm.trans hot)
        subst this
        have h2 := hall e he hb
        rw [hon, getD_both hun] at h2
        cases h2
      · cases hl : listed.getD j false with
        | true =>
          have h2 := inv.closed j oj hoj hl e he hb
          rw [hon, getD_both hun] at h2
          cases h2
        | false =>
          have hjs : j < listed.size := by rw [inv.size]; omega
          exact ih (t - j) (by omega) j rfl (by omega) (by omega) (getD_in hjs hl) t (Nat.le_refl _) hr
    · have h1 := List.all_eq_true.1 hc t (List.mem_range.2 htlt)
      simp only [Bool.or_eq_true, decide_eq_true_eq] at h1
      rcases h1 with h1 | h1
      · omega
      · obtain ⟨o', ho', e, he, hb, hon⟩ := Region.waitsFor_spec h1
        have : o' = ot := Option.some.inj (ho'.symm.trans hot)
        subst this
        have h2 := hall e he hb
        rw [hon, getD_both (inv.tail (t - 1) (by omega) (by omega))] at h2
        cases h2
theorem anyT_first1 {n i : Nat} {oi : Oper} {v : Value} {L : Array Bool → Act → Prop} (hi : ops[i]? = some oi) (hsel : ∀ (j : Nat) (o : Oper) cs b, ops[j]? = some o → o.op ≠ .select cs b)
    (hs : sink1B md ops n = true) (hc : Region.chainB md ops n = true) (hn : n < ops.size) (hi1 : 1 ≤ i) (hin : i < n) (hdone : ∀ ls a, L ls a → ∀ j ∈ Region.ready md ops ls, n ≤ j) :
    ∀ (f : Nat) (ls : Array Bool) (a : Act), HeadInv md ops n ls →
      (∀ j oj, ops[j]? = some oj → j ≠ i → ls.getD j true = false → (∀ e ∈ oj.after, Region.binds md e = true → e.on ≠ i) → oi.apart ops oj = true) →
      i ∈ Region.ready md ops ls → YieldsIn P ops C oi v a → anyT P md ops C n L f (ls.setIfInBounds i true) (a.put oi.dst v) → anyT P md ops C n L (f + 1) ls a := by
  intro f
  induction f with
  | zero =>
    intro ls a inv _ hr hy H
    refine ⟨List.ne_nil_of_mem hr, fun j hj => ?_⟩
    have hjn : j < n := Nat.lt_of_not_le fun h => tail_waits1 hs hc hn inv _ i rfl hi1 hin (mem_ready.1 hr).1 j h hj
    refine ⟨hjn, ?_⟩
    by_cases e : j = i
    · subst e; exact hy.qOp hi H
    · exact absurd (hdone _ _ H j (ready_mono hj e)) (by omega)
  | succ f ih =>
    intro ls a inv hfree hr hy H
    refine ⟨List.ne_nil_of_mem hr, fun j hj => ?_⟩
    have hjn : j < n := Nat.lt_of_not_le fun h => tail_waits1 hs hc hn inv _ i rfl hi1 hin (mem_ready.1 hr).1 j h hj
    refine ⟨hjn, ?_⟩
    by_cases e : j = i
    · subst e; exact hy.qOp hi H
    · obtain ⟨hju, oj, hoj, hall⟩ := mem_ready.1 hj
      have hno : ∀ e ∈ oj.after, Region.binds md e = true → e.on ≠ i := fun e he hb heq => by
        have h2 := hall e he hb
        rw [heq, getD_both (mem_ready.1 hr).1] at h2
        cases h2
      refine qOp_mono (fun a' h3 => ih (ls.setIfInBounds j true) a' (inv.set hj hjn) (fun k ok hk hki hun h4 => ?_) (ready_mono hr (Ne.symm e)) h3.1 (by rw [Array.setIfInBounds_comm _ _ e]; exact h3.2))
        (qOp_put hoj (hfree j oj hoj e hju hno) (fun cs b => hsel i oi cs b hi) (fun cs b => hsel j oj cs b hoj) hy (H.2 j (ready_mono hj e)).2)
      refine hfree k ok hk hki ?_ h4
      by_cases ek : j = k
      · subst ek; exact hju
      · rwa [getD_set_ne true ek] at hun
theorem anyT_lex1 {n g : Nat} {Lq : Act → Prop} (hsel : Region.noSelect ops = true) (hs : sink1B md ops n = true) (hc : Region.chainB md ops n = true) (hn : n < ops.size) :
    ∀ (l : List Oper) (k : Nat) (ls : Array Bool) (a : Act), 1 ≤ k → (∀ j, j < l.length → l[j]? = ops[k + j]?) → k + l.length = n → HeadInv md ops n ls → Region.lexHead md ops g l.length k ls = true → wpQuiet P ops C Lq l a →
      anyT P md ops C n (fun ls' a' => Region.seqB md ops g n ls' = true ∧ Lq a') l.length ls a := by
  intro l
  induction l with
  | nil =>
    intro k ls a _ _ hk _ hB h
    have e : k = n := by simpa using hk
    subst e
    exact ⟨by simpa [Region.lexHead] using hB, h⟩
  | cons o l ih =>
    intro k ls a h1 hl hk inv hB h
    have h0 : ops[k]? = some o := by simpa using (hl 0 (by simp)).symm
    simp only [List.length_cons, Region.lexHead, Bool.and_eq_true] at hB
    have hkn : k < n := by simp only [List.length_cons] at hk; omega
    have hr : k ∈ Region.ready md ops ls := by simpa using hB.1.1
    obtain ⟨v, hy, hK⟩ := yieldsIn_of_qOp h0 (show qOp P ops C k (wpQuiet P ops C Lq l) a by unfold qOp; simp only [h0]; exact h)
    exact anyT_first1 h0 (Region.noSelect_spec hsel) hs hc hn h1 hkn (fun ls' a' hL => seqB_ready hL.1) l.length ls a inv (Region.free_spec h0 hB.1.2) hr hy
      (ih (k + 1) _ _ (by omega) (fun j hj => by have := hl (j + 1) (by simp; omega); simpa [Nat.add_assoc, Nat.add_comm 1 j] using this) (by simp only [List.length_cons] at hk; omega) (inv.set hr hkn) hB.2 hK)
def lexTail1B (md : Region.Mode) (ops : Array Oper) (n : Nat) : Bool :=
  Region.noSelect ops && decide (n < ops.size) && sink1B md ops n && Region.chainB md ops n && (Region.ready md ops (Array.replicate ops.size false)).contains 0 && Region.free md ops (Array.replicate ops.size false) 0 &&
    Region.lexHead md ops (ops.size - n) (n - 1) 1 ((Array.replicate ops.size false).setIfInBounds 0 true)
theorem region_quiet_tail1 {id : Nat} {Q : Exit → Act → World → Prop} {a : Act} {w : World} {o0 : Oper} {l : List Oper} {v : Value} (n : Nat) (hm : P.follows .mixedOrders = true) (hB : lexTail1B .any (o0 :: l).toArray (n + 1) = true)
    (hQ : ∀ c a w, Q (.panic c) (a.put o0.dst v) w → Q (.panic c) a w) (hy : Yields P (o0 :: l).toArray o0 v a) (hC : C { w with drawn := w.drawn + 1 })
    (h : wpQuiet P (o0 :: l).toArray C (fun a' => ∀ w', C w' → wpList P (o0 :: l).toArray Q (l.drop n) a' w') (l.take n) (a.put o0.dst v)) : (Code.region id (o0 :: l).toArray true).wp P Q a w := by
  simp only [lexTail1B, Bool.and_eq_true, decide_eq_true_eq] at hB
  obtain ⟨⟨⟨⟨⟨⟨hsel, hn⟩, hs⟩, hc⟩, hr0⟩, hf0⟩, hlex⟩ := hB
  have hn2 : n < l.length := by simpa using hn
  have ht : (l.take n).length = n := by simp; omega
  have hd : (l.drop n).length = (o0 :: l).toArray.size - (n + 1) := by simp
  have inv0 : HeadInv .any (o0 :: l).toArray (n + 1) (Array.replicate (o0 :: l).toArray.size false) :=
    ⟨by simp, fun j oj _ h2 => (by rw [getD_replicate_false] at h2; cases h2), fun t _ h2 => getD_in (by simpa using h2) (getD_replicate_false _ _)⟩
  have inv := inv0.set (i := 0) (by simpa using hr0) (by omega)
  have H := anyT_lex1 (md := .any) (g := (o0 :: l).toArray.size - (n + 1)) hsel hs hc hn (l.take n) 1 _ (a.put o0.dst v) (Nat.le_refl _) (fun j hj => by rw [ht] at hj; simp [hj, Nat.add_comm 1 j]) (by rw [ht]; omega) inv (by rw [ht]; exact hlex) h
  refine wp_region_any hm ?_
  have h2 := wpAny_of_anyT (Q := Q) (g := (o0 :: l).toArray.size - (n + 1)) (fun ls a' w' hw' hL => by
    have h3 := wpAny_of_seq (md := .any) (Q' := Q) (l.drop n) (n + 1) ls a' w' (fun j => by simp [List.getElem?_drop, Nat.add_right_comm]) (by rw [hd]; exact hL.1) (hL.2 w' hw')
    rwa [hd] at h3) _ _ _ _ hC H
  have h4 := wpAny_take (i := 0) (oi := o0) (by simp) hsel hf0 hr0 hQ hy h2
  rw [ht, show n + ((o0 :: l).toArray.size - (n + 1)) + 1 = (o0 :: l).toArray.size by omega] at h4
  exact h4
theorem region_below_tail1 {id : Nat} {Q : Exit → Act → World → Prop} {a : Act} {w : World} {o0 : Oper} {l : List Oper} {v : Value} (n : Nat) (hm : P.follows .mixedOrders = true) (hB : lexTail1B .any (o0 :: l).toArray (n + 1) = true)
    (hQ : ∀ c a w, Q (.panic c) (a.put o0.dst v) w → Q (.panic c) a w) (hy : Yields P (o0 :: l).toArray o0 v a)
    (h : wpQuiet P (o0 :: l).toArray (fun w' => ∃ p : Regrown, w' = grow (redrawn w p.d) p.os) (fun a' => ∀ w', (∃ p : Regrown, w' = grow (redrawn w p.d) p.os) → wpList P (o0 :: l).toArray Q (l.drop n) a' w') (l.take n) (a.put o0.dst v)) : (Code.region id (o0 :: l).toArray true).wp P Q a w :=
  region_quiet_tail1 n hm hB hQ hy ⟨⟨w.drawn + 1, #[]⟩, by rw [grow_empty]; rfl⟩ h
end
end Go.Proofs.YtnaikafamjebdaaGreatDoor
end
