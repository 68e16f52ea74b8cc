/-
  Chapter 46: PatternPairs.
-/
import Derived.Test.YtfcffheboncmbaaGreatDoorKY
import Derived.Test.YtfcffheboncmbaaGreatDoorKAA
import Derived.Test.YtfcffheboncmbaaGreatDoorKR
import Derived.BigRegion
section
namespace Go.Proofs.YtfcffheboncmbaaGreatDoor
open Go Go.RowKit Go.Deep
abbrev tg2 (a b : M.Tg) : Value := .agg #[.int .i64 a.x, .int .i64 a.y, .int .i64 a.lo, .int .i64 a.hi, .int .i64 a.tol, .int .i64 a.mat, .bool a.pin, .int .i64 b.x, .int .i64 b.y, .int .i64 b.lo, .int .i64 b.hi, .int .i64 b.tol, .int .i64 b.mat, .bool b.pin]
abbrev cc2 (p q : M.Cc) : Value := .agg #[.int .i64 p.x, .int .i64 p.y, .int .i64 p.d, .int .i64 q.x, .int .i64 q.y, .int .i64 q.d]
/-- Four boxes. -/
structure PB (w W : World) (A B P Q : Nat) (a b : M.Tg) (p q : M.Cc) : Prop where
  ra : Row W A 27 (tgC a)
  rb : Row W B 27 (tgC b)
  rp : Row W P 29 (ccC p)
  rq : Row W Q 29 (ccC q)
  bel : Below w.heap.size w W
  lb : w.heap.size ≤ B
  lq : w.heap.size ≤ Q
theorem tgcc : 27 ≠ 29 := by decide
theorem PB.to {w W W' : World} {A B P Q : Nat} {a b : M.Tg} {p q : M.Cc} (h : PB w W A B P Q a b p q) (hb : Below W.heap.size W W') : PB w W' A B P Q a b p q :=
  ⟨h.ra.below' hb, h.rb.below' hb, h.rp.below' hb, h.rq.below' hb, bel_to h.bel hb, h.lb, h.lq⟩
theorem row_other2 {w : World} {a b : Nat} {t : TypeId} {xs : List Value} (h : Row w a t xs) (hne : a ≠ b) (j : Nat) (u : Value) : Row (w.setCell ⟨b, j, none⟩ u) a t xs := row_other (p := ⟨b, j, none⟩) h hne u
theorem PB.store {w W : World} {A B P Q : Nat} {a b : M.Tg} {p q : M.Cc} (h : PB w W A B P Q a b p q) (hAB : A ≠ B) (hPQ : P ≠ Q) :
    PB w ((W.setCell ⟨B, 1, none⟩ (.int .i64 a.y)).setCell ⟨Q, 1, none⟩ (.int .i64 p.y)) A B P Q a { b with y := a.y } p { q with y := p.y } := by
  have n1 : A ≠ Q := row_ne h.ra h.rq tgcc
  have n2 : B ≠ Q := row_ne h.rb h.rq tgcc
  have n3 : P ≠ B := fun e => row_ne h.rb h.rp tgcc e.symm
  refine ⟨row_other2 (row_other2 h.ra hAB _ _) n1 _ _, row_other2 (h.rb.set 1 _) n2 _ _, row_other2 (row_other2 h.rp n3 _ _) hPQ _ _, (row_other2 h.rq (Ne.symm n2) 1 (.int .i64 a.y)).set 1 _, ?_, h.lb, h.lq⟩
  exact Below.setCell (p := ⟨Q, 1, none⟩) (Below.setCell (p := ⟨B, 1, none⟩) h.bel h.lb _) h.lq _
/-- Two boxes, beside the box of the circles. -/
structure PA (w W : World) (A B : Nat) (a b : M.Tg) (p q : M.Cc) : Prop where
  ra : Row W A 27 (tgC a)
  rb : Row W B 27 (tgC b)
  rc : Row W (w.heap.size + 1) 60 (ccC p ++ ccC q)
  bel : Below w.heap.size w W
  lb : w.heap.size ≤ B
theorem PA.new0 (w : World) (x1 : Obj) (a b : M.Tg) (p q : M.Cc) : PA w (((((w.alloc x1).alloc (.cells (ccC p ++ ccC q).toArray 60 (0, 0))).alloc (tgO a)).alloc (tgO b)).drew) (w.heap.size + 1 + 1) (w.heap.size + 1 + 1 + 1) a b p q :=
  ⟨Row.alloc (rnew0 (by simp)) _, rnew0 (by simp), Row.alloc (Row.alloc (rnew0 (by simp)) _) _, RowKit.Below.drew (W.bel_alloc (W.bel_alloc (W.bel_alloc (W.bel_alloc (Below.refl _ _) _) _) _) _), by omega⟩
theorem PA.new1 (w : World) (x1 : Obj) (a b : M.Tg) (p q : M.Cc) : PA w (((((w.alloc x1).alloc (.cells (ccC p ++ ccC q).toArray 60 (0, 0))).alloc (tgO b)).alloc (tgO a)).drew) (w.heap.size + 1 + 1 + 1) (w.heap.size + 1 + 1) a b p q :=
  ⟨rnew0 (by simp), Row.alloc (rnew0 (by simp)) _, Row.alloc (Row.alloc (rnew0 (by simp)) _) _, RowKit.Below.drew (W.bel_alloc (W.bel_alloc (W.bel_alloc (W.bel_alloc (Below.refl _ _) _) _) _) _), by omega⟩
theorem PA.two0 {w W : World} {A B : Nat} {a b : M.Tg} {p q : M.Cc} (h : PA w W A B a b p q) : PB w (((W.alloc (ccO p)).alloc (ccO q)).drew) A B W.heap.size (W.heap.size + 1) a b p q :=
  ⟨Row.alloc (Row.alloc h.ra _) _, Row.alloc (Row.alloc h.rb _) _, Row.alloc (rnew0 rfl) _, rnew0 (by simp), RowKit.Below.drew (_root_.Go.Proofs.YtfcffheboncmbaaGreatDoor.W.bel_alloc (_root_.Go.Proofs.YtfcffheboncmbaaGreatDoor.W.bel_alloc h.bel _) _), h.lb, by have := h.bel.size; omega⟩
theorem PA.two1 {w W : World} {A B : Nat} {a b : M.Tg} {p q : M.Cc} (h : PA w W A B a b p q) : PB w (((W.alloc (ccO q)).alloc (ccO p)).drew) A B (W.heap.size + 1) W.heap.size a b p q :=
  ⟨Row.alloc (Row.alloc h.ra _) _, Row.alloc (Row.alloc h.rb _) _, rnew0 (by simp), Row.alloc (rnew0 rfl) _, RowKit.Below.drew (_root_.Go.Proofs.YtfcffheboncmbaaGreatDoor.W.bel_alloc (_root_.Go.Proofs.YtfcffheboncmbaaGreatDoor.W.bel_alloc h.bel _) _), h.lb, by have := h.bel.size; omega⟩
theorem rdG_new (W : World) (a b : M.Tg) (o2 : Obj) : RdG ((W.alloc (.cells (csG [a, b]).toArray 27 (0, 0))).alloc o2) (.slice (some ⟨W.heap.size, 0, none⟩) 2 2) [a, b] :=
  ⟨_, _, rfl, Or.inr ⟨_, _, rfl, SlG.of_row (Row.alloc rnw _)⟩⟩
theorem rdC_new (W : World) (p q : M.Cc) (o1 : Obj) : RdC ((W.alloc o1).alloc (.cells (csC [p, q]).toArray 29 (0, 0))) (.slice (some ⟨W.heap.size + 1, 0, none⟩) 2 2) [p, q] :=
  ⟨_, _, rfl, Or.inr ⟨_, _, rfl, SlC.of_row (rnew0 (by simp))⟩⟩
namespace W
open M
attribute [local go_sem] bs_size bs_toList bs_get bs_extract bs_append bs_lit0 bs_lit1 lit1_bs
set_option maxHeartbeats 16000000
set_option maxRecDepth 20000
theorem pfits_over (ts : List Tg) (cs : List Cc) (h : chk46 ts cs = 0) (h5 : ts.length ≤ 5) (vt vc : Value) (w : World) (hg : Glob w) (hs : Sig w) (ht : RdG w vt ts) (hc : RdC w vc cs) :
    Calls Tryz.prog 16 #[vt, vc] w (fun e w' => ∃ s0 s1 s2 v, e = .returned (.tuple #[.bool (decide (overQ (ts.zip cs) ≤ 0)), .agg #[.string (bs s0), .string (bs s1), .string (bs s2)], v, .int .i64 0]) ∧ Shp v ∧ Below w.heap.size w w') := by
  obtain ⟨r, hr, hF⟩ := pfits_ok ts cs h h5
  have hx := Sx.exc_over (zip_ne h)
  refine (hF vt vc w hg hs ht hc).mono fun e w' hp => ?_
  rcases Sx.feas_exc hx hr with ⟨a, b, c, rfl, hf0, hx0, hb0⟩ | ⟨wt, rfl, hcon, hx0, hbw⟩
  · obtain ⟨rfl, hb⟩ := hp
    rw [decide_eq_true hx0]
    exact ⟨_, _, _, _, rfl, Or.inl rfl, hb⟩
  · obtain ⟨v, rfl, _, hsh, hb⟩ := hp
    rw [decide_eq_false (Rat.not_le.2 hx0)]
    exact ⟨_, _, _, _, rfl, hsh, hb⟩
theorem wr_in {z : Int} (h0 : -1000000000000 ≤ z) (h1 : z ≤ 1000000000000) : wrap64 z = z := by unfold wrap64; omega
theorem both_ok {t : Tg} {c : Cc} (ht : RtT t) (hc : RtC c) : bothC t c = 0 := by
  unfold bothC
  rw [(chkT_iff t).2 ht, if_neg (by simp), (ringC_iff c).2 hc]
theorem wth_ok {t : Tg} {n : Int} (h : t.lo ≤ n ∧ n ≤ t.hi) : wth t n = true := by
  unfold wth
  simp [h.1, h.2]
theorem pairs_bad (a b : Tg) (p q : Cc) (w : World) (hg : Glob w) (hs : Sig w) (h : chk46 [a, { b with y := a.y }] [p, { q with y := p.y }] ≠ 0) : Calls Tryz.prog 7 #[tg2 a b, cc2 p q] w (Ret w (.bool true)) := by
  obtain ⟨ax, ay, alo, ahi, atol, amat, apin⟩ := a
  obtain ⟨bx, bY, blo, bhi, btol, bmat, bpin⟩ := b
  obtain ⟨px, py, pd⟩ := p
  obtain ⟨qx, qy, qd⟩ := q
  (try simp only at *)
  have HCK := Lib.hid (fun vt vc W (h1 : RdG W vt [(⟨ax, ay, alo, ahi, atol, amat, apin⟩ : Tg), ⟨bx, ay, blo, bhi, btol, bmat, bpin⟩]) (h2 : RdC W vc [(⟨px, py, pd⟩ : Cc), ⟨qx, py, qd⟩]) => rcheck46 vt vc _ _ W h1 h2 (by simp [maxLen]) (by simp [maxLen]))
  have hz := nz_bne h
  have HA := Lib.hid (fun W (hW : Below w.heap.size w W) => awake46 W (hg.of hW) (hs.below hW))
  generalize ((chk46 [(⟨ax, ay, alo, ahi, atol, amat, apin⟩ : Tg), ⟨bx, ay, blo, bhi, btol, bmat, bpin⟩] [(⟨px, py, pd⟩ : Cc), ⟨qx, py, qd⟩] : Nat) : Int) = ck at *
  clear hg hs h
  go_enter Tryz.func7, Tryz.ntmps7
  go_wp2
  rename_i K hK
  have H1 : ∀ (A B : Nat) (W : World), A ≠ B → PA w W A B ⟨ax, ay, alo, ahi, atol, amat, apin⟩ ⟨bx, bY, blo, bhi, btol, bmat, bpin⟩ ⟨px, py, pd⟩ ⟨qx, qy, qd⟩ → Exit.then K (bodyPost Tryz.prog Tryz.f7 (Ret w (.bool true))) .normal { tmps := #[tg2 ⟨ax, ay, alo, ahi, atol, amat, apin⟩ ⟨bx, bY, blo, bhi, btol, bmat, bpin⟩, cc2 ⟨px, py, pd⟩ ⟨qx, qy, qd⟩, .pointer (some ⟨w.heap.size, 0, none⟩), .pointer (some ⟨w.heap.size + 1, 0, none⟩), .bool false, .pointer (some ⟨A, 0, none⟩), .pointer (some ⟨B, 0, none⟩), undef, undef, undef, undef, undef, undef, undef, undef, undef, undef, undef, .pointer (some ⟨w.heap.size, 0, none⟩), .agg #[.int .i64 ax, .int .i64 ay, .int .i64 alo, .int .i64 ahi, .int .i64 atol, .int .i64 amat, .bool apin], .pointer (some ⟨w.heap.size, 7, none⟩), .agg #[.int .i64 bx, .int .i64 bY, .int .i64 blo, .int .i64 bhi, .int .i64 btol, .int .i64 bmat, .bool bpin], undef, undef, undef, undef, undef, undef, undef, undef, undef, undef, undef, undef, undef, undef, undef, undef, undef, undef, undef, undef, undef, undef, undef, undef, undef, undef, undef, undef, undef, undef, undef, undef, undef, undef, undef, undef, undef, undef, undef, undef, undef, undef, undef, undef, undef, undef, undef, undef, undef, undef, undef, undef, undef, undef, undef, undef, undef, undef, undef, undef, undef, undef, undef, undef, undef, undef, undef, undef, undef, undef, undef, undef, undef, undef, undef, undef, undef, undef, undef, undef, undef, undef, undef, undef], defers := [] } W := by
    intro A B W n1 hA
    have HPA := Lib.hid hA
    clear hA
    go_wp2
    rename_i K2 hK2
    have H2 : ∀ (P Q : Nat) (W : World), P ≠ Q → PB w W A B P Q ⟨ax, ay, alo, ahi, atol, amat, apin⟩ ⟨bx, bY, blo, bhi, btol, bmat, bpin⟩ ⟨px, py, pd⟩ ⟨qx, qy, qd⟩ → Exit.then K2 (bodyPost Tryz.prog Tryz.f7 (Ret w (.bool true))) .normal { tmps := #[tg2 ⟨ax, ay, alo, ahi, atol, amat, apin⟩ ⟨bx, bY, blo, bhi, btol, bmat, bpin⟩, cc2 ⟨px, py, pd⟩ ⟨qx, qy, qd⟩, .pointer (some ⟨w.heap.size, 0, none⟩), .pointer (some ⟨w.heap.size + 1, 0, none⟩), .bool false, .pointer (some ⟨A, 0, none⟩), .pointer (some ⟨B, 0, none⟩), .pointer (some ⟨P, 0, none⟩), .pointer (some ⟨Q, 0, none⟩), undef, undef, undef, undef, undef, undef, undef, undef, undef, .pointer (some ⟨w.heap.size, 0, none⟩), .agg #[.int .i64 ax, .int .i64 ay, .int .i64 alo, .int .i64 ahi, .int .i64 atol, .int .i64 amat, .bool apin], .pointer (some ⟨w.heap.size, 7, none⟩), .agg #[.int .i64 bx, .int .i64 bY, .int .i64 blo, .int .i64 bhi, .int .i64 btol, .int .i64 bmat, .bool bpin], .pointer (some ⟨w.heap.size + 1, 0, none⟩), .agg #[.int .i64 px, .int .i64 py, .int .i64 pd], .pointer (some ⟨w.heap.size + 1, 3, none⟩), .agg #[.int .i64 qx, .int .i64 qy, .int .i64 qd], undef, undef, undef, undef, undef, undef, undef, undef, undef, undef, undef, undef, undef, undef, undef, undef, undef, undef, undef, undef, undef, undef, undef, undef, undef, undef, undef, undef, undef, undef, undef, undef, undef, undef, undef, undef, undef, undef, undef, undef, undef, undef, undef, undef, undef, undef, undef, undef, undef, undef, undef, undef, undef, undef, undef, undef, undef, undef, undef, undef, undef, undef, undef, undef, undef, undef, undef, undef, undef, undef, undef, undef, undef, undef, undef, undef, undef, undef, undef, undef], defers := [] } W := by
      intro P Q W n2 hW
      clear HPA
      have a1 : W.cell? ⟨A, 1, none⟩ = some (.int .i64 ay) := hW.ra.cell rfl
      have p1 : W.cell? ⟨P, 1, none⟩ = some (.int .i64 py) := hW.rp.cell rfl
      have b1 : W.cell? ⟨B, 1, none⟩ = some (.int .i64 bY) := hW.rb.cell rfl
      have q1 : W.cell? ⟨Q, 1, none⟩ = some (.int .i64 qy) := hW.rq.cell rfl
      have f1 := hW.rb.free 1
      have f2 := hW.rq.free 1
      have nPB : P ≠ B := fun e => row_ne hW.rb hW.rp tgcc e.symm
      have nBQ : B ≠ Q := row_ne hW.rb hW.rq tgcc
      have hst : PB w ((W.setCell ⟨B, 1, none⟩ (.int .i64 ay)).setCell ⟨Q, 1, none⟩ (.int .i64 py)) A B P Q ⟨ax, ay, alo, ahi, atol, amat, apin⟩ ⟨bx, ay, blo, bhi, btol, bmat, bpin⟩ ⟨px, py, pd⟩ ⟨qx, py, qd⟩ := hW.store n1 n2
      have HST := Lib.hid (hst.to (RowKit.Below.drew (Below.refl _ _)))
      clear hW hst
      go_wp2
      go_region
      clear a1 p1 b1 q1 f1 f2 nPB nBQ n1 n2
      refine genw (fun W => PB w W A B P Q ⟨ax, ay, alo, ahi, atol, amat, apin⟩ ⟨bx, ay, blo, bhi, btol, bmat, bpin⟩ ⟨px, py, pd⟩ ⟨qx, py, qd⟩) HST.out ?_
      intro W hW
      have H1 := Lib.hid hW
      clear hW HST
      have ua0 : W.cell? ⟨A, 0, none⟩ = some (.int .i64 ax) := H1.out.ra.cell (i := 0) rfl
      have ua1 : W.cell? ⟨A, 1, none⟩ = some (.int .i64 ay) := H1.out.ra.cell (i := 1) rfl
      have ua2 : W.cell? ⟨A, 2, none⟩ = some (.int .i64 alo) := H1.out.ra.cell (i := 2) rfl
      have ua3 : W.cell? ⟨A, 3, none⟩ = some (.int .i64 ahi) := H1.out.ra.cell (i := 3) rfl
      have ua4 : W.cell? ⟨A, 4, none⟩ = some (.int .i64 atol) := H1.out.ra.cell (i := 4) rfl
      have ua5 : W.cell? ⟨A, 5, none⟩ = some (.int .i64 amat) := H1.out.ra.cell (i := 5) rfl
      have ua6 : W.cell? ⟨A, 6, none⟩ = some (.bool apin) := H1.out.ra.cell (i := 6) rfl
      have ub0 : W.cell? ⟨B, 0, none⟩ = some (.int .i64 bx) := H1.out.rb.cell (i := 0) rfl
      have ub1 : W.cell? ⟨B, 1, none⟩ = some (.int .i64 ay) := H1.out.rb.cell (i := 1) rfl
      have ub2 : W.cell? ⟨B, 2, none⟩ = some (.int .i64 blo) := H1.out.rb.cell (i := 2) rfl
      have ub3 : W.cell? ⟨B, 3, none⟩ = some (.int .i64 bhi) := H1.out.rb.cell (i := 3) rfl
      have ub4 : W.cell? ⟨B, 4, none⟩ = some (.int .i64 btol) := H1.out.rb.cell (i := 4) rfl
      have ub5 : W.cell? ⟨B, 5, none⟩ = some (.int .i64 bmat) := H1.out.rb.cell (i := 5) rfl
      have ub6 : W.cell? ⟨B, 6, none⟩ = some (.bool bpin) := H1.out.rb.cell (i := 6) rfl
      have up0 : W.cell? ⟨P, 0, none⟩ = some (.int .i64 px) := H1.out.rp.cell (i := 0) rfl
      have up1 : W.cell? ⟨P, 1, none⟩ = some (.int .i64 py) := H1.out.rp.cell (i := 1) rfl
      have up2 : W.cell? ⟨P, 2, none⟩ = some (.int .i64 pd) := H1.out.rp.cell (i := 2) rfl
      have uq0 : W.cell? ⟨Q, 0, none⟩ = some (.int .i64 qx) := H1.out.rq.cell (i := 0) rfl
      have uq1 : W.cell? ⟨Q, 1, none⟩ = some (.int .i64 py) := H1.out.rq.cell (i := 1) rfl
      have uq2 : W.cell? ⟨Q, 2, none⟩ = some (.int .i64 qd) := H1.out.rq.cell (i := 2) rfl
      have vp0 : ∀ o : Obj, (W.alloc o).cell? ⟨P, 0, none⟩ = some (.int .i64 px) := fun o => (H1.out.to (bel_al _ o)).rp.cell (i := 0) rfl
      have vp1 : ∀ o : Obj, (W.alloc o).cell? ⟨P, 1, none⟩ = some (.int .i64 py) := fun o => (H1.out.to (bel_al _ o)).rp.cell (i := 1) rfl
      have vp2 : ∀ o : Obj, (W.alloc o).cell? ⟨P, 2, none⟩ = some (.int .i64 pd) := fun o => (H1.out.to (bel_al _ o)).rp.cell (i := 2) rfl
      have vq0 : ∀ o : Obj, (W.alloc o).cell? ⟨Q, 0, none⟩ = some (.int .i64 qx) := fun o => (H1.out.to (bel_al _ o)).rq.cell (i := 0) rfl
      have vq1 : ∀ o : Obj, (W.alloc o).cell? ⟨Q, 1, none⟩ = some (.int .i64 py) := fun o => (H1.out.to (bel_al _ o)).rq.cell (i := 1) rfl
      have vq2 : ∀ o : Obj, (W.alloc o).cell? ⟨Q, 2, none⟩ = some (.int .i64 qd) := fun o => (H1.out.to (bel_al _ o)).rq.cell (i := 2) rfl
      have hgl := rdG_new W (⟨ax, ay, alo, ahi, atol, amat, apin⟩ : Tg) (⟨bx, ay, blo, bhi, btol, bmat, bpin⟩ : Tg) (.cells (csC [(⟨px, py, pd⟩ : Cc), ⟨qx, py, qd⟩]).toArray 29 (0, 0))
      have hcl := rdC_new W (⟨px, py, pd⟩ : Cc) (⟨qx, py, qd⟩ : Cc) (.cells (csG [(⟨ax, ay, alo, ahi, atol, amat, apin⟩ : Tg), ⟨bx, ay, blo, bhi, btol, bmat, bpin⟩]).toArray 27 (0, 0))
      have HQ := Lib.hid (And.intro hgl (And.intro hcl (bel_to H1.out.bel (bel_al2 W (.cells (csG [(⟨ax, ay, alo, ahi, atol, amat, apin⟩ : Tg), ⟨bx, ay, blo, bhi, btol, bmat, bpin⟩]).toArray 27 (0, 0)) (.cells (csC [(⟨px, py, pd⟩ : Cc), ⟨qx, py, qd⟩]).toArray 29 (0, 0))))))
      clear hgl hcl
      go_wp2_with fail
      refine (HCK.out _ _ _ HQ.out.1 HQ.out.2.1).mono ?_
      rintro e w2 ⟨rfl, hbz⟩
      clear ua0 ua1 ua2 ua3 ua4 ua5 ua6 ub0 ub1 ub2 ub3 ub4 ub5 ub6 up0 up1 up2 uq0 uq1 uq2
      clear vp0 vp1 vp2 vq0 vq1 vq2
      have H2 := Lib.hid (H1.out.to (bel_to (bel_al2 W (.cells (csG [(⟨ax, ay, alo, ahi, atol, amat, apin⟩ : Tg), ⟨bx, ay, blo, bhi, btol, bmat, bpin⟩]).toArray 27 (0, 0)) (.cells (csC [(⟨px, py, pd⟩ : Cc), ⟨qx, py, qd⟩]).toArray 29 (0, 0))) hbz))
      clear HQ hbz H1 HCK
      go_wp2_with fail
      refine (HA.out _ H2.out.bel).mono ?_
      rintro e w3 ⟨rfl, hb3⟩
      have HF := Lib.hid (bel_to H2.out.bel hb3)
      clear H2 hb3
      go_wp2
      go_ret
      exact ⟨rfl, HF.out⟩
    have x0 : W.cell? ⟨w.heap.size + 1, 0, none⟩ = some (.int .i64 px) := HPA.out.rc.cell (i := 0) rfl
    have y0 : ∀ o : Obj, (W.alloc o).cell? ⟨w.heap.size + 1, 0, none⟩ = some (.int .i64 px) := fun o => (HPA.out.rc.alloc o).cell (i := 0) rfl
    have z0 : ∀ o o2 : Obj, ((W.alloc o).alloc o2).cell? ⟨w.heap.size + 1, 0, none⟩ = some (.int .i64 px) := fun o o2 => ((HPA.out.rc.alloc o).alloc o2).cell (i := 0) rfl
    have x1 : W.cell? ⟨w.heap.size + 1, 1, none⟩ = some (.int .i64 py) := HPA.out.rc.cell (i := 1) rfl
    have y1 : ∀ o : Obj, (W.alloc o).cell? ⟨w.heap.size + 1, 1, none⟩ = some (.int .i64 py) := fun o => (HPA.out.rc.alloc o).cell (i := 1) rfl
    have z1 : ∀ o o2 : Obj, ((W.alloc o).alloc o2).cell? ⟨w.heap.size + 1, 1, none⟩ = some (.int .i64 py) := fun o o2 => ((HPA.out.rc.alloc o).alloc o2).cell (i := 1) rfl
    have x2 : W.cell? ⟨w.heap.size + 1, 2, none⟩ = some (.int .i64 pd) := HPA.out.rc.cell (i := 2) rfl
    have y2 : ∀ o : Obj, (W.alloc o).cell? ⟨w.heap.size + 1, 2, none⟩ = some (.int .i64 pd) := fun o => (HPA.out.rc.alloc o).cell (i := 2) rfl
    have z2 : ∀ o o2 : Obj, ((W.alloc o).alloc o2).cell? ⟨w.heap.size + 1, 2, none⟩ = some (.int .i64 pd) := fun o o2 => ((HPA.out.rc.alloc o).alloc o2).cell (i := 2) rfl
    have x3 : W.cell? ⟨w.heap.size + 1, 3, none⟩ = some (.int .i64 qx) := HPA.out.rc.cell (i := 3) rfl
    have y3 : ∀ o : Obj, (W.alloc o).cell? ⟨w.heap.size + 1, 3, none⟩ = some (.int .i64 qx) := fun o => (HPA.out.rc.alloc o).cell (i := 3) rfl
    have z3 : ∀ o o2 : Obj, ((W.alloc o).alloc o2).cell? ⟨w.heap.size + 1, 3, none⟩ = some (.int .i64 qx) := fun o o2 => ((HPA.out.rc.alloc o).alloc o2).cell (i := 3) rfl
    have x4 : W.cell? ⟨w.heap.size + 1, 4, none⟩ = some (.int .i64 qy) := HPA.out.rc.cell (i := 4) rfl
    have y4 : ∀ o : Obj, (W.alloc o).cell? ⟨w.heap.size + 1, 4, none⟩ = some (.int .i64 qy) := fun o => (HPA.out.rc.alloc o).cell (i := 4) rfl
    have z4 : ∀ o o2 : Obj, ((W.alloc o).alloc o2).cell? ⟨w.heap.size + 1, 4, none⟩ = some (.int .i64 qy) := fun o o2 => ((HPA.out.rc.alloc o).alloc o2).cell (i := 4) rfl
    have x5 : W.cell? ⟨w.heap.size + 1, 5, none⟩ = some (.int .i64 qd) := HPA.out.rc.cell (i := 5) rfl
    have y5 : ∀ o : Obj, (W.alloc o).cell? ⟨w.heap.size + 1, 5, none⟩ = some (.int .i64 qd) := fun o => (HPA.out.rc.alloc o).cell (i := 5) rfl
    have z5 : ∀ o o2 : Obj, ((W.alloc o).alloc o2).cell? ⟨w.heap.size + 1, 5, none⟩ = some (.int .i64 qd) := fun o o2 => ((HPA.out.rc.alloc o).alloc o2).cell (i := 5) rfl
    go_region
    · exact H2 _ _ _ (by omega) HPA.out.two0
    · exact H2 _ _ _ (by omega) HPA.out.two1
  go_region
  · exact H1 _ _ _ (by omega) (PA.new0 w _ ⟨ax, ay, alo, ahi, atol, amat, apin⟩ ⟨bx, bY, blo, bhi, btol, bmat, bpin⟩ ⟨px, py, pd⟩ ⟨qx, qy, qd⟩)
  · exact H1 _ _ _ (by omega) (PA.new1 w _ ⟨ax, ay, alo, ahi, atol, amat, apin⟩ ⟨bx, bY, blo, bhi, btol, bmat, bpin⟩ ⟨px, py, pd⟩ ⟨qx, qy, qd⟩)
theorem pairs_ok (a b : Tg) (p q : Cc) (w : World) (hg : Glob w) (hs : Sig w) (h : chk46 [a, { b with y := a.y }] [p, { q with y := p.y }] = 0) : Calls Tryz.prog 7 #[tg2 a b, cc2 p q] w (Ret w (.bool true)) := by
  obtain ⟨ax, ay, alo, ahi, atol, amat, apin⟩ := a
  obtain ⟨bx, bY, blo, bhi, btol, bmat, bpin⟩ := b
  obtain ⟨px, py, pd⟩ := p
  obtain ⟨qx, qy, qd⟩ := q
  (try simp only at *)
  obtain ⟨_, _, _, hrt⟩ := chk46_iff.1 h
  have r1 : RtH ((⟨ax, ay, alo, ahi, atol, amat, apin⟩ : Tg), (⟨px, py, pd⟩ : Cc)) := hrt _ (by simp)
  have r2 : RtH ((⟨bx, ay, blo, bhi, btol, bmat, bpin⟩ : Tg), (⟨qx, py, qd⟩ : Cc)) := hrt _ (by simp)
  have z1 := r1.wide
  have z2 := r2.wide
  simp only at z1 z2
  obtain ⟨D, hD⟩ : ∃ D, D = (bx - ax) - (qx - px) := ⟨_, rfl⟩
  have hx := Sx.exc_pair (Sx.exc_over (zip_ne h)) rfl rfl z1.1 z2.1 D hD
  have hck := fun vt vc W (h1 : RdG W vt [(⟨ax, ay, alo, ahi, atol, amat, apin⟩ : Tg), ⟨bx, ay, blo, bhi, btol, bmat, bpin⟩]) (h2 : RdC W vc [(⟨px, py, pd⟩ : Cc), ⟨qx, py, qd⟩]) => rcheck46 vt vc _ _ W h1 h2 (by simp [maxLen]) (by simp [maxLen])
  rw [h] at hck
  have HCK : Hid (∀ vt vc W, RdG W vt [(⟨ax, ay, alo, ahi, atol, amat, apin⟩ : Tg), ⟨bx, ay, blo, bhi, btol, bmat, bpin⟩] → RdC W vc [(⟨px, py, pd⟩ : Cc), ⟨qx, py, qd⟩] → Calls Tryz.prog 17 #[vt, vc] W (Ret W (.int .i64 0))) := Lib.hid hck
  have hft := fun vt vc W (hW : Below w.heap.size w W) (h1 : RdG W vt [(⟨ax, ay, alo, ahi, atol, amat, apin⟩ : Tg), ⟨bx, ay, blo, bhi, btol, bmat, bpin⟩]) (h2 : RdC W vc [(⟨px, py, pd⟩ : Cc), ⟨qx, py, qd⟩]) => pfits_over _ _ h (by simp) vt vc W (hg.of hW) (hs.below hW) h1 h2
  have hd : decide (overQ (([(⟨ax, ay, alo, ahi, atol, amat, apin⟩ : Tg), ⟨bx, ay, blo, bhi, btol, bmat, bpin⟩]).zip [(⟨px, py, pd⟩ : Cc), ⟨qx, py, qd⟩]) ≤ 0) = decide (2 * max D (-D) ≤ wide (⟨ax, ay, alo, ahi, atol, amat, apin⟩ : Tg) (⟨px, py, pd⟩ : Cc) + wide (⟨bx, ay, blo, bhi, btol, bmat, bpin⟩ : Tg) (⟨qx, py, qd⟩ : Cc)) := decide_eq_decide.2 hx
  rw [hd] at hft
  have HFT := Lib.hid hft
  have c1 : zoneC (⟨ax, ay, alo, ahi, atol, amat, apin⟩ : Tg) (⟨px, py, pd⟩ : Cc) = 0 ∧ zoneN (⟨ax, ay, alo, ahi, atol, amat, apin⟩ : Tg) (⟨px, py, pd⟩ : Cc) = wide (⟨ax, ay, alo, ahi, atol, amat, apin⟩ : Tg) (⟨px, py, pd⟩ : Cc) := zone_ok (both_ok r1.1 r1.2.1) (wth_ok r1.2.2)
  have c2 : zoneC (⟨bx, ay, blo, bhi, btol, bmat, bpin⟩ : Tg) (⟨qx, py, qd⟩ : Cc) = 0 ∧ zoneN (⟨bx, ay, blo, bhi, btol, bmat, bpin⟩ : Tg) (⟨qx, py, qd⟩ : Cc) = wide (⟨bx, ay, blo, bhi, btol, bmat, bpin⟩ : Tg) (⟨qx, py, qd⟩ : Cc) := zone_ok (both_ok r2.1 r2.2.1) (wth_ok r2.2.2)
  have hz1 := fun W (hW : Below w.heap.size w W) => pzone (⟨ax, ay, alo, ahi, atol, amat, apin⟩ : Tg) (⟨px, py, pd⟩ : Cc) W (hs.below hW)
  rw [c1.1, c1.2] at hz1
  have HZ1 : Hid (∀ W, Below w.heap.size w W → Calls Tryz.prog 12 #[tgV (⟨ax, ay, alo, ahi, atol, amat, apin⟩ : Tg), ccV (⟨px, py, pd⟩ : Cc)] W (Ret W (.tuple #[.int .i64 (wide (⟨ax, ay, alo, ahi, atol, amat, apin⟩ : Tg) (⟨px, py, pd⟩ : Cc)), .int .i64 0]))) := Lib.hid hz1
  have hz2 := fun W (hW : Below w.heap.size w W) => pzone (⟨bx, ay, blo, bhi, btol, bmat, bpin⟩ : Tg) (⟨qx, py, qd⟩ : Cc) W (hs.below hW)
  rw [c2.1, c2.2] at hz2
  have HZ2 : Hid (∀ W, Below w.heap.size w W → Calls Tryz.prog 12 #[tgV (⟨bx, ay, blo, bhi, btol, bmat, bpin⟩ : Tg), ccV (⟨qx, py, qd⟩ : Cc)] W (Ret W (.tuple #[.int .i64 (wide (⟨bx, ay, blo, bhi, btol, bmat, bpin⟩ : Tg) (⟨qx, py, qd⟩ : Cc)), .int .i64 0]))) := Lib.hid hz2
  have HA := Lib.hid (fun W (hW : Below w.heap.size w W) => awake46 W (hg.of hW) (hs.below hW))
  have x1 := r1.1.x
  have x2 := r2.1.x
  have x3 := r1.2.1.x
  have x4 := r2.2.1.x
  simp only at x1 x2 x3 x4
  have s1 : wrap64 (bx - ax) = bx - ax := wr_in (by omega) (by omega)
  have s2 : wrap64 (qx - px) = qx - px := wr_in (by omega) (by omega)
  have s3 : wrap64 ((bx - ax) - (qx - px)) = D := by rw [hD]; exact wr_in (by omega) (by omega)
  have s4 : wrap64 (-D) = -D := wr_in (by omega) (by omega)
  have s5 : wrap64 (2 * max D (-D)) = 2 * max D (-D) := wr_in (by omega) (by omega)
  have s6 : wrap64 (wide (⟨ax, ay, alo, ahi, atol, amat, apin⟩ : Tg) (⟨px, py, pd⟩ : Cc) + wide (⟨bx, ay, blo, bhi, btol, bmat, bpin⟩ : Tg) (⟨qx, py, qd⟩ : Cc)) = wide (⟨ax, ay, alo, ahi, atol, amat, apin⟩ : Tg) (⟨px, py, pd⟩ : Cc) + wide (⟨bx, ay, blo, bhi, btol, bmat, bpin⟩ : Tg) (⟨qx, py, qd⟩ : Cc) := wr_in (by omega) (by omega)
  clear hg hs h hrt r1 r2 z1 z2 hx hck hft hd hD c1 c2 hz1 hz2 x1 x2 x3 x4
  generalize wide (⟨ax, ay, alo, ahi, atol, amat, apin⟩ : Tg) (⟨px, py, pd⟩ : Cc) = n1w at *
  generalize wide (⟨bx, ay, blo, bhi, btol, bmat, bpin⟩ : Tg) (⟨qx, py, qd⟩ : Cc) = n2w at *
  go_enter Tryz.func7, Tryz.ntmps7
  go_wp2
  rename_i K hK
  have H1 : ∀ (A B : Nat) (W : World), A ≠ B → PA w W A B ⟨ax, ay, alo, ahi, atol, amat, apin⟩ ⟨bx, bY, blo, bhi, btol, bmat, bpin⟩ ⟨px, py, pd⟩ ⟨qx, qy, qd⟩ → Exit.then K (bodyPost Tryz.prog Tryz.f7 (Ret w (.bool true))) .normal { tmps := #[tg2 ⟨ax, ay, alo, ahi, atol, amat, apin⟩ ⟨bx, bY, blo, bhi, btol, bmat, bpin⟩, cc2 ⟨px, py, pd⟩ ⟨qx, qy, qd⟩, .pointer (some ⟨w.heap.size, 0, none⟩), .pointer (some ⟨w.heap.size + 1, 0, none⟩), .bool false, .pointer (some ⟨A, 0, none⟩), .pointer (some ⟨B, 0, none⟩), undef, undef, undef, undef, undef, undef, undef, undef, undef, undef, undef, .pointer (some ⟨w.heap.size, 0, none⟩), .agg #[.int .i64 ax, .int .i64 ay, .int .i64 alo, .int .i64 ahi, .int .i64 atol, .int .i64 amat, .bool apin], .pointer (some ⟨w.heap.size, 7, none⟩), .agg #[.int .i64 bx, .int .i64 bY, .int .i64 blo, .int .i64 bhi, .int .i64 btol, .int .i64 bmat, .bool bpin], undef, undef, undef, undef, undef, undef, undef, undef, undef, undef, undef, undef, undef, undef, undef, undef, undef, undef, undef, undef, undef, undef, undef, undef, undef, undef, undef, undef, undef, undef, undef, undef, undef, undef, undef, undef, undef, undef, undef, undef, undef, undef, undef, undef, undef, undef, undef, undef, undef, undef, undef, undef, undef, undef, undef, undef, undef, undef, undef, undef, undef, undef, undef, undef, undef, undef, undef, undef, undef, undef, undef, undef, undef, undef, undef, undef, undef, undef, undef, undef, undef, undef, undef, undef], defers := [] } W := by
    intro A B W n1 hA
    have HPA := Lib.hid hA
    clear hA
    go_wp2
    rename_i K2 hK2
    have H2 : ∀ (P Q : Nat) (W : World), P ≠ Q → PB w W A B P Q ⟨ax, ay, alo, ahi, atol, amat, apin⟩ ⟨bx, bY, blo, bhi, btol, bmat, bpin⟩ ⟨px, py, pd⟩ ⟨qx, qy, qd⟩ → Exit.then K2 (bodyPost Tryz.prog Tryz.f7 (Ret w (.bool true))) .normal { tmps := #[tg2 ⟨ax, ay, alo, ahi, atol, amat, apin⟩ ⟨bx, bY, blo, bhi, btol, bmat, bpin⟩, cc2 ⟨px, py, pd⟩ ⟨qx, qy, qd⟩, .pointer (some ⟨w.heap.size, 0, none⟩), .pointer (some ⟨w.heap.size + 1, 0, none⟩), .bool false, .pointer (some ⟨A, 0, none⟩), .pointer (some ⟨B, 0, none⟩), .pointer (some ⟨P, 0, none⟩), .pointer (some ⟨Q, 0, none⟩), undef, undef, undef, undef, undef, undef, undef, undef, undef, .pointer (some ⟨w.heap.size, 0, none⟩), .agg #[.int .i64 ax, .int .i64 ay, .int .i64 alo, .int .i64 ahi, .int .i64 atol, .int .i64 amat, .bool apin], .pointer (some ⟨w.heap.size, 7, none⟩), .agg #[.int .i64 bx, .int .i64 bY, .int .i64 blo, .int .i64 bhi, .int .i64 btol, .int .i64 bmat, .bool bpin], .pointer (some ⟨w.heap.size + 1, 0, none⟩), .agg #[.int .i64 px, .int .i64 py, .int .i64 pd], .pointer (some ⟨w.heap.size + 1, 3, none⟩), .agg #[.int .i64 qx, .int .i64 qy, .int .i64 qd], undef, undef, undef, undef, undef, undef, undef, undef, undef, undef, undef, undef, undef, undef, undef, undef, undef, undef, undef, undef, undef, undef, undef, undef, undef, undef, undef, undef, undef, undef, undef, undef, undef, undef, undef, undef, undef, undef, undef, undef, undef, undef, undef, undef, undef, undef, undef, undef, undef, undef, undef, undef, undef, undef, undef, undef, undef, undef, undef, undef, undef, undef, undef, undef, undef, undef, undef, undef, undef, undef, undef, undef, undef, undef, undef, undef, undef, undef, undef, undef], defers := [] } W := by
      intro P Q W n2 hW
      clear HPA
      have a1 : W.cell? ⟨A, 1, none⟩ = some (.int .i64 ay) := hW.ra.cell rfl
      have p1 : W.cell? ⟨P, 1, none⟩ = some (.int .i64 py) := hW.rp.cell rfl
      have b1 : W.cell? ⟨B, 1, none⟩ = some (.int .i64 bY) := hW.rb.cell rfl
      have q1 : W.cell? ⟨Q, 1, none⟩ = some (.int .i64 qy) := hW.rq.cell rfl
      have f1 := hW.rb.free 1
      have f2 := hW.rq.free 1
      have nPB : P ≠ B := fun e => row_ne hW.rb hW.rp tgcc e.symm
      have nBQ : B ≠ Q := row_ne hW.rb hW.rq tgcc
      have hst : PB w ((W.setCell ⟨B, 1, none⟩ (.int .i64 ay)).setCell ⟨Q, 1, none⟩ (.int .i64 py)) A B P Q ⟨ax, ay, alo, ahi, atol, amat, apin⟩ ⟨bx, ay, blo, bhi, btol, bmat, bpin⟩ ⟨px, py, pd⟩ ⟨qx, py, qd⟩ := hW.store n1 n2
      have HST := Lib.hid (hst.to (RowKit.Below.drew (Below.refl _ _)))
      clear hW hst
      go_wp2
      go_region
      clear a1 p1 b1 q1 f1 f2 nPB nBQ n1 n2
      refine genw (fun W => PB w W A B P Q ⟨ax, ay, alo, ahi, atol, amat, apin⟩ ⟨bx, ay, blo, bhi, btol, bmat, bpin⟩ ⟨px, py, pd⟩ ⟨qx, py, qd⟩) HST.out ?_
      intro W hW
      have H1 := Lib.hid hW
      clear hW HST
      have ua0 : W.cell? ⟨A, 0, none⟩ = some (.int .i64 ax) := H1.out.ra.cell (i := 0) rfl
      have ua1 : W.cell? ⟨A, 1, none⟩ = some (.int .i64 ay) := H1.out.ra.cell (i := 1) rfl
      have ua2 : W.cell? ⟨A, 2, none⟩ = some (.int .i64 alo) := H1.out.ra.cell (i := 2) rfl
      have ua3 : W.cell? ⟨A, 3, none⟩ = some (.int .i64 ahi) := H1.out.ra.cell (i := 3) rfl
      have ua4 : W.cell? ⟨A, 4, none⟩ = some (.int .i64 atol) := H1.out.ra.cell (i := 4) rfl
      have ua5 : W.cell? ⟨A, 5, none⟩ = some (.int .i64 amat) := H1.out.ra.cell (i := 5) rfl
      have ua6 : W.cell? ⟨A, 6, none⟩ = some (.bool apin) := H1.out.ra.cell (i := 6) rfl
      have ub0 : W.cell? ⟨B, 0, none⟩ = some (.int .i64 bx) := H1.out.rb.cell (i := 0) rfl
      have ub1 : W.cell? ⟨B, 1, none⟩ = some (.int .i64 ay) := H1.out.rb.cell (i := 1) rfl
      have ub2 : W.cell? ⟨B, 2, none⟩ = some (.int .i64 blo) := H1.out.rb.cell (i := 2) rfl
      have ub3 : W.cell? ⟨B, 3, none⟩ = some (.int .i64 bhi) := H1.out.rb.cell (i := 3) rfl
      have ub4 : W.cell? ⟨B, 4, none⟩ = some (.int .i64 btol) := H1.out.rb.cell (i := 4) rfl
      have ub5 : W.cell? ⟨B, 5, none⟩ = some (.int .i64 bmat) := H1.out.rb.cell (i := 5) rfl
      have ub6 : W.cell? ⟨B, 6, none⟩ = some (.bool bpin) := H1.out.rb.cell (i := 6) rfl
      have up0 : W.cell? ⟨P, 0, none⟩ = some (.int .i64 px) := H1.out.rp.cell (i := 0) rfl
      have up1 : W.cell? ⟨P, 1, none⟩ = some (.int .i64 py) := H1.out.rp.cell (i := 1) rfl
      have up2 : W.cell? ⟨P, 2, none⟩ = some (.int .i64 pd) := H1.out.rp.cell (i := 2) rfl
      have uq0 : W.cell? ⟨Q, 0, none⟩ = some (.int .i64 qx) := H1.out.rq.cell (i := 0) rfl
      have uq1 : W.cell? ⟨Q, 1, none⟩ = some (.int .i64 py) := H1.out.rq.cell (i := 1) rfl
      have uq2 : W.cell? ⟨Q, 2, none⟩ = some (.int .i64 qd) := H1.out.rq.cell (i := 2) rfl
      have vp0 : ∀ o : Obj, (W.alloc o).cell? ⟨P, 0, none⟩ = some (.int .i64 px) := fun o => (H1.out.to (bel_al _ o)).rp.cell (i := 0) rfl
      have vp1 : ∀ o : Obj, (W.alloc o).cell? ⟨P, 1, none⟩ = some (.int .i64 py) := fun o => (H1.out.to (bel_al _ o)).rp.cell (i := 1) rfl
      have vp2 : ∀ o : Obj, (W.alloc o).cell? ⟨P, 2, none⟩ = some (.int .i64 pd) := fun o => (H1.out.to (bel_al _ o)).rp.cell (i := 2) rfl
      have vq0 : ∀ o : Obj, (W.alloc o).cell? ⟨Q, 0, none⟩ = some (.int .i64 qx) := fun o => (H1.out.to (bel_al _ o)).rq.cell (i := 0) rfl
      have vq1 : ∀ o : Obj, (W.alloc o).cell? ⟨Q, 1, none⟩ = some (.int .i64 py) := fun o => (H1.out.to (bel_al _ o)).rq.cell (i := 1) rfl
      have vq2 : ∀ o : Obj, (W.alloc o).cell? ⟨Q, 2, none⟩ = some (.int .i64 qd) := fun o => (H1.out.to (bel_al _ o)).rq.cell (i := 2) rfl
      have hgl := rdG_new W (⟨ax, ay, alo, ahi, atol, amat, apin⟩ : Tg) (⟨bx, ay, blo, bhi, btol, bmat, bpin⟩ : Tg) (.cells (csC [(⟨px, py, pd⟩ : Cc), ⟨qx, py, qd⟩]).toArray 29 (0, 0))
      have hcl := rdC_new W (⟨px, py, pd⟩ : Cc) (⟨qx, py, qd⟩ : Cc) (.cells (csG [(⟨ax, ay, alo, ahi, atol, amat, apin⟩ : Tg), ⟨bx, ay, blo, bhi, btol, bmat, bpin⟩]).toArray 27 (0, 0))
      have HQ := Lib.hid (And.intro hgl (And.intro hcl (bel_to H1.out.bel (bel_al2 W (.cells (csG [(⟨ax, ay, alo, ahi, atol, amat, apin⟩ : Tg), ⟨bx, ay, blo, bhi, btol, bmat, bpin⟩]).toArray 27 (0, 0)) (.cells (csC [(⟨px, py, pd⟩ : Cc), ⟨qx, py, qd⟩]).toArray 29 (0, 0))))))
      clear hgl hcl
      go_wp2_with fail
      refine (HCK.out _ _ _ HQ.out.1 HQ.out.2.1).mono ?_
      rintro e w2 ⟨rfl, hbz⟩
      clear ua0 ua1 ua2 ua3 ua4 ua5 ua6 ub0 ub1 ub2 ub3 ub4 ub5 ub6 up0 up1 up2 uq0 uq1 uq2
      clear vp0 vp1 vp2 vq0 vq1 vq2
      have H2 := Lib.hid (H1.out.to (bel_to (bel_al2 W (.cells (csG [(⟨ax, ay, alo, ahi, atol, amat, apin⟩ : Tg), ⟨bx, ay, blo, bhi, btol, bmat, bpin⟩]).toArray 27 (0, 0)) (.cells (csC [(⟨px, py, pd⟩ : Cc), ⟨qx, py, qd⟩]).toArray 29 (0, 0))) hbz))
      clear HQ hbz H1 HCK
      have ua0 : w2.cell? ⟨A, 0, none⟩ = some (.int .i64 ax) := H2.out.ra.cell (i := 0) rfl
      have ua1 : w2.cell? ⟨A, 1, none⟩ = some (.int .i64 ay) := H2.out.ra.cell (i := 1) rfl
      have ua2 : w2.cell? ⟨A, 2, none⟩ = some (.int .i64 alo) := H2.out.ra.cell (i := 2) rfl
      have ua3 : w2.cell? ⟨A, 3, none⟩ = some (.int .i64 ahi) := H2.out.ra.cell (i := 3) rfl
      have ua4 : w2.cell? ⟨A, 4, none⟩ = some (.int .i64 atol) := H2.out.ra.cell (i := 4) rfl
      have ua5 : w2.cell? ⟨A, 5, none⟩ = some (.int .i64 amat) := H2.out.ra.cell (i := 5) rfl
      have ua6 : w2.cell? ⟨A, 6, none⟩ = some (.bool apin) := H2.out.ra.cell (i := 6) rfl
      have up0 : w2.cell? ⟨P, 0, none⟩ = some (.int .i64 px) := H2.out.rp.cell (i := 0) rfl
      have up1 : w2.cell? ⟨P, 1, none⟩ = some (.int .i64 py) := H2.out.rp.cell (i := 1) rfl
      have up2 : w2.cell? ⟨P, 2, none⟩ = some (.int .i64 pd) := H2.out.rp.cell (i := 2) rfl
      go_wp2_with fail
      refine (HZ1.out _ H2.out.bel).mono ?_
      rintro e w3 ⟨rfl, hbz⟩
      have H3 := Lib.hid (H2.out.to hbz)
      clear ua0 ua1 ua2 ua3 ua4 ua5 ua6 up0 up1 up2
      clear hbz H2 HZ1
      have ub0 : w3.cell? ⟨B, 0, none⟩ = some (.int .i64 bx) := H3.out.rb.cell (i := 0) rfl
      have ub1 : w3.cell? ⟨B, 1, none⟩ = some (.int .i64 ay) := H3.out.rb.cell (i := 1) rfl
      have ub2 : w3.cell? ⟨B, 2, none⟩ = some (.int .i64 blo) := H3.out.rb.cell (i := 2) rfl
      have ub3 : w3.cell? ⟨B, 3, none⟩ = some (.int .i64 bhi) := H3.out.rb.cell (i := 3) rfl
      have ub4 : w3.cell? ⟨B, 4, none⟩ = some (.int .i64 btol) := H3.out.rb.cell (i := 4) rfl
      have ub5 : w3.cell? ⟨B, 5, none⟩ = some (.int .i64 bmat) := H3.out.rb.cell (i := 5) rfl
      have ub6 : w3.cell? ⟨B, 6, none⟩ = some (.bool bpin) := H3.out.rb.cell (i := 6) rfl
      have uq0 : w3.cell? ⟨Q, 0, none⟩ = some (.int .i64 qx) := H3.out.rq.cell (i := 0) rfl
      have uq1 : w3.cell? ⟨Q, 1, none⟩ = some (.int .i64 py) := H3.out.rq.cell (i := 1) rfl
      have uq2 : w3.cell? ⟨Q, 2, none⟩ = some (.int .i64 qd) := H3.out.rq.cell (i := 2) rfl
      go_wp2_with fail
      refine (HZ2.out _ H3.out.bel).mono ?_
      rintro e w4 ⟨rfl, hbz⟩
      have H4 := Lib.hid (H3.out.to hbz)
      clear ub0 ub1 ub2 ub3 ub4 ub5 ub6 uq0 uq1 uq2
      clear hbz H3 HZ2
      have ua0 : w4.cell? ⟨A, 0, none⟩ = some (.int .i64 ax) := H4.out.ra.cell (i := 0) rfl
      have ua1 : w4.cell? ⟨A, 1, none⟩ = some (.int .i64 ay) := H4.out.ra.cell (i := 1) rfl
      have ua2 : w4.cell? ⟨A, 2, none⟩ = some (.int .i64 alo) := H4.out.ra.cell (i := 2) rfl
      have ua3 : w4.cell? ⟨A, 3, none⟩ = some (.int .i64 ahi) := H4.out.ra.cell (i := 3) rfl
      have ua4 : w4.cell? ⟨A, 4, none⟩ = some (.int .i64 atol) := H4.out.ra.cell (i := 4) rfl
      have ua5 : w4.cell? ⟨A, 5, none⟩ = some (.int .i64 amat) := H4.out.ra.cell (i := 5) rfl
      have ua6 : w4.cell? ⟨A, 6, none⟩ = some (.bool apin) := H4.out.ra.cell (i := 6) rfl
      have ub0 : w4.cell? ⟨B, 0, none⟩ = some (.int .i64 bx) := H4.out.rb.cell (i := 0) rfl
      have ub1 : w4.cell? ⟨B, 1, none⟩ = some (.int .i64 ay) := H4.out.rb.cell (i := 1) rfl
      have ub2 : w4.cell? ⟨B, 2, none⟩ = some (.int .i64 blo) := H4.out.rb.cell (i := 2) rfl
      have ub3 : w4.cell? ⟨B, 3, none⟩ = some (.int .i64 bhi) := H4.out.rb.cell (i := 3) rfl
      have ub4 : w4.cell? ⟨B, 4, none⟩ = some (.int .i64 btol) := H4.out.rb.cell (i := 4) rfl
      have ub5 : w4.cell? ⟨B, 5, none⟩ = some (.int .i64 bmat) := H4.out.rb.cell (i := 5) rfl
      have ub6 : w4.cell? ⟨B, 6, none⟩ = some (.bool bpin) := H4.out.rb.cell (i := 6) rfl
      have up0 : w4.cell? ⟨P, 0, none⟩ = some (.int .i64 px) := H4.out.rp.cell (i := 0) rfl
      have up1 : w4.cell? ⟨P, 1, none⟩ = some (.int .i64 py) := H4.out.rp.cell (i := 1) rfl
      have up2 : w4.cell? ⟨P, 2, none⟩ = some (.int .i64 pd) := H4.out.rp.cell (i := 2) rfl
      have uq0 : w4.cell? ⟨Q, 0, none⟩ = some (.int .i64 qx) := H4.out.rq.cell (i := 0) rfl
      have uq1 : w4.cell? ⟨Q, 1, none⟩ = some (.int .i64 py) := H4.out.rq.cell (i := 1) rfl
      have uq2 : w4.cell? ⟨Q, 2, none⟩ = some (.int .i64 qd) := H4.out.rq.cell (i := 2) rfl
      have vp0 : ∀ o : Obj, (w4.alloc o).cell? ⟨P, 0, none⟩ = some (.int .i64 px) := fun o => (H4.out.to (bel_al _ o)).rp.cell (i := 0) rfl
      have vp1 : ∀ o : Obj, (w4.alloc o).cell? ⟨P, 1, none⟩ = some (.int .i64 py) := fun o => (H4.out.to (bel_al _ o)).rp.cell (i := 1) rfl
      have vp2 : ∀ o : Obj, (w4.alloc o).cell? ⟨P, 2, none⟩ = some (.int .i64 pd) := fun o => (H4.out.to (bel_al _ o)).rp.cell (i := 2) rfl
      have vq0 : ∀ o : Obj, (w4.alloc o).cell? ⟨Q, 0, none⟩ = some (.int .i64 qx) := fun o => (H4.out.to (bel_al _ o)).rq.cell (i := 0) rfl
      have vq1 : ∀ o : Obj, (w4.alloc o).cell? ⟨Q, 1, none⟩ = some (.int .i64 py) := fun o => (H4.out.to (bel_al _ o)).rq.cell (i := 1) rfl
      have vq2 : ∀ o : Obj, (w4.alloc o).cell? ⟨Q, 2, none⟩ = some (.int .i64 qd) := fun o => (H4.out.to (bel_al _ o)).rq.cell (i := 2) rfl
      have hgl := rdG_new w4 (⟨ax, ay, alo, ahi, atol, amat, apin⟩ : Tg) (⟨bx, ay, blo, bhi, btol, bmat, bpin⟩ : Tg) (.cells (csC [(⟨px, py, pd⟩ : Cc), ⟨qx, py, qd⟩]).toArray 29 (0, 0))
      have hcl := rdC_new w4 (⟨px, py, pd⟩ : Cc) (⟨qx, py, qd⟩ : Cc) (.cells (csG [(⟨ax, ay, alo, ahi, atol, amat, apin⟩ : Tg), ⟨bx, ay, blo, bhi, btol, bmat, bpin⟩]).toArray 27 (0, 0))
      have HQ := Lib.hid (And.intro hgl (And.intro hcl (bel_to H4.out.bel (bel_al2 w4 (.cells (csG [(⟨ax, ay, alo, ahi, atol, amat, apin⟩ : Tg), ⟨bx, ay, blo, bhi, btol, bmat, bpin⟩]).toArray 27 (0, 0)) (.cells (csC [(⟨px, py, pd⟩ : Cc), ⟨qx, py, qd⟩]).toArray 29 (0, 0))))))
      clear hgl hcl
      go_wp2_with fail
      refine (HFT.out _ _ _ HQ.out.2.2 HQ.out.1 HQ.out.2.1).mono ?_
      rintro e w5 ⟨t0, t1, t2, vw, rfl, hsh, hbz⟩
      clear ua0 ua1 ua2 ua3 ua4 ua5 ua6 ub0 ub1 ub2 ub3 ub4 ub5 ub6 up0 up1 up2 uq0 uq1 uq2
      clear vp0 vp1 vp2 vq0 vq1 vq2
      have H5 := Lib.hid (H4.out.to (bel_to (bel_to (bel_al2 w4 (.cells (csG [(⟨ax, ay, alo, ahi, atol, amat, apin⟩ : Tg), ⟨bx, ay, blo, bhi, btol, bmat, bpin⟩]).toArray 27 (0, 0)) (.cells (csC [(⟨px, py, pd⟩ : Cc), ⟨qx, py, qd⟩]).toArray 29 (0, 0))) hbz) (bel_al w5 (.cells #[.string (bs t0), .string (bs t1), .string (bs t2)] 41 (0, 0)))))
      clear HQ hbz H4 HFT
      obtain ⟨Aw, nw, cw, rfl⟩ : ∃ A n c, vw = .slice A n c := by
        rcases hsh with rfl | ⟨a, n, c, rfl⟩
        · exact ⟨_, _, _, rfl⟩
        · exact ⟨_, _, _, rfl⟩
      clear hsh
      have ua0 : (w5.alloc (.cells #[.string (bs t0), .string (bs t1), .string (bs t2)] 41 (0, 0))).cell? ⟨A, 0, none⟩ = some (.int .i64 ax) := H5.out.ra.cell (i := 0) rfl
      have ub0 : (w5.alloc (.cells #[.string (bs t0), .string (bs t1), .string (bs t2)] 41 (0, 0))).cell? ⟨B, 0, none⟩ = some (.int .i64 bx) := H5.out.rb.cell (i := 0) rfl
      have up0 : (w5.alloc (.cells #[.string (bs t0), .string (bs t1), .string (bs t2)] 41 (0, 0))).cell? ⟨P, 0, none⟩ = some (.int .i64 px) := H5.out.rp.cell (i := 0) rfl
      have uq0 : (w5.alloc (.cells #[.string (bs t0), .string (bs t1), .string (bs t2)] 41 (0, 0))).cell? ⟨Q, 0, none⟩ = some (.int .i64 qx) := H5.out.rq.cell (i := 0) rfl
      go_wp2_with fail
      refine (HA.out _ H5.out.bel).mono ?_
      rintro e w6 ⟨rfl, hbz⟩
      have HF := Lib.hid (bel_to H5.out.bel hbz)
      clear ua0 ub0 up0 uq0 hbz H5 HA
      go_wp2
      go_ret
      exact ⟨rfl, HF.out⟩
    have x0 : W.cell? ⟨w.heap.size + 1, 0, none⟩ = some (.int .i64 px) := HPA.out.rc.cell (i := 0) rfl
    have y0 : ∀ o : Obj, (W.alloc o).cell? ⟨w.heap.size + 1, 0, none⟩ = some (.int .i64 px) := fun o => (HPA.out.rc.alloc o).cell (i := 0) rfl
    have z0 : ∀ o o2 : Obj, ((W.alloc o).alloc o2).cell? ⟨w.heap.size + 1, 0, none⟩ = some (.int .i64 px) := fun o o2 => ((HPA.out.rc.alloc o).alloc o2).cell (i := 0) rfl
    have x1 : W.cell? ⟨w.heap.size + 1, 1, none⟩ = some (.int .i64 py) := HPA.out.rc.cell (i := 1) rfl
    have y1 : ∀ o : Obj, (W.alloc o).cell? ⟨w.heap.size + 1, 1, none⟩ = some (.int .i64 py) := fun o => (HPA.out.rc.alloc o).cell (i := 1) rfl
    have z1 : ∀ o o2 : Obj, ((W.alloc o).alloc o2).cell? ⟨w.heap.size + 1, 1, none⟩ = some (.int .i64 py) := fun o o2 => ((HPA.out.rc.alloc o).alloc o2).cell (i := 1) rfl
    have x2 : W.cell? ⟨w.heap.size + 1, 2, none⟩ = some (.int .i64 pd) := HPA.out.rc.cell (i := 2) rfl
    have y2 : ∀ o : Obj, (W.alloc o).cell? ⟨w.heap.size + 1, 2, none⟩ = some (.int .i64 pd) := fun o => (HPA.out.rc.alloc o).cell (i := 2) rfl
    have z2 : ∀ o o2 : Obj, ((W.alloc o).alloc o2).cell? ⟨w.heap.size + 1, 2, none⟩ = some (.int .i64 pd) := fun o o2 => ((HPA.out.rc.alloc o).alloc o2).cell (i := 2) rfl
    have x3 : W.cell? ⟨w.heap.size + 1, 3, none⟩ = some (.int .i64 qx) := HPA.out.rc.cell (i := 3) rfl
    have y3 : ∀ o : Obj, (W.alloc o).cell? ⟨w.heap.size + 1, 3, none⟩ = some (.int .i64 qx) := fun o => (HPA.out.rc.alloc o).cell (i := 3) rfl
    have z3 : ∀ o o2 : Obj, ((W.alloc o).alloc o2).cell? ⟨w.heap.size + 1, 3, none⟩ = some (.int .i64 qx) := fun o o2 => ((HPA.out.rc.alloc o).alloc o2).cell (i := 3) rfl
    have x4 : W.cell? ⟨w.heap.size + 1, 4, none⟩ = some (.int .i64 qy) := HPA.out.rc.cell (i := 4) rfl
    have y4 : ∀ o : Obj, (W.alloc o).cell? ⟨w.heap.size + 1, 4, none⟩ = some (.int .i64 qy) := fun o => (HPA.out.rc.alloc o).cell (i := 4) rfl
    have z4 : ∀ o o2 : Obj, ((W.alloc o).alloc o2).cell? ⟨w.heap.size + 1, 4, none⟩ = some (.int .i64 qy) := fun o o2 => ((HPA.out.rc.alloc o).alloc o2).cell (i := 4) rfl
    have x5 : W.cell? ⟨w.heap.size + 1, 5, none⟩ = some (.int .i64 qd) := HPA.out.rc.cell (i := 5) rfl
    have y5 : ∀ o : Obj, (W.alloc o).cell? ⟨w.heap.size + 1, 5, none⟩ = some (.int .i64 qd) := fun o => (HPA.out.rc.alloc o).cell (i := 5) rfl
    have z5 : ∀ o o2 : Obj, ((W.alloc o).alloc o2).cell? ⟨w.heap.size + 1, 5, none⟩ = some (.int .i64 qd) := fun o o2 => ((HPA.out.rc.alloc o).alloc o2).cell (i := 5) rfl
    go_region
    · exact H2 _ _ _ (by omega) HPA.out.two0
    · exact H2 _ _ _ (by omega) HPA.out.two1
  go_region
  · exact H1 _ _ _ (by omega) (PA.new0 w _ ⟨ax, ay, alo, ahi, atol, amat, apin⟩ ⟨bx, bY, blo, bhi, btol, bmat, bpin⟩ ⟨px, py, pd⟩ ⟨qx, qy, qd⟩)
  · exact H1 _ _ _ (by omega) (PA.new1 w _ ⟨ax, ay, alo, ahi, atol, amat, apin⟩ ⟨bx, bY, blo, bhi, btol, bmat, bpin⟩ ⟨px, py, pd⟩ ⟨qx, qy, qd⟩)
theorem pairs_law (a b : Tg) (p q : Cc) (w : World) (hg : Glob w) (hs : Sig w) : Calls Tryz.prog 7 #[tg2 a b, cc2 p q] w (Ret w (.bool true)) := by
  by_cases h : chk46 [a, { b with y := a.y }] [p, { q with y := p.y }] = 0
  · exact pairs_ok a b p q w hg hs h
  · exact pairs_bad a b p q w hg hs h
end W
end Go.Proofs.YtfcffheboncmbaaGreatDoor
end
