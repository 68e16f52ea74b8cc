/-
  Chapter 26 of the program: 'Collect' where an element is not right, or where there are too many; and plain facts of the right ones.
  Chapter 26 of the program: 'Collect' of right elements.
  Chapter 26 of the program: 'Collect' of right elements, walked.
-/
import Derived.Test.YtgjfiaadnecilaaGreatDoorKS
import Derived.Test.YtgjfiaadnecilaaGreatDoorKN
namespace Go.Proofs.YtgjfiaadnecilaaGreatDoor
open Go Go.RowKit Go.Deep
namespace M
/-- What 'Collect' says of an element. -/
noncomputable def badC (x : WT) : Nat := if chk x.2 ≠ 0 then chk x.2 else if zv x.2 < 0 ∨ ¬ okv x.1 = true then 2 else 0
noncomputable def chkC : List WT → Nat
  | [] => 0
  | x :: t => if badC x = 0 then chkC t else badC x
theorem chkC_drop (l : List WT) (i : Nat) (h : i < l.length) : chkC (l.drop i) = if badC l[i] = 0 then chkC (l.drop (i + 1)) else badC l[i] := by
  rw [List.drop_eq_getElem_cons h, chkC]
theorem chkC_right : ∀ {l : List WT}, chkC l = 0 → ∃ zl, l = tx zl ∧ ∀ x ∈ zl, 0 ≤ x.2 ∧ Ok x.2 ∧ okv x.1 = true
  | [], _ => ⟨[], rfl, fun x hx => by cases hx⟩
  | (v, s) :: t, h => by
    rw [chkC] at h
    by_cases hb : badC (v, s) = 0
    · rw [if_pos hb] at h
      obtain ⟨zl, e, hz⟩ := chkC_right h
      unfold badC at hb
      simp only at hb
      by_cases hc : chk s = 0
      · rw [if_neg (by simp [hc])] at hb
        obtain ⟨z, rfl, hzo⟩ := ok_of_chk hc
        rw [zv_I] at hb
        by_cases hr : z < 0 ∨ ¬ okv v = true
        · rw [if_pos hr] at hb; cases hb
        · rw [not_or, Decidable.not_not] at hr
          refine ⟨(v, z) :: zl, by rw [e]; rfl, fun x hx => ?_⟩
          rcases List.mem_cons.1 hx with rfl | hx
          · exact ⟨by simp only; omega, hzo, hr.2⟩
          · exact hz x hx
      · rw [if_pos hc] at hb; exact absurd hb hc
    · rw [if_neg hb] at h; exact absurd h hb
end M
namespace W
open M
attribute [local go_sem] bs_size bs_toList bs_get bs_extract bs_append bs_lit0 bs_lit1 lit1_bs
set_option maxHeartbeats 1000000
set_option maxRecDepth 20000
theorem collect_many (A : Option Addr) (n cap : Nat) (w : World) (h : 4096 < n) (hn : n ≤ maxLen) :
    Calls Tryz.prog 44 #[.slice A n cap] w (Ret w (.tuple #[.slice none 0 0, .int .i64 5])) := by
  unfold maxLen at hn
  have h1 : decide ((n : Int) > 4096) = true := by simp; omega
  go_enter Tryz.func44, Tryz.ntmps44
  go_wp2
  go_ret2
  exact Ret.of rfl (Below.refl _ _)
theorem collect_bad (l : List WT) (b o cap : Nat) (w : World) (hw : WSl w b o l) (hl : l.length ≤ 4096) (hs : ∀ x ∈ l, x.2.length ≤ 90000) (h0 : chkC l ≠ 0) :
    Calls Tryz.prog 44 #[.slice (some ⟨b, o, none⟩) l.length cap] w (Ret w (.tuple #[.slice none 0 0, .int .i64 ((chkC l : Nat) : Int)])) := by
  have h1 : decide ((l.length : Int) > 4096) = false := by simp; omega
  have HW := Lib.hid hw
  have HS := Lib.hid hs
  have H0 := Lib.hid h0
  generalize hch : ((chkC l : Nat) : Int) = ch
  have HCH := Lib.hid hch
  clear hw hs hch h0
  go_enter Tryz.func44, Tryz.ntmps44
  go_wp2
  go_loopw [20] (fun iv wr => ∃ i : Nat, iv = .int .i64 (i : Int) ∧ i ≤ l.length ∧ Hid (chkC l = chkC (l.drop i)) ∧ Below w.heap.size w wr) (fun iv _ => l.length - (intOf iv).toNat)
  case atStart => exact ⟨0, rfl, by omega, (rfl : chkC l = chkC (l.drop 0)), Below.refl _ _⟩
  case round =>
    obtain ⟨i, rfl, hi, hk, hbw⟩ := hrel
    by_cases hlt : i < l.length
    · have hwr := HW.out.below' hbw
      have cv := hwr.val i hlt
      have cw := hwr.wt i hlt
      have hk2 := hk.out
      rw [chkC_drop l i hlt] at hk2
      have hlen := HS.out _ (List.getElem_mem hlt)
      clear hk hwr
      obtain ⟨x, hx⟩ : ∃ x, l[i] = x := ⟨_, rfl⟩
      rw [hx] at cv cw hk2 hlen
      obtain ⟨v, s⟩ := x
      simp only at cv cw hlen
      have HX := Lib.hid hx
      clear hx
      by_cases hc : chk s = 0
      · obtain ⟨z, rfl, hz⟩ := ok_of_chk hc
        have hv := vcheck_any (I z)
        rw [hc] at hv
        have HV := Lib.hid hv
        have HSG := Lib.hid (fun w' => dsign_I z w' hz)
        by_cases hz0 : z < 0
        · have hb : badC (v, I z) = 2 := by
            unfold badC; simp only; rw [hc, if_neg (by decide), zv_I, if_pos (Or.inl hz0)]
          rw [hb, if_neg (by decide)] at hk2
          have HK := Lib.hid hk2
          have hsg : Int.sign z < 0 := by rcases sign_cases z with ⟨_, h⟩ | ⟨_, h⟩ | ⟨_, h⟩ <;> omega
          clear hk2 hb hv hc hz hz0
          generalize Int.sign z = sg at *
          go_wp2_with fail
          refine (HV.out _ (by omega)).mono ?_
          rintro e w1 ⟨rfl, hb1⟩
          have hrow := (Row.new wr 61 [.int .i64 v, .string (bs (I z))]).below' hb1
          have c1 := hrow.cell (i := 1) rfl
          have hb1' := alloc_then hb1
          go_wp2_with fail
          refine (HSG.out _).mono ?_
          rintro e w2 ⟨rfl, hb2⟩
          go_wp2
          go_ret2
          exact Ret.of (by rw [← HCH.out, HK.out]; rfl) (hbw.trans ((Below.then hb1' hb2).mono hbw.size))
        · have hsg : 0 ≤ Int.sign z := by rcases sign_cases z with ⟨_, h⟩ | ⟨_, h⟩ | ⟨_, h⟩ <;> omega
          have hsd : decide (Int.sign z < 0) = false := decide_eq_false (by omega)
          have HOV := Lib.hid (fun w' => within_any v w')
          by_cases hov : okv v = true
          · have hb : badC (v, I z) = 0 := by
              unfold badC; simp only; rw [hc, if_neg (by decide), zv_I, if_neg (by rw [hov]; simp; omega)]
            rw [hb, if_pos rfl] at hk2
            rw [hov] at HOV
            have HK := Lib.hid hk2
            clear hk2 hb hv hc hz hz0 hov hsg
            generalize Int.sign z = sg at *
            go_wp2_with fail
            refine (HV.out _ (by omega)).mono ?_
            rintro e w1 ⟨rfl, hb1⟩
            have hrow := (Row.new wr 61 [.int .i64 v, .string (bs (I z))]).below' hb1
            have c1 := hrow.cell (i := 1) rfl
            have hb1' := alloc_then hb1
            go_wp2_with fail
            refine (HSG.out _).mono ?_
            rintro e w2 ⟨rfl, hb2⟩
            have hb2' := Below.then hb1' hb2
            have c2 := (hrow.below' hb2).cell (i := 0) rfl
            clear hb1 hb2 c1 hb1' cv cw
            go_wp2_with fail
            refine (HOV.out _).mono ?_
            rintro e w' ⟨rfl, rfl⟩
            go_wp2
            go_roundw
            case rel => exact ⟨i + 1, by go_num, by omega, HK, hbw.trans (hb2'.mono hbw.size)⟩
            case measure => simp [intOf]; omega
          · have hb : badC (v, I z) = 2 := by
              unfold badC; simp only; rw [hc, if_neg (by decide), zv_I, if_pos (Or.inr hov)]
            rw [hb, if_neg (by decide)] at hk2
            rw [Bool.eq_false_iff.2 hov] at HOV
            have HK := Lib.hid hk2
            clear hk2 hb hv hc hz hz0 hov hsg
            generalize Int.sign z = sg at *
            go_wp2_with fail
            refine (HV.out _ (by omega)).mono ?_
            rintro e w1 ⟨rfl, hb1⟩
            have hrow := (Row.new wr 61 [.int .i64 v, .string (bs (I z))]).below' hb1
            have c1 := hrow.cell (i := 1) rfl
            have hb1' := alloc_then hb1
            go_wp2_with fail
            refine (HSG.out _).mono ?_
            rintro e w2 ⟨rfl, hb2⟩
            have hb2' := Below.then hb1' hb2
            have c2 := (hrow.below' hb2).cell (i := 0) rfl
            clear hb1 hb2 c1 hb1' cv cw
            go_wp2_with fail
            refine (HOV.out _).mono ?_
            rintro e w' ⟨rfl, rfl⟩
            go_wp2
            go_ret2
            exact Ret.of (by rw [← HCH.out, HK.out]; rfl) (hbw.trans (hb2'.mono hbw.size))
      · have hb : badC (v, s) = chk s := by
          unfold badC; simp only; rw [if_pos hc]
        rw [hb, if_neg hc] at hk2
        have HK := Lib.hid hk2
        have HV := Lib.hid (vcheck_any s)
        have hcz : (((chk s : Nat) : Int) == 0) = false := by rw [beq_eq_false_iff_ne]; omega
        clear hk2 hb hc
        generalize hcs : ((chk s : Nat) : Int) = cs at *
        have HCS := Lib.hid hcs
        clear hcs
        go_wp2_with fail
        refine (HV.out _ (by omega)).mono ?_
        rintro e w1 ⟨rfl, hb1⟩
        have hb1' := alloc_then hb1
        go_wp2
        go_ret2
        exact Ret.of (by rw [← HCH.out, HK.out, HCS.out]; rfl) (hbw.trans (hb1'.mono hbw.size))
    · obtain rfl : i = l.length := by omega
      have := hk.out
      rw [List.drop_length] at this
      exact absurd (this.trans rfl) H0.out
end W
end Go.Proofs.YtgjfiaadnecilaaGreatDoor
namespace Go.Proofs.YtgjfiaadnecilaaGreatDoor
open Go Go.RowKit Go.Deep
namespace M
/-- What has been collected, while some values are still to come. -/
structure Got (zl zs : List ZT) (left : Lit → Bool) : Prop where
  nod : zs.Pairwise (fun a b => a.1 ≠ b.1)
  mem : ∀ x, x ∈ zs ↔ keyIn zl x.1 ∧ left (.int .i64 x.1) = false ∧ x.2 = sumAt zl x.1 ∧ x.2 ≠ 0
theorem same_i64 (a b : Int) : (Lit.int .i64 a).sameKey (.int .i64 b) = decide (a = b) := by
  by_cases h : a = b
  · subst h; rw [WideAt.sameKey_self (show WideAt.IsKeyLit (Lit.int .i64 a) from trivial)]; simp
  · rw [Maps.sameKey_ne (by intro e; injection e with _ e; exact h e)]; simp [h]
theorem Got.start {zl : List ZT} {left : Lit → Bool} (h : ∀ v, keyIn zl v → left (.int .i64 v) = true) : Got zl [] left :=
  ⟨List.Pairwise.nil, fun x => ⟨fun hx => by (cases hx), fun ⟨h1, h2, _⟩ => by rw [h x.1 h1] at h2; cases h2⟩⟩
theorem Got.skip {zl zs : List ZT} {left : Lit → Bool} {v : Int} (h : Got zl zs left) (h0 : sumAt zl v = 0) : Got zl zs (fun z => left z && !z.sameKey (.int .i64 v)) := by
  refine ⟨h.nod, fun x => ?_⟩
  rw [h.mem x, same_i64]
  constructor
  · rintro ⟨a, b, c, d⟩; exact ⟨a, by rw [b]; rfl, c, d⟩
  · rintro ⟨a, b, c, d⟩
    by_cases e : x.1 = v
    · rw [e, h0] at c; exact absurd c d
    · rw [decide_eq_false e] at b; exact ⟨a, by simpa using b, c, d⟩
theorem Got.add {zl zs : List ZT} {left : Lit → Bool} {v : Int} (h : Got zl zs left) (hk : keyIn zl v) (hl : left (.int .i64 v) = true) (h0 : sumAt zl v ≠ 0) : Got zl (zs ++ [(v, sumAt zl v)]) (fun z => left z && !z.sameKey (.int .i64 v)) := by
  refine ⟨List.pairwise_append.2 ⟨h.nod, List.pairwise_singleton _ _, fun a ha b hb => ?_⟩, fun x => ?_⟩
  · rw [List.mem_singleton] at hb
    subst hb
    intro e
    have := ((h.mem a).1 ha).2.1
    simp only at e
    rw [e, hl] at this
    cases this
  · rw [List.mem_append, h.mem x, same_i64, List.mem_singleton]
    constructor
    · rintro (⟨a, b, c, d⟩ | e)
      · exact ⟨a, by rw [b]; rfl, c, d⟩
      · subst e; exact ⟨hk, by simp, rfl, h0⟩
    · rintro ⟨a, b, c, d⟩
      by_cases e : x.1 = v
      · right
        obtain ⟨x1, x2⟩ := x
        simp only at e c
        rw [c, e]
      · left; rw [decide_eq_false e] at b; exact ⟨a, by simpa using b, c, d⟩
theorem Got.none {zl zs : List ZT} {left : Lit → Bool} (h : Got zl zs left) (hl : ∀ kl, left kl = false) : ∀ x, x ∈ zs ↔ keyIn zl x.1 ∧ x.2 = sumAt zl x.1 ∧ x.2 ≠ 0 := fun x => by
  rw [h.mem x]
  exact ⟨fun ⟨a, _, c, d⟩ => ⟨a, c, d⟩, fun ⟨a, c, d⟩ => ⟨a, hl _, c, d⟩⟩
theorem Got.empty {zl : List ZT} {left : Lit → Bool} (h : Got zl [] left) (hl : ∀ kl, left kl = false) : gathF zl = [] :=
  (gathF_of List.Pairwise.nil fun x => h.none hl x).symm
theorem tx_back : ∀ zs : List ZT, (tx zs).map (fun y => (y.1, zv y.2)) = zs
  | [] => rfl
  | x :: t => by
    show (x.1, zv (I x.2)) :: (tx t).map _ = _
    rw [zv_I, tx_back t]
theorem Got.sorted {zl zs : List ZT} {left : Lit → Bool} (h : Got zl zs left) (hl : ∀ kl, left kl = false) {l' : List WT} (hp : l'.Perm (tx zs)) (hs : l'.Pairwise fun a b => ¬ b.1 < a.1) : l' = tx (gathF zl) := by
  obtain ⟨ys, hys⟩ : ∃ ys, ys = l'.map (fun y => (y.1, zv y.2)) := ⟨_, rfl⟩
  have hp2 : ys.Perm zs := by
    have := hp.map (fun y : WT => (y.1, zv y.2))
    rwa [tx_back, ← hys] at this
  have hl' : l' = tx ys := by
    rw [hys]
    unfold tx
    rw [List.map_map]
    conv => lhs; rw [← List.map_id l']
    apply List.map_congr_left
    intro y hy
    obtain ⟨x, hx, rfl⟩ := List.mem_map.1 (hp.mem_iff.1 hy)
    show (x.1, I x.2) = (x.1, I (zv (I x.2)))
    rw [zv_I]
  have hn : ys.Pairwise (fun a b => a.1 ≠ b.1) := (hp2.pairwise_iff (fun {a b} (e : a.1 ≠ b.1) => e.symm)).2 h.nod
  have ha : Asc ys := by
    have h1 : ys.Pairwise (fun a b => ¬ b.1 < a.1) := by
      rw [hys, List.pairwise_map]; exact hs
    exact (h1.and hn).imp fun ⟨a, b⟩ => by omega
  rw [hl', gathF_of ha (fun x => by rw [hp2.mem_iff]; exact h.none hl x)]
end M
theorem grown_cell2 {a b : World} {row : Option Nat} (h : a.grownBy b row) {p : Addr} (hlt : p.block < a.heap.size) (hne : some p.block ≠ row) : b.cell? p = a.cell? p := by
  unfold World.cell?; rw [h.block p.block hlt hne]
/-- Behind the append the row is laid back into the map. -/
theorem grp_step {w wr X w2 : World} {bm i : Nat} {l : List M.ZT} {v z : Int} {u v2 c : Value} {m : List (List UInt8)} {Ab : Nat} (hAb : wr.heap.size = Ab)
    (hx : GBack wr (bm + 1) bm i l v u ∧ wr.grownBy X u.ownBlock ∧ Below w.heap.size w X ∧ w.heap.size ≤ bm ∧ bm + 1 ≤ X.heap.size ∧ OwnS X (bm + 1) u m ∧ some Ab ≠ u.ownBlock ∧ Ab < X.heap.size ∧ X.cell? ⟨Ab, 0, none⟩ = some c)
    (ho2 : OwnS w2 (bm + 1) v2 ((M.wAt l v).map M.I ++ [M.I z])) (hg2 : X.grownBy w2 u.ownBlock) (hloc : v2.ownBlock = u.ownBlock ∨ v2.ownBlock = some X.heap.size) :
    ∃ w3, (Instr.mapUpdate 122 (.map (some bm)) (.int .i64 v) v2).run Tryz.prog w2 = .ok () w3 ∧ w2.cell? ⟨Ab, 0, none⟩ = some c ∧ Hid (Grp w3 (bm + 1) bm (i + 1) (l ++ [(v, z)]) ∧ Below w.heap.size w w3 ∧ bm + 1 ≤ w3.heap.size) := by
  subst hAb
  obtain ⟨hbk, hgx, hbx, hbs, hsx, hu, hoff, hlt, hc⟩ := hx
  obtain ⟨w3, hrun, hgp, hg3⟩ := hbk w2 v2 z (hgx.trans hg2) ho2 (hloc.imp id (fun h => ⟨_, h, Nat.le_of_lt hlt⟩))
  have hb2 := RowKit.Below.grown hbx hg2 hbx.size (fun j hj => by have h1 := (World.ownsRow.lt hu j hj).1; omega)
  exact ⟨w3, hrun, (grown_cell2 hg2 (p := ⟨wr.heap.size, 0, none⟩) hlt hoff).trans hc, Lib.hid ⟨hgp, RowKit.Below.grown hb2 hg3 hb2.size (fun j hj => by injection hj with hj; omega), Nat.le_trans hsx (Nat.le_trans hg2.size hg3.size)⟩⟩
/-- What 'Collect' returns. -/
def ColP (r : List M.ZT) (w : World) (e : Ending) (w' : World) : Prop :=
  if r = [] then Ret w (.tuple #[.slice none 0 0, .int .i64 13]) e w' else W.ListP true (M.tx r) 0 w e w'
/-- The third loop: the map, the row of what was collected, the rows of the weights. -/
def Lp3 (w wr : World) (bm r : Nat) (zl : List M.ZT) (D : DataW Value) (V : Int → Value) (left : Lit → Bool) (cnt : Nat) (zs : List M.ZT) (vo : Value) : Prop :=
  wr.ranges Tryz.prog 3 Rv bm r zl.length D left cnt ∧ OwnW wr (r + 1) vo (M.tx zs) ∧ (∀ v, M.keyIn zl v → OwnS wr (bm + 1) (V v) ((M.wAt zl v).map M.I)) ∧ Below w.heap.size w wr ∧ r + 1 ≤ wr.heap.size
/-- What does not change in it. -/
def St3 (w : World) (bm r : Nat) (zl : List M.ZT) (D : DataW Value) (V : Int → Value) : Prop :=
  w.heap.size ≤ bm ∧ bm < r ∧ (∀ v, M.keyIn zl v → ∀ g, (V v).ownBlock = some g → bm + 1 ≤ g ∧ g < r) ∧ (∀ kl, Maps.has D kl = true → ∃ v, kl = Lit.int IntKind.i64 v ∧ M.keyIn zl v) ∧
    ∀ v, M.keyIn zl v → Maps.has D (Lit.int IntKind.i64 v) = true ∧ ∀ z, D.atKey (Lit.int IntKind.i64 v) z = DataW.held (V v)
theorem size_le {w : World} {k : TypeId} {R : Value → Option (DataW Value × List MemPlace)} {b n : Nat} {D : DataW Value} (h : w.ownsMap Tryz.prog k R b n D) : Maps.size D ≤ n := by
  obtain ⟨es, clock, _, _, hs, rfl⟩ := h
  show (List.foldr DataW.insert [] _).length ≤ n
  rw [length_sorted]; simpa using hs
theorem lp3_step {w wr w1 : World} {bm r : Nat} {zl : List M.ZT} {D : DataW Value} {V : Int → Value} {left : Lit → Bool} {cnt cnt1 : Nat} {zs : List M.ZT} {vo : Value} (hs : St3 w bm r zl D V) (h : Lp3 w wr bm r zl D V left cnt zs vo)
    {x : Int} {c : Value} {kl : Lit} {yd : DataW Value} {yp : List MemPlace} (hkey : keyOf Tryz.prog 3 (.int .i64 x) = some kl) (hv : Rv c = some (yd, yp)) (hat : ∀ zd, D.atKey kl zd = yd)
    (hrg : w1.ranges Tryz.prog 3 Rv bm r zl.length D (fun z => left z && !z.sameKey kl) cnt1) (hg : wr.grownBy w1 (some r)) (hsz : w1.heap.size = wr.heap.size) :
    kl = .int .i64 x ∧ M.keyIn zl x ∧ c = V x ∧ Lp3 w w1 bm r zl D V (fun z => left z && !z.sameKey kl) cnt1 zs vo := by
  obtain ⟨s1, s2, s3, s4, s5⟩ := hs
  obtain ⟨p1, p2, p3, p4, p5⟩ := h
  obtain ⟨x', ex, ek, _⟩ := Maps.keyOf_int_inv Tryz.underlying3 hkey
  injection ex with _ ex
  subst ex
  unfold Rv at hv
  injection hv with hv
  injection hv with hv _
  have hhas : Maps.has D kl = true := by
    rw [← Bool.not_eq_false]; intro e
    have h1 := Maps.atKey_of_not_has e .nil
    rw [hat .nil, ← hv] at h1
    cases h1
  obtain ⟨v, ev, hkv⟩ := s4 kl hhas
  rw [ek] at ev
  injection ev with _ ev
  subst ev
  have hc : c = V x := by
    have h1 := (s5 x hkv).2 .nil
    rw [← ek, hat .nil, ← hv] at h1
    injection h1
  refine ⟨ek, hkv, hc, hrg, World.ownsRow.kept p2 hg (Or.inr fun e => ?_), fun v hv => (p3 v hv).kept hg (Or.inr fun e => ?_), RowKit.Below.grown p4 hg p4.size (fun j hj => by injection hj with hj; omega), by omega⟩
  · have := (World.ownsRow.lt p2 r e).1; omega
  · have := (s3 v hv r e).2; omega
theorem lp3_below {w w1 w2 : World} {bm r : Nat} {zl : List M.ZT} {D : DataW Value} {V : Int → Value} {left : Lit → Bool} {cnt : Nat} {zs : List M.ZT} {vo : Value} (h : Lp3 w w1 bm r zl D V left cnt zs vo) (hb : Below w1.heap.size w1 w2) : Lp3 w w2 bm r zl D V left cnt zs vo := by
  obtain ⟨p1, p2, p3, p4, p5⟩ := h
  have hg := grown_below hb
  exact ⟨p1.kept hg (by simp) (by simp), OwnW.below p2 hb, fun v hv => (p3 v hv).kept hg (Classical.em _), p4.trans (hb.mono p4.size), Nat.le_trans p5 hb.size⟩
theorem lp3_app {w w2 w3 : World} {bm r : Nat} {zl : List M.ZT} {D : DataW Value} {V : Int → Value} {left : Lit → Bool} {cnt : Nat} {zs : List M.ZT} {vo v' : Value} {o : Obj} {z : M.ZT} (hs : St3 w bm r zl D V) (h : Lp3 w w2 bm r zl D V left cnt zs vo)
    (hown : OwnW w3 (r + 1) v' (M.tx zs ++ [(z.1, M.I z.2)])) (hg : (w2.alloc o).grownBy w3 vo.ownBlock) : Lp3 w w3 bm r zl D V left cnt (zs ++ [z]) v' := by
  obtain ⟨s1, s2, s3, _, _⟩ := hs
  obtain ⟨p1, p2, p3, p4, p5⟩ := h
  have hg2 : w2.grownBy w3 vo.ownBlock := ((World.grownBy_alloc w2 o none).but _).trans hg
  have hge : ∀ j, vo.ownBlock = some j → r + 1 ≤ j := fun j hj => (World.ownsRow.lt p2 j hj).1
  refine ⟨p1.kept hg2 (fun e => ?_) (fun e => ?_), by rw [M.tx_append]; exact hown, fun v hv => (p3 v hv).kept hg2 (Or.inr fun e => ?_), RowKit.Below.grown p4 hg2 p4.size (fun j hj => by have := hge j hj; omega), Nat.le_trans p5 hg2.size⟩
  · have := hge bm e.symm; omega
  · have := hge r e.symm; omega
  · obtain ⟨g, hgb⟩ := (p3 v hv).blk (fun e => M.wAt_key.1 hv (List.map_eq_nil_iff.1 e))
    have h1 := (s3 v hv g hgb).2
    rw [hgb] at e
    have := hge g e.symm
    omega
theorem wpList_app_rdg {ops : Array Oper} {rest : List Oper} {o : Oper} {a : Act} {Q : Exit → Act → World → Prop} {w : World} {B : Nat} {v xv : Value} {l m : List M.WT} (hgd : o.guard = none) (s x : Operand)
    (ho : o.op = .call { callee := .builtin .append, args := #[s, x], argTypes := #[22, 22] }) (hs : a.eval s = v) (hx : a.eval x = xv)
    (h : OwnW w B v l) (hsrc : SrcW w xv m) (hB : B ≤ w.heap.size) (hn : l.length + m.length ≤ 1000000000)
    (hK : ∀ v' w', OwnW w' B v' (l ++ m) → w.grownBy w' v.ownBlock → wpList Tryz.prog ops Q rest (a.put o.dst v') w') : wpList Tryz.prog ops Q (o :: rest) a w := by
  refine wpList_plain hgd fun _ hK2 => ?_
  have hr : ∃ v' w', (Builtin.append_ #[22, 22] o.type #[v, xv]).run Tryz.prog w = .ok v' w' ∧ OwnW w' B v' (l ++ m) ∧ w.grownBy w' v.ownBlock := by
    obtain ⟨i, h1, h2, h3, h4⟩ := info_parts infoWt
    rcases hsrc with ⟨rfl, rfl⟩ | ⟨b, o2, cap, rfl, hc⟩
    · refine ⟨v, w, run_append_owned_none (P := Tryz.prog) (w := w) B _ o.type _ i 2 Tryz.underlying22 h1 v l.length (wcs l) h, ?_, grown_refl _ _⟩
      rw [List.append_nil]; exact h
    · have hadd : ∀ j, (⟨b, o2, none⟩ : Addr).add j = ⟨b, o2 + j, none⟩ := fun j => by unfold Addr.add; split <;> simp_all
      obtain ⟨v', w', k1, k2, k3, _⟩ := run_append_own (P := Tryz.prog) w B _ o.type _ i _ 2 24 Tryz.underlying22 h1 h2 h3 h4 rfl (by decide) v l.length (wcs l) h ⟨b, o2, none⟩ m.length cap (wcs m) (wcs_len m)
        (fun j u hj => by rw [hadd]; exact hc j u hj) (wcs_one m) (by unfold maxLen; omega) (by omega) hB
      refine ⟨v', w', k1, ?_, k3⟩
      unfold OwnW
      rw [wcs_append, List.length_append]
      exact k2
  obtain ⟨v', w', hr, h2, h3⟩ := hr
  unfold Oper.wp execOp
  simp only [ho, resolve, invoke, builtin, Sem.run_bind, Sem.run_pure, Result.andThen_ok, List.map_toArray, List.map_cons, List.map_nil, hs, hx, hr]
  exact hK2 _ _ (hK v' w' h2 h3)
end Go.Proofs.YtgjfiaadnecilaaGreatDoor
namespace Go.Proofs.YtgjfiaadnecilaaGreatDoor
open Go Go.RowKit Go.Deep
namespace W
open M
attribute [local go_sem] bs_size bs_toList bs_get bs_extract bs_append bs_lit0 bs_lit1 lit1_bs
set_option maxHeartbeats 2000000
set_option maxRecDepth 20000
theorem collect_ok (zl : List ZT) (A : Option Addr) (cap : Nat) (w : World) (hg : Glob w) (hw : zl ≠ [] → ∃ b o, A = some ⟨b, o, none⟩ ∧ WSl w b o (tx zl)) (hl : zl.length ≤ 100) (hz : ∀ x ∈ zl, 0 ≤ x.2 ∧ x.2.natAbs < 10 ^ 40 ∧ okv x.1 = true) :
    Calls Tryz.prog 44 #[.slice A zl.length cap] w (ColP (gathF zl) w) := by
  have h1 : decide ((zl.length : Int) > 4096) = false := by simp; omega
  have HW := Lib.hid hw
  have HZ := Lib.hid hz
  have hmm := @run_makeMap Tryz.prog
  clear hw hz
  go_enter Tryz.func44, Tryz.ntmps44
  go_wp2
  go_loopw [20] (fun iv wr => ∃ i : Nat, iv = .int .i64 (i : Int) ∧ i ≤ zl.length ∧ Below w.heap.size w wr) (fun iv _ => zl.length - (intOf iv).toNat)
  case atStart => exact ⟨0, rfl, by omega, Below.refl _ _⟩
  case round =>
    obtain ⟨i, rfl, hi, hbw⟩ := hrel
    by_cases hlt : i < zl.length
    · clear hmm
      obtain ⟨b, o, rfl, hw⟩ := HW.out (fun e => by rw [e] at hlt; cases hlt)
      have hwr := hw.below' hbw
      have hlt' : i < (tx zl).length := by rw [tx_len]; exact hlt
      have cv := hwr.val i hlt'
      have cw := hwr.wt i hlt'
      rw [tx_get zl i hlt] at cv cw
      simp only at cv cw
      obtain ⟨z0, zb, zo⟩ := HZ.out _ (List.getElem_mem hlt)
      have hzo : Ok zl[i].2 := ok_pow zb (by decide)
      have hzl := hzo.len
      have HV := Lib.hid (vcheck_any (I zl[i].2))
      rw [show zl[i].2 = zl[i].2 from rfl, chk_I0 hzo] at HV
      have HSG := Lib.hid (fun w' => dsign_I zl[i].2 w' hzo)
      have HOV := Lib.hid (fun w' => within_any zl[i].1 w')
      rw [zo] at HOV
      have hsd : decide (Int.sign zl[i].2 < 0) = false := decide_eq_false (by rcases sign_cases zl[i].2 with ⟨_, h⟩ | ⟨_, h⟩ | ⟨_, h⟩ <;> omega)
      clear hwr hw z0 zb zo hzo hlt'
      generalize Int.sign zl[i].2 = sg at *
      generalize I zl[i].2 = s at *
      generalize zl[i].1 = v at *
      go_wp2_with fail
      refine (HV.out _ (by omega)).mono ?_
      rintro e w1 ⟨rfl, hb1⟩
      have hrow := (Row.new wr 61 [.int .i64 v, .string (bs s)]).below' hb1
      have c1 := hrow.cell (i := 1) rfl
      have hb1' := alloc_then hb1
      go_wp2_with fail
      refine (HSG.out _).mono ?_
      rintro e w2 ⟨rfl, hb2⟩
      have hb2' := Below.then hb1' hb2
      have c2 := (hrow.below' hb2).cell (i := 0) rfl
      clear hb1 hb2 c1 hb1' cv cw
      go_wp2_with fail
      refine (HOV.out _).mono ?_
      rintro e w' ⟨rfl, rfl⟩
      go_wp2
      go_roundw
      case rel => exact ⟨i + 1, by go_num, by omega, hbw.trans (hb2'.mono hbw.size)⟩
      case measure => simp [intOf]; omega
    · obtain rfl : i = zl.length := by omega
      clear hi hlt
      obtain ⟨W0, hW0⟩ : ∃ x, x = wr := ⟨wr, rfl⟩
      subst hW0
      have hsz := hbw.size
      go_wp2
      obtain ⟨bm, hbm⟩ : ∃ bm, bm = W0.heap.size := ⟨_, rfl⟩
      rw [← hbm]
      have HBM := Lib.hid hbm
      have HBS : Hid (w.heap.size ≤ bm) := Lib.hid (by rw [hbm]; exact hsz)
      clear hbm
      go_loopw [44] (fun iv wr => ∃ i : Nat, iv = .int .i64 (i : Int) ∧ i ≤ zl.length ∧ Hid (Grp wr (bm + 1) bm i (zl.take i)) ∧ Below w.heap.size w wr ∧ bm + 1 ≤ wr.heap.size) (fun iv _ => zl.length - (intOf iv).toNat)
      case atStart =>
        refine ⟨0, rfl, by omega, ?_, hbw.alloc hsz _, by rw [HBM.out]; simp⟩
        rw [HBM.out]; exact Grp.made W0 _ (Nat.lt_succ_self _)
      case round =>
        obtain ⟨i, rfl, hi, hgr, hbr, hsr⟩ := hrel
        by_cases hlt : i < zl.length
        · clear hmm
          obtain ⟨b, o, rfl, hw⟩ := HW.out (fun e => by rw [e] at hlt; cases hlt)
          have hwr := hw.below' hbr
          have hlt' : i < (tx zl).length := by rw [tx_len]; exact hlt
          have cv := hwr.val i hlt'
          have cw := hwr.wt i hlt'
          rw [tx_get zl i hlt] at cv cw
          simp only at cv cw
          obtain ⟨z0, zb, zo⟩ := HZ.out _ (List.getElem_mem hlt)
          have zo2 := okv_true.1 zo
          have hwf : (Lit.int .i64 zl[i].1).wf = true := WalkArith.wf_i64 (by omega)
          have hTK : zl.take (i + 1) = zl.take i ++ [(zl[i].1, zl[i].2)] := List.take_succ_eq_append_getElem hlt
          have HTK := Lib.hid hTK
          clear hwr hw z0 zb zo zo2 hlt' hTK
          generalize zl[i].2 = z at *
          generalize zl[i].1 = v at *
          have hrow := Row.new wr 61 [.int .i64 v, .string (bs (I z))]
          have HRW := Lib.hid (And.intro (hrow.cell (i := 0) rfl) (hrow.cell (i := 1) rfl))
          clear hrow
          go_wp2
          obtain ⟨W1, hW1⟩ : ∃ x, x = wr.alloc (.cells #[.int .i64 v, .string (bs (I z))] 61 (0, 0)) := ⟨_, rfl⟩
          obtain ⟨u, hlk, hou, hbk⟩ := hgr.out.look (by unfold maxLen; omega) hwf
          have hgW : wr.grownBy W1 none := by rw [hW1]; exact World.grownBy_alloc _ _ _
          have hoff : some wr.heap.size ≠ u.ownBlock := hou.off (Nat.le_refl _)
          have hou1 : OwnS W1 (bm + 1) u ((wAt (zl.take i) v).map I) := hou.kept hgW (Classical.em _)
          have hB1 : Below w.heap.size w W1 := by rw [hW1]; exact hbr.alloc hbr.size _
          have hS1 : bm + 1 ≤ W1.heap.size := by rw [hW1]; simp; omega
          have c1 : W1.cell? ⟨wr.heap.size, 0, none⟩ = some (.int .i64 v) := by rw [hW1]; exact HRW.out.1
          have c2 : W1.cell? ⟨wr.heap.size, 1, none⟩ = some (.string (bs (I z))) := by rw [hW1]; exact HRW.out.2
          have hs1 : wr.heap.size < W1.heap.size := by rw [hW1]; simp
          rw [← hW1]
          clear hW1 HRW hgr hbr
          have hlen := wAt_len (zl.take i) v
          rw [List.length_take] at hlen
          have e1 := hlk W1.drew (grown_drew hgW)
          have e2 := hlk (W1.drew.alloc (.cells #[.string (bs (I z))] 39 (0, 0))) ((grown_drew hgW).trans (World.grownBy_alloc _ _ _))
          have e3 := hlk (W1.alloc (.cells #[.string (bs (I z))] 39 (0, 0))).drew (grown_drew (hgW.trans (World.grownBy_alloc _ _ _)))
          have hge : wr.heap.size ≤ W1.heap.size := Nat.le_of_lt hs1
          obtain ⟨X, hX⟩ : ∃ X, X = (W1.alloc (.cells #[.string (bs (I z))] 39 (0, 0))).drew := ⟨_, rfl⟩
          have hx : GBack wr (bm + 1) bm i (zl.take i) v u ∧ wr.grownBy X u.ownBlock ∧ Below w.heap.size w X ∧ w.heap.size ≤ bm ∧ bm + 1 ≤ X.heap.size ∧ OwnS X (bm + 1) u ((wAt (zl.take i) v).map I) ∧ some wr.heap.size ≠ u.ownBlock ∧ wr.heap.size < X.heap.size ∧ X.cell? ⟨wr.heap.size, 0, none⟩ = some (.int .i64 v) := by
            rw [hX]
            have hg1 := World.grownBy_alloc W1 (.cells #[.string (bs (I z))] 39 (0, 0)) none
            exact ⟨hbk, (grown_drew (hgW.trans hg1)).but _, RowKit.Below.drew (hB1.alloc hB1.size _), HBS.out, Nat.le_trans hS1 hg1.size, OwnS.drew (OwnS.alloc hou1 _), hoff, Nat.lt_of_lt_of_le hs1 hg1.size, (World.cell?_alloc_lt W1 _ ⟨wr.heap.size, 0, none⟩ hs1).trans c1⟩
          rw [hX] at hx
          have HX := Lib.hid hx
          have HLK := Lib.hid hou1
          have HLN : Hid (((wAt (zl.take i) v).map I).length ≤ 100) := Lib.hid (by rw [List.length_map]; omega)
          have HB1 := Lib.hid hS1
          clear hlk hou hbk hlen hwf hsr hoff hgW hB1 hge hou1 hX hx hS1
          generalize hAb : wr.heap.size = Ab at *
          have HAb := Lib.hid hAb
          clear hAb
          go_region_law (refine step_app_at rfl (.tmp 54) (.tmp 57) rfl rfl rfl (by first | exact OwnS.alloc (OwnS.drew HLK.out) _ | exact OwnS.drew (OwnS.alloc HLK.out _)) (SrcS.new _ [I z] _ _ _ rfl rfl rfl) (by have h2 := HB1.out; simp; omega) (by have := HLN.out; simp only [List.length_cons, List.length_nil]; omega) ?_; intro v2 w2 ho2 hg2 hloc2; obtain ⟨w3, hrun3, hc3, HGP⟩ := grp_step HAb.out HX.out ho2 hg2 hloc2; clear hg2 ho2 hloc2)
          all_goals
            go_wp2
            go_roundw
            case rel => exact ⟨i + 1, by go_num, by omega, by rw [HTK.out]; exact Lib.hid HGP.out.1, HGP.out.2.1, HGP.out.2.2⟩
            case measure => simp [intOf]; omega
        · obtain rfl : i = zl.length := by omega
          have hgr2 := hgr.out
          rw [List.take_length] at hgr2
          obtain ⟨D, V, hm, hmap, hbB, hkeys, hV, hO, hsep⟩ := hgr2
          have hszD := size_le hm
          obtain ⟨r, hr⟩ : ∃ r, r = wr.heap.size := ⟨_, rfl⟩
          have hst : St3 w bm r zl D V := ⟨HBS.out, by omega, fun v hv g hg2 => by rw [hr]; exact World.ownsRow.lt (hO v hv) g hg2, hkeys, hV⟩
          have HST := Lib.hid hst
          have HSZ := Lib.hid hszD
          have HKV := Lib.hid hV
          have hp : ∀ w0, w0.ranges Tryz.prog 3 Rv bm r zl.length D (Maps.has D) (Maps.size D) → wr.grownBy w0 none → w0.heap.size = wr.heap.size + 1 → Lp3 w w0 bm r zl D V (Maps.has D) (Maps.size D) [] (.slice none 0 0) := fun w0 h1 h2 h3 =>
            ⟨h1, World.ownsRow_nil _ _ _ _, fun v hv => (hO v hv).kept h2 (Classical.em _), RowKit.Below.grown hbr h2 hbr.size (fun j hj => by cases hj), by omega⟩
          have HP := Lib.hid hp
          have HR := Lib.hid hr
          have HSUM : Hid (∀ v, keyIn zl v → wAt zl v ≠ [] ∧ (∀ z ∈ wAt zl v, Ok z) ∧ (wAt zl v).length ≤ 4096 ∧ Ok (sm (wAt zl v))) := Lib.hid (fun v hv => by
            have h2 := wAt_len zl v
            have h3 : ∀ z ∈ wAt zl v, z.natAbs < 10 ^ 40 := fun z hz => by
              obtain ⟨x, hx, _, rfl⟩ := wAt_mem hz
              exact (HZ.out x hx).2.1
            refine ⟨wAt_key.1 hv, fun z hz => ok_pow (h3 z hz) (by decide), by omega, ?_⟩
            have h4 := sm_bound (l := wAt zl v) (K := 10 ^ 40) (fun z hz => Nat.le_of_lt (h3 z hz))
            have h5 : (wAt zl v).length * 10 ^ 40 ≤ 100 * 10 ^ 40 := Nat.mul_le_mul_right _ (by omega)
            have h6 : (100 : Nat) * 10 ^ 40 < 10 ^ 43 := by decide
            exact ok_pow (k := 43) (by omega) (by decide))
          have HOKV : Hid (∀ v, keyIn zl v → okv v = true) := Lib.hid (fun v ⟨x, hx, e⟩ => by rw [← e]; exact (HZ.out x hx).2.2)
          clear hgr hkeys hV hO hsep hbr hsr hi hlt hmm hbw hsz hst hszD hp hbB HBM HBS HW HZ
          go_wp2_with (first | (at_range; refine wpList_range_own _ rfl _ 122 rfl 3 92 keyInt Tryz.underlying122 Rv bm zl.length D rfl hm ?_; intro w0 hrg0 hg0 hs0) | go_in)
          go_frame
          rw [← hr] at hrg0 ⊢
          have hp0 := HP.out w0 hrg0 hg0 hs0
          have HP0 := Lib.hid hp0
          clear hrg0 hg0 hs0 hm hr hp0 HP HR
          go_loopw [10] (fun ov wr => ∃ (left : Lit → Bool) (cnt : Nat) (zs : List ZT) (vo : Value), ov = vo ∧ Hid (Lp3 w wr bm r zl D V left cnt zs vo) ∧ Hid (Got zl zs left) ∧ zs.length + cnt ≤ zl.length) (fun _ wr => wr.rangeLeft bm r)
          case atStart => exact ⟨_, _, [], _, rfl, HP0, Lib.hid (Got.start fun v hv => (HKV.out v hv).1), by have := HSZ.out; simp; omega⟩
          case round =>
            obtain ⟨left, cnt, zs, vo, hvo, hlp, hgot, hcnt⟩ := hrel
            have hvo := hvo.symm
            subst hvo
            have hrg := hlp.out.1
            go_wp2_with (first | (at_next; refine wpList_next_ranges _ rfl _ rfl 3 keyInt Rv (Value.int .i64) id (fun key kl hk => by obtain ⟨x, hx, _⟩ := Maps.keyOf_int_inv Tryz.underlying3 hk; exact ⟨x, hx⟩) (fun v y _ => ⟨v, rfl⟩) bm r zl.length D left cnt rfl hrg ?_ ?_) | go_in)
            · intro hc0 hl0
              have hlp2 := hlp.out
              have hgt2 := hgot.out
              obtain ⟨Ao, co, hvo2, hfo⟩ := OwnW.rd hlp2.2.1
              by_cases hz : zs = []
              · subst hz
                have hgf := hgt2.empty hl0
                have hbb := hlp2.2.2.2.1
                have HCP : Hid (∀ e w', Ret w (.tuple #[.slice none 0 0, .int .i64 13]) e w' → ColP (gathF zl) w e w') := Lib.hid (fun e w' h => by unfold ColP; rw [if_pos hgf]; exact h)
                subst hvo2
                clear hlp hgot hrg hlp2 hgt2 hgf hfo
                go_wp2
                go_ret2
                exact HCP.out _ _ (Ret.of rfl hbb)
              · obtain ⟨g, gc, hvf, hgB, hgc, hgm, hws⟩ := OwnW.form hlp2.2.1 (fun e => hz (List.map_eq_nil_iff.1 e))
                have hbb := hlp2.2.2.2.1
                have hst := HST.out
                have hzl : zs.length ≤ 100 := by omega
                have hok : ∀ y ∈ tx zs, okv y.1 = true := fun y hy => by
                  obtain ⟨x, hx, rfl⟩ := List.mem_map.1 hy
                  exact HOKV.out _ ((hgt2.mem x).1 hx).1
                have ho2 := hlp2.2.1
                rw [hvf] at ho2
                have hso := sort_ok (tx zs) hok (r + 1) g gc wr ho2 (by rw [tx_len]; omega)
                have HCP : Hid (∀ l' w', l'.Perm (tx zs) → l'.Pairwise (fun a b => ¬ b.1 < a.1) → OwnW w' (r + 1) (.slice (some ⟨g, 0, none⟩) (tx zs).length gc) l' → wr.grownBy w' (some g) → ColP (gathF zl) w (.returned (.tuple #[.slice (some ⟨g, 0, none⟩) (tx zs).length gc, .int .i64 0])) w') := Lib.hid (fun l' w' h1 h2 h3 h4 => by
                  have e := hgt2.sorted hl0 h1 h2
                  have hne : gathF zl ≠ [] := fun e2 => by
                    rw [e2] at e
                    rw [e] at h1
                    exact hz (List.map_eq_nil_iff.1 (List.nil_perm.1 h1))
                  unfold ColP
                  rw [if_neg hne, ← e]
                  exact ListP.yes (ownsRow_base h3 (by have := hst.1; have := hst.2.1; omega)) (RowKit.Below.grown hbb h4 hbb.size (fun j hj => by injection hj with hj; have := hst.1; have := hst.2.1; omega)))
                have hln : 0 < (tx zs).length := List.length_pos_iff.2 (fun e => hz (List.map_eq_nil_iff.1 e))
                have hd0 : (((tx zs).length : Int) == 0) = false := by rw [beq_eq_false_iff_ne]; omega
                have HSO := Lib.hid hso
                subst hvf
                clear hlp hgot hrg hlp2 hgt2 hvo2 hfo hws ho2 hok hst hbb hso
                generalize (tx zs).length = m at *
                go_wp2_with fail
                refine (HSO.out).mono ?_
                rintro e w5 ⟨rfl, l', hp1, hp2, hp3, hp4⟩
                have HFIN := Lib.hid (HCP.out l' w5 hp1 hp2 hp3 hp4)
                clear hp1 hp2 hp3 hp4
                go_wp2
                go_ret2
                exact HFIN.out
            · intro x c kl yd yp w1 cnt1 hkey hlk hv hat hrg1 hlt hg1 hs1 hen
              obtain ⟨hkl, hkx, hcx, hlp1⟩ := lp3_step HST.out hlp.out hkey hv hat hrg1 hg1 hs1
              subst hkl
              subst hcx
              have hl1 := hrg.left_eq
              obtain ⟨t1, t2, t3, t4⟩ := HSUM.out x hkx
              have HTO := Lib.hid (total_row (wAt zl x) (bm + 1) (V x) w1 (hg.of hlp1.2.2.2.1) (hlp1.2.2.1 x hkx) t1 t2 t3 t4)
              rw [wAt_sum] at HTO
              have hwr1 : (Lit.int .i64 x).wf = true := WalkArith.wf_i64 (by have := okv_true.1 (HOKV.out x hkx); omega)
              have HLP1 := Lib.hid hlp1
              have HL1 := Lib.hid hl1
              have HKX := Lib.hid (And.intro hkx hlk)
              clear hlp hrg hlp1 hl1 hg1 hs1 hkey hv hat hrg1 t1 t2 t3 t4 hkx hlk
              go_wp2_with fail
              refine (HTO.out).mono ?_
              rintro e w2 ⟨rfl, hb2⟩
              have hlp2 := lp3_below HLP1.out hb2
              have hle2 := hlp2.1.left_eq
              have HLP2 := Lib.hid hlp2
              have HLE2 := Lib.hid hle2
              clear hlp2 hle2 hb2 HTO HLP1
              by_cases h0 : sumAt zl x = 0
              · have hz : (I (sumAt zl x) == [48]) = true := by rw [beq_iff_eq]; exact I_eq_zero.2 h0
                have HGT := Lib.hid (hgot.out.skip h0)
                clear h0 hgot
                generalize I (sumAt zl x) = sx at *
                go_wp2
                go_roundw
                case rel => exact ⟨_, cnt1, zs, _, rfl, HLP2, HGT, by omega⟩
                case measure => rw [HLE2.out, HL1.out]; omega
              · have hz : (I (sumAt zl x) == [48]) = false := by rw [beq_eq_false_iff_ne]; intro e; exact h0 (I_eq_zero.1 e)
                have HGT := Lib.hid (hgot.out.add HKX.out.1 HKX.out.2 h0)
                have HAP := Lib.hid (fun w3 v' (h1 : OwnW w3 (r + 1) v' (tx zs ++ [(x, I (sumAt zl x))])) h2 => lp3_app (o := .cells #[.int .i64 x, .string (bs (I (sumAt zl x)))] 61 (0, 0)) (z := (x, sumAt zl x)) (w3 := w3) HST.out HLP2.out h1 h2)
                have hzl : (tx zs).length ≤ 100 := by rw [tx_len]; omega
                have HZL := Lib.hid hzl
                clear h0 hgot hzl
                generalize hsx : I (sumAt zl x) = sx at *
                clear hsx
                go_wp2_with (at_builtin; refine wpList_app_rdg rfl (.tmp 77) (.tmp 81) rfl rfl rfl (OwnW.alloc HLP2.out.2.1 _) (SrcW.new _ [(x, sx)] _ _ _ rfl rfl rfl) (by have := HLP2.out.2.2.2.2; simp; omega) (by have := HZL.out; simp only [List.length_cons, List.length_nil]; omega) ?_; intro v3 w3 ho3 hg3)
                have hlp3 := HAP.out w3 v3 ho3 hg3
                have HLP3 := Lib.hid hlp3
                have HLE3 := Lib.hid hlp3.1.left_eq
                clear hlp3 ho3 hg3
                go_roundw
                case rel => exact ⟨_, cnt1, zs ++ [(x, sumAt zl x)], _, rfl, HLP3, HGT, by rw [List.length_append]; simp; omega⟩
                case measure => rw [HLE3.out, HL1.out]; omega
end W
end Go.Proofs.YtgjfiaadnecilaaGreatDoor
