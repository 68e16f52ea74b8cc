/-
  Chapter 46: 'Zone' and 'Check' of the reference; 'Of' of layer 2.
  Chapter 46: plates with their tolerances ('plateOf').
  Chapter 46: 'plateOf' and 'Check' of the program.
  Chapter 46: half of a tolerance; a bound.
  A drawn region whose operations only read, make memory, and call what makes memory: each slot's value by a predicate that growth keeps.
-/
import Derived.Test.YtellemlhhlafcaaGreatDoorKQ
import Derived.Deep.RegionLaw
section
namespace Go.Proofs.YtellemlhhlafcaaGreatDoor
open Go Go.RowKit Go.Deep
namespace M
theorem wths_drop (ts : List Tg) (cs : List Cc) (i : Nat) (h : i < ts.length) (h2 : i < cs.length) : wths (ts.drop i) (cs.drop i) = if wth ts[i] cs[i].d = true then wths (ts.drop (i + 1)) (cs.drop (i + 1)) else 14 := by
  rw [List.drop_eq_getElem_cons h, List.drop_eq_getElem_cons h2, wths]
end M
namespace W
open M
attribute [local go_sem] bs_size bs_toList bs_get bs_extract bs_append bs_lit0 bs_lit1 lit1_bs
set_option maxHeartbeats 1000000
set_option maxRecDepth 20000
theorem rcheck46 (vt vc : Value) (ts : List Tg) (cs : List Cc) (w : World) (ht : RdG w vt ts) (hc : RdC w vc cs) (nt : ts.length ≤ maxLen) (nc : cs.length ≤ maxLen) :
    Calls Tryz.prog 25 #[vt, vc] w (Ret w (.int .i64 ((chk46 ts cs : Nat) : Int))) := by
  have HP := Lib.hid (rplate44 vt vc ts cs w ht hc nt nc)
  unfold maxLen at nt nc
  obtain ⟨At, ct, rfl⟩ := ht.len
  obtain ⟨Ac, cc, rfl⟩ := hc.len
  by_cases h : chkPl ts cs = 0
  · have hp := chkPl_iff.1 h
    rw [h] at HP
    by_cases h0 : ts.length = 0
    · have hk : chk46 ts cs = 13 := by unfold chk46; rw [if_neg (fun h2 => h2 h), if_pos h0]
      rw [hk]
      have hz : (((ts.length : Nat) : Int) == 0) = true := by rw [h0]; rfl
      clear hp h hk ht hc h0
      go_enter Tryz.func25, Tryz.ntmps25
      go_wp2_with fail
      refine (HP.out).mono ?_
      rintro e w1 ⟨rfl, hb1⟩
      go_wp2
      go_ret
      exact Ret.of rfl hb1
    · have hk : chk46 ts cs = wths ts cs := by unfold chk46; rw [if_neg (fun h2 => h2 h), if_neg h0]
      rw [hk]
      have hz : (((ts.length : Nat) : Int) == 0) = false := by rw [beq_eq_false_iff_ne]; omega
      have HT := Lib.hid ht
      have HC := Lib.hid hc
      have hlen := hp.2.1
      have HL := Lib.hid (show ∀ i : Nat, i < ts.length → i < cs.length from fun i hi => by omega)
      have hts : ts.length ≤ 16 := hp.1
      generalize hch : ((wths ts cs : Nat) : Int) = ch
      have HCH := Lib.hid hch
      clear hp h hk ht hc h0 hlen hch
      go_enter Tryz.func25, Tryz.ntmps25
      go_wp2_with fail
      refine (HP.out).mono ?_
      rintro e w1 ⟨rfl, hb1⟩
      have HB1 := Lib.hid hb1
      clear hb1 HP
      go_wp2
      go_loopw [6] (fun iv wr => ∃ i : Nat, iv = .int .i64 (i : Int) ∧ i ≤ ts.length ∧ Hid (wths ts cs = wths (ts.drop i) (cs.drop i)) ∧ Hid (Below w.heap.size w wr)) (fun iv _ => ts.length - (intOf iv).toNat)
      case atStart => exact ⟨0, rfl, by omega, Lib.hid (by rw [List.drop_zero, List.drop_zero]), HB1⟩
      case round =>
        clear HB1
        obtain ⟨i, rfl, hi, hk, hbw⟩ := hrel
        by_cases hlt : i < ts.length
        · have hlc := HL.out i hlt
          obtain ⟨b1, o1, rfl, hw⟩ := HT.out.row i hlt
          obtain ⟨b2, o2, rfl, hv⟩ := HC.out.row i hlc
          obtain ⟨c0, c1, c2, c3, c4, c5, c6⟩ := (hw.below' hbw.out).val i hlt
          obtain ⟨d0, d1, d2⟩ := (hv.below' hbw.out).val i hlc
          have hk2 := hk.out
          rw [wths_drop ts cs i hlt hlc] at hk2
          have hi0 : (0 : Int) ≤ (i : Int) := by omega
          have hit : (i : Int) < (ts.length : Int) := by omega
          have hic : (i : Int) < (cs.length : Int) := by omega
          clear hk hw hv
          generalize ts[i] = x at *
          generalize cs[i] = z at *
          have HN := Lib.hid (fun W => rinside44 x z.d W)
          have m0 := cell_regrown c0
          have m1 := cell_regrown c1
          have m2 := cell_regrown c2
          have m3 := cell_regrown c3
          have m4 := cell_regrown c4
          have m5 := cell_regrown c5
          have m6 := cell_regrown c6
          have m7 := cell_regrown d2
          have e1 : ∀ args w, (callFunc 44 args).run Tryz.prog w = .ok (.enter 44 args) w := enters_of Tryz.func44 (by kernel_rfl) rfl
          clear c0 c1 c2 c3 c4 c5 c6 d0 d1 d2
          cases hwt : wth x z.d with
          | true =>
            rw [hwt, if_pos rfl] at hk2
            rw [hwt] at HN
            have HK := Lib.hid hk2
            have k1 := reg_of (w := wr) (fun W _ => HN.out W)
            clear hk2 hwt HN
            go_wp2_with fail
            refine wp_region_quiet_below (by kernel_rfl) (by kernel_rfl) ?_
            repeat (go_big_quiet_step (fail))
            go_big_quiet_step (exact k1 _ _)
            repeat (go_big_quiet_step (fail))
            refine wpQuiet_nil ?_
            intro W6 hw'
            have hb6 : Below wr.heap.size wr W6 := by obtain ⟨p, e⟩ := hw'; rw [e]; exact below_regrown wr p.d p.os
            clear hw'
            have HB6 := Lib.hid (bel_to hbw.out hb6)
            clear hb6 k1 m0 m1 m2 m3 m4 m5 m6 m7 e1
            go_wp2
            go_roundw
            case rel => exact ⟨i + 1, by go_num, by omega, HK, HB6⟩
            case measure => simp [intOf]; omega
          | false =>
            rw [hwt] at hk2 HN
            have HK := Lib.hid (show ch = 14 by rw [← HCH.out, hk2]; rfl)
            have k1 := reg_of (w := wr) (fun W _ => HN.out W)
            clear hk2 hwt HN
            go_wp2_with fail
            refine wp_region_quiet_below (by kernel_rfl) (by kernel_rfl) ?_
            repeat (go_big_quiet_step (fail))
            go_big_quiet_step (exact k1 _ _)
            repeat (go_big_quiet_step (fail))
            refine wpQuiet_nil ?_
            intro W6 hw'
            have hb6 : Below wr.heap.size wr W6 := by obtain ⟨p, e⟩ := hw'; rw [e]; exact below_regrown wr p.d p.os
            clear hw'
            have HB6 := Lib.hid (bel_to hbw.out hb6)
            clear hb6 k1 m0 m1 m2 m3 m4 m5 m6 m7 e1
            go_wp2
            go_ret
            exact Ret.of (by rw [HK.out]; rfl) HB6.out
        · obtain rfl : i = ts.length := by omega
          have hk2 := hk.out
          rw [List.drop_length] at hk2
          have HK := Lib.hid (show ch = 0 by rw [← HCH.out, hk2]; simp [wths])
          clear hk hk2
          go_wp2
          go_ret
          exact Ret.of (by rw [HK.out]; rfl) hbw.out
  · have hk : chk46 ts cs = chkPl ts cs := by unfold chk46; rw [if_pos h]
    rw [hk]
    have hz := nz_bne h
    clear h hk ht hc
    generalize ((chkPl ts cs : Nat) : Int) = k at *
    go_enter Tryz.func25, Tryz.ntmps25
    go_wp2_with fail
    refine (HP.out).mono ?_
    rintro e w1 ⟨rfl, hb1⟩
    go_wp2
    go_ret
    exact Ret.of rfl hb1
theorem ratOf (n d : Int) (w : World) (hg : Glob w) (hn : n.natAbs < 10 ^ 18) (hd : d.natAbs < 10 ^ 18) (h0 : d ≠ 0) :
    Calls Tryz.prog 91 #[.int .i64 n, .int .i64 d] w (Ret w (.tuple #[.string (bs (R (Rat.divInt n d))), .int .i64 0])) := by
  have e : (10 : Nat) ^ 18 = 1000000000000000000 := by decide
  have HN := Lib.hid (fun wx hgx => vof_any n wx hgx (by omega) (by omega))
  have HD := Lib.hid (fun wx hgx => vof_any d wx hgx (by omega) (by omega))
  have HL := Lib.hid (fun wx hgx => ratMake n d wx hgx (ok_pow hn (by omega)) (ok_pow hd (by omega)) h0)
  have HG := Lib.hid hg
  clear hn hd h0 e hg
  go_enter Tryz.func91, Tryz.ntmps91
  go_wp2_with fail
  refine (HN.out _ HG.out).mono ?_
  rintro e w1 ⟨rfl, hb1⟩
  go_wp2_with fail
  refine (HD.out _ (HG.out.of hb1)).mono ?_
  rintro e w2 ⟨rfl, hb2⟩
  have hb2 := bel_to hb1 hb2
  go_wp2_with fail
  refine (HL.out _ (HG.out.of hb2)).mono ?_
  rintro e w3 ⟨rfl, hb3⟩
  have hb3 := bel_to hb2 hb3
  clear hb1 hb2
  go_wp2
  go_ret2
  exact Ret.of rfl hb3
end W
end Go.Proofs.YtellemlhhlafcaaGreatDoor
end
section
namespace Go.Proofs.YtellemlhhlafcaaGreatDoor
open Go Go.RowKit Go.Deep
abbrev IntC (l : List Int) : List Value := l.map fun z => .int .i64 z
def RdI (w : World) (v : Value) (l : List Int) : Prop := ∃ A cap, v = .slice A l.length cap ∧ (l = [] ∨ ∃ b o, A = some ⟨b, o, none⟩ ∧ b < w.heap.size ∧ ∀ i (h : i < l.length), w.cell? ⟨b, o + i, none⟩ = some (.int .i64 l[i]))
theorem RdI.below {w w' : World} {v : Value} {l : List Int} (h : RdI w v l) (hb : Below w.heap.size w w') : RdI w' v l := by
  obtain ⟨A, cap, e, h2⟩ := h
  refine ⟨A, cap, e, ?_⟩
  rcases h2 with h2 | ⟨b, o, e2, h3, h4⟩
  · exact Or.inl h2
  · exact Or.inr ⟨b, o, e2, Nat.lt_of_lt_of_le h3 hb.size, fun i hi => (hb.cell (by exact h3)).trans (h4 i hi)⟩
theorem RdI.len {w : World} {v : Value} {l : List Int} (h : RdI w v l) : ∃ A cap, v = .slice A l.length cap := by
  obtain ⟨A, cap, e, _⟩ := h; exact ⟨A, cap, e⟩
theorem RdI.row {w : World} {A : Option Addr} {n cap : Nat} {l : List Int} (h : RdI w (.slice A n cap) l) (i : Nat) (hi : i < l.length) : ∃ b o, A = some ⟨b, o, none⟩ ∧ b < w.heap.size ∧ ∀ i (h : i < l.length), w.cell? ⟨b, o + i, none⟩ = some (.int .i64 l[i]) := by
  obtain ⟨A', cap', e, h2⟩ := h
  injection e with e
  subst e
  exact h2.resolve_left (fun e => by rw [e] at hi; cases hi)
def OwnI (w : World) (B : Nat) (v : Value) (l : List Int) : Prop := w.ownsRow B 3 1 v l.length (IntC l)
theorem OwnI.rd {w : World} {B : Nat} {v : Value} {l : List Int} (h : OwnI w B v l) : RdI w v l := by
  obtain ⟨h1, h2⟩ := h
  rcases h2 with ⟨hv, hn⟩ | ⟨g, cap, cur, hv, hB, hh, hn, hm, hs, ht⟩
  · exact ⟨none, 0, by rw [hv, hn], Or.inl (List.length_eq_zero_iff.1 hn)⟩
  · refine ⟨_, _, hv, Or.inr ⟨g, 0, rfl, lt_of_block hh, fun i hi => ?_⟩⟩
    have e : (IntC l)[i]? = some (.int .i64 l[i]) := by simp [IntC, hi]
    rw [← ht, List.getElem?_take] at e
    split at e
    · simp [World.cell?, hh]; simpa using e
    · cases e
theorem OwnI.below {w w' : World} {B : Nat} {v : Value} {l : List Int} (h : OwnI w B v l) (hb : Below w.heap.size w w') : OwnI w' B v l :=
  World.ownsRow.kept (row := none) h ⟨hb.os, hb.tape, hb.output, hb.size, fun k hk _ => hb.block k hk⟩ (Classical.em _)
namespace M
def zoneNs (ts : List Tg) (cs : List Cc) : List Int := (ts.zip cs).map fun p => wide p.1 p.2
theorem zoneNs_len {ts : List Tg} {cs : List Cc} (h : cs.length = ts.length) : (zoneNs ts cs).length = ts.length := by simp [zoneNs, h]
theorem zoneNs_take {ts : List Tg} {cs : List Cc} (h : cs.length = ts.length) {i : Nat} (hi : i < ts.length) (hc : i < cs.length) : (zoneNs ts cs).take (i + 1) = (zoneNs ts cs).take i ++ [wide ts[i] cs[i]] := by
  have hl := zoneNs_len h
  rw [List.take_add_one, List.getElem?_eq_getElem (by omega)]
  simp [zoneNs]
end M
structure PlS (w0 w : World) (bp : Nat) (va vt vc : Value) (al : List Int) : Prop where
  row : Row w bp 132 [va, vt, vc]
  own : OwnI w (bp + 1) va al
  bel : Below w0.heap.size w0 w
  lo : w0.heap.size ≤ bp
theorem PlS.to {w0 w w' : World} {bp : Nat} {va vt vc : Value} {al : List Int} (h : PlS w0 w bp va vt vc al) (hb : Below w.heap.size w w') : PlS w0 w' bp va vt vc al :=
  ⟨h.row.below' hb, h.own.below hb, bel_to h.bel hb, h.lo⟩
theorem grown_set (w : World) (p : Addr) (v : Value) : w.grownBy (w.setCell p v) (some p.block) :=
  ⟨rfl, rfl, rfl, by simp [World.setCell], fun k _ hne => by
    have : k ≠ p.block := fun e => hne (by rw [e])
    simp only [World.setCell, Array.getElem?_modify]
    rw [if_neg (fun e => this e.symm)]⟩
theorem PlS.app {w0 w w' : World} {bp : Nat} {va va' vt vc : Value} {al : List Int} {z : Int} (h : PlS w0 w bp va vt vc al) (ho : w'.ownsRow (bp + 1) 3 1 va' (al.length + 1) (IntC al ++ [.int .i64 z]))
    (hg : (w.alloc (.cells #[.int .i64 z] 3 (0, 0))).grownBy w' va.ownBlock) : PlS w0 (w'.setCell ⟨bp, 0, none⟩ va') bp va' vt vc (al ++ [z]) ∧ Row w' bp 132 [va, vt, vc] := by
  have hne : ∀ k, va.ownBlock = some k → bp + 1 ≤ k := fun k hk => (World.ownsRow.lt h.own k hk).1
  have hbp : bp < w.heap.size := h.row.lt
  have hr : Row w' bp 132 [va, vt, vc] := by
    have h1 : Row (w.alloc (.cells #[.int .i64 z] 3 (0, 0))) bp 132 [va, vt, vc] := h.row.alloc _
    unfold Row at h1 ⊢
    rw [hg.block bp (by rw [World.size_alloc]; omega) (fun e => by have := hne bp e.symm; omega)]
    exact h1
  refine ⟨⟨by simpa using hr.set 0 va', ?_, ?_, h.lo⟩, hr⟩
  · have h1 : OwnI w' (bp + 1) va' (al ++ [z]) := by
      unfold OwnI
      rw [List.length_append, show IntC (al ++ [z]) = IntC al ++ [.int .i64 z] by simp [IntC]]
      exact ho
    refine World.ownsRow.kept h1 (grown_set w' ⟨bp, 0, none⟩ va') ?_
    rcases hv : va'.ownBlock with _ | k
    · exact Or.inl rfl
    · refine Or.inr fun e => ?_
      injection e with e
      have := (World.ownsRow.lt h1 k hv).1
      simp only at e
      omega
  · have hlo := h.lo
    refine Below.setCell ?_ (show w0.heap.size ≤ bp from hlo) _
    exact (h.bel.alloc h.bel.size _).grown hg (by rw [World.size_alloc]; have := h.bel.size; omega) fun k hk => by have := hne k hk; omega
def PlOk (al : List Int) (vt vc : Value) (w : World) (e : Ending) (w' : World) : Prop := ∃ va, e = .returned (.tuple #[.agg #[va, vt, vc], .int .i64 0]) ∧ RdI w' va al ∧ Below w.heap.size w w'
theorem row_grownP {w w' : World} {g : Nat} {t : TypeId} {xs : List Value} {row : Option Nat} {bp : Nat} (h : Row w g t xs) (hg : w.grownBy w' row) (hr : ∀ k, row = some k → bp + 1 ≤ k) (hl : g < bp) : Row w' g t xs := by
  have h1 := h.lt
  unfold Row at h ⊢
  rw [hg.block g h1 (fun e => by have := hr g e.symm; omega)]
  exact h
theorem row_other {w : World} {g : Nat} {t : TypeId} {xs : List Value} (h : Row w g t xs) {p : Addr} (hp : g ≠ p.block) (v : Value) : Row (w.setCell p v) g t xs := by
  unfold Row at h ⊢
  rw [(grown_set w p v).block g (Array.getElem?_eq_some_iff.1 h).1 (fun e => by injection e with e; exact hp e)]
  exact h
theorem plate_store {w0 w : World} {A : Nat} {x0 y0 z0 : Value} (x y z : Value) (hr : Row w A 132 [x0, y0, z0]) (hA : w0.heap.size ≤ A) (hb : Below w0.heap.size w0 w) :
    Row (((w.setCell ⟨A, 0, none⟩ x).setCell ⟨A, 1, none⟩ y).setCell ⟨A, 2, none⟩ z) A 132 [x, y, z] ∧ Below w0.heap.size w0 (((w.setCell ⟨A, 0, none⟩ x).setCell ⟨A, 1, none⟩ y).setCell ⟨A, 2, none⟩ z) :=
  ⟨((hr.set 0 x).set 1 y).set 2 z, ((hb.setCell (p := ⟨A, 0, none⟩) hA x).setCell (p := ⟨A, 1, none⟩) hA y).setCell (p := ⟨A, 2, none⟩) hA z⟩
end Go.Proofs.YtellemlhhlafcaaGreatDoor
end
section
namespace Go.Proofs.YtellemlhhlafcaaGreatDoor
open Go Go.RowKit Go.Deep
namespace W
open M
attribute [local go_sem] bs_size bs_toList bs_get bs_extract bs_append bs_lit0 bs_lit1 lit1_bs
set_option maxHeartbeats 2000000
set_option maxRecDepth 20000
theorem own_set {w : World} {B g j : Nat} {v u : Value} {l : List Int} (hg : g < B) (h : OwnI w B v l) : OwnI (w.setCell ⟨g, j, none⟩ u) B v l := by
  refine World.ownsRow.kept h (grown_set w ⟨g, j, none⟩ u) ?_
  rcases hv : v.ownBlock with _ | k
  · exact Or.inl rfl
  · refine Or.inr fun e => ?_
    injection e with e
    have := (World.ownsRow.lt h k hv).1
    simp only at e
    omega
theorem pplate_ok (vt vc : Value) (ts : List Tg) (cs : List Cc) (w : World) (hs : Sig w) (ht : RdG w vt ts) (hc : RdC w vc cs) (nt : ts.length ≤ maxLen) (nc : cs.length ≤ maxLen) (hok : chk46 ts cs = 0) :
    Calls Tryz.prog 58 #[vt, vc] w (PlOk (zoneNs ts cs) vt vc w) := by
  have hr0 : Row (w.alloc (.cells #[.slice none 0 0, .slice none 0 0, .slice none 0 0] 132 (0, 0))) w.heap.size 132 [.slice none 0 0, .slice none 0 0, .slice none 0 0] := rnw
  have hb0 := bel_al w (.cells #[.slice none 0 0, .slice none 0 0, .slice none 0 0] 132 (0, 0))
  have HP := Lib.hid (bplate vt vc ts cs _ (ht.below hb0) (hc.below hb0) nt nc)
  have HR0 := Lib.hid (And.intro hr0 hb0)
  have HS := Lib.hid hs
  obtain ⟨At, ct, rfl⟩ := ht.len
  obtain ⟨Ac, cc, rfl⟩ := hc.len
  have HT := Lib.hid ht
  have HC := Lib.hid hc
  clear hr0 hb0 hs ht hc
  unfold maxLen at nt nc
  by_cases h : chkPl ts cs = 0
  · have hp := chkPl_iff.1 h
    rw [h] at HP
    by_cases h0 : ts.length = 0
    · unfold chk46 at hok
      rw [if_neg (fun h2 => h2 h), if_pos h0] at hok; cases hok
    · have hk : chk46 ts cs = wths ts cs := by unfold chk46; rw [if_neg (fun h2 => h2 h), if_neg h0]
      have hwz : wths ts cs = 0 := by rw [← hk]; exact hok
      clear hk hok
      have hz : (((ts.length : Nat) : Int) == 0) = false := by rw [beq_eq_false_iff_ne]; omega
      have hlen := hp.2.1
      have HL := Lib.hid (show ∀ i : Nat, i < ts.length → i < cs.length from fun i hi => by omega)
      have hrt : ∀ i (hi : i < ts.length) (hi2 : i < cs.length), bothC ts[i] cs[i] = 0 := fun i hi hi2 => by
        unfold bothC
        rw [(chkT_iff _).2 (hp.2.2.1 _ (List.getElem_mem hi)), (ringC_iff _).2 (hp.2.2.2 _ (List.getElem_mem hi2))]; rfl
      have HRT := Lib.hid hrt
      have hts : ts.length ≤ 16 := hp.1
      have HTK := Lib.hid (fun i (hi : i < ts.length) (hi2 : i < cs.length) => zoneNs_take (ts := ts) (cs := cs) hlen hi hi2)
      have HLN := Lib.hid (zoneNs_len (ts := ts) (cs := cs) hlen)
      have HDR := Lib.hid (fun i (hi : i < ts.length) (hi2 : i < cs.length) => wths_drop ts cs i hi hi2)
      have HLT := Lib.hid (show ∀ i, i ≤ ts.length → ((zoneNs ts cs).take i).length = i from fun i hi => by rw [List.length_take, zoneNs_len hlen]; omega)
      have HWT := Lib.hid hwz
      clear hrt
      clear hp h h0 hlen hwz
      go_enter Tryz.func58, Tryz.ntmps58
      go_wp2_with fail
      refine (HP.out).mono ?_
      rintro e w1 ⟨rfl, hb1⟩
      have HR1 := Lib.hid (And.intro (HR0.out.1.below' hb1) (bel_to HR0.out.2 hb1))
      clear hb1 HR0 HP
      have HP0 : Hid (PlS w (w1.alloc (.cells #[.slice none 0 0, .slice At ts.length ct, .slice Ac cs.length cc] 132 (0, 0))) w1.heap.size (.slice none 0 0) (.slice At ts.length ct) (.slice Ac cs.length cc) ((zoneNs ts cs).take 0)) :=
        Lib.hid ⟨rnw, World.ownsRow_nil _ _ _ _, bel_to HR1.out.2 (bel_al _ _), HR1.out.2.size⟩
      have HRA : Hid (Row (w1.alloc (.cells #[.slice none 0 0, .slice At ts.length ct, .slice Ac cs.length cc] 132 (0, 0))) w.heap.size 132 [.slice none 0 0, .slice none 0 0, .slice none 0 0]) := Lib.hid (HR1.out.1.alloc _)
      have HBP := Lib.hid (HR1.out.1.lt)
      go_wp2
      generalize w1.alloc (.cells #[.slice none 0 0, .slice At ts.length ct, .slice Ac cs.length cc] 132 (0, 0)) = w2 at *
      generalize w1.heap.size = bp at *
      clear HR1
      go_loopw [27] (fun iv wr => ∃ (i : Nat) (va : Value), iv = .int .i64 (i : Int) ∧ i ≤ ts.length ∧ Hid (wths (ts.drop i) (cs.drop i) = 0) ∧ Hid (PlS w wr bp va (.slice At ts.length ct) (.slice Ac cs.length cc) ((zoneNs ts cs).take i)) ∧
        Hid (Row wr w.heap.size 132 [.slice none 0 0, .slice none 0 0, .slice none 0 0])) (fun iv _ => ts.length - (intOf iv).toNat)
      case atStart => exact ⟨0, .slice none 0 0, rfl, by omega, Lib.hid (by rw [List.drop_zero, List.drop_zero]; exact HWT.out), HP0, HRA⟩
      case round =>
        clear HP0 HRA
        obtain ⟨i, va, rfl, hi, hk, hin, hra⟩ := hrel
        by_cases hlt : i < ts.length
        · have hlc := HL.out i hlt
          obtain ⟨b1, o1, rfl, hw⟩ := HT.out.row i hlt
          obtain ⟨b2, o2, rfl, hv⟩ := HC.out.row i hlc
          obtain ⟨c0, c1, c2, c3, c4, c5, c6⟩ := (hw.below' hin.out.bel).val i hlt
          obtain ⟨d0, d1, d2⟩ := (hv.below' hin.out.bel).val i hlc
          have hk2 := hk.out
          rw [HDR.out i hlt hlc] at hk2
          have hbc := HRT.out i hlt hlc
          have htk := HTK.out i hlt hlc
          have hln := HLT.out i hi
          have hi0 : (0 : Int) ≤ (i : Int) := by omega
          have hit : (i : Int) < (ts.length : Int) := by omega
          have hic : (i : Int) < (cs.length : Int) := by omega
          clear hk hw hv
          generalize ts[i] = x at *
          generalize cs[i] = z at *
          have HZ := Lib.hid (fun W (hW : Below wr.heap.size wr W) => pzone x z W (HS.out.below (bel_to hin.out.bel hW)))
          have m0 := cell_regrown c0
          have m1 := cell_regrown c1
          have m2 := cell_regrown c2
          have m3 := cell_regrown c3
          have m4 := cell_regrown c4
          have m5 := cell_regrown c5
          have m6 := cell_regrown c6
          have m7 := cell_regrown d0
          have m8 := cell_regrown d1
          have m9 := cell_regrown d2
          have e1 : ∀ args w, (callFunc 9 args).run Tryz.prog w = .ok (.enter 9 args) w := enters_of Tryz.func9 (by kernel_rfl) rfl
          clear c0 c1 c2 c3 c4 c5 c6 d0 d1 d2
          cases hwt : wth x z.d with
          | true =>
            rw [hwt, if_pos rfl] at hk2
            rw [(zone_ok hbc hwt).1, (zone_ok hbc hwt).2] at HZ
            have HK := Lib.hid hk2
            have k1 := reg_of (w := wr) (fun W hW => HZ.out W hW)
            have HTK2 := Lib.hid htk
            have HLN2 := Lib.hid hln
            clear hk2 hwt HZ hbc htk hln
            generalize wide x z = E at *
            go_wp2_with fail
            refine wp_region_quiet_below (by kernel_rfl) (by kernel_rfl) ?_
            repeat (go_big_quiet_step (fail))
            go_big_quiet_step (exact k1 _ _)
            repeat (go_big_quiet_step (fail))
            refine wpQuiet_nil ?_
            intro W6 hw'
            have hb6 : Below wr.heap.size wr W6 := by obtain ⟨p, e⟩ := hw'; rw [e]; exact below_regrown wr p.d p.os
            clear hw'
            have HI6 := Lib.hid (hin.out.to hb6)
            have HR6 := Lib.hid (hra.out.below' hb6)
            clear hb6 k1 m0 m1 m2 m3 m4 m5 m6 m7 m8 m9 e1 hin hra
            have p0 := HI6.out.row.cell (i := 0) rfl
            obtain ⟨iI, r1, r2, r3, r4⟩ := info_parts infoInt
            go_wp2_with (at_builtin; refine wpList_app_g (t := 45) (v := va) Tryz.underlying45 r1 r2 r3 r4 rfl rfl _ _ rfl rfl rfl rfl HI6.out.own (by have := HI6.out.row.lt; omega) (.int .i64 E) rfl (by rw [HLN2.out]; omega) (by decide) ?_; intro g2 cap2 w10 ho2 hk3; have HA := Lib.hid (HI6.out.app ho2 hk3); have p1 := HA.out.2.cell (i := 0) rfl; have f1 := HA.out.2.free 0; have HRB := Lib.hid (show Row w10 w.heap.size 132 [.slice none 0 0, .slice none 0 0, .slice none 0 0] from row_grownP (HR6.out.alloc _) hk3 (fun k hk => (World.ownsRow.lt HI6.out.own k hk).1) HBP.out); clear ho2 hk3)
            go_wp2
            go_roundw
            case rel => exact ⟨i + 1, _, by go_num, by omega, HK, Lib.hid (by rw [HTK2.out]; have h := HA.out.1; rw [List.length_take] at h; exact h), Lib.hid (row_other HRB.out (by have := HBP.out; show w.heap.size ≠ bp; omega) _)⟩
            case measure => simp [intOf]; omega
          | false =>
            rw [hwt] at hk2
            cases hk2
        · obtain rfl : i = ts.length := by omega
          have hrw := hra.out
          have c0 := hin.out.row.cell (i := 0) rfl
          have c1 := hin.out.row.cell (i := 1) rfl
          have c2 := hin.out.row.cell (i := 2) rfl
          have f0 := hrw.free 0
          have f1 := (hrw.set 0 va).free 1
          have f2 := ((hrw.set 0 va).set 1 (.slice At ts.length ct)).free 2
          have d0 := hrw.cell (i := 0) rfl
          have d1 := (hrw.set 0 va).cell (i := 1) rfl
          have d2 := ((hrw.set 0 va).set 1 (.slice At ts.length ct)).cell (i := 2) rfl
          have HQ := Lib.hid (plate_store va (.slice At ts.length ct) (.slice Ac cs.length cc) hrw (Nat.le_refl _) hin.out.bel)
          have HV := Lib.hid (show OwnI (((wr.setCell ⟨w.heap.size, 0, none⟩ va).setCell ⟨w.heap.size, 1, none⟩ (.slice At ts.length ct)).setCell ⟨w.heap.size, 2, none⟩ (.slice Ac cs.length cc)) (bp + 1) va (zoneNs ts cs) from by
            have ho := hin.out.own
            rw [← HLN.out, List.take_length] at ho
            have hlt : w.heap.size < bp + 1 := by have := HBP.out; omega
            exact own_set hlt (own_set hlt (own_set hlt ho)))
          clear hrw hk hin hra
          obtain ⟨Av, cv, rfl⟩ := HV.out.rd.len
          go_wp2
          have q0 := HQ.out.1.cell (i := 0) rfl
          have q1 := HQ.out.1.cell (i := 1) rfl
          have q2 := HQ.out.1.cell (i := 2) rfl
          refine bodyPost_ret (v := .tuple #[.agg #[.slice Av (zoneNs ts cs).length cv, .slice At ts.length ct, .slice Ac cs.length cc], .int .i64 0]) (by simp [results, Tryz.results58, go_sem, q0, q1, q2]) rfl ⟨_, rfl, HV.out.rd, HQ.out.2⟩
  · unfold chk46 at hok
    rw [if_pos h] at hok; exact absurd hok h
end W
end Go.Proofs.YtellemlhhlafcaaGreatDoor
end
section
namespace Go.Proofs.YtellemlhhlafcaaGreatDoor
open Go Go.RowKit Go.Deep
structure BdS (w0 w : World) (bb : Nat) (vr : Value) (l : List (List UInt8)) : Prop where
  row : Row w bb 138 [vr, .string ⟨#[]⟩]
  own : OwnS w (bb + 1) vr l
  bel : Below w0.heap.size w0 w
  lo : w0.heap.size ≤ bb
theorem BdS.to {w0 w w' : World} {bb : Nat} {vr : Value} {l : List (List UInt8)} (h : BdS w0 w bb vr l) (hb : Below w.heap.size w w') : BdS w0 w' bb vr l :=
  ⟨h.row.below' hb, h.own.below hb, bel_to h.bel hb, h.lo⟩
theorem own_setS {w : World} {B g j : Nat} {v u : Value} {l : List (List UInt8)} (hg : g < B) (h : OwnS w B v l) : OwnS (w.setCell ⟨g, j, none⟩ u) B v l := by
  refine World.ownsRow.kept h (grown_set w ⟨g, j, none⟩ u) ?_
  rcases hv : v.ownBlock with _ | k
  · exact Or.inl rfl
  · refine Or.inr fun e => ?_
    injection e with e
    have := (World.ownsRow.lt h k hv).1
    simp only at e
    omega
theorem OwnS.shape {w : World} {B : Nat} {v : Value} {l : List (List UInt8)} (h : OwnS w B v l) : ∃ A n c, v = .slice A n c := by
  obtain ⟨A, c, e⟩ := h.rd.len; exact ⟨A, _, c, e⟩
theorem row_keeps {w w' : World} {g B : Nat} {t : TypeId} {xs : List Value} (h : Row w g t xs) (hk : Keeps B w w') (hg : g < B) : Row w' g t xs := by
  have hb := hk B w (Nat.le_refl _) (Below.refl _ _)
  unfold Row at *
  rw [hb.block g hg]; exact h
theorem BdS.app {w0 w w' : World} {bb : Nat} {vr v' : Value} {l l' : List (List UInt8)} (h : BdS w0 w bb vr l) (ho : OwnS w' (bb + 1) v' l') (hk : Keeps (bb + 1) w w') : BdS w0 (w'.setCell ⟨bb, 0, none⟩ v') bb v' l' ∧ Row w' bb 138 [vr, .string ⟨#[]⟩] := by
  have hr : Row w' bb 138 [vr, .string ⟨#[]⟩] := row_keeps h.row hk (Nat.lt_succ_self _)
  have hlo := h.lo
  exact ⟨⟨by simpa using hr.set 0 v', own_setS (Nat.lt_succ_self _) ho, (hk w0.heap.size w0 (by omega) h.bel).setCell (show w0.heap.size ≤ bb from hlo) _, hlo⟩, hr⟩
namespace W
open M
attribute [local go_sem] bs_size bs_toList bs_get bs_extract bs_append bs_lit0 bs_lit1 lit1_bs
set_option maxHeartbeats 2000000
set_option maxRecDepth 20000
theorem phalf (va : Value) (al : List Int) (i : Nat) (w : World) (hg : Glob w) (ha : RdI w va al) (hi : i < al.length) (hz : al[i].natAbs < 10 ^ 18) :
    Calls Tryz.prog 194 #[.agg #[va], .int .i64 (i : Int)] w (Ret w (.string (bs (R (Rat.divInt al[i] 2))))) := by
  have HO := Lib.hid (fun W (hW : Below w.heap.size w W) => ratOf al[i] 2 W (hg.of hW) hz (by decide) (by decide))
  have hb0 := bel_al w (.cells #[va] 130 (0, 0))
  obtain ⟨A, ca, rfl⟩ := ha.len
  obtain ⟨b, o, rfl, _, hc⟩ := (ha.below hb0).row i hi
  have HC := Lib.hid (hc i hi)
  have HB := Lib.hid hb0
  clear hc hz hg ha hb0
  have hi0 : (0 : Int) ≤ (i : Int) := by omega
  have hit : (i : Int) < (al.length : Int) := by omega
  generalize al[i] = z at *
  have c0 := HC.out
  go_enter Tryz.func194, Tryz.ntmps194
  go_wp2_with fail
  refine (HO.out _ HB.out).mono ?_
  rintro e w1 ⟨rfl, hb1⟩
  have hb1' := bel_to HB.out hb1
  clear hb1 HB c0 HC
  go_wp2
  go_ret
  exact Ret.of rfl hb1'
theorem int_bq {z : Int} (h : z.natAbs < 10 ^ 8) : Bq 8 (z : Rat) := ⟨by rw [Rat.num_intCast]; exact h, by rw [Rat.den_intCast]; decide⟩
theorem half_bq {z : Int} (h : z.natAbs < 10 ^ 8) : Bq 8 (Rat.divInt z 2) :=
   Bq_div (by decide) h (by decide)
theorem half_sum (off z : Int) : Rat.divInt z 2 + (off : Rat) = ((2 * off + z : Int) : Rat) / 2 := by
  rw [Rat.divInt_eq_div, Rat.intCast_add, Rat.intCast_mul, show ((2 : Int) : Rat) = 2 from rfl]; grind
abbrev castL (l : List Int) : List Rat := l.map fun z : Int => (z : Rat)
theorem castL_take (l : List Int) (k : Nat) (h : k < l.length) : rx (castL (l.take (k + 1))) = rx (castL (l.take k)) ++ [R (l[k] : Rat)] := by
  have e : ∀ n, rx (castL (l.take n)) = (l.map fun z : Int => R (z : Rat)).take n := fun n => by
    unfold castL rx
    rw [List.map_map, List.map_take]
    rfl
  rw [e, e, List.take_add_one, List.getElem?_eq_getElem (by rw [List.length_map]; exact h), List.getElem_map]
  rfl
theorem pbound (va vt vc vw : Value) (al row : List Int) (i : Nat) (off : Int) (w : World) (hg : Glob w) (ha : RdI w va al) (hw : RdI w vw row) (hi : i < al.length) (hz : al[i].natAbs < 10 ^ 8) (ho : off.natAbs < 10 ^ 8)
    (hr : row.length ≤ 8) (hrz : ∀ z ∈ row, z.natAbs < 10 ^ 8) :
    Calls Tryz.prog 148 #[.agg #[va, vt, vc], .int .i64 (i : Int), .int .i64 off, vw] w (fun e w' => ∃ vr, e = .returned (.agg #[vr, .string (bs (R (((2 * off + al[i] : Int) : Rat) / 2)))]) ∧ OwnS w' w.heap.size vr (rx (castL row)) ∧ Below w.heap.size w w') := by
  have HWH := Lib.hid (fun (k : Nat) (hk : k < row.length) W (hW : Below w.heap.size w W) => ratWhole row[k] W (hg.of hW) (by have := hrz _ (List.getElem_mem hk); omega) (by have := hrz _ (List.getElem_mem hk); omega))
  have HHF := Lib.hid (fun W (hW : Below w.heap.size w W) => phalf va al i W (hg.of hW) (ha.below hW) hi (by omega))
  have HWO := Lib.hid (fun W (hW : Below w.heap.size w W) => ratWhole off W (hg.of hW) (by omega) (by omega))
  have HAD := Lib.hid (fun W (hW : Below w.heap.size w W) => ratAdd (Rat.divInt al[i] 2) (off : Rat) 8 8 W (hg.of hW) (half_bq hz) (int_bq ho) (by decide))
  rw [half_sum] at HAD
  have HTK := Lib.hid (fun k hk => castL_take row k hk)
  obtain ⟨A0, c0, rfl⟩ := ha.len
  obtain ⟨A1, c1, rfl⟩ := hw.len
  have HV := Lib.hid hw
  have HLL := Lib.hid (show ∀ k, k ≤ row.length → (rx (castL (row.take k))).length = k from fun k hk => by simp [rx]; omega)
  have HP0 : Hid (BdS w (((w.alloc (.cells #[.slice A0 al.length c0, vt, vc] 132 (0, 0))).alloc (.cells #[.slice none 0 0, .string ⟨#[]⟩] 138 (0, 0))).alloc (.cells #[.slice none 0 0, .string ⟨#[]⟩] 138 (0, 0))) (w.heap.size + 1 + 1) (.slice none 0 0) (rx (castL (row.take 0)))) :=
    Lib.hid ⟨rnew0 (by rw [World.size_alloc, World.size_alloc]), World.ownsRow_nil _ _ _ _, (bel_al2 _ _ _).alloc (bel_al2 _ _ _).size _, by omega⟩
  have HRB : Hid (Row (((w.alloc (.cells #[.slice A0 al.length c0, vt, vc] 132 (0, 0))).alloc (.cells #[.slice none 0 0, .string ⟨#[]⟩] 138 (0, 0))).alloc (.cells #[.slice none 0 0, .string ⟨#[]⟩] 138 (0, 0))) (w.heap.size + 1) 138 [.slice none 0 0, .string ⟨#[]⟩]) :=
    Lib.hid ((rnew0 (World.size_alloc _ _).symm).alloc _)
  have HRP : Hid (Row (((w.alloc (.cells #[.slice A0 al.length c0, vt, vc] 132 (0, 0))).alloc (.cells #[.slice none 0 0, .string ⟨#[]⟩] 138 (0, 0))).alloc (.cells #[.slice none 0 0, .string ⟨#[]⟩] 138 (0, 0))) w.heap.size 132 [.slice A0 al.length c0, vt, vc]) :=
    Lib.hid ((rnw.alloc _).alloc _)
  generalize al[i] = z0 at *
  obtain ⟨sb, hsb⟩ : ∃ sb, sb = R (((2 * off + z0 : Int) : Rat) / 2) := ⟨_, rfl⟩
  rw [← hsb] at HAD ⊢
  clear hsb
  clear hg ha hw hi hz ho hrz
  go_enter Tryz.func148, Tryz.ntmps148
  go_wp2
  generalize ((w.alloc (.cells #[.slice A0 al.length c0, vt, vc] 132 (0, 0))).alloc (.cells #[.slice none 0 0, .string ⟨#[]⟩] 138 (0, 0))).alloc (.cells #[.slice none 0 0, .string ⟨#[]⟩] 138 (0, 0)) = w0 at *
  obtain ⟨bb, hbb⟩ : ∃ bb, bb = w.heap.size + 1 + 1 := ⟨_, rfl⟩
  rw [← hbb] at HP0 ⊢
  obtain ⟨rb, hrb⟩ : ∃ rb, rb = w.heap.size + 1 := ⟨_, rfl⟩
  rw [← hrb] at HRB ⊢
  have HBL := Lib.hid (show w.heap.size < rb ∧ rb < bb ∧ w.heap.size < bb by omega)
  clear hbb hrb
  go_loopw [14] (fun iv wr => ∃ (k : Nat) (vr : Value), iv = .int .i64 (k : Int) ∧ k ≤ row.length ∧ Hid (BdS w wr bb vr (rx (castL (row.take k)))) ∧ Hid (Row wr rb 138 [.slice none 0 0, .string ⟨#[]⟩]) ∧
    Hid (Row wr w.heap.size 132 [.slice A0 al.length c0, vt, vc])) (fun iv _ => row.length - (intOf iv).toNat)
  case atStart => exact ⟨0, .slice none 0 0, rfl, by omega, HP0, HRB, HRP⟩
  case round =>
    clear HP0 HRB HRP
    obtain ⟨k, vr, rfl, hk, hin, hrb, hrp⟩ := hrel
    by_cases hlt : k < row.length
    · obtain ⟨b1, o1, rfl, _, hv⟩ := (HV.out.below hin.out.bel).row k hlt
      have c1 := hv k hlt
      clear hv
      have htk := Lib.hid (HTK.out k hlt)
      have hln := Lib.hid (HLL.out k hk)
      have HW2 := Lib.hid (fun W hW => HWH.out k hlt W hW)
      generalize row[k] = z at *
      go_wp2_with fail
      have x0 := hin.out.row.cell (i := 0) rfl
      have HD0 := Lib.hid (hin.out.to (RowKit.Below.drew (Below.refl wr.heap.size wr)))
      have y0 := HD0.out.row.cell (i := 0) rfl
      go_region_law (first
        | (go_simp; go_at_call 93; refine (HW2.out _ HD0.out.bel).mono ?_; rintro e w5 ⟨rfl, hb5⟩; have HI5 := Lib.hid (HD0.out.to hb5); have hrb5 := Lib.hid (hrb.out.below' ((RowKit.Below.drew (Below.refl wr.heap.size wr)).trans (hb5.mono (Nat.le_refl _)))); have hrp5 := Lib.hid (hrp.out.below' ((RowKit.Below.drew (Below.refl wr.heap.size wr)).trans (hb5.mono (Nat.le_refl _)))); have y5 := HI5.out.row.cell (i := 0) rfl; have y5a := (HI5.out.to (bel_al w5 (.cells #[.string (bs (R (z : Rat)))] 86 (0, 0)))).row.cell (i := 0) rfl)
        | (refine step_app_s rfl (.tmp 19) (.tmp 22) rfl rfl rfl (OwnS.alloc HI5.out.own _) (SrcS.new _ [R (z : Rat)] _ _ _ rfl rfl rfl) (by have := HI5.out.row.lt; simp; omega) (by rw [hln.out]; simp only [List.length_cons, List.length_nil]; omega) ?_; intro v2 w2 ho2 hk2; obtain ⟨Av, nv, cv, rfl⟩ := OwnS.shape ho2; have HA := Lib.hid (BdS.app (HI5.out.to (bel_al w5 _)) ho2 hk2); have y6 := HA.out.2.cell (i := 0) rfl; have f6 := HA.out.2.free 0; have HRB2 := Lib.hid (row_keeps (hrb5.out.alloc _) hk2 (by have := HBL.out; omega)); have HRP2 := Lib.hid (row_keeps (hrp5.out.alloc _) hk2 (by have := HBL.out; omega)); clear ho2 hk2))
      all_goals
        go_wp2
        go_roundw
        case rel => exact ⟨k + 1, _, by go_num, by omega, Lib.hid (by rw [htk.out]; exact HA.out.1), Lib.hid (row_other HRB2.out (by have := HBL.out; show rb ≠ bb; omega) _), Lib.hid (row_other HRP2.out (by have := HBL.out; show w.heap.size ≠ bb; omega) _)⟩
        case measure => simp [intOf]; omega
    · obtain rfl : k = row.length := by omega
      rw [List.take_length] at hin
      have q0 := hrp.out.cell (i := 0) rfl
      have q1 := hrp.out.cell (i := 1) rfl
      have q2 := hrp.out.cell (i := 2) rfl
      go_wp2_with fail
      refine (HHF.out _ hin.out.bel).mono ?_
      rintro e w1 ⟨rfl, hb1⟩
      have HI1 := Lib.hid (hin.out.to hb1)
      have HR1 := Lib.hid (hrb.out.below' hb1)
      clear hb1 hin hrb hrp q0 q1 q2
      go_wp2_with fail
      refine (HWO.out _ HI1.out.bel).mono ?_
      rintro e w2 ⟨rfl, hb2⟩
      have HI2 := Lib.hid (HI1.out.to hb2)
      have HR2 := Lib.hid (HR1.out.below' hb2)
      clear hb2 HI1 HR1
      go_wp2_with fail
      refine (HAD.out _ HI2.out.bel).mono ?_
      rintro e w3 ⟨rfl, hb3⟩
      have HI3 := Lib.hid (HI2.out.to hb3)
      have HR3 := Lib.hid (HR2.out.below' hb3)
      clear hb3 HI2 HR2
      have x0 := HI3.out.row.cell (i := 0) rfl
      have x1 := HI3.out.row.cell (i := 1) rfl
      have f1 := HI3.out.row.free 1
      have hrow := (show Row (w3.setCell ⟨bb, 1, none⟩ (.string (bs sb))) bb 138 [vr, .string (bs sb)] from HI3.out.row.set 1 (.string (bs sb)))
      have z0 := hrow.cell (i := 0) rfl
      have z1 := hrow.cell (i := 1) rfl
      have hres := row_other HR3.out (p := ⟨bb, 1, none⟩) (by have := HBL.out; show rb ≠ bb; omega) (.string (bs sb))
      have g0 := hres.free 0
      have g1 := (hres.set 0 vr).free 1
      have d0 := hres.cell (i := 0) rfl
      have d1 := (hres.set 0 vr).cell (i := 1) rfl
      have HQ := Lib.hid (show Row (((w3.setCell ⟨bb, 1, none⟩ (.string (bs sb))).setCell ⟨rb, 0, none⟩ vr).setCell ⟨rb, 1, none⟩ (.string (bs sb))) rb 138 [vr, .string (bs sb)] from (hres.set 0 vr).set 1 (.string (bs sb)))
      have HF := Lib.hid (show OwnS (((w3.setCell ⟨bb, 1, none⟩ (.string (bs sb))).setCell ⟨rb, 0, none⟩ vr).setCell ⟨rb, 1, none⟩ (.string (bs sb))) w.heap.size vr (rx (castL row)) ∧ Below w.heap.size w (((w3.setCell ⟨bb, 1, none⟩ (.string (bs sb))).setCell ⟨rb, 0, none⟩ vr).setCell ⟨rb, 1, none⟩ (.string (bs sb))) from by
        have hbl := HBL.out
        refine ⟨?_, ?_⟩
        · exact ownsRow_base (own_setS (by omega) (own_setS (by omega) (own_setS (Nat.lt_succ_self _) HI3.out.own))) (by omega)
        · exact ((HI3.out.bel.setCell (p := ⟨bb, 1, none⟩) (show w.heap.size ≤ bb by omega) _).setCell (p := ⟨rb, 0, none⟩) (show w.heap.size ≤ rb by omega) _).setCell (p := ⟨rb, 1, none⟩) (show w.heap.size ≤ rb by omega) _)
      have HSH := Lib.hid HI3.out.own
      clear hrow hres HI3 HR3
      obtain ⟨Av, cv, rfl⟩ := HSH.out.rd.len
      go_wp2
      have q0 := HQ.out.cell (i := 0) rfl
      have q1 := HQ.out.cell (i := 1) rfl
      refine bodyPost_ret (v := .agg #[.slice Av (rx (castL row)).length cv, .string (bs sb)]) (by simp [results, Tryz.results148, go_sem, q0, q1]) rfl ⟨_, rfl, HF.out⟩
end W
end Go.Proofs.YtellemlhhlafcaaGreatDoor
end
section
namespace Go.Proofs.YtellemlhhlafcaaGreatDoor
open Go Go.RowKit Go.Deep
def dstOf (ops : Array Oper) (j : Nat) : Option Nat := (ops[j]?).bind (·.dst)
def growB (md : Region.Mode) (ops : Array Oper) (N : Nat) : Bool :=
  (List.range ops.size).all fun i => match ops[i]? with
    | none => true
    | some o => o.guard.isNone && (match o.dst with
        | some d => decide (d < N) && (List.range ops.size).all fun j => j == i || dstOf ops j != some d
        | none => true) &&
      (o.op.operands.all fun x => match x with
        | .tmp t => decide (t < N) && (List.range ops.size).all fun j => dstOf ops j != some t || o.after.any fun e => e.on == j && Region.binds md e
        | _ => true) && o.after.all fun e => !(Region.binds md e) || decide (e.on < i)
section
variable {P : Program} {ops : Array Oper} {Q : Exit → Act → World → Prop} {md : Region.Mode} {N : Nat}
theorem growB_at (h : growB md ops N = true) {i : Nat} {o : Oper} (ho : ops[i]? = some o) :
    o.guard = none ∧ (∀ d, o.dst = some d → d < N ∧ ∀ j, j ≠ i → dstOf ops j ≠ some d) ∧
    (∀ t, Operand.tmp t ∈ o.op.operands → t < N ∧ ∀ j, dstOf ops j = some t → ∃ e ∈ o.after, e.on = j ∧ Region.binds md e = true) ∧ ∀ e ∈ o.after, Region.binds md e = true → e.on < i := by
  have hi : i < ops.size := (Array.getElem?_eq_some_iff.1 ho).1
  have hrng : ∀ j d, dstOf ops j = some d → j < ops.size := fun j d e => by
    rcases Nat.lt_or_ge j ops.size with h | h
    · exact h
    · unfold dstOf at e; rw [Array.getElem?_eq_none h] at e; cases e
  unfold growB at h
  rw [List.all_eq_true] at h
  have h1 := h i (List.mem_range.2 hi)
  rw [ho] at h1
  simp only [Bool.and_eq_true] at h1
  obtain ⟨⟨⟨h2, h3⟩, h4⟩, h5⟩ := h1
  refine ⟨by simpa using h2, fun d hd => ?_, fun t ht => ?_, fun e he hb => ?_⟩
  · rw [hd] at h3
    simp only [Bool.and_eq_true, decide_eq_true_eq, List.all_eq_true, Bool.or_eq_true, beq_iff_eq, bne_iff_ne, List.mem_range] at h3
    refine ⟨h3.1, fun j hj e => ?_⟩
    rcases h3.2 j (hrng j d e) with h6 | h6
    · exact hj h6
    · exact h6 e
  · rw [Array.all_eq_true_iff_forall_mem] at h4
    have h6 := h4 _ ht
    simp only [Bool.and_eq_true, decide_eq_true_eq, List.all_eq_true, Bool.or_eq_true, bne_iff_ne, List.mem_range] at h6
    refine ⟨h6.1, fun j e => ?_⟩
    rcases h6.2 j (hrng j t e) with h7 | h7
    · exact absurd e h7
    · rw [Array.any_eq_true] at h7
      obtain ⟨k, hk, h8⟩ := h7
      simp only [Bool.and_eq_true, beq_iff_eq] at h8
      exact ⟨_, Array.getElem_mem hk, h8.1, h8.2⟩
  · rw [Array.all_eq_true_iff_forall_mem] at h5
    have h6 := h5 e he
    rw [hb] at h6
    simpa using h6
structure GrowI (ops : Array Oper) (N : Nat) (ψ : Nat → World → Value → Prop) (W0 : World) (D : List Deferred) (listed : Array Bool) (a : Act) (w : World) : Prop where
  bel : Below W0.heap.size W0 w
  def_ : a.defers = D
  size : a.tmps.size = N
  inp : ∀ t, t < N → (∀ j, dstOf ops j ≠ some t) → ψ t w (a.tmps.getD t undef)
  out : ∀ j t, dstOf ops j = some t → listed.getD j false = true → ψ t w (a.tmps.getD t undef)
theorem put_tmps {a : Act} {d : Nat} {v : Value} : (a.put (some d) v).tmps = a.tmps.setIfInBounds d v := rfl
theorem getD_put_same {a : Act} {d : Nat} {v : Value} (h : d < a.tmps.size) : (a.put (some d) v).tmps.getD d undef = v := by
  rw [put_tmps]; simp [Array.getD_eq_getD_getElem?, h]
theorem getD_put_ne {a : Act} {dst : Option Nat} {t : Nat} {v : Value} (h : dst ≠ some t) : (a.put dst v).tmps.getD t undef = a.tmps.getD t undef := by
  cases dst with
  | none => rfl
  | some d =>
    have hd : d ≠ t := fun e => h (by rw [e])
    rw [put_tmps]; simp [Array.getD_eq_getD_getElem?, hd]
theorem put_size {a : Act} {dst : Option Nat} {v : Value} : (a.put dst v).tmps.size = a.tmps.size := by
  cases dst with
  | none => rfl
  | some d => rw [put_tmps, Array.size_setIfInBounds]
theorem put_defers {a : Act} {dst : Option Nat} {v : Value} : (a.put dst v).defers = a.defers := by cases dst <;> rfl
theorem all_listed {listed : Array Bool} (hB : growB md ops N = true) (hs : listed.size = ops.size) (hr : Region.ready md ops listed = []) : ∀ j, j < ops.size → listed.getD j false = true := by
  intro j
  induction j using Nat.strongRecOn with
  | _ j ih =>
    intro hj
    cases hl : listed.getD j false with
    | true => rfl
    | false =>
      exfalso
      obtain ⟨o, ho⟩ : ∃ o, ops[j]? = some o := ⟨ops[j], by simp [hj]⟩
      have hlt : j < listed.size := by omega
      have hm : j ∈ Region.ready md ops listed := mem_ready.2 ⟨by
        simp only [Array.getD_eq_getD_getElem?, Array.getElem?_eq_getElem hlt, Option.getD_some] at hl ⊢; exact hl, o, ho, fun e he hb => by
        have h1 := (growB_at hB ho).2.2.2 e he hb
        exact ih e.on h1 (by omega)⟩
      rw [hr] at hm
      cases hm
theorem wpAny_grow {ψ : Nat → World → Value → Prop} {W0 : World} {D : List Deferred} (hB : growB md ops N = true) (hst : ∀ t w w' v, Below w.heap.size w w' → ψ t w v → ψ t w' v)
    (hstep : ∀ (i : Nat) (o : Oper), ops[i]? = some o → ∀ (a : Act) (w : World), Below W0.heap.size W0 w → a.tmps.size = N → (∀ t, Operand.tmp t ∈ o.op.operands → ψ t w (a.tmps.getD t undef)) → Oper.wp P o a w (fun a' w' => ∃ v, a' = a.put o.dst v ∧ Below w.heap.size w w' ∧ ∀ d, o.dst = some d → ψ d w' v) Q)
    (hend : ∀ (a : Act) (w : World), Below W0.heap.size W0 w → a.defers = D → a.tmps.size = N → (∀ t, t < N → ψ t w (a.tmps.getD t undef)) → Q .normal a w) :
    ∀ (fuel : Nat) (listed : Array Bool) (a : Act) (w : World), listed.size = ops.size → listed.toList.count false ≤ fuel → GrowI ops N ψ W0 D listed a w → wpAny P md ops Q fuel listed a w := by
  have hfin : ∀ (listed : Array Bool) (a : Act) (w : World), (∀ j, j < ops.size → listed.getD j false = true) → GrowI ops N ψ W0 D listed a w → Q .normal a w := fun listed a w hall hI => by
    refine hend a w hI.bel hI.def_ hI.size fun t ht => ?_
    by_cases h : ∃ j, dstOf ops j = some t
    · obtain ⟨j, hj⟩ := h
      refine hI.out j t hj (hall j ?_)
      rcases Nat.lt_or_ge j ops.size with h | h
      · exact h
      · unfold dstOf at hj; rw [Array.getElem?_eq_none h] at hj; cases hj
    · exact hI.inp t ht fun j e => h ⟨j, e⟩
  intro fuel
  induction fuel with
  | zero =>
    intro listed a w hs hc hI
    have hall : ∀ j, j < ops.size → listed.getD j false = true := fun j hj => by
      cases hl : listed.getD j false with
      | true => rfl
      | false =>
        exfalso
        have hlt : j < listed.size := by omega
        have hm : false ∈ listed.toList := by
          simp only [Array.getD_eq_getD_getElem?, Array.getElem?_eq_getElem hlt, Option.getD_some] at hl
          rw [← hl]; exact Array.getElem_mem_toList hlt
        have := List.count_pos_iff.2 hm
        omega
    refine ⟨?_, hfin listed a w hall hI⟩
    refine Classical.byContradiction fun h => ?_
    obtain ⟨j, hj⟩ := List.exists_mem_of_ne_nil _ h
    obtain ⟨h0, o, ho, _⟩ := mem_ready.1 hj
    have hjs := (Array.getElem?_eq_some_iff.1 ho).1
    have h1 := hall j hjs
    have hlt : j < listed.size := by omega
    simp only [Array.getD_eq_getD_getElem?, Array.getElem?_eq_getElem hlt, Option.getD_some] at h0 h1
    rw [h0] at h1; cases h1
  | succ fuel ih =>
    intro listed a w hs hc hI
    refine ⟨fun hr => hfin listed a w (all_listed hB hs hr) hI, fun i hi => ?_⟩
    obtain ⟨h0, o, ho, hall⟩ := mem_ready.1 hi
    obtain ⟨g1, g2, g3, g4⟩ := growB_at hB ho
    have his := (Array.getElem?_eq_some_iff.1 ho).1
    have hlt : i < listed.size := by omega
    have hli : listed.toList[i]'(by simpa using hlt) = false := by
      simp only [Array.getD_eq_getD_getElem?, Array.getElem?_eq_getElem hlt, Option.getD_some] at h0
      simpa using h0
    unfold wpOp
    rw [ho]
    have hw : Region.wanted o (yielded ops a.tmps) = true := by simp [Region.wanted, g1]
    simp only [hw, if_true]
    refine Or.inl (Oper.wp_mono (fun a' w' h => ?_) (hstep i o ho a w hI.bel hI.size fun t ht => ?_))
    · obtain ⟨v, rfl, hb, hv⟩ := h
      refine ih _ _ _ (by rw [Array.size_setIfInBounds]; exact hs) ?_ ⟨bel_to hI.bel hb, by rw [put_defers]; exact hI.def_, by rw [put_size]; exact hI.size, fun t ht hno => ?_, fun j t hj hl => ?_⟩
      · rw [Array.toList_setIfInBounds, List.count_set (by simpa using hlt), hli]
        have : 0 < listed.toList.count false := List.count_pos_iff.2 (by rw [← hli]; exact List.getElem_mem _)
        simp only [beq_self_eq_true, if_true, Bool.true_eq_false, beq_iff_eq, if_false]
        omega
      · have hd : o.dst ≠ some t := fun e => hno i (by unfold dstOf; rw [ho]; exact e)
        rw [getD_put_ne hd]
        exact hst t w w' _ hb (hI.inp t ht hno)
      · by_cases e : j = i
        · subst e
          have hd : o.dst = some t := by unfold dstOf at hj; rw [ho] at hj; exact hj
          rw [hd, getD_put_same (by rw [hI.size]; exact (g2 t hd).1)]
          exact hv t hd
        · have hd : o.dst ≠ some t := fun e2 => (g2 t e2).2 j e hj
          rw [getD_put_ne hd]
          refine hst t w w' _ hb (hI.out j t hj ?_)
          simpa [Array.getD_eq_getD_getElem?, Array.getElem?_setIfInBounds, Ne.symm e] using hl
    · obtain ⟨g5, g6⟩ := g3 t ht
      by_cases h : ∃ j, dstOf ops j = some t
      · obtain ⟨j, hj⟩ := h
        obtain ⟨e, he, e1, e2⟩ := g6 j hj
        have := hall e he e2
        rw [e1] at this
        exact hI.out j t hj this
      · exact hI.inp t g5 fun j e => h ⟨j, e⟩
theorem dst_none {l : List Oper} {t : Nat} (h : ∀ j, dstOf l.toArray j ≠ some t) : (l.any fun o => o.dst == some t) = false := by
  rw [List.any_eq_false]
  intro o ho e
  obtain ⟨j, hj, rfl⟩ := List.mem_iff_getElem.1 ho
  refine h j ?_
  unfold dstOf
  simp only [List.getElem?_toArray, List.getElem?_eq_getElem hj, Option.bind_some]
  exact eq_of_beq e
theorem region_grow {id : Nat} {a : Act} {w : World} {l : List Oper} {ψ : Nat → World → Value → Prop} (N : Nat) (hm : P.follows .mixedOrders = true) (hB : growB .any l.toArray N = true) (hst : ∀ t w w' v, Below w.heap.size w w' → ψ t w v → ψ t w' v)
    (hN : a.tmps.size = N) (h0 : ∀ t, t < N → (l.any fun o => o.dst == some t) = false → ψ t w (a.tmps.getD t undef))
    (hstep : ∀ o ∈ l, ∀ (a : Act) (w' : World), Below w.heap.size w w' → a.tmps.size = N → (∀ t, Operand.tmp t ∈ o.op.operands → ψ t w' (a.tmps.getD t undef)) → Oper.wp P o a w' (fun a' w2 => ∃ v, a' = a.put o.dst v ∧ Below w'.heap.size w' w2 ∧ ∀ d, o.dst = some d → ψ d w2 v) Q)
    (hend : ∀ (a' : Act) (w' : World), Below w.heap.size w w' → a'.defers = a.defers → a'.tmps.size = N → (∀ t, t < N → ψ t w' (a'.tmps.getD t undef)) → Q .normal a' w') :
    (Code.region id l.toArray true).wp P Q a w := by
  have hdr : Below w.heap.size w { w with drawn := w.drawn + 1 } := RowKit.Below.drew (Below.refl _ _)
  refine wp_region_any hm (wpAny_grow (W0 := w) (D := a.defers) hB hst (fun i o ho => hstep o (List.mem_of_getElem? (by simpa using ho))) hend _ _ _ _ (by simp) ?_ ⟨hdr, rfl, hN, fun t ht hno => hst t _ _ _ hdr (h0 t ht (dst_none hno)), fun j t _ hl => ?_⟩)
  · simp
  · exfalso
    rw [Array.getD_eq_getD_getElem?, Array.getElem?_replicate] at hl
    split at hl <;> simp at hl
end
def psi (cs : List (Nat × Value)) (rs : List (Nat × (World → Value → Prop))) (t : Nat) (w : World) (v : Value) : Prop := match cs.lookup t with
  | some c => v = c
  | none => match rs.lookup t with
    | some p => p w v
    | none => True
theorem lookup_mem {β : Type _} {t : Nat} : ∀ {l : List (Nat × β)} {b : β}, l.lookup t = some b → (t, b) ∈ l
  | [], _, h => by cases h
  | (k, c) :: l, b, h => by
    rw [List.lookup_cons] at h
    split at h
    · rename_i e
      injection h with h
      rw [h, eq_of_beq e]; exact List.mem_cons_self
    · exact List.mem_cons_of_mem _ (lookup_mem h)
theorem step_grow {P : Program} {o : Oper} {a : Act} {w w1 : World} {cs : List (Nat × Value)} {rs : List (Nat × (World → Value → Prop))} {Q : Exit → Act → World → Prop} {d : Nat} {v : Value} (hd : o.dst = some d)
    (hrun : (execOp a.eval o).run P w = .ok (.value v) w1) (hb : Below w.heap.size w w1) (hv : psi cs rs d w1 v) :
    Oper.wp P o a w (fun a' w' => ∃ v, a' = a.put o.dst v ∧ Below w.heap.size w w' ∧ ∀ d, o.dst = some d → psi cs rs d w' v) Q := by
  unfold Oper.wp
  rw [hrun]
  exact ⟨v, rfl, hb, fun d2 h2 => by rw [hd] at h2; injection h2 with h2; rw [← h2]; exact hv⟩
theorem step_val {P : Program} {o : Oper} {a : Act} {w : World} {cs : List (Nat × Value)} {rs : List (Nat × (World → Value → Prop))} {Q : Exit → Act → World → Prop} {d : Nat} {v : Value} (hd : o.dst = some d)
    (hrun : (execOp a.eval o).run P w = .ok (.value v) w) (hv : psi cs rs d w v) :
    Oper.wp P o a w (fun a' w' => ∃ v, a' = a.put o.dst v ∧ Below w.heap.size w w' ∧ ∀ d, o.dst = some d → psi cs rs d w' v) Q := step_grow hd hrun (Below.refl _ _) hv
theorem step_call {P : Program} {o : Oper} {a : Act} {w : World} {cs : List (Nat × Value)} {rs : List (Nat × (World → Value → Prop))} {Q : Exit → Act → World → Prop} {d f : Nat} {args : Array Value} (hd : o.dst = some d)
    (hrun : (execOp a.eval o).run P w = .ok (.enter f args) w) (hc : Calls P f args w fun e w' => ∃ v, e = .returned v ∧ Below w.heap.size w w' ∧ psi cs rs d w' v) :
    Oper.wp P o a w (fun a' w' => ∃ v, a' = a.put o.dst v ∧ Below w.heap.size w w' ∧ ∀ d, o.dst = some d → psi cs rs d w' v) Q := by
  unfold Oper.wp
  rw [hrun]
  refine hc.mono ?_
  rintro e w' ⟨v, rfl, hb, hv⟩
  exact ⟨v, rfl, hb, fun d2 h2 => by rw [hd] at h2; injection h2 with h2; rw [← h2]; exact hv⟩
theorem rdI_new (w : World) (l : List Int) : RdI (w.alloc (.cells (IntC l).toArray 3 (0, 0))) (.slice (some ⟨w.heap.size, 0, none⟩) l.length l.length) l := by
  have hr := rnw (w := w) (t := 3) (xs := IntC l)
  exact ⟨_, _, rfl, Or.inr ⟨_, _, rfl, hr.lt, fun i hi => by rw [Nat.zero_add]; exact hr.cell (by simp [IntC, hi])⟩⟩
theorem psi_st {cs : List (Nat × Value)} {rs : List (Nat × (World → Value → Prop))} (h : ∀ p ∈ rs, ∀ w w' v, Below w.heap.size w w' → p.2 w v → p.2 w' v) : ∀ t w w' v, Below w.heap.size w w' → psi cs rs t w v → psi cs rs t w' v := by
  intro t w w' v hb hp
  unfold psi at *
  split
  · rename_i c hc
    rw [hc] at hp; exact hp
  · rename_i hc
    rw [hc] at hp
    simp only at hp
    split
    · rename_i p hq
      rw [hq] at hp
      exact h _ (lookup_mem hq) w w' v hb hp
    · trivial
end Go.Proofs.YtellemlhhlafcaaGreatDoor
end
