/-
  Chapter 26, the reference: 'Power'; rows of texts that grow in regions that draw their order.
  The reference of layer 1: 'Chosen' (rows of the triangle of sums).
  Chapter 26, the reference: 'Trials' and 'Binomial'.
  Chapter 26, the reference: 'Binomial'.
-/
import Derived.Test.YtgjfiaadnecilaaGreatDoorKN
namespace Go.Proofs.YtgjfiaadnecilaaGreatDoor
open Go Go.RowKit Go.Deep
/-- A slice of texts that lies in a block. -/
def SrcS (w : World) (v : Value) (l : List (List UInt8)) : Prop :=
  ∃ b cap, v = .slice (some ⟨b, 0, none⟩) l.length cap ∧ ∀ j u, (Strs l)[j]? = some u → w.cell? ⟨b, j, none⟩ = some u
theorem SrcS.new (w : World) (l : List (List UInt8)) (cs : Array Value) (n A : Nat) (h : cs = (Strs l).toArray) (hn : n = l.length) (hA : A = w.heap.size) : SrcS (w.alloc (.cells cs 39 (0, 0))) (.slice (some ⟨A, 0, none⟩) n n) l := by
  subst hA h hn
  exact ⟨_, _, rfl, fun j u hj => (Row.new w 39 (Strs l)).cell hj⟩
theorem OwnS.alloc {w : World} {B : Nat} {v : Value} {l : List (List UInt8)} (h : OwnS w B v l) (o : Obj) : OwnS (w.alloc o) B v l := World.ownsRow.alloc h o
theorem OwnS.drew {w : World} {B : Nat} {v : Value} {l : List (List UInt8)} (h : OwnS w B v l) : OwnS w.drew B v l := h.below (RowKit.Below.drew (Below.refl _ _))
theorem OwnS.new (w : World) (l : List (List UInt8)) (cs : Array Value) (B n A : Nat) (h : cs = (Strs l).toArray) (hn : n = l.length) (hA : A = w.heap.size) (hB : B ≤ A) (hl : n ≤ maxLen) : OwnS (w.alloc (.cells cs 39 (0, 0))) B (.slice (some ⟨A, 0, none⟩) n n) l := by
  subst hA h hn
  refine ⟨by simp [Strs], Or.inr ⟨w.heap.size, l.length, (Strs l).toArray, rfl, hB, ?_, Nat.le_refl _, hl, by simp [Strs], by rw [Nat.mul_one]; exact List.take_of_length_le (by simp [Strs])⟩⟩
  show (w.heap.push _)[w.heap.size]? = _
  simp
theorem wp_app_s {o : Oper} {a : Act} {K : Act → World → Prop} {Q : Exit → Act → World → Prop} {w : World} {B : Nat} {v xv : Value} {l m : List (List UInt8)} (s x : Operand)
    (ho : o.op = .call { callee := .builtin .append, args := #[s, x], argTypes := #[92, 92] }) (hs : a.eval s = v) (hx : a.eval x = xv)
    (h : OwnS w B v l) (hsrc : SrcS w xv m) (hB : B ≤ w.heap.size) (hn : l.length + m.length ≤ 1000000000)
    (hK : ∀ v' w', OwnS w' B v' (l ++ m) → Keeps B w w' → K (a.put o.dst v') w') : o.wp Tryz.prog a w K Q := by
  obtain ⟨i, h1, h2, h3, h4⟩ := info_parts infoIt
  obtain ⟨b, cap, rfl, hc⟩ := hsrc
  have hadd : ∀ j, (⟨b, 0, none⟩ : Addr).add j = ⟨b, j, none⟩ := fun j => by unfold Addr.add; split <;> simp_all
  refine wp_append_own w s x _ ho B _ i _ 1 16 Tryz.underlying92 h1 h2 h3 h4 rfl (by decide) v l.length (Strs l) hs h ⟨b, 0, none⟩ m.length cap (Strs m) hx (by simp [Strs])
    (fun j u hj => by rw [hadd]; exact hc j u hj) (fun u hu => by simp [Strs] at hu; obtain ⟨_, _, rfl⟩ := hu; rfl) (by unfold maxLen; omega) (by omega) hB (fun v' w' k2 k3 _ => hK v' w' ?_ (fun C a2 hC hbl => ?_))
  · unfold OwnS
    rw [List.length_append, show Strs (l ++ m) = Strs l ++ Strs m by simp [Strs]]
    exact k2
  · refine hbl.grown k3 (Nat.le_trans hC hB) (fun k hk => ?_)
    have := (h.lt k hk).1
    omega
theorem wpList_app_sl {ops : Array Oper} {rest : List Oper} {o : Oper} {a : Act} {Q : Exit → Act → World → Prop} {w : World} {B : Nat} {v xv : Value} {l m : List (List UInt8)} (hgd : o.guard = none) (s x : Operand)
    (ho : o.op = .call { callee := .builtin .append, args := #[s, x], argTypes := #[92, 92] }) (hs : a.eval s = v) (hx : a.eval x = xv)
    (h : OwnS w B v l) (hsrc : SrcS w xv m) (hB : B ≤ w.heap.size) (hn : l.length + m.length ≤ 1000000000)
    (hK : ∀ v' w', OwnS w' B v' (l ++ m) → Keeps B w w' → wpList Tryz.prog ops Q rest (a.put o.dst v') w') : wpList Tryz.prog ops Q (o :: rest) a w :=
  wpList_plain hgd fun _ hK2 => wp_app_s s x ho hs hx h hsrc hB hn fun v' w' h2 h3 => hK2 _ _ (hK v' w' h2 h3)
theorem step_app_s {ops : Array Oper} {o : Oper} {a : Act} {K : Act → World → Prop} {Q : Exit → Act → World → Prop} {E : Prop} {w : World} {B : Nat} {v xv : Value} {l m : List (List UInt8)} (hgd : o.guard = none) (s x : Operand)
    (ho : o.op = .call { callee := .builtin .append, args := #[s, x], argTypes := #[92, 92] }) (hs : a.eval s = v) (hx : a.eval x = xv)
    (h : OwnS w B v l) (hsrc : SrcS w xv m) (hB : B ≤ w.heap.size) (hn : l.length + m.length ≤ 1000000000)
    (hK : ∀ v' w', OwnS w' B v' (l ++ m) → Keeps B w w' → K (a.put o.dst v') w') : if Region.wanted o (yielded ops a.tmps) = true then Oper.wp Tryz.prog o a w K Q else E := by
  have hw : Region.wanted o (yielded ops a.tmps) = true := by simp [Region.wanted, hgd]
  rw [if_pos hw]
  exact wp_app_s s x ho hs hx h hsrc hB hn hK
namespace W
open M
attribute [local go_sem] bs_size bs_toList bs_get bs_extract bs_append bs_lit0 bs_lit1 lit1_bs
set_option maxHeartbeats 1000000
set_option maxRecDepth 20000
theorem power_ok (a : Int) (n : Nat) (w : World) (ha : -1048576 ≤ a ∧ a ≤ 1048576) (hn : n ≤ 1000) :
    Calls Tryz.prog 126 #[.int .i64 a, .int .i64 (n : Int)] w (Ret w (.string (bs (I (ipw a n))))) := by
  have HO := Lib.hid (fun wx => of_any a wx (by omega) (by omega))
  have hb7 : a.natAbs < 10 ^ 7 := by have : (10 : Nat) ^ 7 = 10000000 := by decide
                                     omega
  have HT := Lib.hid (fun k (hk : k ≤ n) wx => times_I (ipw a k) a wx (Nat.le_trans (I_le (ipw_bd hb7 hk) (by omega)) (by omega)) (Nat.le_trans (I_le hb7 (by decide)) (by decide)))
  have HS := Lib.hid (fun k => ipw_succ a k)
  have H1 : Hid (I (ipw a 0) = [49]) := by rw [ipw_zero]; exact I_one
  clear hb7
  go_enter Tryz.func126, Tryz.ntmps126
  go_wp2
  go_loopw [5, 6] (fun ov iv wr => ∃ i : Nat, iv = .int .i64 (i : Int) ∧ ov = .string (bs (I (ipw a i))) ∧ i ≤ n ∧ Below w.heap.size w wr) (fun _ iv _ => n - (intOf iv).toNat)
  case atStart => exact ⟨0, rfl, by rw [H1.out]; rfl, by omega, Below.refl _ _⟩
  case round =>
    obtain ⟨i, rfl, rfl, hi, hbw⟩ := hrel
    by_cases hlt : i < n
    · have hm := fun wx => HT.out i hi wx
      rw [← HS.out i] at hm
      have HM := Lib.hid hm
      have hin : (i : Int) < (n : Int) := by omega
      clear hm
      generalize hx : ipw a (i + 1) = x at *
      have HX := Lib.hid hx
      clear hx
      go_wp2_with fail
      refine (HO.out _).mono ?_
      rintro e w1 ⟨rfl, hb1⟩
      go_wp2_with fail
      refine (HM.out _).mono ?_
      rintro e w2 ⟨rfl, hb2⟩
      have hb2 := hbw.trans ((hb1.trans (hb2.mono hb1.size)).mono hbw.size)
      go_wp2
      go_roundw
      case rel => exact ⟨i + 1, by go_num, by rw [HX.out], by omega, hb2⟩
      case measure => simp [intOf]; omega
    · obtain rfl : i = n := by omega
      go_wp2
      go_ret
      exact Ret.of rfl hbw
end W
end Go.Proofs.YtgjfiaadnecilaaGreatDoor
namespace Go.Proofs.YtgjfiaadnecilaaGreatDoor
open Go Go.RowKit Go.Deep
namespace M
def nRow (i j : Nat) : List (List UInt8) := (List.range j).map fun t => I ((ch i t : Nat) : Int)
theorem nRow_succ (i j : Nat) : nRow i (j + 1) = nRow i j ++ [I ((ch i j : Nat) : Int)] := by
  unfold nRow; rw [List.range_succ, List.map_append]; rfl
theorem nRow_len (i j : Nat) : (nRow i j).length = j := by simp [nRow]
theorem nRow_one (i : Nat) : nRow i 1 = [[49]] := by
  rw [nRow_succ, ch_zero]
  show [] ++ [I 1] = _
  rw [I_one]; rfl
theorem nRow_get (i j t : Nat) (h : t < (nRow i j).length) : (nRow i j)[t] = I ((ch i t : Nat) : Int) := by simp [nRow]
theorem ch_len {n k : Nat} (hn : n ≤ 100) : (I ((ch n k : Nat) : Int)).length ≤ 999999 :=
  Nat.le_trans (I_le (k := 31) (by rw [Int.natAbs_natCast]; exact ch_lt hn) (by decide)) (by decide)
theorem ch_sum (m t : Nat) : ((ch m t : Nat) : Int) + ((ch m (t + 1) : Nat) : Int) = ((ch (m + 1) (t + 1) : Nat) : Int) := by
  rw [ch, Int.natCast_add]
end M
namespace W
open M
attribute [local go_sem] bs_size bs_toList bs_get bs_extract bs_append bs_lit0 bs_lit1 lit1_bs
set_option maxHeartbeats 1000000
set_option maxRecDepth 20000
theorem chosen_ok (n k : Nat) (w : World) (hn : n ≤ 100) (hk : k ≤ n) :
    Calls Tryz.prog 125 #[.int .i64 (n : Int), .int .i64 (k : Int)] w (Ret w (.string (bs (I ((ch n k : Nat) : Int))))) := by
  have HP := Lib.hid (fun m (hm : m < n) t wx => plus_I ((ch m t : Nat) : Int) ((ch m (t + 1) : Nat) : Int) wx (ch_len (by omega)) (ch_len (by omega)))
  have HS := Lib.hid (fun i j => nRow_succ i j)
  have HL := Lib.hid (fun i j => nRow_len i j)
  have H1 := Lib.hid (fun i => nRow_one i)
  have HC := Lib.hid (fun m t => ch_sum m t)
  have hk0 : ((k : Int) < 0) = False := eq_false (by omega)
  have hkn : ((n : Int) < (k : Int)) = False := eq_false (by omega)
  have hkn' : (k : Int) ≤ (n : Int) := by omega
  go_enter Tryz.func125, Tryz.ntmps125
  go_wp2
  go_loopw [5, 6] (fun rv iv wr => ∃ (m : Nat) (vo : Value), iv = .int .i64 ((m : Int) + 1) ∧ rv = vo ∧ m ≤ n ∧ Hid (OwnS wr w.heap.size vo (nRow m (m + 1))) ∧ Below w.heap.size w wr) (fun _ iv _ => n + 1 - (intOf iv).toNat)
  case atStart => exact ⟨0, _, rfl, rfl, by omega, by rw [H1.out]; exact OwnS.new w [[49]] _ _ _ _ rfl rfl rfl (Nat.le_refl _) (by unfold maxLen; omega), Below.alloc (Below.refl _ _) (Nat.le_refl _) _⟩
  case round =>
    obtain ⟨m, rv, rfl, hvo, hm, hown, hbw⟩ := hrel
    have hvo := hvo.symm
    subst hvo
    obtain ⟨g, gc, rfl, hgB, hglt, hcl⟩ := OwnS.form hown.out (by intro e; have h1 := HL.out m (m + 1); rw [e, List.length_nil] at h1; omega)
    have hcl2 : ∀ t, t < m + 1 → wr.cell? ⟨g, t, none⟩ = some (.string (bs (I ((ch m t : Nat) : Int)))) := fun t ht => by
      have h1 := hcl t (by rw [HL.out]; exact ht)
      rwa [nRow_get] at h1
    clear hcl
    rw [HL.out] at hown ⊢
    by_cases hlt : m < n
    · have hin : (m : Int) + 1 ≤ (n : Int) := by omega
      have HCL := Lib.hid hcl2
      have HPM := Lib.hid (fun t wx => HP.out m hlt t wx)
      clear hcl2
      obtain ⟨W0, hW0⟩ : ∃ x, x = wr := ⟨wr, rfl⟩
      subst hW0
      have hsz := hbw.size
      go_wp2
      go_loopw [7, 8] (fun nv jv wr => ∃ (t : Nat) (vo : Value), jv = .int .i64 ((t : Int) + 1) ∧ nv = vo ∧ t ≤ m ∧ Hid (OwnS wr W0.heap.size vo (nRow (m + 1) (t + 1))) ∧ Below W0.heap.size W0 wr) (fun _ jv _ => m + 1 - (intOf jv).toNat)
      case atStart => exact ⟨0, _, rfl, rfl, by omega, by rw [H1.out]; exact OwnS.new W0 [[49]] _ _ _ _ rfl rfl rfl (Nat.le_refl _) (by unfold maxLen; omega), Below.alloc (Below.refl _ _) (Nat.le_refl _) _⟩
      case round =>
        obtain ⟨t, nv, rfl, hvo, ht, hown2, hb2⟩ := hrel
        have hvo := hvo.symm
        subst hvo
        by_cases htl : t < m
        · have c0 := (hb2.cell (p := ⟨g, t, none⟩) hglt).trans (HCL.out t (by omega))
          have c1 := (hb2.cell (p := ⟨g, t + 1, none⟩) hglt).trans (HCL.out (t + 1) (by omega))
          have HM := Lib.hid (fun wx => HPM.out t wx)
          rw [HC.out m t] at HM
          have hi1 : (t : Int) + 1 < (m : Int) + 1 := by omega
          have hi2 : (0 : Int) ≤ (t : Int) := by omega
          have hi3 : (t : Int) < (m : Int) + 1 := by omega
          have hi4 : (0 : Int) ≤ (t : Int) + 1 := by omega
          have hwt : IntKind.i64.wrap (t : Int) = (t : Int) := IntWalk.i64_in _ (by omega)
          have htn : ((t : Int) + 1).toNat = t + 1 := by omega
          have HO1 := Lib.hid (And.intro hown2.out (And.intro hb2 hb2.size))
          have HLN := Lib.hid (HL.out (m + 1) (t + 1))
          have HSN := Lib.hid (HS.out (m + 1) (t + 1))
          clear hown2
          generalize I ((ch (m + 1) (t + 1) : Nat) : Int) = qs at *
          go_wp2
          go_region_law (first
            | (refine step_app_s rfl (.tmp 28) (.tmp 39) rfl rfl rfl (OwnS.alloc (OwnS.below HO1.out.1 hbz) _) (SrcS.new _ [qs] _ _ _ rfl rfl rfl) (by have h1 := HO1.out.2.2; have h2 := hbz.size; simp; omega) (by have h1 := HLN.out; simp only [List.length_cons, List.length_nil]; omega) ?_; intro v2 w2 ho2 hk2; have hb4 := hk2 W0.heap.size W0 (Nat.le_refl _) (Below.alloc (hb2.trans (hbz.mono hb2.size)) (by have h1 := HO1.out.2.2; have h2 := hbz.size; omega) _))
            | (go_simp; go_at_call 103; refine (HM.out _).mono ?_; rintro e w3 ⟨rfl, hb3⟩; have hbz := Below.trans (RowKit.Below.drew (Below.refl wr.heap.size wr)) (hb3.mono (by simp))))
          all_goals
            go_wp2
            go_roundw
            case rel => exact ⟨t + 1, _, by go_num, rfl, by omega, by rw [HSN.out]; exact ho2, hb4⟩
            case measure => simp [intOf]; omega
        · obtain rfl : t = m := by omega
          have HO1 := Lib.hid (And.intro hown2.out (And.intro hb2 hb2.size))
          have HLN := Lib.hid (HL.out (t + 1) (t + 1))
          have HSN := Lib.hid (HS.out (t + 1) (t + 1))
          have HCS : Hid (I ((ch (t + 1) (t + 1) : Nat) : Int) = [49]) := by rw [ch_self]; exact I_one
          clear hown2
          go_wp2_with (at_builtin; refine wpList_app_sl rfl _ _ rfl rfl rfl (OwnS.alloc HO1.out.1 _) (SrcS.new _ [[49]] _ _ _ rfl rfl rfl) (by have h1 := HO1.out.2.2; simp; omega) (by have h1 := HLN.out; simp only [List.length_cons, List.length_nil]; omega) ?_; intro v2 w2 ho2 hk2)
          have hb4 := hk2 W0.heap.size W0 (Nat.le_refl _) (Below.alloc hb2 hb2.size _)
          go_roundw
          case rel => exact ⟨t + 1, _, by go_num, rfl, by omega, by rw [HSN.out, HCS.out]; exact ownsRow_base ho2 hsz, hbw.trans (hb4.mono hsz)⟩
          case measure => simp [intOf]; omega
    · obtain rfl : m = n := by omega
      have hc := hcl2 k (by omega)
      have hk1 : (k : Int) < (m : Int) + 1 := by omega
      have hk2 : (0 : Int) ≤ (k : Int) := by omega
      clear hcl2 hown
      go_wp2
      go_ret
      exact Ret.of rfl hbw
end W
end Go.Proofs.YtgjfiaadnecilaaGreatDoor
namespace Go.Proofs.YtgjfiaadnecilaaGreatDoor
open Go Go.RowKit Go.Deep
namespace M
theorem wB_eq (n : Nat) (p q : Int) (k : Nat) : ((ch n k : Nat) : Int) * (ipw p k * ipw (q - p) (n - k)) = wB n p q k := by
  unfold wB
  simp only [pr, Int.mul_one]
theorem bd_len {z : Int} {K : Nat} (h : z.natAbs < 10 ^ K) (hk : 1 ≤ K) (hK : K ≤ 5000) : (I z).length ≤ 100000 := by
  have := I_le h hk
  omega
theorem OkS.lens {n : Nat} {p q : Int} (h : OkS n p q) (k : Nat) (hk : k ≤ n) :
    (I ((ch n k : Nat) : Int)).length ≤ 100000 ∧ (I (ipw p k)).length ≤ 100000 ∧ (I (ipw (q - p) (n - k))).length ≤ 100000 ∧ (I (ipw p k * ipw (q - p) (n - k))).length ≤ 100000 := by
  obtain ⟨J, hJ⟩ : ∃ J, J = 421 := ⟨_, rfl⟩
  have hp := h.pw hJ
  have h1 := hp.1 k hk
  have h2 := hp.2 (n - k) (by omega)
  refine ⟨bd_len (K := 31) (by rw [Int.natAbs_natCast]; exact ch_lt (by have := h.1; omega)) (by decide) (by decide), bd_len h1 (by omega) (by omega), bd_len h2 (by omega) (by omega), bd_len (K := J + J) ?_ (by omega) (by omega)⟩
  rw [Int.natAbs_mul, Nat.pow_add]
  exact Nat.mul_lt_mul'' h1 h2
end M
namespace W
open M
attribute [local go_sem] bs_size bs_toList bs_get bs_extract bs_append bs_lit0 bs_lit1 lit1_bs
set_option maxHeartbeats 1000000
set_option maxRecDepth 20000
theorem trials_ok (n : Nat) (p q : Int) (w : World) (h : OkS n p q) :
    Calls Tryz.prog 73 #[.int .i64 (n : Int), .int .i64 p, .int .i64 q] w (GathP (tx (triL n p q (n + 1))) w) := by
  obtain ⟨h1, h2, h3, h4, h5⟩ := id h
  have HC := Lib.hid (fun k (hk : k ≤ n) wx => chosen_ok n k wx (by omega) hk)
  have HP1 := Lib.hid (fun k (hk : k ≤ n) wx => power_ok p k wx (by omega) (by omega))
  have HP2 := Lib.hid (fun k (hk : k ≤ n) wx => power_ok (q - p) k wx (by omega) (by omega))
  have HT1 := Lib.hid (fun k (hk : k ≤ n) wx => times_I (ipw p k) (ipw (q - p) (n - k)) wx (h.lens k hk).2.1 (h.lens k hk).2.2.1)
  have HT2 := Lib.hid (fun k (hk : k ≤ n) wx => times_I ((ch n k : Nat) : Int) (ipw p k * ipw (q - p) (n - k)) wx (h.lens k hk).1 (h.lens k hk).2.2.2)
  have HE := Lib.hid (fun k => wB_eq n p q k)
  have HTL := Lib.hid (fun k => triL_len n p q k)
  have HY := Lib.hid (fun k => @triL_yes n p q k)
  have HN := Lib.hid (fun k => @triL_no n p q k)
  have hw1 : wrap64 (q - p) = q - p := IntWalk.wrap64_in _ (by omega)
  clear h
  go_enter Tryz.func73, Tryz.ntmps73
  go_wp2
  go_loopw [7, 8] (fun ov iv wr => ∃ (k : Nat) (vo : Value), iv = .int .i64 (k : Int) ∧ ov = vo ∧ k ≤ n + 1 ∧ Hid (OwnW wr w.heap.size vo (tx (triL n p q k))) ∧ Below w.heap.size w wr) (fun _ iv _ => n + 1 - (intOf iv).toNat)
  case atStart => exact ⟨0, _, rfl, rfl, by omega, OwnW.nil _ _, Below.refl _ _⟩
  case round =>
    obtain ⟨k, ov, rfl, hvo, hk, hown, hbw⟩ := hrel
    have hvo := hvo.symm
    subst hvo
    by_cases hlt : k ≤ n
    · have C1 := Lib.hid (fun wx => HC.out k hlt wx)
      have P1 := Lib.hid (fun wx => HP1.out k hlt wx)
      have P2 := Lib.hid (fun wx => HP2.out (n - k) (by omega) wx)
      have T1 := Lib.hid (fun wx => HT1.out k hlt wx)
      have T2 := Lib.hid (fun wx => HT2.out k hlt wx)
      rw [HE.out k] at T2
      have hwk : wrap64 ((n : Int) - (k : Int)) = (n : Int) - (k : Int) := IntWalk.wrap64_in _ (by omega)
      rw [show (((n - k : Nat)) : Int) = (n : Int) - (k : Int) by omega] at P2
      have hkn : (k : Int) ≤ (n : Int) := by omega
      have hl := HTL.out k
      have hyes := HY.out k
      have hno := HN.out k
      generalize I ((ch n k : Nat) : Int) = s1 at *
      generalize I (ipw p k * ipw (q - p) (n - k)) = s4 at *
      generalize I (ipw p k) = s2 at *
      generalize I (ipw (q - p) (n - k)) = s3 at *
      go_wp2_with fail
      refine (C1.out _).mono ?_
      rintro e w1 ⟨rfl, hb1⟩
      go_wp2_with fail
      refine (P1.out _).mono ?_
      rintro e w2 ⟨rfl, hb2⟩
      have hb2 := hb1.trans (hb2.mono hb1.size)
      go_wp2_with fail
      refine (P2.out _).mono ?_
      rintro e w3 ⟨rfl, hb3⟩
      have hb3 := hb2.trans (hb3.mono hb2.size)
      go_wp2_with fail
      refine (T1.out _).mono ?_
      rintro e w4 ⟨rfl, hb4⟩
      have hb4 := hb3.trans (hb4.mono hb3.size)
      go_wp2_with fail
      refine (T2.out _).mono ?_
      rintro e w5 ⟨rfl, hb5⟩
      have hb5 := hb4.trans (hb5.mono hb4.size)
      have hbe := hbw.trans (hb5.mono hbw.size)
      by_cases h0 : wB n p q k = 0
      · have hz : (I (wB n p q k) == [48]) = true := by rw [beq_iff_eq]; exact I_eq_zero.2 h0
        have HX := Lib.hid (hno h0)
        have HO := Lib.hid (OwnW.below hown.out hb5)
        clear hyes hno h0 hown
        generalize I (wB n p q k) = wk at *
        go_wp2
        go_roundw
        case rel => exact ⟨k + 1, _, by go_num, rfl, by omega, by rw [HX.out]; exact HO.out, hbe⟩
        case measure => simp [intOf]; omega
      · have hz : (I (wB n p q k) == [48]) = false := by rw [beq_eq_false_iff_ne]; intro e; exact h0 (I_eq_zero.1 e)
        have HX := Lib.hid (hyes h0)
        have HO1 := Lib.hid (And.intro (OwnW.below hown.out hb5) (And.intro hbe (show (tx (triL n p q k)).length ≤ 1000000000 by omega)))
        clear hyes hno h0 hown hl
        generalize I (wB n p q k) = wk at *
        go_wp2_with (at_builtin; refine wpList_app_w rfl _ _ rfl rfl rfl rfl HO1.out.1 HO1.out.2.1.size HO1.out.2.2 ?_; intro v' w' ho' hk')
        have hbk := hk' _ _ (Nat.le_refl _) HO1.out.2.1
        go_roundw
        case rel => exact ⟨k + 1, _, by go_num, rfl, by omega, by rw [HX.out]; exact ho', hbk⟩
        case measure => simp [intOf]; omega
    · obtain rfl : k = n + 1 := by omega
      have HO := Lib.hid hown.out
      clear hown
      go_wp2
      go_ret
      exact ⟨ov, rfl, HO.out, hbw⟩
end W
end Go.Proofs.YtgjfiaadnecilaaGreatDoor
namespace Go.Proofs.YtgjfiaadnecilaaGreatDoor
open Go Go.RowKit Go.Deep
namespace M
theorem triL_ok {n : Nat} {p q : Int} (h : OkS n p q) : ∀ k, k ≤ n + 1 → ∀ x ∈ triL n p q k, Ok x.2
  | 0, _, x, hx => by cases hx
  | k + 1, hk, x, hx => by
    unfold triL at hx
    rcases List.mem_append.1 hx with hx | hx
    · exact triL_ok h k (by omega) x hx
    · split at hx
      · cases hx
      · rw [List.mem_singleton.1 hx]; exact (h.terms k (by omega)).2.2.2.2
end M
namespace W
open M
attribute [local go_sem] bs_size bs_toList bs_get bs_extract bs_append bs_lit0 bs_lit1 lit1_bs
set_option maxHeartbeats 1000000
set_option maxRecDepth 20000
theorem rbinom_bad (n p q : Int) (w : World) (h : n < 0 ∨ 256 < n ∨ q < 1 ∨ 1048576 < q ∨ p < 0 ∨ q < p) :
    Calls Tryz.prog 29 #[.int .i64 n, .int .i64 p, .int .i64 q] w (Ret w (.tuple #[.slice none 0 0, .int .i64 2])) := by
  by_cases h1 : n < 0
  · clear h
    go_enter Tryz.func29, Tryz.ntmps29
    go_wp2
    go_ret2
    exact Ret.of rfl (Below.refl _ _)
  have d1 : decide (n < 0) = false := decide_eq_false h1
  by_cases h2 : 256 < n
  · clear h
    go_enter Tryz.func29, Tryz.ntmps29
    go_wp2
    go_ret2
    exact Ret.of rfl (Below.refl _ _)
  have d2 : decide (256 < n) = false := decide_eq_false h2
  by_cases h3 : q < 1
  · clear h
    go_enter Tryz.func29, Tryz.ntmps29
    go_wp2
    go_ret2
    exact Ret.of rfl (Below.refl _ _)
  have d3 : decide (q < 1) = false := decide_eq_false h3
  by_cases h4 : 1048576 < q
  · clear h
    go_enter Tryz.func29, Tryz.ntmps29
    go_wp2
    go_ret2
    exact Ret.of rfl (Below.refl _ _)
  have d4 : decide (1048576 < q) = false := decide_eq_false h4
  by_cases h5 : p < 0
  · clear h
    go_enter Tryz.func29, Tryz.ntmps29
    go_wp2
    go_ret2
    exact Ret.of rfl (Below.refl _ _)
  have d5 : decide (p < 0) = false := decide_eq_false h5
  have h6 : q < p := by omega
  clear h
  go_enter Tryz.func29, Tryz.ntmps29
  go_wp2
  go_ret2
  exact Ret.of rfl (Below.refl _ _)
theorem rbinom_ok (n : Nat) (p q : Int) (w : World) (h : OkS n p q) :
    Calls Tryz.prog 29 #[.int .i64 (n : Int), .int .i64 p, .int .i64 q] w (ListP true (tx (triL n p q (n + 1))) 0 w) := by
  have HT := Lib.hid (fun wx => trials_ok n p q wx h)
  have HK := Lib.hid (fun (x : ZT) (hx : x ∈ triL n p q (n + 1)) => triL_ok h (n + 1) (Nat.le_refl _) x hx)
  have HL := Lib.hid (triL_len n p q (n + 1))
  obtain ⟨h1, h2, h3, h4, h5⟩ := h
  rw [tx_len] at HL
  generalize triL n p q (n + 1) = sl at *
  go_enter Tryz.func29, Tryz.ntmps29
  go_wp2_with fail
  refine (HT.out _).mono ?_
  rintro e w2 ⟨v, rfl, ho2, hb2⟩
  obtain ⟨A, cp, rfl, hr⟩ := ho2.rd
  rw [tx_len] at ho2 ⊢
  have HO := Lib.hid (And.intro ho2 hb2)
  have HR := Lib.hid hr
  have hsl : sl.length ≤ 61 := by have := HL.out; omega
  clear ho2 hb2 hr
  go_wp2
  go_loopw [9] (fun iv wr => ∃ (i : Nat), iv = .int .i64 (i : Int) ∧ i ≤ sl.length ∧ Below w2.heap.size w2 wr) (fun iv _ => sl.length - (intOf iv).toNat)
  case atStart => exact ⟨0, rfl, by omega, Below.refl _ _⟩
  case round =>
    obtain ⟨i, rfl, hil, hbw⟩ := hrel
    by_cases hlt : i < sl.length
    · rcases HR.out with hr | ⟨g, o, rfl, hws⟩
      · have h9 := tx_len sl
        rw [hr, List.length_nil] at h9
        omega
      · have hwr := hws.below' hbw
        have hlt' : i < (tx sl).length := by rw [tx_len]; exact hlt
        have cw := hwr.wt i hlt'
        rw [tx_get sl i hlt] at cw
        simp only at cw
        have hok := HK.out _ (List.getElem_mem hlt)
        have HC := Lib.hid (fun wx => check_any (I sl[i].2) wx (by have := hok.len; omega))
        have hck : chk (I sl[i].2) = 0 := chk_I0 hok
        rw [hck] at HC
        clear hwr hok hck hlt'
        generalize I sl[i].2 = xw at *
        go_wp2_with fail
        refine (HC.out _).mono ?_
        rintro e w' ⟨rfl, rfl⟩
        go_wp2
        go_roundw
        case rel => exact ⟨i + 1, by go_num, by omega, hbw⟩
        case measure => simp [intOf]; omega
    · obtain rfl : i = sl.length := by omega
      go_wp2
      go_ret2
      exact ListP.yes (OwnW.below HO.out.1 hbw) (HO.out.2.trans (hbw.mono HO.out.2.size))
end W
end Go.Proofs.YtgjfiaadnecilaaGreatDoor
