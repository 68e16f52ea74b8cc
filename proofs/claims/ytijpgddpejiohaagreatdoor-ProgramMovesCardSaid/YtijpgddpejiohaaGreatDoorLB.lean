/-
  The reference of layer 1: the small functions on texts.
  The reference of layer 1: 'wide', 'paper', 'number', 'brief'.
  The reference of layer 1: 'paper', a sum or a difference of digits in columns.
  The reference of layer 1 on canonical integers: the small functions by the numbers.
  The reference of layer 1: 'Of', 'Plus', 'Minus', 'Order'.
  The reference of layer 1: 'product' and 'Times'.
  The reference of layer 1: 'Times', 'divided', 'Parted', 'Shared'.
  The reference of layer 1: 'Parted', 'Shared'.
  The reference of layer 1: 'Shared'.
  The reference of layer 1: 'Check'.
-/
import Derived.Test.YtijpgddpejiohaaGreatDoorLA
import Derived.StillTailTactics
import Derived.Deep.QuietTactic
import Derived.BigQuiet
import Derived.Deep.RegionWith
import Derived.RegionTactic
import Derived.ChangeAlike
section
namespace Go.Proofs.YtijpgddpejiohaaGreatDoor
open Go Go.RowKit
namespace M
theorem b45 {c : UInt8} : ((c.toNat : Int) == 45) = (c == 45) := by
  rw [Bool.eq_iff_iff]; simp only [beq_iff_eq]
  constructor
  · intro h; exact UInt8.toNat_inj.1 (by simpa using (by omega : c.toNat = 45))
  · intro h; subst h; rfl
theorem b48 {c : UInt8} : ((c.toNat : Int) == 48) = (c == 48) := by
  rw [Bool.eq_iff_iff]; simp only [beq_iff_eq]
  constructor
  · intro h; exact UInt8.toNat_inj.1 (by simpa using (by omega : c.toNat = 48))
  · intro h; subst h; rfl
end M
namespace W
open M
attribute [local go_sem] bs_size bs_toList bs_get bs_extract bs_append bs_lit0 bs_lit1 lit1_bs
set_option maxHeartbeats 400000
theorem size_any (l : List UInt8) (w : World) (hs : l.length ≤ 1000000000) :
    Calls Tryz.prog 122 #[.string (bs l)] w fun e w' => e = .returned (.string (bs (sz l))) ∧ w = w' := by
  rcases l with _ | ⟨c, t⟩
  · rw [sz_nil]
    go_enter Tryz.func122, Tryz.ntmps122
    go_wp2
    go_ret
    exact ⟨rfl, rfl⟩
  · by_cases hc : c = 45
    · subst hc
      rw [sz_minus]
      go_enter Tryz.func122, Tryz.ntmps122
      go_wp2
      go_ret
      exact ⟨by simp, rfl⟩
    · rw [sz_plain t hc]
      have h1 : ((c.toNat : Int) == 45) = false := by rw [b45]; simpa using hc
      go_enter Tryz.func122, Tryz.ntmps122
      go_wp2
      go_ret
      exact ⟨rfl, rfl⟩
theorem below_any (c : UInt8) (t : List UInt8) (w : World) :
    Calls Tryz.prog 119 #[.string (bs (c :: t))] w fun e w' => e = .returned (.bool (c == 45)) ∧ w = w' := by
  go_enter Tryz.func119, Tryz.ntmps119
  go_wp2
  go_ret
  exact ⟨ret_bool b45, rfl⟩
theorem less_any (a b : List UInt8) (w : World) (_ha : a.length ≤ 1000000000) (_hb : b.length ≤ 1000000000) :
    Calls Tryz.prog 125 #[.string (bs a), .string (bs b)] w fun e w' => e = .returned (.bool (decide (a.length < b.length) || (decide (a.length = b.length) && Op.bytesLess a b))) ∧ w = w' := by
  have key : ∀ x : Bool, x = (decide (a.length < b.length) || (decide (a.length = b.length) && Op.bytesLess a b)) → 
    Calls Tryz.prog 125 #[.string (bs a), .string (bs b)] w fun e w' => e = .returned (.bool x) ∧ w = w' := by
    intro x hx
    have H := Lib.hid hx
    clear hx
    go_enter Tryz.func125, Tryz.ntmps125
    go_wp2
    · go_ret
      refine ⟨ret_bool ?_, rfl⟩
      rw [H.out]
      have : a.length = b.length := by omega
      simp [this]
    · go_ret
      refine ⟨ret_bool ?_, rfl⟩
      rw [H.out]
      have : ¬ a.length = b.length := by omega
      simp [this]
    · go_ret
      refine ⟨ret_bool ?_, rfl⟩
      rw [H.out]
      have : a.length < b.length := by omega
      simp [this]
  exact key _ rfl
theorem column_add (x y c : Int) (w : World) (hx : 48 ≤ x ∧ x ≤ 57) (hy : 48 ≤ y ∧ y ≤ 57) (hc : 0 ≤ c ∧ c ≤ 1) :
    Calls Tryz.prog 187 #[.int .u8 x, .int .u8 y, .int .i64 c, .bool true] w fun e w' =>
      e = .returned (.tuple #[.int .u8 (colD (x - 48 + (y - 48) + c)), .int .i64 (colC (x - 48 + (y - 48) + c))]) ∧ w = w' := by
  have key : ∀ d k : Int, d = colD (x - 48 + (y - 48) + c) → k = colC (x - 48 + (y - 48) + c) →
     Calls Tryz.prog 187 #[.int .u8 x, .int .u8 y, .int .i64 c, .bool true] w fun e w' => e = .returned (.tuple #[.int .u8 d, .int .i64 k]) ∧ w = w' := by
    intro d k hd hk
    have HD := Lib.hid hd
    have HK := Lib.hid hk
    clear hd hk
    go_enter Tryz.func187, Tryz.ntmps187
    go_wp2
    all_goals (go_ret2; refine ⟨ret2_int ?_ ?_, rfl⟩)
    all_goals (first | rw [HD.out] | rw [HK.out])
    all_goals (first | unfold colD | unfold colC)
    all_goals (repeat' split)
    all_goals omega
  exact key _ _ rfl rfl
theorem column_sub (x y c : Int) (w : World) (hx : 48 ≤ x ∧ x ≤ 57) (hy : 48 ≤ y ∧ y ≤ 57) (hc : 0 ≤ c ∧ c ≤ 1) :
    Calls Tryz.prog 187 #[.int .u8 x, .int .u8 y, .int .i64 c, .bool false] w fun e w' =>
      e = .returned (.tuple #[.int .u8 (colD (x - 48 - (y - 48) - c)), .int .i64 (colC (x - 48 - (y - 48) - c))]) ∧ w = w' := by
  have key : ∀ d k : Int, d = colD (x - 48 - (y - 48) - c) → k = colC (x - 48 - (y - 48) - c) →
     Calls Tryz.prog 187 #[.int .u8 x, .int .u8 y, .int .i64 c, .bool false] w fun e w' => e = .returned (.tuple #[.int .u8 d, .int .i64 k]) ∧ w = w' := by
    intro d k hd hk
    have HD := Lib.hid hd
    have HK := Lib.hid hk
    clear hd hk
    go_enter Tryz.func187, Tryz.ntmps187
    go_wp2
    all_goals (go_ret2; refine ⟨ret2_int ?_ ?_, rfl⟩)
    all_goals (first | rw [HD.out] | rw [HK.out])
    all_goals (first | unfold colD | unfold colC)
    all_goals (repeat' split)
    all_goals omega
  exact key _ _ rfl rfl
theorem bare_any (l : List UInt8) (w : World) (hn : l ≠ []) (hs : l.length ≤ 1000000000) :
    Calls Tryz.prog 188 #[.string (bs l)] w fun e w' => e = .returned (.string (bs (strip l))) ∧ w = w' := by
  go_enter Tryz.func188, Tryz.ntmps188
  go_wp2
  go_loop [0] (fun s => ∃ m : List UInt8, s = .string (bs m) ∧ m ≠ [] ∧ m.length ≤ 1000000000 ∧ strip m = strip l) (fun s => match s with | .string x => x.size | _ => 0)
  case atStart => exact ⟨l, rfl, hn, hs, rfl⟩
  case round =>
    obtain ⟨m, rfl, hm, hms, hst⟩ := hrel
    have H := Lib.hid hst
    clear hst
    rcases m with _ | ⟨c, _ | ⟨d, t⟩⟩
    · exact absurd rfl hm
    · go_wp2
      go_ret
      exact ⟨ret_str (by rw [← H.out]; rfl), rfl⟩
    · clear hm hn
      by_cases hc : c = 48
      · subst hc
        go_wp2
        go_round
        case rel => exact ⟨d :: t, by simp, by simp, by simp at hms ⊢; omega, by rw [← H.out]; rfl⟩
        case measure => simp [bs_size]
      · have h1 : ((c.toNat : Int) == 48) = false := by rw [b48]; simpa using hc
        go_wp2
        go_ret
        exact ⟨ret_str (by rw [← H.out]; simp [strip, hc]), rfl⟩
theorem signed_any (l : List UInt8) (minus : Bool) (w : World) (hs : l.length ≤ 1000000000) :
    Calls Tryz.prog 123 #[.string (bs l), .bool minus] w fun e w' => e = .returned (.string (bs (bif minus && l != [48] then 45 :: l else l))) ∧ w = w' := by
  cases minus
  · go_enter Tryz.func123, Tryz.ntmps123
    go_wp2
    go_ret
    exact ⟨rfl, rfl⟩
  · by_cases h : l = [48]
    · subst h
      go_enter Tryz.func123, Tryz.ntmps123
      go_wp2
      go_ret
      exact ⟨rfl, rfl⟩
    · have h1 : (l == [48]) = false := by simpa using h
      have h2 : (l != [48]) = true := by simpa using h
      go_enter Tryz.func123, Tryz.ntmps123
      go_wp2
      go_ret
      exact ⟨ret_str (by rw [h2]; rfl), rfl⟩
end W
end Go.Proofs.YtijpgddpejiohaaGreatDoor
end
section
namespace Go.Proofs.YtijpgddpejiohaaGreatDoor
open Go Go.RowKit
namespace W
open M
attribute [local go_sem] bs_size bs_toList bs_get bs_extract bs_append bs_lit0 bs_lit1 lit1_bs
set_option maxHeartbeats 400000
set_option maxRecDepth 3000 in
theorem wide_any (l : List UInt8) (n : Nat) (w : World) (hl : l.length ≤ n) (hn : n ≤ 1000000000) :
    Calls Tryz.prog 186 #[.string (bs l), .int .i64 (n : Int)] w (Ret w (.string (bs (pad l n)))) := by
  unfold pad
  have hmk := make_u8 n (by omega)
  go_enter Tryz.func186, Tryz.ntmps186
  go_wp2
  clear hmk
  go_loopw [6] (fun i wr => ∃ k : Nat, k ≤ n ∧ i = .int .i64 (k : Int) ∧ Row wr w.heap.size 5 (U8 (List.replicate k 48 ++ List.replicate (n - k) 0)) ∧ Below w.heap.size w wr)
    (fun i _ => n - (intOf i).toNat)
  case atStart => exact ⟨0, by omega, rfl, by simpa using Row.new w _ _, (Below.refl _ _).alloc (Nat.le_refl _) _⟩
  case round =>
    obtain ⟨k, hk, rfl, hrow, hb⟩ := hrel
    by_cases hlt : k < n
    · have hc : wr.cell? ⟨w.heap.size, k, none⟩ = some (.int .u8 0) := hrow.cell (by rw [U8_get _ _ (by simp; omega)]; simp)
      have hf := hrow.free k
      have hr' := hrow.set k (.int .u8 48)
      clear hrow
      go_wp2
      go_roundw
      case rel =>
        refine ⟨k + 1, by omega, by go_num, ?_, hb.setCell (by simp) _⟩
        have e : (U8 (List.replicate k 48 ++ List.replicate (n - k) 0)).set k (.int .u8 48) = U8 (List.replicate (k + 1) 48 ++ List.replicate (n - (k + 1)) 0) := by
          rw [show (Value.int .u8 48) = .int .u8 ((48 : UInt8).toNat : Int) from rfl, U8_set, List.set_append_right _ _ (by simp)]
          rw [show n - k = (n - (k + 1)) + 1 by omega]
          congr 1
          rw [List.replicate_succ' (n := k), List.replicate_succ]
          simp
        rw [← e]; exact hr'
      case measure => simp [intOf]; omega
    · obtain rfl : k = n := by omega
      clear hlt hk
      simp only [Nat.sub_self, List.replicate_zero, List.append_nil] at hrow
      rcases l with _ | ⟨c, t⟩
      · have hcp := Lib.run_copy_empty_string (P := Tryz.prog) wr 157 9 3 5 (some ⟨w.heap.size, 0, none⟩) 0 0 (bs []) Tryz.underlying157 (by rw [size5]; rfl) (by simp [bs_size])
        have hcv := conv_u8 hrow k
        rw [List.length_replicate] at hcv
        go_wp2
        go_ret
        exact ⟨by simp, hb⟩
      · obtain ⟨m, rfl⟩ : ∃ m, k = m + (t.length + 1) := ⟨k - (t.length + 1), by simp at hl; omega⟩
        clear hl
        obtain ⟨wx, hcp, hrx, hbx⟩ := copy_row hrow (c :: t) m (t.length + 1) (t.length + 1) (by simp) (by simp)
        have hcv := conv_u8 hrx (m + (t.length + 1))
        have hbw := hb.trans (hbx _ (Nat.le_refl _))
        have HS := Lib.hid (show (List.replicate (m + (t.length + 1)) (48 : UInt8)).take m ++ (c :: t) ++ (List.replicate (m + (t.length + 1)) 48).drop (m + (c :: t).length) = List.replicate m 48 ++ (c :: t) by simp)
        rw [HS.out] at hcv
        simp only [List.length_append, List.length_replicate, List.length_cons] at hcv hcp
        clear hrow hrx hbx hb HS
        go_wp2
        go_ret
        exact ⟨by simp, hbw⟩
end W
end Go.Proofs.YtijpgddpejiohaaGreatDoor
end
section
namespace Go.Proofs.YtijpgddpejiohaaGreatDoor
open Go Go.RowKit
namespace M
/-- What 'paper' has behind j columns that are still to come: the digits ds and the carry c. -/
def PapS (add : Bool) (A B ds : List UInt8) (j c : Nat) : Prop :=
  Digs ds ∧ c ≤ 1 ∧ (if add = true then val ds + c * 10 ^ ds.length = val (A.drop j) + val (B.drop j) else val ds + val (B.drop j) = val (A.drop j) + c * 10 ^ ds.length)
/-- A column's sum. -/
def colS (add : Bool) (x y c : Int) : Int := bif add then x - 48 + (y - 48) + c else x - 48 - (y - 48) - c
theorem colS_range {add : Bool} {x y c : Int} (hx : 48 ≤ x ∧ x ≤ 57) (hy : 48 ≤ y ∧ y ≤ 57) (hc : 0 ≤ c ∧ c ≤ 1) : -10 ≤ colS add x y c ∧ colS add x y c ≤ 19 := by
  unfold colS; cases add <;> simp <;> omega
theorem PapS.step {add : Bool} {A B ds : List UInt8} {m c : Nat} (hA : Digs A) (hB : Digs B) (hm : m < A.length) (hl : A.length = B.length) (hd : ds.length + (m + 1) = A.length) (h : PapS add A B ds (m + 1) c) :
    PapS add A B (colB (colS add (A[m].toNat : Int) (B[m].toNat : Int) c) :: ds) m (colC (colS add (A[m].toNat : Int) (B[m].toNat : Int) c)).toNat := by
  obtain ⟨h1, h2, h3⟩ := h
  have hm' : m < B.length := by omega
  have a1 := hA.get m hm
  have b1 := hB.get m hm'
  have e1 : A.length - (m + 1) = ds.length := by omega
  have e2 : B.length - (m + 1) = ds.length := by omega
  have r := colS_range (add := add) a1 b1 (c := (c : Int)) (by omega)
  have q := colD_range r
  have q2 := colB_eq r
  refine ⟨h1.cons (by omega), ?_⟩
  rw [val_cons, val_drop A m hm, val_drop B m hm', e1, e2, List.length_cons, Nat.pow_succ]
  cases add
  · simp only [Bool.false_eq_true, if_false] at h3 ⊢
    have k := col_sub (x := A[m].toNat - 48) (y := B[m].toNat - 48) h2 (by omega) (by omega) h3 (s := colS false (A[m].toNat : Int) (B[m].toNat : Int) c) (by unfold colS; simp; omega)
    exact ⟨k.2.1, by have := k.1; omega⟩
  · simp only [if_true] at h3 ⊢
    have k := col_add (x := A[m].toNat - 48) (y := B[m].toNat - 48) h2 (by omega) (by omega) h3 (s := colS true (A[m].toNat : Int) (B[m].toNat : Int) c) (by unfold colS; simp; omega)
    exact ⟨k.2.1, by have := k.1; omega⟩
/-- At the end the digits are those of the sum or difference. -/
theorem PapS.done {add : Bool} {a b ds : List UInt8} {n c : Nat} (ha : Digs a) (hb : Digs b) (hn : n = max a.length b.length + 1) (hlen : ds.length = n) (hge : add = false → val b ≤ val a) (h : PapS add (pad a n) (pad b n) ds 0 c) :
    strip ds = D (if add = true then val a + val b else val a - val b) := by
  obtain ⟨h1, h2, h3⟩ := h
  simp only [List.drop_zero, pad_val, hlen] at h3
  have l1 := val_lt h1
  have la := val_lt ha
  have lb := val_lt hb
  have pa : 10 ^ a.length ≤ 10 ^ (n - 1) := Nat.pow_le_pow_right (by decide) (by omega)
  have pb : 10 ^ b.length ≤ 10 ^ (n - 1) := Nat.pow_le_pow_right (by decide) (by omega)
  have pn : 10 ^ n = 10 ^ (n - 1) * 10 := by rw [← Nat.pow_succ]; congr 1; omega
  rw [hlen] at l1
  rw [strip_val (by intro e; subst e; simp at hlen; omega) h1]
  congr 1
  have hc : c = 0 ∨ c = 1 := by omega
  cases add
  · simp only [Bool.false_eq_true, if_false] at h3 ⊢
    have := hge rfl
    rcases hc with rfl | rfl <;> omega
  · simp only [if_true] at h3 ⊢
    rcases hc with rfl | rfl <;> omega
end M
namespace W
open M
attribute [local go_sem] bs_size bs_toList bs_get bs_extract bs_append bs_lit0 bs_lit1 lit1_bs
set_option maxHeartbeats 400000
theorem column_any (x y c : Int) (add : Bool) (w : World) (hx : 48 ≤ x ∧ x ≤ 57) (hy : 48 ≤ y ∧ y ≤ 57) (hc : 0 ≤ c ∧ c ≤ 1) :
    Calls Tryz.prog 187 #[.int .u8 x, .int .u8 y, .int .i64 c, .bool add] w fun e w' =>
      e = .returned (.tuple #[.int .u8 (colD (colS add x y c)), .int .i64 (colC (colS add x y c))]) ∧ w = w' := by
  cases add
  · exact column_sub x y c w hx hy hc
  · exact column_add x y c w hx hy hc
set_option maxRecDepth 20000 in
theorem paper_any (a b : List UInt8) (add : Bool) (w : World) (ha : a.length ≤ 1000000) (hb : b.length ≤ 1000000) (hda : Digs a) (hdb : Digs b) (hge : add = false → val b ≤ val a) :
    Calls Tryz.prog 124 #[.string (bs a), .string (bs b), .bool add] w (Ret w (.string (bs (D (if add = true then val a + val b else val a - val b))))) := by
  have HG := Lib.hid hge
  clear hge
  obtain ⟨N, hN⟩ : ∃ N : Nat, N = max a.length b.length + 1 := ⟨_, rfl⟩
  have HN := Lib.hid hN
  have hN1 : N ≤ 1000001 := by omega
  have hN2 : 1 ≤ N := by omega
  have hNa : a.length ≤ N := by omega
  have hNb : b.length ≤ N := by omega
  generalize hR : Value.string (bs (D (if add = true then val a + val b else val a - val b))) = R
  have HR := Lib.hid hR
  clear hR
  rcases Nat.lt_or_ge a.length b.length with h | h
  all_goals
    first
    | (have e : (b.length : Int) + 1 = (N : Int) := by omega
       clear hN
       go_enter Tryz.func124, Tryz.ntmps124
       go_wp2_with fail)
    | (have e : (a.length : Int) + 1 = (N : Int) := by omega
       clear hN
       go_enter Tryz.func124, Tryz.ntmps124
       go_wp2_with fail)
    clear e
    refine (wide_any a N _ hNa (by omega)).mono ?_
    rintro e w1 ⟨rfl, hb1⟩
    go_wp2_with fail
    refine (wide_any b N _ hNb (by omega)).mono ?_
    rintro e w2 ⟨rfl, hb2⟩
    have hmk := make_u8 N (by omega)
    have hb3 : Below w.heap.size w w2 := Below.then hb1 hb2
    have hA := pad_len hNa
    have hB := pad_len hNb
    have hAd := pad_digs (n := N) hda
    have hBd := pad_digs (n := N) hdb
    have HF := Lib.hid (fun (ds : List UInt8) (c : Nat) (hl : ds.length = N) (hp : PapS add (pad a N) (pad b N) ds 0 c) => PapS.done hda hdb HN.out hl HG.out hp)
    have hstart : PapS add (pad a N) (pad b N) [] N 0 := by
      refine ⟨Digs.nil, by omega, ?_⟩
      rw [List.drop_of_length_le (by omega), List.drop_of_length_le (by omega)]
      simp [val_nil]
    generalize pad a N = A at *
    generalize pad b N = B at *
    have HA := Lib.hid hA
    have HB := Lib.hid hB
    clear hA hB HG HN ha hb hNa hNb
    go_wp2
    clear hmk
    go_loopw [9, 10] (fun cv iv wr => ∃ (j c : Nat) (ds : List UInt8), cv = .int .i64 (c : Int) ∧ iv = .int .i64 ((j : Int) - 1) ∧ j ≤ N ∧ ds.length + j = N ∧ PapS add A B ds j c ∧ Row wr w2.heap.size 5 (U8 (List.replicate j 0 ++ ds)) ∧ Below w.heap.size w wr)
      (fun _ iv _ => (intOf iv + 1).toNat)
    case atStart => exact ⟨N, 0, [], rfl, rfl, Nat.le_refl _, by simp, hstart, by simpa using Row.new w2 _ _, hb3.alloc hb3.size _⟩
    case round =>
      obtain ⟨j, c, ds, rfl, rfl, hj, hdl, hp, hrow, hb⟩ := hrel
      rcases j with _ | m
      · have HX := HF.out ds c (by omega) hp
        simp only [List.replicate_zero, List.nil_append] at hrow
        have hN3 : ds.length = N := by omega
        have hcv := conv_u8 hrow N
        rw [hN3] at hcv
        have hne : ds ≠ [] := by intro e; subst e; simp at hN3; omega
        have hds : ds.length ≤ 1000000000 := by omega
        clear hN3 hj hdl hp hrow hN2 hN1
        go_wp2_with fail
        refine (bare_any ds _ hne hds).mono ?_
        rintro e w3 ⟨rfl, rfl⟩
        have HX' := Lib.hid HX
        clear HX
        go_wp2
        go_ret
        exact Ret.of (by rw [HX'.out]; exact HR.out) hb
      · have hz : ((m + 1 : Nat) : Int) - 1 = (m : Int) := by omega
        rw [hz]
        clear hz
        have hmA : m < A.length := by rw [HA.out]; omega
        have hmB : m < B.length := by rw [HB.out]; omega
        have hst := PapS.step hAd hBd hmA (by rw [HA.out, HB.out]) (by rw [HA.out]; omega) hp
        have a1 := hAd.get m hmA
        have b1 := hBd.get m hmB
        have c1 : 0 ≤ (c : Int) ∧ (c : Int) ≤ 1 := by have := hp.2.1; omega
        have r := colS_range (add := add) a1 b1 c1
        have q2 := colB_eq r
        have q3 : colC (colS add (A[m].toNat : Int) (B[m].toNat : Int) c) = ((colC (colS add (A[m].toNat : Int) (B[m].toNat : Int) c)).toNat : Int) := by unfold colC; split <;> rfl
        have hcall := fun wx => column_any (A[m].toNat : Int) (B[m].toNat : Int) c add wx a1 b1 c1
        generalize colC (colS add (A[m].toNat : Int) (B[m].toNat : Int) c) = kk at *
        generalize colB (colS add (A[m].toNat : Int) (B[m].toNat : Int) c) = bb at *
        rw [q2] at hcall
        obtain ⟨cn, rfl⟩ : ∃ n : Nat, kk = (n : Int) := ⟨kk.toNat, q3⟩
        rw [Int.toNat_natCast] at hst
        have i0 : (0 : Int) ≤ (m : Int) := by omega
        have i1 : (m : Int) < (N : Int) := by omega
        have HC := Lib.hid hcall
        clear hcall q2 q3 r hp
        have hc0 : wr.cell? ⟨w2.heap.size, m, none⟩ = some (.int .u8 0) := hrow.cell (by rw [U8_get _ _ (by simp; omega)]; simp)
        have hf0 := hrow.free m
        have hr' := hrow.set m (.int .u8 (bb.toNat : Int))
        clear hrow
        go_wp2
        go_region_with (go_at_call 187; refine (HC.out _).mono ?_; rintro e w' ⟨rfl, rfl⟩)
        all_goals
          go_wp2
          go_roundw
          case rel =>
            refine ⟨m, cn, bb :: ds, rfl, rfl, by omega, by simp; omega, hst, ?_, ?_⟩
            · have e : (U8 (List.replicate (m + 1) 0 ++ ds)).set m (.int .u8 (bb.toNat : Int)) = U8 (List.replicate m 0 ++ bb :: ds) := by
                rw [U8_set, List.replicate_succ', List.append_assoc, List.set_append_right _ _ (by simp)]
                simp
              rw [← e]
              exact hr'
            · exact (hb.setCell (p := ⟨w2.heap.size, m, none⟩) hb3.size _).drew
          case measure => simp [intOf]
end W
end Go.Proofs.YtijpgddpejiohaaGreatDoor
end
section
namespace Go.Proofs.YtijpgddpejiohaaGreatDoor
open Go Go.RowKit
namespace W
open M
attribute [local go_sem] bs_size bs_toList bs_get bs_extract bs_append bs_lit0 bs_lit1 lit1_bs
set_option maxHeartbeats 400000
theorem size_I (z : Int) (w : World) (hs : (I z).length ≤ 1000000000) :
    Calls Tryz.prog 122 #[.string (bs (I z))] w fun e w' => e = .returned (.string (bs (D z.natAbs))) ∧ w = w' := by
  have := size_any (I z) w hs
  rw [sz_I] at this
  exact this
theorem below_I (z : Int) (w : World) :
    Calls Tryz.prog 119 #[.string (bs (I z))] w fun e w' => e = .returned (.bool (decide (z < 0))) ∧ w = w' := by
  obtain ⟨c, t, e, h⟩ := I_cons z
  rw [e, ← h]
  exact below_any c t w
theorem signed_I (n : Nat) (minus : Bool) (w : World) (hs : (D n).length ≤ 1000000000) :
    Calls Tryz.prog 123 #[.string (bs (D n)), .bool minus] w fun e w' => e = .returned (.string (bs (I (if minus = true then -(n : Int) else n)))) ∧ w = w' := by
  have := signed_any (D n) minus w hs
  rw [signed_D] at this
  exact this
theorem less_D (a b : Nat) (w : World) (ha : (D a).length ≤ 1000000000) (hb : (D b).length ≤ 1000000000) :
    Calls Tryz.prog 125 #[.string (bs (D a)), .string (bs (D b))] w fun e w' => e = .returned (.bool (decide (a < b))) ∧ w = w' := by
  have := less_any (D a) (D b) w ha hb
  rw [D_less] at this
  exact this
theorem paper_D (a b : Nat) (add : Bool) (w : World) (ha : (D a).length ≤ 1000000) (hb : (D b).length ≤ 1000000) (h : add = false → b ≤ a) :
    Calls Tryz.prog 124 #[.string (bs (D a)), .string (bs (D b)), .bool add] w (Ret w (.string (bs (D (if add = true then a + b else a - b))))) := by
  have := paper_any (D a) (D b) add w ha hb (D_digs a) (D_digs b) (by rw [D_val, D_val]; exact h)
  rw [D_val, D_val] at this
  exact this
theorem number_I (z : Int) (w : World) (hz : z.natAbs < 10 ^ 18) :
    Calls Tryz.prog 185 #[.string (bs (I z))] w fun e w' => e = .returned (.int .i64 z) ∧ w = w' := by
  have hl := D_len_of hz (by omega)
  have hl2 := I_len (by omega) hz
  have hd := D_digs z.natAbs
  have hv : ((val (D z.natAbs) : Nat) : Int) = (z.natAbs : Int) := by rw [D_val]
  have hcall := size_I z w (by omega)
  have hb := below_I z w
  obtain ⟨s, hs⟩ : ∃ s, s = D z.natAbs := ⟨_, rfl⟩
  rw [← hs] at hl hd hv hcall
  have HV := Lib.hid hv
  have HC := Lib.hid hcall
  have HB := Lib.hid hb
  clear hv hcall hb hs
  go_enter Tryz.func185, Tryz.ntmps185
  go_wp2_with fail
  refine (HC.out).mono ?_
  rintro e w' ⟨rfl, rfl⟩
  clear HC
  go_wp2
  go_loop [3, 5] (fun n i => ∃ k : Nat, k ≤ s.length ∧ i = .int .i64 (k : Int) ∧ n = .int .i64 ((val (s.take k) : Nat) : Int)) (fun _ i => s.length - (intOf i).toNat)
  case atStart => exact ⟨0, by omega, rfl, rfl⟩
  case round =>
    obtain ⟨k, hk, rfl, rfl⟩ := hrel
    by_cases hlt : k < s.length
    · have h1 := val_lt (hd.take k)
      have h2 : 10 ^ (s.take k).length ≤ 10 ^ 17 := Nat.pow_le_pow_right (by decide) (by rw [List.length_take]; omega)
      have h3 : (10 : Nat) ^ 17 = 100000000000000000 := by decide
      have h4 : val (s.take k) ≤ 99999999999999999 := by omega
      clear h1 h2 h3
      have hc := hd.get k hlt
      have hn : val (s.take (k + 1)) = val (s.take k) * 10 + (s[k].toNat - 48) := by
        rw [List.take_succ_eq_append_getElem hlt, val_snoc]
      have HN := Lib.hid hn
      clear hn
      go_wp2
      go_round
      case rel => exact ⟨k + 1, by omega, by go_num, by rw [HN.out]; congr 1; omega⟩
      case measure => simp [intOf]; omega
    · obtain rfl : k = s.length := by omega
      clear hlt hk
      rw [List.take_length]
      have hvl : val s ≤ 999999999999999999 := by
        have h1 := val_lt hd
        have h2 : 10 ^ s.length ≤ 10 ^ 18 := Nat.pow_le_pow_right (by decide) hl
        have h3 : (10 : Nat) ^ 18 = 1000000000000000000 := by decide
        omega
      by_cases hz0 : z < 0
      · have hdz : decide (z < 0) = true := decide_eq_true hz0
        go_wp2_with fail
        refine (HB.out).mono ?_
        rintro e w' ⟨rfl, rfl⟩
        go_wp2
        go_ret
        exact ⟨ret_int (by have := HV.out; omega), rfl⟩
      · have hdz : decide (z < 0) = false := decide_eq_false hz0
        go_wp2_with fail
        refine (HB.out).mono ?_
        rintro e w' ⟨rfl, rfl⟩
        go_wp2
        go_ret
        exact ⟨ret_int (by have := HV.out; omega), rfl⟩
theorem turned_I (z : Int) (w : World) (hs : (I z).length ≤ 1000000) :
    Calls Tryz.prog 117 #[.string (bs (I z))] w fun e w' => e = .returned (.string (bs (I (-z)))) ∧ w = w' := by
  have hl : (D z.natAbs).length ≤ 1000000000 := by
    have := sz_len (I z); rw [sz_I] at this; omega
  have e : (if (!decide (z < 0)) = true then -(z.natAbs : Int) else z.natAbs) = -z := by
    by_cases h : z < 0
    · simp [h]; omega
    · simp [h]; omega
  have H := Lib.hid e
  clear e
  go_enter Tryz.func117, Tryz.ntmps117
  go_wp2_with fail
  refine (size_I z _ (by omega)).mono ?_
  rintro e w' ⟨rfl, rfl⟩
  go_wp2_with fail
  refine (below_I z _).mono ?_
  rintro e w' ⟨rfl, rfl⟩
  go_wp2_with fail
  refine (signed_I _ _ _ hl).mono ?_
  rintro e w' ⟨rfl, rfl⟩
  rw [H.out]
  go_wp2
  go_ret
  exact ⟨rfl, rfl⟩
/-- Short on both sides. -/
def short18 (x y : Int) : Bool := decide (x.natAbs < 10 ^ 18) && decide (y.natAbs < 10 ^ 18)
theorem brief_yes (x y : Int) (w : World) (hx : x.natAbs < 10 ^ 18) (hy : y.natAbs < 10 ^ 18) :
    Calls Tryz.prog 121 #[.string (bs (I x)), .string (bs (I y))] w fun e w' => e = .returned (.tuple #[.int .i64 x, .int .i64 y, .bool true]) ∧ w = w' := by
  have hx1 := I_len (by omega) hx
  have hy1 := I_len (by omega) hy
  have hx2 := D_len_of hx (by omega)
  have hy2 := D_len_of hy (by omega)
  have X := Lib.hid hx
  have Y := Lib.hid hy
  clear hx hy
  go_enter Tryz.func121, Tryz.ntmps121
  go_wp2_with fail
  refine (size_I x _ (by omega)).mono ?_
  rintro e w' ⟨rfl, rfl⟩
  go_wp2_with fail
  refine (size_I y _ (by omega)).mono ?_
  rintro e w' ⟨rfl, rfl⟩
  go_wp2_with fail
  refine (number_I x _ X.out).mono ?_
  rintro e w' ⟨rfl, rfl⟩
  go_wp2_with fail
  refine (number_I y _ Y.out).mono ?_
  rintro e w' ⟨rfl, rfl⟩
  go_wp2
  go_ret3
  exact ⟨rfl, rfl⟩
theorem brief_no1 (x y : Int) (w : World) (hx : ¬ x.natAbs < 10 ^ 18) (hl : (I x).length ≤ 1000000) :
    Calls Tryz.prog 121 #[.string (bs (I x)), .string (bs (I y))] w fun e w' => e = .returned (.tuple #[.int .i64 0, .int .i64 0, .bool false]) ∧ w = w' := by
  have hx2 : 18 < (D x.natAbs).length := by
    rcases Nat.lt_or_ge 18 (D x.natAbs).length with h | h
    · exact h
    · exact absurd ((D_len_le (by omega)).1 h) hx
  clear hx
  have hl2 : (D x.natAbs).length ≤ 1000000 := by have := sz_len (I x); rw [sz_I] at this; omega
  go_enter Tryz.func121, Tryz.ntmps121
  go_wp2_with fail
  refine (size_I x _ (by omega)).mono ?_
  rintro e w' ⟨rfl, rfl⟩
  go_wp2
  go_ret3
  exact ⟨rfl, rfl⟩
theorem brief_no2 (x y : Int) (w : World) (hx : x.natAbs < 10 ^ 18) (hy : ¬ y.natAbs < 10 ^ 18) (hl : (I y).length ≤ 1000000) :
    Calls Tryz.prog 121 #[.string (bs (I x)), .string (bs (I y))] w fun e w' => e = .returned (.tuple #[.int .i64 0, .int .i64 0, .bool false]) ∧ w = w' := by
  have hx2 := D_len_of hx (by omega)
  have hx1 := I_len (by omega) hx
  have hy2 : 18 < (D y.natAbs).length := by
    rcases Nat.lt_or_ge 18 (D y.natAbs).length with h | h
    · exact h
    · exact absurd ((D_len_le (by omega)).1 h) hy
  clear hx hy
  have hl2 : (D y.natAbs).length ≤ 1000000 := by have := sz_len (I y); rw [sz_I] at this; omega
  go_enter Tryz.func121, Tryz.ntmps121
  go_wp2_with fail
  refine (size_I x _ (by omega)).mono ?_
  rintro e w' ⟨rfl, rfl⟩
  go_wp2_with fail
  refine (size_I y _ (by omega)).mono ?_
  rintro e w' ⟨rfl, rfl⟩
  go_wp2
  go_ret3
  exact ⟨rfl, rfl⟩
theorem brief_no (x y : Int) (w : World) (h : short18 x y = false) (hx : (I x).length ≤ 1000000) (hy : (I y).length ≤ 1000000) :
    Calls Tryz.prog 121 #[.string (bs (I x)), .string (bs (I y))] w fun e w' => e = .returned (.tuple #[.int .i64 0, .int .i64 0, .bool false]) ∧ w = w' := by
  by_cases h1 : x.natAbs < 10 ^ 18
  · by_cases h2 : y.natAbs < 10 ^ 18
    · unfold short18 at h; rw [decide_eq_true h1, decide_eq_true h2] at h; cases h
    · exact brief_no2 x y w h1 h2 hy
  · exact brief_no1 x y w h1 hx
end W
end Go.Proofs.YtijpgddpejiohaaGreatDoor
end
section
namespace Go.Proofs.YtijpgddpejiohaaGreatDoor
open Go Go.RowKit
namespace W
open M
attribute [local go_sem] bs_size bs_toList bs_get bs_extract bs_append bs_lit0 bs_lit1 lit1_bs
set_option maxHeartbeats 400000
theorem conv1 (w : World) (v : Int) :
    (convert 157 9 (.slice (some ⟨w.heap.size, 0, none⟩) 1 1)).run Tryz.prog (w.alloc (.cells #[.int .u8 v] 5)) = .ok (.string (bs [UInt8.ofNat v.toNat])) (w.alloc (.cells #[.int .u8 v] 5)) := by
  have hr := Row.new w 5 [.int .u8 v]
  rw [run_convert_bytes_arg (P := Tryz.prog) _ 157 5 Tryz.underlying157 Tryz.underlying5 w.heap.size 0 1 1 [v] rfl (fun i hi => by
    obtain rfl : i = 0 := by omega
    exact hr.cell rfl) 9 Tryz.underlying9]
  rfl
theorem of_nonneg (n : Nat) (w : World) (hn : n ≤ 9223372036854775807) :
    Calls Tryz.prog 56 #[.int .i64 (n : Int)] w (Ret w (.string (bs (D n)))) := by
  have c1 := conv1
  by_cases h0 : n = 0
  · subst h0
    go_enter Tryz.func56, Tryz.ntmps56
    go_wp2
    go_loopw [0, 3] (fun nv sv wr => nv = .int .i64 0 ∧ sv = .string (bs []) ∧ Below w.heap.size w wr) (fun _ _ _ => 0)
    case atStart => exact ⟨rfl, rfl, Below.refl _ _⟩
    case round =>
      obtain ⟨rfl, rfl, hb⟩ := hrel
      go_wp2
      go_ret
      exact Ret.of (by rw [D_zero]; rfl) (hb.alloc hb.size _)
  · have h1 : ((n : Int) == -(n : Int)) = false := by simp; omega
    go_enter Tryz.func56, Tryz.ntmps56
    go_wp2
    go_loopw [0, 3] (fun nv sv wr => ∃ (m : Nat) (s : List UInt8), nv = .int .i64 (m : Int) ∧ sv = .string (bs s) ∧ m ≤ 9223372036854775807 ∧ Hid (D n = D m ++ s) ∧ Below w.heap.size w wr) (fun nv _ _ => (intOf nv).toNat)
    case atStart => exact ⟨n, [], rfl, rfl, hn, (by simp : D n = D n ++ []), Below.refl _ _⟩
    case round =>
      obtain ⟨m, s, rfl, rfl, hm, hs, hb⟩ := hrel
      have hsl : s.length ≤ 20 := by
        have h19 : (10:Nat) ^ 19 = 10000000000000000000 := by decide
        have h2 := congrArg List.length hs.out
        rw [List.length_append] at h2
        have := D_len_of (n := n) (k := 19) (by omega) (by omega)
        omega
      by_cases h9 : 9 < m
      · go_wp2
        go_roundw
        case rel => exact ⟨m / 10, (48 + UInt8.ofNat (m % 10)) :: s, by go_num, rfl, by omega, by show D n = _; rw [hs.out, D_big (by omega)]; simp, hb.alloc hb.size _⟩
        case measure => simp [intOf]; omega
      · go_wp2
        go_ret
        refine Ret.of ?_ (hb.alloc hb.size _)
        rw [hs.out, D_small (by omega)]
        show Value.string (bs ((48 + UInt8.ofNat m) :: s)) = _
        simp
theorem of_any (n : Int) (w : World) (h0 : -9223372036854775807 ≤ n) (h1 : n ≤ 9223372036854775807) :
    Calls Tryz.prog 56 #[.int .i64 n] w (Ret w (.string (bs (I n)))) := by
  by_cases hn : n < 0
  · obtain ⟨m, rfl⟩ : ∃ m : Nat, n = -(m : Int) := ⟨n.natAbs, by omega⟩
    have hm : 1 ≤ m := by omega
    have hl : (I (m : Int)).length ≤ 1000000 := by
      have h19 : (10:Nat) ^ 19 = 10000000000000000000 := by decide
      have := I_len (z := (m : Int)) (k := 19) (by omega) (by omega)
      omega
    have hc := of_nonneg m w (by omega)
    rw [← I_nonneg] at hc
    have HC := Lib.hid hc
    clear hc
    have e1 : ((-(m : Int)) == (m : Int)) = false := by simp; omega
    go_enter Tryz.func56, Tryz.ntmps56
    go_wp2_with fail
    refine (HC.out).mono ?_
    rintro e w1 ⟨rfl, hb1⟩
    go_wp2_with fail
    refine (turned_I _ _ hl).mono ?_
    rintro e w' ⟨rfl, rfl⟩
    go_wp2
    go_ret
    exact Ret.of rfl hb1
  · obtain ⟨m, rfl⟩ : ∃ m : Nat, n = (m : Int) := ⟨n.toNat, by omega⟩
    rw [I_nonneg]
    exact of_nonneg m w (by omega)
theorem nat18 : (10 : Nat) ^ 18 = 1000000000000000000 := by decide
theorem plus_I (x y : Int) (w : World) (hx : (I x).length ≤ 999999) (hy : (I y).length ≤ 999999) :
    Calls Tryz.prog 59 #[.string (bs (I x)), .string (bs (I y))] w (Ret w (.string (bs (I (x + y))))) := by
  by_cases hs : x.natAbs < 10 ^ 18 ∧ y.natAbs < 10 ^ 18
  · have hc := brief_yes x y w hs.1 hs.2
    obtain ⟨h1, h2⟩ := hs
    rw [nat18] at h1 h2
    have HC := Lib.hid hc
    clear hc
    go_enter Tryz.func59, Tryz.ntmps59
    go_wp2_with fail
    refine (HC.out).mono ?_
    rintro e w' ⟨rfl, rfl⟩
    go_wp2_with fail
    refine (of_any (x + y) _ (by omega) (by omega)).mono ?_
    rintro e w1 ⟨rfl, hb1⟩
    go_wp2
    go_ret
    exact Ret.of rfl hb1
  · have hc := brief_no x y w (by unfold short18; simpa using hs) (by omega) (by omega)
    have HC := Lib.hid hc
    clear hc hs
    have lx := D_le_I x
    have ly := D_le_I y
    by_cases hxy : decide (x < 0) = decide (y < 0)
    · have h1 : (decide (x < 0) == decide (y < 0)) = true := by simpa using hxy
      have e : (if decide (x < 0) = true then -((x.natAbs + y.natAbs : Nat) : Int) else ((x.natAbs + y.natAbs : Nat) : Int)) = x + y := by
        simp only [decide_eq_decide] at hxy
        by_cases h : x < 0
        · rw [if_pos (by simpa using h)]; omega
        · rw [if_neg (by simpa using h)]; omega
      have hl : (D (x.natAbs + y.natAbs)).length ≤ 1000000000 := by
        have a1 := len_add (a := x.natAbs) (b := y.natAbs) (k := 999999) (by omega) (by omega) (by omega)
        omega
      have HE := Lib.hid e
      have HXY := Lib.hid hxy
      clear e hxy
      go_enter Tryz.func59, Tryz.ntmps59
      go_wp2_with fail
      refine (HC.out).mono ?_
      rintro e w' ⟨rfl, rfl⟩
      go_wp2_with fail
      refine (size_I x _ (by omega)).mono ?_
      rintro e w' ⟨rfl, rfl⟩
      go_wp2_with fail
      refine (size_I y _ (by omega)).mono ?_
      rintro e w' ⟨rfl, rfl⟩
      go_wp2_with fail
      refine (below_I x _).mono ?_
      rintro e w' ⟨rfl, rfl⟩
      go_wp2_with fail
      refine (below_I y _).mono ?_
      rintro e w' ⟨rfl, rfl⟩
      go_wp2_with fail
      refine (paper_D x.natAbs y.natAbs true _ (by omega) (by omega) (by intro h; cases h)).mono ?_
      rintro e w1 ⟨rfl, hb1⟩
      rw [if_pos rfl]
      go_wp2_with fail
      refine (below_I x _).mono ?_
      rintro e w' ⟨rfl, rfl⟩
      go_wp2_with fail
      refine (signed_I (x.natAbs + y.natAbs) _ _ hl).mono ?_
      rintro e w' ⟨rfl, rfl⟩
      rw [HE.out]
      go_wp2
      go_ret
      exact Ret.of rfl hb1
    · have h1 : (decide (x < 0) == decide (y < 0)) = false := by simpa using hxy
      simp only [decide_eq_decide] at hxy
      by_cases hlt : x.natAbs < y.natAbs
      · have h2 : decide (x.natAbs < y.natAbs) = true := decide_eq_true hlt
        have e : (if decide (y < 0) = true then -((y.natAbs - x.natAbs : Nat) : Int) else ((y.natAbs - x.natAbs : Nat) : Int)) = x + y := by
          by_cases h : y < 0
          · rw [if_pos (by simpa using h)]; omega
          · rw [if_neg (by simpa using h)]; omega
        have hl : (D (y.natAbs - x.natAbs)).length ≤ 1000000000 := by
          have a1 := len_mono (a := y.natAbs - x.natAbs) (b := y.natAbs) (by omega)
          omega
        have HE := Lib.hid e
        have HXY := Lib.hid hxy
        have HL := Lib.hid hlt
        clear e hxy hlt
        go_enter Tryz.func59, Tryz.ntmps59
        go_wp2_with fail
        refine (HC.out).mono ?_
        rintro e w' ⟨rfl, rfl⟩
        go_wp2_with fail
        refine (size_I x _ (by omega)).mono ?_
        rintro e w' ⟨rfl, rfl⟩
        go_wp2_with fail
        refine (size_I y _ (by omega)).mono ?_
        rintro e w' ⟨rfl, rfl⟩
        go_wp2_with fail
        refine (below_I x _).mono ?_
        rintro e w' ⟨rfl, rfl⟩
        go_wp2_with fail
        refine (below_I y _).mono ?_
        rintro e w' ⟨rfl, rfl⟩
        go_wp2_with fail
        refine (less_D x.natAbs y.natAbs _ (by omega) (by omega)).mono ?_
        rintro e w' ⟨rfl, rfl⟩
        go_wp2_with fail
        refine (paper_D y.natAbs x.natAbs false _ (by omega) (by omega) (by intro _; have := HL.out; omega)).mono ?_
        rintro e w1 ⟨rfl, hb1⟩
        rw [if_neg (by simp)]
        go_wp2_with fail
        refine (below_I y _).mono ?_
        rintro e w' ⟨rfl, rfl⟩
        go_wp2_with fail
        refine (signed_I (y.natAbs - x.natAbs) _ _ hl).mono ?_
        rintro e w' ⟨rfl, rfl⟩
        rw [HE.out]
        go_wp2
        go_ret
        exact Ret.of rfl hb1
      · have h2 : decide (x.natAbs < y.natAbs) = false := decide_eq_false hlt
        have e : (if decide (x < 0) = true then -((x.natAbs - y.natAbs : Nat) : Int) else ((x.natAbs - y.natAbs : Nat) : Int)) = x + y := by
          by_cases h : x < 0
          · rw [if_pos (by simpa using h)]; omega
          · rw [if_neg (by simpa using h)]; omega
        have hl : (D (x.natAbs - y.natAbs)).length ≤ 1000000000 := by
          have a1 := len_mono (a := x.natAbs - y.natAbs) (b := x.natAbs) (by omega)
          omega
        have HE := Lib.hid e
        have HXY := Lib.hid hxy
        have HL := Lib.hid hlt
        clear e hxy hlt
        go_enter Tryz.func59, Tryz.ntmps59
        go_wp2_with fail
        refine (HC.out).mono ?_
        rintro e w' ⟨rfl, rfl⟩
        go_wp2_with fail
        refine (size_I x _ (by omega)).mono ?_
        rintro e w' ⟨rfl, rfl⟩
        go_wp2_with fail
        refine (size_I y _ (by omega)).mono ?_
        rintro e w' ⟨rfl, rfl⟩
        go_wp2_with fail
        refine (below_I x _).mono ?_
        rintro e w' ⟨rfl, rfl⟩
        go_wp2_with fail
        refine (below_I y _).mono ?_
        rintro e w' ⟨rfl, rfl⟩
        go_wp2_with fail
        refine (less_D x.natAbs y.natAbs _ (by omega) (by omega)).mono ?_
        rintro e w' ⟨rfl, rfl⟩
        go_wp2_with fail
        refine (paper_D x.natAbs y.natAbs false _ (by omega) (by omega) (by intro _; have := HL.out; omega)).mono ?_
        rintro e w1 ⟨rfl, hb1⟩
        rw [if_neg (by simp)]
        go_wp2_with fail
        refine (below_I x _).mono ?_
        rintro e w' ⟨rfl, rfl⟩
        go_wp2_with fail
        refine (signed_I (x.natAbs - y.natAbs) _ _ hl).mono ?_
        rintro e w' ⟨rfl, rfl⟩
        rw [HE.out]
        go_wp2
        go_ret
        exact Ret.of rfl hb1
theorem minus_I (x y : Int) (w : World) (hx : (I x).length ≤ 999999) (hy : (I y).length ≤ 999998) :
    Calls Tryz.prog 182 #[.string (bs (I x)), .string (bs (I y))] w (Ret w (.string (bs (I (x - y))))) := by
  have hy2 : (I (-y)).length ≤ 999999 := by
    have h1 := D_le_I y
    have h2 := I_len_D (-y)
    rw [Int.natAbs_neg] at h2
    omega
  go_enter Tryz.func182, Tryz.ntmps182
  go_wp2_with fail
  refine (turned_I y _ (by omega)).mono ?_
  rintro e w' ⟨rfl, rfl⟩
  go_wp2_with fail
  refine (plus_I x (-y) _ hx hy2).mono ?_
  rintro e w1 ⟨rfl, hb1⟩
  go_wp2
  go_ret
  rw [Int.sub_eq_add_neg]
  exact Ret.of rfl hb1
theorem order_I (x y : Int) (w : World) (hx : (I x).length ≤ 999999) (hy : (I y).length ≤ 999998) :
    Calls Tryz.prog 112 #[.string (bs (I x)), .string (bs (I y))] w (Ret w (.int .i64 (Int.sign (x - y)))) := by
  rcases Int.lt_trichotomy (x - y) 0 with h | h | h
  · have e1 : (I (x - y) == [48]) = false := by simp [I_eq_zero]; omega
    have e2 : decide (x - y < 0) = true := decide_eq_true h
    have e3 : Int.sign (x - y) = -1 := Int.sign_eq_neg_one_of_neg h
    rw [e3]
    clear e3
    have hc := minus_I x y w hx hy
    generalize x - y = d at *
    have HC := Lib.hid hc
    clear hc
    go_enter Tryz.func112, Tryz.ntmps112
    go_wp2_with fail
    refine (HC.out).mono ?_
    rintro e w1 ⟨rfl, hb1⟩
    go_wp2_with fail
    refine (below_I d _).mono ?_
    rintro e w' ⟨rfl, rfl⟩
    go_wp2
    go_ret
    exact Ret.of rfl hb1
  · have e1 : (I (x - y) == [48]) = true := by simp [I_eq_zero]; omega
    have e3 : Int.sign (x - y) = 0 := by rw [h]; rfl
    rw [e3]
    clear e3
    have hc := minus_I x y w hx hy
    generalize x - y = d at *
    have HC := Lib.hid hc
    clear hc h
    go_enter Tryz.func112, Tryz.ntmps112
    go_wp2_with fail
    refine (HC.out).mono ?_
    rintro e w1 ⟨rfl, hb1⟩
    go_wp2
    go_ret
    exact Ret.of rfl hb1
  · have e1 : (I (x - y) == [48]) = false := by simp [I_eq_zero]; omega
    have e2 : decide (x - y < 0) = false := decide_eq_false (by omega)
    have e3 : Int.sign (x - y) = 1 := Int.sign_eq_one_of_pos h
    rw [e3]
    clear e3
    have hc := minus_I x y w hx hy
    generalize x - y = d at *
    have HC := Lib.hid hc
    clear hc
    go_enter Tryz.func112, Tryz.ntmps112
    go_wp2_with fail
    refine (HC.out).mono ?_
    rintro e w1 ⟨rfl, hb1⟩
    go_wp2_with fail
    refine (below_I d _).mono ?_
    rintro e w' ⟨rfl, rfl⟩
    go_wp2
    go_ret
    exact Ret.of rfl hb1
end W
end Go.Proofs.YtijpgddpejiohaaGreatDoor
end
section
namespace Go.Proofs.YtijpgddpejiohaaGreatDoor
open Go Go.RowKit
namespace W
open M
attribute [local go_sem] bs_size bs_toList bs_get bs_extract bs_append bs_lit0 bs_lit1 lit1_bs
set_option maxHeartbeats 400000
set_option maxRecDepth 20000 in
theorem product_D (a b : List UInt8) (w : World) (ha : a.length ≤ 100000) (hb : b.length ≤ 100000) (hda : Digs a) (hdb : Digs b) (hna : a ≠ []) :
    Calls Tryz.prog 183 #[.string (bs a), .string (bs b)] w (Ret w (.string (bs (D (val a * val b))))) := by
  obtain ⟨N, hN⟩ : ∃ N : Nat, N = a.length + b.length := ⟨_, rfl⟩
  have hcast : (a.length : Int) + (b.length : Int) = (N : Int) := by omega
  have hN1 : N ≤ 200000 := by omega
  have hN2 : 1 ≤ N := by have := List.length_pos_iff.2 hna; omega
  have hst := ProdS.start a b
  rw [← hN] at hst
  have HN := Lib.hid hN
  clear hN
  generalize hR : Value.string (bs (D (val a * val b))) = R
  have HR := Lib.hid hR
  clear hR hna
  have hmk := make_i64 N (by omega)
  have hmk2 := make_u8 N (by omega)
  go_enter Tryz.func183, Tryz.ntmps183
  go_wp2
  clear hmk hcast
  go_loopw [6] (fun iv wr => ∃ (i : Nat) (cols : List Nat), iv = .int .i64 (i : Int) ∧ i ≤ a.length ∧ cols.length = N ∧ ProdS a b cols i 0 ∧ Row wr w.heap.size 3 (I64 cols) ∧ Below w.heap.size w wr)
    (fun iv _ => a.length - (intOf iv).toNat)
  case atStart => exact ⟨0, List.replicate N 0, rfl, by omega, by simp, hst, Row.new w _ _, (Below.refl _ _).alloc (Nat.le_refl _) _⟩
  case round =>
    obtain ⟨i, cols, rfl, hi, hcl, hp, hrow, hbw⟩ := hrel
    by_cases hlt : i < a.length
    · obtain ⟨wo, rfl⟩ : ∃ wo : World, wo = wr := ⟨_, rfl⟩
      have HCL := Lib.hid hcl
      clear hst hcl
      go_wp2
      go_loopw [7] (fun kv wr => ∃ (k : Nat) (cols : List Nat), kv = .int .i64 (k : Int) ∧ k ≤ b.length ∧ Hid (cols.length = N) ∧ ProdS a b cols i k ∧ Row wr w.heap.size 3 (I64 cols) ∧ Below w.heap.size w wr)
        (fun kv _ => b.length - (intOf kv).toNat)
      case atStart => exact ⟨0, cols, rfl, by omega, HCL, hp, hrow, hbw⟩
      case round =>
        clear hp hrow hbw HCL
        clear cols
        obtain ⟨k, cols, rfl, hk, hcl, hp, hrow, hbw⟩ := hrel
        by_cases hlk : k < b.length
        · have ht : i + k + 1 < cols.length := by rw [hcl.out, HN.out]; omega
          have h2 := ProdS.step hda hdb hlt hlk hp ht
          have hcb : (cols[i + k + 1] : Int) ≤ 81 * 20000000000 := by
            have c1 := hp.2.1 _ (List.getElem_mem ht)
            have c2 : i * b.length ≤ 100000 * 100000 := Nat.mul_le_mul (by omega) hb
            omega
          have hc0 := hrow.cell (I64_get cols (i + k + 1) ht)
          have hf0 := hrow.free (i + k + 1)
          have a1 := hda.get i hlt
          have b1 := hdb.get k hlk
          have hr' := hrow.set (i + k + 1) (.int .i64 ((cols[i + k + 1] + (a[i].toNat - 48) * (b[k].toNat - 48) : Nat) : Int))
          rw [I64_set] at hr'
          have hpr : 0 ≤ ((a[i].toNat : Int) - 48) * ((b[k].toNat : Int) - 48) ∧ ((a[i].toNat : Int) - 48) * ((b[k].toNat : Int) - 48) ≤ 81 := by
            rw [show (a[i].toNat : Int) - 48 = ((a[i].toNat - 48 : Nat) : Int) by omega, show (b[k].toNat : Int) - 48 = ((b[k].toNat - 48 : Nat) : Int) by omega, ← Int.natCast_mul]
            have : (a[i].toNat - 48) * (b[k].toNat - 48) ≤ 9 * 9 := Nat.mul_le_mul (by omega) (by omega)
            omega
          clear hrow hp
          have i0 : (0 : Int) ≤ (i : Int) + (k : Int) + 1 := by omega
          have i1 : (i : Int) + (k : Int) + 1 < (N : Int) := by have := hcl.out; omega
          go_wp2
          have e1 : IntKind.i64.wrap ((i : Int) + (k : Int)) = (i : Int) + (k : Int) := IntWalk.i64_in _ (by omega)
          have e2 : IntKind.i64.wrap ((i : Int) + (k : Int) + 1) = (i : Int) + (k : Int) + 1 := IntWalk.i64_in _ (by omega)
          have e3 : ((i : Int) + (k : Int) + 1).toNat = i + k + 1 := by omega
          have e4 : IntKind.u8.wrap ((a[i].toNat : Int) - 48) = (a[i].toNat : Int) - 48 := IntWalk.u8_in _ (by omega)
          have e5 : IntKind.u8.wrap ((b[k].toNat : Int) - 48) = (b[k].toNat : Int) - 48 := IntWalk.u8_in _ (by omega)
          have e6 : IntKind.i64.wrap ((a[i].toNat : Int) - 48) = (a[i].toNat : Int) - 48 := IntWalk.i64_in _ (by omega)
          have e7 : IntKind.i64.wrap ((b[k].toNat : Int) - 48) = (b[k].toNat : Int) - 48 := IntWalk.i64_in _ (by omega)
          have e8 : IntKind.i64.wrap (((a[i].toNat : Int) - 48) * ((b[k].toNat : Int) - 48)) = ((a[i].toNat : Int) - 48) * ((b[k].toNat : Int) - 48) := IntWalk.i64_in _ (by omega)
          have e9 : IntKind.i64.wrap ((cols[i + k + 1] : Int) + ((a[i].toNat : Int) - 48) * ((b[k].toNat : Int) - 48)) = (cols[i + k + 1] : Int) + ((a[i].toNat : Int) - 48) * ((b[k].toNat : Int) - 48) := IntWalk.i64_in _ (by omega)
          go_still_tail 20, (by kernel_rfl)
          change wpList _ _ _ _ _ wr.drew
          have HV := Lib.hid (show (cols[i + k + 1] : Int) + ((a[i].toNat : Int) - 48) * ((b[k].toNat : Int) - 48) = ((cols[i + k + 1] + (a[i].toNat - 48) * (b[k].toNat - 48) : Nat) : Int) by
            rw [show (a[i].toNat : Int) - 48 = ((a[i].toNat - 48 : Nat) : Int) by omega, show (b[k].toNat : Int) - 48 = ((b[k].toNat - 48 : Nat) : Int) by omega]; simp)
          clear e1 e2 e3 e4 e5 e6 e7 e8 e9
          go_wp2
          go_roundw
          case rel =>
            rw [HV.out]
            exact ⟨k + 1, _, by go_num, by omega, (by simpa using hcl.out : (cols.set _ _).length = N), h2, hr', (hbw.setCell (p := ⟨w.heap.size, i + k + 1, none⟩) (Nat.le_refl _) _).drew⟩
          case measure => simp [intOf]; omega
        · obtain rfl : k = b.length := by omega
          have h2 := ProdS.row hlt hp
          have hcl' := hcl.out
          go_wp2
          go_roundw
          case rel => exact ⟨i + 1, cols, by go_num, by omega, hcl', h2, hrow, hbw⟩
          case measure => simp [intOf]; omega
    · obtain rfl : i = a.length := by omega
      have hall := hp.all
      have hM : ∀ c ∈ cols, c ≤ 1000000000000 := by
        intro c hc
        have := hp.2.1 c hc
        have c2 : a.length * b.length ≤ 100000 * 100000 := Nat.mul_le_mul ha hb
        omega
      have HF := Lib.hid (fun (ds : List UInt8) (c : Nat) (hne : ds ≠ []) (hl : ds.length = N) (h : CarS cols ds 0 c 1000000000000) => CarS.done hda hdb hne (hl.trans HN.out) hall h)
      have hcs : CarS cols [] N 0 1000000000000 := ⟨Digs.nil, by omega, by rw [List.drop_of_length_le (by omega)]; rfl⟩
      have HCL := Lib.hid hcl
      have hlt' : (0 : Int) ≤ (N : Int) := by omega
      clear hp hst hall hcl hi hlt HN
      obtain ⟨wo, rfl⟩ : ∃ wo : World, wo = wr := ⟨_, rfl⟩
      have hbs := hbw.size
      go_wp2
      clear hmk2
      have hrow2 := hrow.alloc (.cells (U8 (List.replicate N 0)).toArray 5 (0, 0))
      have hlt3 : w.heap.size < wo.heap.size := hrow.lt
      go_loopw [9, 10] (fun cv iv wr => ∃ (j c : Nat) (ds : List UInt8), cv = .int .i64 (c : Int) ∧ iv = .int .i64 ((j : Int) - 1) ∧ j ≤ N ∧ Hid (ds.length + j = N) ∧ CarS cols ds j c 1000000000000 ∧ Row wr w.heap.size 3 (I64 cols) ∧ Row wr wo.heap.size 5 (U8 (List.replicate j 0 ++ ds)) ∧ Below w.heap.size w wr)
        (fun _ iv _ => (intOf iv + 1).toNat)
      case atStart => exact ⟨N, 0, [], rfl, rfl, Nat.le_refl _, (by simp : ([] : List UInt8).length + N = N), hcs, hrow2, by simpa using Row.new wo _ _, hbw.alloc hbw.size _⟩
      case round =>
        clear hrow hrow2 hbw
        obtain ⟨j, c, ds, rfl, rfl, hj, hdl, hp, hrow, hrow2, hbw⟩ := hrel
        rcases j with _ | m
        · have hN3 : ds.length = N := by have := hdl.out; omega
          have hne : ds ≠ [] := by intro e; subst e; simp at hN3; omega
          have HX := Lib.hid (HF.out ds c hne hN3 hp)
          simp only [List.replicate_zero, List.nil_append] at hrow2
          have hcv := conv_u8 hrow2 N
          rw [hN3] at hcv
          have hds : ds.length ≤ 1000000000 := by omega
          clear hN3 hj hdl hp hrow hrow2 hN2 hN1
          go_wp2_with fail
          refine (bare_any ds _ hne hds).mono ?_
          rintro e w' ⟨rfl, rfl⟩
          go_wp2
          go_ret
          exact Ret.of (by rw [HX.out]; exact HR.out) hbw
        · have hz : ((m + 1 : Nat) : Int) - 1 = (m : Int) := by omega
          rw [hz]
          clear hz
          have hmc : m < cols.length := by rw [HCL.out]; omega
          have hMm := hM _ (List.getElem_mem hmc)
          have h2 := CarS.step hmc (by rw [HCL.out]; exact hdl.out) hMm hp
          have hc0 := hrow.cell (I64_get cols m hmc)
          have hf0 := hrow2.free m
          have hx0 : wr.cell? ⟨wo.heap.size, m, none⟩ = some (.int .u8 0) := hrow2.cell (by rw [U8_get _ _ (by simp; omega)]; simp)
          have hcM := hp.2.1
          have hb := dig_byte ((c + cols[m]) % 10) (by omega)
          generalize hbb : UInt8.ofNat (48 + (c + cols[m]) % 10) = bb at *
          have hr1 := hrow.other (a := ⟨wo.heap.size, m, none⟩) (by show w.heap.size ≠ wo.heap.size; omega) (.int .u8 (bb.toNat : Int))
          have hr2 := hrow2.set m (.int .u8 (bb.toNat : Int))
          have HV := Lib.hid (show (bb.toNat : Int) = 48 + ((c : Int) + (cols[m] : Int)) % 10 by omega)
          generalize cols[m] = cm at *
          clear hp hrow hrow2 hb hbb
          go_wp2
          go_roundw
          case rel =>
            rw [← HV.out]
            refine ⟨m, (c + cm) / 10, bb :: ds, by go_num, rfl, by omega, (by have := hdl.out; simp; omega : (bb :: ds).length + m = N), h2, hr1, ?_, hbw.setCell (p := ⟨wo.heap.size, m, none⟩) hbs _⟩
            have e : (U8 (List.replicate (m + 1) 0 ++ ds)).set m (.int .u8 (bb.toNat : Int)) = U8 (List.replicate m 0 ++ bb :: ds) := by
              rw [U8_set, List.replicate_succ', List.append_assoc, List.set_append_right _ _ (by simp)]
              simp
            rw [← e]
            exact hr2
          case measure => simp [intOf]
end W
end Go.Proofs.YtijpgddpejiohaaGreatDoor
end
section
namespace Go.Proofs.YtijpgddpejiohaaGreatDoor
open Go Go.RowKit
namespace M
theorem signed_mul (x y : Int) : (if (!(decide (x < 0) == decide (y < 0))) = true then -((x.natAbs * y.natAbs : Nat) : Int) else ((x.natAbs * y.natAbs : Nat) : Int)) = x * y := by
  rcases Int.lt_or_le x 0 with hx | hx <;> rcases Int.lt_or_le y 0 with hy | hy
  · rw [decide_eq_true hx, decide_eq_true hy, if_neg (by simp), Int.natCast_mul, show ((x.natAbs : Nat) : Int) = -x by omega, show ((y.natAbs : Nat) : Int) = -y by omega]
    exact Int.neg_mul_neg x y
  · rw [decide_eq_true hx, decide_eq_false (show ¬ y < 0 by omega), if_pos (by simp), Int.natCast_mul, show ((x.natAbs : Nat) : Int) = -x by omega, show ((y.natAbs : Nat) : Int) = y by omega, Int.neg_mul, Int.neg_neg]
  · rw [decide_eq_false (show ¬ x < 0 by omega), decide_eq_true hy, if_pos (by simp), Int.natCast_mul, show ((x.natAbs : Nat) : Int) = x by omega, show ((y.natAbs : Nat) : Int) = -y by omega, Int.mul_neg, Int.neg_neg]
  · rw [decide_eq_false (show ¬ x < 0 by omega), decide_eq_false (show ¬ y < 0 by omega), if_neg (by simp), Int.natCast_mul, show ((x.natAbs : Nat) : Int) = x by omega, show ((y.natAbs : Nat) : Int) = y by omega]
theorem mul_small {x y : Int} (h : (I x).length + (I y).length ≤ 18) : (x * y).natAbs < 10 ^ 18 := by
  have h1 := D_le_I x
  have h2 := D_le_I y
  have p1 := D_len_pos x.natAbs
  have p2 := D_len_pos y.natAbs
  have := len_mul (a := x.natAbs) (b := y.natAbs) (Nat.le_refl _) (Nat.le_refl _) p1 p2
  rw [Int.natAbs_mul]
  exact (D_len_le (by omega)).1 (by omega)
end M
namespace W
open M
attribute [local go_sem] bs_size bs_toList bs_get bs_extract bs_append bs_lit0 bs_lit1 lit1_bs
set_option maxHeartbeats 400000
theorem times_I (x y : Int) (w : World) (hx : (I x).length ≤ 100000) (hy : (I y).length ≤ 100000) :
    Calls Tryz.prog 118 #[.string (bs (I x)), .string (bs (I y))] w (Ret w (.string (bs (I (x * y))))) := by
  have lx := D_le_I x
  have ly := D_le_I y
  have px := D_len_pos x.natAbs
  have py := D_len_pos y.natAbs
  have hl : (D (x.natAbs * y.natAbs)).length ≤ 1000000000 := by
    have := len_mul (a := x.natAbs) (b := y.natAbs) (Nat.le_refl _) (Nat.le_refl _) px py
    omega
  have HP := Lib.hid (fun w' => product_D (D x.natAbs) (D y.natAbs) w' (by omega) (by omega) (D_digs _) (D_digs _) (D_ne _))
  have HE := Lib.hid (signed_mul x y)
  by_cases hs : x.natAbs < 10 ^ 18 ∧ y.natAbs < 10 ^ 18
  · have HC := Lib.hid (brief_yes x y w hs.1 hs.2)
    by_cases h18 : (I x).length + (I y).length ≤ 18
    · have hb := mul_small h18
      rw [nat18] at hb
      have HO := Lib.hid (fun w' => of_any (x * y) w' (by omega) (by omega))
      have hb2 : -1000000000000000000 ≤ x * y ∧ x * y ≤ 1000000000000000000 := by omega
      clear hs HP HE hb
      go_enter Tryz.func118, Tryz.ntmps118
      go_wp2_with fail
      refine (HC.out).mono ?_
      rintro e w' ⟨rfl, rfl⟩
      go_wp2_with fail
      refine (HO.out _).mono ?_
      rintro e w1 ⟨rfl, hb1⟩
      go_wp2
      go_ret
      exact Ret.of rfl hb1
    · clear hs
      go_enter Tryz.func118, Tryz.ntmps118
      go_wp2_with fail
      refine (HC.out).mono ?_
      rintro e w' ⟨rfl, rfl⟩
      go_wp2_with fail
      refine (size_I x _ (by omega)).mono ?_
      rintro e w' ⟨rfl, rfl⟩
      go_wp2_with fail
      refine (size_I y _ (by omega)).mono ?_
      rintro e w' ⟨rfl, rfl⟩
      go_wp2_with fail
      refine (HP.out _).mono ?_
      rintro e w1 ⟨rfl, hb1⟩
      rw [D_val, D_val]
      go_wp2_with fail
      refine (below_I x _).mono ?_
      rintro e w' ⟨rfl, rfl⟩
      go_wp2_with fail
      refine (below_I y _).mono ?_
      rintro e w' ⟨rfl, rfl⟩
      go_wp2_with fail
      refine (signed_I (x.natAbs * y.natAbs) _ _ hl).mono ?_
      rintro e w' ⟨rfl, rfl⟩
      rw [HE.out]
      go_wp2
      go_ret
      exact Ret.of rfl hb1
  · have HC := Lib.hid (brief_no x y w (by unfold short18; simpa using hs) (by omega) (by omega))
    clear hs
    go_enter Tryz.func118, Tryz.ntmps118
    go_wp2_with fail
    refine (HC.out).mono ?_
    rintro e w' ⟨rfl, rfl⟩
    go_wp2_with fail
    refine (size_I x _ (by omega)).mono ?_
    rintro e w' ⟨rfl, rfl⟩
    go_wp2_with fail
    refine (size_I y _ (by omega)).mono ?_
    rintro e w' ⟨rfl, rfl⟩
    go_wp2_with fail
    refine (HP.out _).mono ?_
    rintro e w1 ⟨rfl, hb1⟩
    rw [D_val, D_val]
    go_wp2_with fail
    refine (below_I x _).mono ?_
    rintro e w' ⟨rfl, rfl⟩
    go_wp2_with fail
    refine (below_I y _).mono ?_
    rintro e w' ⟨rfl, rfl⟩
    go_wp2_with fail
    refine (signed_I (x.natAbs * y.natAbs) _ _ hl).mono ?_
    rintro e w' ⟨rfl, rfl⟩
    rw [HE.out]
    go_wp2
    go_ret
    exact Ret.of rfl hb1
/-- 'divided': one digit of the quotient: subtracting while it is not less. -/
theorem divided_D (a : List UInt8) (y : Nat) (w : World) (ha : a.length ≤ 100000) (hda : Digs a) (hne : a ≠ []) (hy : 0 < y) (hyl : (D y).length ≤ 100000) :
    Calls Tryz.prog 184 #[.string (bs a), .string (bs (D y))] w (Ret w (.tuple #[.string (bs (D (val a / y))), .string (bs (D (val a % y)))])) := by
  have c1 := conv1
  generalize hR : Value.tuple #[Value.string (bs (D (val a / y))), Value.string (bs (D (val a % y)))] = R
  have HR := Lib.hid hR
  clear hR
  go_enter Tryz.func184, Tryz.ntmps184
  go_wp2
  go_loopw [6, 7, 8] (fun qv rv iv wr => ∃ (i r : Nat) (q : List UInt8), qv = .string (bs q) ∧ rv = .string (bs (D r)) ∧ iv = .int .i64 (i : Int) ∧ i ≤ a.length ∧ q.length = i ∧ Digs q ∧ r < y ∧ Hid (val (a.take i) = val q * y + r) ∧ Below w.heap.size w wr)
    (fun _ _ iv _ => a.length - (intOf iv).toNat)
  case atStart => exact ⟨0, 0, [], rfl, by rw [D_zero]; rfl, rfl, by omega, rfl, Digs.nil, hy, (by simp [val_nil] : val (a.take 0) = val [] * y + 0), Below.refl _ _⟩
  case round =>
    obtain ⟨i, r, q, rfl, rfl, rfl, hi, hql, hq, hr, hv, hbw⟩ := hrel
    by_cases hlt : i < a.length
    · have hc := hda _ (List.getElem_mem hlt)
      have hrl : (D r).length ≤ 100000 := Nat.le_trans (len_mono (by omega)) hyl
      have hst : strip (D r ++ [a[i]]) = D (r * 10 + (a[i].toNat - 48)) := by
        rw [strip_val (by simp) ((D_digs r).append (Digs.cons hc Digs.nil)), val_snoc, D_val]
      have hvi := val_take a i hlt
      rw [hv.out] at hvi
      have HVI := Lib.hid hvi
      have HST := Lib.hid hst
      have HQ := Lib.hid hql
      clear hvi hst hql hv
      have hd9 : a[i].toNat - 48 ≤ 9 := by omega
      have HTK := Lib.hid (show List.take 1 (List.drop i a) = [a[i]] by rw [List.drop_eq_getElem_cons hlt]; rfl)
      go_wp2_with fail
      rw [HTK.out]
      refine (bare_any (D r ++ [a[i]]) _ (by simp) (by simp; omega)).mono ?_
      rintro e w' ⟨rfl, rfl⟩
      rw [HST.out]
      have hR0 : r * 10 + (a[i].toNat - 48) < 10 * y := by omega
      generalize a[i].toNat - 48 = dg at *
      clear HST HTK hc
      obtain ⟨R0, hR0'⟩ : ∃ R0, R0 = r * 10 + dg := ⟨_, rfl⟩
      rw [← hR0'] at hR0
      rw [← hR0']
      have HR0 := Lib.hid hR0'
      clear hR0'
      obtain ⟨wo, rfl⟩ : ∃ wo : World, wo = wr := ⟨_, rfl⟩
      go_wp2
      go_loopw [7, 9] (fun rv dv wr => ∃ (s d : Nat), rv = .string (bs (D s)) ∧ dv = .int .u8 ((48 : Int) + (d : Int)) ∧ Hid (R0 = d * y + s) ∧ d ≤ 9 ∧ Below w.heap.size w wr)
        (fun rv _ _ => match rv with | .string b => M.val b.toList | _ => 0)
      case atStart => exact ⟨R0, 0, rfl, rfl, (by simp : R0 = 0 * y + R0), by omega, hbw⟩
      case round =>
        clear hbw
        obtain ⟨s, d, rfl, rfl, hs, hd, hbw⟩ := hrel
        have hsl : (D s).length ≤ 100002 := by
          have := len_mono (a := s) (b := 10 * y) (by have := hs.out; omega)
          have h2 := len_mul (a := 10) (b := y) (j := 2) (k := 100000) (by rw [D_big (by omega), D_small (by omega)]; simp) hyl (by omega) (by omega)
          omega
        have hlast : d = 9 → s < y := by
          intro h; subst h; have := hs.out; omega
        by_cases hlt2 : s < y
        · have e1 : decide (s < y) = true := decide_eq_true hlt2
          go_wp2_with fail
          refine (less_D s y _ (by omega) (by omega)).mono ?_
          rintro e w' ⟨rfl, rfl⟩
          have hq2 : q.length < 100000 := by have := HQ.out; omega
          go_wp2
          go_roundw
          case rel =>
            refine ⟨i + 1, s, q ++ [UInt8.ofNat (48 + d)], ?_, rfl, by go_num, by omega, by simp [HQ.out], ?_, hlt2, ?_, hbw.alloc hbw.size _⟩
            · simp
            · refine hq.append (Digs.cons ?_ Digs.nil)
              rw [dig_byte d (by omega)]; omega
            · show val (a.take (i + 1)) = _
              rw [HVI.out, val_snoc, dig_byte d (by omega), show 48 + d - 48 = d by omega]
              have h1 := HR0.out
              have h2 := hs.out
              rw [Nat.add_mul, Nat.add_mul, Nat.mul_assoc, Nat.mul_assoc, Nat.mul_comm y 10]
              omega
          case measure => simp [intOf]; omega
        · have e1 : decide (s < y) = false := decide_eq_false hlt2
          have hd8 : d ≤ 8 := by
            rcases Nat.lt_or_ge d 9 with h | h
            · omega
            · exact absurd (hlast (by omega)) hlt2
          go_wp2_with fail
          refine (less_D s y _ (by omega) (by omega)).mono ?_
          rintro e w' ⟨rfl, rfl⟩
          go_wp2_with fail
          refine (paper_D s y false _ (by omega) (by omega) (by intro _; omega)).mono ?_
          rintro e w5 ⟨rfl, hb5⟩
          rw [if_neg (by simp)]
          have hb6 : Below w.heap.size w w5 := Below.then hbw hb5
          go_wp2
          go_roundw
          case rel => exact ⟨s - y, d + 1, rfl, by go_num, (by have := hs.out; rw [Nat.add_mul]; omega : R0 = (d + 1) * y + (s - y)), by omega, hb6⟩
          case measure => simp [bs_toList, D_val]; omega
    · obtain rfl : i = a.length := by omega
      have hv2 := hv.out
      rw [List.take_length] at hv2
      have hdv : val a / y = val q := by
        rw [hv2, Nat.mul_comm, Nat.mul_add_div hy, Nat.div_eq_of_lt hr]; omega
      have hmv : val a % y = r := by
        rw [hv2, Nat.mul_comm, Nat.mul_add_mod, Nat.mod_eq_of_lt hr]
      have HX := Lib.hid (And.intro hdv hmv)
      have hqn : q ≠ [] := by
        intro h; subst h; simp at hql; exact hne (List.length_eq_zero_iff.1 hql.symm)
      have HS := Lib.hid (strip_val hqn hq)
      have hq3 : q.length ≤ 1000000000 := by omega
      clear hdv hmv hv2 hv hlt hi hql
      go_wp2_with fail
      refine (bare_any q _ hqn hq3).mono ?_
      rintro e w' ⟨rfl, rfl⟩
      rw [HS.out]
      go_wp2
      go_ret2
      refine Ret.of ?_ hbw
      rw [← HR.out, HX.out.1, HX.out.2]
      rfl
end W
end Go.Proofs.YtijpgddpejiohaaGreatDoor
end
section
namespace Go.Proofs.YtijpgddpejiohaaGreatDoor
open Go Go.RowKit
namespace W
open M
attribute [local go_sem] bs_size bs_toList bs_get bs_extract bs_append bs_lit0 bs_lit1 lit1_bs
set_option maxHeartbeats 400000
theorem parted_short (x y : Int) (w : World) (hy0 : y ≠ 0) (hx : x.natAbs < 10 ^ 18) (hy : y.natAbs < 10 ^ 18) :
    Calls Tryz.prog 120 #[.string (bs (I x)), .string (bs (I y))] w (Ret w (.tuple #[.string (bs (I (x.fdiv y))), .string (bs (I (x.fmod y)))])) := by
  have HC := Lib.hid (brief_yes x y w hx hy)
  rw [nat18] at hx hy
  have hlt := fmod_lt x y hy0
  have hq := Int.natAbs_fdiv_le_natAbs x y
  have HB := Lib.hid (tdiv_back (x := x) hy0)
  obtain ⟨t1, t2, t3⟩ := tmod_facts x y hy0
  have HK := Lib.hid (fmod_keep (x := x) hy0)
  have HM := Lib.hid (fmod_move (x := x) hy0)
  obtain ⟨r0, hr0⟩ : ∃ r0, x.tmod y = r0 := ⟨_, rfl⟩
  rw [hr0] at HK HM t1 t2 t3
  clear t2 t3
  have hyb : ((y : Int) == 0) = false := by simpa using hy0
  have HW : ∀ z : Int, z = x.fdiv y → IntKind.i64.wrap z = z := fun z hz => IntWalk.i64_in _ (by omega)
  by_cases h0 : r0 = 0
  · have e := HK.out (Or.inl h0)
    have hb1 : (r0 != 0) = false := by simpa using h0
    have HZ := Lib.hid h0
    have HQ : IntKind.i64.wrap ((x - r0).tdiv y) = x.fdiv y := by rw [e, HB.out]; exact HW _ rfl
    have HO := Lib.hid (fun w' => of_any (x.fdiv y) w' (by omega) (by omega))
    have HO2 := Lib.hid (fun w' => of_any r0 w' (by omega) (by omega))
    have HE := Lib.hid e
    clear e h0 HW hlt hq
    go_enter Tryz.func120, Tryz.ntmps120
    go_wp2_with fail
    refine (HC.out).mono ?_
    rintro e w' ⟨rfl, rfl⟩
    go_wp2_with fail
    refine (HO.out _).mono ?_
    rintro e w1 ⟨rfl, hb1⟩
    go_wp2_with fail
    refine (HO2.out _).mono ?_
    rintro e w2 ⟨rfl, hb2⟩
    have hb3 := Below.then hb1 hb2
    go_wp2
    go_ret2
    exact Ret.of (by rw [← HE.out]; rfl) hb3
  · have hb1 : (r0 != 0) = true := by simpa using h0
    by_cases hs : decide (r0 < 0) = decide (y < 0)
    · have e := HK.out (Or.inr hs)
      have hb2 : (decide (r0 < 0) == decide (y < 0)) = true := by simpa using hs
      have hb3 : (decide (r0 < 0) != decide (y < 0)) = false := by simpa using hs
      have HQ : IntKind.i64.wrap ((x - r0).tdiv y) = x.fdiv y := by rw [e, HB.out]; exact HW _ rfl
      have HO := Lib.hid (fun w' => of_any (x.fdiv y) w' (by omega) (by omega))
      have HO2 := Lib.hid (fun w' => of_any r0 w' (by omega) (by omega))
      have HE := Lib.hid e
      clear e h0 HW hlt hq hs
      go_enter Tryz.func120, Tryz.ntmps120
      go_wp2_with fail
      refine (HC.out).mono ?_
      rintro e w' ⟨rfl, rfl⟩
      go_wp2_with fail
      refine (HO.out _).mono ?_
      rintro e w1 ⟨rfl, hb1⟩
      go_wp2_with fail
      refine (HO2.out _).mono ?_
      rintro e w2 ⟨rfl, hb2⟩
      have hb3 := Below.then hb1 hb2
      go_wp2
      go_ret2
      exact Ret.of (by rw [← HE.out]; rfl) hb3
    · have e := HM.out h0 hs
      have hb2 : (decide (r0 < 0) == decide (y < 0)) = false := by simpa using hs
      have hb3 : (decide (r0 < 0) != decide (y < 0)) = true := by simpa using hs
      have HQ : IntKind.i64.wrap ((x - (r0 + y)).tdiv y) = x.fdiv y := by rw [e, HB.out]; exact HW _ rfl
      have HO := Lib.hid (fun w' => of_any (x.fdiv y) w' (by omega) (by omega))
      have HO2 := Lib.hid (fun w' => of_any (r0 + y) w' (by omega) (by omega))
      have HE := Lib.hid e
      clear e h0 HW hlt hq hs
      go_enter Tryz.func120, Tryz.ntmps120
      go_wp2_with fail
      refine (HC.out).mono ?_
      rintro e w' ⟨rfl, rfl⟩
      go_wp2_with fail
      refine (HO.out _).mono ?_
      rintro e w1 ⟨rfl, hb1⟩
      go_wp2_with fail
      refine (HO2.out _).mono ?_
      rintro e w2 ⟨rfl, hb2⟩
      have hb3 := Below.then hb1 hb2
      go_wp2
      go_ret2
      exact Ret.of (by rw [← HE.out]; rfl) hb3
theorem nat_ne {y : Int} (h : y ≠ 0) : 0 < y.natAbs := by omega
theorem parted_long (x y : Int) (w : World) (hy0 : y ≠ 0) (hs : short18 x y = false) (hx : (I x).length ≤ 99980) (hy : (I y).length ≤ 99980) :
    Calls Tryz.prog 120 #[.string (bs (I x)), .string (bs (I y))] w (Ret w (.tuple #[.string (bs (I (x.fdiv y))), .string (bs (I (x.fmod y)))])) := by
  have HC := Lib.hid (brief_no x y w hs (by omega) (by omega))
  have lx := D_le_I x
  have ly := D_le_I y
  have hdv := divided_D (D x.natAbs) y.natAbs
  rw [D_val] at hdv
  have HD := Lib.hid (fun w' => hdv w' (by omega) (D_digs _) (D_ne _) (nat_ne hy0) (by omega))
  clear hdv
  have hl : (D (x.natAbs / y.natAbs)).length ≤ 99980 := Nat.le_trans (len_mono (Nat.div_le_self _ _)) (by omega)
  have hdl : (D (x.fdiv y).natAbs).length ≤ 99980 := Nat.le_trans (len_mono (Int.natAbs_fdiv_le_natAbs x y)) (by omega)
  have hdI := I_len_D (x.fdiv y)
  have hml : (D (x.fdiv y * y).natAbs).length ≤ 199960 := by
    rw [Int.natAbs_mul]
    exact Nat.le_trans (len_mul (Nat.le_refl _) (Nat.le_refl _) (D_len_pos _) (D_len_pos _)) (by omega)
  have hmI := I_len_D (x.fdiv y * y)
  have HT := Lib.hid (fun w' => times_I (x.fdiv y) y w' (by omega) (by omega))
  have HM := Lib.hid (fun w' => minus_I x (x.fdiv y * y) w' (by omega) (by omega))
  have HF := Lib.hid (fmod_eq x y)
  by_cases hsg : decide (x < 0) = decide (y < 0)
  · have hb2 : (decide (x < 0) == decide (y < 0)) = true := by simpa using hsg
    have HE := Lib.hid (fdiv_same hy0 hsg)
    clear hsg hy0 hs
    by_cases h0 : x.natAbs % y.natAbs = 0
    · have hb3 : (D (x.natAbs % y.natAbs) == [48]) = true := by simp [D_eq_zero, h0]
      clear h0
      go_enter Tryz.func120, Tryz.ntmps120
      go_wp2_with fail
      refine (HC.out).mono ?_
      rintro e w' ⟨rfl, rfl⟩
      go_wp2_with fail
      refine (size_I x _ (by omega)).mono ?_
      rintro e w' ⟨rfl, rfl⟩
      go_wp2_with fail
      refine (size_I y _ (by omega)).mono ?_
      rintro e w' ⟨rfl, rfl⟩
      go_wp2_with fail
      refine (HD.out _).mono ?_
      rintro e w1 ⟨rfl, hb1⟩
      go_wp2_with fail
      refine (below_I x _).mono ?_
      rintro e w' ⟨rfl, rfl⟩
      go_wp2_with fail
      refine (below_I y _).mono ?_
      rintro e w' ⟨rfl, rfl⟩
      go_wp2_with fail
      refine (signed_I (x.natAbs / y.natAbs) _ _ (by omega)).mono ?_
      rintro e w' ⟨rfl, rfl⟩
      rw [if_neg (by simp), ← HE.out]
      go_wp2_with fail
      refine (HT.out _).mono ?_
      rintro e w2 ⟨rfl, hb2⟩
      go_wp2_with fail
      refine (HM.out _).mono ?_
      rintro e w3 ⟨rfl, hb3⟩
      have hb4 := Below.then (Below.then hb1 hb2) hb3
      go_wp2
      go_ret2
      exact Ret.of (by rw [← HF.out]; rfl) hb4
    · have hb3 : (D (x.natAbs % y.natAbs) == [48]) = false := by simp [D_eq_zero, h0]
      clear h0
      go_enter Tryz.func120, Tryz.ntmps120
      go_wp2_with fail
      refine (HC.out).mono ?_
      rintro e w' ⟨rfl, rfl⟩
      go_wp2_with fail
      refine (size_I x _ (by omega)).mono ?_
      rintro e w' ⟨rfl, rfl⟩
      go_wp2_with fail
      refine (size_I y _ (by omega)).mono ?_
      rintro e w' ⟨rfl, rfl⟩
      go_wp2_with fail
      refine (HD.out _).mono ?_
      rintro e w1 ⟨rfl, hb1⟩
      go_wp2_with fail
      refine (below_I x _).mono ?_
      rintro e w' ⟨rfl, rfl⟩
      go_wp2_with fail
      refine (below_I y _).mono ?_
      rintro e w' ⟨rfl, rfl⟩
      go_wp2_with fail
      refine (signed_I (x.natAbs / y.natAbs) _ _ (by omega)).mono ?_
      rintro e w' ⟨rfl, rfl⟩
      rw [if_neg (by simp), ← HE.out]
      go_wp2_with fail
      refine (below_I x _).mono ?_
      rintro e w' ⟨rfl, rfl⟩
      go_wp2_with fail
      refine (below_I y _).mono ?_
      rintro e w' ⟨rfl, rfl⟩
      go_wp2_with fail
      refine (HT.out _).mono ?_
      rintro e w2 ⟨rfl, hb2⟩
      go_wp2_with fail
      refine (HM.out _).mono ?_
      rintro e w3 ⟨rfl, hb3⟩
      have hb4 := Below.then (Below.then hb1 hb2) hb3
      go_wp2
      go_ret2
      exact Ret.of (by rw [← HF.out]; rfl) hb4
  · have hb2 : (decide (x < 0) == decide (y < 0)) = false := by simpa using hsg
    by_cases h0 : x.natAbs % y.natAbs = 0
    · have hb3 : (D (x.natAbs % y.natAbs) == [48]) = true := by simp [D_eq_zero, h0]
      have HE := Lib.hid (fdiv_diff0 hy0 hsg h0)
      clear h0 hsg hy0 hs
      go_enter Tryz.func120, Tryz.ntmps120
      go_wp2_with fail
      refine (HC.out).mono ?_
      rintro e w' ⟨rfl, rfl⟩
      go_wp2_with fail
      refine (size_I x _ (by omega)).mono ?_
      rintro e w' ⟨rfl, rfl⟩
      go_wp2_with fail
      refine (size_I y _ (by omega)).mono ?_
      rintro e w' ⟨rfl, rfl⟩
      go_wp2_with fail
      refine (HD.out _).mono ?_
      rintro e w1 ⟨rfl, hb1⟩
      go_wp2_with fail
      refine (below_I x _).mono ?_
      rintro e w' ⟨rfl, rfl⟩
      go_wp2_with fail
      refine (below_I y _).mono ?_
      rintro e w' ⟨rfl, rfl⟩
      go_wp2_with fail
      refine (signed_I (x.natAbs / y.natAbs) _ _ (by omega)).mono ?_
      rintro e w' ⟨rfl, rfl⟩
      rw [if_pos rfl, ← HE.out]
      go_wp2_with fail
      refine (HT.out _).mono ?_
      rintro e w2 ⟨rfl, hb2⟩
      go_wp2_with fail
      refine (HM.out _).mono ?_
      rintro e w3 ⟨rfl, hb3⟩
      have hb4 := Below.then (Below.then hb1 hb2) hb3
      go_wp2
      go_ret2
      exact Ret.of (by rw [← HF.out]; rfl) hb4
    · have hb3 : (D (x.natAbs % y.natAbs) == [48]) = false := by simp [D_eq_zero, h0]
      have HE := Lib.hid (fdiv_diff1 hy0 hsg h0)
      have hql : (I (-((x.natAbs / y.natAbs : Nat) : Int))).length ≤ 99981 := by
        have := I_len_D (-((x.natAbs / y.natAbs : Nat) : Int))
        rw [Int.natAbs_neg, Int.natAbs_natCast] at this
        omega
      have h1l : (I 1).length ≤ 1 := by rw [I_one]; simp
      have HM1 := Lib.hid (fun w' => minus_I (-((x.natAbs / y.natAbs : Nat) : Int)) 1 w' (by omega) (by omega))
      have H1 := Lib.hid I_one
      clear h0 hsg hy0 hs h1l
      go_enter Tryz.func120, Tryz.ntmps120
      go_wp2_with fail
      refine (HC.out).mono ?_
      rintro e w' ⟨rfl, rfl⟩
      go_wp2_with fail
      refine (size_I x _ (by omega)).mono ?_
      rintro e w' ⟨rfl, rfl⟩
      go_wp2_with fail
      refine (size_I y _ (by omega)).mono ?_
      rintro e w' ⟨rfl, rfl⟩
      go_wp2_with fail
      refine (HD.out _).mono ?_
      rintro e w1 ⟨rfl, hb1⟩
      go_wp2_with fail
      refine (below_I x _).mono ?_
      rintro e w' ⟨rfl, rfl⟩
      go_wp2_with fail
      refine (below_I y _).mono ?_
      rintro e w' ⟨rfl, rfl⟩
      go_wp2_with fail
      refine (signed_I (x.natAbs / y.natAbs) _ _ (by omega)).mono ?_
      rintro e w' ⟨rfl, rfl⟩
      rw [if_pos rfl]
      obtain ⟨qq, hqq⟩ : ∃ qq : Int, qq = -((x.natAbs / y.natAbs : Nat) : Int) := ⟨_, rfl⟩
      rw [← hqq]
      rw [← hqq] at HE HM1
      clear hqq
      go_wp2_with fail
      refine (below_I x _).mono ?_
      rintro e w' ⟨rfl, rfl⟩
      go_wp2_with fail
      refine (below_I y _).mono ?_
      rintro e w' ⟨rfl, rfl⟩
      go_wp2_with fail
      rw [show (Value.string ⟨#[49]⟩) = Value.string (bs (I 1)) by rw [H1.out]; rfl]
      refine (HM1.out _).mono ?_
      rintro e w4 ⟨rfl, hb4⟩
      rw [← HE.out]
      go_wp2_with fail
      refine (HT.out _).mono ?_
      rintro e w2 ⟨rfl, hb2⟩
      go_wp2_with fail
      refine (HM.out _).mono ?_
      rintro e w3 ⟨rfl, hb3⟩
      have hb5 := Below.then (Below.then (Below.then hb1 hb4) hb2) hb3
      go_wp2
      go_ret2
      exact Ret.of (by rw [← HF.out]; rfl) hb5
theorem parted_I (x y : Int) (w : World) (hy0 : y ≠ 0) (hx : (I x).length ≤ 99980) (hy : (I y).length ≤ 99980) :
    Calls Tryz.prog 120 #[.string (bs (I x)), .string (bs (I y))] w (Ret w (.tuple #[.string (bs (I (x.fdiv y))), .string (bs (I (x.fmod y)))])) := by
  by_cases h : short18 x y = true
  · unfold short18 at h
    rw [Bool.and_eq_true, decide_eq_true_eq, decide_eq_true_eq] at h
    exact parted_short x y w hy0 h.1 h.2
  · exact parted_long x y w hy0 (by simpa using h) hx hy
end W
end Go.Proofs.YtijpgddpejiohaaGreatDoor
end
section
namespace Go.Proofs.YtijpgddpejiohaaGreatDoor
open Go Go.RowKit
namespace W
open M
attribute [local go_sem] bs_size bs_toList bs_get bs_extract bs_append bs_lit0 bs_lit1 lit1_bs
set_option maxHeartbeats 400000
theorem shared_I (x y : Int) (w : World) (hx : (I x).length ≤ 99980) (hy : (I y).length ≤ 99980) :
    Calls Tryz.prog 113 #[.string (bs (I x)), .string (bs (I y))] w (Ret w (.string (bs (I ((Int.gcd x y : Nat) : Int))))) := by
  have lx := D_le_I x
  have ly := D_le_I y
  have hG := Int.gcd_eq_natAbs_gcd_natAbs x y
  rw [hG]
  clear hG
  obtain ⟨G, hG⟩ : ∃ G, Nat.gcd x.natAbs y.natAbs = G := ⟨_, rfl⟩
  rw [hG]
  have HG := Lib.hid hG
  have e1 : I ((x.natAbs : Nat) : Int) = D x.natAbs := I_nonneg _
  have e2 : I ((y.natAbs : Nat) : Int) = D y.natAbs := I_nonneg _
  have l1 : (I ((x.natAbs : Nat) : Int)).length ≤ 99980 := by rw [e1]; omega
  have l2 : (I ((y.natAbs : Nat) : Int)).length ≤ 99980 := by rw [e2]; omega
  clear hG e1 e2
  go_enter Tryz.func113, Tryz.ntmps113
  go_wp2_with fail
  refine (size_I x _ (by omega)).mono ?_
  rintro e w' ⟨rfl, rfl⟩
  go_wp2_with fail
  refine (signed_I x.natAbs false _ (by omega)).mono ?_
  rintro e w' ⟨rfl, rfl⟩
  rw [if_neg (by simp)]
  go_wp2_with fail
  refine (size_I y _ (by omega)).mono ?_
  rintro e w' ⟨rfl, rfl⟩
  go_wp2_with fail
  refine (signed_I y.natAbs false _ (by omega)).mono ?_
  rintro e w' ⟨rfl, rfl⟩
  rw [if_neg (by simp)]
  generalize x.natAbs = m0 at *
  generalize y.natAbs = n0 at *
  go_wp2
  go_loopw [0, 1] (fun av bv wr => ∃ m n : Nat, av = .string (bs (I (m : Int))) ∧ bv = .string (bs (I (n : Int))) ∧ Hid (Nat.gcd m n = G) ∧ (I (m : Int)).length ≤ 99980 ∧ (I (n : Int)).length ≤ 99980 ∧ Below w.heap.size w wr)
    (fun _ bv _ => match bv with | .string b => M.val b.toList | _ => 0)
  case atStart => exact ⟨m0, n0, rfl, rfl, HG, l1, l2, Below.refl _ _⟩
  case round =>
    clear HG l1 l2 lx ly hx hy
    obtain ⟨m, n, rfl, rfl, hg, hm, hn, hbw⟩ := hrel
    by_cases hn0 : n = 0
    · subst hn0
      have hz : (I ((0 : Nat) : Int)) = [48] := I_zero
      have hg2 := hg.out
      rw [Nat.gcd_zero_right] at hg2
      subst hg2
      clear hg
      rw [hz]
      go_wp2
      go_ret
      exact Ret.of rfl hbw
    · have hb1 : (I ((n : Nat) : Int) == [48]) = false := by simp [I_eq_zero]; omega
      obtain ⟨wo, rfl⟩ : ∃ wo : World, wo = wr := ⟨_, rfl⟩
      by_cases hs : (m : Int).natAbs < 10 ^ 18 ∧ (n : Int).natAbs < 10 ^ 18
      · have HC := Lib.hid (brief_yes (m : Int) (n : Int) wo hs.1 hs.2)
        rw [nat18] at hs
        go_wp2_with fail
        refine (HC.out).mono ?_
        rintro e w' ⟨rfl, rfl⟩
        clear HC
        go_wp2
        go_loopw [5, 6] (fun mv nv wr => ∃ m n : Nat, mv = .int .i64 (m : Int) ∧ nv = .int .i64 (n : Int) ∧ Hid (Nat.gcd m n = G) ∧ m < 1000000000000000000 ∧ n < 1000000000000000000 ∧ Below w.heap.size w wr)
          (fun _ nv _ => (intOf nv).toNat)
        case atStart => exact ⟨m, n, rfl, rfl, hg, by omega, by omega, hbw⟩
        case round =>
          clear hg hm hn hbw hs hn0 hb1
          obtain ⟨p, q, rfl, rfl, hg, hm, hn, hbw⟩ := hrel
          by_cases hn0 : 0 < q
          · have hmn : p % q < q := Nat.mod_lt _ hn0
            have hcast : (p : Int) % (q : Int) = ((p % q : Nat) : Int) := rfl
            go_wp2
            go_region
            all_goals
              go_wp2
              go_roundw
              case rel => exact ⟨q, p % q, rfl, by go_num, (gcd_step p q).symm.trans hg.out, hn, by omega, hbw.drew⟩
              case measure => simp [intOf]; omega
          · obtain rfl : q = 0 := by omega
            have hg2 := hg.out
            rw [Nat.gcd_zero_right] at hg2
            subst hg2
            clear hg
            go_wp2_with fail
            refine (of_any (p : Int) _ (by omega) (by omega)).mono ?_
            rintro e w1 ⟨rfl, hb1⟩
            go_wp2
            go_ret
            exact Ret.of rfl (hbw.trans (hb1.mono hbw.size))
      · have HC := Lib.hid (brief_no (m : Int) (n : Int) wo (by unfold short18; simpa using hs) (by omega) (by omega))
        have hfm := fmod_nat m n
        have HPt := Lib.hid (fun w' => parted_I (m : Int) (n : Int) w' (by omega) hm hn)
        have hmn : m % n < n := Nat.mod_lt _ (by omega)
        have hml : (I ((m % n : Nat) : Int)).length ≤ 99980 := by
          rw [I_nonneg] at hn ⊢
          exact Nat.le_trans (len_mono (by omega)) hn
        have HF := Lib.hid hfm
        have hg3 : Hid (Nat.gcd n (m % n) = G) := (gcd_step m n).symm.trans hg.out
        clear hfm hs hg
        go_wp2_with fail
        refine (HC.out).mono ?_
        rintro e w' ⟨rfl, rfl⟩
        go_wp2_with fail
        refine (HPt.out _).mono ?_
        rintro e w8 ⟨rfl, hb8⟩
        rw [HF.out]
        go_wp2
        go_roundw
        case rel => exact ⟨n, m % n, rfl, rfl, hg3, hn, hml, hbw.trans (hb8.mono hbw.size)⟩
        case measure => simp only [bs_toList, show ((m : Int) % (n : Int)) = ((m % n : Nat) : Int) from rfl, I_nonneg, D_val]; omega
end W
end Go.Proofs.YtijpgddpejiohaaGreatDoor
end
section
namespace Go.Proofs.YtijpgddpejiohaaGreatDoor
open Go Go.RowKit
namespace M
theorem chk_a {l : List UInt8} (h : sz l = []) : chk l = 3 := by unfold chk; rw [if_pos (Or.inl h)]
theorem chk_b {l t : List UInt8} (h : sz l = 48 :: t) (h2 : 1 < (sz l).length ∨ 1 < l.length) : chk l = 3 := by unfold chk; rw [if_pos (Or.inr ⟨by rw [h]; rfl, h2⟩)]
theorem chk_c {l : List UInt8} {i : Nat} (hi : i < (sz l).length) (h : ¬ (48 ≤ ((sz l)[i].toNat : Int) ∧ ((sz l)[i].toNat : Int) ≤ 57)) : chk l = 3 := by
  unfold chk
  split
  · rfl
  · rw [if_pos]
    rw [Bool.eq_false_iff]
    intro e
    have := ((all_isDig _).1 e).get i hi
    exact h this
theorem chk_d {l : List UInt8} (h : ¬ (sz l = [] ∨ ((sz l).head? = some 48 ∧ (1 < (sz l).length ∨ 1 < l.length)))) (hd : Digs (sz l)) : chk l = if 1024 < (sz l).length then 11 else 0 := by
  unfold chk; rw [if_neg h, if_neg (by rw [(all_isDig _).2 hd]; simp)]
end M
namespace W
open M
attribute [local go_sem] bs_size bs_toList bs_get bs_extract bs_append bs_lit0 bs_lit1 lit1_bs
set_option maxHeartbeats 400000
theorem check_any (l : List UInt8) (w : World) (hl : l.length ≤ 1000000) :
    Calls Tryz.prog 110 #[.string (bs l)] w fun e w' => e = .returned (.int .i64 ((chk l : Nat) : Int)) ∧ w = w' := by
  have hsl := sz_len l
  have HC := Lib.hid (size_any l w (by omega))
  rcases hs : sz l with _ | ⟨c, t⟩
  · have hk := chk_a hs
    rw [hk]
    clear hk
    rw [hs] at HC
    go_enter Tryz.func110, Tryz.ntmps110
    go_wp2_with fail
    refine (HC.out).mono ?_
    rintro e w' ⟨rfl, rfl⟩
    go_wp2
    go_ret
    exact ⟨rfl, rfl⟩
  · by_cases hb : c = 48 ∧ (1 < (sz l).length ∨ 1 < l.length)
    · obtain ⟨rfl, hb⟩ := hb
      have hk := chk_b hs hb
      rw [hk]
      clear hk
      rw [hs] at HC hb hsl
      clear hs
      by_cases h1 : 1 < (48 :: t : List UInt8).length
      · simp only [List.length_cons] at h1 hsl
        clear hb
        go_enter Tryz.func110, Tryz.ntmps110
        go_wp2_with fail
        refine (HC.out).mono ?_
        rintro e w' ⟨rfl, rfl⟩
        go_wp2
        all_goals go_ret
        all_goals exact ⟨rfl, rfl⟩
      · have h2 : 1 < l.length := by omega
        simp only [List.length_cons] at h1 hsl
        clear hb
        go_enter Tryz.func110, Tryz.ntmps110
        go_wp2_with fail
        refine (HC.out).mono ?_
        rintro e w' ⟨rfl, rfl⟩
        go_wp2
        all_goals go_ret
        all_goals exact ⟨rfl, rfl⟩
    · have hnot : ¬ (sz l = [] ∨ ((sz l).head? = some 48 ∧ (1 < (sz l).length ∨ 1 < l.length))) := by
        rintro (h | ⟨h, h'⟩)
        · rw [hs] at h; cases h
        · rw [hs] at h; exact hb ⟨Option.some.inj h, h'⟩
      have HD := Lib.hid (chk_d hnot)
      have HX := Lib.hid (fun (i : Nat) (hi : i < (sz l).length) => chk_c (l := l) hi)
      have hcase : (((c.toNat : Nat) : Int) == 48) = false ∨ (c = 48 ∧ t = [] ∧ l.length ≤ 1) := by
        by_cases hc : c = 48
        · right
          have h3 : ¬ (1 < (sz l).length ∨ 1 < l.length) := fun h => hb ⟨hc, h⟩
          rw [hs] at h3
          simp only [List.length_cons] at h3
          exact ⟨hc, List.length_eq_zero_iff.1 (by omega), by omega⟩
        · left; rw [b48]; simpa using hc
      have hlen : 1 ≤ (sz l).length := by rw [hs]; simp
      generalize hch : ((chk l : Nat) : Int) = ch at *
      have HCH := Lib.hid hch
      clear hb hnot hch
      rcases hcase with hc0 | ⟨rfl, rfl, hll⟩
      all_goals
        rw [hs] at HC
        go_enter Tryz.func110, Tryz.ntmps110
        go_wp2_with fail
        refine (HC.out).mono ?_
        rintro e w' ⟨rfl, rfl⟩
        go_wp2
        rw [← hs]
        generalize sz l = s at *
        clear hs
        go_loop [4] (fun iv => ∃ i : Nat, iv = .int .i64 (i : Int) ∧ i ≤ s.length ∧ Hid (∀ c ∈ s.take i, 48 ≤ c.toNat ∧ c.toNat ≤ 57)) (fun iv => s.length - (intOf iv).toNat)
        case atStart => exact ⟨0, rfl, by omega, fun c h => by simp at h⟩
        case round =>
          obtain ⟨i, rfl, hi, hdi⟩ := hrel
          by_cases hlt : i < s.length
          · by_cases hd : 48 ≤ (s[i].toNat : Int) ∧ (s[i].toNat : Int) ≤ 57
            · go_wp2
              go_round
              case rel =>
                refine ⟨i + 1, by go_num, by omega, fun c hc => ?_⟩
                rw [List.take_succ_eq_append_getElem hlt] at hc
                rcases List.mem_append.1 hc with h | h
                · exact hdi.out c h
                · rw [List.mem_singleton] at h; subst h; omega
              case measure => simp [intOf]; omega
            · have HK := Lib.hid (HX.out i hlt hd)
              rcases (by omega : (s[i].toNat : Int) < 48 ∨ 57 < (s[i].toNat : Int)) with h | h
              all_goals
                clear hd
                go_wp2
                go_ret
                exact ⟨ret_int (by rw [← HCH.out, HK.out]; rfl), rfl⟩
          · obtain rfl : i = s.length := by omega
            have hds : Digs s := by
              have := hdi.out
              rwa [List.take_length] at this
            have HK := Lib.hid (HD.out hds)
            by_cases h : 1024 < s.length
            all_goals try (exfalso; omega)
            all_goals
              go_wp2
              go_ret
              refine ⟨ret_int ?_, rfl⟩
              rw [← HCH.out, HK.out]
              first | rw [if_pos h] | rw [if_neg h]
              rfl
end W
end Go.Proofs.YtijpgddpejiohaaGreatDoor
end
