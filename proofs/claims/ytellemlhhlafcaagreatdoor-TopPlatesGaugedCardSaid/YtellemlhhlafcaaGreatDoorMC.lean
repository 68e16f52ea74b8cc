/-
  What the library's variables hold, and the library's contracts in this proof's own words: texts as lists of bytes.
  strings.Builder's writers at this program.
  Layer 1 of the program: 'Check', 'all', 'sign', 'order', 'Compare', 'small', 'Of', 'opposite'.
  Layer 1 of the program: 'sign', 'order', 'Compare', 'small', 'Of', 'opposite'.
  Layer 1 of the program: integers in words: 'trimmed', 'beyond'.
  Layer 1 of the program: 'carry'.
-/
import Derived.Test.YtellemlhhlafcaaGreatDoorMA
import Derived.Test.YtellemlhhlafcaaGreatDoorShelf
import Derived.Lib.LaidTab
import Derived.Lib.SlTrimSet
import Derived.WalkSmall
import Derived.Lib.Builder
import Derived.Lib.AppendStr
import Derived.Lib.UnsafeStr
import Derived.Laws.Externs
import Derived.Test.YtellemlhhlafcaaGreatDoorMB
import Derived.Deep.LoopGhost
import Derived.Deep.QuietTactic
import Derived.BigQuiet
section
namespace Go.Proofs.YtellemlhhlafcaaGreatDoor
open Go Go.RowKit
theorem gTab : Tryz.prog.globalNamed "internal/strconv.uint64pow10" = some 6 := by kernel_rfl
def Glob (w : World) : Prop :=
  (∃ m : Int, w.cell? ⟨1, 0, none⟩ = some (.int .i64 m)) ∧ Lib.TabIs Tryz.prog w "internal/strconv.uint64pow10" .u64 Lib.pow10Tab ∧ 8 ≤ w.heap.size
theorem Glob.below {B : Nat} {w w' : World} (h : Glob w) (hb : Below B w w') (hB : 8 ≤ B) : Glob w' := by
  obtain ⟨⟨m, hm⟩, ht, hs⟩ := h
  refine ⟨⟨m, ?_⟩, ?_, Nat.le_trans hs hb.size⟩
  · rw [hb.cell (p := ⟨1, 0, none⟩) (by show 1 < B; omega)]; exact hm
  · unfold Lib.TabIs at ht ⊢
    exact var?_below hb gTab (by omega) ht
theorem Glob.of {w w' : World} (h : Glob w) (hb : Below w.heap.size w w') : Glob w' := h.below hb h.2.2
theorem below_grow (w : World) (k : Nat) (os : Array Obj) : Below w.heap.size w (Sort.grow (w.drewN k) os) := by
  refine ⟨rfl, rfl, rfl, by simp [Sort.grow, World.drewN], fun i hi => ?_⟩
  simp only [Sort.grow, World.drewN]
  rw [Array.getElem?_append_left hi]
namespace M
theorem trim_minus (l : List UInt8) : Lib.trimPrefix l [45] = sz l := by
  unfold Lib.trimPrefix Lib.hasPrefix
  cases l with
  | nil => rfl
  | cons c t =>
    by_cases h : c = 45
    · subst h; rfl
    · rw [if_neg (by simp [List.isPrefixOf]; exact fun e => h e.symm), sz_plain t h]
def digits : List UInt8 := [48, 49, 50, 51, 52, 53, 54, 55, 56, 57]
theorem digits_has (c : UInt8) : digits.contains c = isDig c := by
  have h : ∀ n : Fin 256, digits.contains (UInt8.ofNat n.val) = isDig (UInt8.ofNat n.val) := by decide +kernel
  have := h ⟨c.toNat, c.toNat_lt⟩
  simpa using this
theorem dropWhile_nil {p : UInt8 → Bool} {l : List UInt8} : l.dropWhile p = [] ↔ l.all p = true := by
  induction l with
  | nil => simp
  | cons c t ih => by_cases h : p c = true <;> simp [h, ih]
theorem trim_digits (l : List UInt8) : Lib.trimS l digits = [] ↔ l.all isDig = true := by
  unfold Lib.trimS Lib.trimLeftS Lib.trimRightS
  have e : (fun x => digits.contains x) = isDig := funext digits_has
  rw [e, dropWhile_nil, List.all_reverse]
  constructor
  · intro h
    rw [List.all_eq_true] at h ⊢
    intro c hc
    by_cases hd : isDig c = true
    · exact hd
    · have key : ∀ r : List UInt8, c ∈ r → c ∈ r.dropWhile isDig := by
        intro r
        induction r with
        | nil => intro h; exact h
        | cons a t ih =>
          intro h
          by_cases ha : isDig a = true
          · rw [List.dropWhile_cons, if_pos ha]
            rcases List.mem_cons.1 h with rfl | h
            · exact absurd ha hd
            · exact ih h
          · rw [List.dropWhile_cons, if_neg ha]; exact h
      exact h c (key l.reverse (List.mem_reverse.2 hc))
  · intro h
    have : l.reverse.dropWhile isDig = [] := dropWhile_nil.2 (by rw [List.all_reverse]; exact h)
    rw [this]; rfl
theorem parse_digs : ∀ (l : List UInt8) (acc : Nat), Digs l → acc * 10 ^ l.length + val l < 18446744073709551616 → Lib.parseUint10 acc l = .ok (acc * 10 ^ l.length + val l)
  | [], acc, _, _ => by simp [Lib.parseUint10, val_nil]
  | c :: r, acc, hd, h => by
    have hc := hd c (by simp)
    have hp : 1 ≤ 10 ^ r.length := Nat.one_le_pow _ _ (by decide)
    have e : acc * 10 ^ (c :: r).length + val (c :: r) = (acc * 10 + (c.toNat - 48)) * 10 ^ r.length + val r := by
      rw [List.length_cons, Nat.pow_succ, val_cons, Nat.add_mul, Nat.mul_assoc, Nat.mul_comm 10]; omega
    rw [e] at h ⊢
    have h2 : acc * 10 + (c.toNat - 48) ≤ (acc * 10 + (c.toNat - 48)) * 10 ^ r.length := Nat.le_mul_of_pos_right _ hp
    have ih := parse_digs r (acc * 10 + (c.toNat - 48)) hd.tail h
    rw [Lib.parseUint10, if_pos hc, if_neg (by omega), if_neg (by omega), ih]
theorem parse_mag {l : List UInt8} (hd : Digs l) (hn : l ≠ []) (h : val l < 18446744073709551616) : Lib.parseMag l = .ok (val l) := by
  unfold Lib.parseMag
  rw [if_neg hn, parse_digs l 0 hd (by simpa using h)]; simp
theorem atoi_digs {l : List UInt8} (hd : Digs l) (hn : l ≠ []) (h : val l < 9223372036854775808) : Lib.atoiAll l = .ok ((val l : Nat) : Int) := by
  cases l with
  | nil => exact absurd rfl hn
  | cons c t =>
    have hc := hd c (by simp)
    have hp := parse_mag hd hn (by omega)
    unfold Lib.atoiAll
    simp only
    rw [if_neg (show ¬ (c.toNat = 43 ∨ c.toNat = 45) by omega), hp]
    simp only
    rw [if_neg (by omega), if_neg (by omega), if_neg (by omega)]
theorem atoi_I {z : Int} (h : z.natAbs < 9223372036854775808) : Lib.atoiAll (I z) = .ok z := by
  rcases Int.lt_or_le z 0 with hz | hz
  · rw [I_of_lt hz]
    have hp := parse_mag (D_digs z.natAbs) (D_ne _) (by rw [D_val]; omega)
    rw [D_val] at hp
    unfold Lib.atoiAll
    simp only
    rw [if_pos (Or.inr (by decide)), hp]
    simp only
    rw [if_neg (by simp), if_neg (by omega), if_pos (by decide)]
    congr 1; omega
  · rw [I_of_ge hz, atoi_digs (D_digs _) (D_ne _) (by rw [D_val]; exact h), D_val]
    congr 1; omega
theorem cmp_digs {a b : List UInt8} (ha : Digs a) (hb : Digs b) (h : a.length = b.length) : Lib.compareBytes a b = if val a < val b then -1 else if val b < val a then 1 else 0 := by
  induction a generalizing b with
  | nil =>
    cases b with
    | nil => rfl
    | cons c t => simp at h
  | cons c t ih =>
    cases b with
    | nil => simp at h
    | cons d s =>
      have hl : t.length = s.length := by simpa using h
      have i := ih ha.tail hb.tail hl
      have hc := ha c (by simp)
      have hd := hb d (by simp)
      have v1 := val_lt ha.tail
      have v2 := val_lt hb.tail
      rw [val_cons, val_cons, hl]
      rw [hl] at v1
      have m1 := @Nat.mul_le_mul_right (c.toNat - 48 + 1) (d.toNat - 48) (10 ^ s.length)
      have m2 := @Nat.mul_le_mul_right (d.toNat - 48 + 1) (c.toNat - 48) (10 ^ s.length)
      rw [Nat.add_mul, Nat.one_mul] at m1 m2
      rw [Lib.compareBytes]
      rcases Nat.lt_trichotomy c.toNat d.toNat with h1 | h1 | h1
      · rw [if_pos (UInt8.lt_iff_toNat_lt.2 h1), if_pos (by have := m1 (by omega); omega)]
      · obtain rfl : c = d := UInt8.toNat_inj.1 h1
        rw [if_neg (fun h => by have := UInt8.lt_iff_toNat_lt.1 h; omega), if_neg (fun h => by have := UInt8.lt_iff_toNat_lt.1 h; omega), i]
        generalize (c.toNat - 48) * 10 ^ s.length = q
        have j1 : (q + val t < q + val s) = (val t < val s) := by rw [eq_iff_iff]; omega
        have j2 : (q + val s < q + val t) = (val s < val t) := by rw [eq_iff_iff]; omega
        simp only [j1, j2]
      · rw [if_neg (fun h => by have := UInt8.lt_iff_toNat_lt.1 h; omega), if_pos (UInt8.lt_iff_toNat_lt.2 h1), if_neg (by have := m2 (by omega); omega), if_pos (by have := m2 (by omega); omega)]
end M
namespace W
open M
theorem bs_dl (l : List UInt8) : (bs l).data.toList = l := by simp [bs]
theorem trimPrefix_minus (l : List UInt8) (w : World) :
    Calls Tryz.prog 136 #[.string (bs l), .string ⟨#[45]⟩] w fun e w' => e = .returned (.string (bs (sz l))) ∧ w = w' := by
  refine (Tryz.strings_TrimPrefix (bs l) ⟨#[45]⟩ w).mono ?_
  rintro e w' ⟨rfl, rfl⟩
  rw [bs_dl, show (⟨#[45]⟩ : ByteArray).data.toList = [45] from rfl, trim_minus]
  exact ⟨rfl, rfl⟩
theorem hasPrefix_minus (l : List UInt8) (w : World) :
    Calls Tryz.prog 205 #[.string (bs l), .string ⟨#[45]⟩] w fun e w' => e = .returned (.bool (l.head? == some 45)) ∧ w = w' := by
  refine (Tryz.strings_HasPrefix (bs l) ⟨#[45]⟩ w).mono ?_
  rintro e w' ⟨rfl, rfl⟩
  rw [bs_dl, show (⟨#[45]⟩ : ByteArray).data.toList = [45] from rfl]
  refine ⟨?_, rfl⟩
  have : Lib.hasPrefix l [45] = (l.head? == some 45) := by
    unfold Lib.hasPrefix
    cases l with
    | nil => rfl
    | cons c t => simp [List.isPrefixOf]; rw [Bool.eq_iff_iff]; simp; exact eq_comm
  rw [this]
theorem infoSet : (Tryz.prog.info? 286).map (fun i => (i.zero, i.size)) = some (some (.agg (Array.replicate 256 (.bool false))), 256) := by kernel_rfl
theorem trim_any (l : List UInt8) (w : World) (hl : l.length ≤ 1000000000) :
    Calls Tryz.prog 137 #[.string (bs l), .string ⟨#[48, 49, 50, 51, 52, 53, 54, 55, 56, 57]⟩] w (Ret w (.string (bs (Lib.trimS l digits)))) := by
  refine (Any.strings_Trim_laid Tryz.lays160 infoSet (bs l) ⟨#[48, 49, 50, 51, 52, 53, 54, 55, 56, 57]⟩ w (by rw [bs_size]; omega) (by decide) (Go.Proofs.ascii_of_all (by decide))).mono ?_
  rintro e w' ⟨rfl, hb⟩
  rw [bs_dl]
  exact Ret.of rfl hb
theorem itoa_any (n : Int) (w : World) (hg : Glob w) (h0 : -9223372036854775808 ≤ n) (h1 : n ≤ 9223372036854775807) :
    Calls Tryz.prog 168 #[.int .i64 n] w (Ret w (.string (bs (I n)))) := by
  refine (Tryz.strconv_Itoa n h0 h1 w hg.2.1).mono ?_
  rintro e w' ⟨rfl, k, os, rfl⟩
  exact Ret.of rfl (below_grow w k os)
end W
end Go.Proofs.YtellemlhhlafcaaGreatDoor
end
section
namespace Go.Proofs.YtellemlhhlafcaaGreatDoor
open Go Go.RowKit
theorem sizeBuilder : (Tryz.prog.info? 302).map (·.size) = some 2 := by kernel_rfl
theorem liesBuilder : liesAt Tryz.prog Tryz.prog.depth 302 (2 / Tryz.prog.cellsOf 302) 0 302 1 = true := by kernel_rfl
namespace W
set_option maxHeartbeats 2000000
set_option maxRecDepth 100000
theorem copyCheck_used (b : Nat) (w : World) (h0 : w.cell? ⟨b, 0, none⟩ = some (.pointer (some ⟨b, 0, none⟩))) :
    Calls Tryz.prog 222 #[.pointer (some ⟨b, 0, none⟩)] w fun e w' => e = .returned (.tuple #[]) ∧ w' = w := by
  obtain ⟨j, hj, _⟩ := Option.map_eq_some_iff.1 sizeBuilder
  go_enter Tryz.func222, Tryz.ntmps222
  go_wp2
  rw [Lib.run_neq_ptr_same w _ Tryz.underlying299 hj]
  go_wp2
  go_end0
  exact ⟨rfl, rfl⟩
theorem copyCheck_fresh (b : Nat) (w : World) (h0 : w.cell? ⟨b, 0, none⟩ = some (.pointer none)) (hsh : w.shape? b = some (302, 2)) (hfz : w.frozen? ⟨b, 0, none⟩ = false) :
    Calls Tryz.prog 222 #[.pointer (some ⟨b, 0, none⟩)] w fun e w' => e = .returned (.tuple #[]) ∧ w' = w.setCell ⟨b, 0, none⟩ (.pointer (some ⟨b, 0, none⟩)) := by
  obtain ⟨j, hj, hjs⟩ := Option.map_eq_some_iff.1 sizeBuilder
  go_enter Tryz.func222, Tryz.ntmps222
  go_wp2
  rw [Lib.run_to_unsafe w ⟨b, 0, none⟩ Tryz.underlying299 Tryz.underlying344 hj (by rw [hjs]; decide) hsh (Nat.zero_lt_succ 1)]
  simp only [Result.andThen]
  rw [Oper.upon_value]
  go_wp2
  rw [run_callFunc_extern Tryz.func245 (by kernel_rfl) (by kernel_rfl) (by kernel_rfl) (e := Extern.AbiNoEscape.same) (by kernel_rfl)]
  rw [Lib.run_noEscape]
  simp only [Result.andThen]
  rw [Oper.upon_value]
  go_wp2
  rw [Lib.run_from_unsafe w ⟨b, 0, none⟩ Tryz.underlying344 Tryz.underlying299 hj hsh liesBuilder]
  simp only [Result.andThen]
  rw [Oper.upon_value]
  go_wp2
  go_end0
  exact ⟨rfl, rfl⟩
abbrev IsB (B b : Nat) (l : List Value) (w : World) : Prop := Lib.IsBuilder 302 5 B b l w
theorem copyCheck_any (B b : Nat) (l : List Value) (w : World) (h : IsB B b l w) :
    Calls Tryz.prog 222 #[.pointer (some ⟨b, 0, none⟩)] w fun e w' => e = .returned (.tuple #[]) ∧ (Lib.BuilderAt 302 5 B b (.pointer (some ⟨b, 0, none⟩)) l w' ∧ Below B w w') := by
  rcases h with h | h
  · refine (copyCheck_fresh b w h.cell0 h.shape h.frozen0).mono ?_
    rintro e w' ⟨rfl, rfl⟩
    exact ⟨rfl, h.used _, (RowKit.Below.refl B w).setCell (p := ⟨b, 0, none⟩) h.1 _⟩
  · refine (copyCheck_used b w h.cell0).mono ?_
    rintro e w' ⟨rfl, rfl⟩
    exact ⟨rfl, h, RowKit.Below.refl B _⟩
theorem writeByte_any (B b : Nat) (l : List Value) (c : Int) (w : World) (h : IsB B b l w) (hlen : l.length + 1 ≤ 140737488355328) (hBw : B ≤ w.heap.size) :
    Calls Tryz.prog 187 #[.pointer (some ⟨b, 0, none⟩), .int .u8 c] w fun e w' => e = .returned .nilIface ∧ (IsB B b (l ++ [.int .u8 c]) w' ∧ Below B w w') := by
  obtain ⟨i0, hi, hz0, hz1, hz2⟩ := info_parts info5
  go_enter Tryz.func187, Tryz.ntmps187
  go_wp2_with (go_at_call 222; refine (copyCheck_any B b l _ h).mono ?_)
  rintro e w1 ⟨rfl, h1, hb1⟩
  obtain ⟨hB, v, hbk, hown, hne⟩ := h1
  have c0 : w1.cell? ⟨b, 0, none⟩ = some (.pointer (some ⟨b, 0, none⟩)) := by rw [Lib.cell_of_heap hbk]; rfl
  have c1 : w1.cell? ⟨b, 1, none⟩ = some v := by rw [Lib.cell_of_heap hbk]; rfl
  go_wp2_with (at_builtin; refine wpList_append_own _ rfl _ _ 300 rfl B 5 i0 (.int .u8 0) 1 1 Tryz.underlying300 hi hz0 hz1 hz2 rfl (by decide) _ _ _ rfl (hown.alloc _) ⟨w1.heap.size, 0, none⟩ 1 1 [.int .u8 c] rfl rfl ?c1 ?c2 ?c3 ?c4 ?c5 ?_)
  case c1 =>
    intro j u hj
    match j, hj with
    | 0, hj => simp at hj; subst hj; simp [Addr.add]
  case c2 => intro u hu; simp at hu; subst hu; rfl
  case c3 => unfold maxLen; omega
  case c4 => omega
  case c5 => have := hb1.size; simp; omega
  intro v' w2 hown' hgrow _
  have hlt : b < w1.heap.size := by
    rcases Nat.lt_or_ge b w1.heap.size with h' | h'
    · exact h'
    · simp [Array.getElem?_eq_none h'] at hbk
  have hb2 : w2.heap[b]? = some (.cells #[.pointer (some ⟨b, 0, none⟩), v] 302 (0, 0)) := by
    rw [hgrow.block b (by simp; omega) (fun e => hne e.symm), Lib.alloc_old w1 _ b hlt]
    exact hbk
  have d0 : w2.cell? ⟨b, 0, none⟩ = some (.pointer (some ⟨b, 0, none⟩)) := by rw [Lib.cell_of_heap hb2]; rfl
  have d1 : w2.cell? ⟨b, 1, none⟩ = some v := by rw [Lib.cell_of_heap hb2]; rfl
  have f1 : w2.frozen? ⟨b, 1, none⟩ = false := Lib.frozen_of_heap hb2 1
  obtain ⟨g, cap, rfl⟩ : ∃ g cap, v' = .slice (some ⟨g, 0, none⟩) (l.length + 1) cap := by
    rcases hown'.2 with ⟨_, h0⟩ | ⟨g, cap, cur, hv, _⟩
    · omega
    · exact ⟨g, cap, hv⟩
  go_wp2
  go_ret
  refine ⟨rfl, Or.inr ?_, ?_⟩
  · exact Lib.BuilderAt.put (T := 302) (e := 5) hB hb2 (bs' := l ++ [.int .u8 c]) (by simpa using hown') (by decide)
  · exact ((hb1.alloc (by have := hb1.size; omega) _).grown hgrow (by have := hb1.size; simp; omega) (fun k hk => (hown.lt k hk).1)).setCell (p := ⟨b, 1, none⟩) hB _
theorem writeString_any (B b : Nat) (l : List Value) (s : ByteArray) (w : World) (h : IsB B b l w) (hlen : l.length + s.size ≤ 140737488355328) (hBw : B ≤ w.heap.size) :
    Calls Tryz.prog 188 #[.pointer (some ⟨b, 0, none⟩), .string s] w fun e w' => e = .returned (.tuple #[.int .i64 s.size, .nilIface]) ∧ (IsB B b (l ++ Lib.strCells s) w' ∧ Below B w w') := by
  obtain ⟨i0, hi, hz0, hz1, hz2⟩ := info_parts info5
  go_enter Tryz.func188, Tryz.ntmps188
  go_wp2_with (go_at_call 222; refine (copyCheck_any B b l _ h).mono ?_)
  rintro e w1 ⟨rfl, h1, hb1⟩
  obtain ⟨hB, v, hbk, hown, hne⟩ := h1
  have c0 : w1.cell? ⟨b, 0, none⟩ = some (.pointer (some ⟨b, 0, none⟩)) := by rw [Lib.cell_of_heap hbk]; rfl
  have c1 : w1.cell? ⟨b, 1, none⟩ = some v := by rw [Lib.cell_of_heap hbk]; rfl
  go_wp2_with (at_builtin; refine Lib.wpList_append_own_string _ rfl _ _ 300 9 rfl B 5 i0 Tryz.underlying300 Tryz.underlying9 hi hz0 hz1 hz2 _ _ _ rfl hown s rfl ?c3 ?c4 ?c5 ?_)
  case c3 => unfold maxLen; omega
  case c4 => omega
  case c5 => have := hb1.size; omega
  intro v' w2 hown' hgrow _
  have hlt : b < w1.heap.size := by
    rcases Nat.lt_or_ge b w1.heap.size with h' | h'
    · exact h'
    · simp [Array.getElem?_eq_none h'] at hbk
  have hb2 : w2.heap[b]? = some (.cells #[.pointer (some ⟨b, 0, none⟩), v] 302 (0, 0)) := by
    rw [hgrow.block b hlt (fun e => hne e.symm)]
    exact hbk
  have d0 : w2.cell? ⟨b, 0, none⟩ = some (.pointer (some ⟨b, 0, none⟩)) := by rw [Lib.cell_of_heap hb2]; rfl
  have d1 : w2.cell? ⟨b, 1, none⟩ = some v := by rw [Lib.cell_of_heap hb2]; rfl
  have f1 : w2.frozen? ⟨b, 1, none⟩ = false := Lib.frozen_of_heap hb2 1
  obtain ⟨ao, n', cap, rfl⟩ : ∃ ao n' cap, v' = .slice ao n' cap := by
    rcases hown'.2 with ⟨hv, _⟩ | ⟨g, cap, cur, hv, _⟩
    · exact ⟨_, _, _, hv⟩
    · exact ⟨_, _, _, hv⟩
  go_wp2
  go_ret2
  refine ⟨rfl, Or.inr ?_, ?_⟩
  · exact Lib.BuilderAt.put (T := 302) (e := 5) hB hb2 (bs' := l ++ Lib.strCells s) (by simpa [Lib.strCells_length] using hown') (by decide)
  · exact (hb1.grown hgrow (by have := hb1.size; omega) (fun k hk => (hown.lt k hk).1)).setCell (p := ⟨b, 1, none⟩) hB _
end W
end Go.Proofs.YtellemlhhlafcaaGreatDoor
end
section
namespace Go.Proofs.YtellemlhhlafcaaGreatDoor
open Go Go.RowKit
namespace M
theorem chk_va {l : List UInt8} (h : (sz l).all isDig = false) : chk l = 3 := by
  unfold chk; rw [h]; split
  · rfl
  · simp
theorem chk_vb {l t : List UInt8} (h : sz l = 48 :: t) (h2 : l ≠ [48]) : chk l = 3 := by
  unfold chk
  rw [if_pos]
  refine Or.inr ⟨by rw [h]; rfl, ?_⟩
  rcases l with _ | ⟨c, _ | ⟨d, r⟩⟩
  · cases h
  · by_cases hc : c = 45
    · subst hc; cases h
    · rw [sz_plain _ hc] at h
      cases h; exact absurd rfl h2
  · right; simp
theorem chk_vc {l t : List UInt8} {c : UInt8} (h : sz l = c :: t) (hd : (sz l).all isDig = true) (h2 : c ≠ 48 ∨ l = [48]) : chk l = if 1024 < (sz l).length then 11 else 0 := by
  unfold chk
  rw [if_neg, if_neg (by rw [hd]; simp)]
  rintro (e | ⟨e, e'⟩)
  · rw [h] at e; cases e
  · rw [h] at e
    have e2 := Option.some.inj e
    rcases h2 with h2 | h2
    · exact h2 e2
    · subst h2
      simp [sz] at e'
def chkAll : List (List UInt8) → Nat
  | [] => 0
  | l :: r => if chk l = 0 then chkAll r else chk l
end M
def Strs (ls : List (List UInt8)) : List Value := ls.map fun l => .string (bs l)
namespace W
open M
attribute [local go_sem] bs_size bs_toList bs_get bs_extract bs_append bs_lit0 bs_lit1 lit1_bs
set_option maxHeartbeats 400000
set_option maxRecDepth 20000 in
theorem vcheck_any (l : List UInt8) (w : World) (hl : l.length ≤ 1000000000) :
    Calls Tryz.prog 95 #[.string (bs l)] w (Ret w (.int .i64 ((chk l : Nat) : Int))) := by
  have hsl := sz_len l
  have HT := Lib.hid (fun w' => trim_any (sz l) w' (by omega))
  have HP := Lib.hid (trimPrefix_minus l w)
  rcases hs : sz l with _ | ⟨c, t⟩
  · have hk : chk l = 3 := by unfold chk; rw [if_pos (Or.inl hs)]
    rw [hk]
    rw [hs] at HP
    clear hk hs HT
    go_enter Tryz.func95, Tryz.ntmps95
    go_wp2_with fail
    refine (HP.out).mono ?_
    rintro e w' ⟨rfl, rfl⟩
    go_wp2
    go_ret
    exact Ret.of rfl (Below.refl _ _)
  · have hne : (sz l == []) = false := by rw [hs]; rfl
    by_cases hd : (sz l).all isDig = true
    · have htn : Lib.trimS (sz l) digits = [] := (trim_digits _).2 hd
      rw [htn] at HT
      by_cases hb : c = 48 ∧ l ≠ [48]
      · obtain ⟨rfl, hb⟩ := hb
        have hk := chk_vb hs hb
        rw [hk]
        have hb2 : (l == [48]) = false := by simpa using hb
        rw [hs] at HP HT
        clear hk hs htn hd hb hne
        go_enter Tryz.func95, Tryz.ntmps95
        go_wp2_with fail
        refine (HP.out).mono ?_
        rintro e w' ⟨rfl, rfl⟩
        go_wp2_with fail
        refine (HT.out _).mono ?_
        rintro e w1 ⟨rfl, hb1⟩
        go_wp2
        go_ret
        exact Ret.of rfl hb1
      · have hk := chk_vc hs hd (by
          by_cases h : c = 48
          · right; exact Classical.byContradiction fun h2 => hb ⟨h, h2⟩
          · left; exact h)
        have hcase : (((c.toNat : Nat) : Int) == 48) = false ∨ (c = 48 ∧ l = [48]) := by
          by_cases h : c = 48
          · right; exact ⟨h, Classical.byContradiction fun h2 => hb ⟨h, h2⟩⟩
          · left; rw [b48]; simpa using h
        rw [hk]
        rw [hs] at HP HT hsl ⊢
        clear hk hs htn hd hb hne
        rcases hcase with hc | ⟨rfl, rfl⟩
        · by_cases hlen : 1024 < (c :: t).length
          · rw [if_pos hlen]
            simp only [List.length_cons] at hlen hsl
            go_enter Tryz.func95, Tryz.ntmps95
            go_wp2_with fail
            refine (HP.out).mono ?_
            rintro e w' ⟨rfl, rfl⟩
            go_wp2_with fail
            refine (HT.out _).mono ?_
            rintro e w1 ⟨rfl, hb1⟩
            go_wp2
            go_ret
            exact Ret.of rfl hb1
          · rw [if_neg hlen]
            simp only [List.length_cons] at hlen hsl
            go_enter Tryz.func95, Tryz.ntmps95
            go_wp2_with fail
            refine (HP.out).mono ?_
            rintro e w' ⟨rfl, rfl⟩
            go_wp2_with fail
            refine (HT.out _).mono ?_
            rintro e w1 ⟨rfl, hb1⟩
            go_wp2
            go_ret
            exact Ret.of rfl hb1
        · have ht : t = [] := by simpa using hsl
          subst ht
          rw [if_neg (by simp)]
          go_enter Tryz.func95, Tryz.ntmps95
          go_wp2_with fail
          refine (HP.out).mono ?_
          rintro e w' ⟨rfl, rfl⟩
          go_wp2_with fail
          refine (HT.out _).mono ?_
          rintro e w1 ⟨rfl, hb1⟩
          go_wp2
          go_ret
          exact Ret.of rfl hb1
    · have hk := chk_va (by simpa using hd : (sz l).all isDig = false)
      have htn : (Lib.trimS (sz l) digits == []) = false := by
        rw [beq_eq_false_iff_ne]; exact fun h => hd ((trim_digits _).1 h)
      have htn2 : ¬ Lib.trimS (sz l) digits = [] := fun h => hd ((trim_digits _).1 h)
      rw [hk]
      rw [hs] at HP HT
      rw [hs] at htn htn2
      have HTN := Lib.hid htn2
      generalize Lib.trimS (c :: t) digits = q at *
      obtain ⟨x, y, hq⟩ : ∃ x y, q = x :: y := by
        cases q with
        | nil => exact absurd rfl htn2
        | cons x y => exact ⟨x, y, rfl⟩
      subst hq
      clear hk hs htn hd hne htn2 HTN
      go_enter Tryz.func95, Tryz.ntmps95
      go_wp2_with fail
      refine (HP.out).mono ?_
      rintro e w' ⟨rfl, rfl⟩
      go_wp2_with fail
      refine (HT.out _).mono ?_
      rintro e w1 ⟨rfl, hb1⟩
      go_wp2
      go_ret
      exact Ret.of rfl hb1
theorem vall_any (ls : List (List UInt8)) (b off cap : Nat) (w : World) (hl : ∀ l ∈ ls, l.length ≤ 1000000000) (hn : ls.length ≤ 1000000000) (hb : b < w.heap.size)
    (hc : ∀ i (h : i < ls.length), w.cell? ⟨b, off + i, none⟩ = some (.string (bs ls[i]))) :
    Calls Tryz.prog 138 #[.slice (some ⟨b, off, none⟩) ls.length cap] w (Ret w (.int .i64 ((chkAll ls : Nat) : Int))) := by
  have HC := Lib.hid hc
  have HL := Lib.hid hl
  clear hc hl
  generalize hch : ((chkAll ls : Nat) : Int) = ch
  have HCH := Lib.hid hch
  clear hch
  go_enter Tryz.func138, Tryz.ntmps138
  go_wp2
  go_loopw [8] (fun iv wr => ∃ i : Nat, iv = .int .i64 (i : Int) ∧ i ≤ ls.length ∧ Hid (chkAll ls = chkAll (ls.drop i)) ∧ Below w.heap.size w wr) (fun iv _ => ls.length - (intOf iv).toNat)
  case atStart => exact ⟨0, rfl, by omega, (rfl : chkAll ls = chkAll (ls.drop 0)), Below.refl _ _⟩
  case round =>
    obtain ⟨i, rfl, hi, hk, hbw⟩ := hrel
    by_cases hlt : i < ls.length
    · have hcell : wr.cell? ⟨b, off + i, none⟩ = some (.string (bs ls[i])) := (hbw.cell (by exact hb)).trans (HC.out i hlt)
      have hll := HL.out ls[i] (List.getElem_mem hlt)
      have hk2 := hk.out
      rw [List.drop_eq_getElem_cons hlt, chkAll] at hk2
      by_cases h0 : chk ls[i] = 0
      · rw [if_pos h0] at hk2
        have HK := Lib.hid hk2
        have hv := vcheck_any ls[i]
        rw [h0] at hv
        have HV := Lib.hid hv
        clear hk hk2 hv h0
        go_wp2_with fail
        refine (HV.out _ hll).mono ?_
        rintro e w1 ⟨rfl, hb1⟩
        go_wp2
        go_roundw
        case rel => exact ⟨i + 1, by go_num, by omega, HK, hbw.trans (hb1.mono hbw.size)⟩
        case measure => simp [intOf]; omega
      · rw [if_neg h0] at hk2
        have HK := Lib.hid hk2
        have hv := vcheck_any ls[i]
        have hz : ((((chk ls[i] : Nat)) : Int) == 0) = false := by simp; exact h0
        generalize chk ls[i] = q at *
        have HV := Lib.hid hv
        clear hk hk2 hv h0
        go_wp2_with fail
        refine (HV.out _ hll).mono ?_
        rintro e w1 ⟨rfl, hb1⟩
        go_wp2
        go_ret
        exact Ret.of (by rw [← HCH.out, HK.out]; rfl) (hbw.trans (hb1.mono hbw.size))
    · obtain rfl : i = ls.length := by omega
      have hk2 := hk.out
      rw [List.drop_length] at hk2
      have HK := Lib.hid hk2
      clear hk hk2
      go_wp2
      go_ret
      exact Ret.of (by rw [← HCH.out, HK.out]; rfl) hbw
theorem vall_two (x y : List UInt8) (w : World) (hx : x.length ≤ 1000000000) (hy : y.length ≤ 1000000000) :
    Calls Tryz.prog 138 #[.slice (some ⟨w.heap.size, 0, none⟩) 2 2] (w.alloc (.cells #[.string (bs x), .string (bs y)] 185)) (Ret (w.alloc (.cells #[.string (bs x), .string (bs y)] 185)) (.int .i64 ((chkAll [x, y] : Nat) : Int))) := by
  have hr := Row.new w 185 (Strs [x, y])
  refine vall_any [x, y] w.heap.size 0 2 _ (fun l hl => ?_) (by simp) (by simp) (fun i hi => ?_)
  · simp at hl; rcases hl with rfl | rfl <;> assumption
  · rw [Nat.zero_add]
    match i, hi with
    | 0, _ => exact hr.cell rfl
    | 1, _ => exact hr.cell rfl
end W
end Go.Proofs.YtellemlhhlafcaaGreatDoor
end
section
namespace Go.Proofs.YtellemlhhlafcaaGreatDoor
open Go Go.RowKit
namespace M
theorem chk_I0 {z : Int} (h : z.natAbs < lim) : chk (I z) = 0 := by rw [chk_I, if_pos h]
theorem chkAll_two {x y : Int} (hx : x.natAbs < lim) (hy : y.natAbs < lim) : chkAll [I x, I y] = 0 := by
  simp only [chkAll, chk_I0 hx, chk_I0 hy, if_true]
theorem sign_cases (z : Int) : (z < 0 ∧ Int.sign z = -1) ∨ (z = 0 ∧ Int.sign z = 0) ∨ (0 < z ∧ Int.sign z = 1) := by
  rcases Int.lt_trichotomy z 0 with h | h | h
  · exact Or.inl ⟨h, Int.sign_eq_neg_one_of_neg h⟩
  · exact Or.inr (Or.inl ⟨h, by rw [h]; rfl⟩)
  · exact Or.inr (Or.inr ⟨h, Int.sign_eq_one_of_pos h⟩)
abbrev Ok (z : Int) : Prop := z.natAbs < lim
theorem Ok.len {z : Int} (h : Ok z) : (I z).length ≤ 1025 := by have h1 := lt_lim.2 h; have h2 := I_len_D z; omega
theorem Ok.dlen {z : Int} (h : Ok z) : (D z.natAbs).length ≤ 1024 := lt_lim.2 h
end M
namespace W
open M
attribute [local go_sem] bs_size bs_toList bs_get bs_extract bs_append bs_lit0 bs_lit1 lit1_bs
set_option maxHeartbeats 400000
set_option maxRecDepth 20000
theorem vsign_I (z : Int) (w : World) :
    Calls Tryz.prog 139 #[.string (bs (I z))] w fun e w' => e = .returned (.int .i64 (Int.sign z)) ∧ w = w' := by
  obtain ⟨c, t, e, h⟩ := I_cons z
  have h2 : ((c.toNat : Int) == 45) = decide (z < 0) := by rw [b45]; exact h
  have hz : (I z == [48]) = decide (z = 0) := by rw [Bool.eq_iff_iff]; simp [I_eq_zero]
  rw [e] at hz ⊢
  clear e h
  rcases sign_cases z with ⟨h, hs⟩ | ⟨h, hs⟩ | ⟨h, hs⟩
  · rw [hs]
    rw [decide_eq_false (by omega : ¬ z = 0)] at hz
    rw [decide_eq_true h] at h2
    clear hs h
    go_enter Tryz.func139, Tryz.ntmps139
    go_wp2
    go_ret
    exact ⟨rfl, rfl⟩
  · rw [hs]
    rw [decide_eq_true h] at hz
    rw [decide_eq_false (by omega : ¬ z < 0)] at h2
    clear hs h
    go_enter Tryz.func139, Tryz.ntmps139
    go_wp2
    go_ret
    exact ⟨rfl, rfl⟩
  · rw [hs]
    rw [decide_eq_false (by omega : ¬ z = 0)] at hz
    rw [decide_eq_false (by omega : ¬ z < 0)] at h2
    clear hs h
    go_enter Tryz.func139, Tryz.ntmps139
    go_wp2
    go_ret
    exact ⟨rfl, rfl⟩
theorem compare_digs (a b : List UInt8) (w : World) (ha : Digs a) (hb : Digs b) (h : a.length = b.length) :
    Calls Tryz.prog 181 #[.string (bs a), .string (bs b)] w fun e w' => e = .returned (.int .i64 (Int.sign ((val a : Int) - (val b : Int)))) ∧ w = w' := by
  refine (Tryz.strings_Compare (bs a) (bs b) w).mono ?_
  rintro e w' ⟨rfl, rfl⟩
  rw [bs_dl, bs_dl, cmp_digs ha hb h]
  refine ⟨ret_int ?_, rfl⟩
  rcases sign_cases ((val a : Int) - (val b : Int)) with ⟨h, hs⟩ | ⟨h, hs⟩ | ⟨h, hs⟩
  · rw [hs, if_pos (by omega)]
  · rw [hs, if_neg (by omega), if_neg (by omega)]
  · rw [hs, if_neg (by omega), if_pos (by omega)]
theorem order_D (a b : Nat) (w : World) (_ha : (D a).length ≤ 1000000) (_hb : (D b).length ≤ 1000000) :
    Calls Tryz.prog 140 #[.string (bs (D a)), .string (bs (D b))] w fun e w' => e = .returned (.int .i64 (Int.sign ((a : Int) - (b : Int)))) ∧ w = w' := by
  rcases Nat.lt_trichotomy (D a).length (D b).length with h | h | h
  · have := D_len_lt h
    rw [Int.sign_eq_neg_one_of_neg (by omega)]
    have e1 : (((D a).length : Int) == ((D b).length : Int)) = false := by simp; omega
    have e2 : (((D a).length : Int) != ((D b).length : Int)) = true := by simp; omega
    go_enter Tryz.func140, Tryz.ntmps140
    go_wp2
    go_ret
    exact ⟨rfl, rfl⟩
  · have e1 : (((D a).length : Int) == ((D b).length : Int)) = true := by simp; omega
    have e2 : (((D a).length : Int) != ((D b).length : Int)) = false := by simp; omega
    have hc := fun w' => compare_digs (D a) (D b) w' (D_digs a) (D_digs b) h
    rw [D_val, D_val] at hc
    have HC := Lib.hid hc
    clear hc h
    go_enter Tryz.func140, Tryz.ntmps140
    go_wp2_with fail
    refine (HC.out _).mono ?_
    rintro e w' ⟨rfl, rfl⟩
    go_wp2
    go_ret
    exact ⟨rfl, rfl⟩
  · have := D_len_lt h
    rw [Int.sign_eq_one_of_pos (by omega)]
    have e1 : (((D a).length : Int) == ((D b).length : Int)) = false := by simp; omega
    have e2 : (((D a).length : Int) != ((D b).length : Int)) = true := by simp; omega
    go_enter Tryz.func140, Tryz.ntmps140
    go_wp2
    go_ret
    exact ⟨rfl, rfl⟩
theorem vof_any (n : Int) (w : World) (hg : Glob w) (h0 : -9223372036854775808 ≤ n) (h1 : n ≤ 9223372036854775807) :
    Calls Tryz.prog 131 #[.int .i64 n] w (Ret w (.string (bs (I n)))) := by
  go_enter Tryz.func131, Tryz.ntmps131
  go_wp2_with fail
  refine (itoa_any n _ hg h0 h1).mono ?_
  rintro e w1 ⟨rfl, hb1⟩
  go_wp2
  go_ret
  exact Ret.of rfl hb1
theorem opposite_I (z : Int) (w : World) (hl : (I z).length ≤ 1000000) :
    Calls Tryz.prog 160 #[.string (bs (I z))] w fun e w' => e = .returned (.string (bs (I (-z)))) ∧ w = w' := by
  have HS := Lib.hid (vsign_I z)
  rcases sign_cases z with ⟨h, hs⟩ | ⟨h, hs⟩ | ⟨h, hs⟩
  · rw [hs] at HS
    have e1 : I z = 45 :: D z.natAbs := I_of_lt h
    have e2 : I (-z) = D z.natAbs := by rw [I_of_ge (by omega), Int.natAbs_neg]
    rw [e1] at HS hl ⊢
    rw [e2]
    simp only [List.length_cons] at hl
    clear e1 e2 hs
    go_enter Tryz.func160, Tryz.ntmps160
    go_wp2_with fail
    refine (HS.out _).mono ?_
    rintro e w' ⟨rfl, rfl⟩
    go_wp2
    go_ret
    exact ⟨by simp, rfl⟩
  · subst h
    rw [hs] at HS
    clear hs
    go_enter Tryz.func160, Tryz.ntmps160
    go_wp2_with fail
    refine (HS.out _).mono ?_
    rintro e w' ⟨rfl, rfl⟩
    go_wp2
    go_ret
    exact ⟨rfl, rfl⟩
  · rw [hs] at HS
    have e1 : I (-z) = 45 :: I z := by rw [I_of_lt (by omega), Int.natAbs_neg, I_of_ge (by omega)]
    rw [e1]
    clear e1 hs
    go_enter Tryz.func160, Tryz.ntmps160
    go_wp2_with fail
    refine (HS.out _).mono ?_
    rintro e w' ⟨rfl, rfl⟩
    go_wp2
    go_ret
    exact ⟨rfl, rfl⟩
structure CmpC (x y sx sy : Int) : Prop where
  all : ∀ w : World, Calls Tryz.prog 138 #[.slice (some ⟨w.heap.size, 0, none⟩) 2 2] (w.alloc (.cells #[.string (bs (I x)), .string (bs (I y))] 185)) (Ret (w.alloc (.cells #[.string (bs (I x)), .string (bs (I y))] 185)) (.int .i64 0))
  sx : ∀ w, Calls Tryz.prog 139 #[.string (bs (I x))] w fun e w' => e = .returned (.int .i64 sx) ∧ w = w'
  sy : ∀ w, Calls Tryz.prog 139 #[.string (bs (I y))] w fun e w' => e = .returned (.int .i64 sy) ∧ w = w'
theorem CmpC.of {x y : Int} (hx : Ok x) (hy : Ok y) : CmpC x y (Int.sign x) (Int.sign y) := by
  have lx := hx.len
  have ly := hy.len
  have ha := fun w' => vall_two (I x) (I y) w' (by omega) (by omega)
  rw [chkAll_two hx hy] at ha
  exact ⟨ha, vsign_I x, vsign_I y⟩
theorem alloc_then {w w1 : World} {o : Obj} (h : Below (w.alloc o).heap.size (w.alloc o) w1) : Below w.heap.size w w1 :=
  ((RowKit.Below.refl _ _).alloc (Nat.le_refl _) _).trans (h.mono (by simp))
theorem cmp_lt (x y sx sy : Int) (w : World) (H : Hid (CmpC x y sx sy)) (h : sx < sy) :
    Calls Tryz.prog 96 #[.string (bs (I x)), .string (bs (I y))] w (Ret w (.tuple #[.int .i64 (-1), .int .i64 0])) := by
  go_enter Tryz.func96, Tryz.ntmps96
  go_wp2_with fail
  refine (H.out.all _).mono ?_
  rintro e w1 ⟨rfl, hb1⟩
  go_wp2_with fail
  refine (H.out.sx _).mono ?_
  rintro e w' ⟨rfl, rfl⟩
  go_wp2_with fail
  refine (H.out.sy _).mono ?_
  rintro e w' ⟨rfl, rfl⟩
  go_wp2
  go_ret2
  exact Ret.of rfl (alloc_then hb1)
theorem cmp_gt (x y sx sy : Int) (w : World) (H : Hid (CmpC x y sx sy)) (h : sy < sx) :
    Calls Tryz.prog 96 #[.string (bs (I x)), .string (bs (I y))] w (Ret w (.tuple #[.int .i64 1, .int .i64 0])) := by
  go_enter Tryz.func96, Tryz.ntmps96
  go_wp2_with fail
  refine (H.out.all _).mono ?_
  rintro e w1 ⟨rfl, hb1⟩
  go_wp2_with fail
  refine (H.out.sx _).mono ?_
  rintro e w' ⟨rfl, rfl⟩
  go_wp2_with fail
  refine (H.out.sy _).mono ?_
  rintro e w' ⟨rfl, rfl⟩
  go_wp2_with fail
  refine (H.out.sy _).mono ?_
  rintro e w' ⟨rfl, rfl⟩
  go_wp2
  go_ret2
  exact Ret.of rfl (alloc_then hb1)
theorem cmp_eq (x y s o : Int) (w : World) (H : Hid (CmpC x y s s)) (h : s = -1 ∨ s = 0 ∨ s = 1)
    (HPX : Hid (∀ w, Calls Tryz.prog 136 #[.string (bs (I x)), .string ⟨#[45]⟩] w fun e w' => e = .returned (.string (bs (D x.natAbs))) ∧ w = w'))
    (HPY : Hid (∀ w, Calls Tryz.prog 136 #[.string (bs (I y)), .string ⟨#[45]⟩] w fun e w' => e = .returned (.string (bs (D y.natAbs))) ∧ w = w'))
    (HO : Hid (∀ w, Calls Tryz.prog 140 #[.string (bs (D x.natAbs)), .string (bs (D y.natAbs))] w fun e w' => e = .returned (.int .i64 o) ∧ w = w')) (ho : -1 ≤ o ∧ o ≤ 1) :
    Calls Tryz.prog 96 #[.string (bs (I x)), .string (bs (I y))] w (Ret w (.tuple #[.int .i64 (s * o), .int .i64 0])) := by
  have h3 : -1 ≤ s * o ∧ s * o ≤ 1 := by rcases h with rfl | rfl | rfl <;> omega
  have hs : -1 ≤ s ∧ s ≤ 1 := by omega
  clear h
  go_enter Tryz.func96, Tryz.ntmps96
  go_wp2_with fail
  refine (H.out.all _).mono ?_
  rintro e w1 ⟨rfl, hb1⟩
  go_wp2_with fail
  refine (H.out.sx _).mono ?_
  rintro e w' ⟨rfl, rfl⟩
  go_wp2_with fail
  refine (H.out.sy _).mono ?_
  rintro e w' ⟨rfl, rfl⟩
  go_wp2_with fail
  refine (H.out.sy _).mono ?_
  rintro e w' ⟨rfl, rfl⟩
  go_wp2_with fail
  refine (HPX.out _).mono ?_
  rintro e w' ⟨rfl, rfl⟩
  go_wp2_with fail
  refine (HPY.out _).mono ?_
  rintro e w' ⟨rfl, rfl⟩
  go_wp2_with fail
  refine (HO.out _).mono ?_
  rintro e w' ⟨rfl, rfl⟩
  go_wp2
  go_ret2
  exact Ret.of rfl (alloc_then hb1)
theorem sign_bd (z : Int) : -1 ≤ Int.sign z ∧ Int.sign z ≤ 1 := by rcases sign_cases z with ⟨_, h⟩ | ⟨_, h⟩ | ⟨_, h⟩ <;> omega
theorem vcompare_I (x y : Int) (w : World) (hx : Ok x) (hy : Ok y) :
    Calls Tryz.prog 96 #[.string (bs (I x)), .string (bs (I y))] w (Ret w (.tuple #[.int .i64 (Int.sign (x - y)), .int .i64 0])) := by
  have H := CmpC.of hx hy
  have dx := hx.dlen
  have dy := hy.dlen
  have hpx := trimPrefix_minus (I x)
  have hpy := trimPrefix_minus (I y)
  rw [sz_I] at hpx hpy
  have HO := fun w' => order_D x.natAbs y.natAbs w' (by omega) (by omega)
  rcases Int.lt_trichotomy (Int.sign x) (Int.sign y) with h | h | h
  · rw [show Int.sign (x - y) = -1 from Int.sign_eq_neg_one_of_neg (by rcases sign_cases x with ⟨_, h1⟩ | ⟨_, h1⟩ | ⟨_, h1⟩ <;> rcases sign_cases y with ⟨_, h2⟩ | ⟨_, h2⟩ | ⟨_, h2⟩ <;> omega)]
    exact cmp_lt x y _ _ w H h
  · have e : Int.sign (x - y) = Int.sign x * Int.sign ((x.natAbs : Int) - (y.natAbs : Int)) := by
      rcases sign_cases x with ⟨h0, h1⟩ | ⟨h0, h1⟩ | ⟨h0, h1⟩
      · have h2 : y < 0 := by rcases sign_cases y with ⟨_, h2⟩ | ⟨_, h2⟩ | ⟨_, h2⟩ <;> omega
        rw [h1, show (x.natAbs : Int) - (y.natAbs : Int) = -(x - y) by omega, Int.sign_neg]; omega
      · have h2 : y = 0 := by rcases sign_cases y with ⟨_, h2⟩ | ⟨_, h2⟩ | ⟨_, h2⟩ <;> omega
        subst h0 h2; rfl
      · have h2 : 0 < y := by rcases sign_cases y with ⟨_, h2⟩ | ⟨_, h2⟩ | ⟨_, h2⟩ <;> omega
        rw [h1, show (x.natAbs : Int) - (y.natAbs : Int) = x - y by omega]; omega
    rw [e]
    rw [← h] at H
    exact cmp_eq x y _ _ w H (by rcases sign_cases x with ⟨_, h1⟩ | ⟨_, h1⟩ | ⟨_, h1⟩ <;> omega) hpx hpy HO (sign_bd _)
  · rw [show Int.sign (x - y) = 1 from Int.sign_eq_one_of_pos (by rcases sign_cases x with ⟨_, h1⟩ | ⟨_, h1⟩ | ⟨_, h1⟩ <;> rcases sign_cases y with ⟨_, h2⟩ | ⟨_, h2⟩ | ⟨_, h2⟩ <;> omega)]
    exact cmp_gt x y _ _ w H h
end W
end Go.Proofs.YtellemlhhlafcaaGreatDoor
end
section
namespace Go.Proofs.YtellemlhhlafcaaGreatDoor
open Go Go.RowKit Go.Deep
structure Only (b : Nat) (w w' : World) : Prop where
  os : w'.os = w.os
  tape : w'.tape = w.tape
  output : w'.output = w.output
  size : w.heap.size ≤ w'.heap.size
  block : ∀ k, k < w.heap.size → k ≠ b → w'.heap[k]? = w.heap[k]?
theorem Only.refl (b : Nat) (w : World) : Only b w w := ⟨rfl, rfl, rfl, Nat.le_refl _, fun _ _ _ => rfl⟩
theorem Only.trans {b : Nat} {a c d : World} (h : Only b a c) (k : Only b c d) : Only b a d :=
  ⟨k.os.trans h.os, k.tape.trans h.tape, k.output.trans h.output, Nat.le_trans h.size k.size, fun i hi hb => (k.block i (by have := h.size; omega) hb).trans (h.block i hi hb)⟩
theorem Only.of {b : Nat} {a c : World} (h : Below a.heap.size a c) : Only b a c := ⟨h.os, h.tape, h.output, h.size, fun k hk _ => h.block k hk⟩
theorem Only.drewN {b : Nat} {a c : World} (h : Only b a c) (n : Nat) : Only b a (c.drewN n) := ⟨h.os, h.tape, h.output, h.size, h.block⟩
theorem Only.setCell {b : Nat} {a c : World} (h : Only b a c) (o : Nat) (v : Value) : Only b a (c.setCell ⟨b, o, none⟩ v) :=
  ⟨h.os, h.tape, h.output, by simpa [World.setCell] using h.size, fun k hk hb => by rw [Below.heap_setCell _ _ _ _ hb]; exact h.block k hk hb⟩
theorem Only.row {b k : Nat} {w w' : World} {t : TypeId} {xs : List Value} (h : Only b w w') (hr : Row w k t xs) (hk : k ≠ b) : Row w' k t xs := by
  have := hr.lt
  unfold Row at *; rw [h.block k this hk]; exact hr
theorem Only.below {b B : Nat} {w w' : World} (h : Only b w w') (hB : B ≤ b) (hw : B ≤ w.heap.size) : Below B w w' :=
  ⟨h.os, h.tape, h.output, h.size, fun k hk => h.block k (by omega) (by omega)⟩
def wcells (neg : Bool) (n : Nat) (ws : List Nat) : List Value := .bool neg :: .int .i64 (n : Int) :: I64 ws
structure WideR (w : World) (b : Nat) (neg : Bool) (n : Nat) (ws : List Nat) : Prop where
  row : Row w b 248 (wcells neg n ws)
  len : ws.length = 232
  small : M.Small ws
  zero : M.ZeroFrom ws n
  le : n ≤ 232
def Wide (w : World) (b : Nat) (neg : Bool) (m : Nat) : Prop := ∃ ws, M.wv ws = m ∧ WideR w b neg (M.nw m) ws
theorem wc_less (neg : Bool) (n : Nat) (ws : List Nat) : (wcells neg n ws)[0]? = some (.bool neg) := rfl
theorem wc_n (neg : Bool) (n : Nat) (ws : List Nat) : (wcells neg n ws)[1]? = some (.int .i64 (n : Int)) := rfl
theorem wc_w (neg : Bool) (n : Nat) (ws : List Nat) (i : Nat) (h : i < ws.length) : (wcells neg n ws)[2 + i]? = some (.int .i64 (ws[i] : Int)) := by
  rw [Nat.add_comm 2 i]
  show (I64 ws)[i]? = _; exact I64_get ws i h
theorem wc_setn (neg : Bool) (n k : Nat) (ws : List Nat) : (wcells neg n ws).set 1 (.int .i64 (k : Int)) = wcells neg k ws := rfl
theorem wc_setw (neg : Bool) (n i c : Nat) (ws : List Nat) : (wcells neg n ws).set (2 + i) (.int .i64 (c : Int)) = wcells neg n (ws.set i c) := by
  rw [Nat.add_comm 2 i]
  show _ :: _ :: (I64 ws).set i _ = _
  rw [I64_set]; rfl
theorem wc_sets (neg k : Bool) (n : Nat) (ws : List Nat) : (wcells neg n ws).set 0 (.bool k) = wcells k n ws := rfl
theorem WideR.nw_le {w : World} {b : Nat} {neg : Bool} {n : Nat} {ws : List Nat} (h : WideR w b neg n ws) : M.nw (M.wv ws) ≤ n := M.nw_le.2 (h.zero.wv h.small)
theorem WideR.move {w w' : World} {b : Nat} {neg : Bool} {n : Nat} {ws : List Nat} (h : WideR w b neg n ws) (hr : Row w' b 248 (wcells neg n ws)) : WideR w' b neg n ws := ⟨hr, h.len, h.small, h.zero, h.le⟩
theorem Wide.only {w w' : World} {b c : Nat} {neg : Bool} {m : Nat} (h : Wide w b neg m) (ho : Only c w w') (hb : b ≠ c) : Wide w' b neg m := by
  obtain ⟨ws, h1, h2⟩ := h
  exact ⟨ws, h1, h2.move (ho.row h2.row hb)⟩
theorem Wide.lt {w : World} {b : Nat} {neg : Bool} {m : Nat} (h : Wide w b neg m) : b < w.heap.size := by obtain ⟨ws, _, h2⟩ := h; exact h2.row.lt
theorem Wide.below {w w' : World} {b : Nat} {neg : Bool} {m : Nat} (h : Wide w b neg m) (ho : Below w.heap.size w w') : Wide w' b neg m := by
  obtain ⟨ws, h1, h2⟩ := h
  exact ⟨ws, h1, h2.move (h2.row.below' ho)⟩
theorem Wide.bound {w : World} {b : Nat} {neg : Bool} {m : Nat} (h : Wide w b neg m) : m < M.BB ^ 232 := by
  obtain ⟨ws, h1, h2⟩ := h
  rw [← h1, ← h2.len]; exact M.wv_lt h2.small
namespace W
open M
attribute [local go_sem] bs_size bs_toList bs_get bs_extract bs_append bs_lit0 bs_lit1 lit1_bs
set_option maxHeartbeats 400000
set_option maxRecDepth 20000
theorem trimmed_any (b : Nat) (neg : Bool) (n : Nat) (ws : List Nat) (w : World) (h : WideR w b neg n ws) :
    Calls Tryz.prog 183 #[.pointer (some ⟨b, 0, none⟩)] w fun e w' => e = .returned (.pointer (some ⟨b, 0, none⟩)) ∧ Wide w' b neg (wv ws) ∧ Only b w w' := by
  have H := Lib.hid h
  clear h
  go_enter Tryz.func183, Tryz.ntmps183
  go_wp2
  go_loopg [] n (fun k wr => WideR wr b neg k ws ∧ Only b w wr)
  case atStart => exact ⟨H.out, Only.refl _ _⟩
  case round =>
    obtain ⟨hr, ho⟩ := hrel
    have c1 := hr.row.cell (wc_n neg gk ws)
    have hle := hr.le
    rcases gk with _ | m
    · have h0 : nw (wv ws) = 0 := by have := hr.nw_le; omega
      go_wp2
      go_quiet (fail)
      go_wp2
      go_ret
      exact ⟨rfl, ⟨ws, rfl, by rw [h0]; exact hr.move (hr.row.drewN _)⟩, ho.drewN _⟩
    · have hm : m < ws.length := by rw [hr.len]; omega
      have c2 := hr.row.cell (wc_w neg (m + 1) ws m hm)
      have e1 : ((m + 1 : Nat) : Int) = (m : Int) + 1 := by omega
      rw [e1] at c1
      have f1 := hr.row.free 1
      have i0 : (m : Int) < 232 := by omega
      have i1 : (0 : Int) ≤ (m : Int) := by omega
      have i2 : (0 : Int) < (m : Int) + 1 := by omega
      have w1 : IntKind.i64.wrap (m : Int) = (m : Int) := IntWalk.i64_in _ (by omega)
      have w2 : IntKind.i64.wrap ((m : Int) + 1 - 1) = (m : Int) := by rw [show (m : Int) + 1 - 1 = (m : Int) by omega]; exact w1
      by_cases hz : ws[m] = 0
      · have hzf : ZeroFrom ws m := by
          intro i hi hn
          by_cases him : i = m
          · subst him; exact hz
          · exact hr.zero i hi (by omega)
        have hr2 := (hr.row.set 1 (.int .i64 (m : Int)))
        rw [wc_setn] at hr2
        have hlen := Lib.hid hr.len
        have hsm := hr.small
        rw [hz] at c2
        clear e1 hz hr
        go_wp2
        go_quiet (fail)
        clear w1 w2
        go_wp2
        go_roundg m
        case measure => omega
        case rel => exact ⟨⟨hr2, hlen.out, hsm, hzf, by omega⟩, (ho.setCell 1 _).drewN _⟩
      · have hn := nw_top hr.small hm hr.zero hz
        have hb1 : ((ws[m] : Int) == 0) = false := by simpa using hz
        have HR := Lib.hid hr
        clear e1 hz hr
        go_wp2
        go_quiet (fail)
        clear w1 w2
        go_wp2
        go_ret
        exact ⟨rfl, ⟨ws, rfl, by rw [hn]; exact HR.out.move (HR.out.row.drewN _)⟩, ho.drewN _⟩
end W
end Go.Proofs.YtellemlhhlafcaaGreatDoor
end
section
namespace Go.Proofs.YtellemlhhlafcaaGreatDoor
open Go Go.RowKit Go.Deep
namespace M
def CarE (X : Nat) (f : Int) (yws : List Nat) (up i : Nat) (ws : List Nat) (r : Int) : Prop :=
  (wv ws : Int) + r * (BB : Int) ^ (i + up) = (X : Int) + f * (wv (yws.take i) : Int) * (BB : Int) ^ up
theorem tdiv_split (s : Int) : -1000000000 < s - s.tdiv 1000000000 * 1000000000 ∧ s - s.tdiv 1000000000 * 1000000000 < 1000000000 := by
  obtain ⟨h1, _, h3⟩ := tmod_facts s 1000000000 (by decide)
  omega
theorem CarE.step {X : Nat} {f : Int} {yws : List Nat} {up i : Nat} {ws : List Nat} {r : Int} (h : CarE X f yws up i ws r) (hi : i + up < ws.length) (p s q : Int)
    (hp : f * (wv (yws.take (i + 1)) : Int) = f * (wv (yws.take i) : Int) + p * (BB : Int) ^ i) (hs : (ws[i + up] : Int) + r + p = q * (BB : Int) + s) (h0 : 0 ≤ s) :
    CarE X f yws up (i + 1) (ws.set (i + up) s.toNat) q := by
  unfold CarE at *
  have h1 := wv_set ws (i + up) s.toNat hi
  have h2 : (wv (ws.set (i + up) s.toNat) : Int) + (ws[i + up] : Int) * (BB : Int) ^ (i + up) = (wv ws : Int) + s * (BB : Int) ^ (i + up) := by
    have := congrArg (fun n : Nat => (n : Int)) h1
    simp only [Int.natCast_add, Int.natCast_mul, Int.natCast_pow] at this
    rw [show ((s.toNat : Nat) : Int) = s by omega] at this
    exact this
  rw [hp, Int.add_mul, ← Int.add_assoc, ← h, Int.mul_assoc, ← Int.pow_add, show i + 1 + up = (i + up) + 1 by omega, Int.pow_succ]
  generalize (BB : Int) ^ (i + up) = z at *
  generalize (wv (ws.set (i + up) s.toNat) : Int) = a at *
  generalize (wv ws : Int) = b at *
  have h3 : (((ws[i + up] : Nat) : Int) + r + p) * z = (q * (BB : Int) + s) * z := by rw [hs]
  simp only [Int.add_mul] at h3
  rw [show q * (z * (BB : Int)) = q * (BB : Int) * z by rw [Int.mul_assoc, Int.mul_comm z]]
  omega
theorem pow_cast (k : Nat) : (BB : Int) ^ k = ((BB ^ k : Nat) : Int) := by rw [Int.natCast_pow]
theorem CarE.last {X : Nat} {f : Int} {yws : List Nat} {up i : Nat} {ws : List Nat} {r : Int} {T Y : Nat} (h : CarE X f yws up i ws r) (hT : (X : Int) + f * (Y : Int) * (BB : Int) ^ up = (T : Int))
    (hY : wv (yws.take i) = Y) (hs : Small ws) (hl : ws.length = i + up) (hT2 : T < BB ^ (i + up)) : r = 0 := by
  unfold CarE at h
  rw [hY, hT, pow_cast] at h
  have h1 := wv_lt hs
  rw [hl] at h1
  generalize BB ^ (i + up) = z at *
  rcases Int.lt_trichotomy r 0 with h2 | h2 | h2
  · have : r * (z : Int) ≤ -1 * (z : Int) := Int.mul_le_mul_of_nonneg_right (by omega) (by omega)
    omega
  · exact h2
  · have : 1 * (z : Int) ≤ r * (z : Int) := Int.mul_le_mul_of_nonneg_right (by omega) (by omega)
    omega
theorem CarE.done {X : Nat} {f : Int} {yws : List Nat} {up i : Nat} {ws : List Nat} {T Y : Nat} (h : CarE X f yws up i ws 0) (hT : (X : Int) + f * (Y : Int) * (BB : Int) ^ up = (T : Int)) (hY : wv (yws.take i) = Y) : wv ws = T := by
  unfold CarE at h
  rw [hY, hT] at h
  omega
theorem take_all {l : List Nat} {n : Nat} (hz : ZeroFrom l n) (i : Nat) (hi : n ≤ i) : wv (l.take i) = wv l := by
  have e : l = l.take i ++ l.drop i := (List.take_append_drop i l).symm
  have hd : l.drop i = List.replicate (l.length - i) 0 := by
    apply List.ext_getElem
    · simp
    · intro j h1 h2
      rw [List.getElem_drop, List.getElem_replicate]
      exact hz (i + j) (by simp at h1; omega) (by omega)
  have h2 : wv l = wv (l.take i) + BB ^ (l.take i).length * wv (l.drop i) := by rw [← wv_append, ← e]
  rw [hd, wv_zeros, Nat.mul_zero, Nat.add_zero] at h2
  exact h2.symm
theorem mul_bound {f : Int} {y : Nat} (hf : -1000000000 < f ∧ f < 1000000000) (hy : y < 1000000000) : -1000000000000000000 ≤ f * (y : Int) ∧ f * (y : Int) ≤ 1000000000000000000 := by
  have h1 := Int.natAbs_mul f (y : Int)
  have h2 : f.natAbs * (y : Int).natAbs ≤ 1000000000 * 1000000000 := Nat.mul_le_mul (by omega) (by omega)
  omega
theorem take_next (f : Int) (l : List Nat) (i : Nat) (h : i < l.length) : f * (wv (l.take (i + 1)) : Int) = f * (wv (l.take i) : Int) + f * (l[i] : Int) * (BB : Int) ^ i := by
  rw [wv_take l i h, Int.natCast_add, Int.natCast_mul, Int.natCast_pow, Int.mul_add, Int.mul_assoc]
end M
theorem WideR.put {w : World} {b : Nat} {neg : Bool} {n : Nat} {ws : List Nat} (h : WideR w b neg n ws) (j : Nat) (hj : j < 232) (v mx : Int) (hv : 0 ≤ v ∧ v < 1000000000) (hm : mx = ((max n (j + 1) : Nat) : Int)) :
    WideR ((w.setCell ⟨b, 2 + j, none⟩ (.int .i64 v)).setCell ⟨b, 1, none⟩ (.int .i64 mx)) b neg (max n (j + 1)) (ws.set j v.toNat) := by
  have h1 := h.row.set (2 + j) (.int .i64 v)
  rw [show v = ((v.toNat : Nat) : Int) by omega, wc_setw] at h1
  have h2 := h1.set 1 (.int .i64 mx)
  rw [hm, wc_setn] at h2
  refine ⟨?_, by rw [List.length_set]; exact h.len, h.small.set j _ (by simp only [M.BB]; omega), ?_, by have := h.le; omega⟩
  · rw [show (Value.int IntKind.i64 v) = Value.int IntKind.i64 ((v.toNat : Nat) : Int) by congr 1; omega, hm]
    exact h2
  · exact (h.zero.mono (Nat.le_max_left _ _)).set (by omega)
theorem Only.put {b : Nat} {a c : World} (h : Only b a c) (i j : Nat) (u v : Value) : Only b a ((c.setCell ⟨b, i, none⟩ u).setCell ⟨b, j, none⟩ v) := (h.setCell i u).setCell j v
namespace W
open M
attribute [local go_sem] bs_size bs_toList bs_get bs_extract bs_append bs_lit0 bs_lit1 lit1_bs
set_option maxHeartbeats 1000000
set_option maxRecDepth 20000
theorem carry_any (bx by_ : Nat) (nx ny : Bool) (X Y T : Nat) (f : Int) (up : Nat) (w : World) (hne : by_ ≠ bx) (hx : Wide w bx nx X) (hy : Wide w by_ ny Y) (hf : -1000000000 < f ∧ f < 1000000000)
    (hT : (X : Int) + f * (Y : Int) * (BB : Int) ^ up = (T : Int)) (hT2 : T < BB ^ 232) (hup : nw Y + up ≤ 232) :
    Calls Tryz.prog 186 #[.pointer (some ⟨bx, 0, none⟩), .pointer (some ⟨by_, 0, none⟩), .int .i64 f, .int .i64 (up : Int)] w fun e w' => e = .returned (.tuple #[]) ∧ Wide w' bx nx T ∧ Only bx w w' := by
  obtain ⟨xws, hX, hxr⟩ := hx
  obtain ⟨yws, hY, hyr⟩ := hy
  have HX := Lib.hid (And.intro hX hxr)
  have HY := Lib.hid (And.intro hY hyr)
  have HT := Lib.hid (And.intro hT hT2)
  have HN := Lib.hid hne
  obtain ⟨nY, hnY⟩ : ∃ nY, nY = nw Y := ⟨_, rfl⟩
  rw [← hnY] at hup
  have hyr2 := hyr
  rw [← hnY] at hyr2
  have HYR := Lib.hid hyr2
  have hstart : CarE X f yws up 0 xws 0 := by
    unfold CarE; rw [hX]; simp [wv]
  have HS := Lib.hid hstart
  clear hT hT2 hX hxr hY hyr hne hnY hyr2 hstart
  go_enter Tryz.func186, Tryz.ntmps186
  go_wp2
  go_loopg [8, 9] (233 - up) (fun k rv iv wr => ∃ (i : Nat) (r : Int) (ws : List Nat) (n : Nat), k = 233 - up - i ∧ rv = .int .i64 r ∧ iv = .int .i64 (i : Int) ∧ i + up ≤ 232 ∧ (-1000000000 ≤ r ∧ r ≤ 1000000000) ∧ WideR wr bx nx n ws ∧ Only bx w wr ∧ Hid (CarE X f yws up i ws r))
  case atStart => exact ⟨0, 0, xws, nw X, by omega, rfl, rfl, by omega, by omega, HX.out.2, Only.refl _ _, HS⟩
  case round =>
    obtain ⟨i, r, ws, n, hk, rfl, rfl, hi, hr, hwr, ho, hE⟩ := hrel
    have cy := (ho.row HYR.out.row HN.out).cell (wc_n ny nY yws)
    by_cases hA : i < nY
    · have hlt : i + up < 232 := by omega
      have hiu : i + up < ws.length := by rw [hwr.len]; omega
      have hiy : i < yws.length := by rw [HYR.out.len]; omega
      have cx := hwr.row.cell (wc_w nx n ws (i + up) hiu)
      have cn := hwr.row.cell (wc_n nx n ws)
      have cyw := (ho.row HYR.out.row HN.out).cell (wc_w ny nY yws i hiy)
      have f1 := hwr.row.free 1
      have f2 := hwr.row.free (2 + (i + up))
      have hws := hwr.small _ (List.getElem_mem hiu)
      have hyw := HYR.out.small _ (List.getElem_mem hiy)
      simp only [BB] at hws hyw
      have hnl := hwr.le
      have HR := Lib.hid hwr
      have hpb := mul_bound hf hyw
      have hsp := tdiv_split ((ws[i + up] : Int) + r + f * (yws[i] : Int))
      have HST := Lib.hid (fun (s q : Int) (h1 : (ws[i + up] : Int) + r + f * (yws[i] : Int) = q * 1000000000 + s) (h0 : 0 ≤ s) => hE.out.step hiu (f * (yws[i] : Int)) s q (take_next f yws i hiy) (by simp only [BB]; omega) h0)
      obtain ⟨q, hq⟩ : ∃ q, ((ws[i + up] : Int) + r + f * (yws[i] : Int)).tdiv 1000000000 = q := ⟨_, rfl⟩
      rw [hq] at hsp
      have hfy : f * (yws[i] : Int) ≤ 999999999 * 999999999 ∧ -(999999999 * 999999999) ≤ f * (yws[i] : Int) := by
        have h1 := Int.natAbs_mul f (yws[i] : Int)
        have h2 : f.natAbs * (yws[i] : Int).natAbs ≤ 999999999 * 999999999 := Nat.mul_le_mul (by omega) (by omega)
        omega
      have hqb : -1000000000 ≤ q ∧ q ≤ 1000000000 := by omega
      clear hwr hE
      generalize ws[i + up] = x at *
      generalize yws[i] = y at *
      go_wp2
      · have hd : (x : Int) + r + f * (y : Int) - q * 1000000000 < 0 := by assumption
        have hq2 : -1000000000 ≤ q - 1 := by omega
        go_roundg (233 - up - (i + 1))
        case measure => omega
        case rel => exact ⟨i + 1, q - 1, _, _, rfl, rfl, by go_num, by omega, by omega, HR.out.put (i + up) hlt _ _ (by omega) (by omega), ho.put _ _ _ _, HST.out _ _ (by omega) (by omega)⟩
      · have hd : 0 ≤ (x : Int) + r + f * (y : Int) - q * 1000000000 := by assumption
        go_roundg (233 - up - (i + 1))
        case measure => omega
        case rel => exact ⟨i + 1, q, _, _, rfl, rfl, by go_num, by omega, by omega, HR.out.put (i + up) hlt _ _ (by omega) (by omega), ho.put _ _ _ _, HST.out _ _ (by omega) (by omega)⟩
    · by_cases hB : r = 0
      · have hb1 : (r == 0) = true := by simpa using hB
        have hb2 : (r != 0) = false := by simpa using hB
        have hfin : wv ws = T := by
          have h1 := hE.out
          rw [hB] at h1
          exact h1.done HT.out.1 ((take_all HYR.out.zero i (by omega)).trans HY.out.1)
        have HF := Lib.hid hfin
        have HR := Lib.hid hwr
        clear hB hfin hE hwr hk
        go_wp2_with (go_at_call 183; refine (trimmed_any bx nx n ws _ HR.out).mono ?_; rintro e w1 ⟨rfl, ht, ho2⟩)
        go_end0
        exact ⟨rfl, HF.out ▸ ht, ho.trans ho2⟩
      · have hlt : i + up < 232 := by
          rcases Nat.lt_or_ge (i + up) 232 with h | h
          · exact h
          · exact absurd (hE.out.last HT.out.1 ((take_all HYR.out.zero i (by omega)).trans HY.out.1) hwr.small (by rw [hwr.len]; omega) (by rw [show i + up = 232 by omega]; exact HT.out.2)) hB
        have hb1 : (r == 0) = false := by simpa using hB
        have hb2 : (r != 0) = true := by simpa using hB
        have hiu : i + up < ws.length := by rw [hwr.len]; omega
        have cx := hwr.row.cell (wc_w nx n ws (i + up) hiu)
        have cn := hwr.row.cell (wc_n nx n ws)
        have f1 := hwr.row.free 1
        have f2 := hwr.row.free (2 + (i + up))
        have hws := hwr.small _ (List.getElem_mem hiu)
        simp only [BB] at hws
        have hnl := hwr.le
        have HR := Lib.hid hwr
        have hsp := tdiv_split ((ws[i + up] : Int) + r)
        have HST := Lib.hid (fun (s q : Int) (h1 : (ws[i + up] : Int) + r = q * 1000000000 + s) (h0 : 0 ≤ s) => hE.out.step hiu 0 s q (by
          rw [take_all HYR.out.zero (i + 1) (by omega), take_all HYR.out.zero i (by omega)]; simp) (by simp only [BB]; omega) h0)
        obtain ⟨q, hq⟩ : ∃ q, ((ws[i + up] : Int) + r).tdiv 1000000000 = q := ⟨_, rfl⟩
        rw [hq] at hsp
        have hqb : -4 ≤ q ∧ q ≤ 4 := by omega
        clear hB hwr hE
        generalize ws[i + up] = x at *
        go_wp2
        · have hd : (x : Int) + r - q * 1000000000 < 0 := by assumption
          go_roundg (233 - up - (i + 1))
          case measure => omega
          case rel => exact ⟨i + 1, q - 1, _, _, rfl, rfl, by go_num, by omega, by omega, HR.out.put (i + up) hlt _ _ (by omega) (by omega), ho.put _ _ _ _, HST.out _ _ (by omega) (by omega)⟩
        · have hd : 0 ≤ (x : Int) + r - q * 1000000000 := by assumption
          go_roundg (233 - up - (i + 1))
          case measure => omega
          case rel => exact ⟨i + 1, q, _, _, rfl, rfl, by go_num, by omega, by omega, HR.out.put (i + up) hlt _ _ (by omega) (by omega), ho.put _ _ _ _, HST.out _ _ (by omega) (by omega)⟩
end W
end Go.Proofs.YtellemlhhlafcaaGreatDoor
end
