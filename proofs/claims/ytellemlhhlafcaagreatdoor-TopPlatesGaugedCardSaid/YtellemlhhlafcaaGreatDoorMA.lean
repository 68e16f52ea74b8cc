/-
  Plain facts about decimal numerals: lists of digits, their value, and the canonical numeral of a number. No program in this text.
  A string by its list of bytes, and what the walk's operations on strings come to on lists.
  A block of memory known whole, by the list of its cells; and 'Below' in the walk's own words.
  Plain facts about quotients that are rounded down, and greatest common divisors. No program in this text.
  Plain facts about words: the base 10^9, the least word first. No program in this text.
-/
import Derived.Lib.ItoaNum
import Derived.WalkKit
import Derived.Lib.AtoiAllCases
import Derived.Lib.AtoiTie
import Derived.Test.YtellemlhhlafcaaGreatDoorChecked
import Derived.WalkLawsBesides
import Derived.WalkSpells
import Derived.Lib.Hide
import Derived.Outline
import Derived.Deep.Draws
import Derived.OneCell
import Derived.Deep.OwnRows
import Derived.Lib.BufferWrite
import Derived.Laws.BytesArg
section
namespace Go.Proofs.YtellemlhhlafcaaGreatDoor
open Go
namespace M

def isDig (c : UInt8) : Bool := decide (48 ≤ c.toNat ∧ c.toNat ≤ 57)
def Digs (l : List UInt8) : Prop := ∀ c ∈ l, 48 ≤ c.toNat ∧ c.toNat ≤ 57

def val (l : List UInt8) : Nat := l.foldl (fun a c => a * 10 + (c.toNat - 48)) 0

theorem foldl_val (l : List UInt8) (a : Nat) : l.foldl (fun a c => a * 10 + (c.toNat - 48)) a = a * 10 ^ l.length + val l := by
  unfold val
  induction l generalizing a with
  | nil => simp
  | cons c t ih =>
    simp only [List.foldl_cons, List.length_cons]
    rw [ih (a * 10 + (c.toNat - 48)), ih (0 * 10 + (c.toNat - 48)), Nat.pow_succ, Nat.add_mul, Nat.zero_mul, Nat.zero_add, Nat.mul_assoc, Nat.mul_comm 10, Nat.add_assoc]

theorem val_nil : val [] = 0 := rfl
theorem val_cons (c : UInt8) (t : List UInt8) : val (c :: t) = (c.toNat - 48) * 10 ^ t.length + val t := by
  have := foldl_val t (0 * 10 + (c.toNat - 48))
  simpa [val] using this
theorem val_append (a b : List UInt8) : val (a ++ b) = val a * 10 ^ b.length + val b := by
  unfold val
  rw [List.foldl_append]
  exact foldl_val b _
theorem val_snoc (a : List UInt8) (c : UInt8) : val (a ++ [c]) = val a * 10 + (c.toNat - 48) := by
  rw [val_append]; simp [val]
theorem val_zeros (n : Nat) : val (List.replicate n 48) = 0 := by
  induction n with
  | zero => rfl
  | succ n ih => rw [List.replicate_succ, val_cons, ih]; simp
theorem val_lt {l : List UInt8} (h : Digs l) : val l < 10 ^ l.length := by
  induction l with
  | nil => simp [val]
  | cons c t ih =>
    have h1 := h c (by simp)
    have h2 := ih fun x hx => h x (by simp [hx])
    rw [val_cons, List.length_cons, Nat.pow_succ]
    have h3 : (c.toNat - 48) * 10 ^ t.length ≤ 9 * 10 ^ t.length := Nat.mul_le_mul_right _ (by omega)
    omega

theorem Digs.append {a b : List UInt8} (ha : Digs a) (hb : Digs b) : Digs (a ++ b) := by
  intro c hc; rcases List.mem_append.1 hc with h | h; exact ha c h; exact hb c h
theorem Digs.zeros (n : Nat) : Digs (List.replicate n 48) := by
  intro c hc; rw [List.eq_of_mem_replicate hc]; decide
theorem Digs.tail {c : UInt8} {t : List UInt8} (h : Digs (c :: t)) : Digs t := fun x hx => h x (by simp [hx])
theorem Digs.take {l : List UInt8} (h : Digs l) (n : Nat) : Digs (l.take n) := fun x hx => h x (List.mem_of_mem_take hx)
theorem Digs.drop {l : List UInt8} (h : Digs l) (n : Nat) : Digs (l.drop n) := fun x hx => h x (List.mem_of_mem_drop hx)

theorem dig_byte (d : Nat) (h : d < 10) : (UInt8.ofNat (48 + d)).toNat = 48 + d := by
  simp [UInt8.toNat_ofNat']; omega

abbrev D (n : Nat) : List UInt8 := Lib.decDigits n

theorem D_small {n : Nat} (h : n < 10) : D n = [UInt8.ofNat (48 + n)] := by unfold D; rw [Lib.decDigits, dif_pos h]
theorem D_big {n : Nat} (h : ¬ n < 10) : D n = D (n / 10) ++ [UInt8.ofNat (48 + n % 10)] := by
  show Lib.decDigits n = _
  rw [Lib.decDigits, dif_neg h]

theorem D_digs (n : Nat) : Digs (D n) := by
  induction n using Nat.strongRecOn with
  | _ n ih =>
    by_cases h : n < 10
    · rw [D_small h]; intro c hc; rw [List.mem_singleton] at hc; subst hc; rw [dig_byte n h]; omega
    · rw [D_big h]
      refine (ih (n / 10) (by omega)).append ?_
      intro c hc; rw [List.mem_singleton] at hc; subst hc; rw [dig_byte (n % 10) (by omega)]; omega
theorem D_val (n : Nat) : val (D n) = n := by
  induction n using Nat.strongRecOn with
  | _ n ih =>
    by_cases h : n < 10
    · have h1 := dig_byte n h
      rw [D_small h, val_cons, h1, val_nil, List.length_nil]; omega
    · rw [D_big h, val_snoc, ih (n / 10) (by omega), dig_byte (n % 10) (by omega)]; omega
theorem D_ne (n : Nat) : D n ≠ [] := by
  by_cases h : n < 10
  · rw [D_small h]; simp
  · rw [D_big h]; simp
theorem D_len (n : Nat) : (D n).length = Lib.nDigits n := by
  induction n using Nat.strongRecOn with
  | _ n ih =>
    by_cases h : n < 10
    · rw [D_small h, Lib.nDigits_small h]; rfl
    · rw [D_big h, Lib.nDigits_big h, List.length_append, ih (n / 10) (by omega)]; rfl
theorem D_len_pos (n : Nat) : 1 ≤ (D n).length := by rw [D_len]; exact Lib.nDigits_pos n
theorem nDigits_ge {n : Nat} (h : n ≠ 0) : 10 ^ (Lib.nDigits n - 1) ≤ n := by
  induction n using Nat.strongRecOn with
  | _ n ih =>
    by_cases h' : n < 10
    · rw [Lib.nDigits_small h']; simp; omega
    · rw [Lib.nDigits_big h']
      have h1 := ih (n / 10) (by omega) (by omega)
      have h2 := Lib.nDigits_pos (n / 10)
      have h3 : Lib.nDigits (n / 10) + 1 - 1 = (Lib.nDigits (n / 10) - 1) + 1 := by omega
      rw [h3, Nat.pow_succ]; omega
theorem nDigits_le {n k : Nat} (hk : 1 ≤ k) : Lib.nDigits n ≤ k ↔ n < 10 ^ k := by
  constructor
  · intro h
    exact Nat.lt_of_lt_of_le (Lib.lt_pow_nDigits n) (Nat.pow_le_pow_right (by decide) h)
  · intro h
    by_cases h0 : n = 0
    · subst h0; rw [Lib.nDigits_small (by decide)]; exact hk
    · have h1 := nDigits_ge h0
      have h2 := Lib.nDigits_pos n
      have h3 : 10 ^ (Lib.nDigits n - 1) < 10 ^ k := by omega
      have h4 := (Nat.pow_lt_pow_iff_right (by decide : 1 < 10)).1 h3
      omega
theorem D_len_le {n k : Nat} (hk : 1 ≤ k) : (D n).length ≤ k ↔ n < 10 ^ k := by rw [D_len]; exact nDigits_le hk
theorem D_zero : D 0 = [48] := D_small (by decide)

theorem D_of_val : ∀ (l : List UInt8), Digs l → l ≠ [] → (l.head? ≠ some 48 ∨ l.length = 1) → D (val l) = l := by
  have key : ∀ (k : Nat) (l : List UInt8), l.length = k → Digs l → l ≠ [] → (l.head? ≠ some 48 ∨ l.length = 1) → D (val l) = l := by
    intro k
    induction k with
    | zero => intro l hl _ hn; exact absurd (List.length_eq_zero_iff.1 hl) hn
    | succ k ih =>
      intro l hl hd hn hh
      obtain ⟨a, c, rfl⟩ : ∃ a c, l = a ++ [c] := ⟨l.dropLast, l.getLast hn, (List.dropLast_concat_getLast hn).symm⟩
      have hc := hd c (by simp)
      have hcb : UInt8.ofNat (48 + (c.toNat - 48)) = c := by
        rw [show 48 + (c.toNat - 48) = c.toNat by omega]; simp
      rw [val_snoc]
      by_cases ha : a = []
      · subst ha
        rw [val_nil, Nat.zero_mul, Nat.zero_add, D_small (by omega), hcb]; rfl
      · have ha' : a.length = k := by simpa using hl
        have had : Digs a := fun x hx => hd x (by simp [hx])
        have hah : a.head? ≠ some 48 := by
          rcases hh with h | h
          · cases a with
            | nil => exact absurd rfl ha
            | cons x t => simpa using h
          · simp at h; exact absurd h ha
        have ih' := ih a ha' had ha (Or.inl hah)
        have hpos : 1 ≤ val a := by
          cases a with
          | nil => exact absurd rfl ha
          | cons x t =>
            have hx := had x (by simp)
            rw [val_cons]
            have hx48 : x.toNat ≠ 48 := by
              intro h; apply hah; simp; exact UInt8.toNat_inj.1 (by simpa using h)
            have : 1 ≤ 10 ^ t.length := Nat.one_le_pow _ _ (by decide)
            have : 1 * 1 ≤ (x.toNat - 48) * 10 ^ t.length := Nat.mul_le_mul (by omega) this
            omega
        rw [D_big (by omega)]
        rw [show (val a * 10 + (c.toNat - 48)) / 10 = val a by omega, show (val a * 10 + (c.toNat - 48)) % 10 = c.toNat - 48 by omega, ih', hcb]
  intro l hd hn hh
  exact key l.length l rfl hd hn hh
theorem D_head (n : Nat) : (D n).head? ≠ some 48 ∨ (D n).length = 1 := by
  induction n using Nat.strongRecOn with
  | _ n ih =>
    by_cases h : n < 10
    · right; rw [D_small h]; rfl
    · left
      rw [D_big h]
      rcases ih (n / 10) (by omega) with h1 | h1
      · have := D_ne (n / 10)
        revert h1 this
        cases D (n / 10) with
        | nil => simp
        | cons x t => simp
      · by_cases h2 : n / 10 < 10
        · rw [D_small h2]
          intro hx
          have hx' : UInt8.ofNat (48 + n / 10) = 48 := by
            rw [List.head?_append, List.head?_cons, Option.some_or] at hx; exact Option.some.inj hx
          have h4 := congrArg UInt8.toNat hx'
          rw [dig_byte _ h2, show (48 : UInt8).toNat = 48 from rfl] at h4
          omega
        · rw [D_big h2] at h1
          have := D_len_pos (n / 10 / 10)
          simp at h1
          exact absurd (List.length_eq_zero_iff.2 h1) (by omega)
theorem D_inj {a b : Nat} (h : D a = D b) : a = b := by rw [← D_val a, h, D_val]

def pad (l : List UInt8) (n : Nat) : List UInt8 := List.replicate (n - l.length) 48 ++ l
theorem pad_len {l : List UInt8} {n : Nat} (h : l.length ≤ n) : (pad l n).length = n := by unfold pad; simp; omega
theorem pad_digs {l : List UInt8} {n : Nat} (h : Digs l) : Digs (pad l n) := (Digs.zeros _).append h
theorem pad_val (l : List UInt8) (n : Nat) : val (pad l n) = val l := by unfold pad; rw [val_append, val_zeros]; simp
theorem D_len_lt {a b : Nat} (h : (D a).length < (D b).length) : a < b := by
  have h1 := (D_len_le (n := a) (k := (D a).length) (D_len_pos a)).1 (Nat.le_refl _)
  rcases Nat.lt_or_ge a b with h2 | h2
  · exact h2
  · have h3 : (D b).length ≤ (D a).length := (D_len_le (D_len_pos a)).2 (by omega)
    omega

def I (z : Int) : List UInt8 := Lib.itoa z
theorem I_nonneg (n : Nat) : I (n : Int) = D n := by
  unfold I Lib.itoa; rw [if_neg (by omega), Int.toNat_natCast]
theorem I_neg {n : Nat} (h : 1 ≤ n) : I (-(n : Int)) = 45 :: D n := by
  unfold I Lib.itoa; rw [if_pos (by omega), show (-(n : Int)).natAbs = n by omega]
theorem I_of_lt {z : Int} (h : z < 0) : I z = 45 :: D z.natAbs := by unfold I Lib.itoa; rw [if_pos h]
theorem I_of_ge {z : Int} (h : 0 ≤ z) : I z = D z.natAbs := by unfold I Lib.itoa; rw [if_neg (by omega)]; congr 1; omega
theorem D_no_minus (n : Nat) : (45 : UInt8) ∉ D n := by
  intro h
  have h1 := (D_digs n 45 h).1
  exact absurd h1 (by decide)
theorem I_inj {a b : Int} (h : I a = I b) : a = b := by
  rcases Int.lt_or_le a 0 with h1 | h1 <;> rcases Int.lt_or_le b 0 with h2 | h2
  · rw [I_of_lt h1, I_of_lt h2] at h; have := D_inj (List.cons.inj h).2; omega
  · rw [I_of_lt h1, I_of_ge h2] at h; exact absurd (h ▸ List.mem_cons_self : (45 : UInt8) ∈ D b.natAbs) (D_no_minus _)
  · rw [I_of_ge h1, I_of_lt h2] at h; exact absurd (h ▸ List.mem_cons_self : (45 : UInt8) ∈ D a.natAbs) (D_no_minus _)
  · rw [I_of_ge h1, I_of_ge h2] at h; have := D_inj h; omega

/-! ### Integers -/
def sz (l : List UInt8) : List UInt8 := if l.head? = some 45 then l.tail else l
theorem sz_minus (t : List UInt8) : sz (45 :: t) = t := rfl
theorem sz_plain {c : UInt8} (t : List UInt8) (h : c ≠ 45) : sz (c :: t) = c :: t := by unfold sz; simp [h]
theorem sz_len (l : List UInt8) : (sz l).length ≤ l.length := by unfold sz; split <;> simp
theorem D_cons (n : Nat) : ∃ c t, D n = c :: t ∧ c ≠ 45 := by
  have h := D_ne n
  have hm := D_no_minus n
  revert h hm
  cases D n with
  | nil => intro h; exact absurd rfl h
  | cons c t => intro _ hm; exact ⟨c, t, rfl, fun e => hm (by rw [e]; simp)⟩
theorem sz_I (z : Int) : sz (I z) = D z.natAbs := by
  rcases Int.lt_or_le z 0 with h | h
  · rw [I_of_lt h, sz_minus]
  · rw [I_of_ge h]
    obtain ⟨c, t, e, hc⟩ := D_cons z.natAbs
    rw [e, sz_plain t hc]
theorem I_cons (z : Int) : ∃ c t, I z = c :: t ∧ (c == 45) = decide (z < 0) := by
  rcases Int.lt_or_le z 0 with h | h
  · exact ⟨45, D z.natAbs, I_of_lt h, by simp [h]⟩
  · obtain ⟨c, t, e, hc⟩ := D_cons z.natAbs
    refine ⟨c, t, by rw [I_of_ge h, e], ?_⟩
    rw [show (c == 45) = false from by simpa using hc]
    exact (decide_eq_false (by omega)).symm
theorem I_zero : I 0 = [48] := by rw [show (0 : Int) = ((0 : Nat) : Int) from rfl, I_nonneg, D_zero]
theorem I_one : I 1 = [49] := by rw [show (1 : Int) = ((1 : Nat) : Int) from rfl, I_nonneg, D_small (by omega)]; rfl
theorem D_eq_zero {n : Nat} : D n = [48] ↔ n = 0 := by
  constructor
  · intro h; exact D_inj (h.trans D_zero.symm)
  · intro h; subst h; exact D_zero
theorem I_eq_zero {z : Int} : I z = [48] ↔ z = 0 := by
  constructor
  · intro h; exact I_inj (h.trans I_zero.symm)
  · intro h; subst h; exact I_zero
theorem D_len_of {n k : Nat} (h : n < 10 ^ k) (hk : 1 ≤ k) : (D n).length ≤ k := (D_len_le hk).2 h
theorem D_le_I (z : Int) : (D z.natAbs).length ≤ (I z).length := by have := sz_len (I z); rw [sz_I] at this; exact this
theorem I_len_D (z : Int) : (I z).length ≤ (D z.natAbs).length + 1 := by
  rcases Int.lt_or_le z 0 with h | h
  · rw [I_of_lt h]; simp
  · rw [I_of_ge h]; omega
/-! ### Columns -/
end M
end Go.Proofs.YtellemlhhlafcaaGreatDoor
end
section
namespace Go.Proofs.YtellemlhhlafcaaGreatDoor
open Go Go.RowKit

def bs (l : List UInt8) : ByteArray := ⟨l.toArray⟩
theorem bs_size (l : List UInt8) : (bs l).size = l.length := by simp [bs, ByteArray.size]
theorem bs_data (l : List UInt8) : (bs l).data = l.toArray := rfl
theorem toList_eq (s : ByteArray) : s.toList = s.data.toList := by
  rw [ByteArray.toList_eq]
theorem bs_toList (l : List UInt8) : (bs l).toList = l := by rw [toList_eq]; simp [bs]
theorem bs_get (l : List UInt8) (i : Nat) (h : i < (bs l).size) : (bs l)[i] = l[i]'(by rw [← bs_size]; exact h) := by
  simp [bs, ByteArray.getElem_eq_getElem_data]
theorem bs_extract (l : List UInt8) (a b : Nat) : (bs l).extract a b = bs ((l.drop a).take (b - a)) := by
  apply ByteArray.ext
  rw [ByteArray.data_extract, bs_data, bs_data]
  simp
theorem bs_append (a b : List UInt8) : bs a ++ bs b = bs (a ++ b) := by
  apply ByteArray.ext
  rw [ByteArray.data_append]
  simp [bs]
theorem bs_lit1 (c : UInt8) (l : List UInt8) : (⟨#[c]⟩ : ByteArray) ++ bs l = bs (c :: l) := bs_append [c] l
theorem bs_lit0 (l : List UInt8) : (⟨#[]⟩ : ByteArray) ++ bs l = bs l := bs_append [] l
theorem lit1_bs (c : UInt8) (l : List UInt8) : bs l ++ (⟨#[c]⟩ : ByteArray) = bs (l ++ [c]) := bs_append l [c]
end Go.Proofs.YtellemlhhlafcaaGreatDoor
end
section
namespace Go.Proofs.YtellemlhhlafcaaGreatDoor
open Go Go.RowKit

def Row (w : World) (b : Nat) (t : TypeId) (xs : List Value) : Prop := w.heap[b]? = some (.cells xs.toArray t (0, 0))

theorem Row.lt {w : World} {b : Nat} {t : TypeId} {xs : List Value} (h : Row w b t xs) : b < w.heap.size := lt_of_block h
theorem Row.cell {w : World} {b : Nat} {t : TypeId} {xs : List Value} (h : Row w b t xs) {i : Nat} {v : Value} (hi : xs[i]? = some v) : w.cell? ⟨b, i, none⟩ = some v := by
  unfold Row at h; simp [World.cell?, h, hi]
theorem Row.free {w : World} {b : Nat} {t : TypeId} {xs : List Value} (h : Row w b t xs) (i : Nat) : w.frozen? ⟨b, i, none⟩ = false := by
  unfold Row at h; simp [World.frozen?, h]
theorem Row.set {w : World} {b : Nat} {t : TypeId} {xs : List Value} (h : Row w b t xs) (i : Nat) (v : Value) : Row (w.setCell ⟨b, i, none⟩ v) b t (xs.set i v) := by
  have hlt := h.lt
  unfold Row at *
  have h' : w.heap[b] = .cells xs.toArray t (0, 0) := by simpa [Array.getElem?_eq_getElem hlt] using h
  show (w.heap.modify b _)[b]? = _
  rw [Array.getElem?_eq_getElem (by simpa using hlt), Array.getElem_modify_self, h']
  simp
theorem Row.alloc {w : World} {b : Nat} {t : TypeId} {xs : List Value} (h : Row w b t xs) (o : Obj) : Row (w.alloc o) b t xs := by
  have hlt := h.lt
  unfold Row at *; rw [Below.heap_alloc _ _ _ hlt]; exact h
theorem Row.drew {w : World} {b : Nat} {t : TypeId} {xs : List Value} (h : Row w b t xs) : Row w.drew b t xs := h
theorem Row.drewN {w : World} {b : Nat} {t : TypeId} {xs : List Value} (h : Row w b t xs) (n : Nat) : Row (w.drewN n) b t xs := h
theorem Row.below {w w' : World} {B b : Nat} {t : TypeId} {xs : List Value} (h : Row w b t xs) (hb : Below B w w') (hB : b < B) : Row w' b t xs := by
  unfold Row at *; rw [hb.block b hB]; exact h
theorem Row.below' {w w' : World} {b : Nat} {t : TypeId} {xs : List Value} (h : Row w b t xs) (hb : Below w.heap.size w w') : Row w' b t xs := h.below hb h.lt
theorem Row.new (w : World) (t : TypeId) (xs : List Value) : Row (w.alloc (.cells xs.toArray t (0, 0))) w.heap.size t xs := by
  unfold Row; show (w.heap.push _)[w.heap.size]? = _; simp

theorem Below.drewN {B : Nat} {a w : World} (h : Below B a w) (n : Nat) : Below B a (w.drewN n) := ⟨h.os, h.tape, h.output, h.size, h.block⟩
theorem bcell {W w1 : World} (hb : Below W.heap.size W w1) : (∀ b o, b < W.heap.size → w1.cell? ⟨b, o, none⟩ = W.cell? ⟨b, o, none⟩) ∧ (∀ b o, b < W.heap.size → w1.frozen? ⟨b, o, none⟩ = W.frozen? ⟨b, o, none⟩) :=
  ⟨fun b o h => hb.cell (p := ⟨b, o, none⟩) h, fun b o h => hb.frozen (p := ⟨b, o, none⟩) h⟩
theorem Below.then {W w1 w2 : World} (h1 : Below W.heap.size W w1) (h2 : Below w1.heap.size w1 w2) : Below W.heap.size W w2 := h1.trans (h2.mono h1.size)

def Ret (w : World) (v : Value) (e : Ending) (w' : World) : Prop := e = .returned v ∧ Below w.heap.size w w'
theorem ret_int {k : IntKind} {a b : Int} (h : a = b) : Ending.returned (.int k a) = .returned (.int k b) := by rw [h]
theorem info5 : (Tryz.prog.info? 5).map (fun i => (i.zero, i.size, i.bytes)) = some (some (.int .u8 0), 1, 1) := by kernel_rfl
theorem Row.setRow {w : World} {b : Nat} {t : TypeId} {xs : List Value} (h : Row w b t xs) (c : Array Value) : Row (w.setRow b c) b t c.toList := by
  have hlt := h.lt
  unfold Row at *
  have h' : w.heap[b] = .cells xs.toArray t (0, 0) := by simpa [Array.getElem?_eq_getElem hlt] using h
  show (w.heap.modify b _)[b]? = _
  rw [Array.getElem?_eq_getElem (by simpa using hlt), Array.getElem_modify_self, h']
theorem Below.setRow {B : Nat} {a w : World} (h : Below B a w) {b : Nat} (hb : B ≤ b) (c : Array Value) : Below B a (w.setRow b c) :=
  h.trans ⟨rfl, rfl, rfl, by simp [World.setRow], fun k hk => by
    simp only [World.setRow, Array.getElem?_modify]
    rw [if_neg (by omega)]⟩
theorem still {P : Program} {f : FuncId} {args : Array Value} {w : World} {v : Value} (h : Calls P f args w fun e w' => e = .returned v ∧ w = w') : Calls P f args w fun e w' => e = .returned v ∧ w' = w :=
  h.mono fun _ _ ⟨h1, h2⟩ => ⟨h1, h2.symm⟩
theorem Ret.of {w w' : World} {v v' : Value} (hv : v = v') (h : Below w.heap.size w w') : Ret w v' (.returned v) w' := ⟨by rw [hv], h⟩
def I64 (l : List Nat) : List Value := l.map fun (c : Nat) => .int .i64 (c : Int)
theorem I64_len (l : List Nat) : (I64 l).length = l.length := by simp [I64]
theorem I64_get (l : List Nat) (i : Nat) (h : i < l.length) : (I64 l)[i]? = some (.int .i64 (l[i] : Int)) := by simp [I64, h]
theorem I64_set (l : List Nat) (i c : Nat) : (I64 l).set i (.int .i64 (c : Int)) = I64 (l.set i c) := by simp [I64, List.map_set]
end Go.Proofs.YtellemlhhlafcaaGreatDoor
end
section
namespace Go.Proofs.YtellemlhhlafcaaGreatDoor
open Go
namespace M
theorem fdiv_of {x y q r : Int} (h : x = q * y + r) (hr : (0 ≤ r ∧ r < y) ∨ (y < r ∧ r ≤ 0)) : x.fdiv y = q ∧ x.fmod y = r := by
  have key : ∀ {x y q r : Int}, x = q * y + r → 0 ≤ r → r < y → x.fdiv y = q ∧ x.fmod y = r := by
    intro x y q r h h1 h2
    rw [Int.fdiv_eq_ediv_of_nonneg _ (by omega), Int.fmod_eq_emod_of_nonneg _ (by omega)]
    exact (Int.ediv_emod_unique (by omega)).2 ⟨by rw [h, Int.mul_comm]; omega, h1, h2⟩
  rcases hr with hr | hr
  · exact key h hr.1 hr.2
  · have k := key (x := -x) (y := -y) (q := q) (r := -r) (by rw [h, Int.mul_neg]; omega) (by omega) (by omega)
    rw [Int.neg_fdiv_neg, Int.neg_fmod_neg] at k
    exact ⟨k.1, by omega⟩
theorem tmod_facts (x y : Int) (hy : y ≠ 0) : (x.tmod y).natAbs < y.natAbs ∧ (x.tmod y = 0 ∨ (decide (x.tmod y < 0) = decide (x < 0))) ∧ x = x.tdiv y * y + x.tmod y := by
  have h1 : (x.tmod y).natAbs < y.natAbs := by
    rw [Int.natAbs_tmod]; exact Nat.mod_lt _ (by omega)
  refine ⟨h1, ?_, ?_⟩
  · rw [decide_eq_decide]
    by_cases hx : 0 ≤ x
    · right; have := Int.tmod_nonneg y hx; omega
    · have h2 := Int.sign_tmod x y
      split at h2
      · left; exact Int.sign_eq_zero_iff_zero.1 h2
      · right
        rw [Int.sign_eq_neg_one_of_neg (show x < 0 by omega)] at h2
        have := Int.neg_of_sign_eq_neg_one h2
        omega
  · have := Int.mul_tdiv_add_tmod x y
    rw [Int.mul_comm] at this
    exact this.symm
theorem fmod_keep {x y : Int} (hy : y ≠ 0) (h : x.tmod y = 0 ∨ decide (x.tmod y < 0) = decide (y < 0)) : x.tmod y = x.fmod y := by
  obtain ⟨h1, h2, h3⟩ := tmod_facts x y hy
  simp only [decide_eq_decide] at h
  generalize x.tmod y = r at *
  exact ((fdiv_of h3 (by omega)).2).symm
theorem fmod_move {x y : Int} (hy : y ≠ 0) (h0 : x.tmod y ≠ 0) (h : ¬ decide (x.tmod y < 0) = decide (y < 0)) : x.tmod y + y = x.fmod y := by
  obtain ⟨h1, h2, h3⟩ := tmod_facts x y hy
  simp only [decide_eq_decide] at h
  generalize x.tmod y = r at *
  exact ((fdiv_of (q := x.tdiv y - 1) (r := r + y) (by rw [Int.sub_mul, Int.one_mul]; omega) (by omega)).2).symm
theorem gcd_step (m n : Nat) : Nat.gcd m n = Nat.gcd n (m % n) := by
  rw [Nat.gcd_comm m n, Nat.gcd_rec n m, Nat.gcd_comm]
/-! ### What 'Check' says of a text -/
def pw (k : Nat) : Nat := 10 ^ k
theorem lt_pw {n k : Nat} (hk : 1 ≤ k) : (D n).length ≤ k ↔ n < pw k := D_len_le hk
abbrev lim : Nat := pw 1024
theorem lt_lim {n : Nat} : (D n).length ≤ 1024 ↔ n < lim := lt_pw (by decide)
def chk (l : List UInt8) : Nat :=
  if sz l = [] ∨ ((sz l).head? = some 48 ∧ (1 < (sz l).length ∨ 1 < l.length)) then 3
  else if (sz l).all isDig = false then 3 else if 1024 < (sz l).length then 11 else 0
theorem isDig_iff (c : UInt8) : isDig c = true ↔ 48 ≤ c.toNat ∧ c.toNat ≤ 57 := by unfold isDig; simp
theorem all_isDig (l : List UInt8) : l.all isDig = true ↔ Digs l := by
  rw [List.all_eq_true]
  exact ⟨fun h c hc => (isDig_iff c).1 (h c hc), fun h c hc => (isDig_iff c).2 (h c hc)⟩
theorem chk_cases (l : List UInt8) : chk l = 0 ∨ chk l = 3 ∨ chk l = 11 := by
  unfold chk; split
  · exact Or.inr (Or.inl rfl)
  · split
    · exact Or.inr (Or.inl rfl)
    · split
      · exact Or.inr (Or.inr rfl)
      · exact Or.inl rfl
theorem chk_form {l : List UInt8} (h : chk l ≠ 3) : ∃ z : Int, l = I z := by
  unfold chk at h
  split at h
  · exact absurd rfl h
  · rename_i h1
    split at h
    · exact absurd rfl h
    · rename_i h2
      have hd : Digs (sz l) := (all_isDig _).1 (by simpa using h2)
      have hne : sz l ≠ [] := fun e => h1 (Or.inl e)
      have hh : (sz l).head? ≠ some 48 ∨ (sz l).length = 1 := by
        by_cases h3 : (sz l).head? = some 48
        · right
          have h4 : ¬ (1 < (sz l).length ∨ 1 < l.length) := fun e => h1 (Or.inr ⟨h3, e⟩)
          have := List.length_pos_iff.2 hne
          omega
        · exact Or.inl h3
      have hD := D_of_val (sz l) hd hne hh
      cases l with
      | nil => exact absurd rfl hne
      | cons c t =>
        by_cases hc : c = 45
        · subst hc
          rw [sz_minus] at *
          refine ⟨-((val t : Nat) : Int), ?_⟩
          have hv : 1 ≤ val t := by
            rcases Nat.eq_zero_or_pos (val t) with h0 | h0
            · exfalso
              rw [h0, D_zero] at hD
              apply h1
              right
              rw [← hD]
              exact ⟨rfl, Or.inr (by simp)⟩
            · exact h0
          rw [I_neg hv, hD]
        · rw [sz_plain t hc] at *
          exact ⟨((val (c :: t) : Nat) : Int), by rw [I_nonneg, hD]⟩
theorem chk_I (z : Int) : chk (I z) = if z.natAbs < lim then 0 else 11 := by
  have hs := sz_I z
  have hd := D_digs z.natAbs
  have hn := D_ne z.natAbs
  have hh := D_head z.natAbs
  unfold chk
  rw [hs]
  have h1 : ¬ (D z.natAbs = [] ∨ ((D z.natAbs).head? = some 48 ∧ (1 < (D z.natAbs).length ∨ 1 < (I z).length))) := by
    rintro (h | ⟨h, h'⟩)
    · exact hn h
    · rcases hh with hh | hh
      · exact hh h
      · have e : D z.natAbs = [48] := by
          revert h hh
          cases D z.natAbs with
          | nil => simp
          | cons c t => intro h1 h2; simp at h1 h2; rw [h1, h2]
        have h0 := D_eq_zero.1 e
        have hz : z = 0 := by omega
        subst hz
        rw [I_zero] at h'
        rw [e] at h'
        simp at h'
  rw [if_neg h1, if_neg (by rw [(all_isDig _).2 hd]; simp)]
  by_cases h : z.natAbs < lim
  · rw [if_neg (by have := lt_lim.2 h; omega), if_pos h]
  · rw [if_pos (by
      rcases Nat.lt_or_ge 1024 (D z.natAbs).length with h2 | h2
      · exact h2
      · exact absurd (lt_lim.1 h2) h), if_neg h]
end M
end Go.Proofs.YtellemlhhlafcaaGreatDoor
end
section
namespace Go.Proofs.YtellemlhhlafcaaGreatDoor
open Go
namespace M
abbrev BB : Nat := 1000000000
def wv : List Nat → Nat
  | [] => 0
  | c :: t => c + BB * wv t
def Small (l : List Nat) : Prop := ∀ c ∈ l, c < BB
theorem wv_lt {l : List Nat} (h : Small l) : wv l < BB ^ l.length := by
  induction l with
  | nil => simp [wv]
  | cons c t ih =>
    have h1 := h c (by simp)
    have h2 := ih fun x hx => h x (by simp [hx])
    rw [wv, List.length_cons, Nat.pow_succ, Nat.mul_comm (BB ^ t.length)]
    have := Nat.mul_le_mul_left BB (Nat.succ_le_of_lt h2)
    rw [Nat.mul_succ] at this
    omega
theorem wv_append (a b : List Nat) : wv (a ++ b) = wv a + BB ^ a.length * wv b := by
  induction a with
  | nil => simp [wv]
  | cons c t ih =>
    simp only [List.cons_append, wv, ih, List.length_cons, Nat.pow_succ]
    rw [Nat.mul_add, Nat.mul_comm (BB ^ t.length) BB, Nat.mul_assoc]; omega
theorem wv_zeros (n : Nat) : wv (List.replicate n 0) = 0 := by
  induction n with
  | zero => rfl
  | succ n ih => rw [List.replicate_succ, wv, ih]; rfl
theorem wv_set (l : List Nat) (i v : Nat) (h : i < l.length) : wv (l.set i v) + l[i] * BB ^ i = wv l + v * BB ^ i := by
  induction l generalizing i with
  | nil => simp at h
  | cons c t ih =>
    cases i with
    | zero => simp [wv]; omega
    | succ i =>
      have := ih i (by simpa using h)
      simp only [List.set_cons_succ, wv, List.getElem_cons_succ, Nat.pow_succ]
      have e1 : t[i]'(by simpa using h) * (BB ^ i * BB) = BB * (t[i]'(by simpa using h) * BB ^ i) := by rw [← Nat.mul_assoc, Nat.mul_comm _ BB]
      have e2 : v * (BB ^ i * BB) = BB * (v * BB ^ i) := by rw [← Nat.mul_assoc, Nat.mul_comm _ BB]
      rw [e1, e2, Nat.add_assoc, Nat.add_assoc, ← Nat.mul_add, ← Nat.mul_add, this]
theorem wv_take (l : List Nat) (k : Nat) (h : k < l.length) : wv (l.take (k + 1)) = wv (l.take k) + l[k] * BB ^ k := by
  rw [List.take_succ_eq_append_getElem h, wv_append, List.length_take, Nat.min_eq_left (by omega), wv, wv, Nat.mul_zero, Nat.add_zero, Nat.mul_comm]
theorem Small.set {l : List Nat} (h : Small l) (i v : Nat) (hv : v < BB) : Small (l.set i v) := by
  intro c hc; rcases List.mem_or_eq_of_mem_set hc with h1 | h1
  · exact h c h1
  · subst h1; exact hv
def nw (m : Nat) : Nat := if m = 0 then 0 else nw (m / BB) + 1
termination_by m
decreasing_by exact Nat.div_lt_self (by omega) (by decide)
theorem nw_zero : nw 0 = 0 := by rw [nw]; simp
theorem nw_pos {m : Nat} (h : m ≠ 0) : nw m = nw (m / BB) + 1 := by rw [nw, if_neg h]
theorem nw_le {m k : Nat} : nw m ≤ k ↔ m < BB ^ k := by
  induction k generalizing m with
  | zero =>
    by_cases h : m = 0
    · subst h; simp [nw_zero]
    · rw [nw_pos h]; simp; omega
  | succ k ih =>
    by_cases h : m = 0
    · subst h; simp [nw_zero]; exact Nat.pow_pos (by decide)
    · rw [nw_pos h, Nat.add_le_add_iff_right, ih, Nat.pow_succ, Nat.div_lt_iff_lt_mul (by decide)]
theorem nw_eq {m k : Nat} (h1 : m < BB ^ (k + 1)) (h2 : BB ^ k ≤ m) : nw m = k + 1 := by
  have a := nw_le.2 h1
  have b : ¬ nw m ≤ k := fun h => by have := nw_le.1 h; omega
  omega
theorem lt_nw (m : Nat) : m < BB ^ nw m := nw_le.1 (Nat.le_refl _)
def ZeroFrom (l : List Nat) (n : Nat) : Prop := ∀ i (h : i < l.length), n ≤ i → l[i] = 0
theorem ZeroFrom.wv {l : List Nat} {n : Nat} (hs : Small l) (h : ZeroFrom l n) : wv l < BB ^ n := by
  rcases Nat.lt_or_ge n l.length with hn | hn
  · have e : l = l.take n ++ List.replicate (l.length - n) 0 := by
      apply List.ext_getElem
      · simp; omega
      · intro i h1 h2
        by_cases hi : i < n
        · rw [List.getElem_append_left (by simp; omega)]; simp
        · rw [List.getElem_append_right (by simp; omega)]; simp; exact h i h1 (by omega)
    have hl : (l.take n).length = n := by simp; omega
    have := wv_lt (l := l.take n) fun c hc => hs c (List.mem_of_mem_take hc)
    rw [hl] at this
    rw [e, wv_append, wv_zeros]
    simpa using this
  · exact Nat.lt_of_lt_of_le (wv_lt hs) (Nat.pow_le_pow_right (by decide) hn)
theorem ZeroFrom.of {l : List Nat} {n : Nat} (h : M.wv l < BB ^ n) : ZeroFrom l n := by
  intro i hi hn
  rcases Nat.eq_zero_or_pos l[i] with h0 | h0
  · exact h0
  · exfalso
    have h1 := wv_set l i 0 hi
    have h2 : 1 * BB ^ n ≤ l[i] * BB ^ i := Nat.mul_le_mul h0 (Nat.pow_le_pow_right (by decide) hn)
    omega
theorem ZeroFrom.mono {l : List Nat} {n m : Nat} (h : ZeroFrom l n) (hm : n ≤ m) : ZeroFrom l m := fun i hi h1 => h i hi (by omega)
theorem ZeroFrom.set {l : List Nat} {n i v : Nat} (h : ZeroFrom l n) (hi : i < n) : ZeroFrom (l.set i v) n := by
  intro j hj hn
  rw [List.getElem_set_ne (by omega)]
  exact h j (by simpa using hj) hn
theorem nw_top {l : List Nat} {n : Nat} (hs : Small l) (hn : n < l.length) (hz : ZeroFrom l (n + 1)) (h0 : l[n] ≠ 0) : nw (M.wv l) = n + 1 := by
  apply nw_eq (hz.wv hs)
  rcases Nat.lt_or_ge (M.wv l) (BB ^ n) with h | h
  · exact absurd (ZeroFrom.of h n hn (Nat.le_refl _)) h0
  · exact h
theorem wv_split (l : List Nat) (i : Nat) (h : i < l.length) : wv l = wv (l.take i) + l[i] * BB ^ i + BB ^ (i + 1) * wv (l.drop (i + 1)) := by
  have e : l = l.take (i + 1) ++ l.drop (i + 1) := (List.take_append_drop _ l).symm
  have h2 : wv l = wv (l.take (i + 1)) + BB ^ (l.take (i + 1)).length * wv (l.drop (i + 1)) := by rw [← wv_append, ← e]
  rw [h2, wv_take l i h, List.length_take, Nat.min_eq_left (by omega)]
theorem Small.take {l : List Nat} (h : Small l) (k : Nat) : Small (l.take k) := fun c hc => h c (List.mem_of_mem_take hc)
theorem Small.drop {l : List Nat} (h : Small l) (k : Nat) : Small (l.drop k) := fun c hc => h c (List.mem_of_mem_drop hc)
theorem wv_cmp {a b : List Nat} (ha : Small a) (hl : a.length = b.length) {i : Nat} (hi : i < a.length) (hd : a.drop (i + 1) = b.drop (i + 1)) (h : a[i] < b[i]) : wv a < wv b := by
  rw [wv_split a i hi, wv_split b i (by omega), hd]
  have h1 := wv_lt (ha.take i)
  rw [List.length_take, Nat.min_eq_left (by omega)] at h1
  have h2 := Nat.mul_le_mul_right (BB ^ i) h
  rw [Nat.succ_mul] at h2
  omega
theorem nw_lt {a b : Nat} (h : nw a < nw b) : a < b := by
  have h1 := lt_nw a
  rcases Nat.lt_or_ge a b with h2 | h2
  · exact h2
  · have := nw_le.2 (Nat.lt_of_le_of_lt h2 h1)
    omega
end M
end Go.Proofs.YtellemlhhlafcaaGreatDoor
end
