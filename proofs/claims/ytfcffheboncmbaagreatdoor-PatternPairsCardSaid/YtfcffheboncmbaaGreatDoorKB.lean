/-
  The reference of layer 1: the small functions on texts.
  The reference of layer 1: 'wide', 'paper', 'number', 'brief'.
  The reference of layer 1: 'paper', a sum or a difference of digits in columns.
  The reference of layer 1 on canonical integers: the small functions by the numbers.
  The reference of layer 1: 'Of', 'Plus', 'Minus', 'Order'.
  The reference of layer 1: 'product' and 'Times'.
  The reference of layer 1: 'Times', 'divided', 'Parted', 'Shared'.
  The reference of layer 1: 'Parted', 'Shared'.
  The reference of layer 1: 'Shared'.
  The reference of layer 1: 'Check'.
-/
import Derived.Test.YtfcffheboncmbaaGreatDoorKA
import Derived.StillTailTactics
import Derived.Deep.QuietTactic
import Derived.BigQuiet
import Derived.Deep.RegionWith
import Derived.RegionTactic
import Derived.ChangeAlike
section
namespace Go.Proofs.YtfcffheboncmbaaGreatDoor
open Go Go.RowKit
namespace M
theorem b45 {c : UInt8} : ((c.toNat : Int) == 45) = (c == 45) := by
  rw [Bool.eq_iff_iff]; simp only [beq_iff_eq]
  constructor
  · intro h; exact UInt8.toNat_inj.1 (by simpa using (by omega : c.toNat = 45))
  · intro h; subst h; rfl
theorem b48 {c : UInt8} : ((c.toNat : Int) == 48) = (c == 48) := by
  rw [Bool.eq_iff_iff]; simp only [beq_iff_eq]
  constructor
  · intro h; exact UInt8.toNat_inj.1 (by simpa using (by omega : c.toNat = 48))
  · intro h; subst h; rfl
end M
namespace W
open M
attribute [local go_sem] bs_size bs_toList bs_get bs_extract bs_append bs_lit0 bs_lit1 lit1_bs
set_option maxHeartbeats 400000
end W
end Go.Proofs.YtfcffheboncmbaaGreatDoor
end
section
namespace Go.Proofs.YtfcffheboncmbaaGreatDoor
open Go Go.RowKit
namespace W
open M
attribute [local go_sem] bs_size bs_toList bs_get bs_extract bs_append bs_lit0 bs_lit1 lit1_bs
set_option maxHeartbeats 400000
end W
end Go.Proofs.YtfcffheboncmbaaGreatDoor
end
section
namespace Go.Proofs.YtfcffheboncmbaaGreatDoor
open Go Go.RowKit
namespace M
/-- What 'paper' has behind j columns that are still to come: the digits ds and the carry c. -/
def PapS (add : Bool) (A B ds : List UInt8) (j c : Nat) : Prop :=
  Digs ds ∧ c ≤ 1 ∧ (if add = true then val ds + c * 10 ^ ds.length = val (A.drop j) + val (B.drop j) else val ds + val (B.drop j) = val (A.drop j) + c * 10 ^ ds.length)
/-- A column's sum. -/
def colS (add : Bool) (x y c : Int) : Int := bif add then x - 48 + (y - 48) + c else x - 48 - (y - 48) - c
theorem colS_range {add : Bool} {x y c : Int} (hx : 48 ≤ x ∧ x ≤ 57) (hy : 48 ≤ y ∧ y ≤ 57) (hc : 0 ≤ c ∧ c ≤ 1) : -10 ≤ colS add x y c ∧ colS add x y c ≤ 19 := by
  unfold colS; cases add <;> simp <;> omega
theorem PapS.step {add : Bool} {A B ds : List UInt8} {m c : Nat} (hA : Digs A) (hB : Digs B) (hm : m < A.length) (hl : A.length = B.length) (hd : ds.length + (m + 1) = A.length) (h : PapS add A B ds (m + 1) c) :
    PapS add A B (colB (colS add (A[m].toNat : Int) (B[m].toNat : Int) c) :: ds) m (colC (colS add (A[m].toNat : Int) (B[m].toNat : Int) c)).toNat := by
  obtain ⟨h1, h2, h3⟩ := h
  have hm' : m < B.length := by omega
  have a1 := hA.get m hm
  have b1 := hB.get m hm'
  have e1 : A.length - (m + 1) = ds.length := by omega
  have e2 : B.length - (m + 1) = ds.length := by omega
  have r := colS_range (add := add) a1 b1 (c := (c : Int)) (by omega)
  have q := colD_range r
  have q2 := colB_eq r
  refine ⟨h1.cons (by omega), ?_⟩
  rw [val_cons, val_drop A m hm, val_drop B m hm', e1, e2, List.length_cons, Nat.pow_succ]
  cases add
  · simp only [Bool.false_eq_true, if_false] at h3 ⊢
    have k := col_sub (x := A[m].toNat - 48) (y := B[m].toNat - 48) h2 (by omega) (by omega) h3 (s := colS false (A[m].toNat : Int) (B[m].toNat : Int) c) (by unfold colS; simp; omega)
    exact ⟨k.2.1, by have := k.1; omega⟩
  · simp only [if_true] at h3 ⊢
    have k := col_add (x := A[m].toNat - 48) (y := B[m].toNat - 48) h2 (by omega) (by omega) h3 (s := colS true (A[m].toNat : Int) (B[m].toNat : Int) c) (by unfold colS; simp; omega)
    exact ⟨k.2.1, by have := k.1; omega⟩
/-- At the end the digits are those of the sum or difference. -/
theorem PapS.done {add : Bool} {a b ds : List UInt8} {n c : Nat} (ha : Digs a) (hb : Digs b) (hn : n = max a.length b.length + 1) (hlen : ds.length = n) (hge : add = false → val b ≤ val a) (h : PapS add (pad a n) (pad b n) ds 0 c) :
    strip ds = D (if add = true then val a + val b else val a - val b) := by
  obtain ⟨h1, h2, h3⟩ := h
  simp only [List.drop_zero, pad_val, hlen] at h3
  have l1 := val_lt h1
  have la := val_lt ha
  have lb := val_lt hb
  have pa : 10 ^ a.length ≤ 10 ^ (n - 1) := Nat.pow_le_pow_right (by decide) (by omega)
  have pb : 10 ^ b.length ≤ 10 ^ (n - 1) := Nat.pow_le_pow_right (by decide) (by omega)
  have pn : 10 ^ n = 10 ^ (n - 1) * 10 := by rw [← Nat.pow_succ]; congr 1; omega
  rw [hlen] at l1
  rw [strip_val (by intro e; subst e; simp at hlen; omega) h1]
  congr 1
  have hc : c = 0 ∨ c = 1 := by omega
  cases add
  · simp only [Bool.false_eq_true, if_false] at h3 ⊢
    have := hge rfl
    rcases hc with rfl | rfl <;> omega
  · simp only [if_true] at h3 ⊢
    rcases hc with rfl | rfl <;> omega
end M
namespace W
open M
attribute [local go_sem] bs_size bs_toList bs_get bs_extract bs_append bs_lit0 bs_lit1 lit1_bs
set_option maxHeartbeats 400000
end W
end Go.Proofs.YtfcffheboncmbaaGreatDoor
end
section
namespace Go.Proofs.YtfcffheboncmbaaGreatDoor
open Go Go.RowKit
namespace W
open M
attribute [local go_sem] bs_size bs_toList bs_get bs_extract bs_append bs_lit0 bs_lit1 lit1_bs
set_option maxHeartbeats 400000
end W
end Go.Proofs.YtfcffheboncmbaaGreatDoor
end
section
namespace Go.Proofs.YtfcffheboncmbaaGreatDoor
open Go Go.RowKit
namespace W
open M
attribute [local go_sem] bs_size bs_toList bs_get bs_extract bs_append bs_lit0 bs_lit1 lit1_bs
set_option maxHeartbeats 400000
end W
end Go.Proofs.YtfcffheboncmbaaGreatDoor
end
section
namespace Go.Proofs.YtfcffheboncmbaaGreatDoor
open Go Go.RowKit
namespace W
open M
attribute [local go_sem] bs_size bs_toList bs_get bs_extract bs_append bs_lit0 bs_lit1 lit1_bs
set_option maxHeartbeats 400000
end W
end Go.Proofs.YtfcffheboncmbaaGreatDoor
end
section
namespace Go.Proofs.YtfcffheboncmbaaGreatDoor
open Go Go.RowKit
namespace M
end M
namespace W
open M
attribute [local go_sem] bs_size bs_toList bs_get bs_extract bs_append bs_lit0 bs_lit1 lit1_bs
set_option maxHeartbeats 400000
end W
end Go.Proofs.YtfcffheboncmbaaGreatDoor
end
section
namespace Go.Proofs.YtfcffheboncmbaaGreatDoor
open Go Go.RowKit
namespace W
open M
attribute [local go_sem] bs_size bs_toList bs_get bs_extract bs_append bs_lit0 bs_lit1 lit1_bs
set_option maxHeartbeats 400000
end W
end Go.Proofs.YtfcffheboncmbaaGreatDoor
end
section
namespace Go.Proofs.YtfcffheboncmbaaGreatDoor
open Go Go.RowKit
namespace W
open M
attribute [local go_sem] bs_size bs_toList bs_get bs_extract bs_append bs_lit0 bs_lit1 lit1_bs
set_option maxHeartbeats 400000
end W
end Go.Proofs.YtfcffheboncmbaaGreatDoor
end
section
namespace Go.Proofs.YtfcffheboncmbaaGreatDoor
open Go Go.RowKit
namespace M
end M
namespace W
open M
attribute [local go_sem] bs_size bs_toList bs_get bs_extract bs_append bs_lit0 bs_lit1 lit1_bs
set_option maxHeartbeats 400000
end W
end Go.Proofs.YtfcffheboncmbaaGreatDoor
end
