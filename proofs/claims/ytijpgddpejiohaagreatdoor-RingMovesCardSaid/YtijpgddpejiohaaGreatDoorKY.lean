/-
  Chapter 46, plain: the excess by pairs of conditions ('Lowest'); what changes it; the size of the simplex' numbers.
  Chapter 35, plain: the linear program of an annulus is decided.
  Chapter 35 of the program: the simplex at the bounds of points.
  Chapter 35 of the program: 'Ring'.
  Chapter 35's laws: what the examples' calls return.
-/
import Derived.Test.YtijpgddpejiohaaGreatDoorKX
import Derived.Test.YtijpgddpejiohaaGreatDoorKP
import Derived.Test.YtijpgddpejiohaaGreatDoorKL
import Derived.Test.YtijpgddpejiohaaGreatDoorKW
section
namespace Go.Proofs.YtijpgddpejiohaaGreatDoor
open Go
namespace M
end M
namespace Sx
open M
def HalfI (z : Nat) (x : Rat) : Prop := ∃ k : Int, 2 * x = k ∧ k.natAbs ≤ z
theorem HalfI.int {z : Nat} {k : Int} (h : 2 * k.natAbs ≤ z) : HalfI z (k : Rat) := ⟨2 * k, by rw [Rat.intCast_mul]; rfl, by omega⟩
theorem HalfI.zero (z : Nat) : HalfI z 0 := ⟨0, by decide +kernel, by omega⟩
def Unit1 (x : Rat) : Prop := x = 0 ∨ x = 1 ∨ x = -1
theorem nth_half {l : List Rat} {z : Nat} (h : ∀ x ∈ l, HalfI z x) (k : Nat) : HalfI z (nth l k) := by
  unfold nth
  by_cases hk : k < l.length
  · rw [show l.getD k 0 = l[k] by simp [hk]]; exact h _ (List.getElem_mem hk)
  · rw [show l.getD k 0 = 0 by simp [Nat.not_lt.1 hk]]; exact HalfI.zero _
theorem nth_unit1 {l : List Rat} (h : ∀ x ∈ l, Unit1 x) (k : Nat) : Unit1 (nth l k) := by
  unfold nth
  by_cases hk : k < l.length
  · rw [show l.getD k 0 = l[k] by simp [hk]]; exact h _ (List.getElem_mem hk)
  · rw [show l.getD k 0 = 0 by simp [Nat.not_lt.1 hk]]; exact Or.inl rfl
theorem HalfI.neg {z : Nat} {x : Rat} (h : HalfI z x) : HalfI z (-x) := by
  obtain ⟨k, h1, h2⟩ := h
  exact ⟨-k, by rw [Rat.intCast_neg, ← h1]; grind, by omega⟩
theorem HalfI.ab {z : Nat} {x : Rat} (h : HalfI z x) : IsI (2 * x) ∧ ab (2 * x) ≤ ((z : Nat) : Rat) := by
  obtain ⟨k, h1, h2⟩ := h
  refine ⟨⟨k, h1⟩, ?_⟩
  rw [h1, ab_int]
  exact Rat.natCast_le_natCast.2 h2
theorem Unit1.ab {x : Rat} (h : Unit1 x) : IsI (2 * x) ∧ ab (2 * x) ≤ ((2 : Nat) : Rat) := by
  rcases h with rfl | rfl | rfl
  · exact ⟨⟨0, by decide +kernel⟩, by decide +kernel⟩
  · exact ⟨⟨2, by decide +kernel⟩, by decide +kernel⟩
  · exact ⟨⟨-2, by decide +kernel⟩, by decide +kernel⟩
theorem Unit1.neg {x : Rat} (h : Unit1 x) : Unit1 (-x) := by
  rcases h with rfl | rfl | rfl
  · exact Or.inl (by grind)
  · exact Or.inr (Or.inr rfl)
  · exact Or.inr (Or.inl (by grind))
theorem half_int {z : Nat} {k : Int} (h : 2 * k.natAbs ≤ z) : HalfI z (k : Rat) := HalfI.int h
end Sx
end Go.Proofs.YtijpgddpejiohaaGreatDoor
end
section
namespace Go.Proofs.YtijpgddpejiohaaGreatDoor
open Go
namespace Sx
open M
def RightA (n : Nat) (l : List BQ) : Prop := ∀ b ∈ l, b.1.length = n ∧ (∀ x ∈ b.1, HalfI 400000 x) ∧ HalfI 40000000000 b.2
theorem szd_ring {n : Nat} {l : List BQ} {goal : List Rat} (hr : RightA n l) (hg : ∀ x ∈ goal, Unit1 x) (hm : l.length ≤ 18) : Szd n l.length (laidA n l) (goalF n goal) ((800000000000 : Nat) : Rat) := by
  have hart : goalF n goal (2 * n + l.length) = 0 := by unfold goalF; rw [if_neg (by omega), if_neg (by omega)]
  refine ⟨fun j _ => by unfold goalF; rw [if_neg (by omega), if_neg (by omega)], by rw [hart]; exact ⟨0, rfl⟩, by rw [hart]; decide +kernel, ?_⟩
  have keyR : ∀ k, (k < 2 * n ∨ k = 2 * n + l.length + 1) → ∀ r, r < l.length → HalfI (if k < 2 * n then 400000 else 40000000000) (laidA n l r k) := fun k hk r hr2 => by
    have hb := hr _ (getD_mem hr2)
    unfold laidA wdt
    rw [if_pos hr2]
    by_cases h1 : k < n
    · rw [if_pos h1, if_pos (by omega)]; exact nth_half hb.2.1 _
    · rw [if_neg h1]
      by_cases h2 : k < 2 * n
      · rw [if_pos h2, if_pos h2]; exact (nth_half hb.2.1 _).neg
      · rw [if_neg h2, if_neg h2, if_neg (by omega), if_neg (by omega), if_pos (by omega)]; exact hb.2.2
  have keyG : ∀ k, (k < 2 * n ∨ k = 2 * n + l.length + 1) → Unit1 (goalF n goal k) ∧ (¬ k < 2 * n → goalF n goal k = 0) := fun k hk => by
    unfold goalF
    by_cases h1 : k < n
    · rw [if_pos h1]; exact ⟨nth_unit1 hg _, fun h => by omega⟩
    · rw [if_neg h1]
      by_cases h2 : k < 2 * n
      · rw [if_pos h2]; exact ⟨(nth_unit1 hg _).neg, fun h => by omega⟩
      · rw [if_neg h2]; exact ⟨Or.inl rfl, fun _ => rfl⟩
  refine ⟨fun _ => 2, fun k hk => ⟨⟨2, rfl⟩, (by decide +kernel : (1 : Rat) ≤ 2), (by decide +kernel : (2 : Rat) ≤ ((800000000000 : Nat) : Rat)), fun r hr2 => ?_, ?_⟩⟩
  · cases r with
    | zero => exact (keyG k hk).1.ab.1
    | succ r => exact (keyR k hk r (by omega)).ab.1
  · rw [sm_head]
    have h1 : sm l.length (fun r => ab (2 * xt (laidA n l) (goalF n goal) k (r + 1))) ≤ sm l.length (fun _ => (((if k < 2 * n then 400000 else 40000000000) : Nat) : Rat)) := sm_le fun r hr2 => (keyR k hk r hr2).ab.2
    rw [sm_const, ← Rat.natCast_mul] at h1
    have h2 : ab (2 * xt (laidA n l) (goalF n goal) k 0) ≤ (((if k < 2 * n then 2 else 0) : Nat) : Rat) := by
      show ab (2 * goalF n goal k) ≤ _
      by_cases h3 : k < 2 * n
      · rw [if_pos h3]; exact (keyG k hk).1.ab.2
      · rw [if_neg h3, (keyG k hk).2 h3]; decide +kernel
    have h4 : ((if k < 2 * n then 2 else 0) + l.length * (if k < 2 * n then 400000 else 40000000000) : Nat) ≤ 800000000000 := by split <;> omega
    have h5 := Rat.natCast_le_natCast.2 h4
    rw [Rat.natCast_add] at h5
    grind
theorem fitsR4 : ∀ m, m < 17 → 800000000000 ^ 4 * (m + 1) * 800000000000 < 10 ^ 61 := by decide +kernel
theorem ring_len (l : List PZ) : (ringB l).length = 2 * l.length := by
  unfold ringB
  induction l with
  | nil => rfl
  | cons p t ih => simp only [List.flatMap_cons, List.length_append, List.length_cons, List.length_nil] at *; omega
theorem ring_rightA {l : List PZ} (h : ∀ p ∈ l, inC p.1 = true ∧ inC p.2 = true) : RightA 4 (ringB l) := fun b hb => by
  obtain ⟨p, hp, hb⟩ := List.mem_flatMap.1 hb
  obtain ⟨h1, h2⟩ := h p hp
  unfold inC at h1 h2
  simp only [Bool.and_eq_true, decide_eq_true_eq] at h1 h2
  have hn : (nrmZ p).natAbs ≤ 20000000000 := by
    unfold nrmZ
    have a1 : p.1.natAbs * p.1.natAbs ≤ 100000 * 100000 := Nat.mul_le_mul (by omega) (by omega)
    have a2 : p.2.natAbs * p.2.natAbs ≤ 100000 * 100000 := Nat.mul_le_mul (by omega) (by omega)
    have e1 : (p.1 * p.1).natAbs = p.1.natAbs * p.1.natAbs := Int.natAbs_mul _ _
    have e2 : (p.2 * p.2).natAbs = p.2.natAbs * p.2.natAbs := Int.natAbs_mul _ _
    omega
  simp only [List.mem_cons, List.not_mem_nil, or_false] at hb
  rcases hb with rfl | rfl
  · refine ⟨rfl, fun x hx => ?_, half_int (by omega)⟩
    simp only [List.mem_cons, List.not_mem_nil, or_false] at hx
    rcases hx with rfl | rfl | rfl | rfl
    · exact half_int (by omega)
    · exact half_int (by omega)
    · exact HalfI.zero _
    · exact ⟨-2, by decide +kernel, by omega⟩
  · refine ⟨rfl, fun x hx => ?_, half_int (by omega)⟩
    simp only [List.mem_cons, List.not_mem_nil, or_false] at hx
    rcases hx with rfl | rfl | rfl | rfl
    · exact half_int (by omega)
    · exact half_int (by omega)
    · exact ⟨2, by decide +kernel, by omega⟩
    · exact HalfI.zero _
theorem ringG_unit : ∀ x ∈ ringG, Unit1 x := fun x hx => by
  simp only [ringG, List.mem_cons, List.not_mem_nil, or_false] at hx
  rcases hx with rfl | rfl | rfl | rfl
  · exact Or.inl rfl
  · exact Or.inl rfl
  · exact Or.inr (Or.inl rfl)
  · exact Or.inr (Or.inr rfl)
theorem most_ring {l : List PZ} (h : ∀ p ∈ l, inC p.1 = true ∧ inC p.2 = true) (hl : l.length ≤ 8) :
    ∃ f r, mostT 61 f 4 (ringB l) ringG = some r ∧ Found 61 4 (ringB l) ringG r :=
  most_end (szd_ring (ring_rightA h) ringG_unit (by rw [ring_len]; omega)) (fits_of (by rw [ring_len]; omega) (Or.inl (fitsR4 _ (by rw [ring_len]; omega)))) (fun x hx => by
    rcases ringG_unit x hx with rfl | rfl | rfl
    · exact Bq_nil.mono (by decide)
    · exact ⟨by decide +kernel, by decide +kernel⟩
    · exact ⟨by decide +kernel, by decide +kernel⟩) (by decide)
end Sx
end Go.Proofs.YtijpgddpejiohaaGreatDoor
end
section
namespace Go.Proofs.YtijpgddpejiohaaGreatDoor
open Go Go.RowKit Go.Deep Go.Sort
namespace W
open M
set_option maxHeartbeats 2000000
set_option maxRecDepth 20000
theorem ring_rightW {l : List PZ} (hp : ∀ p ∈ l, inP p = true) : RightW 4 (Sx.ringB l) := by
  intro b hb
  simp only [Sx.ringB, List.mem_flatMap, List.mem_cons, List.not_mem_nil, or_false] at hb
  obtain ⟨p, hpl, hb⟩ := hb
  have h := hp p hpl
  have hn := nrm_bd h
  simp only [inP, inC, Bool.and_eq_true, decide_eq_true_eq] at h
  have hi : ∀ z : Int, z.natAbs < 10 ^ 20 → Bq 20 (z : Rat) := fun z hz => ⟨by rw [Rat.num_intCast]; exact hz, by rw [Rat.den_intCast]; decide⟩
  have h0 : Bq 20 (0 : Rat) := hi 0 (by decide)
  have h1 : Bq 20 (1 : Rat) := hi 1 (by decide)
  have hm : Bq 20 (-1 : Rat) := hi (-1) (by decide)
  rcases hb with rfl | rfl
  · refine ⟨rfl, fun x hx => ?_, hi _ (by omega)⟩
    simp only [List.mem_cons, List.not_mem_nil, or_false] at hx
    rcases hx with rfl | rfl | rfl | rfl
    · exact hi _ (by omega)
    · exact hi _ (by omega)
    · exact h0
    · exact hm
  · refine ⟨rfl, fun x hx => ?_, hi _ (by omega)⟩
    simp only [List.mem_cons, List.not_mem_nil, or_false] at hx
    rcases hx with rfl | rfl | rfl | rfl
    · exact hi _ (by omega)
    · exact hi _ (by omega)
    · exact h1
    · exact h0
theorem pmost_ring {l : List PZ} (hp : ∀ p ∈ l, inP p = true) (hl : l ≠ []) (h8 : l.length ≤ 8) :
    ∃ v x w, Sx.Optim 4 (Sx.ringB l) Sx.ringG v x w ∧ Sx.Found 61 4 (Sx.ringB l) Sx.ringG (.inl (v, x, w)) ∧ ∀ (vl vg : Value) (W : World), Glob W → RdB W vl (bx (Sx.ringB l)) → RdT W vg (rx Sx.ringG) → Calls Tryz.prog 18 #[.int .i64 4, vl, vg] W (MostP W (.inl (v, x, w))) := by
  obtain ⟨f, r, hm, hf⟩ := Sx.most_ring (l := l) (fun p h => by have := hp p h; simpa [inP] using this) h8
  obtain ⟨v, x, w, rfl, ho⟩ := Sx.ring_found hl hf
  have hlen : (Sx.ringB l).length = 2 * l.length := by have := ringB_len l; rw [bx_len] at this; exact this
  have hpos : 0 < l.length := List.length_pos_iff.2 hl
  exact ⟨v, x, w, ho, hf, fun vl vg W hW h1 h2 => pmostW 61 f 4 (by decide) (by decide) (by decide) (Sx.ringB l) Sx.ringG _ hm vl vg W hW h1 h2 (by decide) (by decide) (ring_rightW hp) (by omega) (by omega) rfl (fun x hx => by
    rcases Sx.ringG_unit x hx with rfl | rfl | rfl
    · exact ⟨by decide +kernel, by decide +kernel⟩
    · exact ⟨by decide +kernel, by decide +kernel⟩
    · exact ⟨by decide +kernel, by decide +kernel⟩)⟩
end W
end Go.Proofs.YtijpgddpejiohaaGreatDoor
end
section
namespace Go.Proofs.YtijpgddpejiohaaGreatDoor
open Go Go.RowKit Go.Deep Go.Sort
namespace W
open M
attribute [local go_sem] bs_size bs_toList bs_get bs_extract bs_append bs_lit0 bs_lit1 lit1_bs
set_option maxHeartbeats 4000000
set_option maxRecDepth 20000
theorem join1 {α : Type} {K : Act → World → Prop} {G : Prop} {a : α → Act} {P : α → World → Prop} (main : (∀ g E, P g E → K (a g) E) → G) (rest : ∀ g E, P g E → K (a g) E) : G := main rest
theorem ring_data {l : List PZ} (hne : l ≠ []) {v : Rat} {x wt : List Rat} (ho : Sx.Optim 4 (Sx.ringB l) Sx.ringG v x wt) (hf : Sx.Found 61 4 (Sx.ringB l) Sx.ringG (.inl (v, x, wt))) :
    WidIs l (widQ l (nth x 0, nth x 1)) ∧ Bq 61 (nth x 0) ∧ Bq 61 (nth x 1) ∧ Bq 123 (widQ l (nth x 0, nth x 1)) ∧ ∀ k, Bq 61 (nth wt k) := by
  have hn : ∀ (y : List Rat), (∀ z ∈ y, Bq 61 z) → ∀ k, Bq 61 (nth y k) := fun y hy k => by
    unfold nth
    by_cases hk : k < y.length
    · have e : y.getD k 0 = y[k] := by simp [hk]
      rw [e]; exact hy _ (List.getElem_mem hk)
    · have e : y.getD k 0 = 0 := by simp [List.getD, List.getElem?_eq_none (by omega : y.length ≤ k)]
      rw [e]; exact ⟨by decide +kernel, by decide +kernel⟩
  have hx := hn x hf.2.1
  obtain ⟨h1, h2⟩ := Sx.ring_opt hne ho
  refine ⟨h1, hx 0, hx 1, ?_, hn wt hf.2.2.1⟩
  have e : widQ l (nth x 0, nth x 1) = nth x 3 - nth x 2 := by
    rw [h2, ← ho.2.1, Sx.ring_goal]
    grind
  rw [e]
  exact (Bq.sub (hx 3) (hx 2)).mono (by decide)
theorem pring (vl : Value) (l : List PZ) (w : World) (hg : Glob w) (hl : RdV w vl l) (hne : l ≠ []) (hp : ∀ p ∈ l, inP p = true) (h8 : l.length ≤ 8) :
    Calls Tryz.prog 96 #[vl] w (fun e w' => ∃ c vw, e = .returned (.tuple #[zoV (zoQ c (innQ l c) (outQ l c)), vw, .int .i64 0]) ∧ WidIs l (widQ l c) ∧ Bq 61 c.1 ∧ Bq 61 c.2 ∧ Bq 123 (widQ l c) ∧ Below w.heap.size w w') := by
  obtain ⟨v, x, wt, ho, hf, hm⟩ := pmost_ring hp hne h8
  have HW := Lib.hid (ring_data hne ho hf)
  have hxl : (rx x).length = 4 := by rw [rx_len]; exact ho.1.1
  have hwl : (rx wt).length = 2 * l.length := by rw [rx_len, ho.2.2.1]; have := ringB_len l; rwa [bx_len] at this
  have hgv := fun W (hW : Below w.heap.size w W) => pgiven vl l W (hl.below hW)
  rw [givP_iff.2 ⟨by omega, hne, hp⟩] at hgv
  have hbd := fun W (hW : Below w.heap.size w W) => pboundsR vl l W (hl.below hW)
  have hco := fun W (hW : Below w.heap.size w W) => pcollect 205 #[.pointer (some ⟨W.heap.size, 0, none⟩)] (bx (Sx.ringB l)) (W.alloc (.cells #[vl] 39 (0, 0))) ent_iter (by rw [ringB_len]; omega)
    (piter W.heap.size vl l (W.alloc (.cells #[vl] 39 (0, 0))) (hg.of (bel_to hW (bel_al _ _))) (hl.below (bel_to hW (bel_al _ _))) ((rnw (xs := [vl])).cell (i := 0) rfl) hp (by omega))
  have HM := Lib.hid (fun vb vg W (hW : Below w.heap.size w W) => hm vb vg W (hg.of hW))
  have HG := Lib.hid hgv
  have HB := Lib.hid hbd
  have HC := Lib.hid hco
  have HA := Lib.hid (fun c (h1 : Bq 61 c.1) (h2 : Bq 61 c.2) W (hW : Below w.heap.size w W) => pat35 vl l c 61 W (hg.of hW) (hl.below hW) hne hp h1 h2 (by decide) (by omega))
  have h28 : (l.length : Int) ≤ 8 := by omega
  have h64 : IntKind.i64.wrap (2 * (l.length : Int)) = 2 * (l.length : Int) := IntWalk.i64_in _ (by omega)
  obtain ⟨A, ca, rfl⟩ := hl.len
  clear hgv hbd hco hm hl
  go_enter Tryz.func96, Tryz.ntmps96
  have HZ := Lib.hid (And.intro (rnw (w := w) (t := 43) (xs := [.string ⟨#[]⟩, .string ⟨#[]⟩, .string ⟨#[]⟩, .string ⟨#[]⟩])) (bel_alloc (Below.refl w.heap.size w) (.cells #[.string ⟨#[]⟩, .string ⟨#[]⟩, .string ⟨#[]⟩, .string ⟨#[]⟩] 43 (0, 0))))
  go_wp2_with fail
  refine (HG.out _ HZ.out.2).mono ?_
  rintro e w1 ⟨rfl, hb1⟩
  have H1 := Lib.hid (And.intro (HZ.out.1.below' hb1) (bel_to HZ.out.2 hb1))
  clear hb1 HZ HG
  go_wp2_with fail
  refine (HB.out _ H1.out.2).mono ?_
  rintro e W2 ⟨rfl, rfl⟩
  have H2 := Lib.hid (And.intro (H1.out.1.below' (bel_al w1 (.cells #[.slice A l.length ca] 39 (0, 0)))) (bel_to H1.out.2 (bel_al w1 (.cells #[.slice A l.length ca] 39 (0, 0)))))
  have HC2 := Lib.hid (HC.out _ H1.out.2)
  clear HB HC
  go_wp2_with fail
  refine HC2.out.mono ?_
  rintro e W3 ⟨vb, es, rfl, ho3, hg3, he3, hb3⟩
  obtain ⟨Ab, nb, cb, rfl⟩ : ∃ A n c, vb = .slice A n c := by
    rcases ho3.2 with ⟨e, _⟩ | ⟨_, _, _, e, _⟩
    · exact ⟨_, _, _, e⟩
    · exact ⟨_, _, _, e⟩
  have hrb : RdB W3 (.slice Ab nb cb) (bx (Sx.ringB l)) := by rw [← he3]; exact OwnE.rd ho3 hg3.good
  have H3 := Lib.hid (And.intro (H2.out.1.below' hb3) (bel_to H2.out.2 hb3))
  have hal := bel_al W3 (.cells (Strs [[48], [48], [49], [45, 49]]).toArray 29 (0, 0))
  have hgo : RdT (W3.alloc (.cells (Strs [[48], [48], [49], [45, 49]]).toArray 29 (0, 0))) (.slice (some ⟨W3.heap.size, 0, none⟩) 4 4) (rx Sx.ringG) := by
    have e : rx Sx.ringG = [[48], [48], [49], [45, 49]] := by decide +kernel
    rw [e]
    exact OwnS.rd (B := 0) ⟨rfl, Or.inr ⟨_, 4, _, rfl, Nat.zero_le _, rnw (xs := Strs [[48], [48], [49], [45, 49]]), Nat.le_refl _, by unfold maxLen; omega, rfl, rfl⟩⟩
  have HM4 := Lib.hid (HM.out (.slice Ab nb cb) _ _ (bel_to H3.out.2 hal) (hrb.below hal) hgo)
  have H4 := Lib.hid (And.intro (H3.out.1.below' hal) (bel_to H3.out.2 hal))
  clear hal hgo hrb ho3 hg3 he3 hb3 HM H2 H1 HC2 H3
  go_wp2_with fail
  refine HM4.out.mono ?_
  rintro e W4 ⟨v1, v2, rfl, hx4, hw4, hb4⟩
  obtain ⟨A1, c1, rfl⟩ := hx4.rd.len
  obtain ⟨A2, c2, rfl⟩ := hw4.rd.len
  have hal := bel_al W4 (.cells #[.int .i64 0] 125 (0, 0))
  have HXW := Lib.hid (And.intro (hx4.rd.below hal) (hw4.rd.below hal))
  have H5 := Lib.hid (And.intro (H4.out.1.below' (bel_to hb4 hal)) (bel_to H4.out.2 (bel_to hb4 hal)))
  have HE := Lib.hid (show NoErR (W4.alloc (.cells #[.int .i64 0] 125 (0, 0))) W4.heap.size from rnw)
  clear hx4 hw4 hb4 hal HM4 H4
  go_wp2_with fail
  obtain ⟨W5, hW5⟩ : ∃ V, V = W4.alloc (.cells #[.int .i64 0] 125 (0, 0)) := ⟨_, rfl⟩
  obtain ⟨b, hb⟩ : ∃ b, b = W4.heap.size := ⟨_, rfl⟩
  rw [← hW5] at HXW H5 HE ⊢
  rw [← hb] at HE ⊢
  clear hW5 hb
  rw [hxl, hwl] at HXW
  obtain ⟨b1, o1, rfl, hs1⟩ := HXW.out.1.row 0 (by rw [hxl]; omega)
  obtain ⟨b2, o2, rfl, hs2⟩ := HXW.out.2.row 0 (by rw [hwl]; have := List.length_pos_iff.2 hne; omega)
  have hmp := List.length_pos_iff.2 hne
  obtain ⟨m, hm⟩ : ∃ m, m = l.length := ⟨_, rfl⟩
  have HC := Lib.hid (fun W k (hk : k < 2 * m) (hW : Below W5.heap.size W5 W) => (by
    have hk1 : k < (rx wt).length := by rw [hwl, ← hm]; exact hk
    have h := (hs2.below' hW).val k hk1
    have hk2 : k < wt.length := by rwa [rx_len] at hk1
    rw [rx_get _ _ hk2] at h
    have e : nth wt k = wt[k] := by unfold nth; simp [hk2]
    rw [e]; exact h : W.cell? ⟨b2, o2 + k, none⟩ = some (.string (bs (R (nth wt k))))))
  have HCX := Lib.hid (fun W (hW : Below W5.heap.size W5 W) => (by
    have hl4 : x.length = 4 := ho.1.1
    have h0 := (hs1.below' hW).val 0 (by rw [hxl]; decide)
    have h1 := (hs1.below' hW).val 1 (by rw [hxl]; decide)
    rw [rx_get _ _ (by omega)] at h0 h1
    have e0 : nth x 0 = x[0] := by unfold nth; simp [hl4]
    have e1 : nth x 1 = x[1] := by unfold nth; simp [hl4]
    rw [e0, e1]
    exact ⟨h0, h1⟩ : W.cell? ⟨b1, o1, none⟩ = some (.string (bs (R (nth x 0)))) ∧ W.cell? ⟨b1, o1 + 1, none⟩ = some (.string (bs (R (nth x 1))))))
  have HS := Lib.hid (fun W i (hW : Below W5.heap.size W5 W) => prsub b (nth wt (2 * i)) (nth wt (2 * i + 1)) 61 61 W (hg.of (bel_to H5.out.2 hW)) (HE.out.below' hW) (HW.out.2.2.2.2 _) (HW.out.2.2.2.2 _) (by decide))
  have HAT := Lib.hid (fun W (hW : Below W5.heap.size W5 W) => HA.out (nth x 0, nth x 1) HW.out.2.1 HW.out.2.2.1 W (bel_to H5.out.2 hW))
  have HER := Lib.hid (fun W (hW : Below W5.heap.size W5 W) => HE.out.below' hW)
  clear HXW hs1 hs2 ho hf hxl hwl HA HE hg hp
  rw [← hm] at h8 h28 h64 hmp HAT ⊢
  clear hm
  go_loopw [11, 43] (fun ov iv wr => ∃ (i : Nat) (vo : Value), iv = .int .i64 (i : Int) ∧ ov = vo ∧ i ≤ m ∧ Hid (OwnS wr W5.heap.size vo (mapR (fun k => nth wt (2 * k) - nth wt (2 * k + 1)) i) ∧ Below W5.heap.size W5 wr)) (fun _ iv _ => m - (intOf iv).toNat)
  case atStart => exact ⟨0, _, rfl, rfl, by omega, Lib.hid ⟨World.ownsRow_nil _ _ _ _, Below.refl _ _⟩⟩
  case round =>
    obtain ⟨i, vo, rfl, hvo, hi, hin⟩ := hrel
    have hvo := hvo.symm
    subst hvo
    by_cases hlt : i < m
    · have c4 := HC.out wr (2 * i) (by omega) hin.out.2
      have c5 := HC.out wr (2 * i + 1) (by omega) hin.out.2
      have k1 := reg_of (w := wr) (fun W hW => HS.out W i (bel_to hin.out.2 hW))
      have hw1 : IntKind.i64.wrap (2 * (i : Int)) = ((2 * i : Nat) : Int) := by rw [IntWalk.i64_in _ (by omega)]; omega
      have hw2 : IntKind.i64.wrap (((2 * i : Nat) : Int) + 1) = ((2 * i + 1 : Nat) : Int) := by rw [IntWalk.i64_in _ (by omega)]; omega
      have HFM : Hid (mapR (fun k => nth wt (2 * k) - nth wt (2 * k + 1)) (i + 1) = mapR (fun k => nth wt (2 * k) - nth wt (2 * k + 1)) i ++ [R (nth wt (2 * i) - nth wt (2 * i + 1))]) := Lib.hid (mapR_snoc _ _)
      obtain ⟨y, hy⟩ : ∃ y, y = 2 * i := ⟨_, rfl⟩
      obtain ⟨z, hz⟩ : ∃ z, z = 2 * i + 1 := ⟨_, rfl⟩
      obtain ⟨L, hL⟩ : ∃ L, L = 2 * m := ⟨_, rfl⟩
      have hyL : (y : Int) < (L : Int) := by omega
      have hy0 : (0 : Int) ≤ (y : Int) := by omega
      have hzL : (z : Int) < (L : Int) := by omega
      have hz0 : (0 : Int) ≤ (z : Int) := by omega
      rw [← hz] at c5 k1 hw2 HFM
      rw [← hy] at c4 k1 hw1 hw2 HFM
      rw [← hL]
      have m4 := cell_regrown c4
      have m5 := cell_regrown c5
      have e2 : ∀ args w, (callFunc 92 args).run Tryz.prog w = .ok (.enter 92 args) w := enters_of Tryz.func92 (by kernel_rfl) rfl
      clear c4 c5 hy hz hL HC HS HCX HAT HW H5
      go_wp2_with fail
      refine region_below_tail1 (v := vo) 13 (by kernel_rfl) (by kernel_rfl) (fun _ _ _ h => h) (Or.inl ⟨by rfl, fun wz => by go_simp⟩) ?_
      simp only [List.take_succ_cons, List.take_zero, List.drop_succ_cons, List.drop_zero, Act.put, List.setIfInBounds_toArray, List.set_cons_zero, List.set_cons_succ]
      repeat (go_big_quiet_step (fail))
      go_big_quiet_step (exact k1 _ _)
      repeat (go_big_quiet_step (fail))
      refine wpQuiet_nil ?_
      intro W6 hw'
      have hb6 : Below wr.heap.size wr W6 := by obtain ⟨p, e⟩ := hw'; rw [e]; exact below_regrown wr p.d p.os
      clear hw'
      have HT6 : Hid (OwnS W6 W5.heap.size vo (mapR (fun k => nth wt (2 * k) - nth wt (2 * k + 1)) i) ∧ Below W5.heap.size W5 W6) := Lib.hid ⟨hin.out.1.below hb6, bel_to hin.out.2 hb6⟩
      clear k1 m4 m5 e2 hb6 hin hw1 hw2
      go_wp2_with (at_builtin; refine wpList_app_s (q := R (nth wt y - nth wt z)) rfl _ _ rfl rfl rfl rfl HT6.out.1 HT6.out.2.size (by rw [mapR_len]; omega) ?_; intro v2 w2 ho2 hk2)
      have HFI : Hid (OwnS w2 W5.heap.size v2 (mapR (fun k => nth wt (2 * k) - nth wt (2 * k + 1)) (i + 1)) ∧ Below W5.heap.size W5 w2) := Lib.hid ⟨by
        rw [HFM.out]; exact ho2, hk2 _ _ (Nat.le_refl _) HT6.out.2⟩
      clear ho2 hk2 HT6
      go_wp2
      go_roundw
      case rel => exact ⟨i + 1, _, by go_num, rfl, hlt, HFI⟩
      case measure => simp [intOf]; omega
    · obtain rfl : m = i := by omega
      clear HC HS h64
      obtain ⟨sx, hsx⟩ : ∃ s, s = R (nth x 0) := ⟨_, rfl⟩
      obtain ⟨sy, hsy⟩ : ∃ s, s = R (nth x 1) := ⟨_, rfl⟩
      obtain ⟨si, hsi⟩ : ∃ s, s = R (innQ l (nth x 0, nth x 1)) := ⟨_, rfl⟩
      obtain ⟨so, hso⟩ : ∃ s, s = R (outQ l (nth x 0, nth x 1)) := ⟨_, rfl⟩
      unfold ceV zoV zoQ ceQ at HAT
      simp only at HAT
      rw [← hsx, ← hsy, ← hsi, ← hso] at HAT
      rw [← hsx, ← hsy] at HCX
      have HSS := Lib.hid (And.intro (And.intro hsx hsy) (And.intro hsi hso))
      have HIN := Lib.hid hin.out.2
      clear hsx hsy hsi hso hin
      go_wp2_with fail
      rename_i K hK
      apply join1 (α := Nat) (K := K) (P := fun g E => Row E g 43 [.string (bs sx), .string (bs sy), .string (bs si), .string (bs so)] ∧ Below W5.heap.size W5 E)
      case main =>
        intro HF
        have HFI := Lib.hid HF
        clear HF
        go_region_held3 (fun E => E.cell? ⟨b1, o1, none⟩ = some (.string (bs sx)) ∧ E.cell? ⟨b1, o1 + 1, none⟩ = some (.string (bs sy)))
          (first | exact HCX.out _ HA6.out | exact HCX.out _ (bel_alloc HA6.out _) | exact HCX.out _ (zone_below (.string (bs sx)) (.string (bs sy)) (.string (bs si)) (.string (bs so)) HA6.out HIN.out.size) | exact HCX.out _ (bel_to HIN.out (RowKit.Below.drew (Below.refl wr.heap.size wr))) | exact HCX.out _ (bel_to HIN.out (RowKit.Below.drew (bel_alloc (Below.refl wr.heap.size wr) ZX5))) | exact HCX.out _ (bel_to HIN.out (bel_alloc (RowKit.Below.drew (Below.refl wr.heap.size wr)) ZX5)) | exact HCX.out _ (bel_to HIN.out (Below.refl wr.heap.size wr)) | exact HCX.out _ (bel_to HIN.out (bel_alloc (Below.refl wr.heap.size wr) ZX5)))
          (first | (go_at_call 78; refine (HAT.out _ (bel_to HIN.out (by first | exact RowKit.Below.drew (Below.refl wr.heap.size wr) | exact RowKit.Below.drew (bel_alloc (Below.refl wr.heap.size wr) ZX5) | exact bel_alloc (RowKit.Below.drew (Below.refl wr.heap.size wr)) ZX5 | exact Below.refl wr.heap.size wr | exact bel_alloc (Below.refl wr.heap.size wr) ZX5))).mono ?_; rintro e w6 ⟨rfl, hb6⟩; first
            | (have HA6 := Lib.hid (bel_to HIN.out (bel_to (RowKit.Below.drew (Below.refl wr.heap.size wr)) hb6)))
            | (have HA6 := Lib.hid (bel_to HIN.out (bel_to (RowKit.Below.drew (bel_alloc (Below.refl wr.heap.size wr) ZX5)) hb6)); have HN6 := Lib.hid ((show Row (wr.alloc ZX5).drew wr.heap.size 43 [.string ⟨#[]⟩, .string ⟨#[]⟩, .string ⟨#[]⟩, .string ⟨#[]⟩] from rnw).below' hb6); obtain ⟨⟨f0, n0⟩, ⟨f1, n1⟩, ⟨f2, n2⟩, ⟨f3, n3⟩, hrow⟩ := zone_store (.string (bs sx)) (.string (bs sy)) (.string (bs si)) (.string (bs so)) HN6.out)
            | (have HA6 := Lib.hid (bel_to HIN.out (bel_to (bel_alloc (RowKit.Below.drew (Below.refl wr.heap.size wr)) ZX5) hb6)); have HN6 := Lib.hid ((show Row (wr.drew.alloc ZX5) wr.heap.size 43 [.string ⟨#[]⟩, .string ⟨#[]⟩, .string ⟨#[]⟩, .string ⟨#[]⟩] from rnw).below' hb6); obtain ⟨⟨f0, n0⟩, ⟨f1, n1⟩, ⟨f2, n2⟩, ⟨f3, n3⟩, hrow⟩ := zone_store (.string (bs sx)) (.string (bs sy)) (.string (bs si)) (.string (bs so)) HN6.out)
            | (have HA6 := Lib.hid (bel_to HIN.out (bel_to (Below.refl wr.heap.size wr) hb6)))
            | (have HA6 := Lib.hid (bel_to HIN.out (bel_to (bel_alloc (Below.refl wr.heap.size wr) ZX5) hb6)); have HN6 := Lib.hid ((show Row (wr.alloc ZX5) wr.heap.size 43 [.string ⟨#[]⟩, .string ⟨#[]⟩, .string ⟨#[]⟩, .string ⟨#[]⟩] from rnw).below' hb6); obtain ⟨⟨f0, n0⟩, ⟨f1, n1⟩, ⟨f2, n2⟩, ⟨f3, n3⟩, hrow⟩ := zone_store (.string (bs sx)) (.string (bs sy)) (.string (bs si)) (.string (bs so)) HN6.out)))
        all_goals first
          | (have hz := HN6; clear hz; generalize hgg : wr.heap.size = gg; refine HFI.out gg _ ?_; rw [← hgg]; exact ⟨hrow, zone_below (.string (bs sx)) (.string (bs sy)) (.string (bs si)) (.string (bs so)) HA6.out HIN.out.size⟩)
          | (generalize hgg : w6.heap.size = gg; refine HFI.out gg _ ?_; rw [← hgg]; exact ⟨rnw, bel_alloc HA6.out _⟩)
      case rest =>
        intro g E hE
        refine hK _ _ ?_
        have e0 := (HER.out E hE.2).cell
        have f2 := hE.1.cell (i := 0) rfl
        have f3 := hE.1.cell (i := 1) rfl
        have f4 := hE.1.cell (i := 2) rfl
        have f5 := hE.1.cell (i := 3) rfl
        obtain ⟨⟨f0, n0⟩, ⟨f1, n1⟩, ⟨g2, n2⟩, ⟨g3, n3⟩, hrow⟩ := zone_store (.string (bs sx)) (.string (bs sy)) (.string (bs si)) (.string (bs so)) (H5.out.1.below' hE.2)
        have y0 := hrow.cell (i := 0) rfl
        have y1 := hrow.cell (i := 1) rfl
        have y2 := hrow.cell (i := 2) rfl
        have y3 := hrow.cell (i := 3) rfl
        have HQB := Lib.hid (zone_below (.string (bs sx)) (.string (bs sy)) (.string (bs si)) (.string (bs so)) (bel_to H5.out.2 hE.2) (A := w.heap.size) (Nat.le_refl _))
        clear hE hrow HER HCX HAT HIN H5
        go_wp2
        refine bodyPost_ret (v := .tuple #[.agg #[.string (bs sx), .string (bs sy), .string (bs si), .string (bs so)], vo, .int .i64 0]) (by simp [results, Tryz.results96, go_sem, y0, y1, y2, y3]) rfl ⟨(nth x 0, nth x 1), vo, ?_, HW.out.1, HW.out.2.1, HW.out.2.2.1, HW.out.2.2.2.1, HQB.out⟩
        unfold zoV zoQ ceQ
        simp only
        rw [← HSS.out.1.1, ← HSS.out.1.2, ← HSS.out.2.1, ← HSS.out.2.2]
theorem pwidth35 {l : List PZ} (hne : l ≠ []) (hp : ∀ p ∈ l, inP p = true) (h8 : l.length ≤ 8) :
    ∃ x, WidIs l x ∧ Bq 123 x ∧ ∀ (vl : Value) (w : World), Glob w → RdV w vl l → Calls Tryz.prog 38 #[vl] w (Ret w (.tuple #[.string (bs (R x)), .int .i64 0])) := by
  obtain ⟨v, x, wt, ho, hf, _⟩ := pmost_ring hp hne h8
  obtain ⟨d1, _, _, d2, _⟩ := ring_data hne ho hf
  refine ⟨_, d1, d2, fun vl w hg hl => ?_⟩
  have HU := Lib.hid (fun y (hy : WidIs l y) => hy.unique d1)
  generalize widQ l (nth x 0, nth x 1) = z at *
  have HP := Lib.hid (pring vl l w hg hl hne hp h8)
  have HG := Lib.hid hg
  obtain ⟨A, ca, rfl⟩ := hl.len
  have HIP := Lib.hid hp
  have HN := Lib.hid hne
  clear hl hg ho hf d1 d2 hp hne h8
  go_enter Tryz.func38, Tryz.ntmps38
  go_wp2_with fail
  refine HP.out.mono ?_
  rintro e w1 ⟨c, vw, rfl, hw, b1, b2, b3, hb⟩
  have hz : widQ l c = z := HU.out _ hw
  have hI : Bq 273 (innQ l c) := (lo_bq (e := 4 * 61 + 29) fun k _ => by
    by_cases hk : k < l.length
    · rw [farF_get l c hk]; exact far_bq (HIP.out _ (List.getElem_mem hk)) b1 b2
    · have e : farF l c k = farQ (0, 0) c := by unfold farF; simp [List.getD, List.getElem?_eq_none (by omega : l.length ≤ k)]
      rw [e]; exact far_bq (by decide) b1 b2)
  have hO : Bq 273 (outQ l c) := (hi_bq (e := 4 * 61 + 29) fun k _ => by
    by_cases hk : k < l.length
    · rw [farF_get l c hk]; exact far_bq (HIP.out _ (List.getElem_mem hk)) b1 b2
    · have e : farF l c k = farQ (0, 0) c := by unfold farF; simp [List.getD, List.getElem?_eq_none (by omega : l.length ≤ k)]
      rw [e]; exact far_bq (by decide) b1 b2)
  have hs := fun W hW => ratSub (outQ l c) (innQ l c) 273 273 W hW hO hI (by decide)
  rw [show outQ l c - innQ l c = z from hz] at hs
  have HS := Lib.hid hs
  clear hs hO hI hz hw b1 b2 b3 HU
  unfold zoV zoQ ceQ
  simp only
  generalize R c.1 = sx
  generalize R c.2 = sy
  generalize R (innQ l c) = si at *
  generalize R (outQ l c) = so at *
  have hal := bel_al w1 (.cells #[.string (bs sx), .string (bs sy), .string (bs si), .string (bs so)] 43 (0, 0))
  have hr := (rnw (w := w1) (t := 43) (xs := [.string (bs sx), .string (bs sy), .string (bs si), .string (bs so)]))
  have q2 := hr.cell (i := 2) rfl
  have q3 := hr.cell (i := 3) rfl
  have HB := Lib.hid (bel_to hb hal)
  clear hb hal hr HP HIP HN
  go_wp2_with fail
  refine (HS.out _ (HG.out.of HB.out)).mono ?_
  rintro e w2 ⟨rfl, hb2⟩
  have hb := bel_to HB.out hb2
  clear hb2 HB HS q2 q3
  go_wp2
  refine bodyPost_ret (v := .tuple #[.string (bs (R z)), .int .i64 0]) (by simp [results, Tryz.results38, go_sem]) rfl ⟨rfl, hb⟩
end W
end Go.Proofs.YtijpgddpejiohaaGreatDoor
end
section
namespace Go.Proofs.YtijpgddpejiohaaGreatDoor
open Go Go.RowKit Go.Deep Go.Sort
namespace M
theorem t5 : R 5 = [53] := by decide +kernel
theorem t16 : R 16 = [49, 54] := by decide +kernel
theorem t17 : R 17 = [49, 55] := by decide +kernel
theorem t34 : R 34 = [51, 52] := by decide +kernel
theorem t49 : R 49 = [52, 57] := by decide +kernel
theorem t50 : R 50 = [53, 48] := by decide +kernel
theorem t61 : R 61 = [54, 49] := by decide +kernel
def wtQ : List Rat := [(2 : Rat) / 5, (1 : Rat) / 2, 0, (1 : Rat) / 10, -1]
def wtT : List (List UInt8) := [[50, 47, 53], [49, 47, 50], [48], [49, 47, 49, 48], [45, 49]]
theorem wt_t : rx wtQ = wtT := by decide +kernel
theorem wt_b : ∀ x ∈ wtQ, Bq 30 x := by unfold wtQ; decide +kernel
theorem in1 : innQ sqL (5, 5) = 50 := by decide +kernel
theorem ou1 : outQ sqL (5, 5) = 50 := by decide +kernel
theorem in2 : innQ fiveL (4, 5) = 17 := by decide +kernel
theorem ou2 : outQ fiveL (4, 5) = 61 := by decide +kernel
theorem in3 : innQ fiveL (5, 5) = 16 := by decide +kernel
theorem ou3 : outQ fiveL (5, 5) = 50 := by decide +kernel
theorem co1 : conT (farF fiveL (5, 5)) 16 fiveL.length = [4] := by decide +kernel
theorem co2 : conT (farF fiveL (5, 5)) 50 fiveL.length = [0, 1, 2, 3] := by decide +kernel
theorem pr1 : prvB fiveL wtQ (50 - 16) = true := by decide +kernel
theorem pr2 : prvB fiveL wtQ (61 - 17) = false := by decide +kernel
theorem na3 : narC 16 49 3 = 0 := by unfold narC tolC; decide +kernel
theorem na2 : narC 16 49 2 = 0 := by unfold narC tolC; decide +kernel
theorem sl3 : slimB 16 49 3 = true := by unfold slimB; decide +kernel
theorem sl2 : slimB 16 49 2 = false := by unfold slimB; decide +kernel
theorem gi4 : givP sqL = 0 := by decide +kernel
theorem gi5 : givP fiveL = 0 := by decide +kernel
theorem b5 : Bq 30 (5 : Rat) := ⟨by decide +kernel, by decide +kernel⟩
theorem b4 : Bq 30 (4 : Rat) := ⟨by decide +kernel, by decide +kernel⟩
theorem b16 : Bq 30 (16 : Rat) := ⟨by decide +kernel, by decide +kernel⟩
theorem b17 : Bq 30 (17 : Rat) := ⟨by decide +kernel, by decide +kernel⟩
theorem b49 : Bq 30 (49 : Rat) := ⟨by decide +kernel, by decide +kernel⟩
theorem b50 : Bq 30 (50 : Rat) := ⟨by decide +kernel, by decide +kernel⟩
theorem b61 : Bq 30 (61 : Rat) := ⟨by decide +kernel, by decide +kernel⟩
end M
namespace W
open M
attribute [local go_sem] bs_size bs_toList bs_get bs_extract bs_append bs_lit0 bs_lit1 lit1_bs
set_option maxHeartbeats 2000000
set_option maxRecDepth 20000
def sqC : List Value := [.int .i64 0, .int .i64 0, .int .i64 10, .int .i64 0, .int .i64 10, .int .i64 10, .int .i64 0, .int .i64 10]
theorem psquareL (w : World) : Calls Tryz.prog 74 #[] w (fun e w' => e = .returned (.slice (some ⟨w.heap.size, 0, none⟩) 4 4) ∧ w' = w.alloc (.cells sqC.toArray 69 (0, 0))) := by
  go_enter Tryz.func74, Tryz.ntmps74
  go_wp2
  go_ret
  exact ⟨rfl, rfl⟩
theorem sq_own (w : World) : OwnV (w.alloc (.cells sqC.toArray 69 (0, 0))) w.heap.size (.slice (some ⟨w.heap.size, 0, none⟩) 4 4) sqL := by
  have h : Row (w.alloc (.cells sqC.toArray 69 (0, 0))) w.heap.size 69 (csV sqL) := rnw
  exact ⟨rfl, Or.inr ⟨w.heap.size, 4, _, rfl, Nat.le_refl _, h, Nat.le_refl _, by unfold maxLen; omega, rfl, rfl⟩⟩
def FivP (w : World) (e : Ending) (w' : World) : Prop := ∃ A c, e = .returned (.slice A 5 c) ∧ RdV w' (.slice A 5 c) fiveL ∧ Below w.heap.size w w'
theorem pfiveL (w : World) : Calls Tryz.prog 75 #[] w (FivP w) := by
  have HS := Lib.hid (psquareL w)
  go_enter Tryz.func75, Tryz.ntmps75
  go_wp2_with fail
  refine HS.out.mono ?_
  rintro e w1 ⟨rfl, rfl⟩
  obtain ⟨W1, hW1⟩ : ∃ V, V = w.alloc (.cells sqC.toArray 69 (0, 0)) := ⟨_, rfl⟩
  have HO : Hid (OwnV W1 w.heap.size (.slice (some ⟨w.heap.size, 0, none⟩) 4 4) sqL ∧ Below w.heap.size w W1) := Lib.hid (by rw [hW1]; exact ⟨sq_own w, bel_al _ _⟩)
  have hq := (rnw (w := W1) (t := 69) (xs := [.int .i64 5, .int .i64 1]))
  have c0 := hq.cell (i := 0) rfl
  have c1 := hq.cell (i := 1) rfl
  have HC : Hid (∀ j u, (csV [((5, 1) : PZ)])[j]? = some u → (W1.alloc (.cells #[.int .i64 5, .int .i64 1] 69 (0, 0))).cell? ((⟨W1.heap.size, 0, none⟩ : Addr).add j) = some u) := Lib.hid (fun j u hu => by
    match j, hu with
    | 0, hu => obtain rfl := Option.some.inj hu; exact c0
    | 1, hu => obtain rfl := Option.some.inj hu; exact c1)
  rw [← hW1]
  clear hW1 hq c0 c1 HS
  go_wp2_with (at_builtin; refine wpList_app_OwnV (m := [((5, 1) : PZ)]) rfl _ _ rfl rfl rfl rfl (HO.out.1.alloc _) HC.out (by have := HO.out.2.size; rw [World.size_alloc]; omega) (by decide) ?_; intro v2 w2 ho2 hg2)
  have HF : Hid (OwnV w2 w.heap.size v2 fiveL ∧ Below w.heap.size w w2) := Lib.hid ⟨ho2, app_belOwnV (HO.out.1.alloc _) (bel_to HO.out.2 (bel_al _ _)) (Nat.le_refl _) hg2⟩
  clear ho2 hg2 HC HO
  obtain ⟨g, cap, rfl, _⟩ := HF.out.1.form (by decide)
  go_wp2
  go_ret
  exact ⟨_, _, rfl, HF.out.1.rd, HF.out.2⟩
theorem at1 (vl : Value) (W : World) (hg : Glob W) (hl : RdV W vl sqL) : Calls Tryz.prog 21 #[vl, .agg #[.string (bs [53]), .string (bs [53])]] W (Ret W (.tuple #[.agg #[.string (bs [53]), .string (bs [53]), .string (bs [53, 48]), .string (bs [53, 48])], .int .i64 0])) := by
  have h := pAt_ok vl sqL (5, 5) 30 W hg hl gi4 b5 b5 (by decide)
  unfold zoV ceV zoQ ceQ at h
  simp only [in1, ou1, t5, t50] at h
  exact h
theorem at2 (vl : Value) (W : World) (hg : Glob W) (hl : RdV W vl fiveL) : Calls Tryz.prog 21 #[vl, .agg #[.string (bs [52]), .string (bs [53])]] W (Ret W (.tuple #[.agg #[.string (bs [52]), .string (bs [53]), .string (bs [49, 55]), .string (bs [54, 49])], .int .i64 0])) := by
  have h := pAt_ok vl fiveL (4, 5) 30 W hg hl gi5 b4 b5 (by decide)
  unfold zoV ceV zoQ ceQ at h
  simp only [in2, ou2, t4, t5, t17, t61] at h
  exact h
theorem at3 (vl : Value) (W : World) (hg : Glob W) (hl : RdV W vl fiveL) : Calls Tryz.prog 21 #[vl, .agg #[.string (bs [53]), .string (bs [53])]] W (Ret W (.tuple #[.agg #[.string (bs [53]), .string (bs [53]), .string (bs [49, 54]), .string (bs [53, 48])], .int .i64 0])) := by
  have h := pAt_ok vl fiveL (5, 5) 30 W hg hl gi5 b5 b5 (by decide)
  unfold zoV ceV zoQ ceQ at h
  simp only [in3, ou3, t5, t16, t50] at h
  exact h
theorem con1 (vl : Value) (W : World) (hg : Glob W) (hl : RdV W vl fiveL) : Calls Tryz.prog 23 #[vl, .agg #[.string (bs [53]), .string (bs [53]), .string (bs [49, 54]), .string (bs [53, 48])]] W (ConP W [4] [0, 1, 2, 3]) := by
  have h := pcontacts_F3 vl fiveL (5, 5) 16 50 W hg hl gi5 b5 b5 b16 b50 (by decide +kernel) in3 ou3
  unfold zoV zoQ ceQ at h
  simp only [co1, co2, t5, t16, t50] at h
  exact h
theorem nar1 (W : World) (hg : Glob W) : Calls Tryz.prog 26 #[.agg #[.string (bs [53]), .string (bs [53]), .string (bs [49, 54]), .string (bs [52, 57])], .int .i64 3] W (Ret W (.tuple #[.bool true, .int .i64 0])) := by
  have h := pNarrow_ok (5, 5) 16 49 3 W hg b5 b5 b16 b49
  unfold zoV zoQ ceQ at h
  simp only [na3, sl3, t5, t16, t49] at h
  exact h
theorem nar2 (W : World) (hg : Glob W) : Calls Tryz.prog 26 #[.agg #[.string (bs [53]), .string (bs [53]), .string (bs [49, 54]), .string (bs [52, 57])], .int .i64 2] W (Ret W (.tuple #[.bool false, .int .i64 0])) := by
  have h := pNarrow_ok (5, 5) 16 49 2 W hg b5 b5 b16 b49
  unfold zoV zoQ ceQ at h
  simp only [na2, sl2, t5, t16, t49] at h
  exact h
theorem wt_vfa {vl vw : Value} {W : World} (hl : RdV W vl fiveL) (hw : RdT W vw wtT) : VfA W vl vw fiveL (rx wtQ) := ⟨hl, by rw [wt_t]; exact hw, by decide, by decide, by rw [wt_t]; decide⟩
theorem ver1 (vl vw : Value) (W : World) (hg : Glob W) (hl : RdV W vl fiveL) (hw : RdT W vw wtT) : Calls Tryz.prog 33 #[vl, .agg #[.string (bs [53]), .string (bs [53]), .string (bs [49, 54]), .string (bs [53, 48])], vw] W (Ret W (.int .i64 0)) := by
  have h := pverify_F3 vl vw fiveL wtQ (5, 5) 16 50 W hg (wt_vfa hl hw) gi5 b5 b5 b16 b50 (by decide +kernel) rfl (by decide) wt_b in3 ou3
  unfold zoV zoQ ceQ at h
  simp only [pr1, t5, t16, t50] at h
  exact h
theorem ver2 (vl vw : Value) (W : World) (hg : Glob W) (hl : RdV W vl fiveL) (hw : RdT W vw wtT) : Calls Tryz.prog 33 #[vl, .agg #[.string (bs [52]), .string (bs [53]), .string (bs [49, 55]), .string (bs [54, 49])], vw] W (Ret W (.int .i64 15)) := by
  have h := pverify_F3 vl vw fiveL wtQ (4, 5) 17 61 W hg (wt_vfa hl hw) gi5 b4 b5 b17 b61 (by decide +kernel) rfl (by decide) wt_b in2 ou2
  unfold zoV zoQ ceQ at h
  simp only [pr2, t4, t5, t17, t61] at h
  exact h
theorem widA (vl : Value) (W : World) (hg : Glob W) (hl : RdV W vl sqL) : Calls Tryz.prog 38 #[vl] W (Ret W (.tuple #[.string (bs [48]), .int .i64 0])) := by
  obtain ⟨x, hx, _, h⟩ := pwidth35 (l := sqL) (by decide) (by decide) (by decide)
  have h2 := h vl W hg hl
  rw [hx.unique wid_sq, t0] at h2
  exact h2
theorem widB (vl : Value) (W : World) (hg : Glob W) (hl : RdV W vl fiveL) : Calls Tryz.prog 38 #[vl] W (Ret W (.tuple #[.string (bs [51, 52]), .int .i64 0])) := by
  obtain ⟨x, hx, _, h⟩ := pwidth35 (l := fiveL) (by decide) (by decide) (by decide)
  have h2 := h vl W hg hl
  rw [hx.unique wid_five, t34] at h2
  exact h2
end W
end Go.Proofs.YtijpgddpejiohaaGreatDoor
end
