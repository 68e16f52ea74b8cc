/-
  Chapter 3, plain laws: the sizes of lengths, and which sets hold a number.
  Chapter 3's laws: Few and 'right'.
  Chapter 3's laws: IntervalCounts.
  Chapter 3's laws: IntervalHolds.
-/
import Derived.Test.YtpjaoapnangccaaGreatDoorKP
namespace Go.Proofs.YtpjaoapnangccaaGreatDoor
open Go Go.RowKit Go.Deep Go.Sort
namespace M
/-- A number over D, its counter at most K. -/
def WB (D K : Nat) (q : Rat) : Prop := ∃ z : Int, q = Rat.divInt z D ∧ z.natAbs ≤ K
theorem WB.zero (D K : Nat) : WB D K 0 := ⟨0, (Rat.zero_divInt _).symm, by simp⟩
theorem dI_add (a c W : Int) : Rat.divInt (a + c) W = Rat.divInt a W + Rat.divInt c W := by
  rw [Rat.divInt_eq_div, Rat.divInt_eq_div, Rat.divInt_eq_div, Rat.intCast_add]; grind
theorem dI_sub (a c W : Int) : Rat.divInt (a - c) W = Rat.divInt a W - Rat.divInt c W := by
  rw [Rat.divInt_eq_div, Rat.divInt_eq_div, Rat.divInt_eq_div, Rat.intCast_sub]; grind
theorem WB.add {D K1 K2 : Nat} {p q : Rat} (h1 : WB D K1 p) (h2 : WB D K2 q) : WB D (K1 + K2) (p + q) := by
  obtain ⟨a, rfl, ha⟩ := h1
  obtain ⟨b, rfl, hb⟩ := h2
  exact ⟨a + b, (dI_add a b D).symm, by have := Int.natAbs_add_le a b; omega⟩
theorem WB.sub {D K1 K2 : Nat} {p q : Rat} (h1 : WB D K1 p) (h2 : WB D K2 q) : WB D (K1 + K2) (p - q) := by
  obtain ⟨a, rfl, ha⟩ := h1
  obtain ⟨b, rfl, hb⟩ := h2
  exact ⟨a - b, (dI_sub a b D).symm, by omega⟩
theorem WB.mono {D K K2 : Nat} {q : Rat} (h : WB D K q) (hk : K ≤ K2) : WB D K2 q := by
  obtain ⟨a, rfl, ha⟩ := h
  exact ⟨a, rfl, by omega⟩
theorem WB.parts {D K : Nat} {q : Rat} (hD : 0 < D) (h : WB D K q) : q.num.natAbs ≤ K ∧ q.den ≤ D := by
  obtain ⟨z, rfl, hz⟩ := h
  have hD' : (D : Int) ≠ 0 := by omega
  constructor
  · rw [Rat.num_divInt, Int.sign_natCast_of_ne_zero (by omega), Int.one_mul]
    exact Nat.le_trans (Int.natAbs_ediv_le_natAbs z _) hz
  · rw [Rat.den_divInt, if_neg hD', Int.natAbs_natCast]
    exact Nat.div_le_self _ _
/-- The product of the denominators. -/
def denP : List Rat → Nat
  | [] => 1
  | v :: t => v.den * denP t
theorem denP_pos : ∀ l : List Rat, 0 < denP l
  | [] => by decide
  | v :: t => Nat.mul_pos v.den_pos (denP_pos t)
theorem denP_dvd : ∀ {l : List Rat} {v : Rat}, v ∈ l → v.den ∣ denP l
  | u :: t, v, h => by
    rcases List.mem_cons.1 h with rfl | h
    · exact Nat.dvd_mul_right _ _
    · exact Nat.dvd_trans (denP_dvd h) (Nat.dvd_mul_left _ _)
theorem denP_le {k : Nat} : ∀ {l : List Rat}, (∀ v ∈ l, v.den ≤ k) → denP l ≤ k ^ l.length
  | [], _ => Nat.le_refl _
  | u :: t, h => by
    rw [denP, List.length_cons, Nat.pow_succ, Nat.mul_comm]
    exact Nat.mul_le_mul (denP_le fun v hv => h v (List.mem_cons_of_mem _ hv)) (h u List.mem_cons_self)
theorem WB.of {es : List Rat} {v : Rat} {N : Nat} (hv : v ∈ es) (hn : v.num.natAbs ≤ N) : WB (denP es) (N * denP es) v := by
  obtain ⟨c, hc⟩ := denP_dvd hv
  have hp := denP_pos es
  have hc0 : c ≠ 0 := by rintro rfl; rw [Nat.mul_zero] at hc; omega
  refine ⟨v.num * c, ?_, ?_⟩
  · rw [hc, Int.natCast_mul, Rat.divInt_mul_right (by omega), Rat.num_divInt_den]
  · rw [Int.natAbs_mul, Int.natAbs_natCast]
    exact Nat.mul_le_mul hn (by rw [hc]; exact Nat.le_mul_of_pos_left _ v.den_pos)
theorem len_WB {D K : Nat} : ∀ (l : List SQ), (∀ s ∈ l, WB D K s.1 ∧ WB D K s.2) → WB D (l.length * (2 * K)) (lenQ l)
  | [], _ => WB.zero _ _
  | a :: t, h => by
    rw [lenQ_cons]
    have h1 := h a List.mem_cons_self
    refine ((h1.2.sub h1.1).add (len_WB t fun s hs => h s (List.mem_cons_of_mem _ hs))).mono ?_
    rw [List.length_cons, Nat.add_mul, Nat.one_mul]
    generalize t.length * (2 * K) = z
    omega
theorem swp_ends : ∀ (es : List Ev) (o : Option SQ) (P : Rat → Prop), (∀ e ∈ es, P e.1) → (∀ s, o = some s → P s.1 ∧ P s.2) → ∀ s ∈ swp es o, P s.1 ∧ P s.2
  | [], none, P, _, _, s, h => by cases h
  | [], some q, P, _, ho, s, h => by rw [swp, List.mem_singleton] at h; rw [h]; exact ho q rfl
  | e :: t, some q, P, he, ho, s, h => by
    have h1 := he e List.mem_cons_self
    have h2 : ∀ e ∈ t, P e.1 := fun e hm => he e (List.mem_cons_of_mem _ hm)
    rw [swp] at h
    split at h
    · exact swp_ends t _ P h2 (fun s hs => by cases hs; exact ⟨(ho q rfl).1, h1⟩) s h
    · rcases List.mem_cons.1 h with rfl | h
      · exact ⟨(ho q rfl).1, h1⟩
      · exact swp_ends t _ P h2 (fun s hs => by cases hs) s h
  | e :: t, none, P, he, ho, s, h => by
    have h1 := he e List.mem_cons_self
    have h2 : ∀ e ∈ t, P e.1 := fun e hm => he e (List.mem_cons_of_mem _ hm)
    rw [swp] at h
    split at h
    · exact swp_ends t _ P h2 (fun s hs => by cases hs; exact ⟨h1, h1⟩) s h
    · split at h
      · rcases List.mem_cons.1 h with rfl | h
        · exact ⟨h1, h1⟩
        · exact swp_ends t _ P h2 (fun s hs => by cases hs) s h
      · exact swp_ends t _ P h2 (fun s hs => by cases hs) s h
theorem swp_size : ∀ (es : List Ev), (swp es none).length ≤ es.length ∧ ∀ q, (swp es (some q)).length ≤ es.length + 1
  | [] => ⟨by simp [swp], fun q => by simp [swp]⟩
  | e :: t => by
    obtain ⟨i1, i2⟩ := swp_size t
    constructor
    · rw [swp]
      have := i2 (e.1, e.1)
      split
      · simpa using this
      · split
        · simpa using i1
        · simp; omega
    · intro q
      rw [swp]
      have := i2 (q.1, e.1)
      split
      · simp; omega
      · simp; omega
theorem evs_size (f : Bool → Bool → Bool) (a b : List SQ) : ∀ es : List Rat, (evs f a b es).length = es.length
  | [] => rfl
  | x :: t => by rw [evs, List.length_cons, List.length_cons, evs_size f a b t]
theorem insQ_size : ∀ (l : List Rat) (x : Rat), (insQ l x).length ≤ l.length + 1
  | [], x => Nat.le_refl _
  | y :: t, x => by
    rw [insQ]
    have := insQ_size t x
    split
    · simpa using this
    · split <;> simp
theorem ends_size : ∀ (l : List SQ) (out : List Rat), (l.foldl endsF out).length ≤ out.length + 2 * l.length
  | [], out => by simp
  | a :: t, out => by
    rw [List.foldl_cons]
    have h1 := ends_size t (endsF out a)
    have h2 := insQ_size out a.1
    have h3 := insQ_size (insQ out a.1) a.2
    unfold endsF at h1 ⊢
    rw [List.length_cons]
    omega
theorem endsZ_size (l : List SQ) : (endsZ l).length ≤ 2 * l.length := by
  have := ends_size l []
  simpa [endsZ] using this
theorem comb_ends {f : Bool → Bool → Bool} {a b : List SQ} {es : List Rat} : ∀ s ∈ comb f a b es, s.1 ∈ es ∧ s.2 ∈ es :=
  swp_ends _ none (fun v => v ∈ es) (fun _ he => evs_mem he) (fun s h => by cases h)
theorem comb_size {f : Bool → Bool → Bool} {a b : List SQ} {es : List Rat} : (comb f a b es).length ≤ es.length := by
  have := (swp_size (evs f a b es)).1
  rwa [evs_size] at this
/-- What a combination inherits from the ends. -/
theorem comb_all {f : Bool → Bool → Bool} {a b : List SQ} {P : Rat → Prop} (h : ∀ s ∈ a ++ b, P s.1 ∧ P s.2) : ∀ s ∈ comb f a b (endsZ (a ++ b)), P s.1 ∧ P s.2 := by
  have hv : ∀ v ∈ endsZ (a ++ b), P v := fun v hv => by
    obtain ⟨s, hs, e⟩ := ((endsZ_ok (a ++ b)).2 v).1 hv
    rcases e with rfl | rfl
    · exact (h s hs).1
    · exact (h s hs).2
  exact fun s hs => ⟨hv _ (comb_ends s hs).1, hv _ (comb_ends s hs).2⟩
theorem comb_sp {f : Bool → Bool → Bool} {a b : List SQ} {k : Nat} (h : ∀ s ∈ a ++ b, SpB k s) : ∀ s ∈ comb f a b (endsZ (a ++ b)), SpB k s := fun s hs =>
  have h1 := comb_all (P := Bq k) (fun s hs => ⟨(h s hs).2.1, (h s hs).2.2⟩) s hs
  ⟨(comb_nf (endsZ_ok (a ++ b)).1).1.1 s hs, h1.1, h1.2⟩
theorem comb_count {f : Bool → Bool → Bool} {a b : List SQ} : (comb f a b (endsZ (a ++ b))).length ≤ 2 * (a.length + b.length) := by
  have h1 := comb_size (f := f) (a := a) (b := b) (es := endsZ (a ++ b))
  have h2 := endsZ_size (a ++ b)
  rw [List.length_append] at h2
  omega
/-- The length of a part of a combination: its size. -/
theorem comb_len {f : Bool → Bool → Bool} {a b : List SQ} {n d m : Nat} (h : ∀ s ∈ a ++ b, (s.1.num.natAbs < 10 ^ n ∧ s.1.den < 10 ^ d) ∧ (s.2.num.natAbs < 10 ^ n ∧ s.2.den < 10 ^ d)) (hm : 2 * (a.length + b.length) ≤ m) (hm2 : m ≤ 49) (k : Nat) :
    Bq (n + d * m + 2) (lenQ ((comb f a b (endsZ (a ++ b))).take k)) := by
  have hb := comb_all (f := f) (P := fun v => (v.num.natAbs < 10 ^ n ∧ v.den < 10 ^ d) ∧ v ∈ endsZ (a ++ b)) (fun s hs => ⟨⟨(h s hs).1, ((endsZ_ok (a ++ b)).2 _).2 ⟨s, hs, Or.inl rfl⟩⟩, ⟨(h s hs).2, ((endsZ_ok (a ++ b)).2 _).2 ⟨s, hs, Or.inr rfl⟩⟩⟩)
  have hc := comb_count (f := f) (a := a) (b := b)
  generalize comb f a b (endsZ (a ++ b)) = l at *
  have he : ∀ v ∈ endsZ (a ++ b), v.den ≤ 10 ^ d := fun v hv => by
    obtain ⟨s, hs, e⟩ := ((endsZ_ok (a ++ b)).2 v).1 hv
    rcases e with rfl | rfl
    · exact Nat.le_of_lt (h s hs).1.2
    · exact Nat.le_of_lt (h s hs).2.2
  have hsz : (endsZ (a ++ b)).length ≤ m := by
    have := endsZ_size (a ++ b); rw [List.length_append] at this; omega
  generalize endsZ (a ++ b) = es at *
  have hD := denP_le he
  have hD2 : denP es ≤ 10 ^ (d * m) := by
    refine Nat.le_trans hD ?_
    rw [← Nat.pow_mul]
    exact Nat.pow_le_pow_right (by decide) (Nat.mul_le_mul_left _ hsz)
  have hw := len_WB (D := denP es) (K := 10 ^ n * denP es) (l.take k) (fun s hs => ⟨WB.of (hb s (List.mem_of_mem_take hs)).1.2 (Nat.le_of_lt (hb s (List.mem_of_mem_take hs)).1.1.1), WB.of (hb s (List.mem_of_mem_take hs)).2.2 (Nat.le_of_lt (hb s (List.mem_of_mem_take hs)).2.1.1)⟩)
  obtain ⟨p1, p2⟩ := hw.parts (denP_pos es)
  have hl : (l.take k).length ≤ 49 := by rw [List.length_take]; omega
  have hz : 10 ^ (n + d * m + 2) = 100 * (10 ^ n * 10 ^ (d * m)) := by rw [Nat.pow_add, Nat.pow_add, Nat.mul_comm]
  have h1 : 10 ^ n * denP es ≤ 10 ^ n * 10 ^ (d * m) := Nat.mul_le_mul_left _ hD2
  have hq : 0 < 10 ^ n * 10 ^ (d * m) := Nat.mul_pos (Nat.pow_pos (by decide)) (Nat.pow_pos (by decide))
  have hq1 : 0 < 10 ^ n := Nat.pow_pos (by decide)
  have hq2 : 10 ^ (d * m) ≤ 10 ^ n * 10 ^ (d * m) := Nat.le_mul_of_pos_left _ hq1
  unfold Bq
  rw [hz]
  generalize 10 ^ n * 10 ^ (d * m) = Z at *
  generalize 10 ^ n * denP es = Y at *
  generalize (l.take k).length = c at *
  have h2 : c * (2 * Y) ≤ 49 * (2 * Z) := Nat.mul_le_mul hl (by omega)
  constructor
  · omega
  · omega
/-- A set of at most eight right spans, each end a text of at most fifteen bytes. -/
def SmallL (a : List SQ) : Prop := a.length ≤ 8 ∧ ∀ s ∈ a, s.1 ≤ s.2 ∧ (R s.1).length ≤ 15 ∧ (R s.2).length ≤ 15
theorem small_q {q : Rat} (h : (R q).length ≤ 15) : q.num.natAbs < 10 ^ 15 ∧ q.den < 10 ^ 13 := by
  unfold R at h
  split at h
  · rename_i e
    exact ⟨I_short h (by decide), by rw [e]; decide⟩
  · rw [List.length_append, List.length_cons] at h
    have h1 : 0 < (I q.num).length := List.length_pos_iff.2 (I_ne _)
    refine ⟨I_short (by omega) (by decide), ?_⟩
    have := I_short (z := (q.den : Int)) (k := 13) (by omega) (by decide)
    rwa [Int.natAbs_natCast] at this
theorem SmallL.sp {a : List SQ} (h : SmallL a) : ∀ s ∈ a, SpB 30 s := fun s hs => by
  obtain ⟨h1, h2, h3⟩ := h.2 s hs
  have q1 := small_q h2
  have q2 := small_q h3
  exact ⟨h1, ⟨pow_up q1.1 (by decide), pow_up q1.2 (by decide)⟩, ⟨pow_up q2.1 (by decide), pow_up q2.2 (by decide)⟩⟩
theorem SmallL.both {a b : List SQ} (ha : SmallL a) (hb : SmallL b) : ∀ s ∈ a ++ b, SpB 30 s := fun s hs => (List.mem_append.1 hs).elim (ha.sp s) (hb.sp s)
theorem SmallL.len {a b : List SQ} (ha : SmallL a) (hb : SmallL b) (f : Bool → Bool → Bool) (k : Nat) : Bq 433 (lenQ ((comb f a b (endsZ (a ++ b))).take k)) := by
  refine comb_len (n := 15) (d := 13) (m := 32) (fun s hs => ?_) (by have := ha.1; have := hb.1; omega) (by decide) k
  obtain ⟨_, h2, h3⟩ := (List.mem_append.1 hs).elim (ha.2 s) (hb.2 s)
  exact ⟨small_q h2, small_q h3⟩
theorem SmallL.nil : SmallL [] := ⟨Nat.zero_le _, fun s h => by cases h⟩
/-- The lengths of a set, of a union and of an intersection. -/
theorem SmallL.one {a : List SQ} (ha : SmallL a) (k : Nat) : Bq 433 (lenQ ((tidy a).take k)) := by
  have := ha.len SmallL.nil rFst k
  rwa [comb_fst (endsZ_ok _) (fun s hs => (ha.2 s hs).1)] at this
theorem SmallL.rgt {a : List SQ} (h : SmallL a) : ∀ s ∈ a, s.1 ≤ s.2 := fun s hs => (h.2 s hs).1
theorem SmallL.rgt2 {a b : List SQ} (ha : SmallL a) (hb : SmallL b) : ∀ s ∈ a ++ b, s.1 ≤ s.2 := fun s hs => (List.mem_append.1 hs).elim (ha.rgt s) (hb.rgt s)
/-- What is said of a list that is a combination. -/
structure Res (l : List SQ) : Prop where
  nf : Nf l
  sp : ∀ s ∈ l, SpB 30 s
  few : l.length ≤ 32
  len : ∀ k, Bq 433 (lenQ (l.take k))
theorem SmallL.res {a b : List SQ} (ha : SmallL a) (hb : SmallL b) (f : Bool → Bool → Bool) : Res (comb f a b (endsZ (a ++ b))) :=
  ⟨(comb_nf (endsZ_ok (a ++ b)).1).1, comb_sp (ha.both hb), by have := comb_count (f := f) (a := a) (b := b); have := ha.1; have := hb.1; omega, ha.len hb f⟩
theorem SmallL.union {a b : List SQ} (ha : SmallL a) (hb : SmallL b) : Res (tidy (a ++ b)) := by
  have := ha.res hb rOr
  rwa [comb_or (endsZ_ok _) (ha.rgt2 hb)] at this
theorem SmallL.inter {a b : List SQ} (ha : SmallL a) (hb : SmallL b) : Res (tidy (inter a b)) := by
  have := ha.res hb rAnd
  rwa [comb_and (endsZ_ok _)] at this
theorem SmallL.diff {a b : List SQ} (ha : SmallL a) (hb : SmallL b) : Res (tidy (wo a b none (endsZ (a ++ b)))) := by
  have := ha.res hb rDif
  rwa [comb_dif (endsZ_ok _)] at this
theorem SmallL.self {a : List SQ} (ha : SmallL a) : Res (tidy a) := by
  have := ha.res SmallL.nil rFst
  rwa [comb_fst (endsZ_ok _) ha.rgt] at this
theorem union_comm {a b : List SQ} (ha : SmallL a) (hb : SmallL b) : tidy (b ++ a) = tidy (a ++ b) :=
  tidy_eq (ha.rgt2 hb) (tidy_ok (hb.rgt2 ha)).1 fun y => by rw [(tidy_ok (hb.rgt2 ha)).2, inL_append, inL_append]; exact Or.comm
theorem inter_comm (a b : List SQ) : tidy (M.inter b a) = tidy (M.inter a b) :=
  tidy_eq inter_right (tidy_ok inter_right).1 fun y => by rw [(tidy_ok inter_right).2, inter_in, inter_in]; exact And.comm
/-- Which sets hold a number. -/
theorem has_or {a b : List SQ} (ha : SmallL a) (hb : SmallL b) (x : Rat) : hasB (tidy (a ++ b)) x = (hasB a x || hasB b x) := by
  rw [Bool.eq_iff_iff, hasB_iff, (tidy_ok (ha.rgt2 hb)).2, inL_append, Bool.or_eq_true, hasB_iff, hasB_iff]
theorem has_and (a b : List SQ) (x : Rat) : hasB (tidy (M.inter a b)) x = (hasB a x && hasB b x) := by
  rw [Bool.eq_iff_iff, hasB_iff, (tidy_ok inter_right).2, inter_in, Bool.and_eq_true, hasB_iff, hasB_iff]
theorem has_dif1 {a b : List SQ} {x : Rat} (h1 : hasB a x = true) (h2 : hasB b x = false) : hasB (tidy (wo a b none (endsZ (a ++ b)))) x = true := by
  rw [← comb_dif (endsZ_ok _), hasB_iff, (comb_nf (endsZ_ok _).1).2]
  exact sset_rule rfl (endsZ_ok _) (by rw [h1, h2]; rfl)
theorem has_dif2 {a b : List SQ} {x : Rat} (h : hasB (tidy (wo a b none (endsZ (a ++ b)))) x = true) : hasB a x = true := by
  rw [← comb_dif (endsZ_ok _), hasB_iff, (comb_nf (endsZ_ok _).1).2] at h
  have := sset_le (g := rFst) (fun p q h => by unfold rDif at h; unfold rFst; simp at h; exact h.1) h
  have := sset_in mono_fst this
  exact this
theorem holds_all {a b : List SQ} (ha : SmallL a) (hb : SmallL b) (x : Rat) :
    (hasB (tidy (a ++ b)) x == (hasB a x || hasB b x)) = true ∧ (hasB (tidy (M.inter a b)) x == (hasB a x && hasB b x)) = true ∧
    (!hasB a x || hasB b x || hasB (tidy (wo a b none (endsZ (a ++ b)))) x) = true ∧ (!hasB (tidy (wo a b none (endsZ (a ++ b)))) x || hasB a x) = true := by
  refine ⟨by rw [has_or ha hb]; simp, by rw [has_and]; simp, ?_, ?_⟩
  · cases h1 : hasB a x with
    | false => rfl
    | true =>
      cases h2 : hasB b x with
      | true => rfl
      | false => rw [has_dif1 h1 h2]; rfl
  · cases h1 : hasB (tidy (wo a b none (endsZ (a ++ b)))) x with
    | false => rfl
    | true => rw [has_dif2 h1]; rfl
end M
end Go.Proofs.YtpjaoapnangccaaGreatDoor
namespace Go.Proofs.YtpjaoapnangccaaGreatDoor
open Go Go.RowKit Go.Deep Go.Sort
namespace M
/-- What Few says of a list. -/
def fewB (l : List PT) : Bool := if 8 < l.length then decide (256 < l.length) && decide (l.length ≤ 512) else l.all fun p => shortB p.1 && shortB p.2
noncomputable def okP (p : PT) : Bool := decide (chkP p = 0) && decide (p.1.length ≤ 15) && decide (p.2.length ≤ 15)
/-- What 'right' says of a list. -/
noncomputable def rightB (l : List PT) : Bool := fewB l && decide (l.length ≤ 8) && l.all okP
theorem fewB_few {l : List PT} (h : fewB l = true) (h8 : l.length ≤ 8) : ShtL l := by
  unfold fewB at h
  rw [if_neg (by omega), List.all_eq_true] at h
  intro p hp
  have := h p hp
  rw [Bool.and_eq_true] at this
  exact ⟨Sht.of this.1, Sht.of this.2⟩
theorem fewB_fewS {l : List PT} (h : fewB l = true) : FewS l := by
  by_cases h8 : 8 < l.length
  · left
    unfold fewB at h
    rw [if_pos h8, Bool.and_eq_true, decide_eq_true_iff] at h
    exact h.1
  · exact Or.inr ⟨by omega, fewB_few h (by omega)⟩
theorem chkL_zero : ∀ {l : List PT}, (∀ p ∈ l, chkP p = 0) → chkL l = 0
  | [], _ => rfl
  | p :: t, h => by
    rw [chkL, if_pos (h p List.mem_cons_self)]
    exact chkL_zero fun q hq => h q (List.mem_cons_of_mem _ hq)
theorem rightB_yes {l : List PT} (h : rightB l = true) : ∃ zl : List SQ, l = sx zl ∧ SmallL zl := by
  unfold rightB at h
  rw [Bool.and_eq_true, Bool.and_eq_true, decide_eq_true_iff, List.all_eq_true] at h
  obtain ⟨⟨h1, h2⟩, h3⟩ := h
  have h4 : ∀ p ∈ l, chkP p = 0 ∧ p.1.length ≤ 15 ∧ p.2.length ≤ 15 := fun p hp => by
    have := h3 p hp
    unfold okP at this
    rw [Bool.and_eq_true, Bool.and_eq_true, decide_eq_true_iff, decide_eq_true_iff, decide_eq_true_iff] at this
    exact ⟨this.1.1, this.1.2, this.2⟩
  obtain ⟨zl, rfl, hz⟩ := chkL_right (fewB_few h1 h2) (chkL_zero fun p hp => (h4 p hp).1)
  refine ⟨zl, rfl, by rw [sx_len] at h2; exact h2, fun s hs => ?_⟩
  have := h4 (R s.1, R s.2) (List.mem_map.2 ⟨s, hs, rfl⟩)
  exact ⟨(hz s hs).1, this.2.1, this.2.2⟩
end M
namespace W
open M
attribute [local go_sem] bs_size bs_toList bs_get bs_extract bs_append bs_lit0 bs_lit1 lit1_bs
set_option maxHeartbeats 1000000
set_option maxRecDepth 20000
theorem few_any (va : Value) (l : List PT) (w : World) (ha : RdP w va l) (nl : l.length ≤ maxLen) (hs : ∀ p ∈ l, p.1.length ≤ maxLen ∧ p.2.length ≤ maxLen) : Calls Tryz.prog 18 #[va] w (Ret w (.bool (fewB l))) := by
  obtain ⟨A, cap, rfl⟩ := ha.len
  unfold maxLen at nl
  unfold fewB
  by_cases h8 : 8 < l.length
  · rw [if_pos h8]
    have hd : decide (8 < (l.length : Int)) = true := by simp; omega
    clear ha hs
    by_cases hb : 256 < l.length
    · have he : decide (256 < (l.length : Int)) = true := by simp; omega
      by_cases hc : l.length ≤ 512
      · have hf : decide ((l.length : Int) ≤ 512) = true := by simp; omega
        rw [decide_eq_true hb, decide_eq_true hc]
        go_enter Tryz.func18, Tryz.ntmps18
        go_wp2
        go_ret
        exact Ret.of rfl (Below.refl _ _)
      · have hf : decide ((l.length : Int) ≤ 512) = false := by simp; omega
        rw [decide_eq_true hb, decide_eq_false hc]
        go_enter Tryz.func18, Tryz.ntmps18
        go_wp2
        go_ret
        exact Ret.of rfl (Below.refl _ _)
    · have he : decide (256 < (l.length : Int)) = false := by simp; omega
      rw [decide_eq_false hb]
      go_enter Tryz.func18, Tryz.ntmps18
      go_wp2
      go_ret
      exact Ret.of rfl (Below.refl _ _)
  · rw [if_neg h8]
    have hd : decide (8 < (l.length : Int)) = false := by simp; omega
    have HW := Lib.hid ha
    have HPC := Lib.hid (fun i (hi : i < l.length) wx => rshort l[i] wx (hs _ (List.getElem_mem hi)).1 (hs _ (List.getElem_mem hi)).2)
    generalize hch : (l.all fun p => shortB p.1 && shortB p.2) = ch
    have HCH := Lib.hid hch
    have hl8 : l.length ≤ 8 := by omega
    clear ha hs hch
    go_enter Tryz.func18, Tryz.ntmps18
    go_wp2
    go_loopw [3] (fun iv wr => ∃ i : Nat, iv = .int .i64 (i : Int) ∧ i ≤ l.length ∧ Hid ((l.all fun p => shortB p.1 && shortB p.2) = ((l.drop i).all fun p => shortB p.1 && shortB p.2)) ∧ Below w.heap.size w wr) (fun iv _ => l.length - (intOf iv).toNat)
    case atStart => exact ⟨0, rfl, by omega, (rfl : (l.all fun p => shortB p.1 && shortB p.2) = ((l.drop 0).all fun p => shortB p.1 && shortB p.2)), Below.refl _ _⟩
    case round =>
      obtain ⟨i, rfl, hi, hk, hbw⟩ := hrel
      by_cases hlt : i < l.length
      · obtain ⟨b1, o1, rfl, hw⟩ := HW.out.row i hlt
        have hwr := hw.below' hbw
        have cv := hwr.val i hlt
        have cw := hwr.wt i hlt
        have hk2 := hk.out
        rw [List.drop_eq_getElem_cons hlt, List.all_cons] at hk2
        have HP := Lib.hid (HPC.out i hlt)
        clear hk hwr hw
        generalize hx : l[i] = x at *
        clear hx
        obtain ⟨s, t⟩ := x
        simp only at cv cw
        by_cases hc : (shortB s && shortB t) = true
        · rw [show (shortB (s, t).1 && shortB (s, t).2) = true from hc] at hk2 HP
          rw [Bool.true_and] at hk2
          have HK := Lib.hid hk2
          clear hk2 hc
          go_wp2_with fail
          refine (HP.out _).mono ?_
          rintro e w1 ⟨rfl, hb1⟩
          have hb1' := hbw.trans (hb1.mono hbw.size)
          go_wp2
          go_roundw
          case rel => exact ⟨i + 1, by go_num, by omega, HK, hb1'⟩
          case measure => simp [intOf]; omega
        · rw [Bool.not_eq_true] at hc
          rw [show (shortB (s, t).1 && shortB (s, t).2) = false from hc] at hk2 HP
          rw [Bool.false_and] at hk2
          have HK := Lib.hid hk2
          clear hk2 hc
          go_wp2_with fail
          refine (HP.out _).mono ?_
          rintro e w1 ⟨rfl, hb1⟩
          have hb1' := hbw.trans (hb1.mono hbw.size)
          go_wp2
          go_ret
          exact Ret.of (by rw [← HCH.out, HK.out]; rfl) hb1'
      · obtain rfl : i = l.length := by omega
        have hk2 := hk.out
        rw [List.drop_length] at hk2
        have HK := Lib.hid hk2
        clear hk2 hk
        go_wp2
        go_ret
        exact Ret.of (by rw [← HCH.out, HK.out]; rfl) hbw
theorem right_any (ls : List (Value × List PT)) (g : Nat) (w : World) (hr : Row w g 36 (ls.map (·.1)))
    (h : ∀ x ∈ ls, RdP w x.1 x.2 ∧ x.2.length ≤ maxLen ∧ ∀ p ∈ x.2, p.1.length ≤ maxLen ∧ p.2.length ≤ maxLen) (hn : ls.length ≤ 10) :
    Calls Tryz.prog 26 #[.slice (some ⟨g, 0, none⟩) ls.length ls.length] w (Ret w (.bool (ls.all fun x => rightB x.2))) := by
  have HR := Lib.hid hr
  have HL := Lib.hid (fun i (hi : i < ls.length) => h _ (List.getElem_mem hi))
  generalize hch : (ls.all fun x => rightB x.2) = ch
  have HCH := Lib.hid hch
  clear hr h hch
  go_enter Tryz.func26, Tryz.ntmps26
  go_wp2
  go_loopw [9] (fun iv wr => ∃ i : Nat, iv = .int .i64 (i : Int) ∧ i ≤ ls.length ∧ Hid ((ls.all fun x => rightB x.2) = ((ls.drop i).all fun x => rightB x.2)) ∧ Below w.heap.size w wr) (fun iv _ => ls.length - (intOf iv).toNat)
  case atStart => exact ⟨0, rfl, by omega, (rfl : (ls.all fun x => rightB x.2) = ((ls.drop 0).all fun x => rightB x.2)), Below.refl _ _⟩
  case round =>
    obtain ⟨i, rfl, hi, hk, hbw⟩ := hrel
    by_cases hlt : i < ls.length
    · have cc := (HR.out.below' hbw).cell (i := i) (v := ls[i].1) (by simp [hlt])
      have hk2 := hk.out
      rw [List.drop_eq_getElem_cons hlt, List.all_cons] at hk2
      obtain ⟨hrd, hln, hps⟩ := HL.out i hlt
      have hrd := hrd.below hbw
      clear hk
      generalize hx : ls[i] = x at *
      clear hx
      obtain ⟨v, l⟩ := x
      simp only at cc hk2 hrd hln hps
      have HF := Lib.hid (few_any v l wr hrd hln hps)
      have HRD := Lib.hid hrd
      obtain ⟨A, cap, rfl⟩ := hrd.len
      unfold maxLen at hln
      clear hrd
      by_cases hf : fewB l = true
      · rw [hf] at HF
        by_cases h8 : l.length ≤ 8
        · have hd : decide (8 < (l.length : Int)) = false := by simp; omega
          have HPC := Lib.hid (fun j (hj : j < l.length) wx => rcheck l[j] wx ((fewB_few hf h8) _ (List.getElem_mem hj)).1 ((fewB_few hf h8) _ (List.getElem_mem hj)).2)
          have e1 : rightB l = l.all okP := by unfold rightB; rw [hf, decide_eq_true h8]; simp
          rw [e1] at hk2
          have HK := Lib.hid hk2
          clear hk2 e1 hps hf
          obtain ⟨W0, hW0⟩ : ∃ x, x = wr := ⟨wr, rfl⟩
          subst hW0
          go_wp2_with fail
          refine (HF.out).mono ?_
          rintro e w1 ⟨rfl, hb1⟩
          go_wp2
          go_loopw [23] (fun jv wr2 => ∃ j : Nat, jv = .int .i64 (j : Int) ∧ j ≤ l.length ∧ Hid ((l.all okP) = ((l.drop j).all okP)) ∧ Below W0.heap.size W0 wr2) (fun jv _ => l.length - (intOf jv).toNat)
          case atStart => exact ⟨0, rfl, by omega, (rfl : (l.all okP) = ((l.drop 0).all okP)), hb1⟩
          case round =>
            obtain ⟨j, rfl, hj, hq, hbv⟩ := hrel
            by_cases hlj : j < l.length
            · obtain ⟨b1, o1, rfl, hw⟩ := HRD.out.row j hlj
              have hwr := hw.below' hbv
              have cv := hwr.val j hlj
              have cw := hwr.wt j hlj
              have hq2 := hq.out
              rw [List.drop_eq_getElem_cons hlj, List.all_cons] at hq2
              have HP := Lib.hid (HPC.out j hlj)
              clear hq hwr hw
              generalize hx : l[j] = x at *
              clear hx
              obtain ⟨s, t⟩ := x
              simp only at cv cw
              have row := Row.new wr 24 [.string (bs s), .string (bs t)]
              have c0 := row.cell (i := 0) rfl
              have c1 := row.cell (i := 1) rfl
              have HRW := Lib.hid row
              have HBN := Lib.hid (hbv.alloc hbv.size (.cells #[.string (bs s), .string (bs t)] 24))
              clear row
              by_cases hc : chkP (s, t) = 0
              · rw [hc] at HP
                by_cases h1 : s.length ≤ 15
                · have d1 : decide (15 < (s.length : Int)) = false := by simp; omega
                  by_cases h2 : t.length ≤ 15
                  · have d2 : decide (15 < (t.length : Int)) = false := by simp; omega
                    rw [show okP (s, t) = true by unfold okP; simp [hc, h1, h2], Bool.true_and] at hq2
                    have HQ := Lib.hid hq2
                    clear hq2 hc h1 h2
                    go_wp2_with fail
                    refine (HP.out _).mono ?_
                    rintro e w2 ⟨rfl, hb2⟩
                    have k1 := HRW.out.below' hb2
                    have m0 := k1.cell (i := 0) rfl
                    have m1 := k1.cell (i := 1) rfl
                    have HBE := Lib.hid (HBN.out.trans (hb2.mono HBN.out.size))
                    clear k1 hb2 c0 c1 HBN
                    go_wp2
                    go_roundw
                    case rel => exact ⟨j + 1, by go_num, by omega, HQ, HBE.out⟩
                    case measure => simp [intOf]; omega
                  · have d2 : decide (15 < (t.length : Int)) = true := by simp; omega
                    rw [show okP (s, t) = false by unfold okP; simp [hc, h2], Bool.false_and] at hq2
                    have HQ := Lib.hid hq2
                    clear hq2 hc h1 h2
                    go_wp2_with fail
                    refine (HP.out _).mono ?_
                    rintro e w2 ⟨rfl, hb2⟩
                    have k1 := HRW.out.below' hb2
                    have m0 := k1.cell (i := 0) rfl
                    have m1 := k1.cell (i := 1) rfl
                    have HBE := Lib.hid (HBN.out.trans (hb2.mono HBN.out.size))
                    clear k1 hb2 c0 c1 HBN
                    go_wp2
                    go_ret
                    exact Ret.of (by rw [← HCH.out, HK.out, HQ.out]; rfl) (hbw.trans (HBE.out.mono hbw.size))
                · have d1 : decide (15 < (s.length : Int)) = true := by simp; omega
                  rw [show okP (s, t) = false by unfold okP; simp [hc, h1], Bool.false_and] at hq2
                  have HQ := Lib.hid hq2
                  clear hq2 hc h1
                  go_wp2_with fail
                  refine (HP.out _).mono ?_
                  rintro e w2 ⟨rfl, hb2⟩
                  have k1 := HRW.out.below' hb2
                  have m0 := k1.cell (i := 0) rfl
                  have HBE := Lib.hid (HBN.out.trans (hb2.mono HBN.out.size))
                  clear k1 hb2 c0 c1 HBN
                  go_wp2
                  go_ret
                  exact Ret.of (by rw [← HCH.out, HK.out, HQ.out]; rfl) (hbw.trans (HBE.out.mono hbw.size))
              · have hz : (((chkP (s, t) : Nat) : Int) != 0) = true := by simp; exact hc
                rw [show okP (s, t) = false by unfold okP; simp [hc], Bool.false_and] at hq2
                have HQ := Lib.hid hq2
                generalize ((chkP (s, t) : Nat) : Int) = cz at *
                clear hq2 hc
                go_wp2_with fail
                refine (HP.out _).mono ?_
                rintro e w2 ⟨rfl, hb2⟩
                have HBE := Lib.hid (HBN.out.trans (hb2.mono HBN.out.size))
                clear hb2 c0 c1 HBN
                go_wp2
                go_ret
                exact Ret.of (by rw [← HCH.out, HK.out, HQ.out]; rfl) (hbw.trans (HBE.out.mono hbw.size))
            · obtain rfl : j = l.length := by omega
              have hq2 := hq.out
              rw [List.drop_length] at hq2
              have HQ := Lib.hid hq2
              have HBE := Lib.hid (hbw.trans (hbv.mono hbw.size))
              clear hq2 hq hbv
              go_wp2
              go_roundw
              case rel => exact ⟨i + 1, by go_num, by omega, Lib.hid (by rw [HK.out, HQ.out]; rfl), HBE.out⟩
              case measure => simp [intOf]; omega
        · have hd : decide (8 < (l.length : Int)) = true := by simp; omega
          rw [show rightB l = false by unfold rightB; simp [h8], Bool.false_and] at hk2
          have HK := Lib.hid hk2
          clear hk2 hps hf
          go_wp2_with fail
          refine (HF.out).mono ?_
          rintro e w1 ⟨rfl, hb1⟩
          have hb1' := hbw.trans (hb1.mono hbw.size)
          go_wp2
          go_ret
          exact Ret.of (by rw [← HCH.out, HK.out]; rfl) hb1'
      · rw [Bool.not_eq_true] at hf
        rw [hf] at HF
        rw [show rightB l = false by unfold rightB; simp [hf], Bool.false_and] at hk2
        have HK := Lib.hid hk2
        clear hk2 hps hf
        go_wp2_with fail
        refine (HF.out).mono ?_
        rintro e w1 ⟨rfl, hb1⟩
        have hb1' := hbw.trans (hb1.mono hbw.size)
        go_wp2
        go_ret
        exact Ret.of (by rw [← HCH.out, HK.out]; rfl) hb1'
    · obtain rfl : i = ls.length := by omega
      have hk2 := hk.out
      rw [List.drop_length] at hk2
      have HK := Lib.hid hk2
      clear hk2 hk
      go_wp2
      go_ret
      exact Ret.of (by rw [← HCH.out, HK.out]; rfl) hbw
theorem right_two (va vb : Value) (la lb : List PT) (w : World) (ha : RdP w va la) (hb : RdP w vb lb) (na : la.length ≤ maxLen) (nb : lb.length ≤ maxLen)
    (sa : ∀ p ∈ la, p.1.length ≤ maxLen ∧ p.2.length ≤ maxLen) (sb : ∀ p ∈ lb, p.1.length ≤ maxLen ∧ p.2.length ≤ maxLen) :
    Calls Tryz.prog 26 #[.slice (some ⟨w.heap.size, 0, none⟩) 2 2] (w.alloc (.cells #[va, vb] 36)) (Ret (w.alloc (.cells #[va, vb] 36)) (.bool (rightB la && rightB lb))) := by
  have hal := (Below.refl w.heap.size w).alloc (Nat.le_refl _) (.cells #[va, vb] 36)
  have h := right_any [(va, la), (vb, lb)] w.heap.size (w.alloc (.cells #[va, vb] 36)) (rnew rfl rfl) (fun x hx => by
    simp only [List.mem_cons, List.not_mem_nil, or_false] at hx
    rcases hx with rfl | rfl
    · exact ⟨ha.below hal, na, sa⟩
    · exact ⟨hb.below hal, nb, sb⟩) (by simp)
  simpa using h
end W
end Go.Proofs.YtpjaoapnangccaaGreatDoor
namespace Go.Proofs.YtpjaoapnangccaaGreatDoor
open Go Go.RowKit Go.Deep Go.Sort
namespace W
open M
attribute [local go_sem] bs_size bs_toList bs_get bs_extract bs_append bs_lit0 bs_lit1 lit1_bs
set_option maxHeartbeats 1000000
set_option maxRecDepth 20000
theorem union_sm {a b : List SQ} (ha : SmallL a) (hb : SmallL b) (va vb : Value) (w W : World) (hg : Glob w) (ra : RdP w va (sx a)) (rb : RdP w vb (sx b)) (hW : Below w.heap.size w W) :
    Calls Tryz.prog 19 #[va, vb] W (LstP (sx (tidy (a ++ b))) W) :=
  (punion_ok a b va vb W (hg.of hW) (ra.below hW) (rb.below hW) (by have := ha.1; omega) (by have := hb.1; omega) ha.sp hb.sp).mono fun _ _ h => h.lst rfl
theorem inter_sm {a b : List SQ} (ha : SmallL a) (hb : SmallL b) (va vb : Value) (w W : World) (hg : Glob w) (ra : RdP w va (sx a)) (rb : RdP w vb (sx b)) (hW : Below w.heap.size w W) :
    Calls Tryz.prog 22 #[va, vb] W (LstP (sx (tidy (M.inter a b))) W) :=
  (pinter_ok a b va vb W (hg.of hW) (ra.below hW) (rb.below hW) (by have := ha.1; omega) (by have := hb.1; omega) ha.sp hb.sp).mono fun _ _ h => h.lst rfl
theorem diff_sm {a b : List SQ} (ha : SmallL a) (hb : SmallL b) (va vb : Value) (w W : World) (hg : Glob w) (ra : RdP w va (sx a)) (rb : RdP w vb (sx b)) (hW : Below w.heap.size w W) :
    Calls Tryz.prog 24 #[va, vb] W (LstP (sx (tidy (wo a b none (endsZ (a ++ b))))) W) :=
  (pdiff_ok a b va vb W (hg.of hW) (ra.below hW) (rb.below hW) (by have := ha.1; omega) (by have := hb.1; omega) ha.sp hb.sp).mono fun _ _ h => h.lst rfl
theorem normal_res {l : List SQ} (h : Res l) (v : Value) (w W : World) (hg : Glob w) (hv : RdP w v (sx l)) (hW : Below w.heap.size w W) : Calls Tryz.prog 27 #[v] W (LstP (sx l) W) := by
  have h1 := pnormal_ok l v W (hg.of hW) (hv.below hW) (by have := h.few; omega) h.sp
  rw [tidy_nf h.nf] at h1
  exact h1.mono fun _ _ hc => CmbP.lst rfl hc
theorem length_res {l : List SQ} (h : Res l) (v : Value) (w W : World) (hg : Glob w) (hv : RdP w v (sx l)) (hW : Below w.heap.size w W) : Calls Tryz.prog 28 #[v] W (Ret W (.tuple #[.string (bs (R (lenQ l))), .int .i64 0])) := by
  have e := tidy_nf h.nf
  have := length_ok l v W (hg.of hW) (hv.below hW) (by have := h.few; omega) h.sp (by rw [e]; have := h.few; omega) (by rw [e]; exact h.sp) (by rw [e]; exact fun k _ => (h.len k).mono (by decide))
  rwa [e] at this
theorem length_sm {a : List SQ} (h : SmallL a) (v : Value) (w W : World) (hg : Glob w) (hv : RdP w v (sx a)) (hW : Below w.heap.size w W) : Calls Tryz.prog 28 #[v] W (Ret W (.tuple #[.string (bs (R (lenQ (tidy a)))), .int .i64 0])) :=
  have hr := h.self
  length_ok a v W (hg.of hW) (hv.below hW) (by have := h.1; omega) h.sp (by have := hr.few; omega) hr.sp fun k _ => (hr.len k).mono (by decide)
theorem res_all {l : List SQ} (h : Res l) : Bq 433 (lenQ l) := by
  have := h.len l.length
  rwa [List.take_length] at this
theorem same_ret (va vb : Value) (l : List PT) (w W : World) (ha : RdP w va l) (hb : RdP w vb l) (hl : l.length ≤ 100000) (hW : Below w.heap.size w W) : Calls Tryz.prog 21 #[va, vb] W (Ret W (.bool true)) :=
  (same_yes va vb l W (ha.below hW) (hb.below hW) hl).mono fun e w' h => by
    obtain ⟨h1, n, h2⟩ := h
    subst h2
    exact ⟨h1, Below.drewN (Below.refl _ _) n⟩
theorem counts_law (va vb : Value) (la lb : List PT) (w : World) (hg : Glob w) (ha : RdP w va la) (hb : RdP w vb lb) (na : la.length ≤ maxLen) (nb : lb.length ≤ maxLen)
    (sa : ∀ p ∈ la, p.1.length ≤ maxLen ∧ p.2.length ≤ maxLen) (sb : ∀ p ∈ lb, p.1.length ≤ maxLen ∧ p.2.length ≤ maxLen) :
    Calls Tryz.prog 5 #[va, vb] w (Ret w (.bool true)) := by
  have HRT := Lib.hid (right_two va vb la lb w ha hb na nb sa sb)
  have HAL := Lib.hid ((Below.refl w.heap.size w).alloc (Nat.le_refl _) (.cells #[va, vb] 36))
  have HG := Lib.hid hg
  have HAW := Lib.hid (fun W hW => awake W hW)
  clear na nb sa sb
  by_cases hr : (rightB la && rightB lb) = true
  · rw [hr] at HRT
    rw [Bool.and_eq_true] at hr
    obtain ⟨a, rfl, xa⟩ := rightB_yes hr.1
    obtain ⟨b, rfl, xb⟩ := rightB_yes hr.2
    have HU := Lib.hid (fun W hW => union_sm xa xb va vb w W hg ha hb hW)
    have HV := Lib.hid (fun W hW => union_sm xb xa vb va w W hg hb ha hW)
    have HX := Lib.hid (fun W hW => inter_sm xa xb va vb w W hg ha hb hW)
    have HY := Lib.hid (fun W hW => inter_sm xb xa vb va w W hg hb ha hW)
    rw [union_comm xa xb] at HV
    rw [inter_comm a b] at HY
    have HRU := Lib.hid (xa.union xb)
    have HRX := Lib.hid (xa.inter xb)
    have HLA := Lib.hid (fun W hW => length_sm xa va w W hg ha hW)
    have HLB := Lib.hid (fun W hW => length_sm xb vb w W hg hb hW)
    have q1 := res_all xa.self
    have q2 := res_all xb.self
    have he := len_sum xa.rgt xb.rgt
    have HA1 := Lib.hid (fun W (hW : Below w.heap.size w W) => ratAdd _ _ 433 433 W (hg.of hW) (res_all HRU.out) (res_all HRX.out) (by decide))
    have HA2 := Lib.hid (fun W (hW : Below w.heap.size w W) => ratAdd _ _ 433 433 W (hg.of hW) q1 q2 (by decide))
    rw [← he] at HA2
    obtain ⟨A0, c0, rfl⟩ := ha.len
    obtain ⟨B0, e0, rfl⟩ := hb.len
    clear q1 q2 he xa xb hr ha hb hg
    generalize tidy (a ++ b) = u at *
    generalize tidy (M.inter a b) = x at *
    generalize R (lenQ u + lenQ x) = tsum at *
    generalize R (lenQ (tidy a)) = t1 at *
    generalize R (lenQ (tidy b)) = t2 at *
    go_enter Tryz.func5, Tryz.ntmps5
    go_wp2_with fail
    refine (HRT.out).mono ?_
    rintro e w1 ⟨rfl, hb1⟩
    have h1 := HAL.out.trans (hb1.mono HAL.out.size)
    clear HRT hb1 HAL
    go_wp2_with fail
    refine (HU.out w1 h1).mono ?_
    rintro e w2 ⟨A1, c1, rfl, ru, hb2⟩
    have h2 := h1.trans (hb2.mono h1.size)
    clear HU h1 hb2
    go_wp2_with fail
    refine (HV.out w2 h2).mono ?_
    rintro e w3 ⟨A2, c2, rfl, rv, hb3⟩
    have h3 := h2.trans (hb3.mono h2.size)
    have ru := ru.below hb3
    clear HV h2 hb3
    go_wp2_with fail
    refine (HX.out w3 h3).mono ?_
    rintro e w4 ⟨A3, c3, rfl, rx, hb4⟩
    have h4 := h3.trans (hb4.mono h3.size)
    have ru := ru.below hb4
    have rv := rv.below hb4
    clear HX h3 hb4
    go_wp2_with fail
    refine (HY.out w4 h4).mono ?_
    rintro e w5 ⟨A4, c4, rfl, ry, hb5⟩
    have h5 := h4.trans (hb5.mono h4.size)
    have ru := ru.below hb5
    have rv := rv.below hb5
    have rx := rx.below hb5
    clear HY h4 hb5
    have nu : (sx u).length ≤ 100000 := by rw [sx_len]; have := HRU.out.few; omega
    have nx : (sx x).length ≤ 100000 := by rw [sx_len]; have := HRX.out.few; omega
    have HS1 := Lib.hid (fun W hW => same_ret _ _ _ w5 W ru rv nu hW)
    have HS2 := Lib.hid (fun W hW => same_ret _ _ _ w5 W rx ry nx hW)
    have HN := Lib.hid (fun W hW => normal_res HRU.out _ w5 W (HG.out.of h5) ru hW)
    have HS3 := Lib.hid (fun v W (hv : RdP W v (sx u)) (hW : Below w5.heap.size w5 W) => same_ret v _ _ W W hv (ru.below hW) nu (Below.refl _ _))
    have HLU := Lib.hid (fun W hW => length_res HRU.out _ w5 W (HG.out.of h5) ru hW)
    have HLX := Lib.hid (fun W hW => length_res HRX.out _ w5 W (HG.out.of h5) rx hW)
    have H5 := Lib.hid h5
    clear ru rv rx ry nu nx HRU HRX h5
    generalize R (lenQ u) = t3 at *
    generalize R (lenQ x) = t4 at *
    go_wp2_with fail
    refine (HS1.out _ (Below.refl _ _)).mono ?_
    rintro e w6 ⟨rfl, hb6⟩
    go_wp2_with fail
    refine (HS2.out _ hb6).mono ?_
    rintro e w7 ⟨rfl, hb7⟩
    have h7 := hb6.trans (hb7.mono hb6.size)
    clear hb6 hb7 HS1 HS2
    go_wp2_with fail
    refine (HN.out w7 h7).mono ?_
    rintro e w8 ⟨A5, c5, rfl, rn, hb8⟩
    have h8 := h7.trans (hb8.mono h7.size)
    clear HN h7 hb8
    have HS4 := Lib.hid (HS3.out _ w8 rn h8)
    clear HS3 rn
    go_wp2_with fail
    refine (HS4.out).mono ?_
    rintro e w9 ⟨rfl, hb9⟩
    have h9 := h8.trans (hb9.mono h8.size)
    clear h8 hb9 HS4
    go_wp2_with fail
    refine (HLU.out _ h9).mono ?_
    rintro e w10 ⟨rfl, hb10⟩
    have h10 := h9.trans (hb10.mono h9.size)
    clear h9 hb10 HLU
    go_wp2_with fail
    refine (HLX.out _ h10).mono ?_
    rintro e w11 ⟨rfl, hb11⟩
    have h11 := H5.out.trans ((h10.trans (hb11.mono h10.size)).mono H5.out.size)
    clear h10 hb11 HLX H5
    go_wp2_with fail
    refine (HLA.out _ h11).mono ?_
    rintro e w12 ⟨rfl, hb12⟩
    have h12 := h11.trans (hb12.mono h11.size)
    clear h11 hb12 HLA
    go_wp2_with fail
    refine (HLB.out _ h12).mono ?_
    rintro e w13 ⟨rfl, hb13⟩
    have h13 := h12.trans (hb13.mono h12.size)
    clear h12 hb13 HLB
    go_wp2_with fail
    refine (HA1.out _ h13).mono ?_
    rintro e w14 ⟨rfl, hb14⟩
    have h14 := h13.trans (hb14.mono h13.size)
    clear h13 hb14 HA1
    go_wp2_with fail
    refine (HA2.out _ h14).mono ?_
    rintro e w15 ⟨rfl, hb15⟩
    have h15 := h14.trans (hb15.mono h14.size)
    clear h14 hb15 HA2
    go_wp2_with fail
    refine (HAW.out _ (HG.out.of h15)).mono ?_
    rintro e w16 ⟨rfl, hb16⟩
    have h16 := h15.trans (hb16.mono h15.size)
    go_wp2
    go_ret
    exact Ret.of rfl h16
  · rw [Bool.not_eq_true] at hr
    rw [hr] at HRT
    obtain ⟨A0, c0, rfl⟩ := ha.len
    obtain ⟨B0, e0, rfl⟩ := hb.len
    clear hg ha hb hr
    go_enter Tryz.func5, Tryz.ntmps5
    go_wp2_with fail
    refine (HRT.out).mono ?_
    rintro e w1 ⟨rfl, hb1⟩
    have hb1' := HAL.out.trans (hb1.mono HAL.out.size)
    go_wp2_with fail
    refine (HAW.out _ (HG.out.of hb1')).mono ?_
    rintro e w2 ⟨rfl, hb2⟩
    go_wp2
    go_ret
    exact Ret.of rfl (Below.then hb1' hb2)
end W
end Go.Proofs.YtpjaoapnangccaaGreatDoor
namespace Go.Proofs.YtpjaoapnangccaaGreatDoor
open Go Go.RowKit Go.Deep Go.Sort
/-- The world behind some rounds: the row of answers and the row of lists. -/
structure HSt (W0 W : World) (g1 g2 : Nat) (bl vals : List Value) : Prop where
  bel : Below W0.heap.size W0 W
  arr : Row W g1 64 bl
  row : Row W g2 36 vals
  low : W0.heap.size ≤ g1
  ne : g2 ≠ g1
theorem HSt.call {W0 W W2 : World} {g1 g2 : Nat} {bl vals : List Value} (h : HSt W0 W g1 g2 bl vals) (hb : Below W.heap.size W W2) : HSt W0 W2 g1 g2 bl vals :=
  ⟨h.bel.trans (hb.mono h.bel.size), h.arr.below' hb, h.row.below' hb, h.low, h.ne⟩
theorem HSt.store {W0 W : World} {g1 g2 : Nat} {bl vals : List Value} (h : HSt W0 W g1 g2 bl vals) (k : Nat) (v : Value) : HSt W0 (W.setCell ⟨g1, k, none⟩ v) g1 g2 (bl.set k v) vals :=
  ⟨h.bel.setCell (p := ⟨g1, k, none⟩) h.low v, h.arr.set k v, h.row.other (a := ⟨g1, k, none⟩) h.ne v, h.low, h.ne⟩
namespace W
open M
attribute [local go_sem] bs_size bs_toList bs_get bs_extract bs_append bs_lit0 bs_lit1 lit1_bs
set_option maxHeartbeats 1000000
set_option maxRecDepth 20000
theorem hst_start (W0 : World) (vals : List Value) :
    HSt W0 ((W0.alloc (.cells #[.bool false, .bool false, .bool false, .bool false, .bool false] 64)).alloc (.cells vals.toArray 36)) W0.heap.size (W0.heap.size + 1) [.bool false, .bool false, .bool false, .bool false, .bool false] vals :=
  ⟨((Below.refl _ _).alloc (Nat.le_refl _) _).alloc (by rw [size_alloc']; omega) _, Row.alloc (rnew rfl rfl) _, rnew (size1 _ _) rfl, Nat.le_refl _, by omega⟩
theorem holds_sp {l : List SQ} {x : Rat} (hx : Bq 30 x) (hl : l.length ≤ 60) (hs : ∀ s ∈ l, SpB 30 s) (v : Value) (w W : World) (hg : Glob w) (hv : RdP w v (sx l)) (hW : Below w.heap.size w W) :
    Calls Tryz.prog 39 #[v, .string (bs (R x))] W (Ret W (.tuple #[.bool (hasB l x), .int .i64 0])) :=
  holds_ok l v x W (hg.of hW) (hv.below hW) hl hs hx
theorem holds_law (va vb : Value) (la lb : List PT) (k : List UInt8) (w : World) (hg : Glob w) (ha : RdP w va la) (hb : RdP w vb lb) (na : la.length ≤ maxLen) (nb : lb.length ≤ maxLen)
    (sa : ∀ p ∈ la, p.1.length ≤ maxLen ∧ p.2.length ≤ maxLen) (sb : ∀ p ∈ lb, p.1.length ≤ maxLen ∧ p.2.length ≤ maxLen) (nk : k.length ≤ maxLen) :
    Calls Tryz.prog 8 #[va, vb, .string (bs k)] w (Ret w (.bool true)) := by
  have HRT := Lib.hid (right_two va vb la lb w ha hb na nb sa sb)
  have HAL := Lib.hid ((Below.refl w.heap.size w).alloc (Nat.le_refl _) (.cells #[va, vb] 36))
  have HG := Lib.hid hg
  have HAW := Lib.hid (fun W hW => awake W hW)
  have HSK := Lib.hid (fun W => short_any k W (by unfold maxLen at nk; omega))
  clear na nb sa sb nk
  by_cases hr : (rightB la && rightB lb) = true
  · rw [hr] at HRT
    by_cases hs : shortB k = true
    · rw [hs] at HSK
      have HCK := Lib.hid (fun W => check2_any k W (by have := short_num hs; omega))
      by_cases hc : chkR k = 0
      · rw [hc] at HCK
        obtain ⟨x, rfl, hx⟩ := short_R hs hc
        rw [Bool.and_eq_true] at hr
        obtain ⟨a, rfl, xa⟩ := rightB_yes hr.1
        obtain ⟨b, rfl, xb⟩ := rightB_yes hr.2
        have HU := Lib.hid (fun W hW => union_sm xa xb va vb w W hg ha hb hW)
        have HX := Lib.hid (fun W hW => inter_sm xa xb va vb w W hg ha hb hW)
        have HD := Lib.hid (fun W hW => diff_sm xa xb va vb w W hg ha hb hW)
        have ru := xa.union xb
        have rx := xa.inter xb
        have rd := xa.diff xb
        have HH1 := Lib.hid (fun W hW => holds_sp hx (by have := xa.1; omega) xa.sp va w W hg ha hW)
        have HH2 := Lib.hid (fun W hW => holds_sp hx (by have := xb.1; omega) xb.sp vb w W hg hb hW)
        have HH3 := Lib.hid (fun v w W hg hv hW => holds_sp hx (by have := ru.few; omega) ru.sp v w W hg hv hW)
        have HH4 := Lib.hid (fun v w W hg hv hW => holds_sp hx (by have := rx.few; omega) rx.sp v w W hg hv hW)
        have HH5 := Lib.hid (fun v w W hg hv hW => holds_sp hx (by have := rd.few; omega) rd.sp v w W hg hv hW)
        rw [has_or xa xb] at HH3
        rw [has_and] at HH4
        have d1 : hasB a x = true → hasB b x = false → hasB (tidy (wo a b none (endsZ (a ++ b)))) x = true := has_dif1
        have d2 : hasB (tidy (wo a b none (endsZ (a ++ b)))) x = true → hasB a x = true := has_dif2
        have HDD := Lib.hid (And.intro d1 d2)
        obtain ⟨A0, c0, rfl⟩ := ha.len
        obtain ⟨B0, e0, rfl⟩ := hb.len
        clear ru rx rd d1 d2 hr hs hc xa xb ha hb hg hx
        generalize hasB (tidy (wo a b none (endsZ (a ++ b)))) x = D at *
        generalize hasB a x = A at *
        generalize hasB b x = B at *
        generalize tidy (a ++ b) = u at *
        generalize tidy (M.inter a b) = y at *
        generalize tidy (wo a b none (endsZ (a ++ b))) = z at *
        generalize R x = px at *
        go_enter Tryz.func8, Tryz.ntmps8
        go_wp2_with fail
        refine (HRT.out).mono ?_
        rintro e w1 ⟨rfl, hb1⟩
        have h1 := HAL.out.trans (hb1.mono HAL.out.size)
        clear HRT hb1 HAL
        go_wp2_with fail
        refine (HSK.out _).mono ?_
        rintro e w2 ⟨rfl, hb2⟩
        have h2 := h1.trans (hb2.mono h1.size)
        clear HSK h1 hb2
        go_wp2_with fail
        refine (HCK.out _).mono ?_
        rintro e w3 ⟨rfl, hb3⟩
        have h3 := h2.trans (hb3.mono h2.size)
        clear HCK h2 hb3
        go_wp2_with fail
        refine (HU.out w3 h3).mono ?_
        rintro e w4 ⟨A1, c1, rfl, ru, hb4⟩
        have h4 := h3.trans (hb4.mono h3.size)
        clear HU h3 hb4
        go_wp2_with fail
        refine (HX.out w4 h4).mono ?_
        rintro e w5 ⟨A2, c2, rfl, rx, hb5⟩
        have h5 := h4.trans (hb5.mono h4.size)
        have ru := ru.below hb5
        clear HX h4 hb5
        go_wp2_with fail
        refine (HD.out w5 h5).mono ?_
        rintro e w6 ⟨A3, c3, rfl, rd, hb6⟩
        have h6 := h5.trans (hb6.mono h5.size)
        have ru := ru.below hb6
        have rx := rx.below hb6
        have H6 := Lib.hid h6
        have HH3 := Lib.hid (fun W hW => HH3.out _ w6 W (HG.out.of H6.out) ru hW)
        have HH4 := Lib.hid (fun W hW => HH4.out _ w6 W (HG.out.of H6.out) rx hW)
        have HH5 := Lib.hid (fun W hW => HH5.out _ w6 W (HG.out.of H6.out) rd hW)
        clear HD h5 hb6 ru rx rd h6
        have HH1 := Lib.hid (fun W (hW : Below w6.heap.size w6 W) => HH1.out W (H6.out.trans (hW.mono H6.out.size)))
        have HH2 := Lib.hid (fun W (hW : Below w6.heap.size w6 W) => HH2.out W (H6.out.trans (hW.mono H6.out.size)))
        have HS0 := Lib.hid (hst_start w6 [.slice A0 (sx a).length c0, .slice B0 (sx b).length e0, .slice A1 (sx u).length c1, .slice A2 (sx y).length c2, .slice A3 (sx z).length c3])
        have r0 := HS0.out.row.cell (i := 0) rfl
        go_wp2
        refine wp_loop_rounds 6 ?_
        rw [rounds_succ]
        go_wp2_with fail
        refine (HH1.out _ HS0.out.bel).mono ?_
        rintro e w7 ⟨rfl, hb7⟩
        have hs := HS0.out.call hb7
        have f := hs.arr.free 0
        have g := hs.arr.cell (i := 0) rfl
        have HS1 := Lib.hid (hs.store 0 (.bool A))
        clear hb7 hs r0 HH1 HS0
        have r1 := HS1.out.row.cell (i := 1) rfl
        go_wp2_with fail
        rw [rounds_succ]
        go_wp2_with fail
        clear f g
        refine (HH2.out _ HS1.out.bel).mono ?_
        rintro e w8 ⟨rfl, hb8⟩
        have hs := HS1.out.call hb8
        have f := hs.arr.free 1
        have g := hs.arr.cell (i := 1) rfl
        have HS2 := Lib.hid (hs.store 1 (.bool B))
        clear hb8 hs r1 HH2 HS1
        have r2 := HS2.out.row.cell (i := 2) rfl
        go_wp2_with fail
        rw [rounds_succ]
        go_wp2_with fail
        clear f g
        refine (HH3.out _ HS2.out.bel).mono ?_
        rintro e w9 ⟨rfl, hb9⟩
        have hs := HS2.out.call hb9
        have f := hs.arr.free 2
        have g := hs.arr.cell (i := 2) rfl
        have HS3 := Lib.hid (hs.store 2 (.bool (A || B)))
        clear hb9 hs r2 HH3 HS2
        have r3 := HS3.out.row.cell (i := 3) rfl
        go_wp2_with fail
        rw [rounds_succ]
        go_wp2_with fail
        clear f g
        refine (HH4.out _ HS3.out.bel).mono ?_
        rintro e w10 ⟨rfl, hb10⟩
        have hs := HS3.out.call hb10
        have f := hs.arr.free 3
        have g := hs.arr.cell (i := 3) rfl
        have HS4 := Lib.hid (hs.store 3 (.bool (A && B)))
        clear hb10 hs r3 HH4 HS3
        have r4 := HS4.out.row.cell (i := 4) rfl
        go_wp2_with fail
        rw [rounds_succ]
        go_wp2_with fail
        clear f g
        refine (HH5.out _ HS4.out.bel).mono ?_
        rintro e w11 ⟨rfl, hb11⟩
        have hs := HS4.out.call hb11
        have f := hs.arr.free 4
        have g := hs.arr.cell (i := 4) rfl
        have HS5 := Lib.hid (hs.store 4 (.bool D))
        clear hb11 hs r4 HH5 HS4
        have a0 := HS5.out.arr.cell (i := 0) rfl
        have a1 := HS5.out.arr.cell (i := 1) rfl
        have a2 := HS5.out.arr.cell (i := 2) rfl
        have a3 := HS5.out.arr.cell (i := 3) rfl
        have a4 := HS5.out.arr.cell (i := 4) rfl
        have HF := Lib.hid (H6.out.trans (HS5.out.bel.mono H6.out.size))
        clear HS5 H6
        obtain ⟨d1, d2⟩ := HDD.out
        clear HDD
        cases A <;> cases B <;> cases D
        all_goals first
          | exact absurd (d1 rfl rfl) (by decide)
          | exact absurd (d2 rfl) (by decide)
          | skip
        all_goals
          clear d1 d2
          go_wp2_with fail
          rw [rounds_succ]
          go_wp2_with fail
          refine (HAW.out _ (HG.out.of HF.out)).mono ?_
          rintro e w12 ⟨rfl, hb12⟩
          go_wp2
          go_ret
          exact Ret.of rfl (Below.then HF.out hb12)
      · have hz : (((chkR k : Nat) : Int) != 0) = true := by simp; exact hc
        obtain ⟨A0, c0, rfl⟩ := ha.len
        obtain ⟨B0, e0, rfl⟩ := hb.len
        clear hg ha hb hr hs hc
        generalize ((chkR k : Nat) : Int) = cz at *
        go_enter Tryz.func8, Tryz.ntmps8
        go_wp2_with fail
        refine (HRT.out).mono ?_
        rintro e w1 ⟨rfl, hb1⟩
        have h1 := HAL.out.trans (hb1.mono HAL.out.size)
        go_wp2_with fail
        refine (HSK.out _).mono ?_
        rintro e w2 ⟨rfl, hb2⟩
        have h2 := h1.trans (hb2.mono h1.size)
        go_wp2_with fail
        refine (HCK.out _).mono ?_
        rintro e w3 ⟨rfl, hb3⟩
        have h3 := h2.trans (hb3.mono h2.size)
        go_wp2_with fail
        refine (HAW.out _ (HG.out.of h3)).mono ?_
        rintro e w4 ⟨rfl, hb4⟩
        go_wp2
        go_ret
        exact Ret.of rfl (Below.then h3 hb4)
    · rw [Bool.not_eq_true] at hs
      rw [hs] at HSK
      obtain ⟨A0, c0, rfl⟩ := ha.len
      obtain ⟨B0, e0, rfl⟩ := hb.len
      clear hg ha hb hr hs
      go_enter Tryz.func8, Tryz.ntmps8
      go_wp2_with fail
      refine (HRT.out).mono ?_
      rintro e w1 ⟨rfl, hb1⟩
      have h1 := HAL.out.trans (hb1.mono HAL.out.size)
      go_wp2_with fail
      refine (HSK.out _).mono ?_
      rintro e w2 ⟨rfl, hb2⟩
      have h2 := h1.trans (hb2.mono h1.size)
      go_wp2_with fail
      refine (HAW.out _ (HG.out.of h2)).mono ?_
      rintro e w3 ⟨rfl, hb3⟩
      go_wp2
      go_ret
      exact Ret.of rfl (Below.then h2 hb3)
  · rw [Bool.not_eq_true] at hr
    rw [hr] at HRT
    obtain ⟨A0, c0, rfl⟩ := ha.len
    obtain ⟨B0, e0, rfl⟩ := hb.len
    clear hg ha hb hr
    go_enter Tryz.func8, Tryz.ntmps8
    go_wp2_with fail
    refine (HRT.out).mono ?_
    rintro e w1 ⟨rfl, hb1⟩
    have h1 := HAL.out.trans (hb1.mono HAL.out.size)
    go_wp2_with fail
    refine (HAW.out _ (HG.out.of h1)).mono ?_
    rintro e w2 ⟨rfl, hb2⟩
    go_wp2
    go_ret
    exact Ret.of rfl (Below.then h1 hb2)
end W
end Go.Proofs.YtpjaoapnangccaaGreatDoor
