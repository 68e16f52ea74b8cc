/-
  Chapter 26 of the program: the map in which 'Collect' gathers the weights at each value: a map of rows of texts that the call makes.
  Chapter 26 of the program: steps of 'Collect': the look-up, the append and the store of its map; 'Total'.
  Chapter 26 of the program: 'slices.SortFunc' on the elements that 'Collect' has gathered: the library's contract at this program.
-/
import Derived.Test.YtgjfiaadnecilaaGreatDoorKQ
import Derived.Maps.RangeWalk
import Derived.Maps.AppendAt
import Derived.Maps.Views
import Derived.Test.YtgjfiaadnecilaaGreatDoorKI
import Derived.Test.YtgjfiaadnecilaaGreatDoorShelfs
namespace Go.Proofs.YtgjfiaadnecilaaGreatDoor
open Go Go.RowKit Go.Deep
set_option maxRecDepth 20000
/-- An element of the map, as it is. -/
def Rv (v : Value) : Option (DataW Value × List MemPlace) := some (.held v, [])
theorem keyInt : Maps.Keyed Tryz.prog 3 := Maps.int_keyed Tryz.underlying3
theorem zeroRow (w : World) : (zeroValue 92).run Tryz.prog w = .ok (.slice none 0 0) w := by kernel_rfl
theorem keyOf_i64 {v : Int} (h : (Lit.int .i64 v).wf = true) : keyOf Tryz.prog 3 (.int .i64 v) = some (.int .i64 v) := Maps.keyOf_int_mk Tryz.underlying3 h
/-- Block bm is a map from the values of a list to rows of the texts of their weights; no two rows are one; the rows lie from block B on. -/
def Grp (w : World) (B bm n : Nat) (l : List M.ZT) : Prop :=
  ∃ (D : DataW Value) (V : Int → Value), w.ownsMap Tryz.prog 3 Rv bm n D ∧ Maps.IsMap D ∧ bm < B ∧
    (∀ kl, Maps.has D kl = true → ∃ v, kl = .int .i64 v ∧ M.keyIn l v) ∧
    (∀ v, M.keyIn l v → Maps.has D (.int .i64 v) = true ∧ ∀ z, D.atKey (.int .i64 v) z = .held (V v)) ∧
    (∀ v, M.keyIn l v → OwnS w B (V v) ((M.wAt l v).map M.I)) ∧
    ∀ u v, M.keyIn l u → M.keyIn l v → u ≠ v → (V u).ownBlock ≠ (V v).ownBlock
theorem Grp.made (w : World) (B : Nat) (hB : w.heap.size < B) : Grp (w.alloc (.map #[] 0)) B w.heap.size 0 [] :=
  ⟨.map [], fun _ => .slice none 0 0, World.ownsMap_made _ _ _ _, Maps.isMap_empty, hB, fun kl h => (by simp [Maps.has] at h), fun v ⟨x, hx, _⟩ => (by cases hx), fun v ⟨x, hx, _⟩ => (by cases hx), fun u v ⟨x, hx, _⟩ => (by cases hx)⟩
theorem grown_refl (w : World) (row : Option Nat) : w.grownBy w row := ⟨rfl, rfl, rfl, Nat.le_refl _, fun _ _ _ => rfl⟩
theorem grown_drew {a w : World} {row : Option Nat} (h : a.grownBy w row) : a.grownBy w.drew row := ⟨h.os, h.tape, h.output, h.size, h.block⟩
theorem grown_below {w w' : World} (hb : Below w.heap.size w w') : w.grownBy w' none := ⟨hb.os, hb.tape, hb.output, hb.size, fun k hk _ => hb.block k hk⟩
theorem OwnS.off {w : World} {B : Nat} {v : Value} {l : List (List UInt8)} (h : OwnS w B v l) {A : Nat} (hA : w.heap.size ≤ A) : some A ≠ v.ownBlock := fun e => by
  have := (World.ownsRow.lt h A e.symm).2; omega
theorem OwnS.blk {w : World} {B : Nat} {v : Value} {l : List (List UInt8)} (h : OwnS w B v l) (hn : l ≠ []) : ∃ g, v.ownBlock = some g := by
  rcases h.2 with ⟨_, h0⟩ | ⟨g, cap, cur, rfl, _⟩
  · exact absurd (List.length_eq_zero_iff.1 h0) hn
  · exact ⟨g, rfl⟩
theorem OwnS.kept {w w' : World} {B : Nat} {v : Value} {l : List (List UInt8)} {row : Option Nat} (h : OwnS w B v l) (hg : w.grownBy w' row) (hne : v.ownBlock = none ∨ v.ownBlock ≠ row) : OwnS w' B v l := World.ownsRow.kept h hg hne
/-- The map stays while other things are made. -/
theorem Grp.keep0 {w w' : World} {B bm n : Nat} {l : List M.ZT} (h : Grp w B bm n l) (hg : w.grownBy w' none) : Grp w' B bm n l := by
  obtain ⟨D, V, h1, h2, h3, h4, h5, h6, h7⟩ := h
  exact ⟨D, V, h1.kept hg (by simp), h2, h3, h4, h5, fun v hv => (h6 v hv).kept hg (Classical.em _), h7⟩
/-- The way back from a look-up: what is appended to the row at a value, and laid back. -/
def GBack (w : World) (B bm n : Nat) (l : List M.ZT) (v : Int) (u : Value) : Prop :=
  ∀ (w1 : World) (u' : Value) (z : Int), w.grownBy w1 u.ownBlock → OwnS w1 B u' ((M.wAt l v).map M.I ++ [M.I z]) → (u'.ownBlock = u.ownBlock ∨ ∃ g, u'.ownBlock = some g ∧ w.heap.size ≤ g) →
    ∃ w2, (Instr.mapUpdate 122 (.map (some bm)) (.int .i64 v) u').run Tryz.prog w1 = .ok () w2 ∧ Grp w2 B bm (n + 1) (l ++ [(v, z)]) ∧ w1.grownBy w2 (some bm)
theorem Grp.look {w : World} {B bm n : Nat} {l : List M.ZT} {v : Int} (h : Grp w B bm n l) (hn : n < maxLen) (hv : (Lit.int .i64 v).wf = true) :
    ∃ u, (∀ wx, w.grownBy wx none → (Instr.lookup 122 (.map (some bm)) (.int .i64 v) false).run Tryz.prog wx = .ok u wx) ∧ OwnS w B u ((M.wAt l v).map M.I) ∧ GBack w B bm n l v u := by
  obtain ⟨D, V, h1, h2, h3, h4, h5, h6, h7⟩ := h
  have hk := keyOf_i64 hv
  obtain ⟨u, hu⟩ : ∃ u, D.atKey (.int .i64 v) (.held (.slice none 0 0)) = .held u := by
    obtain ⟨u, ps, _, hr⟩ := h1.lookup keyInt Tryz.underlying122 (zeroRow w) (zd := .held (.slice none 0 0)) (zp := []) rfl hk
    exact ⟨u, by unfold Rv at hr; injection hr with hr; injection hr with hr; exact hr.symm⟩
  have hlook : ∀ wx, w.grownBy wx none → (Instr.lookup 122 (.map (some bm)) (.int .i64 v) false).run Tryz.prog wx = .ok u wx := fun wx hg => by
    obtain ⟨u2, ps, hrun, hr⟩ := (h1.kept hg (by simp)).lookup keyInt Tryz.underlying122 (zeroRow wx) (zd := .held (.slice none 0 0)) (zp := []) rfl hk
    unfold Rv at hr
    injection hr with hr
    injection hr with hr
    rw [hu] at hr
    injection hr with hr
    rw [hrun, hr]
  have hown : OwnS w B u ((M.wAt l v).map M.I) := by
    by_cases hkv : M.keyIn l v
    · have := (h5 v hkv).2 (.held (.slice none 0 0))
      rw [hu] at this
      injection this with this
      rw [this]; exact h6 v hkv
    · have hno : Maps.has D (.int .i64 v) = false := by
        rw [Bool.eq_false_iff]; intro e
        obtain ⟨v2, e2, hk2⟩ := h4 _ e
        injection e2 with _ e2
        rw [e2] at hkv; exact hkv hk2
      have := Maps.atKey_of_not_has hno (.held (.slice none 0 0))
      rw [hu] at this
      injection this with this
      have e0 : M.wAt l v = [] := Decidable.byContradiction fun hne => hkv (M.wAt_key.2 hne)
      rw [this, e0]
      exact World.ownsRow_nil _ _ _ _
  have huk : M.keyIn l v → u = V v := fun hkv => by
    have := (h5 v hkv).2 (.held (.slice none 0 0))
    rw [hu] at this
    injection this
  have hun : ¬ M.keyIn l v → u.ownBlock = none := fun hkv => by
    have e0 : M.wAt l v = [] := Decidable.byContradiction fun hne => hkv (M.wAt_key.2 hne)
    rw [e0] at hown
    have hno : Maps.has D (.int .i64 v) = false := by
      rw [Bool.eq_false_iff]; intro e
      obtain ⟨v2, e2, hk2⟩ := h4 _ e
      injection e2 with _ e2
      rw [e2] at hkv; exact hkv hk2
    have := Maps.atKey_of_not_has hno (.held (.slice none 0 0))
    rw [hu] at this
    injection this with this
    rw [this]; rfl
  refine ⟨u, hlook, hown, fun w1 u' z hg ho hloc => ?_⟩
  have hbu : some bm ≠ u.ownBlock := fun e => by
    have := (World.ownsRow.lt hown bm e.symm).1; omega
  have hVn : ∀ x, M.keyIn l x → ∃ g, (V x).ownBlock = some g ∧ B ≤ g ∧ g < w.heap.size := fun x hx => by
    obtain ⟨g, hg'⟩ := (h6 x hx).blk (fun e => M.wAt_key.1 hx (List.map_eq_nil_iff.1 e))
    have := World.ownsRow.lt (h6 x hx) g hg'
    exact ⟨g, hg', this.1, this.2⟩
  have hVu : ∀ x, M.keyIn l x → x ≠ v → (V x).ownBlock ≠ u.ownBlock := fun x hx hne => by
    by_cases hkv : M.keyIn l v
    · rw [huk hkv]; exact h7 x v hx hkv hne
    · obtain ⟨g, hg', _⟩ := hVn x hx
      rw [hun hkv, hg']; simp
  have hVu' : ∀ x, M.keyIn l x → x ≠ v → (V x).ownBlock ≠ u'.ownBlock := fun x hx hne => by
    rcases hloc with e | ⟨g, e, hge⟩
    · rw [e]; exact hVu x hx hne
    · obtain ⟨g2, e2, _, h9⟩ := hVn x hx
      rw [e, e2]
      intro e3
      injection e3 with e3
      omega
  have hub : u'.ownBlock = none ∨ u'.ownBlock ≠ some bm := Or.inr fun e => by
    have := (World.ownsRow.lt ho bm e).1; omega
  obtain ⟨w2, hrun, hm2, hg2⟩ := (h1.kept hg hbu).update keyInt Tryz.underlying122 hn hk (show Rv u' = some (.held u', []) from rfl)
  have hkl := keyInt.key hk
  have hmem : ∀ x, M.keyIn (l ++ [(v, z)]) x → x ≠ v → M.keyIn l x := fun x hx hne => by
    rcases M.keyIn_append.1 hx with h | h
    · exact h
    · exact absurd (M.keyIn_one.1 h).symm hne
  have hlit : ∀ x, x ≠ v → Lit.int .i64 x ≠ Lit.int .i64 v := fun x hne e => by
    injection e with _ e
    exact hne e
  obtain ⟨V2, hV2⟩ : ∃ V2 : Int → Value, ∀ x, V2 x = if x = v then u' else V x := ⟨_, fun _ => rfl⟩
  refine ⟨w2, hrun, ⟨D.put (.int .i64 v) (.held u'), V2, hm2, h2.put _ _, h3, ?_, ?_, ?_, ?_⟩, hg2⟩
  · intro kl hkl2
    by_cases e : kl = .int .i64 v
    · exact ⟨v, e, M.keyIn_append.2 (Or.inr (M.keyIn_one.2 rfl))⟩
    · rw [Maps.has_put_other e] at hkl2
      obtain ⟨x, ex, hx⟩ := h4 kl hkl2
      exact ⟨x, ex, M.keyIn_append.2 (Or.inl hx)⟩
  · intro x hx
    by_cases e : x = v
    · subst e
      refine ⟨Maps.has_put_same h2 hkl _, fun z0 => ?_⟩
      rw [Maps.atKey_put_same h2 hkl, hV2, if_pos rfl]
    · obtain ⟨a1, a2⟩ := h5 x (hmem x hx e)
      refine ⟨by rw [Maps.has_put_other (hlit x e)]; exact a1, fun z0 => ?_⟩
      rw [Maps.atKey_put_other (hlit x e), hV2, if_neg e]
      exact a2 z0
  · intro x hx
    by_cases e : x = v
    · subst e
      rw [M.wAt_snoc, hV2, if_pos rfl, if_pos rfl, List.map_append]
      exact ho.kept hg2 hub
    · have hx' := hmem x hx e
      rw [M.wAt_snoc, hV2, if_neg e, if_neg (fun h => e h.symm), List.append_nil]
      refine ((h6 x hx').kept hg (Or.inr (hVu x hx' e))).kept hg2 (Or.inr fun e2 => ?_)
      obtain ⟨g2, e3, h8, _⟩ := hVn x hx'
      rw [e3] at e2
      injection e2 with e2
      omega
  · intro x y hx hy hne
    by_cases ex : x = v
    · by_cases ey : y = v
      · exact absurd (ex.trans ey.symm) hne
      · rw [hV2, hV2, if_pos ex, if_neg ey]
        exact fun e => hVu' y (hmem y hy ey) ey e.symm
    · by_cases ey : y = v
      · rw [hV2, hV2, if_neg ex, if_pos ey]
        exact hVu' x (hmem x hx ex) ex
      · rw [hV2, hV2, if_neg ex, if_neg ey]
        exact h7 x y (hmem x hx ex) (hmem y hy ey) hne
end Go.Proofs.YtgjfiaadnecilaaGreatDoor
namespace Go.Proofs.YtgjfiaadnecilaaGreatDoor
open Go Go.RowKit Go.Deep
set_option maxRecDepth 20000
theorem step_look {ops : Array Oper} {o : Oper} {a : Act} {K : Act → World → Prop} {Q : Exit → Act → World → Prop} {E : Prop} {w : World} (hgd : o.guard = none) (m x : Operand) (bm : Nat) (v : Int) (u : Value)
    (ho : o.op = Op.lookup 122 m x false) (hm : a.eval m = .map (some bm)) (hx : a.eval x = .int .i64 v)
    (hrun : (Instr.lookup 122 (.map (some bm)) (.int .i64 v) false).run Tryz.prog w = .ok u w) (hK : K (a.put o.dst u) w) : if Region.wanted o (yielded ops a.tmps) = true then Oper.wp Tryz.prog o a w K Q else E := by
  have hw : Region.wanted o (yielded ops a.tmps) = true := by simp [Region.wanted, hgd]
  rw [if_pos hw]
  unfold Oper.wp execOp
  simp only [ho, hm, hx, hrun, Sem.run_bind, Sem.run_pure, Result.andThen_ok]
  exact hK
theorem step_put {ops : Array Oper} {o : Oper} {a : Act} {K : Act → World → Prop} {Q : Exit → Act → World → Prop} {E : Prop} {w w2 : World} (hgd : o.guard = none) (m x y : Operand) (bm : Nat) (v : Int) (u : Value)
    (ho : o.op = Op.mapUpdate 122 m x y) (hm : a.eval m = .map (some bm)) (hx : a.eval x = .int .i64 v) (hy : a.eval y = u)
    (hrun : (Instr.mapUpdate 122 (.map (some bm)) (.int .i64 v) u).run Tryz.prog w = .ok () w2) (hK : K (a.put o.dst undef) w2) : if Region.wanted o (yielded ops a.tmps) = true then Oper.wp Tryz.prog o a w K Q else E := by
  have hw : Region.wanted o (yielded ops a.tmps) = true := by simp [Region.wanted, hgd]
  rw [if_pos hw]
  unfold Oper.wp execOp
  simp only [ho, hm, hx, hy, hrun, Sem.run_bind, Sem.run_pure, Result.andThen_ok]
  exact hK
theorem run_app_at {w : World} {B : Nat} {v xv : Value} {l m : List (List UInt8)} (ty : TypeId) (h : OwnS w B v l) (hsrc : SrcS w xv m) (hB : B ≤ w.heap.size) (hn : l.length + m.length ≤ 1000000000) :
    ∃ v' w', (Builtin.append_ #[92, 92] ty #[v, xv]).run Tryz.prog w = .ok v' w' ∧ OwnS w' B v' (l ++ m) ∧ w.grownBy w' v.ownBlock ∧ (v'.ownBlock = v.ownBlock ∨ v'.ownBlock = some w.heap.size) := by
  obtain ⟨i, h1, h2, h3, h4⟩ := info_parts infoIt
  obtain ⟨b, cap, rfl, hc⟩ := hsrc
  have hadd : ∀ j, (⟨b, 0, none⟩ : Addr).add j = ⟨b, j, none⟩ := fun j => by unfold Addr.add; split <;> simp_all
  obtain ⟨v', w', k1, k2, k3, _, k5⟩ := run_append_own_at (P := Tryz.prog) w B _ ty _ i _ 1 16 Tryz.underlying92 h1 h2 h3 h4 rfl (by decide) v l.length (Strs l) h ⟨b, 0, none⟩ m.length cap (Strs m) (by simp [Strs])
    (fun j u hj => by rw [hadd]; exact hc j u hj) (fun u hu => by simp [Strs] at hu; obtain ⟨_, _, rfl⟩ := hu; rfl) (by unfold maxLen; omega) (by omega) hB
  refine ⟨v', w', k1, ?_, k3, k5⟩
  unfold OwnS
  rw [List.length_append, show Strs (l ++ m) = Strs l ++ Strs m by simp [Strs]]
  exact k2
theorem step_app_at {ops : Array Oper} {o : Oper} {a : Act} {K : Act → World → Prop} {Q : Exit → Act → World → Prop} {E : Prop} {w : World} {B : Nat} {v xv : Value} {l m : List (List UInt8)} (hgd : o.guard = none) (s x : Operand)
    (ho : o.op = .call { callee := .builtin .append, args := #[s, x], argTypes := #[92, 92] }) (hs : a.eval s = v) (hx : a.eval x = xv)
    (h : OwnS w B v l) (hsrc : SrcS w xv m) (hB : B ≤ w.heap.size) (hn : l.length + m.length ≤ 1000000000)
    (hK : ∀ v' w', OwnS w' B v' (l ++ m) → w.grownBy w' v.ownBlock → (v'.ownBlock = v.ownBlock ∨ v'.ownBlock = some w.heap.size) → K (a.put o.dst v') w') : if Region.wanted o (yielded ops a.tmps) = true then Oper.wp Tryz.prog o a w K Q else E := by
  have hw : Region.wanted o (yielded ops a.tmps) = true := by simp [Region.wanted, hgd]
  rw [if_pos hw]
  obtain ⟨v', w', hr, h2, h3, h4⟩ := run_app_at o.type h hsrc hB hn
  unfold Oper.wp execOp
  simp only [ho, resolve, invoke, builtin, Sem.run_bind, Sem.run_pure, Result.andThen_ok, List.map_toArray, List.map_cons, List.map_nil, hs, hx, hr]
  exact hK v' w' h2 h3 h4
namespace M
theorem chkAll_ok : ∀ {zs : List Int}, (∀ z ∈ zs, Ok z) → chkAll (zs.map I) = 0
  | [], _ => rfl
  | z :: t, h => by
    rw [List.map_cons, chkAll, if_pos (chk_I0 (h z (by simp))), chkAll_ok (fun y hy => h y (by simp [hy]))]
end M
namespace W
open M
attribute [local go_sem] bs_size bs_toList bs_get bs_extract bs_append bs_lit0 bs_lit1 lit1_bs
set_option maxHeartbeats 1000000
theorem total_row (zs : List Int) (B : Nat) (u : Value) (w : World) (hg : Glob w) (hu : OwnS w B u (zs.map I)) (hne : zs ≠ []) (hz : ∀ z ∈ zs, Ok z) (hl : zs.length ≤ 4096) (hs : Ok (sm zs)) :
    Calls Tryz.prog 96 #[u] w (Ret w (.tuple #[.string (bs (I (sm zs))), .int .i64 0])) := by
  obtain ⟨g, cap, rfl, hBg, hgw, hc⟩ := hu.form (fun e => hne (List.map_eq_nil_iff.1 e))
  rw [List.length_map]
  have hc2 : ∀ i (hi : i < zs.length), w.cell? ⟨g, 0 + i, none⟩ = some (.string (bs (I zs[i]))) := fun i hi => by
    have := hc i (by rw [List.length_map]; exact hi)
    rw [Nat.zero_add, this, List.getElem_map]
  have ha := fun wx (hb : Below w.heap.size w wx) => vall_any (zs.map I) g 0 cap wx (fun l hl2 => by
    obtain ⟨z, hz2, rfl⟩ := List.mem_map.1 hl2
    have := (hz z hz2).len
    omega) (by rw [List.length_map]; omega) (Nat.lt_of_lt_of_le hgw hb.size) (fun i hi => by
    rw [List.length_map] at hi
    rw [List.getElem_map]; exact (hb.cell (p := ⟨g, 0 + i, none⟩) hgw).trans (hc2 i hi))
  rw [chkAll_ok hz, List.length_map] at ha
  have HA := Lib.hid ha
  have HS := Lib.hid (fun wx (hb : Below w.heap.size w wx) => sum_any zs g 0 cap wx (hg.of hb) hz (by omega) (Nat.lt_of_lt_of_le hgw hb.size) (fun i hi => (hb.cell (p := ⟨g, 0 + i, none⟩) hgw).trans (hc2 i hi)))
  rw [resV_ok hs] at HS
  have hd : decide ((zs.length : Int) > 4096) = false := by simp; omega
  clear hc hc2 ha hu hz hs hne
  generalize sm zs = t at *
  go_enter Tryz.func96, Tryz.ntmps96
  go_wp2_with fail
  refine (HA.out _ (Below.refl _ _)).mono ?_
  rintro e w1 ⟨rfl, hb1⟩
  go_wp2_with fail
  refine (HS.out _ hb1).mono ?_
  rintro e w2 ⟨rfl, hb2⟩
  go_wp2
  go_ret2
  exact Ret.of rfl (Below.then hb1 hb2)
end W
end Go.Proofs.YtgjfiaadnecilaaGreatDoor
namespace Go.Proofs.YtgjfiaadnecilaaGreatDoor
open Go Go.RowKit Go.Deep
set_option maxRecDepth 20000
/-- An element whose value is in its range. -/
def Vw : Type := { x : M.WT // M.okv x.1 = true }
instance vwInh : Inhabited Vw := ⟨⟨(0, []), rfl⟩⟩
def encW (x : Vw) : List Value := [.int .i64 x.1.1, .string (bs x.1.2)]
def cfW (x y : Vw) : Int := x.1.1 - y.1.1
theorem ltW (x y : Vw) : Go.Proofs.ltOf cfW x y = decide (x.1.1 < y.1.1) := by
  unfold Go.Proofs.ltOf cfW
  by_cases h : x.1.1 < y.1.1
  · rw [decide_eq_true h]; exact decide_eq_true (by omega)
  · rw [decide_eq_false h]; exact decide_eq_false (by omega)
theorem swoW : Go.Sort.SWO (Go.Proofs.ltOf cfW) where
  irrefl x := by rw [ltW]; simp
  trans x y z h1 h2 := by rw [ltW] at *; simp at *; omega
  ntrans x y z h1 h2 := by rw [ltW] at *; simp at *; omega
theorem ent_cmp : Enters Tryz.prog 98 := enters_of Tryz.func98 (by kernel_rfl) rfl
set_option maxHeartbeats 1000000 in
theorem closeW (x y : Vw) (W : World) : Calls Tryz.prog 98 #[.agg (encW x).toArray, .agg (encW y).toArray] W fun e w' => e = .returned (.int .i64 (cfW x y)) ∧ ∃ q os', w' = Go.Sort.grow (W.drewN q) os' := by
  obtain ⟨⟨a, s⟩, ha⟩ := x
  obtain ⟨⟨b, t⟩, hb⟩ := y
  have ha2 := M.okv_true.1 ha
  have hb2 := M.okv_true.1 hb
  simp only at ha2 hb2
  have hw : wrap64 (a - b) = a - b := IntWalk.wrap64_in _ (by omega)
  unfold encW cfW
  simp only
  clear ha hb
  go_enter Tryz.func98, Tryz.ntmps98
  go_wp2
  go_ret
  exact ⟨rfl, 0, _, by rw [Go.Sort.alloc_eq_grow, Go.Sort.alloc_eq_grow, Go.Sort.grow_grow]; rfl⟩
theorem flatW (d : Array Vw) : (Go.Sort.flatK encW 2 d).toList = wcs (d.toList.map (·.1)) := by
  apply List.ext_getElem?
  intro t
  have hs : (Go.Sort.flatK encW 2 d).size = d.size * 2 := Go.Sort.size_flatK _ _ _
  have hl : (wcs (d.toList.map (·.1))).length = d.size * 2 := by rw [wcs_len]; simp
  by_cases ht : t < d.size * 2
  · have hq : t / 2 < d.size := by omega
    have e1 : (Go.Sort.flatK encW 2 d).toList[t]? = some (Go.Sort.flatK encW 2 d)[t]! := by
      rw [Array.getElem?_toList, getElem!_pos _ t (by omega), Array.getElem?_eq_getElem (by omega)]
    rw [e1, Go.Sort.get_flatK _ _ _ _ ht]
    obtain ⟨k1, k2⟩ := wcs_get (d.toList.map (·.1)) (t / 2) (by simpa using hq)
    have e2 : d[t / 2]! = d[t / 2] := getElem!_pos d (t / 2) hq
    have e3 : (d.toList.map (·.1))[t / 2]'(by simpa using hq) = d[t / 2].1 := by simp
    rw [e3] at k1 k2
    rw [e2]
    rcases Nat.mod_two_eq_zero_or_one t with hm | hm
    · rw [show t / 2 * 2 = t by omega] at k1
      rw [k1, hm]; rfl
    · rw [show t / 2 * 2 + 1 = t by omega] at k2
      rw [k2, hm]; rfl
  · rw [List.getElem?_eq_none (by rw [Array.length_toList]; omega), List.getElem?_eq_none (by omega)]
theorem holdsW {w : World} {g : Nat} {cur : Array Value} {e : TypeId} {F : Array Value} (hb : w.heap[g]? = some (.cells cur e (0, 0))) (ht : cur.toList.take F.size = F.toList) : Go.Sort.Holds id w g 0 F := by
  intro j hj
  refine ⟨?_, by simp [World.frozen?, hb]⟩
  have h1 : (cur.toList.take F.size)[j]? = F.toList[j]? := by rw [ht]
  rw [List.getElem?_take_of_lt hj] at h1
  simp only [World.cell?, hb, Nat.zero_add]
  simp only [Option.isSome_none, Bool.false_eq_true, if_false]
  rw [← Array.getElem?_toList, h1, Array.getElem?_toList, Array.getElem?_eq_getElem hj, getElem!_pos F j hj]; rfl
theorem heapW {w : World} {g n : Nat} {os : Array Obj} {cur : Array Value} {e : TypeId} {fr : Nat × Nat} (F : Array Value) (hb : w.heap[g]? = some (.cells cur e fr)) :
    (Go.Sort.grow (Go.Sort.putRow id (Go.Sort.ahead w n) g 0 F) os).heap[g]? = some (.cells (Go.Sort.putCells id 0 F cur) e fr) := by
  have hg : g < w.heap.size := (Array.getElem?_eq_some_iff.1 hb).1
  rw [Go.Sort.heap_grow_old _ _ (by simpa using hg)]
  simp [Go.Sort.putRow, Go.Sort.mapBlock, Go.Sort.ahead, Array.getElem?_modify, hb, Go.Sort.onCells]
theorem grownW {w : World} {g n : Nat} {os : Array Obj} (F : Array Value) : w.grownBy (Go.Sort.grow (Go.Sort.putRow id (Go.Sort.ahead w n) g 0 F) os) (some g) := by
  refine ⟨rfl, rfl, rfl, by simp, fun k hk hne => ?_⟩
  rw [Go.Sort.heap_grow_old _ _ (by simpa using hk)]
  have : g ≠ k := fun e => hne (by rw [e])
  simp [Go.Sort.putRow, Go.Sort.mapBlock, Go.Sort.ahead, Array.getElem?_modify, this]
theorem takeW (cur F : Array Value) (h : F.size ≤ cur.size) : (Go.Sort.putCells id 0 F cur).toList.take F.size = F.toList := by
  apply List.ext_getElem?
  intro j
  by_cases hj : j < F.size
  · rw [List.getElem?_take_of_lt hj, Array.getElem?_toList, Array.getElem?_toList]
    simp [Go.Sort.putCells, hj, show j < cur.size by omega]
  · rw [List.getElem?_take_eq_none (by omega), List.getElem?_eq_none (by simp; omega)]
theorem isAggW (w : World) : (isAgg 61).run Tryz.prog w = .ok true w := by kernel_rfl
theorem sizeW (w : World) : (Go.sizeOf 61).run Tryz.prog w = .ok 2 w := by kernel_rfl
theorem liftW : ∀ l : List M.WT, (∀ x ∈ l, M.okv x.1 = true) → ∃ d : List Vw, d.map (·.1) = l
  | [], _ => ⟨[], rfl⟩
  | x :: t, h => by
    obtain ⟨d, hd⟩ := liftW t (fun y hy => h y (by simp [hy]))
    exact ⟨(⟨x, h x (by simp)⟩ : Vw) :: d, congrArg (List.cons x) hd⟩
/-- The sorted list in the same row. -/
theorem sort_ok (l : List M.WT) (hok : ∀ x ∈ l, M.okv x.1 = true) (B g cap : Nat) (w : World) (h : OwnW w B (.slice (some ⟨g, 0, none⟩) l.length cap) l) (hl : l.length ≤ 4096) :
    Calls Tryz.prog 97 #[.slice (some ⟨g, 0, none⟩) l.length cap, .func (.func 98) #[] #[]] w
      (fun e w' => e = .returned (.tuple #[]) ∧ ∃ l', l'.Perm l ∧ l'.Pairwise (fun a b => ¬ b.1 < a.1) ∧ OwnW w' B (.slice (some ⟨g, 0, none⟩) l.length cap) l' ∧ w.grownBy w' (some g)) := by
  obtain ⟨d, hd⟩ : ∃ d : Array Vw, d.toList.map (·.1) = l := by
    obtain ⟨d, hd⟩ := liftW l hok
    exact ⟨d.toArray, hd⟩
  have hdl : d.size = l.length := by rw [← hd]; simp
  obtain ⟨h1, h2⟩ := h
  rcases h2 with ⟨e, _⟩ | ⟨g', cap', cur, e, hB, hh, hc, hm, hs, ht⟩
  · cases e
  · injection e with e1 e2 e3
    injection e1 with e1
    injection e1 with e1
    subst e1 e3
    have hF : (Go.Sort.flatK encW 2 d).size = l.length * 2 := by rw [Go.Sort.size_flatK, hdl]
    have hH : Go.Sort.HoldsK encW 2 w g 0 d := holdsW hh (by rw [hF, flatW, hd]; exact ht)
    have hgl : g < w.heap.size := (Array.getElem?_eq_some_iff.1 hh).1
    have hcon := Go.Proofs.AnyQ.slices_SortFunc Tryz.sortW 2 isAggW sizeW encW (fun _ => rfl) (fun x v hv => by simp [encW] at hv; rcases hv with rfl | rfl <;> rfl) cfW swoW 98 #[] g 0 cap d w ent_cmp (fun _ _ _ _ x y => closeW x y _) hH hgl (by omega)
    change Calls Tryz.prog 97 _ _ _ at hcon
    rw [hdl] at hcon
    refine hcon.mono ?_
    rintro e w' ⟨rfl, d', n, os, hp, hso, rfl⟩
    have hdl' : d'.size = l.length := by rw [hp.1, hdl]
    have hF' : (Go.Sort.flatK encW 2 d').size = l.length * 2 := by rw [Go.Sort.size_flatK, hdl']
    have hperm : d'.toList.Perm d.toList := by
      have := hp.2.2
      rw [← hdl] at this
      simpa [Array.extract_eq_self_of_le, hp.1] using this
    refine ⟨rfl, d'.toList.map (·.1), by rw [← hd]; exact hperm.map _, ?_, ⟨by rw [wcs_len, List.length_map, Array.length_toList, hdl'], Or.inr ⟨g, cap, Go.Sort.putCells id 0 (Go.Sort.flatK encW 2 d') cur, by simp [hdl'], hB, heapW _ hh, by simp [hdl']; exact hc, hm, by simp [Go.Sort.putCells, hs], ?_⟩⟩, grownW _⟩
    · rw [List.pairwise_iff_getElem]
      intro i j hi hj hij
      simp only [List.length_map, Array.length_toList] at hi hj
      have := hso i j (Nat.zero_le _) hij (by omega)
      rw [ltW, getElem!_pos d' j hj, getElem!_pos d' i hi] at this
      simpa using this
    · rw [← flatW]
      have : (d'.toList.map (·.1)).length * 2 = (Go.Sort.flatK encW 2 d').size := by rw [hF']; simp [hdl']
      rw [this]
      exact takeW cur _ (by rw [hF', hs]; omega)
end Go.Proofs.YtgjfiaadnecilaaGreatDoor
