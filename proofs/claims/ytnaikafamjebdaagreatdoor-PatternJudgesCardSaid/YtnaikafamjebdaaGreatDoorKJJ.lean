/-
  Chapter 5: lists of texts that are made by 'append'; 'Check' of the reference.
  Chapter 5: the sum of products, on both sides.
  Chapter 5: which bounds a point keeps; 'Verify' on both sides.
  Chapter 5: 'Verify' on both sides.
  A region that draws its order: reads and calls that lay blocks at most, then a tail in one forced order (a store, an append). The head goes by the walk of the lexical order over a class of worlds; the tail is walked from any world of the class.
-/
import Derived.Test.YtnaikafamjebdaaGreatDoorKJI
import Derived.Deep.RegionHeld3
import Derived.StillTail
import Derived.Lib.QuietBelow
section
namespace Go.Proofs.YtnaikafamjebdaaGreatDoor
open Go Go.RowKit Go.Deep Go.Sort
theorem rnw {w : World} {t : TypeId} {xs : List Value} : Row (w.alloc (.cells xs.toArray t (0, 0))) w.heap.size t xs := Row.new w t xs
theorem rnew0 {w : World} {b : Nat} {t : TypeId} {xs : List Value} (hb : b = w.heap.size) : Row (w.alloc (.cells xs.toArray t (0, 0))) b t xs := by subst hb; exact rnw
theorem row_grown {w w' : World} {row : Option Nat} {b : Nat} {t : TypeId} {xs : List Value} (h : Row w b t xs) (hg : w.grownBy w' row) (hne : some b ≠ row) : Row w' b t xs := by
  have hlt := h.lt
  unfold Row at *
  rw [hg.block b hlt hne]; exact h
theorem grown_same (w : World) (row : Option Nat) : w.grownBy w row := ⟨rfl, rfl, rfl, Nat.le_refl _, fun _ _ _ => rfl⟩
def SrcT (w : World) (x : Value) (m : List (List UInt8)) : Prop :=
  (x = .slice none 0 0 ∧ m = []) ∨ ∃ a cap, x = .slice (some a) m.length cap ∧ ∀ j u, (Strs m)[j]? = some u → w.cell? (a.add j) = some u
theorem SrcT.of {w : World} {v : Value} {l : List (List UInt8)} (h : RdT w v l) (hs : Shp v) : SrcT w v l := by
  obtain ⟨A, cap, rfl, h2⟩ := h
  rcases hs with e | ⟨a, n, c, e⟩
  · injection e with e1 e2 e3
    subst e1 e3
    exact Or.inl ⟨by rw [e2], List.length_eq_zero_iff.1 e2⟩
  · injection e with e1 e2 e3
    subst e1
    refine Or.inr ⟨a, cap, rfl, ?_⟩
    rcases h2 with rfl | ⟨b, o, e4, h5⟩
    · intro j u hj; simp [Strs] at hj
    · injection e4 with e4
      subst e4
      intro j u hj
      have hadd : (⟨b, o, none⟩ : Addr).add j = ⟨b, o + j, none⟩ := by unfold Addr.add; split <;> simp_all
      rw [hadd]
      have hj2 : j < l.length := by
        have := (List.getElem?_eq_some_iff.1 hj).1
        simpa [Strs] using this
      have : (Strs l)[j]? = some (.string (bs l[j])) := by simp [Strs, hj2]
      rw [this] at hj
      rw [h5.val j hj2, Option.some.inj hj]
theorem SrcT.row {w : World} {b : Nat} {p : List UInt8} (h : Row w b 26 [.string (bs p)]) : SrcT w (.slice (some ⟨b, 0, none⟩) 1 1) [p] :=
  SrcT.of ⟨_, _, rfl, Or.inr ⟨_, _, rfl, h.lt, fun i hi => by
    obtain rfl : i = 0 := by simpa using hi
    exact h.cell rfl⟩⟩ (Or.inr ⟨_, _, _, rfl⟩)
theorem SrcT.new (w : World) (p : List UInt8) : SrcT (w.alloc (.cells #[.string (bs p)] 26 (0, 0))) (.slice (some ⟨w.heap.size, 0, none⟩) 1 1) [p] := SrcT.row rnw
theorem OwnS.fresh (w : World) (B A : Nat) (hA : A = w.heap.size) (hB : B ≤ A) : OwnS (w.alloc (.cells #[] 26 (0, 0))) B (.slice (some ⟨A, 0, none⟩) 0 0) [] := by
  subst hA
  refine ⟨rfl, Or.inr ⟨w.heap.size, 0, #[], rfl, hB, ?_, Nat.le_refl _, by unfold maxLen; omega, rfl, rfl⟩⟩
  show (w.heap.push _)[w.heap.size]? = _
  simp
theorem step_app_t {ops : Array Oper} {o : Oper} {a : Act} {K : Act → World → Prop} {Q : Exit → Act → World → Prop} {E : Prop} {w : World} {B : Nat} {v xv : Value} {l m : List (List UInt8)} (hgd : o.guard = none) (s x : Operand)
    (ho : o.op = .call { callee := .builtin .append, args := #[s, x], argTypes := #[28, 28] }) (hs : a.eval s = v) (hx : a.eval x = xv)
    (h : OwnS w B v l) (hsrc : SrcT w xv m) (hB : B ≤ w.heap.size) (hn : l.length + m.length ≤ 1000000000)
    (hK : ∀ v' w', OwnS w' B v' (l ++ m) → w.grownBy w' v.ownBlock → K (a.put o.dst v') w') : if Region.wanted o (yielded ops a.tmps) = true then Oper.wp Tryz.prog o a w K Q else E := by
  have hw : Region.wanted o (yielded ops a.tmps) = true := by simp [Region.wanted, hgd]
  rw [if_pos hw]
  have hr : ∃ v' w', (Builtin.append_ #[28, 28] o.type #[v, xv]).run Tryz.prog w = .ok v' w' ∧ OwnS w' B v' (l ++ m) ∧ w.grownBy w' v.ownBlock := by
    obtain ⟨i, h1, h2, h3, h4⟩ := info_parts infoRt
    rcases hsrc with ⟨rfl, rfl⟩ | ⟨ad, cap, rfl, hc⟩
    · refine ⟨v, w, run_append_owned_none (P := Tryz.prog) (w := w) B _ o.type _ i 1 Tryz.underlying28 h1 v l.length (Strs l) h, ?_, grown_same _ _⟩
      rw [List.append_nil]; exact h
    · obtain ⟨v', w', k1, k2, k3, _⟩ := run_append_own (P := Tryz.prog) w B _ o.type _ i _ 1 16 Tryz.underlying28 h1 h2 h3 h4 rfl (by decide) v l.length (Strs l) h ad m.length cap (Strs m) (by simp [Strs])
        hc (fun u hu => by simp [Strs] at hu; obtain ⟨_, _, rfl⟩ := hu; rfl) (by unfold maxLen; omega) (by omega) hB
      refine ⟨v', w', k1, ?_, k3⟩
      unfold OwnS
      rw [List.length_append, show Strs (l ++ m) = Strs l ++ Strs m by simp [Strs]]
      exact k2
  obtain ⟨v', w', hr, h2, h3⟩ := hr
  unfold Oper.wp execOp
  simp only [ho, resolve, invoke, builtin, Sem.run_bind, Sem.run_pure, Result.andThen_ok, List.map_toArray, List.map_cons, List.map_nil, hs, hx, hr]
  exact hK v' w' h2 h3
theorem app_belS {W w w' : World} {B : Nat} {v : Value} {l : List (List UInt8)} (h : OwnS w B v l) (hb : Below W.heap.size W w) (hB : W.heap.size ≤ B) (hg : w.grownBy w' v.ownBlock) : Below W.heap.size W w' :=
  hb.grown hg hb.size fun k hk => Nat.le_trans hB (World.ownsRow.lt h k hk).1
def ApS (W W' : World) (v : Value) (l : List (List UInt8)) : Prop := OwnS W' W.heap.size v l ∧ Below W.heap.size W W'
theorem OwnS.rd {w : World} {B : Nat} {v : Value} {l : List (List UInt8)} (h : OwnS w B v l) : RdT w v l := by
  by_cases hl : l = []
  · subst hl
    rcases h.2 with ⟨hv, _⟩ | ⟨g, cap, cur, hv, _⟩
    · exact ⟨_, _, hv, Or.inl rfl⟩
    · exact ⟨_, _, hv, Or.inl rfl⟩
  · obtain ⟨g, cap, e, _, hlt, hc⟩ := h.form hl
    exact ⟨_, _, e, Or.inr ⟨_, _, rfl, hlt, fun i hi => by rw [Nat.zero_add]; exact hc i hi⟩⟩
namespace W
open M
attribute [local go_sem] bs_size bs_toList bs_get bs_extract bs_append bs_lit0 bs_lit1 lit1_bs
set_option maxHeartbeats 1000000
set_option maxRecDepth 20000
theorem rcheck5 (n : Int) (va : Value) (l : List BT) (w : World) (ha : RdB w va l) (hl : l.length ≤ maxLen) (hs : l.length ≤ 64 → ∀ b ∈ l, b.1.length ≤ 900000 ∧ (∀ q ∈ b.1, q.length ≤ 90000) ∧ b.2.length ≤ 90000) :
    Calls Tryz.prog 72 #[.int .i64 n, va] w (Ret w (.int .i64 ((chk5 n l : Nat) : Int))) := by
  unfold maxLen at hl
  obtain ⟨A, cap, rfl⟩ := ha.len
  unfold chk5
  by_cases h1 : n < 1
  · rw [if_pos (Or.inl h1)]
    have d1 : decide (n < 1) = true := decide_eq_true h1
    clear ha hs
    go_enter Tryz.func72, Tryz.ntmps72
    go_wp2
    go_ret
    exact Ret.of rfl (Below.refl _ _)
  · have d1 : decide (n < 1) = false := decide_eq_false h1
    by_cases h8 : 8 < n
    · rw [if_pos (Or.inr h8)]
      have d8 : decide (8 < n) = true := decide_eq_true h8
      clear ha hs
      go_enter Tryz.func72, Tryz.ntmps72
      go_wp2
      go_ret
      exact Ret.of rfl (Below.refl _ _)
    · rw [if_neg (by omega)]
      have d8 : decide (8 < n) = false := decide_eq_false h8
      by_cases hb : 64 < l.length
      · rw [if_pos hb]
        have hd : decide (64 < (l.length : Int)) = true := by simp; omega
        clear ha hs
        go_enter Tryz.func72, Tryz.ntmps72
        go_wp2
        go_ret
        exact Ret.of rfl (Below.refl _ _)
      · rw [if_neg hb]
        have hd : decide (64 < (l.length : Int)) = false := by simp; omega
        have HW := Lib.hid ha
        have HSS := Lib.hid (fun i (hi : i < l.length) => hs (by omega) _ (List.getElem_mem hi))
        have hl64 : l.length ≤ 64 := by omega
        generalize hch : ((chkBs n l : Nat) : Int) = ch
        have HCH := Lib.hid hch
        clear ha hs hch
        go_enter Tryz.func72, Tryz.ntmps72
        go_wp2
        go_loopw [5] (fun iv wr => ∃ i : Nat, iv = .int .i64 (i : Int) ∧ i ≤ l.length ∧ Hid (chkBs n l = chkBs n (l.drop i)) ∧ Below w.heap.size w wr) (fun iv _ => l.length - (intOf iv).toNat)
        case atStart => exact ⟨0, rfl, by omega, (rfl : chkBs n l = chkBs n (l.drop 0)), Below.refl _ _⟩
        case round =>
          obtain ⟨i, rfl, hi, hk, hbw⟩ := hrel
          by_cases hlt : i < l.length
          · obtain ⟨b1, o1, rfl, hw⟩ := HW.out.row i hlt
            have hwr := hw.below' hbw
            obtain ⟨u, cu, hu, hsh⟩ := hwr.row i hlt
            have cm := hwr.most i hlt
            have hk2 := hk.out
            rw [chkBs_drop n l i hlt] at hk2
            obtain ⟨s1, s2, s3⟩ := HSS.out i hlt
            have hi0 : (0 : Int) ≤ (i : Int) := by omega
            have his : (i : Int) < (l.length : Int) := by omega
            have HBL := Lib.hid hwr.lt
            clear hk hwr hw
            generalize l[i] = x at *
            obtain ⟨xr, xm⟩ := x
            simp only at cm hu s1 s2 s3
            obtain ⟨W, hW⟩ : ∃ z, z = wr := ⟨wr, rfl⟩
            subst hW
            have HCX := Lib.hid (fun E (hE : Below W.heap.size W E) => And.intro ((hE.cell (p := ⟨b1, o1 + i * 2, none⟩) (by exact HBL.out)).trans cu) ((hE.cell (p := ⟨b1, o1 + i * 2 + 1, none⟩) (by exact HBL.out)).trans cm))
            have HS1 := Lib.hid (fun E (hE : Below W.heap.size W E) => SrcT.of (hu.below hE) hsh)
            have HNU := Lib.hid (fun v W2 (hv : RdT W2 v (xr ++ [xm])) => rnumbers v (xr ++ [xm]) W2 hv (fun q hq => (List.mem_append.1 hq).elim (s2 q) (fun h => by rw [List.mem_singleton.1 h]; exact s3)) (by rw [List.length_append]; simp; omega))
            obtain ⟨Au, cpu, rfl⟩ := hu.len
            clear hu s2 s3
            by_cases hln : (xr.length : Int) = n
            · have hdn : ((xr.length : Int) != n) = false := by simp; exact hln
              rw [show chkB1 n (xr, xm) = chkRs (xr ++ [xm]) by unfold chkB1; rw [if_neg (by simpa using hln)]] at hk2
              have HK := Lib.hid hk2
              clear hk2
              have HSZ := Lib.hid (show W.heap.size + 1 ≤ ((W.alloc (Obj.cells #[.string (bs xm)] 26 (0, 0))).alloc (Obj.cells #[] 26 (0, 0))).drew.heap.size ∧ True from ⟨by show W.heap.size + 1 ≤ ((W.alloc (Obj.cells #[.string (bs xm)] 26 (0, 0))).alloc (Obj.cells #[] 26 (0, 0))).heap.size; rw [World.size_alloc, World.size_alloc]; omega, trivial⟩)
              have HNE := Lib.hid (show some W.heap.size ≠ (Value.slice (some ⟨W.heap.size + 1, 0, none⟩) 0 0).ownBlock ∧ some (W.heap.size + 1) ≠ (Value.slice (some ⟨W.heap.size, 0, none⟩) 0 0).ownBlock from ⟨by simp [Value.ownBlock], by simp [Value.ownBlock]⟩)
              have HLN : Hid ((0 : Nat) + xr.length ≤ 1000000000 ∧ xr.length + 1 ≤ 1000000000) := Lib.hid (by omega)


              have HHB := Lib.hid hbw
              by_cases hc : chkRs (xr ++ [xm]) = 0
              · rw [hc] at HNU
                have HK2 := Lib.hid (show chkBs n l = chkBs n (l.drop (i + 1)) by rw [HK.out, if_pos hc])
                clear HK hc
                go_wp2_with fail
                go_region_held3 (fun E => E.cell? ⟨b1, o1 + i * 2, none⟩ = some (.slice Au xr.length cpu) ∧ E.cell? ⟨b1, o1 + i * 2 + 1, none⟩ = some (.string (bs xm)))
                  (first | exact HCX.out _ HF.out | exact HCX.out _ HA2.out.2 | exact HCX.out _ (HA1.out.2.alloc HA1.out.2.size _) | exact HCX.out _ HA1.out.2 | exact HCX.out _ (Below.refl _ _) | exact HCX.out _ (RowKit.Below.drew (Below.refl W.heap.size W)) | exact HCX.out _ (RowKit.Below.drew ((Below.refl W.heap.size W).alloc (Nat.le_refl _) _)) | exact HCX.out _ (RowKit.Below.drew (((Below.refl W.heap.size W).alloc (Nat.le_refl _) (Obj.cells #[.string (bs xm)] 26 (0, 0))).alloc ((Below.refl W.heap.size W).alloc (Nat.le_refl _) (Obj.cells #[.string (bs xm)] 26 (0, 0))).size (Obj.cells #[] 26 (0, 0)))) | exact HCX.out _ (RowKit.Below.drew (((Below.refl W.heap.size W).alloc (Nat.le_refl _) (Obj.cells #[] 26 (0, 0))).alloc ((Below.refl W.heap.size W).alloc (Nat.le_refl _) (Obj.cells #[] 26 (0, 0))).size (Obj.cells #[.string (bs xm)] 26 (0, 0)))))
                  (first
                  | (refine step_app_t (v := .slice (some ⟨W.heap.size, 0, none⟩) 0 0) rfl (.tmp 30) (.tmp 35) rfl rfl rfl ((OwnS.fresh W W.heap.size W.heap.size rfl (Nat.le_refl _)).drew) (HS1.out _ (RowKit.Below.drew ((Below.refl W.heap.size W).alloc (Nat.le_refl _) (Obj.cells #[] 26 (0, 0))))) (RowKit.Below.drew ((Below.refl W.heap.size W).alloc (Nat.le_refl _) (Obj.cells #[] 26 (0, 0)))).size HLN.out.1 ?_; intro v1 w1 ho1 hg1; have HA1 := Lib.hid (show ApS W w1 v1 xr from ⟨ho1, app_belS ((OwnS.fresh W W.heap.size W.heap.size rfl (Nat.le_refl _)).drew) (RowKit.Below.drew ((Below.refl W.heap.size W).alloc (Nat.le_refl _) (Obj.cells #[] 26 (0, 0)))) (Nat.le_refl _) hg1⟩))
                  | (refine step_app_t (v := .slice (some ⟨W.heap.size + 1, 0, none⟩) 0 0) rfl (.tmp 30) (.tmp 35) rfl rfl rfl ((OwnS.fresh (W.alloc (Obj.cells #[.string (bs xm)] 26 (0, 0))) (W.heap.size + 1) (W.heap.size + 1) (World.size_alloc _ _).symm (Nat.le_refl _)).drew) (HS1.out _ (RowKit.Below.drew (((Below.refl W.heap.size W).alloc (Nat.le_refl _) (Obj.cells #[.string (bs xm)] 26 (0, 0))).alloc ((Below.refl W.heap.size W).alloc (Nat.le_refl _) (Obj.cells #[.string (bs xm)] 26 (0, 0))).size (Obj.cells #[] 26 (0, 0))))) HSZ.out.1 HLN.out.1 ?_; intro v1 w1 ho1 hg1; have HA1 := Lib.hid (show ApS W w1 v1 xr from ⟨ownsRow_base ho1 (Nat.le_succ _), app_belS ((OwnS.fresh (W.alloc (Obj.cells #[.string (bs xm)] 26 (0, 0))) (W.heap.size + 1) (W.heap.size + 1) (World.size_alloc _ _).symm (Nat.le_refl _)).drew) (RowKit.Below.drew (((Below.refl W.heap.size W).alloc (Nat.le_refl _) (Obj.cells #[.string (bs xm)] 26 (0, 0))).alloc ((Below.refl W.heap.size W).alloc (Nat.le_refl _) (Obj.cells #[.string (bs xm)] 26 (0, 0))).size (Obj.cells #[] 26 (0, 0)))) (Nat.le_succ _) hg1⟩); have HXR := Lib.hid (SrcT.row (row_grown (show Row ((W.alloc (Obj.cells #[.string (bs xm)] 26 (0, 0))).alloc (Obj.cells #[] 26 (0, 0))).drew W.heap.size 26 [.string (bs xm)] from Row.alloc rnw _) hg1 HNE.out.1)))
                  | (refine step_app_t (v := .slice (some ⟨W.heap.size, 0, none⟩) 0 0) rfl (.tmp 30) (.tmp 35) rfl rfl rfl ((OwnS.alloc (OwnS.fresh W W.heap.size W.heap.size rfl (Nat.le_refl _)) (Obj.cells #[.string (bs xm)] 26 (0, 0))).drew) (HS1.out _ (RowKit.Below.drew (((Below.refl W.heap.size W).alloc (Nat.le_refl _) (Obj.cells #[] 26 (0, 0))).alloc ((Below.refl W.heap.size W).alloc (Nat.le_refl _) (Obj.cells #[] 26 (0, 0))).size (Obj.cells #[.string (bs xm)] 26 (0, 0))))) (RowKit.Below.drew (((Below.refl W.heap.size W).alloc (Nat.le_refl _) (Obj.cells #[] 26 (0, 0))).alloc ((Below.refl W.heap.size W).alloc (Nat.le_refl _) (Obj.cells #[] 26 (0, 0))).size (Obj.cells #[.string (bs xm)] 26 (0, 0)))).size HLN.out.1 ?_; intro v1 w1 ho1 hg1; have HA1 := Lib.hid (show ApS W w1 v1 xr from ⟨ho1, app_belS ((OwnS.alloc (OwnS.fresh W W.heap.size W.heap.size rfl (Nat.le_refl _)) (Obj.cells #[.string (bs xm)] 26 (0, 0))).drew) (RowKit.Below.drew (((Below.refl W.heap.size W).alloc (Nat.le_refl _) (Obj.cells #[] 26 (0, 0))).alloc ((Below.refl W.heap.size W).alloc (Nat.le_refl _) (Obj.cells #[] 26 (0, 0))).size (Obj.cells #[.string (bs xm)] 26 (0, 0)))) (Nat.le_refl _) hg1⟩); have HXR := Lib.hid (SrcT.row (row_grown (show Row ((W.alloc (Obj.cells #[] 26 (0, 0))).alloc (Obj.cells #[.string (bs xm)] 26 (0, 0))).drew (W.heap.size + 1) 26 [.string (bs xm)] from rnew0 (World.size_alloc _ _).symm) hg1 HNE.out.2)))
                  | (refine step_app_t rfl (.tmp 36) (.tmp 42) rfl rfl rfl HA1.out.1 HXR.out HA1.out.2.size HLN.out.2 ?_; intro v2 w2 ho2 hg2; have HA2 := Lib.hid (show ApS W w2 v2 (xr ++ [xm]) from ⟨ho2, app_belS HA1.out.1 HA1.out.2 (Nat.le_refl _) hg2⟩))
                  | (refine step_app_t rfl (.tmp 36) (.tmp 42) rfl rfl rfl (OwnS.alloc HA1.out.1 _) (SrcT.new w1 xm) (HA1.out.2.alloc HA1.out.2.size _).size HLN.out.2 ?_; intro v2 w2 ho2 hg2; have HA2 := Lib.hid (show ApS W w2 v2 (xr ++ [xm]) from ⟨ho2, app_belS (OwnS.alloc HA1.out.1 _) (HA1.out.2.alloc HA1.out.2.size _) (Nat.le_refl _) hg2⟩))
                  | (go_at_call 114; refine (HNU.out v2 w2 HA2.out.1.rd).mono ?_; rintro e w3 ⟨rfl, hb3⟩; have HF := Lib.hid (HA2.out.2.trans (hb3.mono HA2.out.2.size))))
                all_goals
                  have HBE := Lib.hid (bel_to HHB.out HF.out)
                  clear HF HA1 HA2 HCX HS1 HNU HSZ HNE HLN hb3
                  go_wp2
                  go_roundw
                  case rel => exact ⟨i + 1, by go_num, by omega, HK2, HBE.out⟩
                  case measure => simp [intOf]; omega
              · have hz : (((chkRs (xr ++ [xm]) : Nat) : Int) != 0) = true := by simp; exact hc
                have HK2 := Lib.hid (show chkBs n l = chkRs (xr ++ [xm]) by rw [HK.out, if_neg hc])
                generalize hcc : ((chkRs (xr ++ [xm]) : Nat) : Int) = c at *
                have HCC := Lib.hid hcc
                clear HK hc hcc
                go_wp2_with fail
                go_region_held3 (fun E => E.cell? ⟨b1, o1 + i * 2, none⟩ = some (.slice Au xr.length cpu) ∧ E.cell? ⟨b1, o1 + i * 2 + 1, none⟩ = some (.string (bs xm)))
                  (first | exact HCX.out _ HF.out | exact HCX.out _ HA2.out.2 | exact HCX.out _ (HA1.out.2.alloc HA1.out.2.size _) | exact HCX.out _ HA1.out.2 | exact HCX.out _ (Below.refl _ _) | exact HCX.out _ (RowKit.Below.drew (Below.refl W.heap.size W)) | exact HCX.out _ (RowKit.Below.drew ((Below.refl W.heap.size W).alloc (Nat.le_refl _) _)) | exact HCX.out _ (RowKit.Below.drew (((Below.refl W.heap.size W).alloc (Nat.le_refl _) (Obj.cells #[.string (bs xm)] 26 (0, 0))).alloc ((Below.refl W.heap.size W).alloc (Nat.le_refl _) (Obj.cells #[.string (bs xm)] 26 (0, 0))).size (Obj.cells #[] 26 (0, 0)))) | exact HCX.out _ (RowKit.Below.drew (((Below.refl W.heap.size W).alloc (Nat.le_refl _) (Obj.cells #[] 26 (0, 0))).alloc ((Below.refl W.heap.size W).alloc (Nat.le_refl _) (Obj.cells #[] 26 (0, 0))).size (Obj.cells #[.string (bs xm)] 26 (0, 0)))))
                  (first
                  | (refine step_app_t (v := .slice (some ⟨W.heap.size, 0, none⟩) 0 0) rfl (.tmp 30) (.tmp 35) rfl rfl rfl ((OwnS.fresh W W.heap.size W.heap.size rfl (Nat.le_refl _)).drew) (HS1.out _ (RowKit.Below.drew ((Below.refl W.heap.size W).alloc (Nat.le_refl _) (Obj.cells #[] 26 (0, 0))))) (RowKit.Below.drew ((Below.refl W.heap.size W).alloc (Nat.le_refl _) (Obj.cells #[] 26 (0, 0)))).size HLN.out.1 ?_; intro v1 w1 ho1 hg1; have HA1 := Lib.hid (show ApS W w1 v1 xr from ⟨ho1, app_belS ((OwnS.fresh W W.heap.size W.heap.size rfl (Nat.le_refl _)).drew) (RowKit.Below.drew ((Below.refl W.heap.size W).alloc (Nat.le_refl _) (Obj.cells #[] 26 (0, 0)))) (Nat.le_refl _) hg1⟩))
                  | (refine step_app_t (v := .slice (some ⟨W.heap.size + 1, 0, none⟩) 0 0) rfl (.tmp 30) (.tmp 35) rfl rfl rfl ((OwnS.fresh (W.alloc (Obj.cells #[.string (bs xm)] 26 (0, 0))) (W.heap.size + 1) (W.heap.size + 1) (World.size_alloc _ _).symm (Nat.le_refl _)).drew) (HS1.out _ (RowKit.Below.drew (((Below.refl W.heap.size W).alloc (Nat.le_refl _) (Obj.cells #[.string (bs xm)] 26 (0, 0))).alloc ((Below.refl W.heap.size W).alloc (Nat.le_refl _) (Obj.cells #[.string (bs xm)] 26 (0, 0))).size (Obj.cells #[] 26 (0, 0))))) HSZ.out.1 HLN.out.1 ?_; intro v1 w1 ho1 hg1; have HA1 := Lib.hid (show ApS W w1 v1 xr from ⟨ownsRow_base ho1 (Nat.le_succ _), app_belS ((OwnS.fresh (W.alloc (Obj.cells #[.string (bs xm)] 26 (0, 0))) (W.heap.size + 1) (W.heap.size + 1) (World.size_alloc _ _).symm (Nat.le_refl _)).drew) (RowKit.Below.drew (((Below.refl W.heap.size W).alloc (Nat.le_refl _) (Obj.cells #[.string (bs xm)] 26 (0, 0))).alloc ((Below.refl W.heap.size W).alloc (Nat.le_refl _) (Obj.cells #[.string (bs xm)] 26 (0, 0))).size (Obj.cells #[] 26 (0, 0)))) (Nat.le_succ _) hg1⟩); have HXR := Lib.hid (SrcT.row (row_grown (show Row ((W.alloc (Obj.cells #[.string (bs xm)] 26 (0, 0))).alloc (Obj.cells #[] 26 (0, 0))).drew W.heap.size 26 [.string (bs xm)] from Row.alloc rnw _) hg1 HNE.out.1)))
                  | (refine step_app_t (v := .slice (some ⟨W.heap.size, 0, none⟩) 0 0) rfl (.tmp 30) (.tmp 35) rfl rfl rfl ((OwnS.alloc (OwnS.fresh W W.heap.size W.heap.size rfl (Nat.le_refl _)) (Obj.cells #[.string (bs xm)] 26 (0, 0))).drew) (HS1.out _ (RowKit.Below.drew (((Below.refl W.heap.size W).alloc (Nat.le_refl _) (Obj.cells #[] 26 (0, 0))).alloc ((Below.refl W.heap.size W).alloc (Nat.le_refl _) (Obj.cells #[] 26 (0, 0))).size (Obj.cells #[.string (bs xm)] 26 (0, 0))))) (RowKit.Below.drew (((Below.refl W.heap.size W).alloc (Nat.le_refl _) (Obj.cells #[] 26 (0, 0))).alloc ((Below.refl W.heap.size W).alloc (Nat.le_refl _) (Obj.cells #[] 26 (0, 0))).size (Obj.cells #[.string (bs xm)] 26 (0, 0)))).size HLN.out.1 ?_; intro v1 w1 ho1 hg1; have HA1 := Lib.hid (show ApS W w1 v1 xr from ⟨ho1, app_belS ((OwnS.alloc (OwnS.fresh W W.heap.size W.heap.size rfl (Nat.le_refl _)) (Obj.cells #[.string (bs xm)] 26 (0, 0))).drew) (RowKit.Below.drew (((Below.refl W.heap.size W).alloc (Nat.le_refl _) (Obj.cells #[] 26 (0, 0))).alloc ((Below.refl W.heap.size W).alloc (Nat.le_refl _) (Obj.cells #[] 26 (0, 0))).size (Obj.cells #[.string (bs xm)] 26 (0, 0)))) (Nat.le_refl _) hg1⟩); have HXR := Lib.hid (SrcT.row (row_grown (show Row ((W.alloc (Obj.cells #[] 26 (0, 0))).alloc (Obj.cells #[.string (bs xm)] 26 (0, 0))).drew (W.heap.size + 1) 26 [.string (bs xm)] from rnew0 (World.size_alloc _ _).symm) hg1 HNE.out.2)))
                  | (refine step_app_t rfl (.tmp 36) (.tmp 42) rfl rfl rfl HA1.out.1 HXR.out HA1.out.2.size HLN.out.2 ?_; intro v2 w2 ho2 hg2; have HA2 := Lib.hid (show ApS W w2 v2 (xr ++ [xm]) from ⟨ho2, app_belS HA1.out.1 HA1.out.2 (Nat.le_refl _) hg2⟩))
                  | (refine step_app_t rfl (.tmp 36) (.tmp 42) rfl rfl rfl (OwnS.alloc HA1.out.1 _) (SrcT.new w1 xm) (HA1.out.2.alloc HA1.out.2.size _).size HLN.out.2 ?_; intro v2 w2 ho2 hg2; have HA2 := Lib.hid (show ApS W w2 v2 (xr ++ [xm]) from ⟨ho2, app_belS (OwnS.alloc HA1.out.1 _) (HA1.out.2.alloc HA1.out.2.size _) (Nat.le_refl _) hg2⟩))
                  | (go_at_call 114; refine (HNU.out v2 w2 HA2.out.1.rd).mono ?_; rintro e w3 ⟨rfl, hb3⟩; have HF := Lib.hid (HA2.out.2.trans (hb3.mono HA2.out.2.size))))
                all_goals
                  have HBE := Lib.hid (bel_to HHB.out HF.out)
                  clear HF HA1 HA2 HCX HS1 HNU HSZ HNE HLN hb3
                  go_wp2
                  go_ret
                  exact Ret.of (by rw [← HCH.out, HK2.out, HCC.out]; rfl) HBE.out
            · have hdn : ((xr.length : Int) != n) = true := by simp; exact hln
              rw [show chkB1 n (xr, xm) = 8 by unfold chkB1; rw [if_pos (by simpa using hln)], if_neg (by decide)] at hk2
              have HK := Lib.hid hk2
              clear hk2 HNU HS1 HCX
              go_wp2
              go_ret
              exact Ret.of (by rw [← HCH.out, HK.out]; rfl) hbw
          · obtain rfl : i = l.length := by omega
            have hk2 := hk.out
            rw [List.drop_length] at hk2
            have HK := Lib.hid hk2
            clear hk2 hk
            go_wp2
            go_ret
            exact Ret.of (by rw [← HCH.out, HK.out]; rfl) hbw
end W
end Go.Proofs.YtnaikafamjebdaaGreatDoor
end
section
namespace Go.Proofs.YtnaikafamjebdaaGreatDoor
open Go Go.RowKit Go.Deep Go.Sort
namespace M
def rx (l : List Rat) : List (List UInt8) := l.map R
theorem rx_len (l : List Rat) : (rx l).length = l.length := by simp [rx]
theorem rx_get (l : List Rat) (i : Nat) (h : i < l.length) : (rx l)[i]'(by rw [rx_len]; exact h) = R l[i] := by simp [rx]
def dotP (a b : List Rat) : Nat → Rat
  | 0 => 0
  | i + 1 => dotP a b i + nth a i * nth b i
theorem nth_get (l : List Rat) (i : Nat) (h : i < l.length) : nth l i = l[i] := by unfold nth; simp [h]
theorem Bq_nil : Bq 1 (0 : Rat) := by unfold Bq; decide +kernel
theorem dotP_bq {a b : List Rat} {e e2 : Nat} (ha : ∀ x ∈ a, Bq e x) (hb : ∀ x ∈ b, Bq e2 x) : ∀ i, i ≤ a.length → i ≤ b.length → Bq ((e + e2 + 1) * i + 1) (dotP a b i)
  | 0, _, _ => Bq_nil
  | i + 1, h1, h2 => by
    have ih := dotP_bq ha hb i (by omega) (by omega)
    unfold dotP
    rw [nth_get a i (by omega), nth_get b i (by omega)]
    have := ih.add ((ha _ (List.getElem_mem (show i < a.length by omega))).mul (hb _ (List.getElem_mem (show i < b.length by omega))))
    refine this.mono ?_
    rw [Nat.mul_succ]; omega
end M
namespace W
open M
attribute [local go_sem] bs_size bs_toList bs_get bs_extract bs_append bs_lit0 bs_lit1 lit1_bs
set_option maxHeartbeats 1000000
set_option maxRecDepth 20000
theorem rdot (va vb : Value) (a b : List Rat) (e : Nat) (w : World) (ha : RdT w va (rx a)) (hb : RdT w vb (rx b)) (hab : a.length ≤ b.length) (hn : (e + e + 1) * a.length + 1 ≤ 800) (ea : ∀ x ∈ a, Bq e x) (eb : ∀ x ∈ b, Bq e x) (he1 : 1 ≤ e) (he2 : e ≤ 300) :
    Calls Tryz.prog 71 #[va, vb] w (Ret w (.string (bs (R (dotP a b a.length))))) := by
  obtain ⟨A, ca, rfl⟩ := ha.len
  obtain ⟨B, cb, rfl⟩ := hb.len
  have HA := Lib.hid ha
  have HB := Lib.hid hb
  have HD := Lib.hid (fun i (hi : i ≤ a.length) => dotP_bq ea eb i hi (by omega))
  have HT := Lib.hid (fun i (hi : i < a.length) W => timesR a[i] (b[i]'(by omega)) W ((ea _ (List.getElem_mem hi)).sh he1 (by omega)) ((eb _ (List.getElem_mem (by omega))).sh he1 (by omega)))
  have HP := Lib.hid (fun i (hi : i < a.length) W => plus_R (dotP a b i) (a[i] * b[i]'(by omega)) W ((HD.out i (by omega)).sh (by omega) (by
    have : (e + e + 1) * i ≤ (e + e + 1) * a.length := Nat.mul_le_mul_left _ (by omega)
    omega)) (((ea _ (List.getElem_mem hi)).mul (eb _ (List.getElem_mem (show i < b.length by omega)))).sh (by omega) (by omega)))
  have HS := Lib.hid (fun i (hi : i < a.length) => (show dotP a b (i + 1) = dotP a b i + a[i] * b[i]'(by omega) by
    show dotP a b i + nth a i * nth b i = _
    rw [nth_get a i hi, nth_get b i (by omega)]))
  have han : a.length ≤ 800 := by
    have : 1 * a.length ≤ (e + e + 1) * a.length := Nat.mul_le_mul_right _ (by omega)
    omega
  rw [rx_len a] at HA ⊢
  rw [rx_len b] at HB ⊢
  clear ha hb ea eb HD hn
  go_enter Tryz.func71, Tryz.ntmps71
  go_wp2
  go_loopw [5, 6] (fun sv iv wr => ∃ i : Nat, iv = .int .i64 (i : Int) ∧ i ≤ a.length ∧ sv = .string (bs (R (dotP a b i))) ∧ Below w.heap.size w wr) (fun _ iv _ => a.length - (intOf iv).toNat)
  case atStart => exact ⟨0, rfl, by omega, by rw [show dotP a b 0 = 0 from rfl, R_nil]; rfl, Below.refl _ _⟩
  case round =>
    obtain ⟨i, rfl, hi, rfl, hbw⟩ := hrel
    by_cases hlt : i < a.length
    · have ha2 := HA.out
      rw [← rx_len a] at ha2
      have hb2 := HB.out
      rw [← rx_len b] at hb2
      obtain ⟨b1, o1, rfl, hw1⟩ := ha2.row i (by rw [rx_len]; exact hlt)
      obtain ⟨b2, o2, rfl, hw2⟩ := hb2.row i (by rw [rx_len]; omega)
      have c0 := (hw1.below' hbw).val i (by rw [rx_len]; exact hlt)
      have c1 := (hw2.below' hbw).val i (by rw [rx_len]; omega)
      rw [rx_get a i hlt] at c0
      rw [rx_get b i (by omega)] at c1
      have k1 := reg_of (w := wr) (fun W _ => HT.out i hlt W)
      have k2 := reg_of (w := wr) (fun W _ => HP.out i hlt W)
      rw [← HS.out i hlt] at k2
      have m0 := cell_regrown c0
      have m1 := cell_regrown c1
      have e1 : ∀ args w, (callFunc 113 args).run Tryz.prog w = .ok (.enter 113 args) w := enters_of Tryz.func113 (by kernel_rfl) rfl
      have e2 : ∀ args w, (callFunc 70 args).run Tryz.prog w = .ok (.enter 70 args) w := enters_of Tryz.func70 (by kernel_rfl) rfl
      have hi0 : (0 : Int) ≤ (i : Int) := by omega
      have his : (i : Int) < (a.length : Int) := by omega
      have hjs : (i : Int) < (b.length : Int) := by omega
      clear ha2 hb2 hw1 hw2 c0 c1
      generalize hs2 : R (dotP a b (i + 1)) = s2 at *
      have HS2 := Lib.hid hs2
      clear hs2
      go_wp2_with fail
      refine wp_region_quiet_below (by kernel_rfl) (by kernel_rfl) ?_
      repeat (go_big_quiet_step (fail))
      go_big_quiet_step (exact k1 _ _)
      repeat (go_big_quiet_step (fail))
      go_big_quiet_step (exact k2 _ _)
      repeat (go_big_quiet_step (fail))
      refine wpQuiet_nil ?_
      intro W6 hw'
      have hb6 : Below wr.heap.size wr W6 := by obtain ⟨p, e⟩ := hw'; rw [e]; exact below_regrown wr p.d p.os
      have HB6 := Lib.hid (bel_to hbw hb6)
      clear k1 k2 m0 m1 e1 e2 hw' hb6
      go_wp2
      go_roundw
      case rel => exact ⟨i + 1, by go_num, hlt, by rw [HS2.out], HB6.out⟩
      case measure => simp [intOf]; omega
    · obtain rfl : i = a.length := by omega
      clear HT HP HS
      go_wp2
      go_ret
      exact Ret.of rfl hbw
theorem pdot (S : Nat) (va vb : Value) (a b : List Rat) (e e2 : Nat) (w : World) (hg : Glob w) (hs : NoErP w S) (ha : RdT w va (rx a)) (hb : RdT w vb (rx b)) (hab : a.length ≤ b.length) (hn : (e + e2 + 1) * a.length + 1 ≤ 1000) (ea : ∀ x ∈ a, Bq e x) (eb : ∀ x ∈ b, Bq e2 x) (he2 : e + e2 ≤ 1000) :
    Calls Tryz.prog 93 #[.pointer (some ⟨S, 0, none⟩), va, vb] w (Ret w (.string (bs (R (dotP a b a.length))))) := by
  obtain ⟨A, ca, rfl⟩ := ha.len
  obtain ⟨B, cb, rfl⟩ := hb.len
  have HA := Lib.hid ha
  have HB := Lib.hid hb
  have HD := Lib.hid (fun i (hi : i ≤ a.length) => dotP_bq ea eb i hi (by omega))
  have HT := Lib.hid (fun i (hi : i < a.length) W (hW : Below w.heap.size w W) => ratMul a[i] (b[i]'(by omega)) e e2 W (hg.of hW) (ea _ (List.getElem_mem hi)) (eb _ (List.getElem_mem (by omega))) (by omega))
  have HP := Lib.hid (fun i (hi : i < a.length) W (hW : Below w.heap.size w W) => ratAdd (dotP a b i) (a[i] * b[i]'(by omega)) ((e + e2 + 1) * i + 1) (e + e2) W (hg.of hW) (HD.out i (by omega)) ((ea _ (List.getElem_mem hi)).mul (eb _ (List.getElem_mem (show i < b.length by omega)))) (by
    have h1 : (e + e2 + 1) * (i + 1) ≤ (e + e2 + 1) * a.length := Nat.mul_le_mul_left _ hi
    rw [Nat.mul_succ] at h1
    omega))
  have HO := Lib.hid (fun s W (hW : Below w.heap.size w W) => psof S s W (hs.below' hW))
  have HS := Lib.hid (fun i (hi : i < a.length) => (show dotP a b (i + 1) = dotP a b i + a[i] * b[i]'(by omega) by
    show dotP a b i + nth a i * nth b i = _
    rw [nth_get a i hi, nth_get b i (by omega)]))
  have han : a.length ≤ 1000 := by
    have : 1 * a.length ≤ (e + e2 + 1) * a.length := Nat.mul_le_mul_right _ (by omega)
    omega
  rw [rx_len a] at HA ⊢
  rw [rx_len b] at HB ⊢
  clear ha hb ea eb HD hn hs
  go_enter Tryz.func93, Tryz.ntmps93
  go_wp2
  go_loopw [7, 12] (fun sv iv wr => ∃ i : Nat, iv = .int .i64 (i : Int) ∧ i ≤ a.length ∧ sv = .string (bs (R (dotP a b i))) ∧ Below w.heap.size w wr) (fun _ iv _ => a.length - (intOf iv).toNat)
  case atStart => exact ⟨0, rfl, by omega, by rw [show dotP a b 0 = 0 from rfl, R_nil]; rfl, Below.refl _ _⟩
  case round =>
    obtain ⟨i, rfl, hi, rfl, hbw⟩ := hrel
    by_cases hlt : i < a.length
    · have ha2 := HA.out
      rw [← rx_len a] at ha2
      have hb2 := HB.out
      rw [← rx_len b] at hb2
      obtain ⟨b1, o1, rfl, hw1⟩ := ha2.row i (by rw [rx_len]; exact hlt)
      obtain ⟨b2, o2, rfl, hw2⟩ := hb2.row i (by rw [rx_len]; omega)
      have c0 := (hw1.below' hbw).val i (by rw [rx_len]; exact hlt)
      have c1 := (hw2.below' hbw).val i (by rw [rx_len]; omega)
      rw [rx_get a i hlt] at c0
      rw [rx_get b i (by omega)] at c1
      have HTI := Lib.hid (fun W hW => HT.out i hlt W hW)
      have HPI := Lib.hid (fun W hW => HP.out i hlt W hW)
      have hsi := HS.out i hlt
      have HL1 := Lib.hid (hw1.below' hbw).lt
      have HL2 := Lib.hid (hw2.below' hbw).lt
      clear ha2 hb2 hw1 hw2
      by_cases hx : a[i] = 0
      · have e1 := R_is0.2 hx
        have hs1 : dotP a b (i + 1) = dotP a b i := by rw [hsi, hx]; grind
        have HSS := Lib.hid hs1
        clear hsi hs1 HTI HPI hx
        generalize R a[i] = sx at *
        subst e1
        go_wp2
        go_roundw
        case rel => exact ⟨i + 1, by go_num, hlt, by rw [HSS.out], hbw⟩
        case measure => simp [intOf]; omega
      · have nx : (R a[i] == [48]) = false := by rw [beq_eq_false_iff_ne]; exact fun h => hx (R_is0.1 h)
        by_cases hy : b[i]'(by omega) = 0
        · have e1 := R_is0.2 hy
          have hs1 : dotP a b (i + 1) = dotP a b i := by rw [hsi, hy]; grind
          have HSS := Lib.hid hs1
          clear hsi hs1 HTI HPI hy hx
          generalize R a[i] = sx at *
          generalize R (b[i]'(by omega)) = sy at *
          subst e1
          go_wp2
          go_roundw
          case rel => exact ⟨i + 1, by go_num, hlt, by rw [HSS.out], hbw⟩
          case measure => simp [intOf]; omega
        · have ny : (R (b[i]'(by omega)) == [48]) = false := by rw [beq_eq_false_iff_ne]; exact fun h => hy (R_is0.1 h)
          rw [← hsi] at HPI
          clear hsi hx hy
          generalize R a[i] = sx at *
          generalize R (b[i]'(by omega)) = sy at *
          generalize R (a[i] * b[i]'(by omega)) = sp at *
          generalize R (dotP a b i) = s1 at *
          generalize hs2 : R (dotP a b (i + 1)) = s2 at *
          have HS2 := Lib.hid hs2
          clear hs2
          go_wp2_with fail
          refine (HTI.out _ hbw).mono ?_
          rintro e w1 ⟨rfl, hb1⟩
          have h1 := bel_to hbw hb1
          clear hb1 HTI
          go_wp2_with fail
          refine (HO.out _ _ h1).mono ?_
          rintro e w2 ⟨rfl, hb2⟩
          have h2 := bel_to h1 hb2
          clear hb2 h1
          go_wp2_with fail
          refine (HPI.out _ h2).mono ?_
          rintro e w3 ⟨rfl, hb3⟩
          have h3 := bel_to h2 hb3
          clear hb3 h2 HPI
          go_wp2_with fail
          refine (HO.out _ _ h3).mono ?_
          rintro e w4 ⟨rfl, hb4⟩
          have h4 := bel_to h3 hb4
          clear hb4 h3
          go_wp2
          go_roundw
          case rel => exact ⟨i + 1, by go_num, hlt, by rw [HS2.out], h4⟩
          case measure => simp [intOf]; omega
    · obtain rfl : i = a.length := by omega
      clear HT HP HS
      go_wp2
      go_ret
      exact Ret.of rfl hbw
end W
end Go.Proofs.YtnaikafamjebdaaGreatDoor
end
section
namespace Go.Proofs.YtnaikafamjebdaaGreatDoor
open Go Go.RowKit Go.Deep Go.Sort
namespace M
def bx (l : List BQ) : List BT := l.map fun b => (rx b.1, R b.2)
theorem bx_len (l : List BQ) : (bx l).length = l.length := by simp [bx]
theorem bx_get (l : List BQ) (i : Nat) (h : i < l.length) : (bx l)[i]'(by rw [bx_len]; exact h) = (rx l[i].1, R l[i].2) := by simp [bx]
def RightB (n : Nat) (l : List BQ) : Prop := ∀ b ∈ l, b.1.length = n ∧ (∀ x ∈ b.1, Bq 8 x) ∧ Bq 8 b.2
def valQ (b : BQ) (p : List Rat) : Rat := dotP b.1 p b.1.length
def keepsB (b : BQ) (p : List Rat) : Bool := decide (valQ b p ≤ b.2)
end M
namespace W
open M
attribute [local go_sem] bs_size bs_toList bs_get bs_extract bs_append bs_lit0 bs_lit1 lit1_bs
set_option maxHeartbeats 1000000
set_option maxRecDepth 20000
theorem valQ_bq {n : Nat} {b : BQ} {p : List Rat} (hn : n ≤ 8) (h1 : b.1.length = n) (h2 : ∀ x ∈ b.1, Bq 8 x) (hp : n ≤ p.length) (h3 : ∀ x ∈ p, Bq 30 x) : Bq 489 (valQ b p) :=
  (dotP_bq h2 h3 _ (Nat.le_refl _) (by omega)).mono (by omega)
theorem bound_at {w : World} {b o : Nat} {l : List BQ} (h : BSl w b o (bx l)) (i : Nat) (hi : i < l.length) :
    ∃ u, w.cell? ⟨b, o + i * 2, none⟩ = some u ∧ RdT w u (rx l[i].1) ∧ Shp u ∧ w.cell? ⟨b, o + i * 2 + 1, none⟩ = some (.string (bs (R l[i].2))) := by
  have hi2 : i < (bx l).length := by rw [bx_len]; exact hi
  obtain ⟨u, h1, h2, h3⟩ := h.row i hi2
  have h4 := h.most i hi2
  rw [bx_get l i hi] at h2 h4
  exact ⟨u, h1, h2, h3, h4⟩
theorem sign_pos {q : Rat} : 0 < Int.sign q.num ↔ 0 < q := by
  rw [Int.sign_pos_iff, Rat.lt_iff]
  simp
theorem pkeeps (vl vp : Value) (l : List BQ) (p : List Rat) (n : Nat) (w : World) (hg : Glob w) (hl : RdB w vl (bx l)) (hp : RdT w vp (rx p)) (hn : n ≤ 8) (hr : RightB n l) (h4 : p.length = n) (h5 : ∀ x ∈ p, Bq 30 x) (hll : l.length ≤ 1000) :
    Calls Tryz.prog 85 #[vl, vp] w (Ret w (.int .i64 (if (l.all fun b => keepsB b p) = true then 0 else 15))) := by
  obtain ⟨A, cap, rfl⟩ := hl.len
  have HW := Lib.hid hl
  have HG := Lib.hid hg
  have hv := fun i (hi : i < l.length) => valQ_bq (b := l[i]) (p := p) hn (hr _ (List.getElem_mem hi)).1 (hr _ (List.getElem_mem hi)).2.1 (by omega) h5
  have HD := Lib.hid (fun i (hi : i < l.length) S u W (hW : Below w.heap.size w W) (hs : NoErP W S) (hu : RdT W u (rx l[i].1)) => pdot S u vp l[i].1 p 8 30 W (hg.of hW) hs hu (hp.below hW) (by have := (hr _ (List.getElem_mem hi)).1; omega) (by have := (hr _ (List.getElem_mem hi)).1; omega) (hr _ (List.getElem_mem hi)).2.1 h5 (by decide))
  have HSB := Lib.hid (fun i (hi : i < l.length) W (hW : Below w.heap.size w W) => ratSub (valQ l[i] p) l[i].2 489 8 W (hg.of hW) (hv i hi) (hr _ (List.getElem_mem hi)).2.2 (by decide))
  have HSG := Lib.hid (fun i (hi : i < l.length) S W (hW : Below w.heap.size w W) (hs : NoErP W S) => pssign S (valQ l[i] p - l[i].2) 498 W (hg.of hW) hs ((hv i hi).sub (hr _ (List.getElem_mem hi)).2.2) (by decide))
  rw [bx_len l] at HW ⊢
  generalize hch : (if (l.all fun b => keepsB b p) = true then (0 : Int) else 15) = ch
  have HCH := Lib.hid hch
  have HS0 := Lib.hid (show NoErP (w.alloc (.cells #[.int .i64 0] 123)) w.heap.size from rnw)
  have HB0 := Lib.hid ((Below.refl w.heap.size w).alloc (Nat.le_refl _) (.cells #[.int .i64 0] 123))
  clear hl hp hr h5 hch hv hg
  go_enter Tryz.func85, Tryz.ntmps85
  go_wp2
  obtain ⟨w0, hw0⟩ : ∃ x, x = (w.alloc (.cells #[.int .i64 0] 123)) := ⟨_, rfl⟩
  rw [← hw0] at HS0 HB0 ⊢
  clear hw0
  obtain ⟨S, hS⟩ : ∃ S, S = w.heap.size := ⟨_, rfl⟩
  rw [← hS] at HS0
  rw [← hS]
  clear hS
  go_loopw [13] (fun iv wr => ∃ i : Nat, iv = .int .i64 (i : Int) ∧ i ≤ l.length ∧ Hid ((l.all fun b => keepsB b p) = ((l.drop i).all fun b => keepsB b p)) ∧ Below w0.heap.size w0 wr) (fun iv _ => l.length - (intOf iv).toNat)
  case atStart => exact ⟨0, rfl, by omega, (rfl : (l.all fun b => keepsB b p) = ((l.drop 0).all fun b => keepsB b p)), Below.refl _ _⟩
  case round =>
    obtain ⟨i, rfl, hi, hk, hbw⟩ := hrel
    by_cases hlt : i < l.length
    · have hl2 := HW.out
      rw [← bx_len l] at hl2
      obtain ⟨b1, o1, rfl, hw⟩ := hl2.row i (by rw [bx_len]; exact hlt)
      obtain ⟨u, cu, hu, _, cm⟩ := bound_at (hw.below' (bel_to HB0.out hbw)) i hlt
      obtain ⟨Au, cpu, hue⟩ := hu.len
      generalize (rx l[i].1).length = nu at hue
      subst hue
      have hk2 := hk.out
      rw [List.drop_eq_getElem_cons hlt, List.all_cons] at hk2
      have hbn := (Below.refl wr.heap.size wr).alloc (Nat.le_refl _) (.cells #[.slice Au nu cpu, .string (bs (R l[i].2))] 51)
      have hr := Row.new wr 51 [.slice Au nu cpu, .string (bs (R l[i].2))]
      have m0 := cell_regrown (hr.cell (i := 0) rfl)
      have m1 := cell_regrown (hr.cell (i := 1) rfl)
      have HBW := Lib.hid (bel_to HB0.out (bel_to hbw hbn))
      have HBV := Lib.hid (bel_to hbw hbn)
      have HUU := Lib.hid (hu.below hbn)
      have D1 := Lib.hid (fun W (hW : Below (wr.alloc (.cells #[.slice Au nu cpu, .string (bs (R l[i].2))] 51)).heap.size (wr.alloc (.cells #[.slice Au nu cpu, .string (bs (R l[i].2))] 51)) W) => HD.out i hlt S (.slice Au nu cpu) W (bel_to HBW.out hW) (HS0.out.below' (bel_to HBV.out hW)) (HUU.out.below hW))
      have D2 := Lib.hid (fun W (hW : Below (wr.alloc (.cells #[.slice Au nu cpu, .string (bs (R l[i].2))] 51)).heap.size (wr.alloc (.cells #[.slice Au nu cpu, .string (bs (R l[i].2))] 51)) W) => HSB.out i hlt W (bel_to HBW.out hW))
      have D3 := Lib.hid (fun s W (hW : Below (wr.alloc (.cells #[.slice Au nu cpu, .string (bs (R l[i].2))] 51)).heap.size (wr.alloc (.cells #[.slice Au nu cpu, .string (bs (R l[i].2))] 51)) W) => psof S s W (HS0.out.below' (bel_to HBV.out hW)))
      have D4 := Lib.hid (fun W (hW : Below (wr.alloc (.cells #[.slice Au nu cpu, .string (bs (R l[i].2))] 51)).heap.size (wr.alloc (.cells #[.slice Au nu cpu, .string (bs (R l[i].2))] 51)) W) => HSG.out i hlt S W (bel_to HBW.out hW) (HS0.out.below' (bel_to HBV.out hW)))
      have hd : decide (0 < Int.sign (valQ l[i] p - l[i].2).num) = !keepsB l[i] p := by
        unfold keepsB
        by_cases h : valQ l[i] p ≤ l[i].2
        · rw [decide_eq_true h, decide_eq_false (by rw [sign_pos]; grind)]; rfl
        · rw [decide_eq_false h, decide_eq_true (by rw [sign_pos]; grind)]; rfl
      have hvq : dotP l[i].1 p l[i].1.length = valQ l[i] p := rfl
      rw [hvq] at D1
      clear hk hw hl2 hr hu hbn hvq
      generalize Int.sign (valQ l[i] p - l[i].2).num = sg at *
      generalize keepsB l[i] p = d at *
      generalize R (valQ l[i] p - l[i].2) = s3 at *
      generalize R (valQ l[i] p) = s1 at *
      generalize R l[i].2 = sm at *
      have HQ := Lib.hid hk2
      clear hk2
      have e1 : ∀ args w, (callFunc 93 args).run Tryz.prog w = .ok (.enter 93 args) w := enters_of Tryz.func93 (by kernel_rfl) rfl
      have e2 : ∀ args w, (callFunc 103 args).run Tryz.prog w = .ok (.enter 103 args) w := enters_of Tryz.func103 (by kernel_rfl) rfl
      have e3 : ∀ args w, (callFunc 99 args).run Tryz.prog w = .ok (.enter 99 args) w := enters_of Tryz.func99 (by kernel_rfl) rfl
      have e4 : ∀ args w, (callFunc 100 args).run Tryz.prog w = .ok (.enter 100 args) w := enters_of Tryz.func100 (by kernel_rfl) rfl
      go_wp2_with fail
      generalize wr.heap.size = gB at *
      generalize wr.alloc (.cells #[.slice Au nu cpu, .string (bs sm)] 51) = W at *
      have k1 := reg_of (w := W) (fun W2 hW => D1.out W2 hW)
      have k2 := reg_of (w := W) (fun W2 hW => D2.out W2 hW)
      have k3 := reg_of (w := W) (fun W2 hW => D3.out s3 W2 hW)
      have k4 := reg_of (w := W) (fun W2 hW => D4.out W2 hW)
      refine wp_region_quiet_below (by kernel_rfl) (by kernel_rfl) ?_
      repeat (go_big_quiet_step (fail))
      go_big_quiet_step (exact k1 _ _)
      repeat (go_big_quiet_step (fail))
      go_big_quiet_step (exact k2 _ _)
      repeat (go_big_quiet_step (fail))
      go_big_quiet_step (exact k3 _ _)
      repeat (go_big_quiet_step (fail))
      go_big_quiet_step (exact k4 _ _)
      repeat (go_big_quiet_step (fail))
      refine wpQuiet_nil ?_
      intro W6 hw'
      have hb6 : Below W.heap.size W W6 := by obtain ⟨p, e⟩ := hw'; rw [e]; exact below_regrown W p.d p.os
      have hs6 := (HS0.out.below' (bel_to HBV.out hb6)).cell
      have HB6 := Lib.hid (bel_to HBV.out hb6)
      clear k1 k2 k3 k4 m0 m1 e1 e2 e3 e4 hw' hb6 D1 D2 D3 D4
      cases d with
      | true =>
        have hd : decide (0 < sg) = false := hd
        go_wp2
        go_roundw
        case rel => exact ⟨i + 1, by go_num, by omega, Lib.hid (by rw [HQ.out]; rfl), HB6.out⟩
        case measure => simp [intOf]; omega
      | false =>
        have hd : decide (0 < sg) = true := hd
        have HF := Lib.hid (bel_to HB0.out HB6.out)
        go_wp2
        go_ret
        exact Ret.of (by rw [← HCH.out, HQ.out]; rfl) HF.out
    · obtain rfl : i = l.length := by omega
      have hk2 := hk.out
      rw [List.drop_length] at hk2
      have HQ := Lib.hid hk2
      have HF := Lib.hid (bel_to HB0.out hbw)
      clear hk2 hk
      go_wp2
      go_ret
      exact Ret.of (by rw [← HCH.out, HQ.out]; rfl) HF.out
end W
end Go.Proofs.YtnaikafamjebdaaGreatDoor
end
section
namespace Go.Proofs.YtnaikafamjebdaaGreatDoor
open Go Go.RowKit Go.Deep Go.Sort
namespace M
def Wire (l : List BT) : Prop := l.length ≤ maxLen ∧ (l.length ≤ 64 → ∀ b ∈ l, b.1.length ≤ 900000 ∧ (∀ q ∈ b.1, q.length ≤ 90000) ∧ b.2.length ≤ 90000)
end M
namespace W
open M
attribute [local go_sem] bs_size bs_toList bs_get bs_extract bs_append bs_lit0 bs_lit1 lit1_bs
set_option maxHeartbeats 1000000
set_option maxRecDepth 20000
theorem pnum1 (u : Value) (l : List (List UInt8)) (w : World) (hg : Glob w) (hu : RdT w u l) (hl : ∀ q ∈ l, q.length ≤ 90000) (hn : l.length ≤ 1000000) :
    Calls Tryz.prog 84 #[.slice (some ⟨w.heap.size, 0, none⟩) 1 1] (w.alloc (.cells #[u] 28)) (Ret w (.int .i64 ((chkRs l : Nat) : Int))) := by
  have b1 : Below w.heap.size w (w.alloc (.cells #[u] 28)) := (Below.refl _ _).alloc (Nat.le_refl _) _
  have h := pnumbers [(u, l)] w.heap.size _ (hg.of b1) (show Row (w.alloc (.cells #[u] 28)) w.heap.size 28 [u] from rnw) (fun x hx => by
    rw [List.mem_singleton.1 hx]; exact ⟨hu.below b1, hn, hl⟩) (by simp)
  refine h.mono fun e w' hr => ?_
  obtain ⟨rfl, hb⟩ := hr
  refine ⟨?_, b1.trans (hb.mono b1.size)⟩
  have e1 : chkLs [l] = chkRs l := by
    rw [chkLs, chkLs]
    by_cases h : chkRs l = 0
    · rw [if_pos h, h]
    · rw [if_neg h]
  rw [show ([(u, l)].map (·.2)) = [l] from rfl, e1]
theorem rlist (vp : Value) (p : List (List UInt8)) (n : Int) (w : World) (hp : RdT w vp p) (hl : ∀ q ∈ p, q.length ≤ 90000) (hn : p.length ≤ 1000000) :
    Calls Tryz.prog 73 #[vp, .int .i64 n] w (Ret w (.int .i64 (if (p.length : Int) ≠ n then 8 else ((chkRs p : Nat) : Int)))) := by
  have HN := Lib.hid (rnumbers vp p w hp hl hn)
  obtain ⟨A, cap, rfl⟩ := hp.len
  clear hp hl
  by_cases h : (p.length : Int) ≠ n
  · rw [if_pos h]
    have hd : ((p.length : Int) != n) = true := by simp; exact h
    go_enter Tryz.func73, Tryz.ntmps73
    go_wp2
    go_ret
    exact Ret.of rfl (Below.refl _ _)
  · rw [if_neg h]
    have hd : ((p.length : Int) != n) = false := by simpa using h
    clear h
    generalize ((chkRs p : Nat) : Int) = c at *
    go_enter Tryz.func73, Tryz.ntmps73
    go_wp2_with fail
    refine (HN.out).mono ?_
    rintro e w1 ⟨rfl, hb1⟩
    go_wp2
    go_ret
    exact Ret.of rfl hb1
noncomputable def chkPt (n : Int) (p : List (List UInt8)) : Nat := if (p.length : Int) ≠ n then 8 else chkRs p
theorem pverify_bad2 (n : Int) (vl vp : Value) (l : List BT) (p : List (List UInt8)) (w : World) (hg : Glob w) (hl : RdB w vl l) (hw : Wire l) (h0 : chk5 n l = 0) (hp : RdT w vp p) (sp : ∀ q ∈ p, q.length ≤ 90000) (np : p.length ≤ 1000000) (hc : chkPt n p ≠ 0) :
    Calls Tryz.prog 48 #[.int .i64 n, vl, vp] w (Ret w (.int .i64 ((chkPt n p : Nat) : Int))) := by
  have hk := pcheck5 n vl l w hg hl hw.1 (fun h b hb => ⟨by have := (hw.2 h b hb).1; omega, (hw.2 h b hb).2.1, (hw.2 h b hb).2.2⟩)
  rw [h0] at hk
  have HC := Lib.hid hk
  have HN := Lib.hid (fun W (hW : Below w.heap.size w W) => pnum1 vp p W (hg.of hW) (hp.below hW) sp np)
  obtain ⟨A, cap, rfl⟩ := hp.len
  unfold chkPt at *
  clear hl hw h0 hp sp hk
  by_cases hn : (p.length : Int) ≠ n
  · rw [if_pos hn] at hc ⊢
    have hd : ((p.length : Int) != n) = true := by simp; exact hn
    clear HN hn hc
    go_enter Tryz.func48, Tryz.ntmps48
    go_wp2_with fail
    refine (HC.out).mono ?_
    rintro e w1 ⟨rfl, hb1⟩
    go_wp2
    go_ret
    exact Ret.of rfl hb1
  · rw [if_neg hn] at hc ⊢
    have hd : ((p.length : Int) != n) = false := by simpa using hn
    have hz : (((chkRs p : Nat) : Int) != 0) = true := by simp; exact hc
    clear hn hc
    generalize ((chkRs p : Nat) : Int) = c at *
    go_enter Tryz.func48, Tryz.ntmps48
    go_wp2_with fail
    refine (HC.out).mono ?_
    rintro e w1 ⟨rfl, hb1⟩
    have HB1 := Lib.hid hb1
    go_wp2_with fail
    refine (HN.out _ HB1.out).mono ?_
    rintro e w2 ⟨rfl, hb2⟩
    go_wp2
    go_ret
    exact Ret.of rfl (Below.then HB1.out hb2)
theorem pverify_ok (n : Nat) (vl vp : Value) (l : List BQ) (p : List Rat) (w : World) (hg : Glob w) (hl : RdB w vl (bx l)) (hw : Wire (bx l)) (h0 : chk5 (n : Int) (bx l) = 0) (hp : RdT w vp (rx p)) (hn : n ≤ 8) (hr : RightB n l) (h4 : p.length = n) (h5 : ∀ x ∈ p, Bq 30 x) (hc : chkRs (rx p) = 0) (hll : l.length ≤ 64) :
    Calls Tryz.prog 48 #[.int .i64 (n : Int), vl, vp] w (Ret w (.int .i64 (if (l.all fun b => keepsB b p) = true then 0 else 15))) := by
  have hk := pcheck5 n vl (bx l) w hg hl hw.1 (fun h b hb => ⟨by have := (hw.2 h b hb).1; omega, (hw.2 h b hb).2.1, (hw.2 h b hb).2.2⟩)
  rw [h0] at hk
  have HC := Lib.hid hk
  have hm := fun W (hW : Below w.heap.size w W) => pnum1 vp (rx p) W (hg.of hW) (hp.below hW) (fun q hq => by
    obtain ⟨x, hx, rfl⟩ := List.mem_map.1 hq
    have := (h5 x hx).R_len (by decide); omega) (by rw [rx_len]; omega)
  rw [hc] at hm
  have HN := Lib.hid hm
  have HK := Lib.hid (fun W (hW : Below w.heap.size w W) => pkeeps vl vp l p n W (hg.of hW) (hl.below hW) (hp.below hW) hn hr h4 h5 (by omega))
  have hd : ((p.length : Int) != (n : Int)) = false := by simp; omega
  obtain ⟨A, cap, rfl⟩ := hp.len
  rw [rx_len p] at HN HK ⊢
  generalize (if (l.all fun b => keepsB b p) = true then (0 : Int) else 15) = c at *
  clear hl hw h0 hp hr h5 hc hk hm h4
  go_enter Tryz.func48, Tryz.ntmps48
  go_wp2_with fail
  refine (HC.out).mono ?_
  rintro e w1 ⟨rfl, hb1⟩
  have HB1 := Lib.hid hb1
  go_wp2_with fail
  refine (HN.out _ HB1.out).mono ?_
  rintro e w2 ⟨rfl, hb2⟩
  have HB2 := Lib.hid (Below.then HB1.out hb2)
  clear hb1 hb2
  go_wp2_with fail
  refine (HK.out _ HB2.out).mono ?_
  rintro e w3 ⟨rfl, hb3⟩
  go_wp2
  go_ret
  exact Ret.of rfl (Below.then HB2.out hb3)
end W
end Go.Proofs.YtnaikafamjebdaaGreatDoor
end
section
namespace Go.Proofs.YtnaikafamjebdaaGreatDoor
open Go Go.Sort Go.RowKit
section
variable {P : Program} {ops : Array Oper} {md : Region.Mode} {C : World → Prop}
def anyT (P : Program) (md : Region.Mode) (ops : Array Oper) (C : World → Prop) (n : Nat) (L : Array Bool → Act → Prop) : Nat → Array Bool → Act → Prop
  | 0, ls, a => L ls a
  | f + 1, ls, a => Region.ready md ops ls ≠ [] ∧ ∀ i ∈ Region.ready md ops ls, i < n ∧ qOp P ops C i (anyT P md ops C n L f (ls.setIfInBounds i true)) a
theorem wpAny_of_anyT {n g : Nat} {L : Array Bool → Act → Prop} {Q : Exit → Act → World → Prop} (hL : ∀ ls a w, C w → L ls a → wpAny P md ops Q g ls a w) :
    ∀ (f : Nat) (ls : Array Bool) (a : Act) (w : World), C w → anyT P md ops C n L f ls a → wpAny P md ops Q (f + g) ls a w := by
  intro f
  induction f with
  | zero => intro ls a w hw h; rw [Nat.zero_add]; exact hL _ _ _ hw h
  | succ f ih =>
    intro ls a w hw h
    rw [Nat.succ_add]
    exact ⟨fun h0 => absurd h0 h.1, fun i hi => wpOp_of_qOp hw (fun a' w' hw' h' => ih _ a' w' hw' h') (h.2 i hi).2⟩
theorem anyT_first {n i : Nat} {oi : Oper} {v : Value} {L : Array Bool → Act → Prop} (hi : ops[i]? = some oi) (hsel : ∀ (j : Nat) (o : Oper) cs b, ops[j]? = some o → o.op ≠ .select cs b)
    (hs : Region.sinkB md ops n = true) (hc : Region.chainB md ops n = true) (hn : n < ops.size) (hin : i < n) (hdone : ∀ ls a, L ls a → ∀ j ∈ Region.ready md ops ls, n ≤ j) :
    ∀ (f : Nat) (ls : Array Bool) (a : Act), HeadInv md ops n ls →
      (∀ j oj, ops[j]? = some oj → j ≠ i → ls.getD j true = false → (∀ e ∈ oj.after, Region.binds md e = true → e.on ≠ i) → oi.apart ops oj = true) →
      i ∈ Region.ready md ops ls → YieldsIn P ops C oi v a → anyT P md ops C n L f (ls.setIfInBounds i true) (a.put oi.dst v) → anyT P md ops C n L (f + 1) ls a := by
  intro f
  induction f with
  | zero =>
    intro ls a inv _ hr hy H
    refine ⟨List.ne_nil_of_mem hr, fun j hj => ?_⟩
    have hjn : j < n := Nat.lt_of_not_le fun h => tail_waits hs hc hn inv _ i rfl hin (mem_ready.1 hr).1 j h hj
    refine ⟨hjn, ?_⟩
    by_cases e : j = i
    · subst e; exact hy.qOp hi H
    · exact absurd (hdone _ _ H j (ready_mono hj e)) (by omega)
  | succ f ih =>
    intro ls a inv hfree hr hy H
    refine ⟨List.ne_nil_of_mem hr, fun j hj => ?_⟩
    have hjn : j < n := Nat.lt_of_not_le fun h => tail_waits hs hc hn inv _ i rfl hin (mem_ready.1 hr).1 j h hj
    refine ⟨hjn, ?_⟩
    by_cases e : j = i
    · subst e; exact hy.qOp hi H
    · obtain ⟨hju, oj, hoj, hall⟩ := mem_ready.1 hj
      have hno : ∀ e ∈ oj.after, Region.binds md e = true → e.on ≠ i := fun e he hb heq => by
        have h2 := hall e he hb
        rw [heq, getD_both (mem_ready.1 hr).1] at h2
        cases h2
      refine qOp_mono (fun a' h3 => ih (ls.setIfInBounds j true) a' (inv.set hj hjn) (fun k ok hk hki hun h4 => ?_) (ready_mono hr (Ne.symm e)) h3.1 (by rw [Array.setIfInBounds_comm _ _ e]; exact h3.2))
        (qOp_put hoj (hfree j oj hoj e hju hno) (fun cs b => hsel i oi cs b hi) (fun cs b => hsel j oj cs b hoj) hy (H.2 j (ready_mono hj e)).2)
      refine hfree k ok hk hki ?_ h4
      by_cases ek : j = k
      · subst ek; exact hju
      · rwa [getD_set_ne true ek] at hun
theorem anyT_lex {n g : Nat} {Lq : Act → Prop} (hsel : Region.noSelect ops = true) (hs : Region.sinkB md ops n = true) (hc : Region.chainB md ops n = true) (hn : n < ops.size) :
    ∀ (l : List Oper) (k : Nat) (ls : Array Bool) (a : Act), (∀ j, j < l.length → l[j]? = ops[k + j]?) → k + l.length = n → HeadInv md ops n ls → Region.lexHead md ops g l.length k ls = true → wpQuiet P ops C Lq l a →
      anyT P md ops C n (fun ls' a' => Region.seqB md ops g n ls' = true ∧ Lq a') l.length ls a := by
  intro l
  induction l with
  | nil =>
    intro k ls a _ hk _ hB h
    have e : k = n := by simpa using hk
    subst e
    exact ⟨by simpa [Region.lexHead] using hB, h⟩
  | cons o l ih =>
    intro k ls a hl hk inv hB h
    have h0 : ops[k]? = some o := by simpa using (hl 0 (by simp)).symm
    simp only [List.length_cons, Region.lexHead, Bool.and_eq_true] at hB
    have hkn : k < n := by simp only [List.length_cons] at hk; omega
    have hr : k ∈ Region.ready md ops ls := by simpa using hB.1.1
    obtain ⟨v, hy, hK⟩ := yieldsIn_of_qOp h0 (show qOp P ops C k (wpQuiet P ops C Lq l) a by unfold qOp; simp only [h0]; exact h)
    exact anyT_first h0 (Region.noSelect_spec hsel) hs hc hn hkn (fun ls' a' hL => seqB_ready hL.1) l.length ls a inv (Region.free_spec h0 hB.1.2) hr hy
      (ih (k + 1) _ _ (fun j hj => by have := hl (j + 1) (by simp; omega); simpa [Nat.add_assoc, Nat.add_comm 1 j] using this) (by simp only [List.length_cons] at hk; omega) (inv.set hr hkn) hB.2 hK)
theorem region_quiet_tail {id : Nat} {Q : Exit → Act → World → Prop} {a : Act} {w : World} {l : List Oper} (n : Nat) (hm : P.follows .mixedOrders = true) (hB : Region.lexTailB .any l.toArray n = true) (hC : C { w with drawn := w.drawn + 1 })
    (h : wpQuiet P l.toArray C (fun a' => ∀ w', C w' → wpList P l.toArray Q (l.drop n) a' w') (l.take n) a) : (Code.region id l.toArray true).wp P Q a w := by
  simp only [Region.lexTailB, Bool.and_eq_true, decide_eq_true_eq] at hB
  obtain ⟨⟨⟨⟨hsel, hn⟩, hs⟩, hc⟩, hlex⟩ := hB
  have hn2 : n < l.length := by simpa using hn
  have ht : (l.take n).length = n := by simp; omega
  have hd : (l.drop n).length = l.toArray.size - n := by simp
  have inv : HeadInv .any l.toArray n (Array.replicate l.toArray.size false) :=
    ⟨by simp, fun j oj _ h2 => (by rw [getD_replicate_false] at h2; cases h2), fun t _ h2 => getD_in (by simpa using h2) (getD_replicate_false _ _)⟩
  have H := anyT_lex (md := .any) (g := l.toArray.size - n) hsel hs hc hn (l.take n) 0 _ a (fun j hj => by rw [ht] at hj; simp [hj]) (by simpa using ht) inv (by rw [ht]; exact hlex) h
  refine wp_region_any hm ?_
  have h2 := wpAny_of_anyT (Q := Q) (g := l.toArray.size - n) (fun ls a' w' hw' hL => by
    have h3 := wpAny_of_seq (md := .any) (Q' := Q) (l.drop n) n ls a' w' (fun j => by simp [List.getElem?_drop]) (by rw [hd]; exact hL.1) (hL.2 w' hw')
    rwa [hd] at h3) _ _ _ _ hC H
  rw [ht, show n + (l.toArray.size - n) = l.toArray.size by omega] at h2
  exact h2
theorem region_below_tail {id : Nat} {Q : Exit → Act → World → Prop} {a : Act} {w : World} {l : List Oper} (n : Nat) (hm : P.follows .mixedOrders = true) (hB : Region.lexTailB .any l.toArray n = true)
    (h : wpQuiet P l.toArray (fun w' => ∃ p : Regrown, w' = grow (redrawn w p.d) p.os) (fun a' => ∀ w', (∃ p : Regrown, w' = grow (redrawn w p.d) p.os) → wpList P l.toArray Q (l.drop n) a' w') (l.take n) a) : (Code.region id l.toArray true).wp P Q a w :=
  region_quiet_tail n hm hB ⟨⟨w.drawn + 1, #[]⟩, by rw [grow_empty]; rfl⟩ h
end
end Go.Proofs.YtnaikafamjebdaaGreatDoor
end
