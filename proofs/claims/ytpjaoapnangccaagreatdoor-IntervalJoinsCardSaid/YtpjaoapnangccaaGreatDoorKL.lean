/-
  Chapter 3: the error of sets, on both sides.
  A call draws no less: the number of draws never falls, whatever runs (over the machine's step).
  Chapter 3 of the program: the order of two numbers, as the sort asks it; 'append' of whatever list is read.
  Chapter 3 of the program: 'slices.SortFunc' on the texts of numbers: the library's contract at this program.
-/
import Derived.Test.YtpjaoapnangccaaGreatDoorKK
import GoSem.Step
import Derived.Calls
import Derived.Lib.QuietBelow
import Derived.Deep.Draws
import Derived.Test.YtpjaoapnangccaaGreatDoorShelfs
namespace Go.Proofs.YtpjaoapnangccaaGreatDoor
open Go Go.RowKit Go.Deep Go.Sort
/-- A list that is read: its row. -/
theorem RdP.row {w : World} {A : Option Addr} {n cap : Nat} {l : List M.PT} (h : RdP w (.slice A n cap) l) (i : Nat) (hi : i < l.length) : ∃ b o, A = some ⟨b, o, none⟩ ∧ PSl w b o l := by
  obtain ⟨A', cap', e, h2⟩ := h
  injection e with e
  subst e
  exact h2.resolve_left (fun e => by rw [e] at hi; cases hi)
theorem cmpQ_le0 {a b : Rat} : M.cmpQ a b ≤ 0 ↔ a ≤ b := by rw [← Int.not_lt, M.cmpQ_gt, Rat.not_lt]
theorem rnw {w : World} {t : TypeId} {xs : List Value} : Row (w.alloc (.cells xs.toArray t (0, 0))) w.heap.size t xs := Row.new w t xs
namespace M
/-- The error of a set. -/
noncomputable def setC (l : List PT) : Nat := if 256 < l.length then 5 else chkL l
noncomputable def setsC (la lb : List PT) : Nat := if setC la = 0 then setC lb else setC la
/-- A set with too many spans, or with few short ones. -/
def FewS (l : List PT) : Prop := 256 < l.length ∨ (l.length ≤ 60 ∧ ShtL l)
theorem FewS.right {l : List PT} (h : FewS l) (hc : setC l = 0) : l.length ≤ 60 ∧ ∃ zl : List SQ, l = sx zl ∧ ∀ a ∈ zl, SpB 30 a := by
  unfold setC at hc
  by_cases hb : 256 < l.length
  · rw [if_pos hb] at hc; cases hc
  · rw [if_neg hb] at hc
    obtain ⟨h1, h2⟩ := h.resolve_left hb
    exact ⟨h1, chkL_right h2 hc⟩
end M
theorem RdP.len {w : World} {v : Value} {l : List M.PT} (h : RdP w v l) : ∃ A cap, v = .slice A l.length cap := by
  obtain ⟨A, cap, e, _⟩ := h; exact ⟨A, cap, e⟩
namespace W
open M
attribute [local go_sem] bs_size bs_toList bs_get bs_extract bs_append bs_lit0 bs_lit1 lit1_bs
set_option maxHeartbeats 4000000
set_option maxRecDepth 20000
theorem pchecks_rd (v : Value) (l : List PT) (w : World) (hg : Glob w) (hv : RdP w v l) (hs : ShtL l) (hl : l.length ≤ 1000) :
    Calls Tryz.prog 45 #[v] w (Ret w (.int .i64 ((chkL l : Nat) : Int))) := by
  obtain ⟨A, cap, rfl, h⟩ := hv
  rcases h with rfl | ⟨b, o, rfl, hw⟩
  · exact pchecks_nil A cap w
  · exact pchecks l b o cap w hg hw hs hl
theorem psets1 (va : Value) (la : List PT) (b : Nat) (w : World) (hg : Glob w) (hr : Row w b 36 [va]) (ha : RdP w va la) (fa : FewS la) (na : la.length ≤ maxLen) :
    Calls Tryz.prog 76 #[.slice (some ⟨b, 0, none⟩) 1 1] w (Ret w (.int .i64 ((setC la : Nat) : Int))) := by
  unfold maxLen at na
  have c0 := hr.cell (i := 0) rfl
  have HA := Lib.hid ha
  obtain ⟨A, cap, rfl⟩ := ha.len
  unfold setC
  clear hr ha
  by_cases hb : 256 < la.length
  · rw [if_pos hb]
    have hd : decide (256 < (la.length : Int)) = true := by simp; omega
    go_enter Tryz.func76, Tryz.ntmps76
    go_wp2
    refine wp_loop_rounds 2 ?_
    rw [rounds_succ]
    go_wp2
    go_ret
    exact Ret.of rfl (Below.refl _ _)
  · rw [if_neg hb]
    have hd : decide (256 < (la.length : Int)) = false := by simp; omega
    have HC := Lib.hid (pchecks_rd _ la w hg HA.out (fa.resolve_left hb).2 (by omega))
    by_cases hc : chkL la = 0
    · rw [hc] at HC ⊢
      go_enter Tryz.func76, Tryz.ntmps76
      go_wp2
      refine wp_loop_rounds 2 ?_
      rw [rounds_succ]
      go_wp2_with fail
      refine (HC.out).mono ?_
      rintro e w1 ⟨rfl, hb1⟩
      go_wp2
      rw [rounds_succ]
      go_wp2
      go_ret
      exact Ret.of rfl hb1
    · have hz : (((chkL la : Nat) : Int) != 0) = true := by simp; exact hc
      clear hc
      generalize ((chkL la : Nat) : Int) = c at *
      go_enter Tryz.func76, Tryz.ntmps76
      go_wp2
      refine wp_loop_rounds 2 ?_
      rw [rounds_succ]
      go_wp2_with fail
      refine (HC.out).mono ?_
      rintro e w1 ⟨rfl, hb1⟩
      go_wp2
      go_ret
      exact Ret.of rfl hb1
theorem psets2 (va vb : Value) (la lb : List PT) (b : Nat) (w : World) (hg : Glob w) (hr : Row w b 36 [va, vb]) (ha : RdP w va la) (hb : RdP w vb lb) (fa : FewS la) (fb : FewS lb) (na : la.length ≤ maxLen) (nb : lb.length ≤ maxLen) :
    Calls Tryz.prog 76 #[.slice (some ⟨b, 0, none⟩) 2 2] w (Ret w (.int .i64 ((setsC la lb : Nat) : Int))) := by
  unfold maxLen at na nb
  have c0 := hr.cell (i := 0) rfl
  have c1 := hr.cell (i := 1) rfl
  have HR := Lib.hid hr
  have HA := Lib.hid ha
  have HB := Lib.hid hb
  obtain ⟨A, capA, rfl⟩ := ha.len
  obtain ⟨B, capB, rfl⟩ := hb.len
  unfold setsC setC
  clear hr ha hb
  by_cases bA : 256 < la.length
  · rw [if_pos bA, if_neg (by decide)]
    have hd : decide (256 < (la.length : Int)) = true := by simp; omega
    go_enter Tryz.func76, Tryz.ntmps76
    go_wp2
    refine wp_loop_rounds 3 ?_
    rw [rounds_succ]
    go_wp2
    go_ret
    exact Ret.of rfl (Below.refl _ _)
  · rw [if_neg bA]
    have hd : decide (256 < (la.length : Int)) = false := by simp; omega
    have HC := Lib.hid (pchecks_rd _ la w hg HA.out (fa.resolve_left bA).2 (by omega))
    by_cases hc : chkL la = 0
    · rw [if_pos hc]
      rw [hc] at HC
      clear hc
      by_cases bB : 256 < lb.length
      · rw [if_pos bB]
        have he : decide (256 < (lb.length : Int)) = true := by simp; omega
        go_enter Tryz.func76, Tryz.ntmps76
        go_wp2
        refine wp_loop_rounds 3 ?_
        rw [rounds_succ]
        go_wp2_with fail
        refine (HC.out).mono ?_
        rintro e w1 ⟨rfl, hb1⟩
        have d1 := (HR.out.below' hb1).cell (i := 1) rfl
        go_wp2
        rw [rounds_succ]
        go_wp2
        go_ret
        exact Ret.of rfl hb1
      · rw [if_neg bB]
        have he : decide (256 < (lb.length : Int)) = false := by simp; omega
        have HD := Lib.hid (fun wx (hx : Below w.heap.size w wx) => pchecks_rd _ lb wx (hg.of hx) (HB.out.below hx) (fb.resolve_left bB).2 (by omega))
        by_cases hq : chkL lb = 0
        · rw [hq] at HD ⊢
          clear hq
          go_enter Tryz.func76, Tryz.ntmps76
          go_wp2
          refine wp_loop_rounds 3 ?_
          rw [rounds_succ]
          go_wp2_with fail
          refine (HC.out).mono ?_
          rintro e w1 ⟨rfl, hb1⟩
          have d1 := (HR.out.below' hb1).cell (i := 1) rfl
          go_wp2
          rw [rounds_succ]
          go_wp2_with fail
          refine (HD.out _ hb1).mono ?_
          rintro e w2 ⟨rfl, hb2⟩
          go_wp2
          rw [rounds_succ]
          go_wp2
          go_ret
          exact Ret.of rfl (Below.then hb1 hb2)
        · have hz : (((chkL lb : Nat) : Int) != 0) = true := by simp; exact hq
          clear hq
          generalize ((chkL lb : Nat) : Int) = c at *
          go_enter Tryz.func76, Tryz.ntmps76
          go_wp2
          refine wp_loop_rounds 3 ?_
          rw [rounds_succ]
          go_wp2_with fail
          refine (HC.out).mono ?_
          rintro e w1 ⟨rfl, hb1⟩
          have d1 := (HR.out.below' hb1).cell (i := 1) rfl
          go_wp2
          rw [rounds_succ]
          go_wp2_with fail
          refine (HD.out _ hb1).mono ?_
          rintro e w2 ⟨rfl, hb2⟩
          go_wp2
          go_ret
          exact Ret.of rfl (Below.then hb1 hb2)
    · have hz : (((chkL la : Nat) : Int) != 0) = true := by simp; exact hc
      rw [if_neg hc]
      clear hc
      generalize ((chkL la : Nat) : Int) = c at *
      go_enter Tryz.func76, Tryz.ntmps76
      go_wp2
      refine wp_loop_rounds 3 ?_
      rw [rounds_succ]
      go_wp2_with fail
      refine (HC.out).mono ?_
      rintro e w1 ⟨rfl, hb1⟩
      go_wp2
      go_ret
      exact Ret.of rfl hb1
end W
end Go.Proofs.YtpjaoapnangccaaGreatDoor
namespace Go.Proofs.YtpjaoapnangccaaGreatDoor
open Go Go.RowKit
def resW {α : Type} : Result α → World
  | .ok _ w => w
  | .halt _ w => w
theorem World.ask_drawn {α : Type} : ∀ (x : Ask α) (w : World), w.drawn ≤ (w.ask x).2.drawn
  | .done a, w => by simp [World.ask]
  | .ask what range k, w => by
    unfold World.ask
    simp only
    split
    · exact World.ask_drawn (k 0) w
    · exact Nat.le_trans (Nat.le_succ _) (World.ask_drawn (k _) { w with drawn := w.drawn + 1 })
theorem World.sys_drawn (w : World) (c : Sys) : w.drawn ≤ (w.sys c).2.drawn := by
  have h := World.ask_drawn (Kernel.perform c w.os) w
  unfold World.sys
  split
  · exact Nat.le_refl _
  · rename_i h2; rw [h2] at h; exact h
theorem World.setCell_drawn (w : World) (a : Addr) (v : Value) : (w.setCell a v).drawn = w.drawn := rfl
theorem World.freeze_drawn (w : World) (a : Addr) (n : Nat) : (w.freeze a n).drawn = w.drawn := by
  unfold World.freeze; split <;> rfl
theorem World.farStore_drawn {p : Program} {w w' : World} {a : Addr} {v : Value} {at_ : Bool} {l : List Addr} (h : w.farStore p a v at_ = .ok (w', l)) : w'.drawn = w.drawn := by
  unfold World.farStore at h
  split at h
  · split at h
    · rename_i h2
      injection h with h
      subst h
      unfold World.viewStore at h2
      simp only [bind, Except.bind, pure, Except.pure] at h2
      repeat' split at h2
      all_goals first | (cases h2; done) | (injection h2 with h2; rw [Prod.mk.injEq] at h2; rw [← h2.1])
    · cases h
  · cases h
theorem Sem.run_drawn {α : Type} (p : Program) : ∀ (m : Sem α) (w : World), w.drawn ≤ (resW (m.run p w)).drawn
  | .pure a, w => Nat.le_refl _
  | .load m a k, w => by
    unfold Sem.run
    split
    · exact Sem.run_drawn p (k _) w
    · split
      · exact Sem.run_drawn p (k _) w
      · exact Nat.le_refl _
  | .store m a v k, w => by
    cases v <;> first | exact Nat.le_refl _ | (
      unfold Sem.run
      split
      · split
        · exact Nat.le_refl _
        · exact Sem.run_drawn p k (w.setCell a _)
      · split
        · rename_i w2 _ h
          have := World.farStore_drawn h
          have h2 := Sem.run_drawn p k w2
          omega
        · exact Nat.le_refl _)
  | .new o k, w => by
    unfold Sem.run
    exact Sem.run_drawn p (k _) { w with heap := w.heap.push o }
  | .shape r k, w => by unfold Sem.run; exact Sem.run_drawn p (k _) w
  | .freeze a n k, w => by
    unfold Sem.run
    have h := Sem.run_drawn p k (w.freeze a n)
    rw [World.freeze_drawn] at h
    exact h
  | .frozen a k, w => by unfold Sem.run; exact Sem.run_drawn p (k _) w
  | .getObj r k, w => by
    unfold Sem.run
    split
    · exact Nat.le_refl _
    · exact Sem.run_drawn p (k _) w
    · exact Nat.le_refl _
  | .setObj r o k, w => by
    unfold Sem.run
    split
    · exact Nat.le_refl _
    · exact Sem.run_drawn p k { w with heap := w.heap.setIfInBounds r o }
    · exact Nat.le_refl _
  | .choose q k, w => by
    unfold Sem.run
    split
    · exact Sem.run_drawn p (k 0) w
    · exact Nat.le_trans (Nat.le_succ _) (Sem.run_drawn p (k _) { w with drawn := w.drawn + 1 })
  | .sys c k, w => by
    unfold Sem.run
    exact Nat.le_trans (World.sys_drawn w c) (Sem.run_drawn p (k _) (w.sys c).2)
  | .program k, w => by unfold Sem.run; exact Sem.run_drawn p (k _) w
  | .mark _ k, w => by unfold Sem.run; exact Sem.run_drawn p k w
  | .halt h, w => Nat.le_refl _
theorem Sem.runT_run {α : Type} (p : Program) : ∀ (m : Sem α) (w : World) (es : Array Event), (m.runT p w es).1 = m.run p w
  | .pure a, w, es => rfl
  | .load m a k, w, es => by
    unfold Sem.runT Sem.run
    split
    · exact Sem.runT_run p (k _) w _
    · split
      · exact Sem.runT_run p (k _) w _
      · rfl
  | .store m a v k, w, es => by
    cases v <;> first | rfl | (
      unfold Sem.runT Sem.run
      split
      · split
        · rfl
        · exact Sem.runT_run p k (w.setCell a _) _
      · split
        · rename_i w2 _ h
          exact Sem.runT_run p k w2 _
        · rfl)
  | .new o k, w, es => by
    unfold Sem.runT Sem.run
    exact Sem.runT_run p (k _) { w with heap := w.heap.push o } _
  | .shape r k, w, es => by unfold Sem.runT Sem.run; exact Sem.runT_run p (k _) w _
  | .freeze a n k, w, es => by unfold Sem.runT Sem.run; exact Sem.runT_run p k _ _
  | .frozen a k, w, es => by unfold Sem.runT Sem.run; exact Sem.runT_run p (k _) w _
  | .getObj r k, w, es => by
    unfold Sem.runT Sem.run
    split
    · rfl
    · exact Sem.runT_run p (k _) w _
    · rfl
  | .setObj r o k, w, es => by
    unfold Sem.runT Sem.run
    split
    · rfl
    · exact Sem.runT_run p k { w with heap := w.heap.setIfInBounds r o } _
    · rfl
  | .choose q k, w, es => by
    unfold Sem.runT Sem.run
    split
    · exact Sem.runT_run p (k 0) w _
    · exact Sem.runT_run p (k _) { w with drawn := w.drawn + 1 } _
  | .sys c k, w, es => by unfold Sem.runT Sem.run; exact Sem.runT_run p (k _) (w.sys c).2 _
  | .program k, w, es => by unfold Sem.runT Sem.run; exact Sem.runT_run p (k _) w _
  | .mark _ k, w, es => by unfold Sem.runT Sem.run; exact Sem.runT_run p k w _
  | .halt h, w, es => rfl
theorem Sem.run_ok {α : Type} {p : Program} {m : Sem α} {w w' : World} {a : α} (h : m.run p w = .ok a w') : w.drawn ≤ w'.drawn := by
  have := Sem.run_drawn p m w; rw [h] at this; exact this
theorem Sem.run_halt {α : Type} {p : Program} {m : Sem α} {w w' : World} {a : Halt} (h : m.run p w = .halt a w') : w.drawn ≤ w'.drawn := by
  have := Sem.run_drawn p m w; rw [h] at this; exact this
theorem Sem.runT_ok {α : Type} {p : Program} {m : Sem α} {w w' : World} {es es' : Array Event} {a : α} (h : m.runT p w es = (.ok a w', es')) : w.drawn ≤ w'.drawn := by
  have := Sem.runT_run p m w es; rw [h] at this; exact Sem.run_ok this.symm
theorem Sem.runT_halt {α : Type} {p : Program} {m : Sem α} {w w' : World} {es es' : Array Event} {a : Halt} (h : m.runT p w es = (.halt a w', es')) : w.drawn ≤ w'.drawn := by
  have := Sem.runT_run p m w es; rw [h] at this; exact Sem.run_halt this.symm
def gsW : GStep → World
  | .go _ w _ => w
  | .comm _ _ _ _ w _ => w
  | .spawn _ _ w _ => w
  | .count _ w _ => w
  | .timer _ _ w _ => w
  | .alone _ _ w _ => w
  | .newcoro _ _ _ w _ => w
  | .coroswitch _ _ _ w _ => w
  | .collect _ w _ => w
  | .watch _ w _ => w
  | .ended _ w _ => w
theorem GStep.after_w (es : Array Event) (s : GStep) : gsW (GStep.after es s) = gsW s := by cases s <;> rfl
theorem endWith_drawn (w : World) (fd : Nat) (t : ByteArray) (o : Outcome) : w.drawn ≤ (gsW (endWith w fd t o)).drawn := by
  have h := World.sys_drawn w (.write fd t)
  unfold endWith
  simp only
  split
  · rename_i h2
    rw [h2] at h
    split <;> exact h
  · rename_i h2; rw [h2] at h; exact h
  · rename_i h2; rw [h2] at h; exact h
theorem ite_w {c : Prop} [Decidable c] {n : Nat} {a b : GStep} (ha : n ≤ (gsW a).drawn) (hb : n ≤ (gsW b).drawn) : n ≤ (gsW (if c then a else b)).drawn := by split <;> assumption
theorem elim_w {α : Type} {o : Option α} {n : Nat} {a : GStep} {f : α → GStep} (ha : n ≤ (gsW a).drawn) (hf : ∀ k, n ≤ (gsW (f k)).drawn) : n ≤ (gsW (o.elim a f)).drawn := by cases o with
  | none => exact ha
  | some k => exact hf k
theorem endThrow_w (fr : Frame) (m : String) (w : World) : gsW (endThrow fr m w) = w := rfl
theorem endPrinting_w (p : Program) (fr : Frame) (v : Value) (w : World) : gsW (endPrinting p fr v w) = w := by
  unfold endPrinting
  simp only
  split <;> rfl
theorem endFatal_drawn (p : Program) (fr : Frame) (cs : List Frame) (d : Option Dying) (m : String) (w : World) : w.drawn ≤ (gsW (endFatal p fr cs d m w)).drawn := by
  unfold endFatal
  simp only
  split
  · rename_i h; exact Sem.run_ok h
  · rename_i h; exact Sem.run_halt h
  · exact Sem.run_halt (by assumption)
theorem writeOn_drawn (p : Program) (fr : Frame) (d : Dying) (f : Fatal) (w : World) : w.drawn ≤ (gsW (writeOn p fr d f w)).drawn := by
  unfold writeOn
  simp only
  split
  · exact Nat.le_refl _
  · split
    · rename_i h; exact Sem.runT_ok h
    · rename_i h; exact Sem.runT_halt h
    · rename_i h; exact Sem.runT_halt h
    · exact Sem.runT_halt (by assumption)
theorem die_drawn (p : Program) (fr : Frame) (d : Dying) (w : World) : w.drawn ≤ (gsW (die p fr d w)).drawn := by
  unfold die
  split
  · exact writeOn_drawn _ _ _ _ _
  · split
    · split
      · exact Nat.le_refl _
      · exact endWith_drawn _ _ _ _
    · simp only
      split
      · exact Nat.le_refl _
      · split
        · rename_i h; exact Sem.run_ok h
        · rename_i h; exact Sem.run_halt h
      · rw [GStep.after_w]
        split
        · rename_i h; exact Sem.runT_ok (es' := _) (Prod.ext h rfl)
        · rename_i h; exact Sem.runT_ok (es' := _) (Prod.ext h rfl)
        · rename_i h; exact Sem.runT_halt (es' := _) (Prod.ext h rfl)
        · rename_i h; rw [endPrinting_w]; exact Sem.runT_halt (es' := _) (Prod.ext h rfl)
        · exact Nat.le_refl _
      · exact Nat.le_refl _
theorem doReturn_w (p : Program) (main : Bool) (fr : Frame) (cs : List Frame) (d : Option Dying) (v : Value) (w : World) : gsW (doReturn p main fr cs d v w) = w := by
  unfold doReturn
  simp only
  repeat' split
  all_goals rfl
theorem callDeferred_drawn (p : Program) (fr : Frame) (cs : List Frame) (dy : Option Dying) (d : Deferred) (w : World) : w.drawn ≤ (gsW (callDeferred p fr cs dy d w)).drawn := by
  unfold callDeferred
  refine ite_w ?_ ?_
  · exact Nat.le_refl _
  · simp only
    rw [GStep.after_w]
    have h := Sem.runT_run p (invoke d.target d.args) w #[]
    have h2 := Sem.run_drawn p (invoke d.target d.args) w
    rw [← h] at h2
    generalize ((invoke d.target d.args).runT p w #[]).1 = r at *
    clear h
    repeat' split
    all_goals first | exact h2 | exact Nat.le_trans h2 (endFatal_drawn _ _ _ _ _ _)
theorem unwind_drawn (p : Program) (main : Bool) (fr : Frame) (cs : List Frame) (dy : Option Dying) (w : World) : w.drawn ≤ (gsW (unwind p main fr cs dy w)).drawn := by
  unfold unwind
  split
  · simp only
    rw [GStep.after_w]
    split
    · rename_i h; exact Sem.runT_ok (es' := _) (Prod.ext h rfl)
    · rename_i h; exact Sem.runT_halt (es' := _) (Prod.ext h rfl)
  · exact callDeferred_drawn _ _ _ _ _ _
  · split
    · exact Nat.le_refl _
    · split
      · exact Nat.le_refl _
      · split
        · exact Nat.le_refl _
        · split
          · split
            · exact Nat.le_refl _
            · split
              · rename_i h; exact Sem.run_ok h
              · rename_i h; exact Sem.run_halt h
              · exact Sem.run_halt (by assumption)
          · split
            · rw [endPrinting_w]; exact Nat.le_refl _
            · exact Nat.le_refl _
    · split
      · rw [doReturn_w]; exact Nat.le_refl _
      · simp only
        rw [GStep.after_w]
        split
        · rename_i h; rw [doReturn_w]; exact Sem.runT_ok (es' := _) (Prod.ext h rfl)
        · rename_i h; exact Sem.runT_halt (es' := _) (Prod.ext h rfl)
        · exact Sem.runT_halt (es' := _) (Prod.ext (by assumption) rfl)
theorem early_drawn (p : Program) (fr : Frame) (cs : List Frame) (dy : Option Dying) (g : Nat) (w : World) : w.drawn ≤ (gsW (early p fr cs dy g w)).drawn := by
  have hc : ∀ {k : Nat} {w' : World}, (choose (.early g)).run p w = .ok k w' → w.drawn ≤ w'.drawn := fun h => Sem.run_ok h
  unfold early
  simp only
  repeat' split
  all_goals first
    | exact Nat.le_refl _
    | (rename_i w2 h1 _ _ _ _; exact hc (w' := w2) h1)
    | (rename_i w2 h1 _ _ _; exact hc (w' := w2) h1)
    | (rename_i w2 h1 _ _; exact hc (w' := w2) h1)
    | (rename_i w2 h1 _; exact hc (w' := w2) h1)
    | (rename_i w2 h1; exact hc (w' := w2) h1)
    | (rename_i w2 _ h1; exact hc (w' := w2) h1)
    | exact Sem.run_halt (by assumption)
theorem apply_drawn (p : Program) (listen : Bool) (fr : Frame) (cs : List Frame) (dy : Option Dying) (s : Sem Next) (w : World) : w.drawn ≤ (gsW (stepG.apply p listen fr cs dy s w)).drawn := by
  unfold stepG.apply
  simp only
  rw [GStep.after_w]
  have h2 : w.drawn ≤ (resW (if listen = true then s.runT p w #[] else (s.run p w, #[])).1).drawn := by
    split
    · rw [Sem.runT_run]; exact Sem.run_drawn p s w
    · exact Sem.run_drawn p s w
  generalize (if listen = true then s.runT p w #[] else (s.run p w, #[])).1 = r at *
  split
  all_goals first
    | exact h2
    | (split <;> exact h2)
    | exact Nat.le_trans h2 (endFatal_drawn _ _ _ _ _ _)
    | exact Nat.le_trans h2 (early_drawn _ _ _ _ _ _)
    | (repeat' split) <;> exact h2
theorem oper_drawn (p : Program) (listen : Bool) (fr : Frame) (cs : List Frame) (dy : Option Dying) (w : World) : w.drawn ≤ (gsW (stepG.oper p listen fr cs dy w)).drawn := by
  unfold stepG.oper
  split
  · exact Nat.le_refl _
  · split <;> exact apply_drawn _ _ _ _ _ _ _
set_option maxHeartbeats 4000000 in
theorem exec_drawn (p : Program) (main listen : Bool) (fr : Frame) (cs : List Frame) (dy : Option Dying) (w : World) : w.drawn ≤ (gsW (stepG.exec p main listen fr cs dy w)).drawn := by
  have hl : ∀ (jump : Option Code), w.drawn ≤ (gsW (match fr.roundOf with
      | none => if (match jump with | none => true | some .ret => true | _ => false) = true then GStep.go { frame := { fr with mode := .returning }, callers := cs, status := .running, dying := dy } w else .ended (.stuck "exit, goto: no such block or label" (fr.pos p)) w
      | some l => GStep.after (seen p fr.fn ((Instr.endRound l jump).runT p w #[]).2) (match ((Instr.endRound l jump).runT p w #[]).1 with
        | .ok v w => doReturn p main fr cs dy v w
        | .halt _ w => .ended (.stuck "range over a function: no such loop" (fr.pos p)) w) : GStep)).drawn := by
    intro jump
    split
    · split <;> exact Nat.le_refl _
    · rw [GStep.after_w]
      split
      · rename_i h; rw [doReturn_w]; exact Sem.runT_ok (es' := _) (Prod.ext h rfl)
      · rename_i h; exact Sem.runT_halt (es' := _) (Prod.ext h rfl)
  unfold stepG.exec
  simp only
  split
  case h_1 => exact hl none
  case h_2 => exact hl (some .ret)
  case h_13 => exact elim_w (hl (some (.exit _))) (fun _ => Nat.le_refl _)
  case h_14 => exact elim_w (hl (some (.goto _))) (fun _ => Nat.le_refl _)
  case h_21 => exact elim_w (Nat.le_refl _) (fun _ => apply_drawn _ _ _ _ _ _ _)
  case h_24 => exact ite_w (oper_drawn _ _ _ _ _ _) (Nat.le_refl _)
  case h_17 => exact apply_drawn _ _ _ _ _ _ _
  case h_20 => exact apply_drawn _ _ _ _ _ _ _
  all_goals first
    | exact Nat.le_refl _
    | (split <;> exact Nat.le_refl _)
    | skip
  · rw [GStep.after_w]
    split
    · rename_i h; exact Nat.le_trans (Sem.runT_ok (es' := _) (Prod.ext h rfl)) (apply_drawn _ _ _ _ _ _ _)
    · rename_i h; exact Sem.runT_halt (es' := _) (Prod.ext h rfl)
  · rw [GStep.after_w]
    split
    · rename_i h; exact Sem.runT_ok (es' := _) (Prod.ext h rfl)
    · rename_i h; exact Sem.runT_halt (es' := _) (Prod.ext h rfl)
    · exact Sem.runT_halt (es' := _) (Prod.ext (by assumption) rfl)
  · split
    · exact Nat.le_refl _
    · split
      · rename_i h; exact Sem.run_ok h
      · rename_i h; exact Sem.run_halt h
theorem stepG_drawn (p : Program) (main listen : Bool) (g : Goroutine) (w : World) : w.drawn ≤ (gsW (stepG p main g w listen)).drawn := by
  unfold stepG
  simp only
  split
  · exact die_drawn _ _ _ _
  · exact exec_drawn _ _ _ _ _ _ _
  · exact unwind_drawn _ _ _ _ _ _
/-- The machine that comes next has drawn no less. -/
def sGe (n : Nat) : Stepped → Prop
  | .next m => n ≤ m.world.drawn
  | .ended _ _ => True
theorem Machine.withTimers_w (m : Machine) (t : Array Timer) : (m.withTimers t).world = m.world := rfl
theorem look_drawn (p : Program) (gs : Array Goroutine) (rest : Rest) (w : World) (n : Nat) (hn : n ≤ w.drawn) : sGe n (look p gs rest w) := by
  unfold look
  split
  · simp only
    split
    · trivial
    · split
      · trivial
      · split
        · rename_i h; have h3 := Sem.run_ok h; exact Nat.le_trans hn h3
        · trivial
        · trivial
  · trivial
theorem communicate_drawn (p : Program) (rest : Rest) (gs : Array Goroutine) (i : Nat) (g : Goroutine) (cases : Array CommCase) (bl : Bool) (sh : CommShape) (w : World) (n : Nat) (hn : n ≤ w.drawn) : sGe n (communicate p rest gs i g cases bl sh w).1 := by
  unfold communicate
  simp only
  split
  · trivial
  · split
    · split
      · split
        · rename_i w2 h
          unfold waitingAt at h
          split at h
          · split at h
            · injection h with h; rw [← h]; exact hn
            · cases h
          · injection h with h; rw [← h]; exact hn
        · trivial
      · exact hn
    · split
      · trivial
      · rename_i h
        have h2 := Nat.le_trans hn (Sem.run_ok h)
        clear h
        repeat' split
        all_goals first
          | trivial
          | exact h2
          | (have h3 := Sem.run_ok (by assumption); exact Nat.le_trans h2 h3)
          | (have h3 := Sem.run_halt (by assumption); exact Nat.le_trans h2 h3)
          | (have h3 := Sem.run_ok ‹Sem.run _ _ _ = Result.ok _ _›; exact Nat.le_trans h2 h3)
          | (have h3 := Sem.run_halt ‹Sem.run _ _ _ = Result.halt _ _›; exact Nat.le_trans h2 h3)
theorem drain_drawn (w : World) (c : Nat) : (drain w c).2.drawn = w.drawn := by
  unfold drain; split <;> rfl
theorem retime_drawn (m : Machine) (k : Nat) (t : Timer) (a b : Nat) : (retime m k t a b).2.world.drawn = m.world.drawn := by
  unfold retime
  simp only
  split
  · exact drain_drawn _ _
  · rfl
theorem timerOp_drawn (m : Machine) (op : TimerOp) (v : Value) (m' : Machine) (h : timerOp m op = .ok (v, m')) : m'.world.drawn = m.world.drawn := by
  unfold timerOp at h
  split at h
  · split at h
    · injection h with h; rw [Prod.mk.injEq] at h; rw [← h.2]; rfl
    · split at h
      · split at h
        · cases h
        · injection h with h; rw [Prod.mk.injEq] at h; rw [← h.2]
      · cases h
  · unfold timerOp.named at h
    split at h
    · injection h with h
      have := congrArg (fun x : Value × Machine => x.2.world.drawn) h
      exact this.symm.trans (retime_drawn _ _ _ _ _)
    · cases h
  · split at h
    · rename_i m2 ho
      have e : m2.world.drawn = m.world.drawn := by
        unfold timerOp.opened at ho
        split at ho
        · split at ho
          · injection ho with ho; rw [← ho]
          · cases ho
        · injection ho with ho; rw [← ho]
      unfold timerOp.named at h
      split at h
      · injection h with h
        have := congrArg (fun x : Value × Machine => x.2.world.drawn) h
        exact (this.symm.trans (retime_drawn _ _ _ _ _)).trans e
      · cases h
    · cases h
  · injection h with h; rw [Prod.mk.injEq] at h; rw [← h.2]; rfl
theorem runT_drawn (p : Program) (m : Machine) (i : Nat) (listen : Bool) (n : Nat) (hn : n ≤ m.world.drawn) : sGe n (runT p m i listen).1 := by
  unfold runT
  simp only
  have h := stepG_drawn p (i == 0) listen (m.gs.swapAt! i { (default : Goroutine) with status := .finished }).1 m.world
  have h := Nat.le_trans hn h
  split
  all_goals (rename_i e; rw [e] at h; simp only [gsW] at h)
  · trivial
  · exact communicate_drawn _ _ _ _ _ _ _ _ _ _ h
  · exact h
  · exact h
  · split
    · trivial
    · exact h
  · exact h
  · exact look_drawn _ _ _ _ _ h
  · exact h
  · exact h
  · split
    · exact h
    · split
      · rename_i e2
        have e3 := congrArg gsW e2
        rw [endThrow_w] at e3
        simp only [gsW] at e3
        show n ≤ World.drawn _
        rw [← e3]; exact h
      · trivial
    · trivial
  · split
    · rename_i e2
      have := timerOp_drawn _ _ _ _ e2
      show n ≤ World.drawn _
      exact Nat.le_trans h (Nat.le_of_eq this.symm)
    · split
      · rename_i e2
        have e3 := congrArg gsW e2
        rw [endThrow_w] at e3
        simp only [gsW] at e3
        show n ≤ World.drawn _
        rw [← e3]; exact h
      · trivial
    · trivial
    · trivial
theorem serve_drawn (p : Program) (m : Machine) (k n : Nat) (hn : n ≤ m.world.drawn) : sGe n (serve p m k) := by
  unfold serve
  split
  · trivial
  · exact hn
  · simp only
    split
    · trivial
    · exact hn
def mvGe (n : Nat) : Move → Prop
  | .goroutine m _ => n ≤ m.world.drawn
  | .machine s _ => sGe n s
theorem pick_drawn (p : Program) (rs : List Nat) (m : Machine) (n : Nat) (hn : n ≤ m.world.drawn) : mvGe n (match (choose (.sched rs.length)).run p m.world with
      | .halt _ w => .machine (.ended (.stuck "sched" "") w)
      | .ok k world =>
        if rs.length ≤ 1 then .goroutine { m with world } (rs.getD k 0) else
        match (choose (.extern "sched.slice" 65536)).run p world with
        | .halt _ w => .machine (.ended (.stuck "sched.slice" "") w)
        | .ok n world => .goroutine { m with world, rest := { m.rest with slice := if n = 0 then none else some (rs.getD k 0, n) } } (rs.getD k 0) : Move) := by
  split
  · trivial
  · rename_i h
    have h2 := Nat.le_trans hn (Sem.run_ok h)
    split
    · exact h2
    · split
      · trivial
      · rename_i h3
        exact Nat.le_trans h2 (Sem.run_ok h3)
theorem askOn_drawn (p : Program) (m : Machine) (n : Nat) (hn : n ≤ m.world.drawn) : mvGe n (askOn p m) := by
  unfold askOn
  simp only
  split
  · trivial
  · rename_i h
    have h2 := Nat.le_trans hn (Sem.run_ok h)
    clear h
    split
    · exact serve_drawn _ _ _ _ h2
    · split
      · split
        · exact h2
        · split
          · exact h2
          · split <;> trivial
      · split
        · exact pick_drawn p _ { m with world := _ } n h2
        · split
          · trivial
          · rename_i h3
            exact pick_drawn p _ { m with world := _ } n (Nat.le_trans h2 (Sem.run_ok h3))
          · rename_i h3
            have h4 := Nat.le_trans h2 (Sem.run_ok h3)
            exact h4
          · rename_i h3
            have h4 := Nat.le_trans h2 (Sem.run_ok h3)
            exact pick_drawn p _ (Machine.advanceTo { m with world := _ } _) n h4
theorem move_drawn (p : Program) (m : Machine) (n : Nat) (hn : n ≤ m.world.drawn) : mvGe n (move p m) := by
  have ha : ∀ m : Machine, n ≤ m.world.drawn → mvGe n (ask p m) := by
    intro m hn
    unfold ask
    split
    · split
      · trivial
      · rename_i h
        have h2 := Nat.le_trans hn (Sem.run_ok h)
        have h3 := look_drawn p m.gs m.rest _ n h2
        split
        · rename_i e; rw [e] at h3; exact askOn_drawn _ _ _ h3
        · rename_i e; exact h3
      · rename_i h
        exact askOn_drawn _ { m with world := _ } _ (Nat.le_trans hn (Sem.run_ok h))
    · exact askOn_drawn _ _ _ hn
  unfold move
  split
  · split
    · exact hn
    · trivial
  · split
    · split
      · exact hn
      · exact ha { m with rest := { m.rest with slice := none } } hn
    · exact ha m hn
theorem step_drawn (p : Program) (m : Machine) (n : Nat) (hn : n ≤ m.world.drawn) : sGe n (step p m) := by
  have h := move_drawn p m n hn
  unfold step stepT
  split
  · rename_i e; rw [e] at h; exact runT_drawn _ _ _ _ _ h
  · rename_i e; rw [e] at h; exact h
theorem runN_drawn (p : Program) : ∀ (k : Nat) (m m' : Machine), runN p k m = .next m' → m.world.drawn ≤ m'.world.drawn
  | 0, m, m', h => by
    unfold runN at h
    injection h with h
    rw [h]; exact Nat.le_refl _
  | k + 1, m, m', h => by
    unfold runN at h
    have hs := step_drawn p m _ (Nat.le_refl _)
    split at h
    · rename_i e
      rw [e] at hs
      exact Nat.le_trans hs (runN_drawn p k _ _ h)
    · rename_i e
      exact absurd h (e _)
/-- A call draws no less. -/
theorem Calls.drawn {P : Program} {f : FuncId} {args : Array Value} {w : World} {R : Ending → World → Prop} (h : Calls P f args w R) :
    Calls P f args w fun e w' => R e w' ∧ ((∃ v, e = .returned v) → w.drawn ≤ w'.drawn) := by
  intro cs
  obtain ⟨e, w', fr, h1, h2, h3⟩ := h cs
  refine ⟨e, w', fr, ⟨h1, ?_⟩, h2, h3⟩
  rintro ⟨v, rfl⟩
  obtain ⟨n, hn⟩ := h2
  have := runN_drawn P n _ _ hn
  exact this
/-- Where memory below stands, and the draws are no less: draws, and blocks laid behind. -/
theorem grown_of_below {w w' : World} (h : Below w.heap.size w w') (hd : w.drawn ≤ w'.drawn) : ∃ q os, w' = Go.Sort.grow (w.drewN q) os := by
  obtain ⟨p, e⟩ := regrown_of_below h
  refine ⟨w'.drawn - w.drawn, p.os, ?_⟩
  have hp : p.d = w'.drawn := by rw [e]; rfl
  have : redrawn w p.d = w.drewN (w'.drawn - w.drawn) := by
    unfold redrawn World.drewN
    rw [hp, Nat.add_sub_cancel' hd]
  exact e.trans (congrArg (fun x => Go.Sort.grow x p.os) this)
end Go.Proofs.YtpjaoapnangccaaGreatDoor
namespace Go.Proofs.YtpjaoapnangccaaGreatDoor
open Go Go.RowKit Go.Deep Go.Sort
theorem run_append_zero {w : World} (base : Nat) (t ty e : TypeId) (i : TypeInfo) (size : Nat) (ht : Tryz.prog.underlying t = some (.slice e)) (hi : Tryz.prog.info? e = some i)
    (v : Value) (n : Nat) (xs : List Value) (hown : w.ownsRow base e size v n xs) (A : Option Addr) (cap : Nat) :
    (Builtin.append_ #[t, t] ty #[v, .slice A 0 cap]).run Tryz.prog w = .ok v w := by
  rcases hown.2 with ⟨rfl, rfl⟩ | ⟨g, cap2, cur, rfl, _, _, hnc, _⟩
  · cases A <;> simp [Builtin.append_, run_underlying ht, sizeOf, typeInfo, hi, Builtin.lenOf, Builtin.firstCells, loadCells, loadCellsFrom]
  · cases A <;> simp [Builtin.append_, run_underlying ht, sizeOf, typeInfo, hi, Builtin.lenOf, Builtin.firstCells, hnc, storeCells, loadCells, loadCellsFrom]
theorem run_app_any {w : World} {B : Nat} {v x : Value} {l m : List M.PT} (ty : TypeId) (h : OwnP w B v l) (hx : RdP w x m) (hB : B ≤ w.heap.size) (hn : l.length + m.length ≤ 1000000000) :
    ∃ v' w', (Builtin.append_ #[36, 36] ty #[v, x]).run Tryz.prog w = .ok v' w' ∧ OwnP w' B v' (l ++ m) ∧ w.grownBy w' v.ownBlock := by
  obtain ⟨A, cap, rfl, h2⟩ := hx
  rcases h2 with rfl | ⟨b, o, rfl, hw⟩
  · obtain ⟨i, h1, h2, h3, h4⟩ := info_parts infoPt
    refine ⟨v, w, run_append_zero B _ ty _ i 2 Tryz.underlying36 h1 v l.length (pcs l) h A cap, ?_, grown_refl _ _⟩
    rw [List.append_nil]; exact h
  · exact run_app_rdg ty h (SrcP.of hw rfl) hB hn
theorem wpList_app_any {ops : Array Oper} {rest : List Oper} {o : Oper} {a : Act} {Q : Exit → Act → World → Prop} {w : World} {B : Nat} {v xv : Value} {l m : List M.PT} (hgd : o.guard = none) (s x : Operand)
    (ho : o.op = .call { callee := .builtin .append, args := #[s, x], argTypes := #[36, 36] }) (hs : a.eval s = v) (hx : a.eval x = xv)
    (h : OwnP w B v l) (hsrc : RdP w xv m) (hB : B ≤ w.heap.size) (hn : l.length + m.length ≤ 1000000000)
    (hK : ∀ v' w', OwnP w' B v' (l ++ m) → w.grownBy w' v.ownBlock → wpList Tryz.prog ops Q rest (a.put o.dst v') w') : wpList Tryz.prog ops Q (o :: rest) a w := by
  refine wpList_plain hgd fun _ hK2 => ?_
  obtain ⟨v', w', hr, h2, h3⟩ := run_app_any o.type h hsrc hB hn
  unfold Oper.wp execOp
  simp only [ho, resolve, invoke, builtin, Sem.run_bind, Sem.run_pure, Result.andThen_ok, List.map_toArray, List.map_cons, List.map_nil, hs, hx, hr]
  exact hK2 _ _ (hK v' w' h2 h3)
namespace W
open M
attribute [local go_sem] bs_size bs_toList bs_get bs_extract bs_append bs_lit0 bs_lit1 lit1_bs
set_option maxHeartbeats 4000000
set_option maxRecDepth 20000
theorem sorder_ok (b : Nat) (p q : Rat) (w : World) (hg : Glob w) (hs : NoErI w b) (hp : Bq 30 p) (hq : Bq 30 q) :
    Calls Tryz.prog 99 #[.pointer (some ⟨b, 0, none⟩), .string (bs (R p)), .string (bs (R q))] w (Ret w (.int .i64 (cmpQ p q))) := by
  have HC := Lib.hid (ratCompare p q 30 30 w hg hp hq (by decide))
  have HS := Lib.hid hs
  clear hs hp hq
  generalize cmpQ p q = c at *
  generalize R p = x at *
  generalize R q = y at *
  go_enter Tryz.func99, Tryz.ntmps99
  go_wp2_with fail
  refine (HC.out).mono ?_
  rintro e w1 ⟨rfl, hb1⟩
  have HO := Lib.hid (sof_ok b [] w1 (HS.out.below' hb1))
  rw [show (bs []) = (⟨#[]⟩ : ByteArray) from rfl] at HO
  go_wp2_with fail
  refine (HO.out).mono ?_
  rintro e w2 ⟨rfl, hb2⟩
  go_wp2
  go_ret
  exact Ret.of rfl (Below.then hb1 hb2)
/-- The closure that the sort is given: S the sums, C the box that holds their address. -/
theorem sclos_ok (S C : Nat) (p q : Rat) (w : World) (hg : Glob w) (hs : NoErI w S) (hc : w.cell? ⟨C, 0, none⟩ = some (.pointer (some ⟨S, 0, none⟩))) (hp : Bq 30 p) (hq : Bq 30 q) :
    Calls Tryz.prog 98 #[.string (bs (R p)), .string (bs (R q)), .pointer (some ⟨C, 0, none⟩)] w (Ret w (.int .i64 (cmpQ p q))) := by
  have HO := Lib.hid (sorder_ok S p q w hg hs hp hq)
  clear hs hp hq
  generalize cmpQ p q = c at *
  generalize R p = x at *
  generalize R q = y at *
  go_enter Tryz.func98, Tryz.ntmps98
  go_wp2_with fail
  refine (HO.out).mono ?_
  rintro e w1 ⟨rfl, hb1⟩
  go_wp2
  go_ret
  exact Ret.of rfl hb1
end W
end Go.Proofs.YtpjaoapnangccaaGreatDoor
namespace Go.Proofs.YtpjaoapnangccaaGreatDoor
open Go Go.RowKit Go.Deep
set_option maxRecDepth 20000
/-- A number with few digits. -/
def Vq : Type := { q : Rat // M.Bq 30 q }
instance vqInh : Inhabited Vq := ⟨⟨0, M.Bq_zero.mono (by decide)⟩⟩
def encR (x : Vq) : Value := .string (bs (M.R x.1))
def cfR (x y : Vq) : Int := M.cmpQ x.1 y.1
theorem ltR (x y : Vq) : Go.Proofs.ltOf cfR x y = decide (x.1 < y.1) := by
  unfold Go.Proofs.ltOf cfR
  rw [Bool.eq_iff_iff, decide_eq_true_iff, decide_eq_true_iff]
  exact M.cmpQ_lt
theorem swoR : Go.Sort.SWO (Go.Proofs.ltOf cfR) where
  irrefl x := by rw [ltR]; exact decide_eq_false Rat.lt_irrefl
  trans x y z h1 h2 := by
    rw [ltR] at *
    have h3 := of_decide_eq_true h1
    have h4 := of_decide_eq_true h2
    exact decide_eq_true (by grind)
  ntrans x y z h1 h2 := by
    rw [ltR] at *
    have h3 := of_decide_eq_false h1
    have h4 := of_decide_eq_false h2
    exact decide_eq_false (by grind)
theorem ent_srt : Enters Tryz.prog 98 := enters_of Tryz.func98 (by kernel_rfl) rfl
theorem heapE {α : Type} [Inhabited α] {enc : α → Value} {w : World} {g n : Nat} {os : Array Obj} {cur : Array Value} {e : TypeId} {fr : Nat × Nat} (F : Array α) (hb : w.heap[g]? = some (.cells cur e fr)) :
    (Go.Sort.grow (Go.Sort.putRow enc (Go.Sort.ahead w n) g 0 F) os).heap[g]? = some (.cells (Go.Sort.putCells enc 0 F cur) e fr) := by
  have hg : g < w.heap.size := (Array.getElem?_eq_some_iff.1 hb).1
  rw [Go.Sort.heap_grow_old _ _ (by simpa using hg)]
  simp [Go.Sort.putRow, Go.Sort.mapBlock, Go.Sort.ahead, Array.getElem?_modify, hb, Go.Sort.onCells]
theorem grownE {α : Type} [Inhabited α] {enc : α → Value} {w : World} {g n : Nat} {os : Array Obj} (F : Array α) : w.grownBy (Go.Sort.grow (Go.Sort.putRow enc (Go.Sort.ahead w n) g 0 F) os) (some g) := by
  refine ⟨rfl, rfl, rfl, by simp, fun k hk hne => ?_⟩
  rw [Go.Sort.heap_grow_old _ _ (by simpa using hk)]
  have : g ≠ k := fun e => hne (by rw [e])
  simp [Go.Sort.putRow, Go.Sort.mapBlock, Go.Sort.ahead, Array.getElem?_modify, this]
theorem takeE {α : Type} [Inhabited α] {enc : α → Value} (cur : Array Value) (F : Array α) (h : F.size ≤ cur.size) : (Go.Sort.putCells enc 0 F cur).toList.take F.size = F.toList.map enc := by
  apply List.ext_getElem?
  intro j
  by_cases hj : j < F.size
  · rw [List.getElem?_take_of_lt hj, Array.getElem?_toList]
    simp [Go.Sort.putCells, hj, show j < cur.size by omega]
  · rw [List.getElem?_take_eq_none (by omega), List.getElem?_eq_none (by simp; omega)]
theorem holdsE {w : World} {g : Nat} {cur : Array Value} {e : TypeId} {F : Array Vq} (hb : w.heap[g]? = some (.cells cur e (0, 0))) (ht : cur.toList.take F.size = F.toList.map encR) : Go.Sort.Holds encR w g 0 F := by
  intro j hj
  refine ⟨?_, by simp [World.frozen?, hb]⟩
  have h1 : (cur.toList.take F.size)[j]? = (F.toList.map encR)[j]? := by rw [ht]
  rw [List.getElem?_take_of_lt hj] at h1
  simp only [World.cell?, hb, Nat.zero_add]
  simp only [Option.isSome_none, Bool.false_eq_true, if_false]
  rw [← Array.getElem?_toList, h1, getElem!_pos F j hj]
  simp [hj]
theorem liftR : ∀ l : List Rat, (∀ x ∈ l, M.Bq 30 x) → ∃ d : List Vq, d.map (·.1) = l
  | [], _ => ⟨[], rfl⟩
  | x :: t, h => by
    obtain ⟨d, hd⟩ := liftR t (fun y hy => h y (by simp [hy]))
    exact ⟨(⟨x, h x (by simp)⟩ : Vq) :: d, congrArg (List.cons x) hd⟩
theorem below_of_grown {B g : Nat} {w w' : World} (h : w.grownBy w' (some g)) (hB : B ≤ w.heap.size) (hg : B ≤ g) : Below B w w' :=
  (Below.refl B w).grown h hB (fun k hk => by injection hk with hk; omega)
/-- The sorted list in the same row. -/
theorem sortR_ok (zs : List Rat) (hz : ∀ q ∈ zs, M.Bq 30 q) (B g cap S C : Nat) (w : World) (h : OwnS w B (.slice (some ⟨g, 0, none⟩) zs.length cap) (zs.map M.R)) (hBw : B ≤ w.heap.size)
    (hS : NoErI w S) (hSB : S < B) (hC : w.cell? ⟨C, 0, none⟩ = some (.pointer (some ⟨S, 0, none⟩))) (hCB : C < B) (hgl : ∀ W, Below B w W → Glob W) (hl : zs.length ≤ 4096) :
    Calls Tryz.prog 97 #[.slice (some ⟨g, 0, none⟩) zs.length cap, .func (.func 98) #[] #[.pointer (some ⟨C, 0, none⟩)]] w
      (fun e w' => e = .returned (.tuple #[]) ∧ ∃ zs' : List Rat, zs'.Perm zs ∧ zs'.Pairwise (fun a b => ¬ b < a) ∧ OwnS w' B (.slice (some ⟨g, 0, none⟩) zs.length cap) (zs'.map M.R) ∧ w.grownBy w' (some g)) := by
  obtain ⟨d, hd⟩ : ∃ d : Array Vq, d.toList.map (·.1) = zs := by
    obtain ⟨d, hd⟩ := liftR zs hz
    exact ⟨d.toArray, hd⟩
  have hdl : d.size = zs.length := by rw [← hd]; simp
  obtain ⟨h1, h2⟩ := h
  rcases h2 with ⟨e, _⟩ | ⟨g', cap', cur, e, hB, hh, hc, hm, hs, ht⟩
  · cases e
  · injection e with e1 e2 e3
    injection e1 with e1
    injection e1 with e1
    subst e1 e3
    rw [List.length_map, Nat.mul_one] at ht
    rw [Nat.mul_one] at hs
    have hflat : Strs (zs.map M.R) = d.toList.map encR := by
      rw [← hd]; simp [Strs, encR]
    have hH : Go.Sort.Holds encR w g 0 d := holdsE hh (by rw [hdl, ht, hflat])
    have hgl2 : g < w.heap.size := (Array.getElem?_eq_some_iff.1 hh).1
    have hcmp : Go.Proofs.CmpLays1 Tryz.prog 98 #[.pointer (some ⟨C, 0, none⟩)] encR cfR g 0 d.size w := by
      intro m os dk hs2 x y
      have hgr : w.grownBy (Go.Proofs.sortWorld encR w g 0 m dk os) (some g) := grownE dk
      have hbW := below_of_grown hgr hBw hB
      have hcl := W.sclos_ok S C x.1 y.1 (Go.Proofs.sortWorld encR w g 0 m dk os) (hgl _ hbW) (Row.below hS hbW hSB) ((hbW.cell (p := ⟨C, 0, none⟩) hCB).trans hC) x.2 y.2
      refine (Calls.drawn hcl).mono ?_
      rintro e w' ⟨⟨rfl, hb⟩, hdr⟩
      exact ⟨rfl, grown_of_below hb (hdr ⟨_, rfl⟩)⟩
    have hcon := Go.Proofs.Any.slices_SortFunc Tryz.sortR encR (fun _ => rfl) cfR swoR 98 #[.pointer (some ⟨C, 0, none⟩)] g 0 cap d w ent_srt hcmp hH hgl2 (by omega)
    change Calls Tryz.prog 97 _ _ _ at hcon
    rw [hdl] at hcon
    refine hcon.mono ?_
    rintro e w' ⟨rfl, d', n, os, hp, hso, rfl⟩
    have hdl' : d'.size = zs.length := by rw [hp.1, hdl]
    have hperm : d'.toList.Perm d.toList := by
      have := hp.2.2
      rw [← hdl] at this
      simpa [Array.extract_eq_self_of_le, hp.1] using this
    have hlen : ((d'.toList.map (·.1)).map M.R).length = zs.length := by simp [hdl']
    refine ⟨rfl, d'.toList.map (·.1), by rw [← hd]; exact hperm.map _, ?_, ⟨by simp [Strs], Or.inr ⟨g, cap, Go.Sort.putCells encR 0 d' cur, by rw [hlen], hB, heapE _ hh, by rw [hlen]; rw [List.length_map] at hc; exact hc, hm, by simp [Go.Sort.putCells, hs], ?_⟩⟩, grownE _⟩
    · rw [List.pairwise_iff_getElem]
      intro i j hi hj hij
      simp only [List.length_map, Array.length_toList] at hi hj
      have := hso i j (Nat.zero_le _) hij (by omega)
      rw [ltR, getElem!_pos d' j hj, getElem!_pos d' i hi] at this
      have h3 := of_decide_eq_false this
      simpa using h3
    · rw [hlen, Nat.mul_one, ← hdl']
      have hcs : d'.size ≤ cur.size := by rw [hs, hdl']; rw [List.length_map] at hc; exact hc
      rw [takeE cur d' hcs]
      simp [Strs, encR]
end Go.Proofs.YtpjaoapnangccaaGreatDoor
