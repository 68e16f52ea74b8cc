/-
  Chapter 46: what is found is accepted, or refuses: contracts of 'Accepts' and 'Refuses' for proofs that hold; 'right' of the laws.
-/
import Derived.Test.YtfcffheboncmbaaGreatDoorKX
import Derived.Test.YtfcffheboncmbaaGreatDoorKH
section
namespace Go.Proofs.YtfcffheboncmbaaGreatDoor
open Go Go.RowKit Go.Deep
namespace M
theorem wire_right {n : Nat} {l : List BQ} (hr : RightB n l) (hn : n ≤ 8) (hl : l.length ≤ 64) : Wire (bx l) := by
  refine ⟨by rw [bx_len]; unfold maxLen; omega, fun _ b hb => ?_⟩
  obtain ⟨x, hx, rfl⟩ := List.mem_map.1 hb
  obtain ⟨h1, h2, h3⟩ := hr x hx
  refine ⟨by rw [rx_len]; omega, fun q hq => ?_, ?_⟩
  · obtain ⟨y, hy, rfl⟩ := List.mem_map.1 hq
    have := (h2 y hy).R_len (by decide)
    omega
  · have := h3.R_len (by decide)
    show (R x.2).length ≤ 90000
    omega
theorem keeps_all {n : Nat} {l : List BQ} {p : List Rat} (hr : RightB n l) (h : Sx.Keeps n l p) : (l.all fun b => keepsB b p) = true := by
  rw [List.all_eq_true]
  intro b hb
  unfold keepsB valQ
  rw [(hr b hb).1]
  exact decide_eq_true (h.2 b hb)
theorem contra_rf {n : Nat} {l : List BQ} {p : List Rat} (h : Sx.Contra n l p) : rfV l p n = 0 := by
  unfold rfV
  rw [if_pos]
  refine ⟨?_, isZ_all h.2.2.1, h.2.2.2⟩
  unfold wok
  rw [List.all_eq_true]
  exact fun x hx => decide_eq_true (h.2.1 x (List.mem_of_mem_take hx))
end M
namespace W
open M
attribute [local go_sem] bs_size bs_toList bs_get bs_extract bs_append bs_lit0 bs_lit1 lit1_bs
set_option maxHeartbeats 2000000
set_option maxRecDepth 20000
theorem pacc_fz (vt vc : Value) (ts : List Tg) (cs : List Cc) (x y z : Rat) (w : World) (hg : Glob w) (hs : Sig w) (ht : RdG w vt ts) (hc : RdC w vc cs) (h : chk46 ts cs = 0) (h5 : ts.length ≤ 5) (hq : ∀ q ∈ [x, y, z], Bq 30 q) (hf : Sx.Fz (ts.zip cs) x y z 0) :
    Calls Tryz.prog 42 #[vt, vc, .agg #[.string (bs (R x)), .string (bs (R y)), .string (bs (R z))]] w (Ret w (.tuple #[.bool true, .int .i64 0])) := by
  obtain ⟨h1, h2, h3⟩ := bnds_few h h5
  have hlen := (chk46_iff.1 h).2.2.1
  refine paccepts_gen vt vc _ _ _ _ _ w hg hs ht hc (by unfold maxLen; omega) (by unfold maxLen; omega) h 0 0 true pshown_ok fun v vp W hW hv hp => ?_
  have hh := pverify_ok 3 v vp _ [x, y, z] W hW hv (wire_right h1.right (by decide) (by omega)) (chk5_ok (n := 3) (by decide) (by decide) (by omega) h1.right) hp (by decide) h1.right rfl hq (chk_rx30 hq) (by omega)
  rw [if_pos (keeps_all h1.right (Sx.keeps3_iff.2 hf))] at hh
  exact hh
theorem pref_contra (vt vc vp : Value) (ts : List Tg) (cs : List Cc) (q : List Rat) (w : World) (hg : Glob w) (hs : Sig w) (ht : RdG w vt ts) (hc : RdC w vc cs) (h : chk46 ts cs = 0) (h5 : ts.length ≤ 5) (hq : ∀ x ∈ q, Bq 30 x) (hf : Sx.Contra 3 (bnds (ts.zip cs)) q) (hp : RdT w vp (rx q)) :
    Calls Tryz.prog 43 #[vt, vc, vp] w (Ret w (.tuple #[.bool true, .int .i64 0])) := by
  obtain ⟨h1, h2, h3⟩ := bnds_few h h5
  have hlen := (chk46_iff.1 h).2.2.1
  refine prefuses_gen vt vc vp _ _ (rx q) w hg hs ht hc hp (by unfold maxLen; omega) (by unfold maxLen; omega) h 0 0 true pshown_ok fun v W hW hv hp => ?_
  have hh := prefute_ok 3 v vp _ q W hW hv (wire_right h1.right (by decide) (by omega)) (chk5_ok (n := 3) (by decide) (by decide) (by omega) h1.right) hp (by decide) (by decide) h1.right hf.1 hq (by omega)
  rw [contra_rf hf] at hh
  exact hh
theorem lright46 (vt vc : Value) (ts : List Tg) (cs : List Cc) (w : World) (ht : RdG w vt ts) (hc : RdC w vc cs) (nt : ts.length ≤ maxLen) (nc : cs.length ≤ maxLen) :
    Calls Tryz.prog 25 #[vt, vc] w (Ret w (.bool (decide (ts.length ≤ 5) && decide (chk46 ts cs = 0)))) := by
  have HC := Lib.hid (rcheck46 vt vc ts cs w ht hc nt nc)
  obtain ⟨At, ct, rfl⟩ := ht.len
  obtain ⟨Ac, cc, rfl⟩ := hc.len
  have hz : (((chk46 ts cs : Nat) : Int) == 0) = decide (chk46 ts cs = 0) := by rw [Bool.eq_iff_iff, beq_iff_eq, decide_eq_true_eq]; omega
  by_cases h5 : ts.length ≤ 5
  · have h5' : (ts.length : Int) ≤ 5 := by omega
    rw [show decide (ts.length ≤ 5) = true by simp [h5], Bool.true_and]
    rw [← hz]
    clear ht hc nt nc h5 hz
    generalize ((chk46 ts cs : Nat) : Int) = k at *
    go_enter Tryz.func25, Tryz.ntmps25
    go_wp2_with fail
    refine (HC.out).mono ?_
    rintro e w1 ⟨rfl, hb1⟩
    go_wp2
    go_ret
    exact Ret.of rfl hb1
  · have h5' : ¬ (ts.length : Int) ≤ 5 := by omega
    rw [show decide (ts.length ≤ 5) = false by simp [h5], Bool.false_and]
    clear ht hc nt nc h5 hz HC
    go_enter Tryz.func25, Tryz.ntmps25
    go_wp2
    go_ret
    exact Ret.of rfl (Below.refl _ _)
end W
end Go.Proofs.YtfcffheboncmbaaGreatDoor
end
