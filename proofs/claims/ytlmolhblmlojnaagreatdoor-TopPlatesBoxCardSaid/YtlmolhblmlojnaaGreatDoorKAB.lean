/-
  Chapter 46: 'Shift' of the program.
  Chapter 46: 'Accepts' and 'Refuses' of the program.
  Chapter 46: the examples of the chapter, plain and walked.
  Chapter 46: what the examples answer.
  Chapter 46: the examples of the chapter hold.
  Chapter 46: 'awake' of the laws.
  Chapter 46: what is found is accepted, or refuses: contracts of 'Accepts' and 'Refuses' for proofs that hold; 'right' of the laws.
  Chapter 46: plain lists of the laws: greater tolerances, the order, places moved and exchanged.
-/
import Derived.Test.YtlmolhblmlojnaaGreatDoorKAA
import Derived.Test.YtlmolhblmlojnaaGreatDoorKH
import Derived.Test.YtlmolhblmlojnaaGreatDoorKRE
section
namespace Go.Proofs.YtlmolhblmlojnaaGreatDoor
open Go Go.RowKit Go.Deep
namespace M
def shV (pl : Pl) : Value := if shOk pl = true then .tuple #[.bool true, .agg #[.string (bs (R (shX pl))), .string (bs (R (shY pl)))], .int .i64 0] else .tuple #[.bool false, .agg #[.string (bs []), .string (bs [])], .int .i64 0]
theorem endZ_fun : endZ 0 = highX ∧ endZ 1 = lowX ∧ endZ 2 = highY ∧ endZ 3 = lowY := ⟨rfl, rfl, rfl, rfl⟩
theorem all_map {α : Type _} (l : List α) (f : α → Int) (z : Int) : ((l.map f).all fun x => decide (z ≤ x)) = l.all fun p => decide (z ≤ f p) := by
  rw [List.all_map]; rfl
theorem shV_cases (pl : Pl) : ∃ sx a sy b, leastV (pl.map (endZ 1)) (pl.map (endZ 0)) = .tuple #[.string (bs sx), .bool a] ∧ leastV (pl.map (endZ 3)) (pl.map (endZ 2)) = .tuple #[.string (bs sy), .bool b] ∧
    shV pl = if (a && b) = true then .tuple #[.bool true, .agg #[.string (bs sx), .string (bs sy)], .int .i64 0] else .tuple #[.bool false, .agg #[.string (bs []), .string (bs [])], .int .i64 0] := by
  obtain ⟨e0, e1, e2, e3⟩ := endZ_fun
  rw [e0, e1, e2, e3]
  unfold leastV shV shOk shX shY
  rw [all_map, all_map]
  by_cases h1 : (pl.all fun p => decide (mxZ (pl.map lowX) ≤ highX p)) = true
  · rw [if_pos h1, h1]
    by_cases h2 : (pl.all fun p => decide (mxZ (pl.map lowY) ≤ highY p)) = true
    · rw [if_pos h2, h2]
      exact ⟨_, _, _, _, rfl, rfl, rfl⟩
    · rw [if_neg h2, Bool.eq_false_iff.2 h2]
      exact ⟨_, _, _, _, rfl, rfl, rfl⟩
  · rw [if_neg h1, Bool.eq_false_iff.2 h1]
    by_cases h2 : (pl.all fun p => decide (mxZ (pl.map lowY) ≤ highY p)) = true
    · rw [if_pos h2, h2]
      exact ⟨_, _, _, _, rfl, rfl, rfl⟩
    · rw [if_neg h2, Bool.eq_false_iff.2 h2]
      exact ⟨_, _, _, _, rfl, rfl, rfl⟩
end M
theorem row_ne {w : World} {a b : Nat} {t t' : TypeId} {xs ys : List Value} (h : Row w a t xs) (h2 : Row w b t' ys) (ht : t ≠ t') : a ≠ b := fun e => by
  unfold Row at h h2
  rw [e, h2] at h
  injection h with h
  injection h with _ h _
  exact ht h.symm
theorem eL_len (pl : M.Pl) (i : Nat) (p : M.Tg × M.Cc) (j k : Nat) : (M.eL pl i p j k).length ≤ pl.length + 1 := by
  unfold M.eL
  rw [List.length_append, M.hts_len, List.length_map, List.length_take]
  have : (if k < j then [M.R (M.hv (M.endZ k p))] else []).length ≤ 1 := by split <;> simp
  omega
theorem esput {w0 w w' : World} {v : Nat → Value} {pl : M.Pl} {i j g : Nat} {p : M.Tg × M.Cc} {v' : Value} {xs : List Value} (h : ES w0 w v (M.eL pl i p j)) (hk : j < 4) (hr : Row w g 107 xs) (ho : OwnS w' (w0.heap.size + 1) v' (M.eL pl i p j j ++ [M.R (M.hv (M.endZ j p))]))
    (hg : w.grownBy w' (v j).ownBlock) (hd : v'.ownBlock = (v j).ownBlock ∨ v'.ownBlock = some w.heap.size) :
    ES w0 (w'.setCell ⟨w0.heap.size, j, none⟩ v') (fun k => if k = j then v' else v k) (M.eL pl i p (j + 1)) ∧ Row (w'.setCell ⟨w0.heap.size, j, none⟩ v') g 107 xs :=
  ⟨(h.put hk ho hg hd).cast fun k _ => M.eL_succ pl i p j k, row_other (row_grownT hr (h.own j hk) hg) (row_ne hr h.row (by decide)) v'⟩
theorem esfree {w0 w w' : World} {v : Nat → Value} {l : Nat → List (List UInt8)} {j : Nat} (h : ES w0 w v l) (hk : j < 4) (hg : w.grownBy w' (v j).ownBlock) : w'.frozen? ⟨w0.heap.size, j, none⟩ = false := (h.grown_row hk hg).free j
theorem escell {w0 w w' : World} {v : Nat → Value} {l : Nat → List (List UInt8)} {j : Nat} (h : ES w0 w v l) (hk : j < 4) (hg : w.grownBy w' (v j).ownBlock) : w'.cell? ⟨w0.heap.size, j, none⟩ = some (v j) := by
  have hr := h.grown_row hk hg
  match j, hk with
  | 0, _ => exact hr.cell (i := 0) rfl
  | 1, _ => exact hr.cell (i := 1) rfl
  | 2, _ => exact hr.cell (i := 2) rfl
  | 3, _ => exact hr.cell (i := 3) rfl
theorem pl_store {w0 w : World} {A : Nat} {x0 y0 : Value} (x y : Value) (hr : Row w A 28 [x0, y0]) (hA : w0.heap.size ≤ A) (hb : Below w0.heap.size w0 w) :
    Row ((w.setCell ⟨A, 0, none⟩ x).setCell ⟨A, 1, none⟩ y) A 28 [x, y] ∧ Below w0.heap.size w0 ((w.setCell ⟨A, 0, none⟩ x).setCell ⟨A, 1, none⟩ y) :=
  ⟨(hr.set 0 x).set 1 y, (hb.setCell (p := ⟨A, 0, none⟩) hA x).setCell (p := ⟨A, 1, none⟩) hA y⟩
namespace W
open M
attribute [local go_sem] bs_size bs_toList bs_get bs_extract bs_append bs_lit0 bs_lit1 lit1_bs
set_option maxHeartbeats 2000000
set_option maxRecDepth 20000
theorem pshift_ok (vt vc : Value) (ts : List Tg) (cs : List Cc) (w : World) (hg : Glob w) (hs : Sig w) (ht : RdG w vt ts) (hc : RdC w vc cs) (h : chk46 ts cs = 0) :
    Calls Tryz.prog 11 #[vt, vc] w (Ret w (shV (ts.zip cs))) := by
  obtain ⟨h1, h16, hlen, hrt⟩ := chk46_iff.1 h
  have hzl : (ts.zip cs).length = cs.length := by rw [List.length_zip]; omega
  have nt : ts.length ≤ maxLen := by unfold maxLen; omega
  have nc : cs.length ≤ maxLen := by unfold maxLen; omega
  have hb : ∀ (k : Nat) (hk : k < (ts.zip cs).length) (va : Value) (W : World) (_ : Below w.heap.size w W) (_ : RdI W va (zoneNs ts cs)), Calls Tryz.prog 35 #[.agg #[va, vt, vc], .int .i64 (k : Int)] W (fun e w' => ∃ v, e = .returned v ∧ IsBs (bx (bnd4 (ts.zip cs)[k].1 (ts.zip cs)[k].2)) w' v ∧ Below W.heap.size W w') := fun k hk va W hW ha => by
    have hk3 : k < cs.length := by omega
    have hk1 : k < (zoneNs ts cs).length := by rw [zoneNs_len hlen]; omega
    have hk2 : k < ts.length := by omega
    have e2 : (ts.zip cs)[k] = (ts[k], cs[k]) := by simp
    have hr := hrt (ts[k], cs[k]) (by rw [← e2]; exact List.getElem_mem hk)
    have hw := hr.wide
    have e : (zoneNs ts cs)[k] = wide ts[k] cs[k] := by simp [zoneNs]
    have h := pbounds va vt vc (zoneNs ts cs) ts cs k W (hg.of hW) ha (ht.below hW) (hc.below hW) hk1 hk2 hk3 (by rw [e]; simp only at hw; omega) hr.1 hr.2.1
    rw [e, bnd4_bx] at h
    rw [e2]
    exact h
  have HB := Lib.hid hb
  have HED := Lib.hid (fun i (hi : i < (ts.zip cs).length) => end_bd (hrt _ (List.getElem_mem hi)))
  have HNG := Lib.hid (fun (z : Int) W (hW : Below w.heap.size w W) (hz : z.natAbs < 10 ^ 8) => ratNeg (hv z) 8 W (hg.of hW) (hv_bq hz) (by decide))
  have HLE := Lib.hid (fun vl vh (a b : Nat) W (hW : Below w.heap.size w W) (hl : RdT W vl (hts ((ts.zip cs).map (endZ a)))) (hh : RdT W vh (hts ((ts.zip cs).map (endZ b)))) => pleast vl vh _ _ W (hg.of hW) hl hh (by rw [List.length_map]; omega) (by rw [List.length_map]; omega) (by rw [List.length_map]; omega)
    (fun z hz => by obtain ⟨p, hp, rfl⟩ := List.mem_map.1 hz; exact (end_bd (hrt p hp) a).2) (fun z hz => by obtain ⟨p, hp, rfl⟩ := List.mem_map.1 hz; exact (end_bd (hrt p hp) b).2))
  have hb0 := bel_al w (.cells #[.string ⟨#[]⟩, .string ⟨#[]⟩] 28 (0, 0))
  have hr0 : Row (w.alloc (.cells #[.string ⟨#[]⟩, .string ⟨#[]⟩] 28 (0, 0))) w.heap.size 28 [.string ⟨#[]⟩, .string ⟨#[]⟩] := rnw
  have HR0 := Lib.hid (And.intro hr0 hb0)
  obtain ⟨At, ct, rfl⟩ := ht.len
  obtain ⟨Ac, cc, rfl⟩ := hc.len
  have HP := Lib.hid (pplate_ok _ _ ts cs _ (hs.below hb0) (ht.below hb0) (hc.below hb0) nt nc h)
  obtain ⟨sx, ba, sy, bb, hlx, hly, hsv⟩ := shV_cases (ts.zip cs)
  have HLX := Lib.hid hlx
  have HLY := Lib.hid hly
  have HSV := Lib.hid hsv
  generalize shV (ts.zip cs) = res at *
  have HZL := Lib.hid hzl
  have H16 : Hid (cs.length ≤ 16) := Lib.hid (by omega)
  clear h hs ht hc nt nc hg hr0 hb0 hrt hb h1 hlx hly hsv h16 hlen hzl
  generalize ts.zip cs = pl at *
  go_enter Tryz.func11, Tryz.ntmps11
  go_wp2_with fail
  refine HP.out.mono ?_
  rintro e w1 ⟨va, rfl, hv, hb1⟩
  have hb2 := bel_to hb1 (bel_al w1 (.cells #[va, .slice At ts.length ct, .slice Ac cs.length cc] 100 (0, 0)))
  have hrp : Row (w1.alloc (.cells #[va, .slice At ts.length ct, .slice Ac cs.length cc] 100 (0, 0))) w1.heap.size 100 [va, .slice At ts.length ct, .slice Ac cs.length cc] := rnw
  have HR1 := Lib.hid (And.intro (HR0.out.1.below' hb2) (And.intro (bel_to HR0.out.2 hb2) (And.intro hrp (hv.below (bel_al w1 (.cells #[va, .slice At ts.length ct, .slice Ac cs.length cc] 100 (0, 0)))))))
  obtain ⟨Av, cv, rfl⟩ := hv.len
  generalize (zoneNs ts cs).length = nz at *
  clear hv hb1 hb2 HP HR0 hrp
  have p2 := ((HR1.out.2.2.1).below' (bel_al _ (.cells #[.slice none 0 0, .slice none 0 0, .slice none 0 0, .slice none 0 0] 103 (0, 0)))).cell (i := 2) rfl
  have hw0 : (w1.alloc (.cells #[.slice Av nz cv, .slice At ts.length ct, .slice Ac cs.length cc] 100 (0, 0))).heap.size = w1.heap.size + 1 := World.size_alloc _ _
  have HW0 := Lib.hid hw0
  clear hw0
  go_wp2_with fail
  generalize w1.alloc (.cells #[.slice Av nz cv, .slice At ts.length ct, .slice Ac cs.length cc] 100 (0, 0)) = W0 at *
  generalize w1.heap.size = bp at *
  rw [← HW0.out]
  clear HW0
  have HE0 := Lib.hid (ES.new W0)
  clear p2
  go_loopw [31] (fun iv wr => ∃ (i : Nat) (v : Nat → Value), iv = .int .i64 (i : Int) ∧ i ≤ cs.length ∧ Hid (ES W0 wr v (fun k => hts ((pl.take i).map (endZ k))))) (fun iv _ => cs.length - (intOf iv).toNat)
  case atStart => exact ⟨0, _, rfl, by omega, Lib.hid (HE0.out.cast fun k _ => rfl)⟩
  case round =>
    clear HE0
    obtain ⟨i, v, rfl, hi, hin⟩ := hrel
    by_cases hlt : i < cs.length
    · have hil : i < pl.length := by rw [HZL.out]; exact hlt
      have hrp := HR1.out.2.2.1.below' hin.out.bel
      have p0 := hrp.cell (i := 0) rfl
      have p1 := hrp.cell (i := 1) rfl
      have p2 := hrp.cell (i := 2) rfl
      have HBI := Lib.hid (HB.out i hil _ _ (bel_to HR1.out.2.1 hin.out.bel) (HR1.out.2.2.2.below hin.out.bel))
      have HEP := Lib.hid (HED.out i hil)
      have HL4 := Lib.hid (fun k (hk : k < 4) => eL_four pl i hil k hk)
      have HM4 := Lib.hid (fun k (hk : k < 4) => bnd4_most (pl[i]'hil) k hk)
      have HIN := Lib.hid (hin.out.cast (l' := eL pl i pl[i] 0) fun k _ => (eL_zero pl i pl[i] k).symm)
      clear hrp hin
      generalize pl[i] = p at *
      go_wp2_with fail
      refine HBI.out.mono ?_
      rintro e w5 ⟨vb, rfl, hbs, hb5⟩
      obtain ⟨es, he, hgt, g, rfl, hrow⟩ := hbs
      have hel : es.length = 4 := by
        have := congrArg List.length he
        rw [bnd4_len, List.length_map] at this
        exact this.symm
      have HIN5 : Hid (ES W0 w5 v (eL pl i p 0) ∧ Row w5 g 107 (bcs es)) := Lib.hid ⟨HIN.out.to hb5, hrow⟩
      have HBS := Lib.hid (fun j (hj : j < 4) => (by
        have hj2 : j < es.length := by rw [hel]; exact hj
        obtain ⟨B, h1⟩ := hgt _ (List.getElem_mem hj2)
        obtain ⟨A, n, c, h2⟩ := OwnS.shape h1
        refine ⟨A, n, c, ?_, ?_⟩
        · rw [(bcs_get es j hj2).1, h2]
        · rw [(bcs_get es j hj2).2]
          have h3 := HM4.out j hj (by rw [bnd4_len]; exact hj)
          have h4 : (bx (bnd4 p.1 p.2))[j]'(by rw [bnd4_len]; exact hj) = es[j].2 := by simp [he]
          rw [h4] at h3
          rw [h3] : ∃ A n c, (bcs es)[j * 2]? = some (.slice A n c) ∧ (bcs es)[j * 2 + 1]? = some (.string (bs (R (hv (mst p j)))))))
      rw [hel]
      clear hb5 hrow hgt he HIN HBI HM4 hel p0 p1 p2
      go_wp2_with fail
      go_loopw [38] (fun jv wr2 => ∃ (j : Nat) (v : Nat → Value), jv = .int .i64 (j : Int) ∧ j ≤ 4 ∧ Hid (ES W0 wr2 v (eL pl i p j) ∧ Row wr2 g 107 (bcs es))) (fun jv _ => 4 - (intOf jv).toNat)
      case atStart => exact ⟨0, v, rfl, by omega, HIN5⟩
      case round =>
        clear HIN5
        obtain ⟨j, v2, rfl, hj, hin⟩ := hrel
        by_cases hj4 : j < 4
        · obtain ⟨A, n, c, hc0, hc1⟩ := HBS.out j hj4
          have c0 := hin.out.2.cell hc0
          have c1 := hin.out.2.cell hc1
          have hj0 : (0 : Int) ≤ (j : Int) := by omega
          have hj1 : (j : Int) < 4 := by omega
          clear hc0 hc1
          have HIX : Hid (ES W0 (wr.alloc (.cells #[.slice A n c, .string (bs (R (hv (mst p j))))] 107 (0, 0))) v2 (eL pl i p j) ∧ Row (wr.alloc (.cells #[.slice A n c, .string (bs (R (hv (mst p j))))] 107 (0, 0))) g 107 (bcs es)) :=
            Lib.hid ⟨hin.out.1.to (bel_al _ _), hin.out.2.below' (bel_al _ _)⟩
          clear hin
          have HLN : Hid ((eL pl i p j j).length + 1 ≤ 1000000000) := Lib.hid (by
            have := eL_len pl i p j j
            have := H16.out
            have := HZL.out
            omega)
          by_cases hodd : j % 2 = 1
          · have hmod : Int.tmod (j : Int) 2 = 1 := by rw [Int.tmod_eq_emod_of_nonneg hj0]; omega
            have hme := mst_end p j hj4
            rw [if_pos hodd] at hme
            have hng := HNG.out (mst p j) _ (bel_to HR1.out.2.1 HIX.out.1.bel) (HEP.out j).1
            rw [hv_neg, hme] at hng
            have HN1 := Lib.hid hng
            clear hng hme hodd
            go_wp2_with fail
            refine HN1.out.mono ?_
            rintro e w6 ⟨rfl, hb6⟩
            have HI6 : Hid (ES W0 w6 v2 (eL pl i p j) ∧ Row w6 g 107 (bcs es)) := Lib.hid ⟨HIX.out.1.to hb6, HIX.out.2.below' hb6⟩
            clear hb6 HIX HN1 c0 c1 hmod
            have HI7 : Hid (ES W0 (w6.alloc (.cells #[.string (bs (R (hv (endZ j p))))] 26 (0, 0))) v2 (eL pl i p j) ∧ Row (w6.alloc (.cells #[.string (bs (R (hv (endZ j p))))] 26 (0, 0))) g 107 (bcs es)) := Lib.hid ⟨HI6.out.1.to (bel_al _ _), HI6.out.2.below' (bel_al _ _)⟩
            have c3 := HI6.out.1.cell hj4
            have HNC := Lib.hid ((rnw (w := w6) (t := 26) (xs := [.string (bs (R (hv (endZ j p))))])).cell (i := 0) rfl)
            clear HI6
            go_wp2_with (at_builtin; refine wpList_app_at rfl (.tmp 56) (.tmp 58) rfl rfl rfl (HI7.out.1.own j hj4) rfl HNC.out (Nat.le_trans HI7.out.1.size (Nat.le_refl _)) HLN.out ?_; intro v9 w9 ho9 hk9 hd9; obtain ⟨A9, n9, c9, rfl⟩ := OwnS.shape ho9; have HPU := Lib.hid (esput HI7.out.1 hj4 HI7.out.2 ho9 hk9 hd9); have f9 := esfree HI7.out.1 hj4 hk9; have c9 := escell HI7.out.1 hj4 hk9; clear ho9 hk9 hd9)
            go_wp2
            go_roundw
            case rel => exact ⟨j + 1, _, by go_num, by omega, HPU⟩
            case measure => simp [intOf]; omega
          · have hmod : Int.tmod (j : Int) 2 = 0 := by rw [Int.tmod_eq_emod_of_nonneg hj0]; omega
            have hme := mst_end p j hj4
            rw [if_neg hodd] at hme
            rw [hme] at c1 HIX
            clear hme hodd
            have HI7 := Lib.hid (And.intro (HIX.out.1.to (bel_al _ (.cells #[.string (bs (R (hv (endZ j p))))] 26 (0, 0)))) (HIX.out.2.below' (bel_al _ (.cells #[.string (bs (R (hv (endZ j p))))] 26 (0, 0)))))
            have c3 := HIX.out.1.cell hj4
            have hnc := (rnw (w := wr.alloc (.cells #[.slice A n c, .string (bs (R (hv (endZ j p))))] 107 (0, 0))) (t := 26) (xs := [.string (bs (R (hv (endZ j p))))])).cell (i := 0) rfl
            rw [World.size_alloc] at hnc
            have HNC := Lib.hid hnc
            clear hnc
            clear HIX
            go_wp2_with (at_builtin; refine wpList_app_at rfl (.tmp 56) (.tmp 58) rfl rfl rfl (HI7.out.1.own j hj4) rfl HNC.out (Nat.le_trans HI7.out.1.size (Nat.le_refl _)) HLN.out ?_; intro v9 w9 ho9 hk9 hd9; obtain ⟨A9, n9, c9, rfl⟩ := OwnS.shape ho9; have HPU := Lib.hid (esput HI7.out.1 hj4 HI7.out.2 ho9 hk9 hd9); have f9 := esfree HI7.out.1 hj4 hk9; have c9 := escell HI7.out.1 hj4 hk9; clear ho9 hk9 hd9)
            go_wp2
            go_roundw
            case rel => exact ⟨j + 1, _, by go_num, by omega, HPU⟩
            case measure => simp [intOf]; omega
        · obtain rfl : j = 4 := by omega
          have HX := Lib.hid (hin.out.1.cast fun k hk => HL4.out k hk)
          have h16 := H16.out
          clear hin
          go_wp2
          go_roundw
          case rel => exact ⟨i + 1, v2, by go_num, by omega, HX⟩
          case measure => simp [intOf]; omega
    · obtain rfl : i = cs.length := by omega
      have hx := hin.out
      rw [show pl.take cs.length = pl by rw [← HZL.out, List.take_length]] at hx
      have HX := Lib.hid hx
      have c1 := hx.cell (k := 1) (by decide)
      have c0 := hx.cell (k := 0) (by decide)
      have hl := HLE.out (v 1) (v 0) 1 0 _ (bel_to HR1.out.2.1 hx.bel) (hx.own 1 (by decide)).rd (hx.own 0 (by decide)).rd
      rw [HLX.out] at hl
      have HL1 := Lib.hid hl
      clear hin hx hl HLX
      go_wp2_with fail
      refine HL1.out.mono ?_
      rintro e w6 ⟨rfl, hb6⟩
      have hx := HX.out.to hb6
      have HX6 := Lib.hid hx
      have c3 := hx.cell (k := 3) (by decide)
      have c2 := hx.cell (k := 2) (by decide)
      have hl := HLE.out (v 3) (v 2) 3 2 _ (bel_to HR1.out.2.1 hx.bel) (hx.own 3 (by decide)).rd (hx.own 2 (by decide)).rd
      rw [HLY.out] at hl
      have HL2 := Lib.hid hl
      clear hx hl HLY HL1 hb6 HX c0 c1
      go_wp2_with fail
      refine HL2.out.mono ?_
      rintro e w7 ⟨rfl, hb7⟩
      have hb := bel_to HX6.out.bel hb7
      have hrw := HR1.out.1.below' hb
      have hbw := bel_to HR1.out.2.1 hb
      have HR7 := Lib.hid (And.intro hrw hbw)
      clear hb hb7 HL2 HX6 c2 c3
      have f0 := hrw.free 0
      have d0 := hrw.cell (i := 0) rfl
      cases ba <;> cases bb
      · obtain rfl := HSV.out.trans (if_neg (by decide))
        have f1 := (hrw.set 0 (.string ⟨#[]⟩)).free 1
        have d1 := (hrw.set 0 (.string ⟨#[]⟩)).cell (i := 1) rfl
        have HQ := Lib.hid (pl_store (.string ⟨#[]⟩) (.string ⟨#[]⟩) hrw (Nat.le_refl _) hbw)
        clear hrw hbw HR7
        go_wp2
        have q0 := HQ.out.1.cell (i := 0) rfl
        have q1 := HQ.out.1.cell (i := 1) rfl
        refine bodyPost_ret (v := .tuple #[.bool false, .agg #[.string ⟨#[]⟩, .string ⟨#[]⟩], .int .i64 0]) (by simp [results, Tryz.results11, go_sem, q0, q1]) rfl ⟨rfl, HQ.out.2⟩
      · obtain rfl := HSV.out.trans (if_neg (by decide))
        have f1 := (hrw.set 0 (.string ⟨#[]⟩)).free 1
        have d1 := (hrw.set 0 (.string ⟨#[]⟩)).cell (i := 1) rfl
        have HQ := Lib.hid (pl_store (.string ⟨#[]⟩) (.string ⟨#[]⟩) hrw (Nat.le_refl _) hbw)
        clear hrw hbw HR7
        go_wp2
        have q0 := HQ.out.1.cell (i := 0) rfl
        have q1 := HQ.out.1.cell (i := 1) rfl
        refine bodyPost_ret (v := .tuple #[.bool false, .agg #[.string ⟨#[]⟩, .string ⟨#[]⟩], .int .i64 0]) (by simp [results, Tryz.results11, go_sem, q0, q1]) rfl ⟨rfl, HQ.out.2⟩
      · obtain rfl := HSV.out.trans (if_neg (by decide))
        have f1 := (hrw.set 0 (.string ⟨#[]⟩)).free 1
        have d1 := (hrw.set 0 (.string ⟨#[]⟩)).cell (i := 1) rfl
        have HQ := Lib.hid (pl_store (.string ⟨#[]⟩) (.string ⟨#[]⟩) hrw (Nat.le_refl _) hbw)
        clear hrw hbw HR7
        go_wp2
        have q0 := HQ.out.1.cell (i := 0) rfl
        have q1 := HQ.out.1.cell (i := 1) rfl
        refine bodyPost_ret (v := .tuple #[.bool false, .agg #[.string ⟨#[]⟩, .string ⟨#[]⟩], .int .i64 0]) (by simp [results, Tryz.results11, go_sem, q0, q1]) rfl ⟨rfl, HQ.out.2⟩
      · obtain rfl := HSV.out.trans (if_pos rfl)
        have f1 := (hrw.set 0 (.string (bs sx))).free 1
        have d1 := (hrw.set 0 (.string (bs sx))).cell (i := 1) rfl
        have HQ := Lib.hid (pl_store (.string (bs sx)) (.string (bs sy)) hrw (Nat.le_refl _) hbw)
        clear hrw hbw HR7
        go_wp2
        have q0 := HQ.out.1.cell (i := 0) rfl
        have q1 := HQ.out.1.cell (i := 1) rfl
        refine bodyPost_ret (v := .tuple #[.bool true, .agg #[.string (bs sx), .string (bs sy)], .int .i64 0]) (by simp [results, Tryz.results11, go_sem, q0, q1]) rfl ⟨rfl, HQ.out.2⟩
end W
end Go.Proofs.YtlmolhblmlojnaaGreatDoor
end
section
namespace Go.Proofs.YtlmolhblmlojnaaGreatDoor
open Go Go.RowKit Go.Deep
namespace W
open M
attribute [local go_sem] bs_size bs_toList bs_get bs_extract bs_append bs_lit0 bs_lit1 lit1_bs
set_option maxHeartbeats 2000000
set_option maxRecDepth 20000
end W
end Go.Proofs.YtlmolhblmlojnaaGreatDoor
end
section
namespace Go.Proofs.YtlmolhblmlojnaaGreatDoor
open Go Go.RowKit Go.Deep
namespace M
theorem exc_same {pl : Pl} {x y : Rat} (h : Sx.Exc pl x) (h2 : Sx.Exc pl y) : x = y := Rat.le_antisymm (Sx.exc_fewer h2 h fun _ h => h) (Sx.exc_fewer h h2 fun _ h => h)
theorem R_texts : R (-4) = [45, 52] ∧ R (-2) = [45, 50] ∧ R 2 = [50] ∧ R 0 = [48] ∧ R (-1 / 25) = [45, 49, 47, 50, 53] := by
  refine ⟨?_, ?_, ?_, ?_, ?_⟩ <;> kernel_rfl
end M
theorem rdG_row {w : World} {g n : Nat} {t : TypeId} {l : List M.Tg} (h : Row w g t (csG l)) (hn : n = l.length) : RdG w (.slice (some ⟨g, 0, none⟩) n n) l :=
  ⟨_, _, by rw [hn], Or.inr ⟨g, 0, rfl, SlG.of_row h⟩⟩
theorem rdC_row {w : World} {g n : Nat} {t : TypeId} {l : List M.Cc} (h : Row w g t (csC l)) (hn : n = l.length) : RdC w (.slice (some ⟨g, 0, none⟩) n n) l :=
  ⟨_, _, by rw [hn], Or.inr ⟨g, 0, rfl, SlC.of_row h⟩⟩
namespace W
open M
attribute [local go_sem] bs_size bs_toList bs_get bs_extract bs_append bs_lit0 bs_lit1 lit1_bs
set_option maxHeartbeats 2000000
set_option maxRecDepth 20000
end W
end Go.Proofs.YtlmolhblmlojnaaGreatDoor
end
section
namespace Go.Proofs.YtlmolhblmlojnaaGreatDoor
open Go Go.RowKit Go.Deep
namespace W
open M
end W
end Go.Proofs.YtlmolhblmlojnaaGreatDoor
end
section
namespace Go.Proofs.YtlmolhblmlojnaaGreatDoor
open Go Go.RowKit Go.Deep
namespace M
end M
namespace W
open M
attribute [local go_sem] bs_size bs_toList bs_get bs_extract bs_append bs_lit0 bs_lit1 lit1_bs
set_option maxHeartbeats 2000000
set_option maxRecDepth 20000
end W
end Go.Proofs.YtlmolhblmlojnaaGreatDoor
end
section
namespace Go.Proofs.YtlmolhblmlojnaaGreatDoor
open Go Go.RowKit Go.Deep
namespace W
open M
attribute [local go_sem] bs_size bs_toList bs_get bs_extract bs_append bs_lit0 bs_lit1 lit1_bs
set_option maxHeartbeats 4000000
set_option maxRecDepth 20000
end W
end Go.Proofs.YtlmolhblmlojnaaGreatDoor
end
section
namespace Go.Proofs.YtlmolhblmlojnaaGreatDoor
open Go Go.RowKit Go.Deep
namespace M
end M
namespace W
open M
attribute [local go_sem] bs_size bs_toList bs_get bs_extract bs_append bs_lit0 bs_lit1 lit1_bs
set_option maxHeartbeats 2000000
set_option maxRecDepth 20000
end W
end Go.Proofs.YtlmolhblmlojnaaGreatDoor
end
section
namespace Go.Proofs.YtlmolhblmlojnaaGreatDoor
namespace M
theorem zip_ne {ts : List Tg} {cs : List Cc} (h : chk46 ts cs = 0) : ts.zip cs ≠ [] := by
  obtain ⟨h1, h2, h3, h4⟩ := chk46_iff.1 h
  match ts, cs, h1, h3 with
  | t :: ts, c :: cs, _, _ => simp
end M
end Go.Proofs.YtlmolhblmlojnaaGreatDoor
end
