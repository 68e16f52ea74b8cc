/-
  Chapter 46: 'Shift' of the program.
  Chapter 46: 'Accepts' and 'Refuses' of the program.
  Chapter 46: the examples of the chapter, plain and walked.
  Chapter 46: what the examples answer.
  Chapter 46: the examples of the chapter hold.
  Chapter 46: 'awake' of the laws.
  Chapter 46: plain lists of the laws: greater tolerances, the order, places moved and exchanged.
-/
import Derived.Test.YtfcffheboncmbaaGreatDoorKZ
import Derived.Test.YtfcffheboncmbaaGreatDoorKY
section
namespace Go.Proofs.YtfcffheboncmbaaGreatDoor
open Go Go.RowKit Go.Deep
namespace M
def shV (pl : Pl) : Value := if shOk pl = true then .tuple #[.bool true, .agg #[.string (bs (R (shX pl))), .string (bs (R (shY pl)))], .int .i64 0] else .tuple #[.bool false, .agg #[.string (bs []), .string (bs [])], .int .i64 0]
theorem endZ_fun : endZ 0 = highX ∧ endZ 1 = lowX ∧ endZ 2 = highY ∧ endZ 3 = lowY := ⟨rfl, rfl, rfl, rfl⟩
theorem all_map {α : Type _} (l : List α) (f : α → Int) (z : Int) : ((l.map f).all fun x => decide (z ≤ x)) = l.all fun p => decide (z ≤ f p) := by
  rw [List.all_map]; rfl
theorem shV_cases (pl : Pl) : ∃ sx a sy b, leastV (pl.map (endZ 1)) (pl.map (endZ 0)) = .tuple #[.string (bs sx), .bool a] ∧ leastV (pl.map (endZ 3)) (pl.map (endZ 2)) = .tuple #[.string (bs sy), .bool b] ∧
    shV pl = if (a && b) = true then .tuple #[.bool true, .agg #[.string (bs sx), .string (bs sy)], .int .i64 0] else .tuple #[.bool false, .agg #[.string (bs []), .string (bs [])], .int .i64 0] := by
  obtain ⟨e0, e1, e2, e3⟩ := endZ_fun
  rw [e0, e1, e2, e3]
  unfold leastV shV shOk shX shY
  rw [all_map, all_map]
  by_cases h1 : (pl.all fun p => decide (mxZ (pl.map lowX) ≤ highX p)) = true
  · rw [if_pos h1, h1]
    by_cases h2 : (pl.all fun p => decide (mxZ (pl.map lowY) ≤ highY p)) = true
    · rw [if_pos h2, h2]
      exact ⟨_, _, _, _, rfl, rfl, rfl⟩
    · rw [if_neg h2, Bool.eq_false_iff.2 h2]
      exact ⟨_, _, _, _, rfl, rfl, rfl⟩
  · rw [if_neg h1, Bool.eq_false_iff.2 h1]
    by_cases h2 : (pl.all fun p => decide (mxZ (pl.map lowY) ≤ highY p)) = true
    · rw [if_pos h2, h2]
      exact ⟨_, _, _, _, rfl, rfl, rfl⟩
    · rw [if_neg h2, Bool.eq_false_iff.2 h2]
      exact ⟨_, _, _, _, rfl, rfl, rfl⟩
end M
theorem row_ne {w : World} {a b : Nat} {t t' : TypeId} {xs ys : List Value} (h : Row w a t xs) (h2 : Row w b t' ys) (ht : t ≠ t') : a ≠ b := fun e => by
  unfold Row at h h2
  rw [e, h2] at h
  injection h with h
  injection h with _ h _
  exact ht h.symm
theorem eL_len (pl : M.Pl) (i : Nat) (p : M.Tg × M.Cc) (j k : Nat) : (M.eL pl i p j k).length ≤ pl.length + 1 := by
  unfold M.eL
  rw [List.length_append, M.hts_len, List.length_map, List.length_take]
  have : (if k < j then [M.R (M.hv (M.endZ k p))] else []).length ≤ 1 := by split <;> simp
  omega
theorem esput {w0 w w' : World} {v : Nat → Value} {pl : M.Pl} {i j g : Nat} {p : M.Tg × M.Cc} {v' : Value} {xs : List Value} (h : ES w0 w v (M.eL pl i p j)) (hk : j < 4) (hr : Row w g 79 xs) (ho : OwnS w' (w0.heap.size + 1) v' (M.eL pl i p j j ++ [M.R (M.hv (M.endZ j p))]))
    (hg : w.grownBy w' (v j).ownBlock) (hd : v'.ownBlock = (v j).ownBlock ∨ v'.ownBlock = some w.heap.size) :
    ES w0 (w'.setCell ⟨w0.heap.size, j, none⟩ v') (fun k => if k = j then v' else v k) (M.eL pl i p (j + 1)) ∧ Row (w'.setCell ⟨w0.heap.size, j, none⟩ v') g 79 xs :=
  ⟨(h.put hk ho hg hd).cast fun k _ => M.eL_succ pl i p j k, row_other (row_grownT hr (h.own j hk) hg) (row_ne hr h.row (by decide)) v'⟩
theorem esfree {w0 w w' : World} {v : Nat → Value} {l : Nat → List (List UInt8)} {j : Nat} (h : ES w0 w v l) (hk : j < 4) (hg : w.grownBy w' (v j).ownBlock) : w'.frozen? ⟨w0.heap.size, j, none⟩ = false := (h.grown_row hk hg).free j
theorem escell {w0 w w' : World} {v : Nat → Value} {l : Nat → List (List UInt8)} {j : Nat} (h : ES w0 w v l) (hk : j < 4) (hg : w.grownBy w' (v j).ownBlock) : w'.cell? ⟨w0.heap.size, j, none⟩ = some (v j) := by
  have hr := h.grown_row hk hg
  match j, hk with
  | 0, _ => exact hr.cell (i := 0) rfl
  | 1, _ => exact hr.cell (i := 1) rfl
  | 2, _ => exact hr.cell (i := 2) rfl
  | 3, _ => exact hr.cell (i := 3) rfl
theorem pl_store {w0 w : World} {A : Nat} {x0 y0 : Value} (x y : Value) (hr : Row w A 72 [x0, y0]) (hA : w0.heap.size ≤ A) (hb : Below w0.heap.size w0 w) :
    Row ((w.setCell ⟨A, 0, none⟩ x).setCell ⟨A, 1, none⟩ y) A 72 [x, y] ∧ Below w0.heap.size w0 ((w.setCell ⟨A, 0, none⟩ x).setCell ⟨A, 1, none⟩ y) :=
  ⟨(hr.set 0 x).set 1 y, (hb.setCell (p := ⟨A, 0, none⟩) hA x).setCell (p := ⟨A, 1, none⟩) hA y⟩
namespace W
open M
attribute [local go_sem] bs_size bs_toList bs_get bs_extract bs_append bs_lit0 bs_lit1 lit1_bs
set_option maxHeartbeats 2000000
set_option maxRecDepth 20000
theorem pshift_ok (vt vc : Value) (ts : List Tg) (cs : List Cc) (w : World) (hg : Glob w) (hs : Sig w) (ht : RdG w vt ts) (hc : RdC w vc cs) (h : chk46 ts cs = 0) :
    Calls Tryz.prog 35 #[vt, vc] w (Ret w (shV (ts.zip cs))) := by
  obtain ⟨h1, h16, hlen, hrt⟩ := chk46_iff.1 h
  have hzl : (ts.zip cs).length = cs.length := by rw [List.length_zip]; omega
  have nt : ts.length ≤ maxLen := by unfold maxLen; omega
  have nc : cs.length ≤ maxLen := by unfold maxLen; omega
  have hb : ∀ (k : Nat) (hk : k < (ts.zip cs).length) (va : Value) (W : World) (_ : Below w.heap.size w W) (_ : RdI W va (zoneNs ts cs)), Calls Tryz.prog 81 #[.agg #[va, vt, vc], .int .i64 (k : Int)] W (fun e w' => ∃ v, e = .returned v ∧ IsBs (bx (bnd4 (ts.zip cs)[k].1 (ts.zip cs)[k].2)) w' v ∧ Below W.heap.size W w') := fun k hk va W hW ha => by
    have hk3 : k < cs.length := by omega
    have hk1 : k < (zoneNs ts cs).length := by rw [zoneNs_len hlen]; omega
    have hk2 : k < ts.length := by omega
    have e2 : (ts.zip cs)[k] = (ts[k], cs[k]) := by simp
    have hr := hrt (ts[k], cs[k]) (by rw [← e2]; exact List.getElem_mem hk)
    have hw := hr.wide
    have e : (zoneNs ts cs)[k] = wide ts[k] cs[k] := by simp [zoneNs]
    have h := pbounds va vt vc (zoneNs ts cs) ts cs k W (hg.of hW) ha (ht.below hW) (hc.below hW) hk1 hk2 hk3 (by rw [e]; simp only at hw; omega) hr.1 hr.2.1
    rw [e, bnd4_bx] at h
    rw [e2]
    exact h
  have HB := Lib.hid hb
  have HED := Lib.hid (fun i (hi : i < (ts.zip cs).length) => end_bd (hrt _ (List.getElem_mem hi)))
  have HNG := Lib.hid (fun (z : Int) W (hW : Below w.heap.size w W) (hz : z.natAbs < 10 ^ 8) => ratNeg (hv z) 8 W (hg.of hW) (hv_bq hz) (by decide))
  have HLE := Lib.hid (fun vl vh (a b : Nat) W (hW : Below w.heap.size w W) (hl : RdT W vl (hts ((ts.zip cs).map (endZ a)))) (hh : RdT W vh (hts ((ts.zip cs).map (endZ b)))) => pleast vl vh _ _ W (hg.of hW) hl hh (by rw [List.length_map]; omega) (by rw [List.length_map]; omega) (by rw [List.length_map]; omega)
    (fun z hz => by obtain ⟨p, hp, rfl⟩ := List.mem_map.1 hz; exact (end_bd (hrt p hp) a).2) (fun z hz => by obtain ⟨p, hp, rfl⟩ := List.mem_map.1 hz; exact (end_bd (hrt p hp) b).2))
  have hb0 := bel_al w (.cells #[.string ⟨#[]⟩, .string ⟨#[]⟩] 72 (0, 0))
  have hr0 : Row (w.alloc (.cells #[.string ⟨#[]⟩, .string ⟨#[]⟩] 72 (0, 0))) w.heap.size 72 [.string ⟨#[]⟩, .string ⟨#[]⟩] := rnw
  have HR0 := Lib.hid (And.intro hr0 hb0)
  obtain ⟨At, ct, rfl⟩ := ht.len
  obtain ⟨Ac, cc, rfl⟩ := hc.len
  have HP := Lib.hid (pplate_ok _ _ ts cs _ (hs.below hb0) (ht.below hb0) (hc.below hb0) nt nc h)
  obtain ⟨sx, ba, sy, bb, hlx, hly, hsv⟩ := shV_cases (ts.zip cs)
  have HLX := Lib.hid hlx
  have HLY := Lib.hid hly
  have HSV := Lib.hid hsv
  generalize shV (ts.zip cs) = res at *
  have HZL := Lib.hid hzl
  have H16 : Hid (cs.length ≤ 16) := Lib.hid (by omega)
  clear h hs ht hc nt nc hg hr0 hb0 hrt hb h1 hlx hly hsv h16 hlen hzl
  generalize ts.zip cs = pl at *
  go_enter Tryz.func35, Tryz.ntmps35
  go_wp2_with fail
  refine HP.out.mono ?_
  rintro e w1 ⟨va, rfl, hv, hb1⟩
  have hb2 := bel_to hb1 (bel_al w1 (.cells #[va, .slice At ts.length ct, .slice Ac cs.length cc] 102 (0, 0)))
  have hrp : Row (w1.alloc (.cells #[va, .slice At ts.length ct, .slice Ac cs.length cc] 102 (0, 0))) w1.heap.size 102 [va, .slice At ts.length ct, .slice Ac cs.length cc] := rnw
  have HR1 := Lib.hid (And.intro (HR0.out.1.below' hb2) (And.intro (bel_to HR0.out.2 hb2) (And.intro hrp (hv.below (bel_al w1 (.cells #[va, .slice At ts.length ct, .slice Ac cs.length cc] 102 (0, 0)))))))
  obtain ⟨Av, cv, rfl⟩ := hv.len
  generalize (zoneNs ts cs).length = nz at *
  clear hv hb1 hb2 HP HR0 hrp
  have p2 := ((HR1.out.2.2.1).below' (bel_al _ (.cells #[.slice none 0 0, .slice none 0 0, .slice none 0 0, .slice none 0 0] 139 (0, 0)))).cell (i := 2) rfl
  have hw0 : (w1.alloc (.cells #[.slice Av nz cv, .slice At ts.length ct, .slice Ac cs.length cc] 102 (0, 0))).heap.size = w1.heap.size + 1 := World.size_alloc _ _
  have HW0 := Lib.hid hw0
  clear hw0
  go_wp2_with fail
  generalize w1.alloc (.cells #[.slice Av nz cv, .slice At ts.length ct, .slice Ac cs.length cc] 102 (0, 0)) = W0 at *
  generalize w1.heap.size = bp at *
  rw [← HW0.out]
  clear HW0
  have HE0 := Lib.hid (ES.new W0)
  clear p2
  go_loopw [31] (fun iv wr => ∃ (i : Nat) (v : Nat → Value), iv = .int .i64 (i : Int) ∧ i ≤ cs.length ∧ Hid (ES W0 wr v (fun k => hts ((pl.take i).map (endZ k))))) (fun iv _ => cs.length - (intOf iv).toNat)
  case atStart => exact ⟨0, _, rfl, by omega, Lib.hid (HE0.out.cast fun k _ => rfl)⟩
  case round =>
    clear HE0
    obtain ⟨i, v, rfl, hi, hin⟩ := hrel
    by_cases hlt : i < cs.length
    · have hil : i < pl.length := by rw [HZL.out]; exact hlt
      have hrp := HR1.out.2.2.1.below' hin.out.bel
      have p0 := hrp.cell (i := 0) rfl
      have p1 := hrp.cell (i := 1) rfl
      have p2 := hrp.cell (i := 2) rfl
      have HBI := Lib.hid (HB.out i hil _ _ (bel_to HR1.out.2.1 hin.out.bel) (HR1.out.2.2.2.below hin.out.bel))
      have HEP := Lib.hid (HED.out i hil)
      have HL4 := Lib.hid (fun k (hk : k < 4) => eL_four pl i hil k hk)
      have HM4 := Lib.hid (fun k (hk : k < 4) => bnd4_most (pl[i]'hil) k hk)
      have HIN := Lib.hid (hin.out.cast (l' := eL pl i pl[i] 0) fun k _ => (eL_zero pl i pl[i] k).symm)
      clear hrp hin
      generalize pl[i] = p at *
      go_wp2_with fail
      refine HBI.out.mono ?_
      rintro e w5 ⟨vb, rfl, hbs, hb5⟩
      obtain ⟨es, he, hgt, g, rfl, hrow⟩ := hbs
      have hel : es.length = 4 := by
        have := congrArg List.length he
        rw [bnd4_len, List.length_map] at this
        exact this.symm
      have HIN5 : Hid (ES W0 w5 v (eL pl i p 0) ∧ Row w5 g 79 (bcs es)) := Lib.hid ⟨HIN.out.to hb5, hrow⟩
      have HBS := Lib.hid (fun j (hj : j < 4) => (by
        have hj2 : j < es.length := by rw [hel]; exact hj
        obtain ⟨B, h1⟩ := hgt _ (List.getElem_mem hj2)
        obtain ⟨A, n, c, h2⟩ := OwnS.shape h1
        refine ⟨A, n, c, ?_, ?_⟩
        · rw [(bcs_get es j hj2).1, h2]
        · rw [(bcs_get es j hj2).2]
          have h3 := HM4.out j hj (by rw [bnd4_len]; exact hj)
          have h4 : (bx (bnd4 p.1 p.2))[j]'(by rw [bnd4_len]; exact hj) = es[j].2 := by simp [he]
          rw [h4] at h3
          rw [h3] : ∃ A n c, (bcs es)[j * 2]? = some (.slice A n c) ∧ (bcs es)[j * 2 + 1]? = some (.string (bs (R (hv (mst p j)))))))
      rw [hel]
      clear hb5 hrow hgt he HIN HBI HM4 hel p0 p1 p2
      go_wp2_with fail
      go_loopw [38] (fun jv wr2 => ∃ (j : Nat) (v : Nat → Value), jv = .int .i64 (j : Int) ∧ j ≤ 4 ∧ Hid (ES W0 wr2 v (eL pl i p j) ∧ Row wr2 g 79 (bcs es))) (fun jv _ => 4 - (intOf jv).toNat)
      case atStart => exact ⟨0, v, rfl, by omega, HIN5⟩
      case round =>
        clear HIN5
        obtain ⟨j, v2, rfl, hj, hin⟩ := hrel
        by_cases hj4 : j < 4
        · obtain ⟨A, n, c, hc0, hc1⟩ := HBS.out j hj4
          have c0 := hin.out.2.cell hc0
          have c1 := hin.out.2.cell hc1
          have hj0 : (0 : Int) ≤ (j : Int) := by omega
          have hj1 : (j : Int) < 4 := by omega
          clear hc0 hc1
          have HIX : Hid (ES W0 (wr.alloc (.cells #[.slice A n c, .string (bs (R (hv (mst p j))))] 79 (0, 0))) v2 (eL pl i p j) ∧ Row (wr.alloc (.cells #[.slice A n c, .string (bs (R (hv (mst p j))))] 79 (0, 0))) g 79 (bcs es)) :=
            Lib.hid ⟨hin.out.1.to (bel_al _ _), hin.out.2.below' (bel_al _ _)⟩
          clear hin
          have HLN : Hid ((eL pl i p j j).length + 1 ≤ 1000000000) := Lib.hid (by
            have := eL_len pl i p j j
            have := H16.out
            have := HZL.out
            omega)
          by_cases hodd : j % 2 = 1
          · have hmod : Int.tmod (j : Int) 2 = 1 := by rw [Int.tmod_eq_emod_of_nonneg hj0]; omega
            have hme := mst_end p j hj4
            rw [if_pos hodd] at hme
            have hng := HNG.out (mst p j) _ (bel_to HR1.out.2.1 HIX.out.1.bel) (HEP.out j).1
            rw [hv_neg, hme] at hng
            have HN1 := Lib.hid hng
            clear hng hme hodd
            go_wp2_with fail
            refine HN1.out.mono ?_
            rintro e w6 ⟨rfl, hb6⟩
            have HI6 : Hid (ES W0 w6 v2 (eL pl i p j) ∧ Row w6 g 79 (bcs es)) := Lib.hid ⟨HIX.out.1.to hb6, HIX.out.2.below' hb6⟩
            clear hb6 HIX HN1 c0 c1 hmod
            have HI7 : Hid (ES W0 (w6.alloc (.cells #[.string (bs (R (hv (endZ j p))))] 40 (0, 0))) v2 (eL pl i p j) ∧ Row (w6.alloc (.cells #[.string (bs (R (hv (endZ j p))))] 40 (0, 0))) g 79 (bcs es)) := Lib.hid ⟨HI6.out.1.to (bel_al _ _), HI6.out.2.below' (bel_al _ _)⟩
            have c3 := HI6.out.1.cell hj4
            have HNC := Lib.hid ((rnw (w := w6) (t := 40) (xs := [.string (bs (R (hv (endZ j p))))])).cell (i := 0) rfl)
            clear HI6
            go_wp2_with (at_builtin; refine wpList_app_at rfl (.tmp 56) (.tmp 58) rfl rfl rfl (HI7.out.1.own j hj4) rfl HNC.out (Nat.le_trans HI7.out.1.size (Nat.le_refl _)) HLN.out ?_; intro v9 w9 ho9 hk9 hd9; obtain ⟨A9, n9, c9, rfl⟩ := OwnS.shape ho9; have HPU := Lib.hid (esput HI7.out.1 hj4 HI7.out.2 ho9 hk9 hd9); have f9 := esfree HI7.out.1 hj4 hk9; have c9 := escell HI7.out.1 hj4 hk9; clear ho9 hk9 hd9)
            go_wp2
            go_roundw
            case rel => exact ⟨j + 1, _, by go_num, by omega, HPU⟩
            case measure => simp [intOf]; omega
          · have hmod : Int.tmod (j : Int) 2 = 0 := by rw [Int.tmod_eq_emod_of_nonneg hj0]; omega
            have hme := mst_end p j hj4
            rw [if_neg hodd] at hme
            rw [hme] at c1 HIX
            clear hme hodd
            have HI7 := Lib.hid (And.intro (HIX.out.1.to (bel_al _ (.cells #[.string (bs (R (hv (endZ j p))))] 40 (0, 0)))) (HIX.out.2.below' (bel_al _ (.cells #[.string (bs (R (hv (endZ j p))))] 40 (0, 0)))))
            have c3 := HIX.out.1.cell hj4
            have hnc := (rnw (w := wr.alloc (.cells #[.slice A n c, .string (bs (R (hv (endZ j p))))] 79 (0, 0))) (t := 40) (xs := [.string (bs (R (hv (endZ j p))))])).cell (i := 0) rfl
            rw [World.size_alloc] at hnc
            have HNC := Lib.hid hnc
            clear hnc
            clear HIX
            go_wp2_with (at_builtin; refine wpList_app_at rfl (.tmp 56) (.tmp 58) rfl rfl rfl (HI7.out.1.own j hj4) rfl HNC.out (Nat.le_trans HI7.out.1.size (Nat.le_refl _)) HLN.out ?_; intro v9 w9 ho9 hk9 hd9; obtain ⟨A9, n9, c9, rfl⟩ := OwnS.shape ho9; have HPU := Lib.hid (esput HI7.out.1 hj4 HI7.out.2 ho9 hk9 hd9); have f9 := esfree HI7.out.1 hj4 hk9; have c9 := escell HI7.out.1 hj4 hk9; clear ho9 hk9 hd9)
            go_wp2
            go_roundw
            case rel => exact ⟨j + 1, _, by go_num, by omega, HPU⟩
            case measure => simp [intOf]; omega
        · obtain rfl : j = 4 := by omega
          have HX := Lib.hid (hin.out.1.cast fun k hk => HL4.out k hk)
          have h16 := H16.out
          clear hin
          go_wp2
          go_roundw
          case rel => exact ⟨i + 1, v2, by go_num, by omega, HX⟩
          case measure => simp [intOf]; omega
    · obtain rfl : i = cs.length := by omega
      have hx := hin.out
      rw [show pl.take cs.length = pl by rw [← HZL.out, List.take_length]] at hx
      have HX := Lib.hid hx
      have c1 := hx.cell (k := 1) (by decide)
      have c0 := hx.cell (k := 0) (by decide)
      have hl := HLE.out (v 1) (v 0) 1 0 _ (bel_to HR1.out.2.1 hx.bel) (hx.own 1 (by decide)).rd (hx.own 0 (by decide)).rd
      rw [HLX.out] at hl
      have HL1 := Lib.hid hl
      clear hin hx hl HLX
      go_wp2_with fail
      refine HL1.out.mono ?_
      rintro e w6 ⟨rfl, hb6⟩
      have hx := HX.out.to hb6
      have HX6 := Lib.hid hx
      have c3 := hx.cell (k := 3) (by decide)
      have c2 := hx.cell (k := 2) (by decide)
      have hl := HLE.out (v 3) (v 2) 3 2 _ (bel_to HR1.out.2.1 hx.bel) (hx.own 3 (by decide)).rd (hx.own 2 (by decide)).rd
      rw [HLY.out] at hl
      have HL2 := Lib.hid hl
      clear hx hl HLY HL1 hb6 HX c0 c1
      go_wp2_with fail
      refine HL2.out.mono ?_
      rintro e w7 ⟨rfl, hb7⟩
      have hb := bel_to HX6.out.bel hb7
      have hrw := HR1.out.1.below' hb
      have hbw := bel_to HR1.out.2.1 hb
      have HR7 := Lib.hid (And.intro hrw hbw)
      clear hb hb7 HL2 HX6 c2 c3
      have f0 := hrw.free 0
      have d0 := hrw.cell (i := 0) rfl
      cases ba <;> cases bb
      · obtain rfl := HSV.out.trans (if_neg (by decide))
        have f1 := (hrw.set 0 (.string ⟨#[]⟩)).free 1
        have d1 := (hrw.set 0 (.string ⟨#[]⟩)).cell (i := 1) rfl
        have HQ := Lib.hid (pl_store (.string ⟨#[]⟩) (.string ⟨#[]⟩) hrw (Nat.le_refl _) hbw)
        clear hrw hbw HR7
        go_wp2
        have q0 := HQ.out.1.cell (i := 0) rfl
        have q1 := HQ.out.1.cell (i := 1) rfl
        refine bodyPost_ret (v := .tuple #[.bool false, .agg #[.string ⟨#[]⟩, .string ⟨#[]⟩], .int .i64 0]) (by simp [results, Tryz.results35, go_sem, q0, q1]) rfl ⟨rfl, HQ.out.2⟩
      · obtain rfl := HSV.out.trans (if_neg (by decide))
        have f1 := (hrw.set 0 (.string ⟨#[]⟩)).free 1
        have d1 := (hrw.set 0 (.string ⟨#[]⟩)).cell (i := 1) rfl
        have HQ := Lib.hid (pl_store (.string ⟨#[]⟩) (.string ⟨#[]⟩) hrw (Nat.le_refl _) hbw)
        clear hrw hbw HR7
        go_wp2
        have q0 := HQ.out.1.cell (i := 0) rfl
        have q1 := HQ.out.1.cell (i := 1) rfl
        refine bodyPost_ret (v := .tuple #[.bool false, .agg #[.string ⟨#[]⟩, .string ⟨#[]⟩], .int .i64 0]) (by simp [results, Tryz.results35, go_sem, q0, q1]) rfl ⟨rfl, HQ.out.2⟩
      · obtain rfl := HSV.out.trans (if_neg (by decide))
        have f1 := (hrw.set 0 (.string ⟨#[]⟩)).free 1
        have d1 := (hrw.set 0 (.string ⟨#[]⟩)).cell (i := 1) rfl
        have HQ := Lib.hid (pl_store (.string ⟨#[]⟩) (.string ⟨#[]⟩) hrw (Nat.le_refl _) hbw)
        clear hrw hbw HR7
        go_wp2
        have q0 := HQ.out.1.cell (i := 0) rfl
        have q1 := HQ.out.1.cell (i := 1) rfl
        refine bodyPost_ret (v := .tuple #[.bool false, .agg #[.string ⟨#[]⟩, .string ⟨#[]⟩], .int .i64 0]) (by simp [results, Tryz.results35, go_sem, q0, q1]) rfl ⟨rfl, HQ.out.2⟩
      · obtain rfl := HSV.out.trans (if_pos rfl)
        have f1 := (hrw.set 0 (.string (bs sx))).free 1
        have d1 := (hrw.set 0 (.string (bs sx))).cell (i := 1) rfl
        have HQ := Lib.hid (pl_store (.string (bs sx)) (.string (bs sy)) hrw (Nat.le_refl _) hbw)
        clear hrw hbw HR7
        go_wp2
        have q0 := HQ.out.1.cell (i := 0) rfl
        have q1 := HQ.out.1.cell (i := 1) rfl
        refine bodyPost_ret (v := .tuple #[.bool true, .agg #[.string (bs sx), .string (bs sy)], .int .i64 0]) (by simp [results, Tryz.results35, go_sem, q0, q1]) rfl ⟨rfl, HQ.out.2⟩
end W
end Go.Proofs.YtfcffheboncmbaaGreatDoor
end
section
namespace Go.Proofs.YtfcffheboncmbaaGreatDoor
open Go Go.RowKit Go.Deep
theorem rdt_any {W : World} {g cap : Nat} {t : TypeId} {l : List (List UInt8)} (hr : Row W g t (Strs l)) : RdT W (.slice (some ⟨g, 0, none⟩) l.length cap) l :=
  ⟨_, _, rfl, Or.inr ⟨g, 0, rfl, hr.lt, fun i hi => by rw [Nat.zero_add]; exact hr.cell (by simp [Strs, hi])⟩⟩
namespace W
open M
attribute [local go_sem] bs_size bs_toList bs_get bs_extract bs_append bs_lit0 bs_lit1 lit1_bs
set_option maxHeartbeats 2000000
set_option maxRecDepth 20000
theorem pshown_ok (w : World) : Calls Tryz.prog 86 #[.int .i64 0] w fun e w' => e = .returned (.tuple #[.bool true, .int .i64 0]) ∧ w = w' := by
  go_enter Tryz.func86, Tryz.ntmps86
  go_wp2
  go_ret2
  exact ⟨rfl, rfl⟩
theorem paccepts_gen (vt vc : Value) (ts : List Tg) (cs : List Cc) (p0 p1 p2 : List UInt8) (w : World) (hg : Glob w) (hs : Sig w) (ht : RdG w vt ts) (hc : RdC w vc cs) (nt : ts.length ≤ maxLen) (nc : cs.length ≤ maxLen) (h : chk46 ts cs = 0) (k c : Int) (b : Bool)
    (hsh : ∀ W, Calls Tryz.prog 86 #[.int .i64 k] W fun e w' => e = .returned (.tuple #[.bool b, .int .i64 c]) ∧ W = w')
    (hv : ∀ v vp W, Glob W → RdB W v (bx (bnds (ts.zip cs))) → RdT W vp [p0, p1, p2] → Calls Tryz.prog 87 #[.int .i64 3, v, vp] W (Ret W (.int .i64 k))) :
    Calls Tryz.prog 42 #[vt, vc, .agg #[.string (bs p0), .string (bs p1), .string (bs p2)]] w (Ret w (.tuple #[.bool b, .int .i64 c])) := by
  have HV := Lib.hid (fun v vp W (hW : Below w.heap.size w W) h1 h2 => hv v vp W (hg.of hW) h1 h2)
  have HSH := Lib.hid hsh
  have HA := Lib.hid (fun va W (hW : Below w.heap.size w W) hv => pall va vt vc ts cs W (hg.of hW) hv (ht.below hW) (hc.below hW) h)
  have hb0 := bel_al w (.cells #[.string (bs p0), .string (bs p1), .string (bs p2)] 41 (0, 0))
  have hr0 : Row (w.alloc (.cells #[.string (bs p0), .string (bs p1), .string (bs p2)] 41 (0, 0))) w.heap.size 41 (Strs [p0, p1, p2]) := rnw
  obtain ⟨At, ct, rfl⟩ := ht.len
  obtain ⟨Ac, cc, rfl⟩ := hc.len
  have HP := Lib.hid (pplate_ok _ _ ts cs _ (hs.below hb0) (ht.below hb0) (hc.below hb0) nt nc h)
  have HR0 := Lib.hid (And.intro hr0 hb0)
  clear h hs ht hc nt nc hg hb0 hr0 hv hsh
  go_enter Tryz.func42, Tryz.ntmps42
  go_wp2_with fail
  refine HP.out.mono ?_
  rintro e w1 ⟨va, rfl, hv, hb1⟩
  have hb2 := bel_to hb1 (bel_al w1 (.cells #[va, .slice At ts.length ct, .slice Ac cs.length cc] 102 (0, 0)))
  have hdr : Below (w1.alloc (.cells #[va, .slice At ts.length ct, .slice Ac cs.length cc] 102 (0, 0))).heap.size (w1.alloc (.cells #[va, .slice At ts.length ct, .slice Ac cs.length cc] 102 (0, 0))) (w1.alloc (.cells #[va, .slice At ts.length ct, .slice Ac cs.length cc] 102 (0, 0))).drew := RowKit.Below.drew (Below.refl _ _)
  have HA1 := Lib.hid (HA.out va _ (bel_to HR0.out.2 (bel_to hb2 hdr)) ((hv.below (bel_al _ _)).below hdr))
  have HR1 := Lib.hid (And.intro (HR0.out.1.below' (bel_to hb2 hdr)) (bel_to HR0.out.2 (bel_to hb2 hdr)))
  obtain ⟨Av, cv, rfl⟩ := hv.len
  clear hv hb1 hb2 HP HA HR0 hdr
  have hi3 : (0 : Int) ≤ 3 := by decide
  go_wp2_with fail
  go_region_law (first
    | (go_simp; go_at_call 54; refine HA1.out.mono ?_; rintro e w2 ⟨v, es, rfl, ho, hgd, he, hb2⟩; have HB2 := Lib.hid (show RdB w2 v (bx (bnds (ts.zip cs))) ∧ Row w2 w.heap.size 41 (Strs [p0, p1, p2]) ∧ Below w.heap.size w w2 from ⟨by rw [← he]; exact OwnE.rd ho hgd.good, HR1.out.1.below' hb2, bel_to HR1.out.2 hb2⟩); clear ho hgd he hb2)
    | (go_simp; go_at_call 87; refine (HV.out v (.slice (some ⟨w.heap.size, 0, none⟩) 3 3) w2 HB2.out.2.2 HB2.out.1 (rdt_any (l := [p0, p1, p2]) HB2.out.2.1)).mono ?_; rintro e w3 ⟨rfl, hb3⟩; have HB3 := Lib.hid (bel_to HB2.out.2.2 hb3); clear hb3)
    | (go_simp; go_at_call 86; refine (HSH.out w3).mono ?_; rintro e w4 ⟨rfl, rfl⟩))
  all_goals
    go_wp2
    go_ret2
    exact Ret.of rfl HB3.out
end W
end Go.Proofs.YtfcffheboncmbaaGreatDoor
end
section
namespace Go.Proofs.YtfcffheboncmbaaGreatDoor
open Go Go.RowKit Go.Deep
namespace M
def exT : List Tg := [⟨0, 0, 20, 20, 2, 0, false⟩, ⟨100, 0, 20, 20, 2, 0, false⟩]
def exC (ax ay bX bY : Int) : List Cc := [⟨ax, ay, 20⟩, ⟨bX, bY, 20⟩]
theorem exc_same {pl : Pl} {x y : Rat} (h : Sx.Exc pl x) (h2 : Sx.Exc pl y) : x = y := Rat.le_antisymm (Sx.exc_fewer h2 h fun _ h => h) (Sx.exc_fewer h h2 fun _ h => h)
theorem ex_chk : chk46 exT (exC 3 1 103 1) = 0 ∧ chk46 exT (exC 0 0 104 0) = 0 ∧ chk46 exT (exC 0 0 100 4) = 0 := by decide +kernel
theorem ex_ov1 : overQ (exT.zip (exC 3 1 103 1)) = -2 := by decide +kernel
theorem ex_ov2 : overQ (exT.zip (exC 0 0 104 0)) = 2 := by decide +kernel
theorem ex_sh1 : shOk (exT.zip (exC 3 1 103 1)) = true ∧ shX (exT.zip (exC 3 1 103 1)) = -4 ∧ shY (exT.zip (exC 3 1 103 1)) = -2 := by decide +kernel
theorem ex_sh3 : shOk (exT.zip (exC 0 0 100 4)) = false := by decide +kernel
theorem R_texts : R (-4) = [45, 52] ∧ R (-2) = [45, 50] ∧ R 2 = [50] ∧ R 0 = [48] ∧ R (-1 / 25) = [45, 49, 47, 50, 53] := by
  refine ⟨?_, ?_, ?_, ?_, ?_⟩ <;> kernel_rfl
end M
theorem rdG_row {w : World} {g n : Nat} {t : TypeId} {l : List M.Tg} (h : Row w g t (csG l)) (hn : n = l.length) : RdG w (.slice (some ⟨g, 0, none⟩) n n) l :=
  ⟨_, _, by rw [hn], Or.inr ⟨g, 0, rfl, SlG.of_row h⟩⟩
theorem rdC_row {w : World} {g n : Nat} {t : TypeId} {l : List M.Cc} (h : Row w g t (csC l)) (hn : n = l.length) : RdC w (.slice (some ⟨g, 0, none⟩) n n) l :=
  ⟨_, _, by rw [hn], Or.inr ⟨g, 0, rfl, SlC.of_row h⟩⟩
theorem two1 {w w0 : World} (ax ay bX bY : Int) (hb : Below w.heap.size w w0) {A : Nat} (hA : A = w0.heap.size) :
    RdG ((w0.alloc (.cells (csG M.exT).toArray 27 (0, 0))).alloc (.cells (csC (M.exC ax ay bX bY)).toArray 29 (0, 0))).drew (.slice (some ⟨A, 0, none⟩) 2 2) M.exT ∧
    RdC ((w0.alloc (.cells (csG M.exT).toArray 27 (0, 0))).alloc (.cells (csC (M.exC ax ay bX bY)).toArray 29 (0, 0))).drew (.slice (some ⟨A + 1, 0, none⟩) 2 2) (M.exC ax ay bX bY) ∧
    Below w.heap.size w ((w0.alloc (.cells (csG M.exT).toArray 27 (0, 0))).alloc (.cells (csC (M.exC ax ay bX bY)).toArray 29 (0, 0))).drew := by
  subst hA
  have h1 : Row (w0.alloc (.cells (csG M.exT).toArray 27 (0, 0))) w0.heap.size 27 (csG M.exT) := rnw
  have h2 : Row ((w0.alloc (.cells (csG M.exT).toArray 27 (0, 0))).alloc (.cells (csC (M.exC ax ay bX bY)).toArray 29 (0, 0))) (w0.heap.size + 1) 29 (csC (M.exC ax ay bX bY)) := rnew0 (World.size_alloc _ _).symm
  exact ⟨rdG_row ((h1.below' (bel_al _ _)).below' (RowKit.Below.drew (Below.refl _ _))) rfl, rdC_row (h2.below' (RowKit.Below.drew (Below.refl _ _))) rfl, bel_to hb (RowKit.Below.drew (bel_al2 _ _ _))⟩
theorem two2 {w w0 : World} (ax ay bX bY : Int) (hb : Below w.heap.size w w0) {A : Nat} (hA : A = w0.heap.size) :
    RdG ((w0.alloc (.cells (csC (M.exC ax ay bX bY)).toArray 29 (0, 0))).alloc (.cells (csG M.exT).toArray 27 (0, 0))).drew (.slice (some ⟨A + 1, 0, none⟩) 2 2) M.exT ∧
    RdC ((w0.alloc (.cells (csC (M.exC ax ay bX bY)).toArray 29 (0, 0))).alloc (.cells (csG M.exT).toArray 27 (0, 0))).drew (.slice (some ⟨A, 0, none⟩) 2 2) (M.exC ax ay bX bY) ∧
    Below w.heap.size w ((w0.alloc (.cells (csC (M.exC ax ay bX bY)).toArray 29 (0, 0))).alloc (.cells (csG M.exT).toArray 27 (0, 0))).drew := by
  subst hA
  have h1 : Row (w0.alloc (.cells (csC (M.exC ax ay bX bY)).toArray 29 (0, 0))) w0.heap.size 29 (csC (M.exC ax ay bX bY)) := rnw
  have h2 : Row ((w0.alloc (.cells (csC (M.exC ax ay bX bY)).toArray 29 (0, 0))).alloc (.cells (csG M.exT).toArray 27 (0, 0))) (w0.heap.size + 1) 27 (csG M.exT) := rnew0 (World.size_alloc _ _).symm
  exact ⟨rdG_row (h2.below' (RowKit.Below.drew (Below.refl _ _))) rfl, rdC_row ((h1.below' (bel_al _ _)).below' (RowKit.Below.drew (Below.refl _ _))) rfl, bel_to hb (RowKit.Below.drew (bel_al2 _ _ _))⟩
namespace W
open M
attribute [local go_sem] bs_size bs_toList bs_get bs_extract bs_append bs_lit0 bs_lit1 lit1_bs
set_option maxHeartbeats 2000000
set_option maxRecDepth 20000
theorem ptwo (ax ay bX bY : Int) (w : World) : Calls Tryz.prog 51 #[.agg #[.int .i64 ax, .int .i64 ay], .agg #[.int .i64 bX, .int .i64 bY]] w
    (fun e w' => ∃ vt vc, e = .returned (.tuple #[vt, vc]) ∧ RdG w' vt exT ∧ RdC w' vc (exC ax ay bX bY) ∧ Below w.heap.size w w') := by
  go_enter Tryz.func51, Tryz.ntmps51
  go_wp2
  go_region
  all_goals
    go_wp2
    go_ret2
    first
      | exact ⟨_, _, rfl, two1 ax ay bX bY (bel_to (bel_al2 _ _ _) (bel_al2 _ _ _)) (by simp only [World.size_alloc])⟩
      | exact ⟨_, _, rfl, two2 ax ay bX bY (bel_to (bel_al2 _ _ _) (bel_al2 _ _ _)) (by simp only [World.size_alloc])⟩
end W
end Go.Proofs.YtfcffheboncmbaaGreatDoor
end
section
namespace Go.Proofs.YtfcffheboncmbaaGreatDoor
open Go Go.RowKit Go.Deep
namespace W
open M
theorem ex_shift1 (vt vc : Value) (w : World) (hg : Glob w) (hs : Sig w) (ht : RdG w vt exT) (hc : RdC w vc (exC 3 1 103 1)) :
    Calls Tryz.prog 35 #[vt, vc] w (Ret w (.tuple #[.bool true, .agg #[.string (bs [45, 52]), .string (bs [45, 50])], .int .i64 0])) := by
  have h := pshift_ok vt vc _ _ w hg hs ht hc ex_chk.1
  have e : shV (exT.zip (exC 3 1 103 1)) = .tuple #[.bool true, .agg #[.string (bs [45, 52]), .string (bs [45, 50])], .int .i64 0] := by
    unfold shV
    rw [if_pos ex_sh1.1, ex_sh1.2.1, ex_sh1.2.2, R_texts.1, R_texts.2.1]
  rwa [e] at h
theorem ex_shift3 (vt vc : Value) (w : World) (hg : Glob w) (hs : Sig w) (ht : RdG w vt exT) (hc : RdC w vc (exC 0 0 100 4)) :
    Calls Tryz.prog 35 #[vt, vc] w (Ret w (.tuple #[.bool false, .agg #[.string (bs []), .string (bs [])], .int .i64 0])) := by
  have h := pshift_ok vt vc _ _ w hg hs ht hc ex_chk.2.2
  have e : shV (exT.zip (exC 0 0 100 4)) = .tuple #[.bool false, .agg #[.string (bs []), .string (bs [])], .int .i64 0] := by
    unfold shV
    rw [if_neg (by rw [ex_sh3]; decide)]
  rwa [e] at h
theorem ex_exc {ax ay bX bY : Int} {q : Rat} {t : List UInt8} (hk : chk46 exT (exC ax ay bX bY) = 0) (hq : overQ (exT.zip (exC ax ay bX bY)) = q) (ht : R q = t) : ∃ a b c, ∀ (vt vc : Value) (w : World), Glob w → Sig w → RdG w vt exT → RdC w vc (exC ax ay bX bY) →
    Calls Tryz.prog 22 #[vt, vc] w (Ret w (.tuple #[.string (bs t), .agg #[.string (bs a), .string (bs b), .string (bs c)], .int .i64 0])) := by
  obtain ⟨dx, dy, tw, x, hx, _, _, h⟩ := pexcess_ok exT _ hk (by decide)
  have e : x = q := by rw [← hq]; exact exc_same hx (Sx.exc_over (by unfold exT exC; simp))
  rw [e, ht] at h
  exact ⟨R dx, R dy, R tw, fun vt vc w hg hs h1 h2 => h vt vc w hg hs h1 h2⟩
theorem ex_fits2 (vt vc : Value) (w : World) (hg : Glob w) (hs : Sig w) (ht : RdG w vt exT) (hc : RdC w vc (exC 0 0 104 0)) :
    Calls Tryz.prog 16 #[vt, vc] w (fun e w' => ∃ v, e = .returned (.tuple #[.bool false, .agg #[.string ⟨#[]⟩, .string ⟨#[]⟩, .string ⟨#[]⟩], v, .int .i64 0]) ∧ Shp v ∧ Below w.heap.size w w') := by
  obtain ⟨r, hr, h⟩ := pfits_ok exT _ ex_chk.2.1 (by decide)
  cases r with
  | inl p =>
    exfalso
    obtain ⟨dx, dy, tw, rfl⟩ := Sx.len3 hr.1.1
    have hz := Sx.keeps3_iff.1 hr.1
    have hx := Sx.exc_over (pl := exT.zip (exC 0 0 104 0)) (by unfold exT exC; simp)
    rw [ex_ov2] at hx
    have := hx.2 _ _ _ _ hz
    exact absurd this (by decide)
  | inr q =>
    refine (h vt vc w hg hs ht hc).mono ?_
    rintro e w' ⟨v, rfl, _, h2, h3⟩
    exact ⟨v, rfl, h2, h3⟩
end W
end Go.Proofs.YtfcffheboncmbaaGreatDoor
end
section
namespace Go.Proofs.YtfcffheboncmbaaGreatDoor
open Go Go.RowKit Go.Deep
namespace M
theorem ex_wire : Wire (bx (bnds (exT.zip (exC 0 0 100 4)))) := ⟨by decide +kernel, fun _ => by decide +kernel⟩
theorem ex_keeps : ((bnds (exT.zip (exC 0 0 100 4))).all fun b => keepsB b [0, 0, -1 / 25]) = true := by decide +kernel
theorem ex_bq : ∀ x ∈ [(0 : Rat), 0, -1 / 25], Bq 30 x := by decide +kernel
theorem ex_rx : rx [0, 0, -1 / 25] = [[48], [48], [45, 49, 47, 50, 53]] := by kernel_rfl
end M
namespace W
open M
attribute [local go_sem] bs_size bs_toList bs_get bs_extract bs_append bs_lit0 bs_lit1 lit1_bs
set_option maxHeartbeats 2000000
set_option maxRecDepth 20000
theorem ex_acc3 (vt vc : Value) (w : World) (hg : Glob w) (hs : Sig w) (ht : RdG w vt exT) (hc : RdC w vc (exC 0 0 100 4)) :
    Calls Tryz.prog 42 #[vt, vc, .agg #[.string (bs [48]), .string (bs [48]), .string (bs [45, 49, 47, 50, 53])]] w (Ret w (.tuple #[.bool true, .int .i64 0])) := by
  obtain ⟨h1, h2, h3⟩ := bnds_few ex_chk.2.2 (by decide)
  refine paccepts_gen vt vc _ _ _ _ _ w hg hs ht hc (by decide) (by decide) ex_chk.2.2 0 0 true pshown_ok fun v vp W hW hv hp => ?_
  have h := pverify_ok 3 v vp _ [0, 0, -1 / 25] W hW hv ex_wire (chk5_ok (n := 3) (by decide) (by decide) (by omega) h1.right) (by rw [ex_rx]; exact hp) (by decide) h1.right rfl ex_bq (chk_rx30 ex_bq) (by omega)
  rw [if_pos ex_keeps] at h
  exact h
theorem eq_pl (a b s t : List UInt8) (w : World) : (binOp .eql 72 (.agg #[.string (bs a), .string (bs s)]) (.agg #[.string (bs b), .string (bs t)])).run Tryz.prog w = .ok (.bool (a == b && s == t)) w := by
  have hf : Tryz.prog.underlying 72 = some (.struct (Tryz.prog.fieldsOf 72)) := by unfold Program.fieldsOf; rw [Tryz.underlying72]
  rw [run_eql_struct, show (10000 : Nat) = 9999 + 1 from rfl, run_equalIn_agg w 9999 72 _ _ hf (by kernel_rfl)]
  unfold Program.fieldsOf
  rw [Tryz.underlying72]
  go_simp
  by_cases h1 : a = b <;> by_cases h2 : s = t <;> simp [h1, h2]
end W
end Go.Proofs.YtfcffheboncmbaaGreatDoor
end
section
namespace Go.Proofs.YtfcffheboncmbaaGreatDoor
open Go Go.RowKit Go.Deep
namespace W
open M
attribute [local go_sem] bs_size bs_toList bs_get bs_extract bs_append bs_lit0 bs_lit1 lit1_bs
set_option maxHeartbeats 4000000
set_option maxRecDepth 20000
theorem awake46 (w : World) (hg : Glob w) (hs : Sig w) : Calls Tryz.prog 14 #[] w (Ret w (.bool true)) := by
  obtain ⟨a1, b1, c1, he1⟩ := ex_exc ex_chk.1 ex_ov1 R_texts.2.1
  obtain ⟨a2, b2, c2, he2⟩ := ex_exc ex_chk.2.1 ex_ov2 R_texts.2.2.1
  have HE1 := Lib.hid (fun vt vc W (hW : Below w.heap.size w W) => he1 vt vc W (hg.of hW) (hs.below hW))
  have HE2 := Lib.hid (fun vt vc W (hW : Below w.heap.size w W) => he2 vt vc W (hg.of hW) (hs.below hW))
  have HS1 := Lib.hid (fun vt vc W (hW : Below w.heap.size w W) => ex_shift1 vt vc W (hg.of hW) (hs.below hW))
  have HS3 := Lib.hid (fun vt vc W (hW : Below w.heap.size w W) => ex_shift3 vt vc W (hg.of hW) (hs.below hW))
  have HF2 := Lib.hid (fun vt vc W (hW : Below w.heap.size w W) => ex_fits2 vt vc W (hg.of hW) (hs.below hW))
  have HA3 := Lib.hid (fun vt vc W (hW : Below w.heap.size w W) => ex_acc3 vt vc W (hg.of hW) (hs.below hW))
  have HB3 := Lib.hid (fun vt vc W (hW : Below w.heap.size w W) (h1 : RdG W vt exT) (h2 : RdC W vc (exC 0 0 100 4)) => pBounds_ok vt vc _ _ W (hg.of hW) (hs.below hW) h1 h2 (by decide) (by decide) ex_chk.2.2)
  clear hg hs he1 he2
  go_enter Tryz.func14, Tryz.ntmps14
  go_wp2_with fail
  refine (ptwo 3 1 103 1 _).mono ?_
  rintro e w1 ⟨vt, vc, rfl, ht, hc, hb⟩
  have H1 := Lib.hid (And.intro ht (And.intro hc hb))
  clear ht hc hb
  go_wp2_with fail
  refine (HS1.out vt vc w1 H1.out.2.2 H1.out.1 H1.out.2.1).mono ?_
  rintro e w2 ⟨rfl, hb⟩
  have hbA := bel_to hb (bel_al w2 (.cells #[.string (bs [45, 52]), .string (bs [45, 50])] 72 (0, 0)))
  have hrow : Row (w2.alloc (.cells #[.string (bs [45, 52]), .string (bs [45, 50])] 72 (0, 0))) w2.heap.size 72 [.string (bs [45, 52]), .string (bs [45, 50])] := rnw
  have H2 := Lib.hid (And.intro (H1.out.1.below hbA) (And.intro (H1.out.2.1.below hbA) (And.intro (bel_to H1.out.2.2 hbA) hrow)))
  clear hb hbA hrow H1
  go_wp2_with fail
  refine (HE1.out vt vc _ H2.out.2.2.1 H2.out.1 H2.out.2.1).mono ?_
  rintro e w3 ⟨rfl, hb⟩
  have H3 := Lib.hid (And.intro (bel_to H2.out.2.2.1 hb) (H2.out.2.2.2.below' hb))
  clear hb H2
  generalize w2.heap.size = bp at *
  go_wp2_with fail
  refine (ptwo 0 0 104 0 _).mono ?_
  rintro e w4 ⟨vt, vc, rfl, ht, hc, hb⟩
  have hbA := bel_to (bel_al w3 (.cells #[.string (bs a1), .string (bs b1), .string (bs c1)] 41 (0, 0))) hb
  have H4 := Lib.hid (And.intro ht (And.intro hc (And.intro (bel_to H3.out.1 hbA) (H3.out.2.below' hbA))))
  clear ht hc hb hbA H3
  go_wp2_with fail
  refine (HE2.out vt vc _ H4.out.2.2.1 H4.out.1 H4.out.2.1).mono ?_
  rintro e w5 ⟨rfl, hb⟩
  have hbA := bel_to hb (bel_al w5 (.cells #[.string (bs a2), .string (bs b2), .string (bs c2)] 41 (0, 0)))
  have H5 := Lib.hid (And.intro (H4.out.1.below hbA) (And.intro (H4.out.2.1.below hbA) (And.intro (bel_to H4.out.2.2.1 hbA) (H4.out.2.2.2.below' hbA))))
  clear hb hbA H4
  go_wp2_with fail
  refine (HF2.out vt vc _ H5.out.2.2.1 H5.out.1 H5.out.2.1).mono ?_
  rintro e w6 ⟨vf, rfl, _, hb⟩
  have hbA := bel_to hb (bel_al w6 (.cells #[.string ⟨#[]⟩, .string ⟨#[]⟩, .string ⟨#[]⟩] 41 (0, 0)))
  have H6 := Lib.hid (And.intro (bel_to H5.out.2.2.1 hbA) (H5.out.2.2.2.below' hbA))
  clear hb hbA H5
  go_wp2_with fail
  refine (ptwo 0 0 100 4 _).mono ?_
  rintro e w7 ⟨vt, vc, rfl, ht, hc, hb⟩
  have H7 := Lib.hid (And.intro ht (And.intro hc (And.intro (bel_to H6.out.1 hb) (H6.out.2.below' hb))))
  clear ht hc hb H6
  go_wp2_with fail
  refine (HA3.out vt vc _ H7.out.2.2.1 H7.out.1 H7.out.2.1).mono ?_
  rintro e w8 ⟨rfl, hb⟩
  have H8 := Lib.hid (And.intro (H7.out.1.below hb) (And.intro (H7.out.2.1.below hb) (And.intro (bel_to H7.out.2.2.1 hb) (H7.out.2.2.2.below' hb))))
  clear hb H7
  go_wp2_with fail
  refine (HS3.out vt vc _ H8.out.2.2.1 H8.out.1 H8.out.2.1).mono ?_
  rintro e w9 ⟨rfl, hb⟩
  have hbA := bel_to hb (bel_al w9 (.cells #[.string (bs []), .string (bs [])] 72 (0, 0)))
  have H9 := Lib.hid (And.intro (H8.out.1.below hbA) (And.intro (H8.out.2.1.below hbA) (And.intro (bel_to H8.out.2.2.1 hbA) (H8.out.2.2.2.below' hbA))))
  clear hb hbA H8
  go_wp2_with fail
  refine (HB3.out vt vc _ H9.out.2.2.1 H9.out.1 H9.out.2.1).mono ?_
  rintro e w10 ⟨vb, rfl, hv, hb⟩
  obtain ⟨A, cap, rfl⟩ := hv.len
  rw [show (bx (bnds (exT.zip (exC 0 0 100 4)))).length = 8 from rfl]
  have hrow := H9.out.2.2.2.below' hb
  have q0 := hrow.cell (i := 0) rfl
  have q1 := hrow.cell (i := 1) rfl
  have HFB := Lib.hid (bel_to H9.out.2.2.1 hb)
  have heq : ∀ W : World, (binOp .eql 72 (.agg #[.string (bs [45, 52]), .string (bs [45, 50])]) (.agg #[.string (bs [45, 52]), .string (bs [45, 50])])).run Tryz.prog W = .ok (.bool true) W := fun W => by
    have h := eq_pl [45, 52] [45, 52] [45, 50] [45, 50] W
    simpa using h
  clear hv hb hrow H9 HE1 HE2 HS1 HS3 HF2 HA3 HB3
  go_wp2
  go_ret
  exact ⟨rfl, HFB.out⟩
end W
end Go.Proofs.YtfcffheboncmbaaGreatDoor
end
section
namespace Go.Proofs.YtfcffheboncmbaaGreatDoor
namespace M
theorem zip_ne {ts : List Tg} {cs : List Cc} (h : chk46 ts cs = 0) : ts.zip cs ≠ [] := by
  obtain ⟨h1, h2, h3, h4⟩ := chk46_iff.1 h
  match ts, cs, h1, h3 with
  | t :: ts, c :: cs, _, _ => simp
theorem exc_same2 {pl : Pl} {x y : Rat} (h : Sx.Exc pl x) (h2 : Sx.Exc pl y) : x = y := Rat.le_antisymm (Sx.exc_fewer h2 h fun _ h => h) (Sx.exc_fewer h h2 fun _ h => h)
end M
end Go.Proofs.YtfcffheboncmbaaGreatDoor
end
