/- The law LutmapDeep: the net that gates are made is just as deep as the gates' cuts tell, out by out. · The card ties the row of columns. -/
import Derived.Test.YtebgihekgijpfaaDoorZOpenG
import Derived.Test.YtebgihekgijpfaaDoorZLive25
import Derived.Test.YtebgihekgijpfaaDoorZMapD
import Derived.Test.YtebgihekgijpfaaDoorZAig
namespace Go.Proofs.YtebgihekgijpfaaDoor
open Go.ChangeShapes Go.WideShapes Go.ChangeAt Go.RowKit Go.Joins
set_option linter.unusedVariables false
set_option linter.unusedSimpArgs false
set_option maxRecDepth 100000 in
set_option maxHeartbeats 4000000 in
theorem lutmapDeep_walk (G : AG) (k : Int) (w : World) (hin : G.In w) (hwf : G.wf) (hcols : COLS w) :
    Calls Tryd.prog 6 #[.agg #[.int .i64 G.I, .slice G.AF G.fl.length G.cF, .slice G.AA G.an.length G.cA, .slice G.AO G.ou.length G.cO], .int .i64 k] w fun e w' => e = .returned (.bool true) ∧ Below w.heap.size w w' := by
  have X0 := Lib.hid (Blk.made w 26 #[.int .i64 G.I, .slice G.AF G.fl.length G.cF, .slice G.AA G.an.length G.cA, .slice G.AO G.ou.length G.cO])
  have Q0 := Lib.hid (below_new w (.cells #[.int .i64 G.I, .slice G.AF G.fl.length G.cF, .slice G.AA G.an.length G.cA, .slice G.AO G.ou.length G.cO] 26))
  have HIN := Lib.hid hin
  have HWF := Lib.hid hwf
  have HC := Lib.hid hcols
  clear hin hwf hcols
  have HF := Lib.hid (fewGates25_any G)
  go_enter Tryd.func6, Tryd.ntmps6
  go_wp2_with fail
  refine (live25_any _ (HC.out.below Q0.out)).mono ?_
  rintro e1 w1 ⟨rfl, hb1⟩
  have Q1 := Lib.hid (below_then Q0.out hb1)
  have X1 := Lib.hid (X0.out.keep hb1)
  clear hb1
  have k0 := X1.out.cell 0
  have k1 := X1.out.cell 1
  have k2 := X1.out.cell 2
  have k3 := X1.out.cell 3
  go_wp2_with fail
  refine (HF.out _).mono ?_
  rintro e1 w2 ⟨rfl, hb2⟩
  have Q2 := Lib.hid (below_then Q1.out hb2)
  have X2 := Lib.hid (X1.out.keep hb2)
  clear hb2 k0 k1 k2 k3 X1 HF
  by_cases hs : fewG25 G
  case neg =>
    rw [show decide (fewG25 G) = false from decide_eq_false hs]
    go_wp2_with fail
    go_ret
    exact ⟨rfl, Q2.out⟩
  rw [show decide (fewG25 G) = true from decide_eq_true hs]
  have HS := Lib.hid hs
  clear hs
  have k0 := X2.out.cell 0
  have k1 := X2.out.cell 1
  have k2 := X2.out.cell 2
  have k3 := X2.out.cell 3
  go_wp2_with fail
  refine (lmap25_any G k w2 (HIN.out.later Q2.out) HS.out HWF.out (HC.out.below Q2.out)).mono ?_
  rintro e1 w4 ⟨hy, hn⟩
  by_cases he : G.errM k = 0
  case neg =>
    obtain ⟨rfl, hb4⟩ := hn he
    have b5 := below_new w4 (.cells #[.int .i64 0, .slice none 0 0, .slice none 0 0, .slice none 0 0] 32)
    have B4 := Lib.hid (below_then (below_then Q2.out hb4) b5)
    have X5 := Lib.hid ((X2.out.keep hb4).keep b5)
    have KD := Lib.hid ((cdep25_any G k _ (HIN.out.later B4.out) HS.out HWF.out (HC.out.below B4.out)).mono (R' := fun r w' => r = .returned (.tuple #[.slice none 0 0, .int .i64 (G.errM k)]) ∧ Below _ _ w') fun r w' h => h.2 he)
    generalize G.errM k = e6 at he KD ⊢
    have hd : (e6 != 0) = true := by rw [bne_iff_ne]; exact he
    have he6 : (e6 == e6) = true := beq_self_eq_true _
    clear hy hn hb4 b5 k0 k1 k2 k3
    have k0 := X5.out.cell 0
    have k1 := X5.out.cell 1
    have k2 := X5.out.cell 2
    have k3 := X5.out.cell 3
    go_wp2_with fail
    refine KD.out.mono ?_
    rintro e1 w6 ⟨rfl, hb6⟩
    have Q6 := Lib.hid (below_then B4.out hb6)
    clear hb6 KD k0 k1 k2 k3
    go_wp2_with fail
    go_ret
    exact ⟨rfl, Q6.out⟩
  obtain ⟨N, rfl, hb4, hNin, hmap⟩ := hy he
  obtain ⟨hmm, hfit⟩ := errM_zero HS.out he
  have Q4 := Lib.hid (below_then Q2.out hb4)
  have X4 := Lib.hid (X2.out.keep hb4)
  have b5 := below_new w4 (.cells #[.int .i64 N.I, .slice N.AH N.hs.length N.cH, .slice N.AL N.ls.length N.cL, .slice N.AO N.ou.length N.cO] 32)
  have Q5 := Lib.hid (below_then Q4.out b5)
  have X5 := Lib.hid (X4.out.keep b5)
  have N5 := Lib.hid (Blk.made w4 32 #[.int .i64 N.I, .slice N.AH N.hs.length N.cH, .slice N.AL N.ls.length N.cL, .slice N.AO N.ou.length N.cO])
  have HN5 := Lib.hid (hNin.later b5)
  have HMAP := Lib.hid hmap
  have HMM := Lib.hid hmm
  have HFIT := Lib.hid hfit
  have KD := Lib.hid ((cdep25_any G k _ (HIN.out.later Q5.out) HS.out HWF.out (HC.out.below Q5.out)).mono (R' := fun r w' => ∃ AD cD, r = .returned (.tuple #[.slice AD G.cn cD, .int .i64 0]) ∧ Below _ _ w' ∧ Rd w' 1 AD G.cn cD (ints (G.bothTo k (G.cn - 1)).2)) fun r w' h => h.1 he)
  have hlv0 := fun (W : World) (hN : N.In W) => llevels_any N W hN (hmap.fit hmm HS.out hfit) (hmap.wf hmm HS.out hfit)
  unfold LevOut at hlv0
  rw [NT.chk_may.2 (hmap.may hmm hfit).six] at hlv0
  have hdeep := hmap.deeps hmm hfit
  have hVl : N.levV.length = G.fst + N.ls.length := by
    unfold NT.levV
    rw [if_pos (NT.chk_may.2 (hmap.may hmm hfit).six), nlTo_len, hmap.len.1, hmap.i]
    rfl
  have hdl : (G.bothTo k (G.cn - 1)).2.length = G.cn := by
    have := (G.bothTo_len k (G.cn - 1)).2
    have := G.fst_pos
    have : G.fst ≤ G.cn := Nat.le_add_right _ _
    omega
  have hatl := fun (a : Nat) (ha : (G.mp k).good a) => hmap.at_lt hmm ha
  have HDEEP := Lib.hid hdeep
  have HATL := Lib.hid hatl
  have HDL := Lib.hid hdl
  rw [hVl] at hlv0
  have HLV := Lib.hid hlv0
  obtain ⟨l1, l2, l3⟩ := hmap.len
  have hls := hmap.few hmm HS.out
  have HRC := Lib.hid (fun (W : World) (hW : G.In W) => by
    have h := rcheck18_any G W hW hfit
    rw [show G.E = 0 from if_pos hmm.1] at h
    exact h)
  simp only [l1, l2] at N5 Q5 X5 HN5 KD
  rw [l1, l2] at HLV
  rw [l1, l2]
  obtain ⟨I, hII⟩ : ∃ I : Nat, G.I = (I : Int) := ⟨G.I.toNat, by have := hmm.1.1; omega⟩
  obtain ⟨h, hh⟩ : ∃ h, G.fl.length = h := ⟨_, rfl⟩
  obtain ⟨no, hno⟩ : ∃ no, G.ou.length = no := ⟨_, rfl⟩
  obtain ⟨na, hna⟩ : ∃ na, G.an.length = na := ⟨_, rfl⟩
  obtain ⟨nl, hnl⟩ : ∃ nl, N.ls.length = nl := ⟨_, rfl⟩
  obtain ⟨F, hF⟩ : ∃ F, G.fst = F := ⟨_, rfl⟩
  obtain ⟨cn, hcn⟩ : ∃ n, G.cn = n := ⟨_, rfl⟩
  have hI3 : I ≤ 1000 := by have := hfit.i; omega
  have hh3 : h ≤ 1000 := by rw [← hh]; exact hfit.f
  have hno3 : no ≤ 1000 := by rw [← hno]; exact hfit.o
  have hna3 : na ≤ 1000 := by rw [← hna]; exact hfit.a
  have hFI : 1 + (I : Int) + (h : Int) = (F : Int) := by have : G.fst = 1 + G.I.toNat + G.fl.length := rfl; omega
  have hFC : (F : Int) + (na : Int) = (cn : Int) := by have : G.cn = G.fst + G.an.length := rfl; omega
  have HH := Lib.hid hh
  have HNO := Lib.hid hno
  have HNL := Lib.hid hnl
  have HF := Lib.hid hF
  have HCN := Lib.hid hcn
  have L1 := Lib.hid l1
  have L2 := Lib.hid l2
  obtain ⟨AO, hAO⟩ : ∃ A, G.AO = A := ⟨_, rfl⟩
  obtain ⟨AF, hAF⟩ : ∃ A, G.AF = A := ⟨_, rfl⟩
  obtain ⟨BO, hBO⟩ : ∃ A, N.AO = A := ⟨_, rfl⟩
  obtain ⟨BF, hBF⟩ : ∃ A, N.AH = A := ⟨_, rfl⟩
  have HAO := Lib.hid hAO
  have HAF := Lib.hid hAF
  have HBO := Lib.hid hBO
  have HBF := Lib.hid hBF
  have hx1 : ((h : Int) != (h : Int)) = false := bne_self_eq_false' _
  have hx3 : ((no : Int) != (no : Int)) = false := bne_self_eq_false' _
  have hx4 : ((cn : Int) != (cn : Int)) = false := bne_self_eq_false' _
  rw [hII, hh, hno, hna, hAO, hAF] at HRC
  simp only [hII, hh, hno, hna, hnl, hAO, hAF, hBO, hBF] at N5 Q5 X5 HN5 KD
  rw [hcn] at KD
  rw [hh, hno, hnl, hBO, hBF, hF] at HLV
  rw [hII, hh, hno, hna, hnl, hAO, hAF, hBO, hBF]
  clear hy hn hb4 hNin hmap hmm hfit b5 k0 k1 k2 k3 he l1 l2 l3 hlv0 hdeep hVl hdl hatl hII hh hno hna hnl hF hcn hAO hAF hBO hBF X4 X2
  have k0 := X5.out.cell 0
  have k1 := X5.out.cell 1
  have k2 := X5.out.cell 2
  have k3 := X5.out.cell 3
  go_wp2_with fail
  refine KD.out.mono ?_
  rintro e1 w6 ⟨AD, cD, rfl, hb6, hd6⟩
  have Q6 := Lib.hid (below_then Q5.out hb6)
  have X6 := Lib.hid (X5.out.keep hb6)
  have N6 := Lib.hid (N5.out.keep hb6)
  have HN6 := Lib.hid (HN5.out.later hb6)
  have D6 := Lib.hid hd6
  generalize w4.heap.size = gn at N6 ⊢
  clear hb6 hd6 KD k0 k1 k2 k3
  have j0 := N6.out.cell 0
  have j1 := N6.out.cell 1
  have j2 := N6.out.cell 2
  have j3 := N6.out.cell 3
  go_wp2_with fail
  refine (HLV.out w6 HN6.out).mono ?_
  rintro e1 w7 ⟨AL, cL, rfl, hb7, hl7⟩
  have Q7 := Lib.hid (below_then Q6.out hb7)
  have X7 := Lib.hid (X6.out.keep hb7)
  have N7 := Lib.hid (N6.out.keep hb7)
  have HN7 := Lib.hid (HN6.out.later hb7)
  have D7 := Lib.hid (D6.out.later hb7)
  have L7 := Lib.hid hl7
  clear hb7 hl7 j0 j1 j2 j3
  have k0 := X7.out.cell 0
  have k1 := X7.out.cell 1
  have k2 := X7.out.cell 2
  have k3 := X7.out.cell 3
  go_wp2_with fail
  refine (HRC.out w7 (HIN.out.later Q7.out)).mono ?_
  rintro e1 w8 ⟨rfl, hb8⟩
  have Q8 := Lib.hid (below_then Q7.out hb8)
  have X8 := Lib.hid (X7.out.keep hb8)
  have N8 := Lib.hid (N7.out.keep hb8)
  have HN8 := Lib.hid (HN7.out.later hb8)
  have HG8 := Lib.hid (HIN.out.later Q8.out)
  have D8 := Lib.hid (D7.out.later hb8)
  have L8 := Lib.hid (L7.out.later hb8)
  clear hb8 k0 k1 k2 k3
  have k0 := X8.out.cell 0
  have k1 := X8.out.cell 1
  have k2 := X8.out.cell 2
  have k3 := X8.out.cell 3
  have j0 := N8.out.cell 0
  have j1 := N8.out.cell 1
  have j2 := N8.out.cell 2
  have j3 := N8.out.cell 3
  go_wp2_with fail
  clear k0 k1 k2 k3 j0 j1 j2 j3 hx1 hx3 hx4
  go_loopw [15] (fun v15 wx => ∃ i : Nat, i ≤ no + h ∧ v15 = .int .i64 (i : Int) ∧ Below w8.heap.size w8 wx) (fun v15 _ => no + h - (intOf v15).toNat)
  case atStart => exact ⟨0, by omega, rfl, Below.refl _ _⟩
  case round =>
    obtain ⟨i, hi, rfl, hB⟩ := hrel
    have B1 := Lib.hid hB
    have X9 := Lib.hid (X8.out.keep hB)
    have N9 := Lib.hid (N8.out.keep hB)
    have k1 := X9.out.cell 1
    have k3 := X9.out.cell 3
    have QF := Lib.hid (below_then Q8.out hB)
    clear hB
    by_cases hin : i < no + h
    case neg =>
      have hlt : ¬ (i : Int) < (no : Int) + (h : Int) := by omega
      go_wp2_with fail
      go_ret
      exact ⟨rfl, QF.out⟩
    have hin' : (i : Int) < (no : Int) + (h : Int) := by omega
    -- the literal, and its node
    obtain ⟨a, hgood, hsrc⟩ : ∃ a : Nat, (G.mp k).good a ∧ ((i < no ∧ G.ou.getD i 0 = (a : Int)) ∨ (no ≤ i ∧ ∃ hj : i - no < G.fl.length, G.fl[i - no].1 = (a : Int))) := by
      by_cases hino : i < no
      · have hia : i < G.ou.length := by rw [HNO.out]; exact hino
        have hmem : G.ou.getD i 0 ∈ G.ou := getD_mem hia
        have h0 := (HMM.out.1.lit (.inl hmem)).1
        exact ⟨(G.ou.getD i 0).toNat, AG.mp_out HMM.out hmem, .inl ⟨hino, by omega⟩⟩
      · have hj : i - no < G.fl.length := by rw [HH.out]; omega
        have hmem := List.getElem_mem hj
        have h0 := (HMM.out.1.lit (.inr ⟨_, hmem, rfl⟩)).1
        exact ⟨G.fl[i - no].1.toNat, AG.mp_next HMM.out hmem, .inr ⟨by omega, hj, by omega⟩⟩
    have hdv := HDEEP.out a hgood
    have htl := HATL.out a hgood
    have hag := hgood.1
    obtain ⟨t, ht⟩ : ∃ t, (G.mp k).at_ a = t := ⟨_, rfl⟩
    have HT := Lib.hid ht
    rw [ht] at hdv htl
    have hag2 : a < 2 * G.cn := hag
    rw [HCN.out] at hag2
    rw [HF.out, HNL.out] at htl
    obtain ⟨pd, hPD, hpdb, d0⟩ := (D8.out.later B1.out).int (k := a / 2) (by omega)
    obtain ⟨pl, hPL, hplb, l0⟩ := (L8.out.later B1.out).int (k := t) htl
    subst hPD
    subst hPL
    rw [HCN.out] at hdv
    rw [hdv] at l0
    unfold litDeep at l0
    generalize (G.bothTo k (cn - 1)).2.getD (a / 2) 0 = dv at d0 l0
    obtain ⟨a2, ha2⟩ : ∃ q, a / 2 = q := ⟨_, rfl⟩
    have ha2i : (a : Int) / 2 = (a2 : Int) := by omega
    have ha2n : (a2 : Int) < (cn : Int) := by omega
    have htn : (t : Int) < ((F + nl : Nat) : Int) := by omega
    have htn2 : (t : Int) < (F : Int) + (nl : Int) := by omega
    have ht0 : ¬ (t : Int) < 0 := by omega
    rw [ha2] at d0
    have HSRC := Lib.hid hsrc
    clear hdv hag hag2 hgood hsrc ha2
    rcases HSRC.out with ⟨hino, hga⟩ | ⟨hino, hj, hga⟩
    · have hino' : (i : Int) < (no : Int) := by omega
      have hia : i < G.ou.length := by rw [HNO.out]; exact hino
      obtain ⟨pa, hPA, hpb, e0⟩ := (HG8.out.ou.later B1.out).int (k := i) hia
      obtain ⟨pb, hPB, hpb3, f0⟩ := (HN8.out.ou.later B1.out).int (k := i) (by rw [L2.out]; exact hia)
      have hno2 : N.ou.getD i 0 = (t : Int) := by
        rw [HMAP.out.ou, List.getD_eq_getElem?_getD, List.getElem?_map, List.getElem?_eq_getElem hia]
        have : G.ou[i] = (a : Int) := by rw [← hga, List.getD_eq_getElem?_getD, List.getElem?_eq_getElem hia]; rfl
        rw [this, ← HT.out]
        rfl
      rw [hga] at e0
      rw [hno2] at f0
      rw [HAO.out] at hPA
      rw [HBO.out] at hPB
      subst hPA
      subst hPB
      have j3 := N9.out.cell 3
      clear hga hno2
      go_wp2_with fail
      refine wp_region_still_in (by kernel_rfl) (by kernel_rfl) fun St9 ne9 V9 hV9 hS9 => ?_
      have qk3 := still_cell hV9 k3
      have qj3 := still_cell hV9 j3
      have qe0 := still_cell hV9 e0
      have qf0 := still_cell hV9 f0
      repeat (first | go_big_quiet_step (fail) | quiet_step (fail))
      refine wpQuiet_nil ?_
      intro _ hw9
      obtain ⟨s9, rfl⟩ := hw9
      have hb9 := hV9 s9
      clear qk3 qj3 qe0 qf0 hS9
      generalize V9 s9 = w9 at hb9 ⊢
      clear hV9 s9 V9 ne9 St9
      have B2 := Lib.hid (below_then B1.out hb9)
      have d1 := (hb9.cell (p := pd.add a2) (by rw [add_block]; exact hpdb)).trans d0
      have l1 := (hb9.cell (p := pl.add t) (by rw [add_block]; exact hplb)).trans l0
      obtain ⟨r, hr⟩ : ∃ r, a % 2 = r := ⟨_, rfl⟩
      have hri : (a : Int) % 2 = (r : Int) := by omega
      rw [hr] at l1
      have hr2 : r < 2 := by omega
      clear hb9 d0 l0 hr
      rcases (show r = 0 ∨ r = 1 by omega) with rfl | rfl
      · rw [if_neg (by decide)] at l1
        have hri0 : (a : Int) % 2 = 0 := by omega
        have hxx : (dv != dv) = false := bne_self_eq_false' _
        clear hri
        go_wp2_with fail
        go_roundw
        case rel => exact ⟨i + 1, by omega, by go_num, B2.out⟩
        case measure => simp [intOf]; omega
      · rw [if_pos rfl] at l1
        have hri0 : (a : Int) % 2 = 1 := by omega
        clear hri
        obtain ⟨x, hx⟩ : ∃ x, max dv 1 = x := ⟨_, rfl⟩
        rw [hx] at l1
        have hxx : (x != x) = false := bne_self_eq_false' _
        go_wp2_with fail
        go_roundw
        case rel => exact ⟨i + 1, by omega, by go_num, B2.out⟩
        case measure => simp [intOf]; omega
    · have hino' : ¬ (i : Int) < (no : Int) := by omega
      obtain ⟨q, hq⟩ : ∃ q, i - no = q := ⟨_, rfl⟩
      simp only [hq] at hj hga
      have hqi : (i : Int) - (no : Int) = (q : Int) := by omega
      have hqh : (q : Int) < (h : Int) := by have := HH.out; omega
      have hib : q < N.hs.length := by rw [L1.out]; exact hj
      obtain ⟨g1, g2⟩ := fc_get G.fl q hj
      obtain ⟨pa, hPA, hpb, e0, e1⟩ := (HG8.out.fl.later B1.out).two g1 g2
      obtain ⟨g3, g4⟩ := fc_get N.hs q hib
      obtain ⟨pb, hPB, hpb2, f0, f1⟩ := (HN8.out.hs.later B1.out).two g3 g4
      have hnh : N.hs[q].1 = (t : Int) := by
        have e := HMAP.out.hs
        have : ∀ (L : List (Int × Bool)) (hL : N.hs = L) (h2 : q < L.length), N.hs[q] = L[q] := fun L hL h2 => by subst hL; rfl
        rw [this _ e (by rw [List.length_map]; exact hj), List.getElem_map, ← HT.out]
        show (((G.mp k).at_ G.fl[q].1.toNat : Nat) : Int) = _
        rw [hga]
        rfl
      rw [hga] at e0
      rw [hnh] at f0
      rw [HAF.out] at hPA
      rw [HBF.out] at hPB
      subst hPA
      subst hPB
      obtain ⟨ga, hgaa⟩ : ∃ p, pa.add (q * 2) = p := ⟨_, rfl⟩
      obtain ⟨gb, hgbb⟩ : ∃ p, pb.add (q * 2) = p := ⟨_, rfl⟩
      rw [hgaa] at e0
      rw [hgbb] at f0
      have hwr : IntKind.i64.wrap (q : Int) = (q : Int) := IntWalk.i64_in _ (by omega)
      have j1 := N9.out.cell 1
      clear hga hnh e1 f1 g1 g2 g3 g4
      go_wp2_with fail
      refine wp_region_still_in (by kernel_rfl) (by kernel_rfl) fun St9 ne9 V9 hV9 hS9 => ?_
      have qk1 := still_cell hV9 k1
      have qk3 := still_cell hV9 k3
      have qj1 := still_cell hV9 j1
      have qe0 := still_cell hV9 e0
      have qf0 := still_cell hV9 f0
      repeat (first | go_big_quiet_step (fail) | quiet_step (fail))
      refine wpQuiet_nil ?_
      intro _ hw9
      obtain ⟨s9, rfl⟩ := hw9
      have hb9 := hV9 s9
      clear qk1 qk3 qj1 qe0 qf0 hS9
      generalize V9 s9 = w9 at hb9 ⊢
      clear hV9 s9 V9 ne9 St9
      have B2 := Lib.hid (below_then B1.out hb9)
      have d1 := (hb9.cell (p := pd.add a2) (by rw [add_block]; exact hpdb)).trans d0
      have l1 := (hb9.cell (p := pl.add t) (by rw [add_block]; exact hplb)).trans l0
      obtain ⟨r, hr⟩ : ∃ r, a % 2 = r := ⟨_, rfl⟩
      have hri : (a : Int) % 2 = (r : Int) := by omega
      rw [hr] at l1
      have hr2 : r < 2 := by omega
      clear hb9 d0 l0 hr
      rcases (show r = 0 ∨ r = 1 by omega) with rfl | rfl
      · rw [if_neg (by decide)] at l1
        have hri0 : (a : Int) % 2 = 0 := by omega
        have hxx : (dv != dv) = false := bne_self_eq_false' _
        clear hri
        go_wp2_with fail
        go_roundw
        case rel => exact ⟨i + 1, by omega, by go_num, B2.out⟩
        case measure => simp [intOf]; omega
      · rw [if_pos rfl] at l1
        have hri0 : (a : Int) % 2 = 1 := by omega
        clear hri
        obtain ⟨x, hx⟩ : ∃ x, max dv 1 = x := ⟨_, rfl⟩
        rw [hx] at l1
        have hxx : (x != x) = false := bne_self_eq_false' _
        go_wp2_with fail
        go_roundw
        case rel => exact ⟨i + 1, by omega, by go_num, B2.out⟩
        case measure => simp [intOf]; omega

set_option maxRecDepth 100000 in
theorem lutmapDeep_lifted (os : Os) (started : os.Started) (H : Type) (enc : TypeId × Value → H) :
    ReturnsInHanded {} Tryd.checked os 6 .any (fun w args => (Rows.lutmapDeepSpec.pre enc Tryd.prog Tryd.f6 [] false w args ∧ laidMetH Tryd.prog laidC w) ∧ sizedMet enc Tryd.prog Tryd.f6 (OpenSpec.ofChange Rows.lutmapDeepSpec) false w args)
      (Rows.lutmapDeepSpec.post enc Tryd.prog Tryd.f6 false true false false) := by
  have hr : ∀ t ∈ Tryd.f6.params.toList, Tryd.prog.readableRec t = true ∧ t < Tryd.prog.types.size := by
    have h : Tryd.f6.params.toList.all (fun t => Tryd.prog.readableRec t && decide (t < Tryd.prog.types.size)) = true := by kernel_rfl
    intro t ht
    simpa using List.all_eq_true.1 h t ht
  refine returnsInHanded_of_change_and (C := Tryd.checked) (X := fun w _ => laidMetH Tryd.prog laidC w) (fun _ _ _ hh h => h.of_heap hh) own started (by kernel_rfl) Tryd.func6
    (ChangeSpec.witness_shaped (enc := enc) (C := Tryd.checked) (os := os) (X := fun w _ => laidMetH Tryd.prog laidC w) false (World.doorLaid Tryd.prog 400 os) #[.agg #[.int .i64 0, .slice none 0 0, .slice none 0 0, .slice none 0 0], .int .i64 0] 8 rfl (World.shaped_of_RefB (by kernel_rfl) (by kernel_rfl)) (by kernel_rfl) (by kernel_rfl) (by kernel_rfl) (door_met os _)) ?_
  intro W base args ds gs before hval0 hW _ _ hL _
  have hcols := cols_of_laid hL
  have hval : ∀ (j : Nat) t v, Tryd.f6.params[j]? = some t → args[j]? = some v → Value.okWide Tryd.prog W .any base t v := hval0
  have hW' := hW
  obtain ⟨p, q, hA0, hV, rfl, hfz, hnd⟩ := hW
  have hA1 : DataW.TrodAll enc Tryd.prog W 0 (fun _ => true) true Tryd.f6.params.toList args.toList ds p := hA0
  have hA := hA1
  rw [Tryd.params6] at hA hval
  obtain ⟨v0, vs0, d0, ds0, p0, q0, hargs, rfl, rfl, h0, r0⟩ := trodAll_cons hA
  obtain ⟨v1, vs1, d1, ds1, p1, q1, rfl, rfl, rfl, h1, r1⟩ := trodAll_cons r0
  obtain ⟨rfl, rfl, rfl⟩ := trodAll_nil r1
  obtain rfl : args = #[v0, v1] := by cases args; simp_all
  obtain ⟨rfl, rfl⟩ := trodVars_none hV
  obtain ⟨G0, rfl, hin0, hwf0⟩ := open_aig (hval 0 26 v0 rfl rfl) h0
  obtain ⟨a1, rfl, rfl, rfl, w1⟩ := open_int Tryd.underlying3 (hval 1 3 v1 rfl rfl) h1
  clear hA0 hval0
  simp only [List.append_nil] at hW' hA1
  refine (lutmapDeep_walk G0 a1 W hin0 hwf0 hcols).mono fun e W' ⟨he, hb⟩ => ?_
  subst he
  exact ⟨_, rfl, law_post laidOut hr rfl hW' hA1 rfl rfl Tryd.underlying4 hb⟩

theorem lutmapDeep_over : Rows.lutmapDeepRow.holds Tryd.pinned (OpenSpec.ofChange Rows.lutmapDeepSpec) :=
  OpenClaim.holds_of_wide 6 Tryd.f6 rfl rfl rfl rfl rfl rfl rfl ⟨rfl, rfl, rfl, rfl, rfl⟩ rfl rfl rfl rfl rfl (by kernel_rfl) Tryd.func6 (by kernel_rfl)
    (of_decide_eq_true (by kernel_rfl)) (by unfold Func.isWrapper; first | (rw [if_pos (by decide +kernel)]; kernel_rfl) | (rw [if_neg (by decide +kernel)]; exact ⟨rfl, rfl⟩))
    (fun os started H enc _ => lutmapDeep_lifted os started H enc)

/-- the card -/
theorem lutmapDeepCard_holds : Rows.LutmapDeepCardSaid :=
  Claim7.holds_tied_plain_at .later [] [.data] true Rows.lutmapDeepCard.stood.harness false
    lutmapDeep_over (fun _ h => by cases h) (by kernel_rfl) (fun _ h => by cases h) lutmapDeep_row_tie rfl ⟨rfl, rfl⟩ (by kernel_rfl) rfl
    (fun f fn hf hfn => by
      obtain rfl : f = 6 := Option.some.inj ((show Tryd.prog.funcNamed "filigree/filigreelaw25.LutmapDeep" = some 6 by kernel_rfl).symm.trans hf) |>.symm
      obtain rfl : fn = Tryd.f6 := (Option.some.inj (Tryd.func6.symm.trans hfn)).symm
      exact ⟨by kernel_rfl, fun j t ht => by
        have hall : (Tryd.f6.params.toList.all fun u => !Tryd.prog.wantsStandIn u) = true := by kernel_rfl
        have hm : t ∈ Tryd.f6.params.toList := by
          have := Array.mem_of_getElem? ht
          simpa using this
        exact (show Tryd.prog.wantsStandIn t = false by simpa using List.all_eq_true.1 hall t hm)⟩)
    (by kernel_rfl)
#print axioms lutmapDeepCard_holds
end Go.Proofs.YtebgihekgijpfaaDoor
