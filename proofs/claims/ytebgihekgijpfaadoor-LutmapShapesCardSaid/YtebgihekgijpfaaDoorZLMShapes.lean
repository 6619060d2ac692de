/- The law LutmapShapes: the net that gates are made may be, with their inputs and flops, no more tables than gates and literals that are turned round; outs are the same just if literals are. · The card ties the row of columns. -/
import Derived.Test.YtebgihekgijpfaaDoorZOpenG
import Derived.Test.YtebgihekgijpfaaDoorZLive25
import Derived.Test.YtebgihekgijpfaaDoorZMapB
namespace Go.Proofs.YtebgihekgijpfaaDoor
open Go.ChangeShapes Go.WideShapes Go.ChangeAt Go.RowKit Go.Joins
set_option linter.unusedVariables false
set_option linter.unusedSimpArgs false
/-- how many literals are odd -/
def oddC (l : List Nat) : Nat := l.countP fun a => decide (a % 2 = 1)
theorem oddC_snoc (l : List Nat) (a : Nat) : oddC (l ++ [a]) = oddC l + a % 2 := by
  unfold oddC
  rw [List.countP_append, List.countP_cons]
  simp only [List.countP_nil, decide_eq_true_eq]
  split <;> omega
theorem oddC_le (l : List Nat) : oddC l ≤ l.length := List.countP_le_length
theorem takeN {α : Type} (f : α → Nat) (l : List α) {i : Nat} (h : i < l.length) : (l.map f).take (i + 1) = (l.map f).take i ++ [f l[i]] := by
  rw [List.take_succ_eq_append_getElem (by rw [List.length_map]; exact h), List.getElem_map]
theorem NT.IsMap.atO {N : NT} {G : AG} {k : Int} (h : N.IsMap G k) {i : Nat} (hi : i < G.ou.length) : N.ou.getD i 0 = ((G.mp k).at_ (G.ou.getD i 0).toNat : Int) := by
  rw [h.ou, List.getD_eq_getElem?_getD, List.getElem?_map, List.getElem?_eq_getElem hi, List.getD_eq_getElem?_getD, List.getElem?_eq_getElem hi]
  rfl
set_option maxRecDepth 100000 in
set_option maxHeartbeats 4000000 in
theorem lutmapShapes_walk (G : AG) (k : Int) (w : World) (hin : G.In w) (hwf : G.wf) (hcols : COLS w) :
    Calls Tryd.prog 3 #[.agg #[.int .i64 G.I, .slice G.AF G.fl.length G.cF, .slice G.AA G.an.length G.cA, .slice G.AO G.ou.length G.cO], .int .i64 k] w fun e w' => e = .returned (.bool true) ∧ Below w.heap.size w w' := by
  have X0 := Lib.hid (Blk.made w 26 #[.int .i64 G.I, .slice G.AF G.fl.length G.cF, .slice G.AA G.an.length G.cA, .slice G.AO G.ou.length G.cO])
  have Q0 := Lib.hid (below_new w (.cells #[.int .i64 G.I, .slice G.AF G.fl.length G.cF, .slice G.AA G.an.length G.cA, .slice G.AO G.ou.length G.cO] 26))
  have HIN := Lib.hid hin
  have HWF := Lib.hid hwf
  have HC := Lib.hid hcols
  clear hin hwf hcols
  have HF := Lib.hid (fewGates25_any G)
  go_enter Tryd.func3, Tryd.ntmps3
  go_wp2_with fail
  refine (live25_any _ (HC.out.below Q0.out)).mono ?_
  rintro e1 w1 ⟨rfl, hb1⟩
  have Q1 := Lib.hid (below_then Q0.out hb1)
  have X1 := Lib.hid (X0.out.keep hb1)
  clear hb1
  have k0 := X1.out.cell 0
  have k1 := X1.out.cell 1
  have k2 := X1.out.cell 2
  have k3 := X1.out.cell 3
  go_wp2_with fail
  refine (HF.out _).mono ?_
  rintro e1 w2 ⟨rfl, hb2⟩
  have Q2 := Lib.hid (below_then Q1.out hb2)
  have X2 := Lib.hid (X1.out.keep hb2)
  clear hb2 k0 k1 k2 k3 X1 HF
  by_cases hs : fewG25 G
  case neg =>
    rw [show decide (fewG25 G) = false from decide_eq_false hs]
    go_wp2_with fail
    go_ret
    exact ⟨rfl, Q2.out⟩
  rw [show decide (fewG25 G) = true from decide_eq_true hs]
  have HS := Lib.hid hs
  clear hs
  have k0 := X2.out.cell 0
  have k1 := X2.out.cell 1
  have k2 := X2.out.cell 2
  have k3 := X2.out.cell 3
  go_wp2_with fail
  refine (lmap25_any G k w2 (HIN.out.later Q2.out) HS.out HWF.out (HC.out.below Q2.out)).mono ?_
  rintro e1 w4 ⟨hy, hn⟩
  by_cases he : G.errM k = 0
  case neg =>
    obtain ⟨rfl, hb4⟩ := hn he
    have B4 := Lib.hid (below_then (below_then Q2.out hb4) (below_new w4 (.cells #[.int .i64 0, .slice none 0 0, .slice none 0 0, .slice none 0 0] 32)))
    generalize G.errM k = e6 at he ⊢
    have hd : (e6 != 0) = true := by rw [bne_iff_ne]; exact he
    clear hy hn hb4 k0 k1 k2 k3
    go_wp2_with fail
    go_ret
    exact ⟨rfl, B4.out⟩
  obtain ⟨N, rfl, hb4, hNin, hmap⟩ := hy he
  obtain ⟨hmm, hfit⟩ := errM_zero HS.out he
  have Q4 := Lib.hid (below_then Q2.out hb4)
  have X4 := Lib.hid (X2.out.keep hb4)
  have b5 := below_new w4 (.cells #[.int .i64 N.I, .slice N.AH N.hs.length N.cH, .slice N.AL N.ls.length N.cL, .slice N.AO N.ou.length N.cO] 32)
  have Q5 := Lib.hid (below_then Q4.out b5)
  have X5 := Lib.hid (X4.out.keep b5)
  have N5 := Lib.hid (Blk.made w4 32 #[.int .i64 N.I, .slice N.AH N.hs.length N.cH, .slice N.AL N.ls.length N.cL, .slice N.AO N.ou.length N.cO])
  have HN5 := Lib.hid (hNin.later b5)
  have HMAP := Lib.hid hmap
  have HMM := Lib.hid hmm
  have HFIT := Lib.hid hfit
  have K := Lib.hid (lcheck_any N k _ HN5.out (hmap.fit hmm HS.out hfit) (hmap.wf hmm HS.out hfit))
  rw [NT.chk_may.2 (hmap.may hmm hfit)] at K
  obtain ⟨l1, l2, l3⟩ := hmap.len
  have hcnt := (AG.mp_ok hmm).count
  have hcnt2 : N.ls.length ≤ G.an.length + oddC (G.ou.map Int.toNat ++ G.fl.map fun f => f.1.toNat) := by
    rw [l3]
    have h1 : (G.mp k).N - (G.mp k).F = G.an.length := by show G.cn - G.fst = _; unfold AG.cn; omega
    rw [h1] at hcnt
    exact hcnt
  have hI := hmap.i
  have hls := hmap.few hmm HS.out
  have HCNT := Lib.hid hcnt2
  simp only [hI, l1, l2] at K N5 Q5 X5 HN5
  rw [hI, l1, l2]
  obtain ⟨I, hII⟩ : ∃ I, G.I = I := ⟨_, rfl⟩
  obtain ⟨h, hh⟩ : ∃ h, G.fl.length = h := ⟨_, rfl⟩
  obtain ⟨no, hno⟩ : ∃ no, G.ou.length = no := ⟨_, rfl⟩
  obtain ⟨na, hna⟩ : ∃ na, G.an.length = na := ⟨_, rfl⟩
  obtain ⟨nl, hnl⟩ : ∃ nl, N.ls.length = nl := ⟨_, rfl⟩
  have HH := Lib.hid hh
  have HNO := Lib.hid hno
  have HNA := Lib.hid hna
  have HNL := Lib.hid hnl
  have L1 := Lib.hid l1
  have L2 := Lib.hid l2
  obtain ⟨AO, hAO⟩ : ∃ A, G.AO = A := ⟨_, rfl⟩
  obtain ⟨AF, hAF⟩ : ∃ A, G.AF = A := ⟨_, rfl⟩
  obtain ⟨BO, hBO⟩ : ∃ A, N.AO = A := ⟨_, rfl⟩
  obtain ⟨BF, hBF⟩ : ∃ A, N.AH = A := ⟨_, rfl⟩
  have HAO := Lib.hid hAO
  have HAF := Lib.hid hAF
  have HBO := Lib.hid hBO
  have HBF := Lib.hid hBF
  have hh3 : h ≤ 1000 := by rw [← hh]; exact hfit.f
  have hno3 : no ≤ 1000 := by rw [← hno]; exact hfit.o
  have hna3 : na ≤ 1000 := by rw [← hna]; exact hfit.a
  rw [hnl] at hls
  simp only [hII, hh, hno, hna, hnl, hAO, hAF, hBO, hBF] at K N5 Q5 X5 HN5
  rw [hII, hh, hno, hna, hnl, hAO, hAF, hBO, hBF]
  have hx0 : (I != I) = false := bne_self_eq_false' _
  have hx1 : ((h : Int) != (h : Int)) = false := bne_self_eq_false' _
  have hx3 : ((no : Int) != (no : Int)) = false := bne_self_eq_false' _
  clear hy hn hb4 hNin hmap hmm hfit b5 k0 k1 k2 k3 he l1 l2 l3 hcnt hcnt2 hI hII hh hno hna hnl hAO hAF hBO hBF X4 X2
  have j0 := N5.out.cell 0
  have j1 := N5.out.cell 1
  have j2 := N5.out.cell 2
  have j3 := N5.out.cell 3
  go_wp2_with fail
  refine K.out.mono ?_
  rintro e1 w6 ⟨rfl, hb6⟩
  have Q6 := Lib.hid (below_then Q5.out hb6)
  have X6 := Lib.hid (X5.out.keep hb6)
  have N6 := Lib.hid (N5.out.keep hb6)
  have HN6 := Lib.hid (HN5.out.later hb6)
  have HG6 := Lib.hid (HIN.out.later Q6.out)
  generalize w4.heap.size = gn at N6 ⊢
  clear hb6 K j0 j1 j2 j3
  have k0 := X6.out.cell 0
  have k1 := X6.out.cell 1
  have k2 := X6.out.cell 2
  have k3 := X6.out.cell 3
  have j0 := N6.out.cell 0
  have j1 := N6.out.cell 1
  have j2 := N6.out.cell 2
  have j3 := N6.out.cell 3
  go_wp2_with fail
  clear k0 k1 k2 k3 j0 j1 j2 j3 hx0 hx1 hx3
  go_loopw [9, 10] (fun v9 v10 wx => ∃ i : Nat, i ≤ no ∧ v10 = .int .i64 (i : Int) ∧ v9 = .int .i64 (oddC ((G.ou.map Int.toNat).take i) : Int) ∧ Below w6.heap.size w6 wx) (fun _ v10 _ => no - (intOf v10).toNat)
  case atStart => exact ⟨0, by omega, rfl, rfl, Below.refl _ _⟩
  case round =>
    obtain ⟨i, hi, rfl, rfl, hB⟩ := hrel
    have B1 := Lib.hid hB
    have X7 := Lib.hid (X6.out.keep hB)
    have k3 := X7.out.cell 3
    clear hB
    by_cases hin : i < no
    case pos =>
      have hin' : (i : Int) < (no : Int) := by omega
      have hia : i < G.ou.length := by rw [HNO.out]; exact hin
      obtain ⟨h0, h1⟩ := HMM.out.1.lit (.inl (List.getElem_mem hia))
      obtain ⟨pa, hPA, hpb, e0⟩ := (HG6.out.ou.later B1.out).int (k := i) hia
      rw [HAO.out] at hPA
      subst hPA
      rw [List.getD_eq_getElem?_getD, List.getElem?_eq_getElem hia] at e0
      have hnx := takeN Int.toNat G.ou hia
      obtain ⟨a, hga⟩ : ∃ a : Nat, G.ou[i] = (a : Int) := ⟨_, (Int.toNat_of_nonneg h0).symm⟩
      rw [hga, Int.toNat_natCast] at hnx
      have e1 : wr.cell? (pa.add i) = some (.int .i64 (a : Int)) := by rw [e0, ← hga]; rfl
      have hle := oddC_le ((G.ou.map Int.toNat).take i)
      have hle2 : ((G.ou.map Int.toNat).take i).length ≤ i := by rw [List.length_take]; omega
      obtain ⟨r, hr⟩ : ∃ r, a % 2 = r := ⟨_, rfl⟩
      have hri : (a : Int) % 2 = (r : Int) := by omega
      have hr2 : r ≤ 1 := by omega
      have hst : oddC ((G.ou.map Int.toNat).take (i + 1)) = oddC ((G.ou.map Int.toNat).take i) + r := by rw [hnx, oddC_snoc, hr]
      have HST := Lib.hid hst
      generalize oddC ((G.ou.map Int.toNat).take i) = o at hle HST ⊢
      clear e0 hnx h0 h1 hga hst hr
      go_wp2_with fail
      go_roundw
      case rel => exact ⟨i + 1, by omega, by go_num, by rw [HST.out]; go_num, B1.out⟩
      case measure => simp [intOf]; omega
    obtain rfl : i = no := by omega
    have hlt : ¬ (i : Int) < (i : Int) := by omega
    have htk : (G.ou.map Int.toNat).take i = G.ou.map Int.toNat := List.take_of_length_le (by rw [List.length_map, HNO.out]; exact Nat.le_refl _)
    rw [htk]
    clear htk
    have k1 := X7.out.cell 1
    go_wp2_with fail
    clear k1 k3 hlt hin
    have hol : oddC (G.ou.map Int.toNat) ≤ 1000 := by
      have := oddC_le (G.ou.map Int.toNat)
      rw [List.length_map, HNO.out] at this
      omega
    go_loopw [9, 11] (fun v9 v11 wx => ∃ j : Nat, j ≤ h ∧ v11 = .int .i64 (j : Int) ∧ v9 = .int .i64 (oddC (G.ou.map Int.toNat ++ (G.fl.map fun f => f.1.toNat).take j) : Int) ∧ Below w6.heap.size w6 wx) (fun _ v11 _ => h - (intOf v11).toNat)
    case atStart => exact ⟨0, by omega, rfl, by simp, B1.out⟩
    case round =>
      obtain ⟨j, hj, rfl, rfl, hB⟩ := hrel
      have B2 := Lib.hid hB
      have X8 := Lib.hid (X6.out.keep hB)
      have N8 := Lib.hid (N6.out.keep hB)
      have k1 := X8.out.cell 1
      clear hB
      by_cases hjh : j < h
      case pos =>
        have hjh' : (j : Int) < (h : Int) := by omega
        have hia : j < G.fl.length := by rw [HH.out]; exact hjh
        have hib : j < N.hs.length := by rw [L1.out]; exact hia
        obtain ⟨h0, h1⟩ := HMM.out.1.lit (.inr ⟨_, List.getElem_mem hia, rfl⟩)
        obtain ⟨g1, g2⟩ := fc_get G.fl j hia
        obtain ⟨pa, hPA, hpb, e0, e1⟩ := (HG6.out.fl.later B2.out).two g1 g2
        obtain ⟨g3, g4⟩ := fc_get N.hs j hib
        obtain ⟨pb, hPB, hpb2, f0, f1⟩ := (HN6.out.hs.later B2.out).two g3 g4
        have hinit : N.hs[j].2 = G.fl[j].2 := by
          have e := HMAP.out.hs
          have : ∀ (L : List (Int × Bool)) (hL : N.hs = L) (h2 : j < L.length), N.hs[j] = L[j] := fun L hL h2 => by subst hL; rfl
          rw [this _ e (by rw [List.length_map]; exact hia), List.getElem_map]
        rw [hinit] at f1
        rw [HAF.out] at hPA
        rw [HBF.out] at hPB
        subst hPA
        subst hPB
        have hnx := takeN (fun f : Int × Bool => f.1.toNat) G.fl hia
        obtain ⟨a, hga⟩ : ∃ a : Nat, G.fl[j].1 = (a : Int) := ⟨_, (Int.toNat_of_nonneg h0).symm⟩
        rw [hga] at e0
        simp only [hga, Int.toNat_natCast] at hnx
        generalize G.fl[j].2 = z at e1 f1
        obtain ⟨ga, hgaa⟩ : ∃ p, pa.add (j * 2) = p := ⟨_, rfl⟩
        obtain ⟨gb, hgbb⟩ : ∃ p, pb.add (j * 2) = p := ⟨_, rfl⟩
        rw [hgaa] at e0 e1
        rw [hgbb] at f1
        have hle := oddC_le (G.ou.map Int.toNat ++ (G.fl.map fun f => f.1.toNat).take j)
        have hle2 : (G.ou.map Int.toNat ++ (G.fl.map fun f => f.1.toNat).take j).length ≤ i + j := by rw [List.length_append, List.length_map, HNO.out, List.length_take]; omega
        obtain ⟨r, hr⟩ : ∃ r, a % 2 = r := ⟨_, rfl⟩
        have hri : (a : Int) % 2 = (r : Int) := by omega
        have hr2 : r ≤ 1 := by omega
        have hst : oddC (G.ou.map Int.toNat ++ (G.fl.map fun f => f.1.toNat).take (j + 1)) = oddC (G.ou.map Int.toNat ++ (G.fl.map fun f => f.1.toNat).take j) + r := by rw [hnx, ← List.append_assoc, oddC_snoc, hr]
        have HST := Lib.hid hst
        generalize oddC (G.ou.map Int.toNat ++ (G.fl.map fun f => f.1.toNat).take j) = o at hle HST ⊢
        have hzz : (z != z) = false := bne_self_eq_false' _
        have j1 := N8.out.cell 1
        clear f0 hnx h0 h1 hga hst hr g1 g2 g3 g4 hinit
        go_upto_region 21 with (fail)
        refine wp_region_still_in (by kernel_rfl) (by kernel_rfl) fun St9 ne9 V9 hV9 hS9 => ?_
        have qk1 := still_cell hV9 k1
        have qj1 := still_cell hV9 j1
        have qe1 := still_cell hV9 e1
        have qf1 := still_cell hV9 f1
        repeat (first | go_big_quiet_step (fail) | quiet_step (fail))
        refine wpQuiet_nil ?_
        intro _ hw9
        obtain ⟨s9, rfl⟩ := hw9
        have hb9 := hV9 s9
        clear qk1 qj1 qe1 qf1 hS9
        generalize V9 s9 = w9 at hb9 ⊢
        clear hV9 s9 V9 ne9 St9
        have B9 := Lib.hid (below_then B2.out hb9)
        clear hb9 e0 e1 f1 k1 j1 hzz
        go_wp2_with fail
        go_roundw
        case rel => exact ⟨j + 1, by omega, by go_num, by rw [HST.out]; go_num, B9.out⟩
        case measure => simp [intOf]; omega
      obtain rfl : j = h := by omega
      have hlt : ¬ (j : Int) < (j : Int) := by omega
      have htk : (G.fl.map fun f => f.1.toNat).take j = G.fl.map fun f => f.1.toNat := List.take_of_length_le (by rw [List.length_map, HH.out]; exact Nat.le_refl _)
      rw [htk]
      have hodd : oddC (G.ou.map Int.toNat ++ G.fl.map fun f => f.1.toNat) ≤ 2000 := by
        have := oddC_le (G.ou.map Int.toNat ++ G.fl.map fun f => f.1.toNat)
        rw [List.length_append, List.length_map, List.length_map, HNO.out, HH.out] at this
        omega
      have hcn := HCNT.out
      rw [HNL.out, HNA.out] at hcn
      generalize oddC (G.ou.map Int.toNat ++ G.fl.map fun f => f.1.toNat) = od at hodd hcn ⊢
      have HCN := Lib.hid hcn
      have k3 := X8.out.cell 3
      clear htk hcn
      go_wp2_with fail
      clear k1 k3 hlt hjh
      go_loopw [12] (fun v12 wx => ∃ a : Nat, a ≤ i ∧ v12 = .int .i64 (a : Int) ∧ Below w6.heap.size w6 wx) (fun v12 _ => i - (intOf v12).toNat)
      case atStart => exact ⟨0, by omega, rfl, B2.out⟩
      case round =>
        obtain ⟨a, ha, rfl, hB⟩ := hrel
        have B3 := Lib.hid hB
        have X9 := Lib.hid (X6.out.keep hB)
        have N9 := Lib.hid (N6.out.keep hB)
        have k3 := X9.out.cell 3
        clear hB
        by_cases hano : a < i
        case neg =>
          have hlt : ¬ (a : Int) < (i : Int) := by omega
          have k2 := X9.out.cell 2
          have j2 := N9.out.cell 2
          have hcn := HCN.out
          have hle : (nl : Int) ≤ (na : Int) + (od : Int) := by omega
          have QF := Lib.hid (below_then Q6.out B3.out)
          go_wp2_with fail
          go_ret
          exact ⟨rfl, QF.out⟩
        have hano' : (a : Int) < (i : Int) := by omega
        go_wp2_with fail
        clear k3
        go_loopw [13] (fun v13 wx => ∃ b : Nat, b ≤ a ∧ v13 = .int .i64 (b : Int) ∧ Below w6.heap.size w6 wx) (fun v13 _ => a - (intOf v13).toNat)
        case atStart => exact ⟨0, by omega, rfl, B3.out⟩
        case round =>
          obtain ⟨b, hb, rfl, hB⟩ := hrel
          have B4 := Lib.hid hB
          have X10 := Lib.hid (X6.out.keep hB)
          have N10 := Lib.hid (N6.out.keep hB)
          clear hB
          by_cases hba : b < a
          case neg =>
            have hlt : ¬ (b : Int) < (a : Int) := by omega
            go_wp2_with fail
            go_roundw
            case rel => exact ⟨a + 1, by omega, by go_num, B4.out⟩
            case measure => simp [intOf]; omega
          have hba' : (b : Int) < (a : Int) := by omega
          have k3 := X10.out.cell 3
          have j3 := N10.out.cell 3
          have hia : a < G.ou.length := by rw [HNO.out]; exact hano
          have hib : b < G.ou.length := by omega
          have hbno : (b : Int) < (i : Int) := by omega
          obtain ⟨pa, hPA, hpb, e0⟩ := (HG6.out.ou.later B4.out).int (k := a) hia
          obtain ⟨pa2, hPA2, hpb2, e1⟩ := (HG6.out.ou.later B4.out).int (k := b) hib
          obtain ⟨pb, hPB, hpb3, f0⟩ := (HN6.out.ou.later B4.out).int (k := a) (by rw [L2.out]; exact hia)
          obtain ⟨pb2, hPB2, hpb4, f1⟩ := (HN6.out.ou.later B4.out).int (k := b) (by rw [L2.out]; exact hib)
          rw [HMAP.out.atO hia] at f0
          rw [HMAP.out.atO hib] at f1
          have hgx : G.ou.getD a 0 ∈ G.ou := getD_mem hia
          have hgy : G.ou.getD b 0 ∈ G.ou := getD_mem hib
          have hgd1 := AG.mp_out (k := k) HMM.out hgx
          have hgd2 := AG.mp_out (k := k) HMM.out hgy
          have h01 := (HMM.out.1.lit (.inl hgx)).1
          have h02 := (HMM.out.1.lit (.inl hgy)).1
          have hinj := fun e => MP.at_inj (AG.mp_ok HMM.out) hgd1 hgd2 e
          rw [HAO.out] at hPA hPA2
          rw [HBO.out] at hPB hPB2
          subst hPA
          subst hPB
          obtain rfl := Option.some.inj hPA2
          obtain rfl := Option.some.inj hPB2
          generalize G.ou.getD a 0 = x at e0 f0 hinj h01
          generalize G.ou.getD b 0 = y at e1 f1 hinj h02
          have heq : (!((x == y) == (((G.mp k).at_ x.toNat : Int) == ((G.mp k).at_ y.toNat : Int)))) = false := by
            by_cases hxy : x = y
            · subst hxy
              rw [beq_self_eq_true, beq_self_eq_true]; rfl
            · have h1 : (x == y) = false := beq_eq_false_iff_ne.2 hxy
              have h2 : (((G.mp k).at_ x.toNat : Int) == ((G.mp k).at_ y.toNat : Int)) = false := beq_eq_false_iff_ne.2 (fun e => hxy (by
                have := hinj (Int.ofNat.inj e)
                omega))
              rw [h1, h2]; rfl
          generalize ((G.mp k).at_ x.toNat : Int) = x2 at f0 heq
          generalize ((G.mp k).at_ y.toNat : Int) = y2 at f1 heq
          clear hinj hgd1 hgd2 hgx hgy h01 h02
          go_wp2_with fail
          refine wp_region_still_in (by kernel_rfl) (by kernel_rfl) fun St9 ne9 V9 hV9 hS9 => ?_
          have qk3 := still_cell hV9 k3
          have qj3 := still_cell hV9 j3
          have qe0 := still_cell hV9 e0
          have qe1 := still_cell hV9 e1
          have qf0 := still_cell hV9 f0
          have qf1 := still_cell hV9 f1
          repeat (first | go_big_quiet_step (fail) | quiet_step (fail))
          refine wpQuiet_nil ?_
          intro _ hw9
          obtain ⟨s9, rfl⟩ := hw9
          have hb9 := hV9 s9
          clear qk3 qj3 qe0 qe1 qf0 qf1 hS9
          generalize V9 s9 = w9 at hb9 ⊢
          clear hV9 s9 V9 ne9 St9
          have B9 := Lib.hid (below_then B4.out hb9)
          clear hb9 e0 e1 f0 f1 k3 j3 heq
          go_wp2_with fail
          go_roundw
          case rel => exact ⟨b + 1, by omega, by go_num, B9.out⟩
          case measure => simp [intOf]; omega

set_option maxRecDepth 100000 in
theorem lutmapShapes_lifted (os : Os) (started : os.Started) (H : Type) (enc : TypeId × Value → H) :
    ReturnsInHanded {} Tryd.checked os 3 .any (fun w args => (Rows.lutmapShapesSpec.pre enc Tryd.prog Tryd.f3 [] false w args ∧ laidMetH Tryd.prog laidC w) ∧ sizedMet enc Tryd.prog Tryd.f3 (OpenSpec.ofChange Rows.lutmapShapesSpec) false w args)
      (Rows.lutmapShapesSpec.post enc Tryd.prog Tryd.f3 false true false false) := by
  have hr : ∀ t ∈ Tryd.f3.params.toList, Tryd.prog.readableRec t = true ∧ t < Tryd.prog.types.size := by
    have h : Tryd.f3.params.toList.all (fun t => Tryd.prog.readableRec t && decide (t < Tryd.prog.types.size)) = true := by kernel_rfl
    intro t ht
    simpa using List.all_eq_true.1 h t ht
  refine returnsInHanded_of_change_and (C := Tryd.checked) (X := fun w _ => laidMetH Tryd.prog laidC w) (fun _ _ _ hh h => h.of_heap hh) own started (by kernel_rfl) Tryd.func3
    (ChangeSpec.witness_shaped (enc := enc) (C := Tryd.checked) (os := os) (X := fun w _ => laidMetH Tryd.prog laidC w) false (World.doorLaid Tryd.prog 400 os) #[.agg #[.int .i64 0, .slice none 0 0, .slice none 0 0, .slice none 0 0], .int .i64 0] 8 rfl (World.shaped_of_RefB (by kernel_rfl) (by kernel_rfl)) (by kernel_rfl) (by kernel_rfl) (by kernel_rfl) (door_met os _)) ?_
  intro W base args ds gs before hval0 hW _ _ hL _
  have hcols := cols_of_laid hL
  have hval : ∀ (j : Nat) t v, Tryd.f3.params[j]? = some t → args[j]? = some v → Value.okWide Tryd.prog W .any base t v := hval0
  have hW' := hW
  obtain ⟨p, q, hA0, hV, rfl, hfz, hnd⟩ := hW
  have hA1 : DataW.TrodAll enc Tryd.prog W 0 (fun _ => true) true Tryd.f3.params.toList args.toList ds p := hA0
  have hA := hA1
  rw [Tryd.params3] at hA hval
  obtain ⟨v0, vs0, d0, ds0, p0, q0, hargs, rfl, rfl, h0, r0⟩ := trodAll_cons hA
  obtain ⟨v1, vs1, d1, ds1, p1, q1, rfl, rfl, rfl, h1, r1⟩ := trodAll_cons r0
  obtain ⟨rfl, rfl, rfl⟩ := trodAll_nil r1
  obtain rfl : args = #[v0, v1] := by cases args; simp_all
  obtain ⟨rfl, rfl⟩ := trodVars_none hV
  obtain ⟨G0, rfl, hin0, hwf0⟩ := open_aig (hval 0 26 v0 rfl rfl) h0
  obtain ⟨a1, rfl, rfl, rfl, w1⟩ := open_int Tryd.underlying3 (hval 1 3 v1 rfl rfl) h1
  clear hA0 hval0
  simp only [List.append_nil] at hW' hA1
  refine (lutmapShapes_walk G0 a1 W hin0 hwf0 hcols).mono fun e W' ⟨he, hb⟩ => ?_
  subst he
  exact ⟨_, rfl, law_post laidOut hr rfl hW' hA1 rfl rfl Tryd.underlying4 hb⟩

theorem lutmapShapes_over : Rows.lutmapShapesRow.holds Tryd.pinned (OpenSpec.ofChange Rows.lutmapShapesSpec) :=
  OpenClaim.holds_of_wide 3 Tryd.f3 rfl rfl rfl rfl rfl rfl rfl ⟨rfl, rfl, rfl, rfl, rfl⟩ rfl rfl rfl rfl rfl (by kernel_rfl) Tryd.func3 (by kernel_rfl)
    (of_decide_eq_true (by kernel_rfl)) (by unfold Func.isWrapper; first | (rw [if_pos (by decide +kernel)]; kernel_rfl) | (rw [if_neg (by decide +kernel)]; exact ⟨rfl, rfl⟩))
    (fun os started H enc _ => lutmapShapes_lifted os started H enc)

/-- the card -/
theorem lutmapShapesCard_holds : Rows.LutmapShapesCardSaid :=
  Claim7.holds_tied_plain_at .later [] [.data] true Rows.lutmapShapesCard.stood.harness false
    lutmapShapes_over (fun _ h => by cases h) (by kernel_rfl) (fun _ h => by cases h) lutmapShapes_row_tie rfl ⟨rfl, rfl⟩ (by kernel_rfl) rfl
    (fun f fn hf hfn => by
      obtain rfl : f = 3 := Option.some.inj ((show Tryd.prog.funcNamed "filigree/filigreelaw25.LutmapShapes" = some 3 by kernel_rfl).symm.trans hf) |>.symm
      obtain rfl : fn = Tryd.f3 := (Option.some.inj (Tryd.func3.symm.trans hfn)).symm
      exact ⟨by kernel_rfl, fun j t ht => by
        have hall : (Tryd.f3.params.toList.all fun u => !Tryd.prog.wantsStandIn u) = true := by kernel_rfl
        have hm : t ∈ Tryd.f3.params.toList := by
          have := Array.mem_of_getElem? ht
          simpa using this
        exact (show Tryd.prog.wantsStandIn t = false by simpa using List.all_eq_true.1 hall t hm)⟩)
    (by kernel_rfl)
#print axioms lutmapShapesCard_holds
end Go.Proofs.YtebgihekgijpfaaDoor
