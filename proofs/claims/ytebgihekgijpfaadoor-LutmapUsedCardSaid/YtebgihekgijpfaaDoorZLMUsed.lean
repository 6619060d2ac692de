/- The law LutmapUsed: each table is used, and none of them hangs on node 0. · The card ties the row of columns. -/
import Derived.Test.YtebgihekgijpfaaDoorZOpenG
import Derived.Test.YtebgihekgijpfaaDoorZLive25
import Derived.Test.YtebgihekgijpfaaDoorZMapB
import Derived.Test.YtebgihekgijpfaaDoorZR25C
import Derived.Test.YtebgihekgijpfaaDoorZLLev
import Derived.Test.YtebgihekgijpfaaDoorZMapW
namespace Go.Proofs.YtebgihekgijpfaaDoor
open Go.ChangeShapes Go.WideShapes Go.ChangeAt Go.RowKit Go.Joins
set_option linter.unusedVariables false
set_option linter.unusedSimpArgs false
theorem bool_infoU : (Tryd.prog.info? 4).map (fun i => (i.zero, i.size, i.bytes)) = some (some (.bool false), 1, 1) := by kernel_rfl
theorem set_true {U : List Bool} {x y : Nat} (h : U.getD y false = true ∨ (y = x ∧ x < U.length)) : (U.set x true).getD y false = true := by
  rw [getD_setN]
  split
  · rfl
  · rename_i hn
    rcases h with h | h
    · exact h
    · exact absurd h hn
/-- what is told uses a table, or one behind it does -/
theorem NT.IsMap.used {N : NT} {G : AG} {k : Int} (h : N.IsMap G k) (hm : G.ok ∧ 2 ≤ k ∧ k ≤ 6) {i : Nat} (hi : i < N.ls.length) : (∃ q, q < N.ou.length ∧ N.ou.getD q 0 = ((G.fst + i : Nat) : Int)) ∨ (∃ q, ∃ hq : q < N.hs.length, N.hs[q].1 = ((G.fst + i : Nat) : Int)) ∨ ∃ j, ∃ hj : j < N.ls.length, i < j ∧ ((G.fst + i : Nat) : Int) ∈ N.ls[j].1.2.2 := by
  have hil : i < (G.mp k).lits.length := by rw [← h.len.2.2]; exact hi
  rcases (AG.mp_ok hm).used hil with ⟨a, ha, e⟩ | ⟨j, hj, hij, hmem⟩
  · have ha' : a ∈ G.ou.map Int.toNat ++ G.fl.map (fun f => f.1.toNat) := ha
    rcases List.mem_append.1 ha' with ha2 | ha2
    · obtain ⟨b, hb, rfl⟩ := List.mem_map.1 ha2
      have hm2 : (((G.mp k).at_ b.toNat : Nat) : Int) ∈ N.ou := by rw [h.ou]; exact List.mem_map.2 ⟨b, hb, rfl⟩
      obtain ⟨q, hq, e2⟩ := List.mem_iff_getElem.1 hm2
      refine .inl ⟨q, hq, ?_⟩
      rw [List.getD_eq_getElem?_getD, List.getElem?_eq_getElem hq]
      show N.ou[q] = _
      rw [e2, e]; rfl
    · obtain ⟨f, hf, rfl⟩ := List.mem_map.1 ha2
      have hm2 : ((((G.mp k).at_ f.1.toNat : Nat) : Int), f.2) ∈ N.hs := by rw [h.hs]; exact List.mem_map.2 ⟨f, hf, rfl⟩
      obtain ⟨q, hq, e2⟩ := List.mem_iff_getElem.1 hm2
      refine .inr (.inl ⟨q, hq, ?_⟩)
      rw [e2]
      show (((G.mp k).at_ f.1.toNat : Nat) : Int) = _
      rw [e]; rfl
  · have hjn : j < N.ls.length := by rw [h.len.2.2]; exact hj
    obtain ⟨hl, e⟩ := h.lut_at hjn
    refine .inr (.inr ⟨j, hjn, hij, ?_⟩)
    rw [← e] at hmem
    exact hmem
theorem NT.IsMap.in_pos {N : NT} {G : AG} {k : Int} (h : N.IsMap G k) (hm : G.ok ∧ 2 ≤ k ∧ k ≤ 6) {i : Nat} (hi : i < N.ls.length) : ∀ y ∈ N.ls[i].1.2.2, 1 ≤ y ∧ y < ((G.fst + i : Nat) : Int) := by
  obtain ⟨hl, e⟩ := h.lut_at hi
  obtain ⟨-, h2, h3⟩ := (AG.mp_ok hm).lits_at hl
  have hin := (AG.mp_ok hm).lut_in h2
  rw [h3] at hin
  intro y hy
  exact hin y (by rw [← e]; exact hy)
set_option maxRecDepth 100000 in
set_option maxHeartbeats 4000000 in
theorem lutmapUsed_walk (G : AG) (k : Int) (w : World) (hin : G.In w) (hwf : G.wf) (hcols : COLS w) :
    Calls Tryd.prog 4 #[.agg #[.int .i64 G.I, .slice G.AF G.fl.length G.cF, .slice G.AA G.an.length G.cA, .slice G.AO G.ou.length G.cO], .int .i64 k] w fun e w' => e = .returned (.bool true) ∧ Below w.heap.size w w' := by
  have X0 := Lib.hid (Blk.made w 26 #[.int .i64 G.I, .slice G.AF G.fl.length G.cF, .slice G.AA G.an.length G.cA, .slice G.AO G.ou.length G.cO])
  have Q0 := Lib.hid (below_new w (.cells #[.int .i64 G.I, .slice G.AF G.fl.length G.cF, .slice G.AA G.an.length G.cA, .slice G.AO G.ou.length G.cO] 26))
  have HIN := Lib.hid hin
  have HWF := Lib.hid hwf
  have HC := Lib.hid hcols
  clear hin hwf hcols
  have HF := Lib.hid (fewGates25_any G)
  go_enter Tryd.func4, Tryd.ntmps4
  go_wp2_with fail
  refine (live25_any _ (HC.out.below Q0.out)).mono ?_
  rintro e1 w1 ⟨rfl, hb1⟩
  have Q1 := Lib.hid (below_then Q0.out hb1)
  have X1 := Lib.hid (X0.out.keep hb1)
  clear hb1
  have k0 := X1.out.cell 0
  have k1 := X1.out.cell 1
  have k2 := X1.out.cell 2
  have k3 := X1.out.cell 3
  go_wp2_with fail
  refine (HF.out _).mono ?_
  rintro e1 w2 ⟨rfl, hb2⟩
  have Q2 := Lib.hid (below_then Q1.out hb2)
  have X2 := Lib.hid (X1.out.keep hb2)
  clear hb2 k0 k1 k2 k3 X1 HF
  by_cases hs : fewG25 G
  case neg =>
    rw [show decide (fewG25 G) = false from decide_eq_false hs]
    go_wp2_with fail
    go_ret
    exact ⟨rfl, Q2.out⟩
  rw [show decide (fewG25 G) = true from decide_eq_true hs]
  have HS := Lib.hid hs
  clear hs
  have k0 := X2.out.cell 0
  have k1 := X2.out.cell 1
  have k2 := X2.out.cell 2
  have k3 := X2.out.cell 3
  go_wp2_with fail
  refine (lmap25_any G k w2 (HIN.out.later Q2.out) HS.out HWF.out (HC.out.below Q2.out)).mono ?_
  rintro e1 w4 ⟨hy, hn⟩
  by_cases he : G.errM k = 0
  case neg =>
    obtain ⟨rfl, hb4⟩ := hn he
    have B4 := Lib.hid (below_then (below_then Q2.out hb4) (below_new w4 (.cells #[.int .i64 0, .slice none 0 0, .slice none 0 0, .slice none 0 0] 32)))
    generalize G.errM k = e6 at he ⊢
    have hd : (e6 != 0) = true := by rw [bne_iff_ne]; exact he
    clear hy hn hb4 k0 k1 k2 k3
    go_wp2_with fail
    go_ret
    exact ⟨rfl, B4.out⟩
  obtain ⟨N, rfl, hb4, hNin, hmap⟩ := hy he
  obtain ⟨hmm, hfit⟩ := errM_zero HS.out he
  have Q4 := Lib.hid (below_then Q2.out hb4)
  have X4 := Lib.hid (X2.out.keep hb4)
  have b5 := below_new w4 (.cells #[.int .i64 N.I, .slice N.AH N.hs.length N.cH, .slice N.AL N.ls.length N.cL, .slice N.AO N.ou.length N.cO] 32)
  have Q5 := Lib.hid (below_then Q4.out b5)
  have X5 := Lib.hid (X4.out.keep b5)
  have N5 := Lib.hid (Blk.made w4 32 #[.int .i64 N.I, .slice N.AH N.hs.length N.cH, .slice N.AL N.ls.length N.cL, .slice N.AO N.ou.length N.cO])
  have HN5 := Lib.hid (hNin.later b5)
  have HMAP := Lib.hid hmap
  have HMM := Lib.hid hmm
  have HFIT := Lib.hid hfit
  have K := Lib.hid (rcheck25_any N k _ HN5.out (hmap.fit hmm HS.out hfit) (hmap.wf hmm HS.out hfit))
  rw [NT.chk_may.2 (hmap.may hmm hfit)] at K
  obtain ⟨l1, l2, l3⟩ := hmap.len
  have hls := hmap.few hmm HS.out
  have hok := (hmap.may hmm hfit).ok
  have htot : N.tot = ((G.fst + N.ls.length : Nat) : Int) := by unfold NT.tot; rw [hmap.fst hmm.1]; omega
  unfold NT.okk at hok
  rw [htot] at hok
  have HOKK := Lib.hid (show (∀ h ∈ N.hs, nodeB ((G.fst + N.ls.length : Nat) : Int) h.1 = true) ∧ ∀ x ∈ N.ou, nodeB ((G.fst + N.ls.length : Nat) : Int) x = true from hok.2)
  have HUSED := Lib.hid (fun (i : Nat) (hi : i < N.ls.length) => hmap.used hmm hi)
  have HPOS := Lib.hid (fun (i : Nat) (hi : i < N.ls.length) => hmap.in_pos hmm hi)
  have HLI := Lib.hid (hmap.fit hmm HS.out hfit).li
  have hI := hmap.i
  obtain ⟨I, hII⟩ : ∃ I : Nat, N.I = (I : Int) := ⟨G.I.toNat, by have := hmm.1.1; omega⟩
  obtain ⟨h, hh⟩ : ∃ h, N.hs.length = h := ⟨_, rfl⟩
  obtain ⟨no, hno⟩ : ∃ no, N.ou.length = no := ⟨_, rfl⟩
  obtain ⟨nl, hnl⟩ : ∃ nl, N.ls.length = nl := ⟨_, rfl⟩
  obtain ⟨F, hF⟩ : ∃ F, G.fst = F := ⟨_, rfl⟩
  have hI3 : I ≤ 1000 := by have := hfit.i; omega
  have hh3 : h ≤ 1000 := by rw [← hh, l1]; exact hfit.f
  have hno3 : no ≤ 1000 := by rw [← hno, l2]; exact hfit.o
  have hFI : 1 + (I : Int) + (h : Int) = (F : Int) := by have : G.fst = 1 + G.I.toNat + G.fl.length := rfl; omega
  have HH := Lib.hid hh
  have HNO := Lib.hid hno
  have HNL := Lib.hid hnl
  have HF := Lib.hid hF
  obtain ⟨BO, hBO⟩ : ∃ A, N.AO = A := ⟨_, rfl⟩
  obtain ⟨BF, hBF⟩ : ∃ A, N.AH = A := ⟨_, rfl⟩
  obtain ⟨BL, hBL⟩ : ∃ A, N.AL = A := ⟨_, rfl⟩
  have HBO := Lib.hid hBO
  have HBF := Lib.hid hBF
  have HBL := Lib.hid hBL
  rw [hnl] at hls
  simp only [hII, hh, hno, hnl, hBO, hBF, hBL] at K N5 Q5 HN5
  rw [hII, hh, hno, hnl, hBO, hBF, hBL]
  clear hy hn hb4 hNin hmap hmm hfit b5 k0 k1 k2 k3 he l1 l2 l3 hok htot hI hII hh hno hnl hF hBO hBF hBL X4 X2 X5
  have j0 := N5.out.cell 0
  have j1 := N5.out.cell 1
  have j2 := N5.out.cell 2
  have j3 := N5.out.cell 3
  go_wp2_with fail
  refine K.out.mono ?_
  rintro e1 w6 ⟨rfl, hb6⟩
  have Q6 := Lib.hid (below_then Q5.out hb6)
  have N6 := Lib.hid (N5.out.keep hb6)
  have HN6 := Lib.hid (HN5.out.later hb6)
  generalize w4.heap.size = gn at N6 ⊢
  clear hb6 K j0 j1 j2 j3
  have j0 := N6.out.cell 0
  have j1 := N6.out.cell 1
  have j2 := N6.out.cell 2
  have j3 := N6.out.cell 3
  obtain ⟨i0, hi0, hz0, hz1, hz2⟩ := info_parts bool_infoU
  have HI0 := Lib.hid hi0
  have HZ0 := Lib.hid hz0
  have HZ1 := Lib.hid hz1
  have HZ2 := Lib.hid hz2
  clear hi0 hz0 hz1 hz2
  obtain ⟨m, hm⟩ : ∃ m, F + nl = m := ⟨_, rfl⟩
  have hmi : (F : Int) + (nl : Int) = (m : Int) := by omega
  have hm3 : m ≤ 10000 := by omega
  have HMM2 := Lib.hid hm
  clear hm
  go_wp2_with ((with_reducible refine wpList_make_part _ rfl (.tmp 50) (.tmp 50) 42 rfl 4 i0 (.bool false) Tryd.underlying42 HI0.out HZ0.out HZ1.out rfl .i64 .i64 _ _ m m rfl rfl (by omega) (by omega) (Nat.le_refl _) ?c1 (by omega) ?_))
  case c1 => rw [HZ2.out]; omega
  intro w7 hown7 hb7
  have N7 : BitsB w7 w6.heap.size (List.replicate m false) := by
    have h := blk_of_own hown7
    rw [show List.replicate m (Value.bool false) = bools (List.replicate m false) by simp [bools]] at h
    exact h
  have U7 := Lib.hid N7
  have B7 := Lib.hid hb7
  clear hown7 N7 hb7 j0 j1 j2 j3 hmi
  have j3 := (N6.out.keep B7.out).cell 3
  go_wp2_with fail
  clear j3
  go_loopw [12] (fun v12 wx => ∃ (i : Nat) (U : List Bool), i ≤ no ∧ v12 = .int .i64 (i : Int) ∧ U.length = m ∧ (∀ q, q < i → U.getD (N.ou.getD q 0).toNat false = true) ∧ BitsB wx w6.heap.size U ∧ Below w6.heap.size w6 wx) (fun v12 _ => no - (intOf v12).toNat)
  case atStart => exact ⟨0, _, by omega, rfl, List.length_replicate, fun q hq => absurd hq (Nat.not_lt_zero _), U7.out, B7.out⟩
  case round =>
    obtain ⟨i, U, hi, rfl, hU, hmk, hbt, hB⟩ := hrel
    have B1 := Lib.hid hB
    have T1 := Lib.hid hbt
    have M1 := Lib.hid hmk
    have HU := Lib.hid hU
    have j3 := (N6.out.keep hB).cell 3
    clear hB hbt hmk hU
    by_cases hin : i < no
    case pos =>
      have hin' : (i : Int) < (no : Int) := by omega
      have hia : i < N.ou.length := by rw [HNO.out]; exact hin
      have hnd := HOKK.out.2 _ (getD_mem hia)
      simp only [nodeB, Bool.and_eq_true, decide_eq_true_eq] at hnd
      obtain ⟨pa, hPA, hpb, e0⟩ := (HN6.out.ou.later B1.out).int (k := i) hia
      rw [HBO.out] at hPA
      subst hPA
      obtain ⟨t, ht⟩ : ∃ t : Nat, N.ou.getD i 0 = (t : Int) := ⟨(N.ou.getD i 0).toNat, by omega⟩
      have htm : t < m := by have := HMM2.out; have := HF.out; have := HNL.out; omega
      have HT := Lib.hid ht
      rw [ht] at e0
      have htm' : (t : Int) < (m : Int) := by omega
      have d0 := BitsB.at_ T1.out (a := t) (by rw [HU.out]; exact htm)
      have f0 := T1.out.free t
      have T2 := Lib.hid (BitsB.set T1.out t true)
      have B2 := Lib.hid (B1.out.setCell (p := ⟨w6.heap.size, t, none⟩) (Nat.le_refl _) (.bool true))
      clear hnd ht
      go_wp2_with fail
      go_roundw
      case rel =>
        refine ⟨i + 1, _, by omega, by go_num, by rw [List.length_set]; exact HU.out, fun q hq => set_true ?_, T2.out, B2.out⟩
        rcases Nat.lt_succ_iff_lt_or_eq.1 hq with h1 | rfl
        · exact .inl (M1.out q h1)
        · exact .inr ⟨by rw [HT.out]; rfl, by rw [HU.out]; exact htm⟩
      case measure => simp [intOf]; omega
    obtain rfl : i = no := by omega
    have hlt : ¬ (i : Int) < (i : Int) := by omega
    have j1 := (N6.out.keep B1.out).cell 1
    go_wp2_with fail
    clear j1 j3 hlt hin
    go_loopw [13] (fun v13 wx => ∃ (j : Nat) (U : List Bool), j ≤ h ∧ v13 = .int .i64 (j : Int) ∧ U.length = m ∧ (∀ q, q < i → U.getD (N.ou.getD q 0).toNat false = true) ∧ (∀ q, q < j → ∀ hq : q < N.hs.length, U.getD N.hs[q].1.toNat false = true) ∧ BitsB wx w6.heap.size U ∧ Below w6.heap.size w6 wx) (fun v13 _ => h - (intOf v13).toNat)
    case atStart => exact ⟨0, U, by omega, rfl, HU.out, M1.out, fun q hq => absurd hq (Nat.not_lt_zero _), T1.out, B1.out⟩
    case round =>
      obtain ⟨j, U2, hj, rfl, hU, hmk, hmk2, hbt, hB⟩ := hrel
      have B3 := Lib.hid hB
      have T3 := Lib.hid hbt
      have M3 := Lib.hid hmk
      have M4 := Lib.hid hmk2
      have HU3 := Lib.hid hU
      have j1 := (N6.out.keep hB).cell 1
      clear hB hbt hmk hmk2 hU
      by_cases hjh : j < h
      case pos =>
        have hjh' : (j : Int) < (h : Int) := by omega
        have hia : j < N.hs.length := by rw [HH.out]; exact hjh
        have hnd := HOKK.out.1 _ (List.getElem_mem hia)
        simp only [nodeB, Bool.and_eq_true, decide_eq_true_eq] at hnd
        obtain ⟨g1, g2⟩ := fc_get N.hs j hia
        obtain ⟨pa, hPA, hpb, e0, e1⟩ := (HN6.out.hs.later B3.out).two g1 g2
        rw [HBF.out] at hPA
        subst hPA
        obtain ⟨t, ht⟩ : ∃ t : Nat, N.hs[j].1 = (t : Int) := ⟨N.hs[j].1.toNat, by omega⟩
        have htm : t < m := by have := HMM2.out; have := HF.out; have := HNL.out; omega
        have HT := Lib.hid ht
        rw [ht] at e0
        obtain ⟨ga, hgaa⟩ : ∃ p, pa.add (j * 2) = p := ⟨_, rfl⟩
        rw [hgaa] at e0
        have htm' : (t : Int) < (m : Int) := by omega
        have d0 := BitsB.at_ T3.out (a := t) (by rw [HU3.out]; exact htm)
        have f0 := T3.out.free t
        have T4 := Lib.hid (BitsB.set T3.out t true)
        have B4 := Lib.hid (B3.out.setCell (p := ⟨w6.heap.size, t, none⟩) (Nat.le_refl _) (.bool true))
        clear hnd ht e1 g1 g2
        go_wp2_with fail
        go_roundw
        case rel =>
          refine ⟨j + 1, _, by omega, by go_num, by rw [List.length_set]; exact HU3.out, fun q hq => set_true (.inl (M3.out q hq)), fun q hq hql => set_true ?_, T4.out, B4.out⟩
          rcases Nat.lt_succ_iff_lt_or_eq.1 hq with h1 | rfl
          · exact .inl (M4.out q h1 hql)
          · exact .inr ⟨by rw [HT.out]; rfl, by rw [HU3.out]; exact htm⟩
        case measure => simp [intOf]; omega
      obtain rfl : j = h := by omega
      have hlt : ¬ (j : Int) < (j : Int) := by omega
      have j2 := (N6.out.keep B3.out).cell 2
      go_wp2_with fail
      clear j1 j2 hlt hjh
      go_loopw [14] (fun v14 wx => ∃ (r : Nat) (y : Int) (U : List Bool), r ≤ nl ∧ y = (r : Int) - 1 ∧ v14 = .int .i64 y ∧ U.length = m ∧ (∀ q, q < i → U.getD (N.ou.getD q 0).toNat false = true) ∧ (∀ q, q < j → ∀ hq : q < N.hs.length, U.getD N.hs[q].1.toNat false = true) ∧ (∀ q, r ≤ q → ∀ hq : q < N.ls.length, ∀ x ∈ N.ls[q].1.2.2, U.getD x.toNat false = true) ∧ BitsB wx w6.heap.size U ∧ Below w6.heap.size w6 wx) (fun v14 _ => (intOf v14 + 1).toNat)
      case atStart => exact ⟨nl, (nl : Int) - 1, U2, by omega, rfl, rfl, HU3.out, M3.out, M4.out, fun q hq hql => absurd hql (by rw [HNL.out]; omega), T3.out, B3.out⟩
      case round =>
        obtain ⟨r, y, U3, hr, hy, rfl, hU, hmk, hmk2, hmk3, hbt, hB⟩ := hrel
        have B5 := Lib.hid hB
        have T5 := Lib.hid hbt
        have M5 := Lib.hid hmk
        have M6 := Lib.hid hmk2
        have M7 := Lib.hid hmk3
        have HU5 := Lib.hid hU
        have j2 := (N6.out.keep hB).cell 2
        have QF := Lib.hid (below_then Q6.out hB)
        clear hB hbt hmk hmk2 hmk3 hU
        by_cases hr0 : r = 0
        case pos =>
          have hlt : ¬ 0 ≤ y := by omega
          clear hy
          go_wp2_with fail
          go_ret
          exact ⟨rfl, QF.out⟩
        obtain ⟨x, rfl⟩ : ∃ x, r = x + 1 := ⟨r - 1, by omega⟩
        obtain rfl : y = (x : Int) := by omega
        have hge : 0 ≤ (x : Int) := by omega
        have hxl : (x : Int) < (nl : Int) := by omega
        have hxn : x < N.ls.length := by rw [HNL.out]; omega
        obtain ⟨t, ht⟩ : ∃ t, F + x = t := ⟨_, rfl⟩
        have hti : (F : Int) + (x : Int) = (t : Int) := by omega
        have htm : t < m := by have := HMM2.out; omega
        have htm' : (t : Int) < (m : Int) := by omega
        have hused : U3.getD t false = true := by
          rcases HUSED.out x hxn with ⟨q, hq, e⟩ | ⟨q, hq, e⟩ | ⟨q, hq, hqx, e⟩
          · have := M5.out q (by rw [← HNO.out]; exact hq)
            rw [e, HF.out, ht] at this
            exact this
          · have := M6.out q (by rw [← HH.out]; exact hq) hq
            rw [e, HF.out, ht] at this
            exact this
          · have := M7.out q (by omega) hq _ e
            rw [HF.out, ht] at this
            exact this
        have d0 := BitsB.at_ T5.out (a := t) (by rw [HU5.out]; exact htm)
        rw [hused] at d0
        obtain ⟨ua, hua, hub, f0, f1, hsl⟩ := (HN6.out.ls).at_ hxn
        have hpos := HPOS.out x hxn
        have hli := HLI.out _ (List.getElem_mem hxn)
        rw [HBL.out] at hua
        subst hua
        have g0 := (B5.out.cell (p := ua.add (x * 2)) (by rw [add_block]; exact hub)).trans f0
        obtain ⟨gl, hgl⟩ : ∃ p, ua.add (x * 2) = p := ⟨_, rfl⟩
        have hglb : gl.block < w6.heap.size := by rw [← hgl, add_block]; exact hub
        rw [hgl] at g0 f0
        have M7' := M7.out
        have HKEEP := Lib.hid (show ∀ (U : List Bool), (∀ q, x + 1 ≤ q → ∀ hq : q < N.ls.length, ∀ z ∈ N.ls[q].1.2.2, U.getD z.toNat false = true) → (∀ z ∈ N.ls[x].1.2.2, U.getD z.toNat false = true) → ∀ q, x ≤ q → ∀ hq : q < N.ls.length, ∀ z ∈ N.ls[q].1.2.2, U.getD z.toNat false = true from fun U h1 h2 q hq hql => by
          rcases Nat.eq_or_lt_of_le hq with e | e
          · subst e; exact h2
          · exact h1 q e hql)
        generalize N.ls[x] = ct at g0 f0 hsl hpos HKEEP hli
        obtain ⟨⟨c1, c2, c3⟩, c4⟩ := ct
        simp only [slv] at g0 f0 hsl hpos HKEEP hli
        obtain ⟨ql, hql⟩ : ∃ q, c3.length = q := ⟨_, rfl⟩
        have HQL := Lib.hid hql
        rw [hql] at g0 f0 hli
        have HSL := Lib.hid hsl
        have HPO := Lib.hid hpos
        have G0' := Lib.hid f0
        have D0 := Lib.hid hglb
        clear f0 f1 hsl hpos hql M7' hused hy ht
        go_wp2_with fail
        clear d0 g0 j2 hti
        go_loopw [15] (fun v15 wx => ∃ (p : Nat) (U : List Bool), p ≤ ql ∧ v15 = .int .i64 (p : Int) ∧ U.length = m ∧ (∀ q, q < i → U.getD (N.ou.getD q 0).toNat false = true) ∧ (∀ q, q < j → ∀ hq : q < N.hs.length, U.getD N.hs[q].1.toNat false = true) ∧ (∀ q, x + 1 ≤ q → ∀ hq : q < N.ls.length, ∀ z ∈ N.ls[q].1.2.2, U.getD z.toNat false = true) ∧ (∀ q, q < p → U.getD (c3.getD q 0).toNat false = true) ∧ BitsB wx w6.heap.size U ∧ Below w6.heap.size w6 wx) (fun v15 _ => ql - (intOf v15).toNat)
        case atStart => exact ⟨0, U3, by omega, rfl, HU5.out, M5.out, M6.out, M7.out, fun q hq => absurd hq (Nat.not_lt_zero _), T5.out, B5.out⟩
        case round =>
          obtain ⟨p, U4, hp, rfl, hU, hmk, hmk2, hmk3, hmk4, hbt, hB⟩ := hrel
          have B8 := Lib.hid hB
          have T8 := Lib.hid hbt
          have M8 := Lib.hid hmk
          have M9 := Lib.hid hmk2
          have M10 := Lib.hid hmk3
          have M11 := Lib.hid hmk4
          have HU8 := Lib.hid hU
          have j2 := (N6.out.keep hB).cell 2
          have g0 := (B8.out.cell (p := gl) D0.out).trans G0'.out
          clear hB hbt hmk hmk2 hmk3 hmk4 hU
          by_cases hpq : p < ql
          case neg =>
            obtain rfl : p = ql := by omega
            have hlt : ¬ (p : Int) < (p : Int) := by omega
            go_wp2_with fail
            go_roundw
            case rel =>
              refine ⟨x, (x : Int) - 1, U4, by omega, rfl, by go_num, HU8.out, M8.out, M9.out, HKEEP.out U4 M10.out (fun z hz => ?_), T8.out, B8.out⟩
              obtain ⟨q, hq, rfl⟩ := List.mem_iff_getElem.1 hz
              have := M11.out q (by rw [← HQL.out]; exact hq)
              have e : c3.getD q 0 = c3[q] := by rw [List.getD_eq_getElem?_getD, List.getElem?_eq_getElem hq]; rfl
              rw [e] at this
              exact this
            case measure => first | (simp [intOf]; done) | (simp [intOf]; omega)
          have hpq' : (p : Int) < (ql : Int) := by omega
          have hpl : p < c3.length := by rw [HQL.out]; exact hpq
          have hz := HPO.out _ (getD_mem hpl)
          obtain ⟨pa, hPA, hpb, e0⟩ := (Rd.later HSL.out B8.out).int (k := p) hpl
          subst hPA
          obtain ⟨s, hs⟩ : ∃ s : Nat, c3.getD p 0 = (s : Int) := ⟨(c3.getD p 0).toNat, by omega⟩
          have hsm : s < m := by have := HMM2.out; have := HF.out; omega
          have HS2 := Lib.hid hs
          rw [hs] at e0
          have hsm' : (s : Int) < (m : Int) := by omega
          have hs0 : ((s : Int) == 0) = false := beq_eq_false_iff_ne.2 (by omega)
          have d0 := BitsB.at_ T8.out (a := s) (by rw [HU8.out]; exact hsm)
          have f0 := T8.out.free s
          have T12 := Lib.hid (BitsB.set T8.out s true)
          have B12 := Lib.hid (B8.out.setCell (p := ⟨w6.heap.size, s, none⟩) (Nat.le_refl _) (.bool true))
          clear hz hs
          go_wp2_with fail
          go_roundw
          case rel =>
            refine ⟨p + 1, _, by omega, by go_num, by rw [List.length_set]; exact HU8.out, fun q hq => set_true (.inl (M8.out q hq)), fun q hq hql => set_true (.inl (M9.out q hq hql)), fun q hq hql z hz => set_true (.inl (M10.out q hq hql z hz)), fun q hq => set_true ?_, T12.out, B12.out⟩
            rcases Nat.lt_succ_iff_lt_or_eq.1 hq with h1 | rfl
            · exact .inl (M11.out q h1)
            · exact .inr ⟨by rw [HS2.out]; rfl, by rw [HU8.out]; exact hsm⟩
          case measure => simp [intOf]; omega

set_option maxRecDepth 100000 in
theorem lutmapUsed_lifted (os : Os) (started : os.Started) (H : Type) (enc : TypeId × Value → H) :
    ReturnsInHanded {} Tryd.checked os 4 .any (fun w args => (Rows.lutmapUsedSpec.pre enc Tryd.prog Tryd.f4 [] false w args ∧ laidMetH Tryd.prog laidC w) ∧ sizedMet enc Tryd.prog Tryd.f4 (OpenSpec.ofChange Rows.lutmapUsedSpec) false w args)
      (Rows.lutmapUsedSpec.post enc Tryd.prog Tryd.f4 false true false false) := by
  have hr : ∀ t ∈ Tryd.f4.params.toList, Tryd.prog.readableRec t = true ∧ t < Tryd.prog.types.size := by
    have h : Tryd.f4.params.toList.all (fun t => Tryd.prog.readableRec t && decide (t < Tryd.prog.types.size)) = true := by kernel_rfl
    intro t ht
    simpa using List.all_eq_true.1 h t ht
  refine returnsInHanded_of_change_and (C := Tryd.checked) (X := fun w _ => laidMetH Tryd.prog laidC w) (fun _ _ _ hh h => h.of_heap hh) own started (by kernel_rfl) Tryd.func4
    (ChangeSpec.witness_shaped (enc := enc) (C := Tryd.checked) (os := os) (X := fun w _ => laidMetH Tryd.prog laidC w) false (World.doorLaid Tryd.prog 400 os) #[.agg #[.int .i64 0, .slice none 0 0, .slice none 0 0, .slice none 0 0], .int .i64 0] 8 rfl (World.shaped_of_RefB (by kernel_rfl) (by kernel_rfl)) (by kernel_rfl) (by kernel_rfl) (by kernel_rfl) (door_met os _)) ?_
  intro W base args ds gs before hval0 hW _ _ hL _
  have hcols := cols_of_laid hL
  have hval : ∀ (j : Nat) t v, Tryd.f4.params[j]? = some t → args[j]? = some v → Value.okWide Tryd.prog W .any base t v := hval0
  have hW' := hW
  obtain ⟨p, q, hA0, hV, rfl, hfz, hnd⟩ := hW
  have hA1 : DataW.TrodAll enc Tryd.prog W 0 (fun _ => true) true Tryd.f4.params.toList args.toList ds p := hA0
  have hA := hA1
  rw [Tryd.params4] at hA hval
  obtain ⟨v0, vs0, d0, ds0, p0, q0, hargs, rfl, rfl, h0, r0⟩ := trodAll_cons hA
  obtain ⟨v1, vs1, d1, ds1, p1, q1, rfl, rfl, rfl, h1, r1⟩ := trodAll_cons r0
  obtain ⟨rfl, rfl, rfl⟩ := trodAll_nil r1
  obtain rfl : args = #[v0, v1] := by cases args; simp_all
  obtain ⟨rfl, rfl⟩ := trodVars_none hV
  obtain ⟨G0, rfl, hin0, hwf0⟩ := open_aig (hval 0 26 v0 rfl rfl) h0
  obtain ⟨a1, rfl, rfl, rfl, w1⟩ := open_int Tryd.underlying3 (hval 1 3 v1 rfl rfl) h1
  clear hA0 hval0
  simp only [List.append_nil] at hW' hA1
  refine (lutmapUsed_walk G0 a1 W hin0 hwf0 hcols).mono fun e W' ⟨he, hb⟩ => ?_
  subst he
  exact ⟨_, rfl, law_post laidOut hr rfl hW' hA1 rfl rfl Tryd.underlying4 hb⟩

theorem lutmapUsed_over : Rows.lutmapUsedRow.holds Tryd.pinned (OpenSpec.ofChange Rows.lutmapUsedSpec) :=
  OpenClaim.holds_of_wide 4 Tryd.f4 rfl rfl rfl rfl rfl rfl rfl ⟨rfl, rfl, rfl, rfl, rfl⟩ rfl rfl rfl rfl rfl (by kernel_rfl) Tryd.func4 (by kernel_rfl)
    (of_decide_eq_true (by kernel_rfl)) (by unfold Func.isWrapper; first | (rw [if_pos (by decide +kernel)]; kernel_rfl) | (rw [if_neg (by decide +kernel)]; exact ⟨rfl, rfl⟩))
    (fun os started H enc _ => lutmapUsed_lifted os started H enc)

/-- the card -/
theorem lutmapUsedCard_holds : Rows.LutmapUsedCardSaid :=
  Claim7.holds_tied_plain_at .later [] [.data] true Rows.lutmapUsedCard.stood.harness false
    lutmapUsed_over (fun _ h => by cases h) (by kernel_rfl) (fun _ h => by cases h) lutmapUsed_row_tie rfl ⟨rfl, rfl⟩ (by kernel_rfl) rfl
    (fun f fn hf hfn => by
      obtain rfl : f = 4 := Option.some.inj ((show Tryd.prog.funcNamed "filigree/filigreelaw25.LutmapUsed" = some 4 by kernel_rfl).symm.trans hf) |>.symm
      obtain rfl : fn = Tryd.f4 := (Option.some.inj (Tryd.func4.symm.trans hfn)).symm
      exact ⟨by kernel_rfl, fun j t ht => by
        have hall : (Tryd.f4.params.toList.all fun u => !Tryd.prog.wantsStandIn u) = true := by kernel_rfl
        have hm : t ∈ Tryd.f4.params.toList := by
          have := Array.mem_of_getElem? ht
          simpa using this
        exact (show Tryd.prog.wantsStandIn t = false by simpa using List.all_eq_true.1 hall t hm)⟩)
    (by kernel_rfl)
#print axioms lutmapUsedCard_holds
end Go.Proofs.YtebgihekgijpfaaDoor
