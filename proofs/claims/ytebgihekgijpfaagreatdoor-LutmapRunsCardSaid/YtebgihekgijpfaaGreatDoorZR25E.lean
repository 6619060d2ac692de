/- filigreeref25.Eval. -/
import Derived.Test.YtebgihekgijpfaaGreatDoorZR25V
namespace Go.Proofs.YtebgihekgijpfaaGreatDoor
open Go.RowKit Go.Shelf
set_option linter.unusedVariables false
set_option linter.unusedSimpArgs false
set_option maxRecDepth 100000 in
set_option maxHeartbeats 2000000 in
theorem reval25_no (N : NT) (A B : Option Addr) (c d : Nat) (ins st : List Bool) (w : World) (hin : N.In w) (hf : N.fit) (hwf : N.wf) (ha : Rd w 1 A ins.length c (bools ins)) (hb : Rd w 1 B st.length d (bools st)) (he : N.nodesE ins st ≠ 0) :
    Calls Tryz.prog 22 #[.agg #[.int .i64 N.I, .slice N.AH N.hs.length N.cH, .slice N.AL N.ls.length N.cL, .slice N.AO N.ou.length N.cO], .slice A ins.length c, .slice B st.length d] w fun r w' => r = .returned (.tuple #[.slice none 0 0, .slice none 0 0, .int .i64 (N.nodesE ins st)]) ∧ Below w.heap.size w w' := by
  have Q0 := Lib.hid (below_new w (.cells #[.int .i64 N.I, .slice N.AH N.hs.length N.cH, .slice N.AL N.ls.length N.cL, .slice N.AO N.ou.length N.cO] 32))
  have X0 := Lib.hid (Blk.made w 32 #[.int .i64 N.I, .slice N.AH N.hs.length N.cH, .slice N.AL N.ls.length N.cL, .slice N.AO N.ou.length N.cO])
  have HC := Lib.hid (rnodes25_any N A B c d ins st (w.alloc (.cells #[.int .i64 N.I, .slice N.AH N.hs.length N.cH, .slice N.AL N.ls.length N.cL, .slice N.AO N.ou.length N.cO] 32)) (hin.later Q0.out) hf hwf (ha.later Q0.out) (hb.later Q0.out))
  have k0 := X0.out.cell 0
  have k1 := X0.out.cell 1
  have k2 := X0.out.cell 2
  have k3 := X0.out.cell 3
  clear hin hf hwf ha hb
  unfold NodesOut at HC
  generalize N.nodesE ins st = e at HC he ⊢
  have hd : (e != 0) = true := by rw [bne_iff_ne]; exact he
  go_enter Tryz.func22, Tryz.ntmps22
  go_wp2_with fail
  refine HC.out.mono ?_
  rintro e1 w2 ⟨A2, c2, rfl, hb2, -⟩
  have Q2 := Lib.hid (below_then Q0.out hb2)
  clear hb2
  go_wp2_with fail
  go_ret3
  exact ⟨rfl, Q2.out⟩
set_option maxRecDepth 100000 in
set_option maxHeartbeats 4000000 in
theorem reval25_yes (N : NT) (A B : Option Addr) (c d : Nat) (ins st : List Bool) (w : World) (hin : N.In w) (hf : N.fit) (hwf : N.wf) (ha : Rd w 1 A ins.length c (bools ins)) (hb : Rd w 1 B st.length d (bools st)) (he : N.nodesE ins st = 0) :
    Calls Tryz.prog 22 #[.agg #[.int .i64 N.I, .slice N.AH N.hs.length N.cH, .slice N.AL N.ls.length N.cL, .slice N.AO N.ou.length N.cO], .slice A ins.length c, .slice B st.length d] w fun r w' => ∃ A c B d, r = .returned (.tuple #[.slice A N.ou.length c, .slice B N.hs.length d, .int .i64 0]) ∧ Below w.heap.size w w' ∧ w'.ownsRow w.heap.size 4 1 (.slice A N.ou.length c) N.ou.length (bools (pickB (nvTo N.luts ins st N.ls.length) N.ou)) ∧ w'.ownsRow w.heap.size 4 1 (.slice B N.hs.length d) N.hs.length (bools (pickB (nvTo N.luts ins st N.ls.length) (N.hs.map (·.1)))) := by
  have Q0 := Lib.hid (below_new w (.cells #[.int .i64 N.I, .slice N.AH N.hs.length N.cH, .slice N.AL N.ls.length N.cL, .slice N.AO N.ou.length N.cO] 32))
  have X0 := Lib.hid (Blk.made w 32 #[.int .i64 N.I, .slice N.AH N.hs.length N.cH, .slice N.AL N.ls.length N.cL, .slice N.AO N.ou.length N.cO])
  have HC := Lib.hid (rnodes25_any N A B c d ins st (w.alloc (.cells #[.int .i64 N.I, .slice N.AH N.hs.length N.cH, .slice N.AL N.ls.length N.cL, .slice N.AO N.ou.length N.cO] 32)) (hin.later Q0.out) hf hwf (ha.later Q0.out) (hb.later Q0.out))
  obtain ⟨hm, hi, hs⟩ := NT.nodes_yes he
  obtain ⟨hv, -, -⟩ := nodesV_yes he
  have hcn := nv_cn (N := N) hi hs
  have htot : N.tot = (N.cn : Int) := by have := hm.small hf; unfold NT.tot NT.fst NT.cn; omega
  have hcn3 : N.cn ≤ 4000 := by have := hm.small hf; have := hf.hs; have := hf.ls; unfold NT.cn; omega
  unfold NodesOut at HC
  rw [hv, he, hcn] at HC
  have HM := Lib.hid hm
  have HIN := Lib.hid hin
  have hn3 := hf.hs
  have hm3 := hf.ou
  obtain ⟨v, hvv⟩ : ∃ v, nvTo N.luts ins st N.ls.length = v := ⟨_, rfl⟩
  rw [hvv] at HC hcn ⊢
  have HCN := Lib.hid hcn
  have HTOT := Lib.hid htot
  obtain ⟨q, hq⟩ : ∃ q, N.cn = q := ⟨_, rfl⟩
  rw [hq] at HC hcn3 HCN HTOT
  clear hin hf hwf hm ha hb hi hs hcn htot hv hvv hq he
  have k0 := X0.out.cell 0
  have k1 := X0.out.cell 1
  have k2 := X0.out.cell 2
  have k3 := X0.out.cell 3
  go_enter Tryz.func22, Tryz.ntmps22
  go_wp2_with fail
  refine HC.out.mono ?_
  rintro e1 w2 ⟨A2, c2, rfl, hb2, hr2⟩
  have Q2 := Lib.hid (below_then Q0.out hb2)
  have X2 := Lib.hid (X0.out.keep hb2)
  have R2 := Lib.hid hr2
  clear hb2 hr2 k0 k1 k2 k3 HC
  have k3 := X2.out.cell 3
  go_wp2_with fail
  go_loopw [11, 13] (fun v11 v13 wx => ∃ (i : Nat) (A : Option Addr) (c : Nat), i ≤ N.ou.length ∧ v13 = .int .i64 (i : Int) ∧ v11 = .slice A i c ∧ wx.ownsRow w2.heap.size 4 1 (.slice A i c) i (bools (pickB v (N.ou.take i))) ∧ Below w2.heap.size w2 wx) (fun _ v13 _ => N.ou.length - (intOf v13).toNat)
  case atStart => exact ⟨0, none, 0, by omega, rfl, rfl, by simpa [pickB, bools] using World.ownsRow_nil w2 w2.heap.size 4 1, Below.refl _ _⟩
  case round =>
    obtain ⟨i, A', c', hi, rfl, rfl, hown, hB⟩ := hrel
    have O1 := Lib.hid hown
    have B1 := Lib.hid hB
    have X1 := Lib.hid (X2.out.keep hB)
    clear hown hB k3
    have k3 := X1.out.cell 3
    by_cases hin : i < N.ou.length
    case neg =>
      have hlt : ¬ (i : Int) < (N.ou.length : Int) := by omega
      have hie : i = N.ou.length := by omega
      have OF := Lib.hid (show wr.ownsRow w2.heap.size 4 1 (.slice A' N.ou.length c') N.ou.length (bools (pickB v N.ou)) by have h := O1.out; rw [hie, List.take_of_length_le (Nat.le_refl _)] at h; exact h)
      have HIE := Lib.hid hie
      clear O1 hie
      obtain ⟨w4, hw4⟩ : ∃ x, x = wr := ⟨_, rfl⟩
      rw [← hw4] at B1 X1 OF k3
      rw [← hw4]
      clear hw4
      have k1 := X1.out.cell 1
      go_wp2_with fail
      go_loopw [12, 14] (fun v12 v14 wx => ∃ (j : Nat) (A : Option Addr) (c : Nat), j ≤ N.hs.length ∧ v14 = .int .i64 (j : Int) ∧ v12 = .slice A j c ∧ wx.ownsRow w4.heap.size 4 1 (.slice A j c) j (bools (pickB v ((N.hs.map (·.1)).take j))) ∧ Below w4.heap.size w4 wx) (fun _ v14 _ => N.hs.length - (intOf v14).toNat)
      case atStart => exact ⟨0, none, 0, by omega, rfl, rfl, by simpa [pickB, bools] using World.ownsRow_nil w4 w4.heap.size 4 1, Below.refl _ _⟩
      case round =>
        obtain ⟨j, A5, c5, hj, rfl, rfl, hown, hB⟩ := hrel
        have O5 := Lib.hid hown
        have B5 := Lib.hid hB
        have X5 := Lib.hid (X1.out.keep hB)
        clear hown hB k1 k3 hlt
        have k1 := X5.out.cell 1
        by_cases hjn : j < N.hs.length
        case neg =>
          have hje : j = N.hs.length := by omega
          have hlt : ¬ (j : Int) < (N.hs.length : Int) := by omega
          have HJE := Lib.hid hje
          clear hje
          go_wp2_with fail
          go_ret3
          refine ⟨A', c', A5, c5, ?_, below_then Q2.out (below_then B1.out B5.out), own_down (own_keep OF.out B5.out) Q2.out.size, ?_⟩
          · rw [HIE.out, HJE.out]; rfl
          · have h := O5.out
            rw [HJE.out, List.take_of_length_le (by rw [List.length_map]; exact Nat.le_refl _)] at h
            exact own_down h (Nat.le_trans Q2.out.size B1.out.size)
        have hjn' : (j : Int) < (N.hs.length : Int) := by omega
        obtain ⟨g1, g2⟩ := fc_get N.hs j hjn
        have QB := below_then Q2.out (below_then B1.out B5.out)
        obtain ⟨pa, hPA, hpb, e0, e1⟩ := (HIN.out.hs.later QB).two g1 g2
        have hnode := HM.out.ok.2.1 _ (List.getElem_mem hjn)
        rw [HTOT.out] at hnode
        have hmi : j < (N.hs.map (·.1)).length := by rw [List.length_map]; exact hjn
        have hnx := pickB_take v hmi
        have hge : (N.hs.map (·.1)).getD j 0 = N.hs[j].1 := by rw [List.getD_eq_getElem?_getD, List.getElem?_map, List.getElem?_eq_getElem hjn]; rfl
        rw [hge] at hnx
        rw [hPA] at k1
        clear hPA e1 g1 g2 hge hmi QB
        generalize N.hs[j].1 = x at e0 hnode hnx
        simp only [nodeB, Bool.and_eq_true, decide_eq_true_eq] at hnode
        obtain ⟨z, hz⟩ : ∃ z : Nat, x = (z : Int) := ⟨x.toNat, by omega⟩
        subst hz
        rw [show ((z : Nat) : Int).toNat = z by omega] at hnx
        obtain ⟨ga, hga⟩ : ∃ p, pa.add (j * 2) = p := ⟨_, rfl⟩
        rw [hga] at e0
        obtain ⟨pv, hPV, hpvb, d0⟩ := (R2.out.later (below_then B1.out B5.out)).bool (k := z) (by omega)
        subst hPV
        have hzq : (z : Int) < (q : Int) := by omega
        have hsz := B5.out.size
        have HNX := Lib.hid hnx
        clear hnode hnx
        generalize v.getD z false = b at d0 HNX
        go_wp2_with (at_builtin; refine wpList_app_bools rfl (.tmp 50) (.tmp 60) rfl w4.heap.size A5 j c5 _ rfl (O5.out.alloc _) (some ⟨wr.heap.size, 0, none⟩) 1 1 [b] rfl (rd_bool1 wr _ b) (by omega) (by simp; omega) ?_)
        intro A9 c9 u9 hown9 hgr9
        have HO9 := Lib.hid (show u9.ownsRow w4.heap.size 4 1 (.slice A9 (j + 1) c9) (j + 1) (bools (pickB v ((N.hs.map (·.1)).take (j + 1)))) from by rw [HNX.out]; exact hown9)
        have HB9 := Lib.hid ((below_then B5.out (below_new _ _)).grown hgr9 (below_then B5.out (below_new _ _)).size (fun q hq => own_base O5.out hq))
        clear hown9 hgr9 d0 e0
        go_wp2_with fail
        go_roundw
        case rel => exact ⟨j + 1, A9, c9, by omega, by go_num, rfl, HO9.out, HB9.out⟩
        case measure => simp [intOf]; omega
    have hin' : (i : Int) < (N.ou.length : Int) := by omega
    obtain ⟨pa, hPA, hpb, e0⟩ := (HIN.out.ou.later (below_then Q2.out B1.out)).int hin
    have hge : N.ou.getD i 0 = N.ou[i] := by rw [List.getD_eq_getElem?_getD, List.getElem?_eq_getElem hin]; rfl
    have hnode := HM.out.ok.2.2 _ (List.getElem_mem hin)
    rw [HTOT.out, ← hge] at hnode
    have hnx := pickB_take v hin
    rw [hPA] at k3
    clear hPA hge
    generalize N.ou.getD i 0 = x at e0 hnode hnx
    simp only [nodeB, Bool.and_eq_true, decide_eq_true_eq] at hnode
    obtain ⟨z, hz⟩ : ∃ z : Nat, x = (z : Int) := ⟨x.toNat, by omega⟩
    subst hz
    rw [show ((z : Nat) : Int).toNat = z by omega] at hnx
    obtain ⟨pv, hPV, hpvb, d0⟩ := (R2.out.later B1.out).bool (k := z) (by omega)
    subst hPV
    have hzq : (z : Int) < (q : Int) := by omega
    have hsz := B1.out.size
    have HNX := Lib.hid hnx
    clear hnode hnx
    generalize v.getD z false = b at d0 HNX
    go_wp2_with (at_builtin; refine wpList_app_bools rfl (.tmp 32) (.tmp 41) rfl w2.heap.size A' i c' _ rfl (O1.out.alloc _) (some ⟨wr.heap.size, 0, none⟩) 1 1 [b] rfl (rd_bool1 wr _ b) (by omega) (by simp; omega) ?_)
    intro A9 c9 u9 hown9 hgr9
    have HO9 := Lib.hid (show u9.ownsRow w2.heap.size 4 1 (.slice A9 (i + 1) c9) (i + 1) (bools (pickB v (N.ou.take (i + 1)))) from by rw [HNX.out]; exact hown9)
    have HB9 := Lib.hid ((below_then B1.out (below_new _ _)).grown hgr9 (below_then B1.out (below_new _ _)).size (fun q hq => own_base O1.out hq))
    clear hown9 hgr9 d0 e0
    go_wp2_with fail
    go_roundw
    case rel => exact ⟨i + 1, A9, c9, by omega, by go_num, rfl, HO9.out, HB9.out⟩
    case measure => simp [intOf]; omega
theorem reval25_any (N : NT) (A B : Option Addr) (c d : Nat) (ins st : List Bool) (w : World) (hin : N.In w) (hf : N.fit) (hwf : N.wf) (ha : Rd w 1 A ins.length c (bools ins)) (hb : Rd w 1 B st.length d (bools st)) :
    Calls Tryz.prog 22 #[.agg #[.int .i64 N.I, .slice N.AH N.hs.length N.cH, .slice N.AL N.ls.length N.cL, .slice N.AO N.ou.length N.cO], .slice A ins.length c, .slice B st.length d] w (EvalOut N ins st w) := by
  by_cases he : N.nodesE ins st = 0
  · obtain ⟨-, h1, h2⟩ := nodesV_yes he
    refine (reval25_yes N A B c d ins st w hin hf hwf ha hb he).mono ?_
    rintro r w' ⟨A', c', B', d', rfl, hbb, ho, hn⟩
    unfold EvalOut
    rw [h1, h2, he]
    have e1 : (pickB (nvTo N.luts ins st N.ls.length) N.ou).length = N.ou.length := by unfold pickB; rw [List.length_map]
    have e2 : (pickB (nvTo N.luts ins st N.ls.length) (N.hs.map (·.1))).length = N.hs.length := by unfold pickB; rw [List.length_map, List.length_map]
    rw [e1, e2]
    exact ⟨A', c', B', d', rfl, hbb, Rd.of_own ho, Rd.of_own hn⟩
  · obtain ⟨-, h1, h2⟩ := nodesV_no he
    refine (reval25_no N A B c d ins st w hin hf hwf ha hb he).mono ?_
    rintro r w' ⟨rfl, hbb⟩
    unfold EvalOut
    rw [h1, h2]
    exact ⟨none, 0, none, 0, rfl, hbb, rd_nilB _, rd_nilB _⟩
end Go.Proofs.YtebgihekgijpfaaGreatDoor
