/- filigree/aig.Run. -/
import Derived.Test.YtebgihekgijpfaaGreatDoorZAEval
namespace Go.Proofs.YtebgihekgijpfaaGreatDoor
open Go.RowKit Go.Shelf
set_option linter.unusedVariables false
set_option linter.unusedSimpArgs false
/-- what is kept, and told, when so many rows have come in -/
def AG.stA (G : AG) (rows : List (List Bool)) : Nat → List Bool
  | 0 => G.fl.map (·.2)
  | k + 1 => G.evN (rows.getD k []) (G.stA rows k)
def AG.outA (G : AG) (rows : List (List Bool)) (k : Nat) : List (List Bool) := (List.range k).map fun j => G.evO (rows.getD j []) (G.stA rows j)
theorem AG.stA_len (G : AG) (rows : List (List Bool)) : ∀ k, (G.stA rows k).length = G.fl.length
  | 0 => by simp [AG.stA]
  | k + 1 => by simp [AG.stA, AG.evN]
theorem AG.outA_next (G : AG) (rows : List (List Bool)) (k : Nat) : G.outA rows (k + 1) = G.outA rows k ++ [G.evO (rows.getD k []) (G.stA rows k)] := by
  unfold AG.outA; rw [List.range_succ, List.map_append]; rfl
def AG.runE (G : AG) (rows : List (List Bool)) : Int := if ∀ r ∈ rows, (r.length : Int) = G.I then 0 else 1
def AG.runV (G : AG) (rows : List (List Bool)) : List (List Bool) := if ∀ r ∈ rows, (r.length : Int) = G.I then G.outA rows rows.length else []
/-- tables tell, tick by tick, what the gates tell -/
theorem NT.IsMap.runs {N : NT} {G : AG} {k : Int} (h : N.IsMap G k) (hm : G.ok ∧ 2 ≤ k ∧ k ≤ 6) (hf : G.fit) (rows : List (List Bool)) : N.runE rows = G.runE rows ∧ N.runV rows = G.runV rows := by
  have hc : N.chk 6 = 0 := NT.chk_may.2 (h.may hm hf).six
  have hE : N.runE rows = G.runE rows := by
    unfold NT.runE AG.runE
    rw [if_neg (by rw [hc]; simp), h.i]
  refine ⟨hE, ?_⟩
  unfold NT.runV AG.runV
  rw [hE]
  unfold AG.runE
  by_cases hr : ∀ r ∈ rows, (r.length : Int) = G.I
  · rw [if_pos hr, if_pos rfl, if_pos hr]
    have hlen : ∀ j, j < rows.length → ((rows.getD j []).length : Int) = G.I := fun j hj => by
      rw [List.getD_eq_getElem?_getD, List.getElem?_eq_getElem hj]
      exact hr _ (List.getElem_mem hj)
    have hst : ∀ j, j ≤ rows.length → N.stA rows j = G.stA rows j := by
      intro j
      induction j with
      | zero =>
        intro _
        show N.hs.map (·.2) = G.fl.map (·.2)
        rw [h.hs, List.map_map]
        rfl
      | succ j ih =>
        intro hj
        have e := ih (by omega)
        show pickB (nvTo N.luts (rows.getD j []) (N.stA rows j) N.ls.length) (N.hs.map (·.1)) = G.evN (rows.getD j []) (G.stA rows j)
        rw [e]
        exact (h.evs hm (hlen j (by omega)) (G.stA_len rows j)).2
    unfold NT.outA AG.outA
    refine List.map_congr_left fun j hj => ?_
    have hj' := List.mem_range.1 hj
    rw [hst j (by omega)]
    exact (h.evs hm (hlen j hj') (G.stA_len rows j)).1
  · rw [if_neg hr, if_neg (by decide), if_neg hr]
def ARunOut (G : AG) (rows : List (List Bool)) (w : World) (r : Ending) (w' : World) : Prop :=
  ∃ A c ls, r = .returned (.tuple #[.slice A (ls : List SB).length c, .int .i64 (G.runE rows)]) ∧ Below w.heap.size w w' ∧ RowsB w' A c ls ∧ rowsP ls = G.runV rows
set_option maxRecDepth 100000 in
set_option maxHeartbeats 4000000 in
theorem arun_any (G : AG) (A0 : Option Addr) (c0 : Nat) (rs : List SB) (w : World) (hin : G.In w) (hf : G.fit) (hw : G.wf) (hok : G.ok) (hr : RowsB w A0 c0 rs) (hrl : rs.length ≤ 1000) :
    Calls Tryz.prog 29 #[.agg #[.int .i64 G.I, .slice G.AF G.fl.length G.cF, .slice G.AA G.an.length G.cA, .slice G.AO G.ou.length G.cO], .slice A0 rs.length c0] w (ARunOut G (rowsP rs) w) := by
  have Q0 := Lib.hid (below_new w (.cells #[.int .i64 G.I, .slice G.AF G.fl.length G.cF, .slice G.AA G.an.length G.cA, .slice G.AO G.ou.length G.cO] 26))
  have X0 := Lib.hid (Blk.made w 26 #[.int .i64 G.I, .slice G.AF G.fl.length G.cF, .slice G.AA G.an.length G.cA, .slice G.AO G.ou.length G.cO])
  have hC := acheck_any G _ (hin.later Q0.out) hf hw
  rw [show G.E = 0 from if_pos hok] at hC
  have HC := Lib.hid hC
  have HIN := Lib.hid hin
  have HF := Lib.hid hf
  have HWF := Lib.hid hw
  have HOK := Lib.hid hok
  have HR := Lib.hid hr
  have hEy : (∀ r ∈ rowsP rs, (r.length : Int) = G.I) → G.runE (rowsP rs) = 0 ∧ G.runV (rowsP rs) = G.outA (rowsP rs) (rowsP rs).length := fun h => ⟨if_pos h, if_pos h⟩
  have hEn : ¬ (∀ r ∈ rowsP rs, (r.length : Int) = G.I) → G.runE (rowsP rs) = 1 ∧ G.runV (rowsP rs) = [] := fun h => ⟨if_neg h, if_neg h⟩
  have HEY := Lib.hid hEy
  have HEN := Lib.hid hEn
  obtain ⟨n, hn⟩ : ∃ n, G.fl.length = n := ⟨_, rfl⟩
  have HN := Lib.hid hn
  have hn3 : n ≤ 1000 := by rw [← hn]; exact hf.f
  have hno3 : G.ou.length ≤ 1000 := hf.o
  obtain ⟨m, hmm⟩ : ∃ m, rs.length = m := ⟨_, rfl⟩
  have HMM := Lib.hid hmm
  rw [hmm] at hrl ⊢
  rw [hn] at HC X0 Q0 ⊢
  obtain ⟨AF, hAF⟩ : ∃ A, G.AF = A := ⟨_, rfl⟩
  have HAF := Lib.hid hAF
  rw [hAF] at HC X0 Q0 ⊢
  clear hin hf hw hok hr hC hEy hEn hn hmm hAF
  have k0 := X0.out.cell 0
  have k1 := X0.out.cell 1
  have k2 := X0.out.cell 2
  have k3 := X0.out.cell 3
  go_enter Tryz.func29, Tryz.ntmps29
  go_wp2_with fail
  refine HC.out.mono ?_
  rintro e1 w2 ⟨rfl, hb2⟩
  have Q2 := Lib.hid (below_then Q0.out hb2)
  have X2 := Lib.hid (X0.out.keep hb2)
  clear hb2 k0 k1 k2 k3 HC
  have k1 := X2.out.cell 1
  go_wp2_with fail
  clear k1
  go_loopw [8, 24] (fun v8 v24 wx => ∃ (i : Nat) (A : Option Addr) (c : Nat), i ≤ n ∧ v24 = .int .i64 (i : Int) ∧ v8 = .slice A i c ∧ wx.ownsRow w2.heap.size 4 1 (.slice A i c) i (bools ((G.fl.map (·.2)).take i)) ∧ Below w2.heap.size w2 wx) (fun _ v24 _ => n - (intOf v24).toNat)
  case atStart => exact ⟨0, none, 0, by omega, rfl, rfl, by simpa [bools] using World.ownsRow_nil w2 w2.heap.size 4 1, Below.refl _ _⟩
  case round =>
    obtain ⟨i, A', c', hi, rfl, rfl, hown, hB⟩ := hrel
    have O1 := Lib.hid hown
    have B1 := Lib.hid hB
    clear hown hB
    by_cases hin : i < n
    case neg =>
      obtain rfl : i = n := by omega
      have hlt : ¬ (i : Int) < (i : Int) := by omega
      have hst0 : (G.fl.map (·.2)).take i = G.stA (rowsP rs) 0 := List.take_of_length_le (by rw [List.length_map, HN.out]; exact Nat.le_refl _)
      have O2 := Lib.hid (show wr.ownsRow w2.heap.size 4 1 (.slice A' i c') i (bools (G.stA (rowsP rs) 0)) by have h := O1.out; rw [hst0] at h; exact h)
      clear hst0
      go_wp2_with fail
      clear hlt hin
      go_loopw [7, 8, 36] (fun v7 v8 v36 wx => ∃ (k : Nat) (A : Option Addr) (c : Nat) (B : Option Addr) (d : Nat) (os : List SB), k ≤ m ∧ v36 = .int .i64 (k : Int) ∧ v7 = .slice A k c ∧ v8 = .slice B i d ∧ os.length = k ∧ rowsP os = G.outA (rowsP rs) k ∧ (∀ j, j < k → (((rowsP rs).getD j []).length : Int) = G.I) ∧ wx.ownsRow w2.heap.size 44 1 (.slice A k c) k (os.map slvB) ∧ (∀ l ∈ os, wx.ownsRow w2.heap.size 4 1 (slvB l) l.2.2.length (bools l.2.2)) ∧ wx.ownsRow w2.heap.size 4 1 (.slice B i d) i (bools (G.stA (rowsP rs) k)) ∧ Below w2.heap.size w2 wx) (fun _ _ v36 _ => m - (intOf v36).toNat)
      case atStart => exact ⟨0, none, 0, A', c', [], by omega, rfl, rfl, rfl, rfl, rfl, fun j hj => absurd hj (Nat.not_lt_zero _), World.ownsRow_nil _ _ _ _, (fun l hl => by cases hl), O2.out, B1.out⟩
      case round =>
        obtain ⟨k, A4, c4, S4, d4, os, hk, rfl, rfl, rfl, hol, hop, hlen, hown, hall, hst, hB⟩ := hrel
        have OL := Lib.hid hown
        have OA := Lib.hid hall
        have OS := Lib.hid hst
        have B4 := Lib.hid hB
        have HOL := Lib.hid hol
        have HOP := Lib.hid hop
        have HLEN := Lib.hid hlen
        have X4 := Lib.hid (X2.out.keep hB)
        have Q4 := Lib.hid (below_then Q2.out hB)
        clear hown hall hst hB hol hop hlen
        by_cases hkm : k < m
        case neg =>
          obtain rfl : k = m := by omega
          have hlt : ¬ (k : Int) < (k : Int) := by omega
          go_wp2_with fail
          go_ret2
          have hev : ∀ r ∈ rowsP rs, (r.length : Int) = G.I := fun r hr => by
            obtain ⟨j, hj, rfl⟩ := List.mem_iff_getElem.1 hr
            have hj' : j < k := by rw [rowsP_len, HMM.out] at hj; exact hj
            have h := HLEN.out j hj'
            rw [List.getD_eq_getElem?_getD, List.getElem?_eq_getElem hj] at h
            exact h
          obtain ⟨hE, hV⟩ := HEY.out hev
          refine ⟨A4, c4, os, by rw [HOL.out, hE]; rfl, Q4.out, ⟨by rw [HOL.out]; exact Rd.of_own OL.out, fun l hl => Rd.of_own (OA.out l hl)⟩, by rw [hV, HOP.out, rowsP_len, HMM.out]⟩
        have hkm' : (k : Int) < (m : Int) := by omega
        have hkr : k < rs.length := by rw [HMM.out]; exact hkm
        obtain ⟨pa, hPA, hpb, e0, hrd⟩ := HR.out.at_ hkr
        have hge := rowsP_at hkr
        subst hPA
        generalize rs[k] = l at e0 hrd hge
        obtain ⟨lA, lc, row⟩ := l
        simp only [slvB] at e0 hrd hge
        have e1 := (Q4.out.cell (p := pa.add k) (by rw [add_block]; exact hpb)).trans e0
        have R4 := Lib.hid (hrd.later Q4.out)
        clear e0 hrd
        have HGE := Lib.hid hge
        clear hge
        by_cases hrow : (row.length : Int) = G.I
        case neg =>
          have K := aeval_no G lA S4 lc d4 row (G.stA (rowsP rs) k) wr (HIN.out.later Q4.out) HF.out HWF.out (fun h => hrow h.2.1)
          rw [G.stA_len, HN.out, HAF.out] at K
          have HK := Lib.hid K
          have HNE := Lib.hid hrow
          clear hrow K
          generalize hrl : row.length = q at *
          have k0 := X4.out.cell 0
          have k1 := X4.out.cell 1
          have k2 := X4.out.cell 2
          have k3 := X4.out.cell 3
          go_wp2_with fail
          refine HK.out.mono ?_
          rintro e5 w5 ⟨rfl, hb5⟩
          have Q5 := Lib.hid (below_then Q4.out hb5)
          clear hb5
          go_wp2_with fail
          go_ret2
          obtain ⟨hE, hV⟩ := HEN.out (fun h => HNE.out (by
            have h' := h ((rowsP rs).getD k []) (by rw [List.getD_eq_getElem?_getD, List.getElem?_eq_getElem (by rw [rowsP_len]; exact hkr)]; exact List.getElem_mem _)
            rw [HGE.out, hrl] at h'; exact h'))
          exact ⟨none, 0, [], by rw [hE]; rfl, Q5.out, rowsB_nil _, hV.symm⟩
        have hsl : (G.stA (rowsP rs) k).length = i := by rw [G.stA_len, HN.out]
        have K := aeval_yes G lA S4 lc d4 row (G.stA (rowsP rs) k) wr (HIN.out.later Q4.out) HF.out HWF.out HOK.out R4.out (by rw [hsl]; exact Rd.of_own OS.out) hrow (G.stA_len _ _)
        rw [hsl, HN.out, HAF.out] at K
        have HPL := Lib.hid K
        have HEQ := Lib.hid hrow
        clear hrow K hsl
        have k0 := X4.out.cell 0
        have k1 := X4.out.cell 1
        have k2 := X4.out.cell 2
        have k3 := X4.out.cell 3
        obtain ⟨q, hq⟩ : ∃ q, row.length = q := ⟨_, rfl⟩
        rw [hq] at HPL e1
        go_wp2_with fail
        refine HPL.out.mono ?_
        rintro e5 w5 ⟨A5, c5, B5, d5, rfl, hb5, hr5, hs5⟩
        have O5 := Lib.hid (own_keep OL.out hb5)
        have OA5 := Lib.hid (fun l hl => own_keep (OA.out l hl) hb5)
        have R5 := Lib.hid (own_down hr5 B4.out.size)
        have S5 := Lib.hid (own_down hs5 B4.out.size)
        have B5' := Lib.hid (below_then B4.out hb5)
        obtain ⟨EO, hEO⟩ : ∃ v, G.evO row (G.stA (rowsP rs) k) = v := ⟨_, rfl⟩
        have hnx : G.outA (rowsP rs) (k + 1) = G.outA (rowsP rs) k ++ [EO] := by rw [G.outA_next, HGE.out, hEO]
        have hel : EO.length = G.ou.length := by rw [← hEO]; unfold AG.evO; rw [List.length_map]
        have hsx : G.stA (rowsP rs) (k + 1) = G.evN row (G.stA (rowsP rs) k) := by show G.evN ((rowsP rs).getD k []) (G.stA (rowsP rs) k) = _; rw [HGE.out]
        rw [hEO] at R5
        have HNX := Lib.hid hnx
        have HSX := Lib.hid hsx
        have HEL := Lib.hid hel
        have hsz5 := B5'.out.size
        clear hb5 hr5 hs5 k0 k1 k2 k3 e1 HPL hnx hsx hel hEO
        go_wp2_with (at_builtin; refine wpList_app_at rfl (.tmp 51) (.tmp 53) 51 44 rfl Tryz.underlying51 _ 1 24 rows_info rfl (by decide) (by decide) w2.heap.size A4 k c4 (os.map slvB) rfl (O5.out.alloc _) ⟨w5.heap.size, 0, none⟩ 1 [.slice A5 G.ou.length c5] rfl (rd_of_blk (Blk.made _ _ _) 1 1 rfl) (fun u hu => by rw [List.mem_singleton] at hu; subst hu; rfl) (by omega) (by simp; omega) ?_)
        intro A9 c9 u9 hown9 hgr9 hat9
        have hb10 := below_then B5'.out (below_new w5 (.cells #[.slice A5 G.ou.length c5] 44))
        have HB9 := Lib.hid (hb10.grown hgr9 hb10.size (fun g hg => own_base O5.out (by rw [own_blk]; exact hg)))
        have O10 := O5.out.alloc (.cells #[.slice A5 G.ou.length c5] 44)
        have hL9 : os.map slvB ++ [.slice A5 G.ou.length c5] = (os ++ [((A5, c5, EO) : SB)]).map slvB := by
          rw [List.map_append]
          show _ = _ ++ [Value.slice A5 EO.length c5]
          rw [HEL.out]
        have O9 := Lib.hid (show u9.ownsRow w2.heap.size 44 1 (.slice A9 (k + 1) c9) (k + 1) ((os ++ [((A5, c5, EO) : SB)]).map slvB) from by rw [← hL9]; exact hown9)
        have R9 := Lib.hid (own_grown (R5.out.alloc (.cells #[.slice A5 G.ou.length c5] 44)) O10 (by decide) hgr9)
        have S9 := Lib.hid (own_grown (S5.out.alloc (.cells #[.slice A5 G.ou.length c5] 44)) O10 (by decide) hgr9)
        have OA9 : Hid (∀ l ∈ os, u9.ownsRow w2.heap.size 4 1 (slvB l) l.2.2.length (bools l.2.2)) := Lib.hid (fun l hl => own_grown ((OA5.out l hl).alloc (.cells #[.slice A5 G.ou.length c5] 44)) O10 (by decide) hgr9)
        clear hown9 hgr9 hat9 hL9 hb10 O10
        go_wp2_with fail
        go_roundw
        case rel =>
          refine ⟨k + 1, A9, c9, B5, d5, os ++ [(A5, c5, EO)], by omega, by go_num, rfl, rfl, by rw [List.length_append, HOL.out]; rfl, ?_, ?_, O9.out, ?_, by rw [HSX.out]; exact S9.out, HB9.out⟩
          · rw [HNX.out, ← HOP.out]; unfold rowsP; rw [List.map_append]; rfl
          · intro j hj
            rcases Nat.lt_succ_iff_lt_or_eq.1 hj with h | rfl
            · exact HLEN.out j h
            · rw [HGE.out]; exact HEQ.out
          · intro l hl
            rcases List.mem_append.1 hl with h | h
            · exact OA9.out l h
            · rw [List.mem_singleton] at h; subst h
              show World.ownsRow _ _ _ _ (Value.slice A5 EO.length c5) EO.length _
              rw [HEL.out]
              exact R9.out
        case measure => simp [intOf]; omega
    have hin' : (i : Int) < (n : Int) := by omega
    have hia : i < G.fl.length := by rw [HN.out]; exact hin
    obtain ⟨g1, g2⟩ := fc_get G.fl i hia
    obtain ⟨pa, hPA, hpb, e0, e1⟩ := HIN.out.fl.two g1 g2
    have hmi : i < (G.fl.map (·.2)).length := by rw [List.length_map]; exact hia
    have hnx : (G.fl.map (·.2)).take (i + 1) = (G.fl.map (·.2)).take i ++ [G.fl[i].2] := by
      rw [List.take_succ_eq_append_getElem hmi, List.getElem_map]
    rw [HAF.out] at hPA
    subst hPA
    generalize G.fl[i] = hh at e0 e1 hnx
    obtain ⟨x, y⟩ := hh
    simp only at e0 e1 hnx
    obtain ⟨ga, hga⟩ : ∃ p, pa.add (i * 2) = p := ⟨_, rfl⟩
    have hgab : ga.block < w.heap.size := by rw [← hga, add_block]; exact hpb
    rw [hga] at e0 e1
    have QB := below_then Q2.out B1.out
    have e2 := (QB.cell hgab).trans e0
    have e3 := (QB.cell (p := ⟨ga.block, ga.off + 1, none⟩) hgab).trans e1
    have B2 := Lib.hid (below_new wr (.cells #[.int .i64 x, .bool y] 69))
    have y1 : (wr.alloc (.cells #[.int .i64 x, .bool y] 69)).cell? ⟨wr.heap.size, 1, none⟩ = some (.bool y) := (Blk.made wr _ _).cell 1
    have hsz := B1.out.size
    have hszw := (below_then Q2.out B1.out).size
    have HNX := Lib.hid hnx
    clear e0 e1 hnx QB g1 g2 hmi
    go_wp2_with (at_builtin; refine wpList_app_bools rfl (.tmp 28) (.tmp 31) rfl w2.heap.size A' i c' _ rfl ((O1.out.alloc _).alloc _) (some ⟨wr.heap.size + 1, 0, none⟩) 1 1 [y] rfl (rd_of_blk (cs := bools [y]) (blk_made1 wr _ 4 #[.bool y]) 1 1 rfl) (by omega) (by simp; omega) ?_)
    intro A9 c9 u9 hown9 hgr9
    have HO9 := Lib.hid (show u9.ownsRow w2.heap.size 4 1 (.slice A9 (i + 1) c9) (i + 1) (bools ((G.fl.map (·.2)).take (i + 1))) from by rw [HNX.out]; exact hown9)
    have HB9 := Lib.hid ((below_then (below_then B1.out B2) (below_new _ _)).grown hgr9 (below_then (below_then B1.out B2) (below_new _ _)).size (fun q hq => own_base O1.out hq))
    clear hown9 hgr9 y1 e2 e3
    go_wp2_with fail
    go_roundw
    case rel => exact ⟨i + 1, A9, c9, by omega, by go_num, rfl, HO9.out, HB9.out⟩
    case measure => simp [intOf]; omega
end Go.Proofs.YtebgihekgijpfaaGreatDoor
