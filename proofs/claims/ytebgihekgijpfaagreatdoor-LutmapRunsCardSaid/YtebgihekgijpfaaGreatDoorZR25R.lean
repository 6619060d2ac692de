/- filigreeref25.Run. -/
import Derived.Test.YtebgihekgijpfaaGreatDoorZR25E
import Derived.Test.YtebgihekgijpfaaGreatDoorZLRun
namespace Go.Proofs.YtebgihekgijpfaaGreatDoor
open Go.RowKit Go.Shelf
set_option linter.unusedVariables false
set_option linter.unusedSimpArgs false
set_option maxRecDepth 100000 in
set_option maxHeartbeats 4000000 in
theorem rrun25_any (N : NT) (A0 : Option Addr) (c0 : Nat) (rs : List SB) (w : World) (hin : N.In w) (hf : N.fit) (hwf : N.wf) (hr : RowsB w A0 c0 rs) (hrl : rs.length ≤ 1000) (hrr : ∀ l ∈ rs, l.2.2.length ≤ 100000) :
    Calls Tryz.prog 26 #[.agg #[.int .i64 N.I, .slice N.AH N.hs.length N.cH, .slice N.AL N.ls.length N.cL, .slice N.AO N.ou.length N.cO], .slice A0 rs.length c0] w (RunOut N (rowsP rs) w) := by
  have Q0 := Lib.hid (below_new w (.cells #[.int .i64 N.I, .slice N.AH N.hs.length N.cH, .slice N.AL N.ls.length N.cL, .slice N.AO N.ou.length N.cO] 32))
  have X0 := Lib.hid (Blk.made w 32 #[.int .i64 N.I, .slice N.AH N.hs.length N.cH, .slice N.AL N.ls.length N.cL, .slice N.AO N.ou.length N.cO])
  have HC := Lib.hid (rcheck25_any N 6 (w.alloc (.cells #[.int .i64 N.I, .slice N.AH N.hs.length N.cH, .slice N.AL N.ls.length N.cL, .slice N.AO N.ou.length N.cO] 32)) (hin.later Q0.out) hf hwf)
  have k0 := X0.out.cell 0
  have k1 := X0.out.cell 1
  have k2 := X0.out.cell 2
  have k3 := X0.out.cell 3
  by_cases hc : N.chk 6 = 0
  case neg =>
    have hE : N.runE (rowsP rs) = N.chk 6 := if_pos hc
    have hV : N.runV (rowsP rs) = [] := if_neg (by rw [hE]; exact hc)
    unfold RunOut
    rw [hE, hV]
    clear hin hf hwf hr hrl hrr hE hV
    generalize N.chk 6 = e at HC hc ⊢
    have hd : (e != 0) = true := by rw [bne_iff_ne]; exact hc
    go_enter Tryz.func26, Tryz.ntmps26
    go_wp2_with fail
    refine HC.out.mono ?_
    rintro e1 w2 ⟨rfl, hb2⟩
    have Q2 := Lib.hid (below_then Q0.out hb2)
    clear hb2
    go_wp2_with fail
    go_ret2
    exact ⟨none, 0, [], rfl, Q2.out, rowsB_nil _, rfl⟩
  have hm := NT.chk_may.1 hc
  rw [hc] at HC
  have HIN := Lib.hid hin
  have HF := Lib.hid hf
  have HWF := Lib.hid hwf
  have HM := Lib.hid hm
  have HR := Lib.hid hr
  have HRR := Lib.hid hrr
  have HE : Hid (∀ b : Bool, b = true ∨ ¬ (∀ r ∈ rowsP rs, (r.length : Int) = N.I) → True) := Lib.hid fun _ _ => trivial
  have hEy : (∀ r ∈ rowsP rs, (r.length : Int) = N.I) → N.runE (rowsP rs) = 0 ∧ N.runV (rowsP rs) = N.outA (rowsP rs) (rowsP rs).length := fun h => by
    have h1 : N.runE (rowsP rs) = 0 := by unfold NT.runE; rw [if_neg (by simpa using hc), if_pos h]
    exact ⟨h1, if_pos h1⟩
  have hEn : ¬ (∀ r ∈ rowsP rs, (r.length : Int) = N.I) → N.runE (rowsP rs) = 1 ∧ N.runV (rowsP rs) = [] := fun h => by
    have h1 : N.runE (rowsP rs) = 1 := by unfold NT.runE; rw [if_neg (by simpa using hc), if_neg h]
    exact ⟨h1, if_neg (by rw [h1]; decide)⟩
  have HEY := Lib.hid hEy
  have HEN := Lib.hid hEn
  obtain ⟨n, hn⟩ : ∃ n, N.hs.length = n := ⟨_, rfl⟩
  have HN := Lib.hid hn
  have hn3 : n ≤ 1000 := by rw [← hn]; exact hf.hs
  obtain ⟨m, hmm⟩ : ∃ m, rs.length = m := ⟨_, rfl⟩
  have HMM := Lib.hid hmm
  rw [hmm] at hrl ⊢
  clear hin hf hwf hr hrr hc hm hEy hEn HE hn hmm
  go_enter Tryz.func26, Tryz.ntmps26
  go_wp2_with fail
  refine HC.out.mono ?_
  rintro e1 w2 ⟨rfl, hb2⟩
  have Q2 := Lib.hid (below_then Q0.out hb2)
  have X2 := Lib.hid (X0.out.keep hb2)
  clear hb2 k0 k1 k2 k3 HC
  have k1 : w2.cell? ⟨w.heap.size, 1, none⟩ = some (.slice N.AH N.hs.length N.cH) := X2.out.cell 1
  rw [HN.out] at k1
  obtain ⟨AH, hAH⟩ : ∃ A, N.AH = A := ⟨_, rfl⟩
  have HAH := Lib.hid hAH
  rw [hAH] at k1
  clear hAH
  go_wp2_with fail
  go_loopw [7, 8] (fun v7 v23 wx => ∃ (i : Nat) (A : Option Addr) (c : Nat), i ≤ n ∧ v23 = .int .i64 (i : Int) ∧ v7 = .slice A i c ∧ wx.ownsRow w2.heap.size 4 1 (.slice A i c) i (bools ((N.hs.map (·.2)).take i)) ∧ Below w2.heap.size w2 wx) (fun _ v23 _ => n - (intOf v23).toNat)
  case atStart => exact ⟨0, none, 0, by omega, rfl, rfl, by simpa [bools] using World.ownsRow_nil w2 w2.heap.size 4 1, Below.refl _ _⟩
  case round =>
    obtain ⟨i, A', c', hi, rfl, rfl, hown, hB⟩ := hrel
    have O1 := Lib.hid hown
    have B1 := Lib.hid hB
    clear hown hB
    by_cases hin : i < n
    case neg =>
      obtain rfl : i = n := by omega
      have hlt : ¬ (i : Int) < (i : Int) := by omega
      have hst0 : (N.hs.map (·.2)).take i = N.stA (rowsP rs) 0 := List.take_of_length_le (by rw [List.length_map, HN.out]; exact Nat.le_refl _)
      have O2 := Lib.hid (show wr.ownsRow w2.heap.size 4 1 (.slice A' i c') i (bools (N.stA (rowsP rs) 0)) by have h := O1.out; rw [hst0] at h; exact h)
      have X3 := Lib.hid (X2.out.keep B1.out)
      have Q3 := Lib.hid (below_then Q2.out B1.out)
      clear hst0 k1
      have k1 := X3.out.cell 1
      rw [HN.out] at k1
      go_wp2_with fail
      clear k1
      go_loopw [7, 9, 10] (fun v7 v10 v35 wx => ∃ (k : Nat) (A : Option Addr) (c : Nat) (B : Option Addr) (d : Nat) (os : List SB), k ≤ m ∧ v35 = .int .i64 (k : Int) ∧ v10 = .slice A k c ∧ v7 = .slice B N.hs.length d ∧ os.length = k ∧ rowsP os = N.outA (rowsP rs) k ∧ (∀ j, j < k → (((rowsP rs).getD j []).length : Int) = N.I) ∧ wx.ownsRow w2.heap.size 44 1 (.slice A k c) k (os.map slvB) ∧ (∀ l ∈ os, wx.ownsRow w2.heap.size 4 1 (slvB l) l.2.2.length (bools l.2.2)) ∧ wx.ownsRow w2.heap.size 4 1 (.slice B N.hs.length d) N.hs.length (bools (N.stA (rowsP rs) k)) ∧ Below w2.heap.size w2 wx) (fun _ _ v35 _ => m - (intOf v35).toNat)
      case atStart => exact ⟨0, none, 0, A', c', [], by omega, rfl, rfl, by rw [HN.out], rfl, rfl, fun j hj => absurd hj (Nat.not_lt_zero _), World.ownsRow_nil _ _ _ _, (fun l hl => by cases hl), by rw [HN.out]; exact O2.out, B1.out⟩
      case round =>
        obtain ⟨k, A4, c4, S4, d4, os, hk, rfl, rfl, rfl, hol, hop, hlen, hown, hall, hst, hB⟩ := hrel
        have OL := Lib.hid hown
        have OA := Lib.hid hall
        have OS := Lib.hid hst
        have B4 := Lib.hid hB
        have HOL := Lib.hid hol
        have HOP := Lib.hid hop
        have HLEN := Lib.hid hlen
        have X4 := Lib.hid (X2.out.keep hB)
        have Q4 := Lib.hid (below_then Q2.out hB)
        clear hown hall hst hB hol hop hlen hlt hin
        by_cases hkm : k < m
        case neg =>
          obtain rfl : k = m := by omega
          have hlt : ¬ (k : Int) < (k : Int) := by omega
          go_wp2_with fail
          go_ret2
          have hev : ∀ r ∈ rowsP rs, (r.length : Int) = N.I := fun r hr => by
            obtain ⟨j, hj, rfl⟩ := List.mem_iff_getElem.1 hr
            have hj' : j < k := by rw [rowsP_len, HMM.out] at hj; exact hj
            have h := HLEN.out j hj'
            rw [List.getD_eq_getElem?_getD, List.getElem?_eq_getElem hj] at h
            exact h
          obtain ⟨hE, hV⟩ := HEY.out hev
          refine ⟨A4, c4, os, by rw [HOL.out, hE]; rfl, Q4.out, ⟨by rw [HOL.out]; exact Rd.of_own OL.out, fun l hl => Rd.of_own (OA.out l hl)⟩, by rw [hV, HOP.out, rowsP_len, HMM.out]⟩
        have hkm' : (k : Int) < (m : Int) := by omega
        have hkr : k < rs.length := by rw [HMM.out]; exact hkm
        obtain ⟨pa, hPA, hpb, e0, hrd⟩ := HR.out.at_ hkr
        have hge := rowsP_at hkr
        have hl5 := HRR.out _ (List.getElem_mem hkr)
        subst hPA
        generalize rs[k] = l at e0 hrd hge hl5
        obtain ⟨lA, lc, row⟩ := l
        simp only [slvB] at e0 hrd hge hl5
        have e1 := (Q4.out.cell (p := pa.add k) (by rw [add_block]; exact hpb)).trans e0
        have R4 := Lib.hid (hrd.later Q4.out)
        clear e0 hrd
        have k0 := X4.out.cell 0
        have k1 := X4.out.cell 1
        have k2 := X4.out.cell 2
        have k3 := X4.out.cell 3
        have HGE := Lib.hid hge
        have hpb4 : (pa.add k).block < wr.heap.size := by rw [add_block]; exact Nat.lt_of_lt_of_le hpb Q4.out.size
        clear hge
        have hstl := NT.stA_len N (rowsP rs) k
        by_cases hrow : (row.length : Int) = N.I
        case neg =>
          have hE1 : N.nodesE row (N.stA (rowsP rs) k) = 1 := by
            unfold NT.nodesE
            rw [if_neg (by rw [NT.chk_may.2 HM.out]; simp), if_neg (fun h => hrow h.1)]
          have HEV := Lib.hid (fun (W : World) (h : Below wr.heap.size wr W) => (reval25_no N lA S4 lc d4 row (N.stA (rowsP rs) k) W (HIN.out.later (below_then Q4.out h)) HF.out HWF.out (R4.out.later h) (by rw [hstl]; exact (Rd.of_own OS.out).later h) (by rw [hE1]; decide)).mono (R' := fun r w' => r = .returned (.tuple #[.slice none 0 0, .slice none 0 0, .int .i64 1]) ∧ Below wr.heap.size wr w') (fun r w' hh => ⟨by rw [hh.1, hE1], below_then h hh.2⟩))
          rw [hstl] at HEV
          have HNE := Lib.hid hrow
          obtain ⟨q, hq⟩ : ∃ q, row.length = q := ⟨_, rfl⟩
          rw [hq] at HEV e1
          clear hrow hE1 hstl
          go_wp2_with fail
          go_region_held3 (fun w' => w'.cell? ⟨w.heap.size, 0, none⟩ = some (.int .i64 N.I) ∧ w'.cell? ⟨w.heap.size, 1, none⟩ = some (.slice N.AH N.hs.length N.cH) ∧ w'.cell? ⟨w.heap.size, 2, none⟩ = some (.slice N.AL N.ls.length N.cL) ∧ w'.cell? ⟨w.heap.size, 3, none⟩ = some (.slice N.AO N.ou.length N.cO) ∧ w'.cell? (pa.add k) = some (.slice lA q lc)) (go_keep) ((first | (go_at_call 22; (with_reducible refine (HEV.out _ ?_).mono ?_); (· exact below_drewN (Below.refl _ _) 1); rintro e5 w5 ⟨rfl, hb5⟩; have B5 := Lib.hid hb5; have j0 := (X4.out.keep hb5).cell 0; have j1 := (X4.out.keep hb5).cell 1; have j2 := (X4.out.keep hb5).cell 2; have j3 := (X4.out.keep hb5).cell 3; have j4 := (hb5.cell hpb4).trans e1; clear hb5)))
          all_goals
            clear j0 j1 j2 j3 j4 k0 k1 k2 k3 e1
            go_wp2_with fail
            go_ret2
            obtain ⟨hE, hV⟩ := HEN.out (fun h => HNE.out (by
              have h' := h ((rowsP rs).getD k []) (by rw [List.getD_eq_getElem?_getD, List.getElem?_eq_getElem (by rw [rowsP_len]; exact hkr)]; exact List.getElem_mem _)
              rw [HGE.out] at h'; exact h'))
            exact ⟨none, 0, [], by rw [hE]; rfl, below_then Q4.out B5.out, rowsB_nil _, hV.symm⟩
        have hE1 : N.nodesE row (N.stA (rowsP rs) k) = 0 := by
          unfold NT.nodesE
          rw [if_neg (by rw [NT.chk_may.2 HM.out]; simp), if_pos ⟨hrow, hstl⟩]
        have HEV := Lib.hid (fun (W : World) (h : Below wr.heap.size wr W) => (reval25_yes N lA S4 lc d4 row (N.stA (rowsP rs) k) W (HIN.out.later (below_then Q4.out h)) HF.out HWF.out (R4.out.later h) (by rw [hstl]; exact (Rd.of_own OS.out).later h) hE1).mono (R' := fun r w' => ∃ A c B d, r = .returned (.tuple #[.slice A N.ou.length c, .slice B N.hs.length d, .int .i64 0]) ∧ Below wr.heap.size wr w' ∧ w'.ownsRow w2.heap.size 4 1 (.slice A N.ou.length c) N.ou.length (bools (pickB (nvTo N.luts row (N.stA (rowsP rs) k) N.ls.length) N.ou)) ∧ w'.ownsRow w2.heap.size 4 1 (.slice B N.hs.length d) N.hs.length (bools (pickB (nvTo N.luts row (N.stA (rowsP rs) k) N.ls.length) (N.hs.map (·.1))))) (fun r w' hh => by
          obtain ⟨A, c, B, d, h1, h2, h3, h4⟩ := hh
          have hsz := Nat.le_trans B4.out.size h.size
          exact ⟨A, c, B, d, h1, below_then h h2, own_down h3 hsz, own_down h4 hsz⟩))
        rw [hstl] at HEV
        have HEQ := Lib.hid (show (row.length : Int) = N.I from hrow)
        obtain ⟨q, hq⟩ : ∃ q, row.length = q := ⟨_, rfl⟩
        rw [hq] at HEV e1 hl5
        have HQR := Lib.hid hq
        clear hrow hE1 hstl hq
        go_wp2_with fail
        go_region_held3 (fun w' => w'.cell? ⟨w.heap.size, 0, none⟩ = some (.int .i64 N.I) ∧ w'.cell? ⟨w.heap.size, 1, none⟩ = some (.slice N.AH N.hs.length N.cH) ∧ w'.cell? ⟨w.heap.size, 2, none⟩ = some (.slice N.AL N.ls.length N.cL) ∧ w'.cell? ⟨w.heap.size, 3, none⟩ = some (.slice N.AO N.ou.length N.cO) ∧ w'.cell? (pa.add k) = some (.slice lA q lc)) (go_keep) ((first | (go_at_call 22; (with_reducible refine (HEV.out _ ?_).mono ?_); (· exact below_drewN (Below.refl _ _) 1); rintro e5 w5 ⟨A5, c5, B5, d5, rfl, hb5, hr5, hs5⟩; have O5 := Lib.hid (own_keep OL.out hb5); have OA5 := Lib.hid (fun l hl => own_keep (OA.out l hl) hb5); have R5 := Lib.hid hr5; have S5 := Lib.hid hs5; have B5' := Lib.hid (below_then B4.out hb5); have Q5 := Lib.hid (below_then Q4.out hb5); have j0 := (X4.out.keep hb5).cell 0; have j1 := (X4.out.keep hb5).cell 1; have j2 := (X4.out.keep hb5).cell 2; have j3 := (X4.out.keep hb5).cell 3; have j4 := (hb5.cell hpb4).trans e1; clear hb5 hr5 hs5)))
        all_goals clear j0 j1 j2 j3 j4
        obtain ⟨v, hv⟩ : ∃ v, nvTo N.luts row (N.stA (rowsP rs) k) N.ls.length = v := ⟨_, rfl⟩
        rw [hv] at R5 S5
        have hnx : N.outA (rowsP rs) (k + 1) = N.outA (rowsP rs) k ++ [pickB v N.ou] := by rw [NT.outA_next, HGE.out, hv]
        have hsx : N.stA (rowsP rs) (k + 1) = pickB v (N.hs.map (·.1)) := by show pickB (nvTo N.luts ((rowsP rs).getD k []) (N.stA (rowsP rs) k) N.ls.length) _ = _; rw [HGE.out, hv]
        have HNX := Lib.hid hnx
        have HSX := Lib.hid hsx
        have hsz5 := B5'.out.size
        clear k0 k1 k2 k3 e1 HEV hnx hsx hv
        go_wp2_with (at_builtin; refine wpList_app_at rfl (.tmp 55) (.tmp 57) 51 44 rfl Tryz.underlying51 _ 1 24 rows_info rfl (by decide) (by decide) w2.heap.size A4 k c4 (os.map slvB) rfl (O5.out.alloc _) ⟨w5.heap.size, 0, none⟩ 1 [.slice A5 N.ou.length c5] rfl (rd_of_blk (Blk.made _ _ _) 1 1 rfl) (fun u hu => by rw [List.mem_singleton] at hu; subst hu; rfl) (by omega) (by simp; omega) ?_)
        intro A9 c9 u9 hown9 hgr9 hat9
        have hb10 := below_then B5'.out (below_new w5 (.cells #[.slice A5 N.ou.length c5] 44))
        have HB9 := Lib.hid (hb10.grown hgr9 hb10.size (fun g hg => own_base O5.out (by rw [own_blk]; exact hg)))
        have O10 := O5.out.alloc (.cells #[.slice A5 N.ou.length c5] 44)
        have hL9 : os.map slvB ++ [.slice A5 N.ou.length c5] = (os ++ [((A5, c5, pickB v N.ou) : SB)]).map slvB := by
          rw [List.map_append]
          show _ = _ ++ [Value.slice A5 (pickB v N.ou).length c5]
          rw [show (pickB v N.ou).length = N.ou.length by unfold pickB; rw [List.length_map]]
        have O9 := Lib.hid (show u9.ownsRow w2.heap.size 44 1 (.slice A9 (k + 1) c9) (k + 1) ((os ++ [((A5, c5, pickB v N.ou) : SB)]).map slvB) from by rw [← hL9]; exact hown9)
        have R9 := Lib.hid (own_grown (R5.out.alloc (.cells #[.slice A5 N.ou.length c5] 44)) O10 (by decide) hgr9)
        have S9 := Lib.hid (own_grown (S5.out.alloc (.cells #[.slice A5 N.ou.length c5] 44)) O10 (by decide) hgr9)
        have OA9 : Hid (∀ l ∈ os, u9.ownsRow w2.heap.size 4 1 (slvB l) l.2.2.length (bools l.2.2)) := Lib.hid (fun l hl => own_grown ((OA5.out l hl).alloc (.cells #[.slice A5 N.ou.length c5] 44)) O10 (by decide) hgr9)
        clear hown9 hgr9 hat9 hL9 hb10 O10
        go_wp2_with fail
        go_roundw
        case rel =>
          refine ⟨k + 1, A9, c9, B5, d5, os ++ [(A5, c5, pickB v N.ou)], by omega, by go_num, rfl, rfl, by rw [List.length_append, HOL.out]; rfl, ?_, ?_, O9.out, ?_, by rw [HSX.out]; exact S9.out, HB9.out⟩
          · rw [HNX.out, ← HOP.out]; unfold rowsP; rw [List.map_append]; rfl
          · intro j hj
            rcases Nat.lt_succ_iff_lt_or_eq.1 hj with h | rfl
            · exact HLEN.out j h
            · rw [HGE.out]; exact HEQ.out
          · intro l hl
            rcases List.mem_append.1 hl with h | h
            · exact OA9.out l h
            · rw [List.mem_singleton] at h; subst h
              show World.ownsRow _ _ _ _ (Value.slice A5 (pickB v N.ou).length c5) (pickB v N.ou).length _
              rw [show (pickB v N.ou).length = N.ou.length by unfold pickB; rw [List.length_map]]
              exact R9.out
        case measure => simp [intOf]; omega
    have hin' : (i : Int) < (n : Int) := by omega
    have hia : i < N.hs.length := by rw [HN.out]; exact hin
    obtain ⟨g1, g2⟩ := fc_get N.hs i hia
    obtain ⟨pa, hPA, hpb, e0, e1⟩ := HIN.out.hs.two g1 g2
    have hmi : i < (N.hs.map (·.2)).length := by rw [List.length_map]; exact hia
    have hnx : (N.hs.map (·.2)).take (i + 1) = (N.hs.map (·.2)).take i ++ [N.hs[i].2] := by
      rw [List.take_succ_eq_append_getElem hmi, List.getElem_map]
    have k1 := (X2.out.keep B1.out).cell 1
    rw [HN.out, HAH.out] at k1
    rw [HAH.out] at hPA
    subst hPA
    generalize N.hs[i].2 = y at e1 hnx
    obtain ⟨ga, hga⟩ : ∃ p, pa.add (i * 2) = p := ⟨_, rfl⟩
    have hgab : ga.block < w.heap.size := by rw [← hga, add_block]; exact hpb
    rw [hga] at e0 e1
    have QB := below_then Q2.out B1.out
    have e3 := (QB.cell (p := ⟨ga.block, ga.off + 1, none⟩) hgab).trans e1
    have hsz := B1.out.size
    have HNX := Lib.hid hnx
    clear e0 e1 hnx QB g1 g2 hmi
    go_wp2_with (at_builtin; refine wpList_app_bools rfl (.tmp 26) (.tmp 33) rfl w2.heap.size A' i c' _ rfl (O1.out.alloc _) (some ⟨wr.heap.size, 0, none⟩) 1 1 [y] rfl (rd_bool1 wr _ y) (by omega) (by simp; omega) ?_)
    intro A9 c9 u9 hown9 hgr9
    have HO9 := Lib.hid (show u9.ownsRow w2.heap.size 4 1 (.slice A9 (i + 1) c9) (i + 1) (bools ((N.hs.map (·.2)).take (i + 1))) from by rw [HNX.out]; exact hown9)
    have HB9 := Lib.hid ((below_then B1.out (below_new _ _)).grown hgr9 (below_then B1.out (below_new _ _)).size (fun q hq => own_base O1.out hq))
    clear hown9 hgr9 e3
    go_wp2_with fail
    go_roundw
    case rel => exact ⟨i + 1, A9, c9, by omega, by go_num, rfl, HO9.out, HB9.out⟩
    case measure => simp [intOf]; omega
end Go.Proofs.YtebgihekgijpfaaGreatDoor
