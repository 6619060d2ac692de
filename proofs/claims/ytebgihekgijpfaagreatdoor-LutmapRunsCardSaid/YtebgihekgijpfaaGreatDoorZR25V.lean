/- filigreeref25.values, Nodes. -/
import Derived.Test.YtebgihekgijpfaaGreatDoorZR25C
import Derived.Test.YtebgihekgijpfaaGreatDoorZLRun
namespace Go.Proofs.YtebgihekgijpfaaGreatDoor
open Go.RowKit Go.Shelf
set_option linter.unusedVariables false
set_option linter.unusedSimpArgs false
theorem rowTo_pick (t : Nat) (v : List Bool) (l : List Int) : decide (t / 2 ^ rowTo v l l.length % 2 = 1) = bitB t (pickB v l) := by unfold bitB; rw [rowTo_all]
set_option maxRecDepth 100000 in
set_option maxHeartbeats 4000000 in
theorem rvalues25_any (N : NT) (A B : Option Addr) (c d : Nat) (ins st : List Bool) (w : World) (hin : N.In w) (hf : N.fit) (hwf : N.wf) (hm : N.may 6) (ha : Rd w 1 A ins.length c (bools ins)) (hb : Rd w 1 B st.length d (bools st)) (hi : (ins.length : Int) = N.I) (hs : st.length = N.hs.length) :
    Calls Tryz.prog 48 #[.agg #[.int .i64 N.I, .slice N.AH N.hs.length N.cH, .slice N.AL N.ls.length N.cL, .slice N.AO N.ou.length N.cO], .slice A ins.length c, .slice B st.length d] w fun r w' => ∃ A c, r = .returned (.slice A N.cn c) ∧ Below w.heap.size w w' ∧ Rd w' 1 A N.cn c (bools (nvTo N.luts ins st N.ls.length)) := by
  have Q0 := Lib.hid (below_new w (.cells #[.int .i64 N.I, .slice N.AH N.hs.length N.cH, .slice N.AL N.ls.length N.cL, .slice N.AO N.ou.length N.cO] 32))
  have X0 := Lib.hid (Blk.made w 32 #[.int .i64 N.I, .slice N.AH N.hs.length N.cH, .slice N.AL N.ls.length N.cL, .slice N.AO N.ou.length N.cO])
  have hsm := hm.small hf
  obtain ⟨ni, hni⟩ : ∃ k, ins.length = k := ⟨_, rfl⟩
  obtain ⟨ns, hns⟩ : ∃ k, st.length = k := ⟨_, rfl⟩
  obtain ⟨F, hF⟩ : ∃ F, 1 + ni + ns = F := ⟨_, rfl⟩
  have hFf : N.fst = (F : Int) := by unfold NT.fst; omega
  obtain ⟨n, hn⟩ : ∃ n, N.ls.length = n := ⟨_, rfl⟩
  have HCN := Lib.hid (show N.cn = F + n by unfold NT.cn; omega)
  have HIN := Lib.hid hin
  have HM := Lib.hid hm
  have HWF := Lib.hid hwf
  have HN := Lib.hid hn
  have HFE := Lib.hid hF
  have HFF := Lib.hid hFf
  have hF3 : F ≤ 2001 := by have := hf.hs; omega
  have hn3 : n ≤ 1000 := by have := hf.ls; omega
  have hni3 : ni ≤ 1000 := by omega
  have hns3 : ns ≤ 1000 := by have := hf.hs; omega
  rw [hni] at ha
  rw [hns] at hb
  rw [hn] at Q0 X0
  have HA := Lib.hid ha
  have HB := Lib.hid hb
  have HNV := Lib.hid (show ∀ i, (nvTo N.luts ins st i).length = F + i from fun i => by rw [nvTo_len, hni, hns, hF])
  rw [hni, hns, hn]
  clear hin hf hm hwf ha hb hi hs hF hFf hn hsm hni hns
  have hs1 : (w.alloc (.cells #[.int .i64 N.I, .slice N.AH N.hs.length N.cH, .slice N.AL n N.cL, .slice N.AO N.ou.length N.cO] 32)).heap.size = w.heap.size + 1 := by simp
  have HS1 := Lib.hid hs1
  have HBB := Lib.hid (fun wx (h : Below (w.heap.size + 1) (w.alloc (.cells #[.int .i64 N.I, .slice N.AH N.hs.length N.cH, .slice N.AL n N.cL, .slice N.AO N.ou.length N.cO] 32)) wx) => below_then Q0.out (by rw [hs1]; exact h))
  have HXX := Lib.hid (fun wx (h : Below (w.heap.size + 1) (w.alloc (.cells #[.int .i64 N.I, .slice N.AH N.hs.length N.cH, .slice N.AL n N.cL, .slice N.AO N.ou.length N.cO] 32)) wx) => X0.out.keep (w' := wx) (by rw [hs1]; exact h))
  have HSZ := Lib.hid (fun wx (h : Below (w.heap.size + 1) (w.alloc (.cells #[.int .i64 N.I, .slice N.AH N.hs.length N.cH, .slice N.AL n N.cL, .slice N.AO N.ou.length N.cO] 32)) wx) => show w.heap.size + 1 ≤ wx.heap.size from by have := h.size; rw [hs1] at this; exact this)
  have hmk : ((w.alloc (.cells #[.int .i64 N.I, .slice N.AH N.hs.length N.cH, .slice N.AL n N.cL, .slice N.AO N.ou.length N.cO] 32)).alloc (.cells #[.bool false] 4)).ownsRow (w.heap.size + 1) 4 1 (.slice (some ⟨w.heap.size + 1, 0, none⟩) 1 1) 1 (bools [false]) := by
    have h := own_new (w.alloc (.cells #[.int .i64 N.I, .slice N.AH N.hs.length N.cH, .slice N.AL n N.cL, .slice N.AO N.ou.length N.cO] 32)) (w.heap.size + 1) 4 (bools [false]) 1 rfl (by decide) (by rw [hs1]; exact Nat.le_refl _)
    rw [hs1] at h; exact h
  have HMK := Lib.hid hmk
  have hq1 : Below (w.heap.size + 1) (w.alloc (.cells #[.int .i64 N.I, .slice N.AH N.hs.length N.cH, .slice N.AL n N.cL, .slice N.AO N.ou.length N.cO] 32)) ((w.alloc (.cells #[.int .i64 N.I, .slice N.AH N.hs.length N.cH, .slice N.AL n N.cL, .slice N.AO N.ou.length N.cO] 32)).alloc (.cells #[.bool false] 4)) := by
    have h := below_new (w.alloc (.cells #[.int .i64 N.I, .slice N.AH N.hs.length N.cH, .slice N.AL n N.cL, .slice N.AO N.ou.length N.cO] 32)) (.cells #[.bool false] 4)
    rw [hs1] at h; exact h
  have HQ1 := Lib.hid hq1
  clear hmk hs1 hq1
  go_enter Tryz.func48, Tryz.ntmps48
  go_wp2_with (at_builtin; refine wpList_app_bools rfl (.tmp 12) (.tmp 13) rfl (w.heap.size + 1) (some ⟨w.heap.size + 1, 0, none⟩) 1 1 [false] rfl HMK.out A ni c ins rfl (HA.out.later (HBB.out _ HQ1.out)) (by omega) (HSZ.out _ HQ1.out) ?_)
  intro A2 c2 u2 hown2 hgr2
  have Q2 := Lib.hid (HQ1.out.grown hgr2 (HSZ.out _ HQ1.out) (fun q hq => own_base HMK.out hq))
  have O2 := Lib.hid hown2
  clear hown2 hgr2
  go_wp2_with (at_builtin; refine wpList_app_bools rfl (.tmp 14) (.tmp 15) rfl (w.heap.size + 1) A2 (1 + ni) c2 ([false] ++ ins) rfl O2.out B ns d st rfl (HB.out.later (HBB.out _ Q2.out)) (by omega) (HSZ.out _ Q2.out) ?_)
  intro A3 c3 u3 hown3 hgr3
  have Q3 := Lib.hid (Q2.out.grown hgr3 (HSZ.out _ Q2.out) (fun q hq => own_base O2.out hq))
  have O3 := Lib.hid (show u3.ownsRow (w.heap.size + 1) 4 1 (.slice A3 F c3) F (bools (nvTo N.luts ins st 0)) from by rw [← HFE.out]; exact hown3)
  clear hown3 hgr3
  have hFE := HFE.out
  rw [hFE]
  clear hFE
  have k2 := (HXX.out _ Q3.out).cell 2
  go_wp2_with fail
  go_loopw [7, 8] (fun v7 v8 wx => ∃ (i : Nat) (A : Option Addr) (c : Nat), i ≤ n ∧ v8 = .int .i64 (i : Int) ∧ v7 = .slice A (F + i) c ∧ wx.ownsRow (w.heap.size + 1) 4 1 (.slice A (F + i) c) (F + i) (bools (nvTo N.luts ins st i)) ∧ Below (w.heap.size + 1) (w.alloc (.cells #[.int .i64 N.I, .slice N.AH N.hs.length N.cH, .slice N.AL n N.cL, .slice N.AO N.ou.length N.cO] 32)) wx) (fun _ v8 _ => n - (intOf v8).toNat)
  case atStart => exact ⟨0, _, _, by omega, rfl, rfl, O3.out, Q3.out⟩
  case round =>
    obtain ⟨i, A', c', hi, rfl, rfl, hown, hB⟩ := hrel
    have B6 := Lib.hid hB
    have O6 := Lib.hid hown
    have k2 := (HXX.out _ hB).cell 2
    clear hown hB
    by_cases hin : i < n
    case neg =>
      obtain rfl : i = n := by omega
      have hlt : ¬ (i : Int) < (i : Int) := by omega
      go_wp2_with fail
      go_ret
      refine ⟨A', c', ?_, HBB.out _ B6.out, ?_⟩
      · rw [HCN.out]; rfl
      · rw [HCN.out]; exact Rd.of_own O6.out
    have hin' : (i : Int) < (n : Int) := by omega
    have hia : i < N.ls.length := by rw [HN.out]; exact hin
    obtain ⟨pa, hPA, hpb, e0, e1, hsl⟩ := HIN.out.ls.at_ hia
    have hlut := lutB_len (HM.out.ok.1 i hia)
    have htw := (HWF.out.ls _ (List.getElem_mem hia)).2
    have hnx := nvTo_next N.luts ins st (i := i) (by rw [N.luts_len]; exact hia)
    rw [N.luts_at hia] at hnx
    rw [hPA] at k2
    clear hPA
    generalize N.ls[i] = ci at e0 e1 hsl hlut htw hnx
    obtain ⟨⟨l1, l2, l3⟩, t⟩ := ci
    simp only [slv] at e0 e1 hsl hlut htw hnx
    obtain ⟨ga, hga⟩ : ∃ p, pa.add (i * 2) = p := ⟨_, rfl⟩
    have hgab : ga.block < w.heap.size := by rw [← hga, add_block]; exact hpb
    rw [hga] at e0 e1
    have e2 := ((HBB.out _ B6.out).cell hgab).trans e0
    have e3 := ((HBB.out _ B6.out).cell (p := ⟨ga.block, ga.off + 1, none⟩) hgab).trans e1
    have hmem : ∀ z ∈ l3, 0 ≤ z ∧ z < ((F + i : Nat) : Int) := fun z hz => by
      have := hlut.2.2 z hz
      rw [HFF.out] at this
      omega
    have hl36 : l3.length ≤ 6 := by omega
    rw [← rowTo_pick] at hnx
    have HNX := Lib.hid hnx
    have HSL := Lib.hid hsl
    have HMEM := Lib.hid hmem
    clear e0 e1 hsl hlut hnx hmem
    obtain ⟨w7, hw7⟩ : ∃ w7, wr.alloc (.cells #[.slice l1 l3.length l2, .int .u64 (t : Int)] 65) = w7 := ⟨_, rfl⟩
    obtain ⟨gx, hgx⟩ : ∃ gx, wr.heap.size = gx := ⟨_, rfl⟩
    have Y7 := Lib.hid (show Blk w7 gx 65 #[.slice l1 l3.length l2, .int .u64 (t : Int)] by rw [← hw7, ← hgx]; exact Blk.made wr _ _)
    have B7 := Lib.hid (show Below (w.heap.size + 1) (w.alloc (.cells #[.int .i64 N.I, .slice N.AH N.hs.length N.cH, .slice N.AL n N.cL, .slice N.AO N.ou.length N.cO] 32)) w7 by rw [← hw7]; exact B6.out.alloc (HSZ.out _ B6.out) _)
    have O7 := Lib.hid (show w7.ownsRow (w.heap.size + 1) 4 1 (.slice A' (F + i) c') (F + i) (bools (nvTo N.luts ins st i)) by rw [← hw7]; exact O6.out.alloc _)
    obtain ⟨q, hq⟩ : ∃ q, l3.length = q := ⟨_, rfl⟩
    have HQ := Lib.hid hq
    rw [hq] at Y7 hl36 e2 hw7
    have hvl := HNV.out i
    obtain ⟨v, hv⟩ : ∃ v, nvTo N.luts ins st i = v := ⟨_, rfl⟩
    rw [hv] at O7 hvl HNX
    have HVL := Lib.hid hvl
    clear hq hv hvl
    go_wp2_with fail
    clear k2 e2 e3
    go_loopw [10, 11] (fun v10 v11 wx => ∃ k : Nat, k ≤ q ∧ v11 = .int .i64 (k : Int) ∧ v10 = .int .i64 (rowTo v l3 k : Int) ∧ wx = w7) (fun _ v11 _ => q - (intOf v11).toNat)
    case atStart => exact ⟨0, by omega, rfl, rfl, rfl⟩
    case round =>
      obtain ⟨k, hk, rfl, rfl, rfl⟩ := hrel
      have y0 := Y7.out.cell 0
      have y1 := Y7.out.cell 1
      by_cases hkq : k < q
      case neg =>
        obtain rfl : k = q := by omega
        have hlt : ¬ (k : Int) < (k : Int) := by omega
        have hrl := rowTo_lt v l3 k
        have hp6 : 2 ^ k ≤ 2 ^ 6 := Nat.pow_le_pow_right (by omega) hl36
        rw [HQ.out] at HNX
        obtain ⟨s, hs⟩ : ∃ s, rowTo v l3 k = s := ⟨_, rfl⟩
        rw [hs] at hrl HNX
        rw [hs]
        obtain ⟨p, hp⟩ : ∃ p, 2 ^ s = p := ⟨_, rfl⟩
        obtain ⟨z, hz⟩ : ∃ z, t / p = z := ⟨_, rfl⟩
        have hpi : (2 : Int) ^ s = (p : Int) := pow_nat hp
        have hp0 : 0 < p := by rw [← hp]; exact Nat.pow_pos (by omega)
        have hqi : (t : Int) / (p : Int) = (z : Int) := by rw [← hz]; exact (Int.natCast_ediv _ _).symm
        have hq64 : z < 18446744073709551616 := by rw [← hz]; exact Nat.lt_of_le_of_lt (Nat.div_le_self _ _) htw
        have hqb : bits .and .u64 (z : Int) 1 = ((z % 2 : Nat) : Int) := by
          have h := u64_and_nat z 1 hq64 (by decide)
          rw [Nat.and_one_is_mod] at h
          exact h
        rw [hp, hz] at HNX
        have hs64 : s < 64 := by omega
        obtain ⟨r, hr⟩ : ∃ r, z % 2 = r := ⟨_, rfl⟩
        have hr2 : r = 0 ∨ r = 1 := by omega
        rw [hr] at hqb HNX
        clear hrl hp6 hs hp hz hr hk hkq
        rcases hr2 with rfl | rfl
        · skip
          go_wp2_with (at_builtin; refine wpList_app_bools rfl (.tmp 49) (.tmp 57) rfl (w.heap.size + 1) A' (F + i) c' v rfl (O7.out.alloc _) (some ⟨wr.heap.size, 0, none⟩) 1 1 [false] rfl (rd_bool1 wr _ false) (by omega) (by have := HSZ.out _ B7.out; simp; omega) ?_)
          intro A9 c9 u9 hown9 hgr9
          have B9 := Lib.hid ((B7.out.alloc (HSZ.out _ B7.out) (.cells #[.bool false] 4)).grown hgr9 (HSZ.out _ (B7.out.alloc (HSZ.out _ B7.out) (.cells #[.bool false] 4))) (fun q hq => own_base O7.out hq))
          have HO9 := Lib.hid (show u9.ownsRow (w.heap.size + 1) 4 1 (.slice A9 (F + (i + 1)) c9) (F + (i + 1)) (bools (nvTo N.luts ins st (i + 1))) from by rw [HNX.out]; exact hown9)
          clear hown9 hgr9
          go_wp2_with fail
          go_roundw
          case rel => exact ⟨i + 1, A9, c9, by omega, by go_num, rfl, HO9.out, B9.out⟩
          case measure => simp [intOf]; omega
        · skip
          go_wp2_with (at_builtin; refine wpList_app_bools rfl (.tmp 49) (.tmp 57) rfl (w.heap.size + 1) A' (F + i) c' v rfl (O7.out.alloc _) (some ⟨wr.heap.size, 0, none⟩) 1 1 [true] rfl (rd_bool1 wr _ true) (by omega) (by have := HSZ.out _ B7.out; simp; omega) ?_)
          intro A9 c9 u9 hown9 hgr9
          have B9 := Lib.hid ((B7.out.alloc (HSZ.out _ B7.out) (.cells #[.bool true] 4)).grown hgr9 (HSZ.out _ (B7.out.alloc (HSZ.out _ B7.out) (.cells #[.bool true] 4))) (fun q hq => own_base O7.out hq))
          have HO9 := Lib.hid (show u9.ownsRow (w.heap.size + 1) 4 1 (.slice A9 (F + (i + 1)) c9) (F + (i + 1)) (bools (nvTo N.luts ins st (i + 1))) from by rw [HNX.out]; exact hown9)
          clear hown9 hgr9
          go_wp2_with fail
          go_roundw
          case rel => exact ⟨i + 1, A9, c9, by omega, by go_num, rfl, HO9.out, B9.out⟩
          case measure => simp [intOf]; omega
      have hkq' : (k : Int) < (q : Int) := by omega
      have hm := HMEM.out _ (getD_mem (l := l3) (k := k) (by rw [HQ.out]; exact hkq))
      obtain ⟨z, hz⟩ : ∃ z : Nat, l3.getD k 0 = (z : Int) := ⟨(l3.getD k 0).toNat, by omega⟩
      obtain ⟨a, hA, hab, d0⟩ := (Rd.later HSL.out (HBB.out _ B7.out)).int (k := k) (by rw [HQ.out]; exact hkq)
      obtain ⟨a2, hA2, hab2, d1⟩ := (Rd.of_own O7.out).bool (k := z) (by omega)
      subst hA
      subst hA2
      have hst : rowTo v l3 (k + 1) = if v.getD z false then rowTo v l3 k + 2 ^ k else rowTo v l3 k := by simp only [rowTo, hz, Int.toNat_natCast]
      have HST := Lib.hid hst
      have hzN : (z : Int) < (F : Int) + (i : Int) := by omega
      have hb := rowTo_lt v l3 k
      obtain ⟨p, hp⟩ : ∃ p, 2 ^ k = p := ⟨_, rfl⟩
      have hp6 : p ≤ 64 := by
        rw [← hp]
        have : 2 ^ k ≤ 2 ^ 6 := Nat.pow_le_pow_right (by omega) (by omega)
        omega
      have hpi : (2 : Int) ^ k = (p : Int) := pow_nat hp
      rw [hp] at hb HST
      rw [hz] at d0
      clear hst hm hz hp
      cases hv : v.getD z false with
      | true =>
        rw [hv] at d1 HST
        clear hv
        generalize rowTo v l3 k = s at hb HST
        go_wp2_with fail
        go_roundw
        case rel => exact ⟨k + 1, by omega, by go_num, by rw [HST.out, if_pos rfl]; go_num, trivial⟩
        case measure => simp [intOf]; omega
      | false =>
        rw [hv] at d1 HST
        clear hv
        generalize rowTo v l3 k = s at hb HST
        go_wp2_with fail
        go_roundw
        case rel => exact ⟨k + 1, by omega, by go_num, by rw [HST.out, if_neg (by simp)], trivial⟩
        case measure => simp [intOf]; omega
set_option maxRecDepth 100000 in
set_option maxHeartbeats 2000000 in
theorem rnodes25_any (N : NT) (A B : Option Addr) (c d : Nat) (ins st : List Bool) (w : World) (hin : N.In w) (hf : N.fit) (hwf : N.wf) (ha : Rd w 1 A ins.length c (bools ins)) (hb : Rd w 1 B st.length d (bools st)) :
    Calls Tryz.prog 20 #[.agg #[.int .i64 N.I, .slice N.AH N.hs.length N.cH, .slice N.AL N.ls.length N.cL, .slice N.AO N.ou.length N.cO], .slice A ins.length c, .slice B st.length d] w (NodesOut N ins st w) := by
  have Q0 := Lib.hid (below_new w (.cells #[.int .i64 N.I, .slice N.AH N.hs.length N.cH, .slice N.AL N.ls.length N.cL, .slice N.AO N.ou.length N.cO] 32))
  have X0 := Lib.hid (Blk.made w 32 #[.int .i64 N.I, .slice N.AH N.hs.length N.cH, .slice N.AL N.ls.length N.cL, .slice N.AO N.ou.length N.cO])
  have HC := Lib.hid (rcheck25_any N 6 (w.alloc (.cells #[.int .i64 N.I, .slice N.AH N.hs.length N.cH, .slice N.AL N.ls.length N.cL, .slice N.AO N.ou.length N.cO] 32)) (hin.later Q0.out) hf hwf)
  have k0 := X0.out.cell 0
  have k1 := X0.out.cell 1
  have k2 := X0.out.cell 2
  have k3 := X0.out.cell 3
  by_cases he : N.nodesE ins st = 0
  case neg =>
    obtain ⟨hv, -, -⟩ := nodesV_no he
    unfold NodesOut
    rw [hv]
    by_cases hc : N.chk 6 = 0
    case neg =>
      have hE : N.nodesE ins st = N.chk 6 := if_pos hc
      rw [hE]
      clear hin hf hwf ha hb hv he hE
      generalize N.chk 6 = e at HC hc ⊢
      have hd : (e != 0) = true := by rw [bne_iff_ne]; exact hc
      go_enter Tryz.func20, Tryz.ntmps20
      go_wp2_with fail
      refine HC.out.mono ?_
      rintro e1 w2 ⟨rfl, hb2⟩
      have Q2 := Lib.hid (below_then Q0.out hb2)
      clear hb2
      go_wp2_with fail
      go_ret2
      exact ⟨none, 0, rfl, Q2.out, rd_nilB _⟩
    have hE : N.nodesE ins st = 1 := by
      unfold NT.nodesE at he ⊢
      rw [if_neg (by simpa using hc)] at he ⊢
      by_cases h : (ins.length : Int) = N.I ∧ st.length = N.hs.length
      · rw [if_pos h] at he; exact absurd rfl he
      · rw [if_neg h]
    have hno : ¬ ((ins.length : Int) = N.I ∧ st.length = N.hs.length) := fun h => he (by unfold NT.nodesE; rw [if_neg (by simpa using hc), if_pos h])
    rw [hE]
    rw [hc] at HC
    clear hin hf hwf ha hb hv he hE hc
    by_cases h1 : (ins.length : Int) = N.I
    case neg =>
      have hd : ((ins.length : Int) != N.I) = true := by rw [bne_iff_ne]; exact h1
      clear hno h1
      go_enter Tryz.func20, Tryz.ntmps20
      go_wp2_with fail
      refine HC.out.mono ?_
      rintro e1 w2 ⟨rfl, hb2⟩
      have Q2 := Lib.hid (below_then Q0.out hb2)
      have X2 := Lib.hid (X0.out.keep hb2)
      clear hb2 k0 k1 k2 k3
      have k0 := X2.out.cell 0
      go_wp2_with fail
      go_ret2
      exact ⟨none, 0, rfl, Q2.out, rd_nilB _⟩
    have hd : ((ins.length : Int) != N.I) = false := by rw [h1]; simp
    have hd2 : ((st.length : Int) != (N.hs.length : Int)) = true := by rw [bne_iff_ne]; intro h; exact hno ⟨h1, by omega⟩
    clear hno h1
    go_enter Tryz.func20, Tryz.ntmps20
    go_wp2_with fail
    refine HC.out.mono ?_
    rintro e1 w2 ⟨rfl, hb2⟩
    have Q2 := Lib.hid (below_then Q0.out hb2)
    have X2 := Lib.hid (X0.out.keep hb2)
    clear hb2 k0 k1 k2 k3
    have k0 := X2.out.cell 0
    have k1 := X2.out.cell 1
    go_wp2_with fail
    go_ret2
    exact ⟨none, 0, rfl, Q2.out, rd_nilB _⟩
  obtain ⟨hm, hi, hs⟩ := NT.nodes_yes he
  obtain ⟨hv, -, -⟩ := nodesV_yes he
  unfold NodesOut
  rw [hv, he, nv_cn hi hs]
  rw [NT.chk_may.2 hm] at HC
  have HV := Lib.hid (fun (W : World) (h : Below w.heap.size w W) => rvalues25_any N A B c d ins st W (hin.later h) hf hwf hm (ha.later h) (hb.later h) hi hs)
  have hd : ((ins.length : Int) != N.I) = false := by rw [hi]; simp
  have hd2 : ((st.length : Int) != (N.hs.length : Int)) = false := by rw [hs]; simp
  clear hin hf hwf ha hb hv he hm hi hs
  go_enter Tryz.func20, Tryz.ntmps20
  go_wp2_with fail
  refine HC.out.mono ?_
  rintro e1 w2 ⟨rfl, hb2⟩
  have Q2 := Lib.hid (below_then Q0.out hb2)
  have X2 := Lib.hid (X0.out.keep hb2)
  clear hb2 k0 k1 k2 k3
  have k0 := X2.out.cell 0
  have k1 := X2.out.cell 1
  have k2 := X2.out.cell 2
  have k3 := X2.out.cell 3
  go_wp2_with fail
  refine (HV.out _ Q2.out).mono ?_
  rintro e1 w3 ⟨A3, c3, rfl, hb3, hr3⟩
  have Q3 := Lib.hid (below_then Q2.out hb3)
  have R3 := Lib.hid hr3
  clear hb3 hr3 k0 k1 k2 k3
  go_wp2_with fail
  go_ret2
  exact ⟨A3, c3, rfl, Q3.out, R3.out⟩
end Go.Proofs.YtebgihekgijpfaaGreatDoor
