/- filigreeref25.Levels. -/
import Derived.Test.YtebgihekgijpfaaGreatDoorZR25C
import Derived.Test.YtebgihekgijpfaaGreatDoorZLLev
namespace Go.Proofs.YtebgihekgijpfaaGreatDoor
open Go.RowKit Go.Shelf
set_option linter.unusedVariables false
set_option linter.unusedSimpArgs false
/-- the greatest of the first, from 0 on -/
def mxTo (d l : List Int) : Nat → Int
  | 0 => 0
  | k + 1 => max (mxTo d l k) (d.getD (l.getD k 0).toNat 0)
theorem mxTo_nn (d l : List Int) : ∀ k, 0 ≤ mxTo d l k
  | 0 => Int.le_refl _
  | k + 1 => by have := mxTo_nn d l k; rw [mxTo]; omega
theorem mxTo_ge (d l : List Int) : ∀ k i, i < k → d.getD (l.getD i 0).toNat 0 ≤ mxTo d l k
  | 0, i, h => absurd h (Nat.not_lt_zero _)
  | k + 1, i, h => by
    rcases Nat.lt_succ_iff_lt_or_eq.1 h with h1 | rfl
    · have := mxTo_ge d l k i h1; rw [mxTo]; omega
    · rw [mxTo]; omega
theorem mxTo_le (d l : List Int) (b : Int) (hb : 0 ≤ b) : ∀ k, (∀ i, i < k → d.getD (l.getD i 0).toNat 0 ≤ b) → mxTo d l k ≤ b
  | 0, _ => hb
  | k + 1, h => by have := mxTo_le d l b hb k (fun i hi => h i (by omega)); have := h k (by omega); rw [mxTo]; omega
theorem mxTo_lv (d l : List Int) : mxTo d l l.length = lvMax d l := by
  refine Int.le_antisymm (mxTo_le d l _ (lvMax_nn d l) _ fun i hi => lvMax_ge d l _ ?_) ?_
  · rw [List.getD_eq_getElem?_getD, List.getElem?_eq_getElem hi]; exact List.getElem_mem hi
  · rcases lvMax_mem d l with h | ⟨x, hx, e⟩
    · rw [h]; exact mxTo_nn d l _
    · obtain ⟨i, hi, rfl⟩ := List.mem_iff_getElem.1 hx
      have := mxTo_ge d l l.length i hi
      rw [List.getD_eq_getElem?_getD (l := l), List.getElem?_eq_getElem hi] at this
      rw [e]; exact this
set_option maxRecDepth 100000 in
set_option maxHeartbeats 4000000 in
theorem rlevels25_any (N : NT) (w : World) (hin : N.In w) (hf : N.fit) (hwf : N.wf) :
    Calls Tryz.prog 15 #[.agg #[.int .i64 N.I, .slice N.AH N.hs.length N.cH, .slice N.AL N.ls.length N.cL, .slice N.AO N.ou.length N.cO]] w (LevOut N w) := by
  have Q0 := Lib.hid (below_new w (.cells #[.int .i64 N.I, .slice N.AH N.hs.length N.cH, .slice N.AL N.ls.length N.cL, .slice N.AO N.ou.length N.cO] 32))
  have X0 := Lib.hid (Blk.made w 32 #[.int .i64 N.I, .slice N.AH N.hs.length N.cH, .slice N.AL N.ls.length N.cL, .slice N.AO N.ou.length N.cO])
  have HC := Lib.hid (rcheck25_any N 6 (w.alloc (.cells #[.int .i64 N.I, .slice N.AH N.hs.length N.cH, .slice N.AL N.ls.length N.cL, .slice N.AO N.ou.length N.cO] 32)) (hin.later Q0.out) hf hwf)
  have k0 := X0.out.cell 0
  have k1 := X0.out.cell 1
  have k2 := X0.out.cell 2
  have k3 := X0.out.cell 3
  by_cases hc : N.chk 6 = 0
  case neg =>
    have hV : N.levV = [] := if_neg hc
    unfold LevOut
    rw [hV]
    clear hin hf hwf hV
    generalize N.chk 6 = e at HC hc ⊢
    have hd : (e != 0) = true := by rw [bne_iff_ne]; exact hc
    go_enter Tryz.func15, Tryz.ntmps15
    go_wp2_with fail
    refine HC.out.mono ?_
    rintro e1 w2 ⟨rfl, hb2⟩
    have Q2 := Lib.hid (below_then Q0.out hb2)
    clear hb2
    go_wp2_with fail
    go_ret2
    exact ⟨none, 0, rfl, Q2.out, Rd.none0 _ _ _ _ (fun _ => rfl)⟩
  have hm := NT.chk_may.1 hc
  have hV : N.levV = nlTo N.luts (1 + N.I.toNat + N.hs.length) N.ls.length := if_pos hc
  have hsm := hm.small hf
  obtain ⟨I, hI⟩ : ∃ I : Nat, N.I = (I : Int) := ⟨N.I.toNat, by omega⟩
  have hI3 : I ≤ 1000 := by omega
  unfold LevOut
  rw [hV, hc]
  rw [hc] at HC
  rw [nlTo_len]
  obtain ⟨h, hh⟩ : ∃ h, N.hs.length = h := ⟨_, rfl⟩
  obtain ⟨n, hn⟩ : ∃ n, N.ls.length = n := ⟨_, rfl⟩
  have hh3 : h ≤ 1000 := by rw [← hh]; exact hf.hs
  have hn3 : n ≤ 1000 := by rw [← hn]; exact hf.ls
  have hII : N.I.toNat = I := by omega
  have hfst : N.fst = ((1 + I + h : Nat) : Int) := by unfold NT.fst; rw [hh, hI]; omega
  rw [hII, hh, hn]
  rw [hI] at HC X0 Q0 k0 k1 k2 k3 ⊢
  have HIN := Lib.hid hin
  have HWF := Lib.hid hwf
  have HM := Lib.hid hm
  have HH := Lib.hid hh
  have HN := Lib.hid hn
  have HI := Lib.hid hI
  have HFF := Lib.hid hfst
  rw [hh, hn] at HC X0 Q0 k0 k1 k2 k3
  clear hin hf hwf hc hm hV hsm hI hh hn hII hfst k0 k1 k2 k3
  have k0 := X0.out.cell 0
  have k1 := X0.out.cell 1
  have k2 := X0.out.cell 2
  have k3 := X0.out.cell 3
  go_enter Tryz.func15, Tryz.ntmps15
  go_wp2_with fail
  refine HC.out.mono ?_
  rintro e1 w2 ⟨rfl, hb2⟩
  have Q2 := Lib.hid (below_then Q0.out hb2)
  have X2 := Lib.hid (X0.out.keep hb2)
  clear hb2 k0 k1 k2 k3 HC
  have k0 := X2.out.cell 0
  have k1 := X2.out.cell 1
  obtain ⟨i0, hi0, hz0, hz1, hz2⟩ := info_parts int_info
  have HI0 := Lib.hid hi0
  have HZ0 := Lib.hid hz0
  have HZ1 := Lib.hid hz1
  have HZ2 := Lib.hid hz2
  clear hi0 hz0 hz1 hz2
  go_wp2_with ((with_reducible refine wpList_make_part _ rfl (.tmp 20) (.tmp 20) 24 rfl 3 i0 (.int .i64 0) Tryz.underlying24 HI0.out HZ0.out HZ1.out (int_cells 0) .i64 .i64 _ _ (1 + I + h) (1 + I + h) rfl rfl (by omega) (by omega) (Nat.le_refl _) ?c1 (by omega) ?_))
  case c1 => rw [HZ2.out]; omega
  intro w5 hown5 hb5
  have B5 := Lib.hid hb5
  have X5 := Lib.hid (X2.out.keep hb5)
  have O5 := Lib.hid (show w5.ownsRow w2.heap.size 3 1 (.slice (some ⟨w2.heap.size, 0, none⟩) (1 + I + h) (1 + I + h)) (1 + I + h) (ints (nlTo N.luts (1 + I + h) 0)) from by
    have h' := hown5
    rw [show ints (nlTo N.luts (1 + I + h) 0) = List.replicate (1 + I + h) (Value.int .i64 0) by simp [ints, nlTo]]
    exact h')
  clear hb5 hown5 k0 k1
  have k2 := X5.out.cell 2
  obtain ⟨F, hF⟩ : ∃ F, 1 + I + h = F := ⟨_, rfl⟩
  obtain ⟨AL, hAL⟩ : ∃ A, N.AL = A := ⟨_, rfl⟩
  have HAL := Lib.hid hAL
  rw [hAL] at k2
  have hF3 : F ≤ 2001 := by omega
  rw [hF] at HFF O5 ⊢
  have HFQ := Lib.hid hF
  clear hAL hF
  go_wp2_with fail
  go_loopw [5, 6] (fun v5 v24 wx => ∃ (i : Nat) (A : Option Addr) (c : Nat), i ≤ n ∧ v24 = .int .i64 (i : Int) ∧ v5 = .slice A (F + i) c ∧ wx.ownsRow w2.heap.size 3 1 (.slice A (F + i) c) (F + i) (ints (nlTo N.luts F i)) ∧ Below w2.heap.size w2 wx) (fun _ v24 _ => n - (intOf v24).toNat)
  case atStart => exact ⟨0, _, _, by omega, rfl, rfl, O5.out, B5.out⟩
  case round =>
    obtain ⟨i, A', c', hi, rfl, rfl, hown, hB⟩ := hrel
    have B6 := Lib.hid hB
    have X6 := Lib.hid (X2.out.keep hB)
    have k2 := X6.out.cell 2
    rw [HAL.out] at k2
    have O6 := Lib.hid hown
    clear hown hB
    by_cases hin : i < n
    case neg =>
      obtain rfl : i = n := by omega
      have hlt : ¬ (i : Int) < (i : Int) := by omega
      go_wp2_with fail
      go_ret2
      refine ⟨A', c', ?_, below_then Q2.out B6.out, ?_⟩
      · rw [HFQ.out]; rfl
      · rw [HFQ.out]; exact Rd.of_own O6.out
    have hin' : (i : Int) < (n : Int) := by omega
    have hia : i < N.ls.length := by rw [HN.out]; exact hin
    obtain ⟨pa, hPA, hpb, e0, e1, hsl⟩ := HIN.out.ls.at_ hia
    have hlut := lutB_len (HM.out.ok.1 i hia)
    have hnx := nlTo_next N.luts F (i := i) (by rw [N.luts_len]; exact hia)
    have hmx := lvMax_le (nlTo N.luts F i) (i : Int) (by omega) (fun j => (nlTo_bound N.luts F i j).2)
    rw [N.luts_at hia] at hnx
    rw [HAL.out] at hPA
    subst hPA
    generalize N.ls[i] = ci at e0 e1 hsl hlut hnx
    obtain ⟨⟨l1, l2, l3⟩, t⟩ := ci
    simp only [slv] at e0 e1 hsl hlut hnx
    obtain ⟨ga, hga⟩ : ∃ p, pa.add (i * 2) = p := ⟨_, rfl⟩
    have hgab : ga.block < w.heap.size := by rw [← hga, add_block]; exact hpb
    rw [hga] at e0 e1
    have e2 := ((below_then Q2.out B6.out).cell hgab).trans e0
    have e3 := ((below_then Q2.out B6.out).cell (p := ⟨ga.block, ga.off + 1, none⟩) hgab).trans e1
    have hmem : ∀ z ∈ l3, 0 ≤ z ∧ z < ((F + i : Nat) : Int) := fun z hz => by
      have := hlut.2.2 z hz
      rw [HFF.out] at this
      omega
    have hl36 : l3.length ≤ 6 := by omega
    have hml := mxTo_lv (nlTo N.luts F i) l3
    have hmx := hmx l3
    have hmn := lvMax_nn (nlTo N.luts F i) l3
    have hsz := B6.out.size
    have hszw := (below_then Q2.out B6.out).size
    have HSL := Lib.hid hsl
    have HMEM := Lib.hid hmem
    have HBD := Lib.hid (nlTo_bound N.luts F i)
    obtain ⟨v, hv⟩ : ∃ v, nlTo N.luts F i = v := ⟨_, rfl⟩
    rw [hv] at hml hmx hmn hnx O6 HBD
    generalize lvMax v l3 = mx at hml hmx hmn hnx
    obtain ⟨q, hq⟩ : ∃ q, l3.length = q := ⟨_, rfl⟩
    have HQ := Lib.hid hq
    rw [hq] at hl36 e2 hml
    have HML := Lib.hid hml
    have HNX := Lib.hid hnx
    clear e0 e1 hsl hlut hnx hmem hml hq hv
    go_wp2_with fail
    go_loopw [7, 8] (fun v7 v8 wx => ∃ k : Nat, k ≤ q ∧ v8 = .int .i64 (k : Int) ∧ v7 = .int .i64 (mxTo v l3 k) ∧ wx = wr) (fun _ v8 _ => q - (intOf v8).toNat)
    case atStart => exact ⟨0, by omega, rfl, rfl, rfl⟩
    case round =>
      obtain ⟨k, hk, rfl, rfl, rfl⟩ := hrel
      by_cases hkq : k < q
      case neg =>
        obtain rfl : k = q := by omega
        have hlt : ¬ (k : Int) < (k : Int) := by omega
        have hmle : mx ≤ (i : Int) := hmx
        rw [HML.out]
        have hwr : IntKind.i64.wrap (mx + 1) = mx + 1 := IntWalk.i64_in _ (by omega)
        go_wp2_with (at_builtin; refine wpList_app_int rfl (.tmp 54) (.tmp 57) rfl w2.heap.size A' (F + i) c' v rfl O6.out (mx + 1) rfl (by omega) (by omega) ?_)
        intro A11 c11 u11 hown11 hgr11
        have O11 := Lib.hid (show u11.ownsRow w2.heap.size 3 1 (.slice A11 (F + (i + 1)) c11) (F + (i + 1)) (ints (nlTo N.luts F (i + 1))) from by rw [HNX.out, Int.add_comm]; exact hown11)
        have B11 := Lib.hid ((below_then B6.out (below_new _ _)).grown hgr11 (below_then B6.out (below_new _ _)).size (fun q hq => own_base O6.out hq))
        clear hown11 hgr11 e2 e3 k2
        go_wp2_with fail
        go_roundw
        case rel => exact ⟨i + 1, A11, c11, by omega, by go_num, rfl, O11.out, B11.out⟩
        case measure => simp [intOf]; omega
      have hkq' : (k : Int) < (q : Int) := by omega
      have hm := HMEM.out _ (getD_mem (l := l3) (k := k) (by rw [HQ.out]; exact hkq))
      obtain ⟨z, hz⟩ : ∃ z : Nat, l3.getD k 0 = (z : Int) := ⟨(l3.getD k 0).toNat, by omega⟩
      obtain ⟨a, hA, hab, d0⟩ := (Rd.later HSL.out (below_then Q2.out B6.out)).int (k := k) (by rw [HQ.out]; exact hkq)
      obtain ⟨a2, hA2, hab2, d1⟩ := (Rd.of_own O6.out).int (k := z) (by omega)
      subst hA
      subst hA2
      have hst : mxTo v l3 (k + 1) = max (mxTo v l3 k) (v.getD z 0) := by rw [mxTo, hz, Int.toNat_natCast]
      have HST := Lib.hid hst
      have hzN : (z : Int) < (F : Int) + (i : Int) := by omega
      rw [hz] at d0
      clear hst hm hz
      generalize v.getD z 0 = y at d1 HST
      generalize mxTo v l3 k = x at HST ⊢
      go_wp2_with fail
      go_roundw
      case rel => exact ⟨k + 1, by omega, by go_num, by rw [HST.out], trivial⟩
      case measure => simp [intOf]; omega
end Go.Proofs.YtebgihekgijpfaaGreatDoor
