/- filigreeref25.nodes: the row of nodes. -/
import Derived.Test.YtaajnmggbhnndaaGreatDoorZR25H
namespace Go.Proofs.YtaajnmggbhnndaaGreatDoor
open Go.RowKit
set_option linter.unusedVariables false
set_option linter.unusedSimpArgs false
theorem litsTo_short (nd : List Bool) : ∀ n, (litsTo nd n).length ≤ n
  | 0 => Nat.le_refl _
  | n + 1 => by
    have ih := litsTo_short nd n
    by_cases h : nd.getD n false = true
    · rw [litsTo_yes h, List.length_append]; simp; omega
    · rw [litsTo_no (by simpa using h)]; omega
theorem MP.idx_yes (M : MP) {a : Nat} (h : M.nd.getD a false = true) : M.idx (a + 1) = M.idx a + 1 := by unfold MP.idx; rw [litsTo_yes h, List.length_append]; rfl
theorem MP.idx_no (M : MP) {a : Nat} (h : M.nd.getD a false = false) : M.idx (a + 1) = M.idx a := by unfold MP.idx; rw [litsTo_no h]
theorem ints_put (l : List Int) (i : Nat) (x : Int) : (ints l).set i (.int .i64 x) = ints (l.set i x) := by simp [ints, List.map_set]
set_option maxRecDepth 100000 in
set_option maxHeartbeats 1000000 in
theorem rnodes25m_any (G : AG) (M : MP) (A : Option Addr) (c m : Nat) (w : World) (hF : 1 + G.I + (G.fl.length : Int) = (M.F : Int)) (hI : 0 ≤ G.I) (hF3 : M.F ≤ 10000) (hm : 2 * M.N = m) (hm3 : m ≤ 100000) (hr : Rd w 1 A m c (bools M.nd)) :
    Calls Tryz.prog 23 #[.agg #[.int .i64 G.I, .slice G.AF G.fl.length G.cF, .slice G.AA G.an.length G.cA, .slice G.AO G.ou.length G.cO], .slice A m c] w fun r w' => ∃ g, r = .returned (.slice (some ⟨g, 0, none⟩) m m) ∧ Below w.heap.size w w' ∧ w'.ownsRow w.heap.size 3 1 (.slice (some ⟨g, 0, none⟩) m m) m (ints (M.rowN m)) := by
  have HR := Lib.hid (hr.later (below_new w (.cells #[.int .i64 G.I, .slice G.AF G.fl.length G.cF, .slice G.AA G.an.length G.cA, .slice G.AO G.ou.length G.cO] 26)))
  have Q0 := Lib.hid (below_new w (.cells #[.int .i64 G.I, .slice G.AF G.fl.length G.cF, .slice G.AA G.an.length G.cA, .slice G.AO G.ou.length G.cO] 26))
  have X0 := Lib.hid (Blk.made w 26 #[.int .i64 G.I, .slice G.AF G.fl.length G.cF, .slice G.AA G.an.length G.cA, .slice G.AO G.ou.length G.cO])
  have k0 := X0.out.cell 0
  have k1 := X0.out.cell 1
  have HM := Lib.hid hm
  have HNX := Lib.hid M.rowN_next
  have HSM := Lib.hid M.rowN_same
  have Z0 := Lib.hid (show List.replicate m (Value.int .i64 0) = ints (M.rowN 0) by rw [M.rowN_zero, hm]; simp [ints])
  have I0 := Lib.hid (show M.idx 0 = 0 from rfl)
  obtain ⟨F, hFF⟩ : ∃ F, M.F = F := ⟨_, rfl⟩
  have HFF := Lib.hid hFF
  rw [hFF] at hF hF3
  obtain ⟨h, hh⟩ : ∃ h, G.fl.length = h := ⟨_, rfl⟩
  obtain ⟨I, hII⟩ : ∃ I, G.I = I := ⟨_, rfl⟩
  rw [hh, hII] at hF Q0 X0 HR k0 k1 ⊢
  rw [hII] at hI
  have hwr : IntKind.i64.wrap (1 + I) = 1 + I := IntWalk.i64_in _ (by omega)
  have hwr2 : IntKind.i64.wrap (1 + I + (h : Int)) = (F : Int) := by rw [hF]; exact IntWalk.i64_in _ (by omega)
  have hsz : (w.alloc (.cells #[.int .i64 I, .slice G.AF h G.cF, .slice G.AA G.an.length G.cA, .slice G.AO G.ou.length G.cO] 26)).heap.size = w.heap.size + 1 := by simp
  have HSZ := Lib.hid hsz
  clear hr hm hFF hh hII hsz
  obtain ⟨i0, hi0, hz0, hz1, hz2⟩ := info_parts int_infoA
  have HI0 := Lib.hid hi0
  have HZ0 := Lib.hid hz0
  have HZ1 := Lib.hid hz1
  have HZ2 := Lib.hid hz2
  clear hi0 hz0 hz1 hz2
  go_enter Tryz.func23, Tryz.ntmps23
  go_wp2_with ((with_reducible refine wpList_make_part _ rfl (.tmp 17) (.tmp 17) 24 rfl 3 i0 (.int .i64 0) Tryz.underlying24 HI0.out HZ0.out HZ1.out (int_cells 0) .i64 .i64 _ _ m m rfl rfl (by omega) (by omega) (Nat.le_refl _) ?c1 (by omega) ?_))
  case c1 => rw [HZ2.out]; omega
  intro w5 hown5 hb5
  have R5 := Lib.hid HR
  have O5 := Lib.hid (show w5.ownsRow (w.heap.size + 1) 3 1 (.slice (some ⟨w.heap.size + 1, 0, none⟩) m m) m (ints (M.rowN 0)) from by
    rw [← Z0.out]; exact hown5)
  generalize w.alloc (.cells #[.int .i64 I, .slice G.AF h G.cF, .slice G.AA G.an.length G.cA, .slice G.AO G.ou.length G.cO] 26) = w1 at Q0 HR hb5 HSZ hown5
  have B5 := Lib.hid hb5
  have S5 := Lib.hid (show w.heap.size + 1 ≤ w5.heap.size from by have := hb5.size; have := HSZ.out; omega)
  clear hown5 hb5 k0 k1 R5 X0 Z0
  go_wp2_with fail
  go_loopw [7, 8] (fun v7 v8 wx => ∃ a : Nat, a ≤ m ∧ v7 = .int .i64 ((F : Int) + (M.idx a : Int)) ∧ v8 = .int .i64 (a : Int) ∧ wx.ownsRow (w.heap.size + 1) 3 1 (.slice (some ⟨w.heap.size + 1, 0, none⟩) m m) m (ints (M.rowN a)) ∧ Below (w.heap.size + 1) w1 wx ∧ w.heap.size + 1 ≤ wx.heap.size) (fun v7 v8 _ => m - (intOf v8).toNat)
  case atStart => exact ⟨0, by omega, by rw [I0.out]; simp, rfl, O5.out, B5.out, S5.out⟩
  case round =>
    clear O5 B5 S5
    obtain ⟨a, ham, rfl, rfl, ho, hb, hs⟩ := hrel
    have O := Lib.hid ho
    have B := Lib.hid hb
    clear ho hb
    by_cases hin : a < m
    case neg =>
      obtain rfl : a = m := by omega
      have hlt : ¬ (a : Int) < (a : Int) := by omega
      go_wp2_with fail
      go_ret
      exact ⟨_, rfl, Q0.out.trans (B.out.mono (by omega)), own_base_le O.out (by omega)⟩
    have hlt : (a : Int) < (m : Int) := by omega
    have hga : a < 2 * M.N := by rw [HM.out]; exact hin
    have hfr := O.out.frozenAt a
    obtain ⟨p, hA, hpb, e0⟩ := (HR.out.later (show Below w1.heap.size w1 wr from by rw [HSZ.out]; exact B.out)).bool hin
    subst hA
    have hil := litsTo_short M.nd a
    have HNXa := Lib.hid (HNX.out a hga)
    have HSMa := Lib.hid (HSM.out a hga)
    have hca : wr.cell? ⟨w.heap.size + 1, a, none⟩ = some (.int .i64 ((M.rowN a).getD a 0)) := by
      rw [O.out.cellAt a (by omega)]
      simp [ints, List.getD_eq_getElem?_getD, List.getElem?_eq_getElem (show a < (M.rowN a).length by rw [M.rowN_len]; exact hga)]
    have HY := Lib.hid (M.idx_yes (a := a))
    have HN := Lib.hid (M.idx_no (a := a))
    by_cases hnd : M.nd.getD a false = true
    case pos =>
      rw [hnd] at e0
      have hx : M.rowN (a + 1) = (M.rowN a).set a ((F : Int) + (M.idx a : Int)) := by rw [HNXa.out, if_pos hnd, HFF.out]; simp
      have HX := Lib.hid hx
      have HYY := Lib.hid (HY.out hnd)
      have hix : M.idx a ≤ a := hil
      have S := Lib.hid (O.out.stored a (.int .i64 ((F : Int) + (M.idx a : Int))))
      clear hx hnd HY HN HNXa HSMa
      obtain ⟨x, hxx⟩ : ∃ x, M.idx a = x := ⟨_, rfl⟩
      rw [hxx] at HX HYY S hix ⊢
      have hwr3 : IntKind.i64.wrap ((F : Int) + (x : Int) + 1) = (F : Int) + (x : Int) + 1 := IntWalk.i64_in _ (by omega)
      clear hxx hil hga
      go_wp2_with fail
      go_roundw
      case rel => exact ⟨a + 1, by omega, by rw [HYY.out]; go_num, by go_num, by rw [HX.out, ← ints_put]; exact S.out.1, B.out.grown S.out.2 hs (fun j hj => by simp at hj; omega), by rw [show (wr.setCell _ _).heap.size = wr.heap.size from by simp]; exact hs⟩
      case measure => simp [intOf]; omega
    have hnf : M.nd.getD a false = false := by simpa using hnd
    rw [hnf] at e0
    have HNN := Lib.hid (HN.out hnf)
    obtain ⟨x, hxx⟩ : ∃ x, M.idx a = x := ⟨_, rfl⟩
    rw [hxx] at HNN ⊢
    obtain ⟨q, hq⟩ : ∃ q, a / 2 = q := ⟨_, rfl⟩
    have hq2 : (a : Int) / 2 = (q : Int) := by omega
    by_cases hev : a % 2 = 0 ∧ a / 2 < M.F
    case pos =>
      have hx : M.rowN (a + 1) = (M.rowN a).set a ((q : Nat) : Int) := by rw [HNXa.out, if_neg hnd, if_pos hev, hq]
      have HX := Lib.hid hx
      have S := Lib.hid (O.out.stored a (.int .i64 (q : Int)))
      rw [HFF.out, hq] at hev
      have h0 : (a : Int) % 2 = 0 := by omega
      have h1 : (q : Int) < (F : Int) := by omega
      clear hx hnd hnf HY HN HNXa HSMa hxx hil hga hev
      go_wp2_with fail
      go_roundw
      case rel => exact ⟨a + 1, by omega, by rw [HNN.out], by go_num, by rw [HX.out, ← ints_put]; exact S.out.1, B.out.grown S.out.2 hs (fun j hj => by simp at hj; omega), by rw [show (wr.setCell _ _).heap.size = wr.heap.size from by simp]; exact hs⟩
      case measure => simp [intOf]; omega
    have HX := Lib.hid (HSMa.out hnd hev)
    rw [HFF.out, hq] at hev
    clear hnd hnf HY HN HNXa HSMa hxx hil hga
    by_cases h0' : a % 2 = 0
    case pos =>
      have h0 : (a : Int) % 2 = 0 := by omega
      have h1 : ¬ (q : Int) < (F : Int) := by omega
      clear hev
      go_wp2_with fail
      go_roundw
      case rel => exact ⟨a + 1, by omega, by rw [HNN.out], by go_num, by rw [HX.out]; exact O.out, B.out, hs⟩
      case measure => simp [intOf]; omega
    have h0 : (a : Int) % 2 = 1 := by omega
    clear hev
    go_wp2_with fail
    go_roundw
    case rel => exact ⟨a + 1, by omega, by rw [HNN.out], by go_num, by rw [HX.out]; exact O.out, B.out, hs⟩
    case measure => simp [intOf]; omega
end Go.Proofs.YtaajnmggbhnndaaGreatDoor
