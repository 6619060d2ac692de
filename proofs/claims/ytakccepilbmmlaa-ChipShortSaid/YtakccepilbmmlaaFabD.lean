/- Walks of filigree/fabric: What. -/
import Derived.Test.YtakccepilbmmlaaFabC
import Derived.BigQuiet
import Derived.Deep.QuietTactic
namespace Go.Proofs.Ytakccepilbmmlaa
open Go.RowKit
set_option linter.unusedVariables false
set_option linter.unusedSimpArgs false


theorem what_low (W H T n : Int) (w : World) (h : n < 0) :
    Calls Try.prog 41 #[.agg #[.int .i64 W, .int .i64 H, .int .i64 T], .int .i64 n] w fun e w' => e = .returned (whatV 0 0 0 0 1) ∧ Below w.heap.size w w' := by
  go_enter Try.func41, Try.ntmps41
  go_wp2_with fail
  refine bodyPost_ret (results_tmp5 rfl _ _ _) rfl ?_
  exact ⟨rfl, (Below.refl _ _).alloc (Nat.le_refl _) _⟩

theorem what_no (W H T n : Int) (w : World) (h : ¬ okA W H T) (hn : 0 ≤ n) :
    Calls Try.prog 41 #[.agg #[.int .i64 W, .int .i64 H, .int .i64 T], .int .i64 n] w fun e w' => e = .returned (whatV 0 0 0 0 1) ∧ Below w.heap.size w w' := by
  go_enter Try.func41, Try.ntmps41
  go_wp2_with (go_at_call 22; refine (nodes_no W H T _ h).mono ?_; rintro e w1 ⟨rfl, hb1⟩)
  refine bodyPost_ret (results_tmp5 rfl _ _ _) rfl ?_
  exact ⟨rfl, ((Below.refl _ _).alloc (Nat.le_refl _) _).trans (hb1.mono (by simp))⟩

theorem what_high (W H T n : Int) (w : World) (h : okA W H T) (hn : 0 ≤ n) (hm : nodesI W H T ≤ n) :
    Calls Try.prog 41 #[.agg #[.int .i64 W, .int .i64 H, .int .i64 T], .int .i64 n] w fun e w' => e = .returned (whatV 0 0 0 0 1) ∧ Below w.heap.size w w' := by
  go_enter Try.func41, Try.ntmps41
  go_wp2_with (go_at_call 22; refine (nodes_yes W H T _ h).mono ?_; rintro e w1 ⟨rfl, hb1⟩)
  refine bodyPost_ret (results_tmp5 rfl _ _ _) rfl ?_
  exact ⟨rfl, ((Below.refl _ _).alloc (Nat.le_refl _) _).trans (hb1.mono (by simp))⟩

set_option maxHeartbeats 400000 in
theorem what_yes (W H T n : Int) (w : World) (h : okA W H T) (hn : 0 ≤ n) (hm : n < nodesI W H T) :
    Calls Try.prog 41 #[.agg #[.int .i64 W, .int .i64 H, .int .i64 T], .int .i64 n] w fun e w' => e = .returned (whatV ((gk W H T n : Int) + 1) (wx W H T n) (wy W H T n) (wt W H T n) 0) ∧ Below w.heap.size w w' := by
  have hnb := nodes_bd h
  go_enter Try.func41, Try.ntmps41
  go_wp2_with (first
    | (go_at_call 22; refine (nodes_yes W H T _ h).mono ?_; rintro e w1 ⟨rfl, hb1⟩; obtain ⟨hc1, hf1⟩ := bcell hb1)
    | (go_at_call 58; refine (grids_ok W H T _ h).mono ?_; rintro e w2 ⟨rfl, hb2⟩))
  clear hc1 hf1
  have hB : Below w.heap.size w w2 := (((Below.refl _ _).alloc (Nat.le_refl _) _).trans (hb1.mono (by simp))).trans (hb2.mono (by have := hb1.size; simp at this; omega))
  clear hb1 hb2
  have H0 := Lib.hid h
  clear h
  go_loopw [1, 22] (fun m i wr => ∃ k : Nat, k ≤ 5 ∧ i = .int .i64 (k : Int) ∧ gat W H T k ≤ n ∧ m = .int .i64 (n - gat W H T k) ∧ Below w.heap.size w wr) (fun _ i _ => 5 - (intOf i).toNat)
  case atStart => exact ⟨0, by omega, rfl, by simpa [gat] using hn, by simp [gat], hB⟩
  case round =>
    obtain ⟨k, hk, rfl, hge, rfl, hbr⟩ := hrel
    by_cases hlt : k < 5
    · have hix := grid_at W H T hlt
      have hq := g_bd2 H0.out hlt
      have hq2 := gat_bd H0.out hk
      have hq3 := g_bd H0.out hlt
      by_cases hin : n - gat W H T k < gw W H k * gh H k * gd T k
      · have hp1 : 0 ≤ (n - gat W H T k) / gd T k := Int.ediv_nonneg (by omega) (by omega)
        have hp2 : (n - gat W H T k) / gd T k ≤ n - gat W H T k := Int.ediv_le_self _ (by omega)
        have hp3 : 0 ≤ (n - gat W H T k) / gd T k / gw W H k := Int.ediv_nonneg (by omega) (by omega)
        have hp4 : (n - gat W H T k) / gd T k / gw W H k ≤ (n - gat W H T k) / gd T k := Int.ediv_le_self _ (by omega)
        go_wp2_with (go_at_call 59; refine (many_any _ _ _ _ _ (by omega) (by omega) (by omega) (by omega)).mono ?_; rintro e w3 ⟨rfl, hb3⟩; obtain ⟨hc3, hf3⟩ := bcell hb3)
        go_quiet (fail)
        go_wp2
        refine bodyPost_ret (results_tmp5 rfl _ _ _) rfl ?_
        have hg := gk_eq H0.out hlt hge (by simp only [gat, gmany]; omega)
        refine ⟨?_, ?_⟩
        · simp only [whatV, wx, wy, wt, wq, hg]
          rfl
        · exact below_drewN ((hbr.alloc hbr.size _).trans (hb3.mono (by have := hbr.size; simp; omega))) _
      · go_wp2_with fail
        refine (many_any _ _ _ _ _ (by omega) (by omega) (by omega) (by omega)).mono ?_
        rintro e w3 ⟨rfl, hb3⟩
        obtain ⟨hc3, hf3⟩ := bcell hb3
        go_wp2_with fail
        refine (many_any _ _ _ _ _ (by omega) (by omega) (by omega) (by omega)).mono ?_
        rintro e w4 ⟨rfl, hb4⟩
        go_wp2_with fail
        have hw3 : Below w.heap.size w w3 := (hbr.alloc hbr.size _).trans (hb3.mono (by have := hbr.size; simp; omega))
        go_roundw
        case rel => exact ⟨k + 1, by omega, by go_num, by simp only [gat, gmany]; omega, by simp only [gat, gmany]; go_num, hw3.trans (hb4.mono hw3.size)⟩
        case measure => simp [intOf]; omega
    · obtain rfl : k = 5 := by omega
      exfalso; unfold nodesI at hm; omega
end Go.Proofs.Ytakccepilbmmlaa
