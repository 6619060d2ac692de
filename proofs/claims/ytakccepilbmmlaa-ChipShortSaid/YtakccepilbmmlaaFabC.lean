/- Walks of filigree/fabric: Nodes. -/
import Derived.Test.YtakccepilbmmlaaFabB
namespace Go.Proofs.Ytakccepilbmmlaa
open Go.RowKit
set_option linter.unusedVariables false
set_option linter.unusedSimpArgs false

/-- grid k out of the five -/
theorem grid_at (W H T : Int) {k : Nat} (hk : k < 5) (w : World) :
    (Instr.index 84 (.agg (gridsC W H T).toArray) (.int .i64 (k : Int))).run Try.prog w = .ok (.agg #[.int .i64 ((k : Int) + 1), .int .i64 (gw W H k), .int .i64 (gh H k), .int .i64 (gd T k)]) w := by
  rcases lt5 hk with rfl | rfl | rfl | rfl | rfl <;> kernel_rfl

theorem nodes_no (W H T : Int) (w : World) (h : ¬ okA W H T) :
    Calls Try.prog 22 #[.agg #[.int .i64 W, .int .i64 H, .int .i64 T]] w fun e w' => e = .returned (.int .i64 0) ∧ Below w.heap.size w w' := by
  go_enter Try.func22, Try.ntmps22
  go_wp2_with (go_at_call 48; refine (check_no W H T _ h).mono ?_; rintro e w1 ⟨rfl, hb1⟩)
  go_ret
  exact ⟨rfl, ((Below.refl _ _).alloc (Nat.le_refl _) _).trans (hb1.mono (by simp))⟩

set_option maxHeartbeats 400000 in
theorem nodes_yes (W H T : Int) (w : World) (h : okA W H T) :
    Calls Try.prog 22 #[.agg #[.int .i64 W, .int .i64 H, .int .i64 T]] w fun e w' => e = .returned (.int .i64 (nodesI W H T)) ∧ Below w.heap.size w w' := by
  go_enter Try.func22, Try.ntmps22
  go_wp2_with (first
    | (go_at_call 48; refine (check_yes W H T _ h).mono ?_; rintro e w1 ⟨rfl, hb1⟩; obtain ⟨hc1, hf1⟩ := bcell hb1)
    | (go_at_call 58; refine (grids_ok W H T _ h).mono ?_; rintro e w2 ⟨rfl, hb2⟩))
  clear hc1 hf1
  have hB : Below w.heap.size w w2 := (((Below.refl _ _).alloc (Nat.le_refl _) _).trans (hb1.mono (by simp))).trans (hb2.mono (by have := hb1.size; simp at this; omega))
  clear hb1 hb2
  have H0 := Lib.hid h
  clear h
  go_loopw [3, 11] (fun n i wr => ∃ k : Nat, k ≤ 5 ∧ i = .int .i64 (k : Int) ∧ n = .int .i64 (gat W H T k) ∧ Below w.heap.size w wr) (fun _ i _ => 5 - (intOf i).toNat)
  case atStart => exact ⟨0, by omega, rfl, rfl, hB⟩
  case round =>
    obtain ⟨k, hk, rfl, rfl, hbr⟩ := hrel
    by_cases hlt : k < 5
    · have hix := grid_at W H T hlt
      have hq := g_bd2 H0.out hlt
      have hq2 := gat_bd H0.out hk
      go_wp2_with (go_at_call 59; refine (many_any _ _ _ _ _ (by omega) (by omega) (by omega) (by omega)).mono ?_; rintro e w3 ⟨rfl, hb3⟩)
      go_roundw
      case rel => exact ⟨k + 1, by omega, by go_num, rfl, (hbr.alloc hbr.size _).trans (hb3.mono (by have := hbr.size; simp; omega))⟩
      case measure => simp [intOf]; omega
    · obtain rfl : k = 5 := by omega
      go_wp2
      go_ret
      exact ⟨rfl, hbr⟩
end Go.Proofs.Ytakccepilbmmlaa
