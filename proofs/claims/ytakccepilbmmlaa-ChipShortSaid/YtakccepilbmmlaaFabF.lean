/- Walks of filigree/fabric: every outcome of each function. -/
import Derived.Test.YtakccepilbmmlaaFabD
import Derived.Test.YtakccepilbmmlaaFabE
namespace Go.Proofs.Ytakccepilbmmlaa
open Go.RowKit
set_option linter.unusedVariables false
set_option linter.unusedSimpArgs false

theorem check_any (W H T : Int) (w : World) :
    Calls Try.prog 48 #[.agg #[.int .i64 W, .int .i64 H, .int .i64 T]] w fun e w' => e = .returned (.int .i64 (chkE W H T)) ∧ Below w.heap.size w w' := by
  unfold chkE
  by_cases h : okA W H T
  · rw [if_pos h]; exact check_yes W H T w h
  · rw [if_neg h]; exact check_no W H T w h
theorem nodes_any (W H T : Int) (w : World) :
    Calls Try.prog 22 #[.agg #[.int .i64 W, .int .i64 H, .int .i64 T]] w fun e w' => e = .returned (.int .i64 (nodesO W H T)) ∧ Below w.heap.size w w' := by
  unfold nodesO
  by_cases h : okA W H T
  · rw [if_pos h]; exact nodes_yes W H T w h
  · rw [if_neg h]; exact nodes_no W H T w h
theorem what_any (W H T n : Int) (w : World) :
    Calls Try.prog 41 #[.agg #[.int .i64 W, .int .i64 H, .int .i64 T], .int .i64 n] w fun e w' => e = .returned (whatV (whK W H T n) (whX W H T n) (whY W H T n) (whT W H T n) (whE W H T n)) ∧ Below w.heap.size w w' := by
  unfold whK whX whY whT whE
  by_cases h : isN W H T n
  · simp only [if_pos h]; exact what_yes W H T n w h.1 h.2.1 h.2.2
  · simp only [if_neg h]
    by_cases h0 : n < 0
    · exact what_low W H T n w h0
    · by_cases h1 : okA W H T
      · exact what_high W H T n w h1 (by omega) (by unfold isN at h; simp only [h1, true_and] at h; omega)
      · exact what_no W H T n w h1 (by omega)
theorem node_any (W H T x y t : Int) (c : Nat) (w : World) (hc : c < 5) :
    Calls Try.prog 51 #[.agg #[.int .i64 W, .int .i64 H, .int .i64 T], .int .i64 ((c : Int) + 1), .int .i64 x, .int .i64 y, .int .i64 t] w fun e w' => e = .returned (pairV (nodeN W H T c x y t) (nodeE W H T c x y t)) ∧ Below w.heap.size w w' := by
  unfold nodeN nodeE
  by_cases h : okA W H T
  · refine (node_core W H T x y t c w h hc).mono fun e w' ⟨he, hb⟩ => ⟨?_, hb⟩
    rw [he]
    by_cases hg : inG W H T c x y t
    · simp only [h, hg, and_self, if_true]
    · simp only [h, hg, and_false, if_false]
  · simp only [h, false_and, if_false]
    exact node_no W H T _ x y t w h
set_option maxRecDepth 100000 in
set_option maxHeartbeats 400000 in
theorem pads_yes (W H T : Int) (w : World) (h : okA W H T) :
    Calls Try.prog 62 #[.agg #[.int .i64 W, .int .i64 H, .int .i64 T]] w fun e w' => e = .returned (.int .i64 (2 * W + 2 * H)) ∧ Below w.heap.size w w' := by
  have hix : ∀ w, (Instr.index 84 (.agg (gridsC W H T).toArray) (.int .i64 2)).run Try.prog w = .ok (.agg #[.int .i64 3, .int .i64 (2 * W + 2 * H), .int .i64 1, .int .i64 1]) w := fun w => by kernel_rfl
  have hfl : ∀ w, (Instr.field 83 (.agg #[.int .i64 3, .int .i64 (2 * W + 2 * H), .int .i64 1, .int .i64 1]) 1).run Try.prog w = .ok (.int .i64 (2 * W + 2 * H)) w := fun w => by kernel_rfl
  go_enter Try.func62, Try.ntmps62
  go_wp2_with (first
    | (go_at_call 48; refine (check_yes W H T _ h).mono ?_; rintro e w1 ⟨rfl, hb1⟩; obtain ⟨hc1, hf1⟩ := bcell hb1)
    | (go_at_call 58; refine (grids_ok W H T _ h).mono ?_; rintro e w2 ⟨rfl, hb2⟩))
  go_ret
  exact ⟨rfl, (((Below.refl _ _).alloc (Nat.le_refl _) _).trans (hb1.mono (by simp))).trans (hb2.mono (by have := hb1.size; simp at this; omega))⟩
theorem pads_no (W H T : Int) (w : World) (h : ¬ okA W H T) :
    Calls Try.prog 62 #[.agg #[.int .i64 W, .int .i64 H, .int .i64 T]] w fun e w' => e = .returned (.int .i64 0) ∧ Below w.heap.size w w' := by
  go_enter Try.func62, Try.ntmps62
  go_wp2_with (go_at_call 48; refine (check_no W H T _ h).mono ?_; rintro e w1 ⟨rfl, hb1⟩)
  go_ret
  exact ⟨rfl, ((Below.refl _ _).alloc (Nat.le_refl _) _).trans (hb1.mono (by simp))⟩
theorem pads_any (W H T : Int) (w : World) :
    Calls Try.prog 62 #[.agg #[.int .i64 W, .int .i64 H, .int .i64 T]] w fun e w' => e = .returned (.int .i64 (padsO W H T)) ∧ Below w.heap.size w w' := by
  unfold padsO
  by_cases h : okA W H T
  · rw [if_pos h]; exact pads_yes W H T w h
  · rw [if_neg h]; exact pads_no W H T w h

set_option maxHeartbeats 400000 in
theorem out_any (W H T x y : Int) (w : World) :
    Calls Try.prog 93 #[.agg #[.int .i64 W, .int .i64 H, .int .i64 T], .int .i64 x, .int .i64 y] w fun e w' => e = .returned (pairV (nodeN W H T 0 x y 0) (nodeE W H T 0 x y 0)) ∧ Below w.heap.size w w' := by
  go_enter Try.func93, Try.ntmps93
  go_wp2_with (go_at_call 51; refine (node_any W H T _ _ _ 0 _ (by omega)).mono ?_; rintro e w1 ⟨rfl, hb1⟩)
  go_ret2
  exact ⟨rfl, ((Below.refl _ _).alloc (Nat.le_refl _) _).trans (hb1.mono (by simp))⟩


set_option maxHeartbeats 400000 in
theorem pad_any (W H T x : Int) (w : World) :
    Calls Try.prog 40 #[.agg #[.int .i64 W, .int .i64 H, .int .i64 T], .int .i64 x] w fun e w' => e = .returned (pairV (nodeN W H T 2 x 0 0) (nodeE W H T 2 x 0 0)) ∧ Below w.heap.size w w' := by
  go_enter Try.func40, Try.ntmps40
  go_wp2_with (go_at_call 51; refine (node_any W H T _ _ _ 2 _ (by omega)).mono ?_; rintro e w1 ⟨rfl, hb1⟩)
  go_ret2
  exact ⟨rfl, ((Below.refl _ _).alloc (Nat.le_refl _) _).trans (hb1.mono (by simp))⟩


end Go.Proofs.Ytakccepilbmmlaa
