/- Walk of the laws' own 'small'. -/
import Derived.Test.YtakccepilbmmlaaRefC
import Derived.Test.YtakccepilbmmlaaBox
namespace Go.Proofs.Ytakccepilbmmlaa
open Go.RowKit
set_option linter.unusedVariables false
set_option linter.unusedSimpArgs false

/-- is a fabric small, or none? -/
def smallB (W H T : Int) : Bool := decide (W ≤ 5 ∧ H ≤ 5 ∧ T ≤ 5) || (chkE W H T != 0)
theorem below_any {B : Nat} {w w' : World} (h : Below B w w') : Below B w w' := h

theorem small_in (W H T : Int) (w : World) (h : W ≤ 5 ∧ H ≤ 5 ∧ T ≤ 5) :
    Calls Try.prog 36 #[.agg #[.int .i64 W, .int .i64 H, .int .i64 T]] w fun e w' => e = .returned (.bool true) ∧ Below w.heap.size w w' := by
  obtain ⟨h1, h2, h3⟩ := h
  go_enter Try.func36, Try.ntmps36
  go_wp2_with fail
  go_ret
  exact ⟨rfl, below_new w _⟩
theorem small_w (W H T : Int) (w : World) (h : 5 < W) :
    Calls Try.prog 36 #[.agg #[.int .i64 W, .int .i64 H, .int .i64 T]] w fun e w' => e = .returned (.bool (chkE W H T != 0)) ∧ Below w.heap.size w w' := by
  go_enter Try.func36, Try.ntmps36
  go_wp2_with (go_at_call 65; refine (rcheck_any _ _ _ _).mono ?_; rintro e w1 ⟨rfl, hb1⟩)
  go_ret
  exact ⟨rfl, below_then (below_new w _) hb1⟩
theorem small_h (W H T : Int) (w : World) (h0 : W ≤ 5) (h : 5 < H) :
    Calls Try.prog 36 #[.agg #[.int .i64 W, .int .i64 H, .int .i64 T]] w fun e w' => e = .returned (.bool (chkE W H T != 0)) ∧ Below w.heap.size w w' := by
  go_enter Try.func36, Try.ntmps36
  go_wp2_with (go_at_call 65; refine (rcheck_any _ _ _ _).mono ?_; rintro e w1 ⟨rfl, hb1⟩)
  go_ret
  exact ⟨rfl, below_then (below_new w _) hb1⟩
theorem small_t (W H T : Int) (w : World) (h0 : W ≤ 5) (h1 : H ≤ 5) (h : 5 < T) :
    Calls Try.prog 36 #[.agg #[.int .i64 W, .int .i64 H, .int .i64 T]] w fun e w' => e = .returned (.bool (chkE W H T != 0)) ∧ Below w.heap.size w w' := by
  have hd : decide (T ≤ 5) = false := by simp; omega
  go_enter Try.func36, Try.ntmps36
  go_wp2_with (go_at_call 65; refine (rcheck_any _ _ _ _).mono ?_; rintro e w1 ⟨rfl, hb1⟩)
  go_ret
  exact ⟨rfl, below_then (below_new w _) hb1⟩
theorem small_any (W H T : Int) (w : World) :
    Calls Try.prog 36 #[.agg #[.int .i64 W, .int .i64 H, .int .i64 T]] w fun e w' => e = .returned (.bool (smallB W H T)) ∧ Below w.heap.size w w' := by
  unfold smallB
  by_cases h : W ≤ 5 ∧ H ≤ 5 ∧ T ≤ 5
  · rw [decide_eq_true h, Bool.true_or]
    exact small_in W H T w h
  · rw [decide_eq_false h, Bool.false_or]
    by_cases h1 : 5 < W
    · exact small_w W H T w h1
    · by_cases h2 : 5 < H
      · exact small_h W H T w (by omega) h2
      · exact small_t W H T w (by omega) (by omega) (by omega)
end Go.Proofs.Ytakccepilbmmlaa
