/- Walks of filigree/fabric: grids. -/
import Derived.Test.YtakccepilbmmlaaFabA
namespace Go.Proofs.Ytakccepilbmmlaa
open Go.RowKit
set_option linter.unusedVariables false
set_option linter.unusedSimpArgs false

/-- the five grids, cell by cell -/
def gridsC (W H T : Int) : List Value := [.int .i64 1, .int .i64 W, .int .i64 H, .int .i64 1, .int .i64 2, .int .i64 W, .int .i64 H, .int .i64 4, .int .i64 3, .int .i64 (2 * W + 2 * H), .int .i64 1, .int .i64 1, .int .i64 4, .int .i64 W, .int .i64 (H + 1), .int .i64 T, .int .i64 5, .int .i64 (W + 1), .int .i64 H, .int .i64 T]
abbrev gridsV (W H T : Int) : Value := .agg (gridsC W H T).toArray

set_option maxRecDepth 100000 in
set_option maxHeartbeats 400000 in
theorem grids_ok (W H T : Int) (w : World) (h : okA W H T) :
    Calls Try.prog 58 #[.agg #[.int .i64 W, .int .i64 H, .int .i64 T]] w fun e w' => e = .returned (gridsV W H T) ∧ Below w.heap.size w w' := by
  obtain ⟨⟨h1, h2⟩, ⟨h3, h4⟩, h5, h6⟩ := h
  go_enter Try.func58, Try.ntmps58
  have hi : (Try.prog.info? 84).map (·.size) = some 20 := by kernel_rfl
  have hbt : ∀ (W H T : Int), Try.prog.built 84 [(0, .agg #[.int .i64 1, .int .i64 W, .int .i64 H, .int .i64 1]), (1, .agg #[.int .i64 2, .int .i64 W, .int .i64 H, .int .i64 4]), (2, .agg #[.int .i64 3, .int .i64 (2 * W + 2 * H), .int .i64 1, .int .i64 1]), (3, .agg #[.int .i64 4, .int .i64 W, .int .i64 (H + 1), .int .i64 T]), (4, .agg #[.int .i64 5, .int .i64 (W + 1), .int .i64 H, .int .i64 T])] = some (gridsC W H T).toArray := fun _ _ _ => by kernel_rfl
  have HB := Lib.hid hbt
  clear hbt
  go_wp2_with (first | ((with_reducible refine wpList_build_to rfl 84 _ rfl _ rfl (gridsC W H T).toArray ?_ ?_); (· exact HB.out W H T)) | ((with_reducible apply wpList_store_new (cells := gridsC W H T) rfl 84 (.tmp 2) (.tmp 37) rfl); (case hW => exact rfl); (case hx => exact rfl); (case hn => simp); (case hy => rfl); (case hl => rfl); (case hi => exact hi); (case h1 => rfl)))
  refine bodyPost_ret (v := gridsV W H T) ?_ rfl ⟨rfl, ?_⟩
  · exact results_cell_row rfl _ _ (w.heap.size + 1) 84 _ (0, 0) _ rfl (by simpa using heap_alloc_new (w.alloc _) _) Try.underlying84 rfl hi
  · exact ((Below.refl _ _).alloc (Nat.le_refl _) _).alloc (by simp) _

end Go.Proofs.Ytakccepilbmmlaa
