/- Walks of filigree/fabric: around, border. -/
import Derived.Test.YtakccepilbmmlaaEdB
import Derived.BigQuiet
import Derived.Deep.QuietTactic
namespace Go.Proofs.Ytakccepilbmmlaa
open Go.RowKit
set_option linter.unusedVariables false
set_option linter.unusedSimpArgs false

/-- the four places around a tile: grid, column, row -/
def arC : Nat → Nat
  | 0 => 3
  | 1 => 4
  | 2 => 3
  | _ => 4
def arX (x : Int) : Nat → Int
  | 1 => x + 1
  | _ => x
def arY (y : Int) : Nat → Int
  | 2 => y + 1
  | _ => y
def aroundC (x y : Int) : List Value := [.int .i64 4, .int .i64 x, .int .i64 y, .int .i64 5, .int .i64 (x + 1), .int .i64 y, .int .i64 4, .int .i64 x, .int .i64 (y + 1), .int .i64 5, .int .i64 x, .int .i64 y]
theorem arC_lt (k : Nat) : arC k < 5 := by
  rcases k with _ | _ | _ | k <;> simp [arC]
theorem lt4 {k : Nat} (h : k < 4) : k = 0 ∨ k = 1 ∨ k = 2 ∨ k = 3 := by omega
theorem around_at (x y : Int) {k : Nat} (hk : k < 4) (w : World) :
    (Instr.index 75 (.agg (aroundC x y).toArray) (.int .i64 (k : Int))).run Try.prog w = .ok (.agg #[.int .i64 ((arC k : Int) + 1), .int .i64 (arX x k), .int .i64 (arY y k)]) w := by
  rcases lt4 hk with rfl | rfl | rfl | rfl <;> kernel_rfl

set_option maxRecDepth 100000 in
set_option maxHeartbeats 1000000 in
theorem around_any (x y : Int) (w : World) (hx : 0 ≤ x ∧ x ≤ 100) (hy : 0 ≤ y ∧ y ≤ 100) :
    Calls Try.prog 52 #[.int .i64 x, .int .i64 y] w fun e w' => e = .returned (.agg (aroundC x y).toArray) ∧ Below w.heap.size w w' := by
  have hi : (Try.prog.info? 75).map (·.size) = some 12 := by kernel_rfl
  have hbt : ∀ (x y : Int), Try.prog.built 75 [(0, .agg #[.int .i64 4, .int .i64 x, .int .i64 y]), (1, .agg #[.int .i64 5, .int .i64 (x + 1), .int .i64 y]), (2, .agg #[.int .i64 4, .int .i64 x, .int .i64 (y + 1)]), (3, .agg #[.int .i64 5, .int .i64 x, .int .i64 y])] = some (aroundC x y).toArray := fun _ _ => by kernel_rfl
  have HB := Lib.hid hbt
  clear hbt
  go_enter Try.func52, Try.ntmps52
  go_wp2_with (first | ((with_reducible refine wpList_build_to rfl 75 _ rfl _ rfl (aroundC x y).toArray ?_ ?_); (· exact HB.out x y)) | ((with_reducible apply wpList_store_new (cells := aroundC x y) rfl 75 (.tmp 4) (.tmp 19) rfl); (case hW => exact rfl); (case hx => exact rfl); (case hn => simp); (case hy => rfl); (case hl => rfl); (case hi => exact hi); (case h1 => rfl)))
  refine bodyPost_ret (v := .agg (aroundC x y).toArray) ?_ rfl ⟨rfl, ?_⟩
  · exact results_cell_row rfl _ _ w.heap.size 75 _ (0, 0) _ rfl (by simpa using heap_alloc_new w _) Try.underlying75 rfl hi
  · exact below_new w _

/-- the place that a pad meets -/
def brC (W H p : Int) : Nat := if p < 2 * W then 3 else 4
def brX (W H p : Int) : Int := if p < W then p else if p < 2 * W then p - W else if p < 2 * W + H then 0 else W
def brY (W H p : Int) : Int := if p < W then 0 else if p < 2 * W then H else if p < 2 * W + H then p - 2 * W else p - 2 * W - H
theorem brC_lt (W H p : Int) : brC W H p < 5 := by unfold brC; split <;> omega

set_option maxRecDepth 100000 in
set_option maxHeartbeats 1000000 in
theorem border_any (W H T p : Int) (w : World) (h : okA W H T) (hp : 0 ≤ p ∧ p ≤ 100) :
    Calls Try.prog 53 #[.agg #[.int .i64 W, .int .i64 H, .int .i64 T], .int .i64 p] w fun e w' => e = .returned (.agg #[.int .i64 ((brC W H p : Int) + 1), .int .i64 (brX W H p), .int .i64 (brY W H p)]) ∧ Below w.heap.size w w' := by
  have hh := h
  unfold okA at hh
  have hi : (Try.prog.info? 72).map (·.size) = some 3 := by kernel_rfl
  have HI := Lib.hid hi
  clear hi h
  by_cases c1 : p < W
  · have e1 : (brC W H p : Int) + 1 = 4 := by unfold brC; rw [if_pos (by omega)]; rfl
    have e2 : brX W H p = p := by unfold brX; rw [if_pos c1]
    have e3 : brY W H p = 0 := by unfold brY; rw [if_pos c1]
    rw [e1, e2, e3]
    clear e1 e2 e3
    go_enter Try.func53, Try.ntmps53
    go_wp2
    go_region
    go_wp2
    refine bodyPost_ret (v := .agg #[.int .i64 4, .int .i64 (p), .int .i64 (0)]) ?_ rfl ⟨rfl, ?_⟩
    · exact results_cell_row rfl _ _ (w.heap.size + 1) 72 _ (0, 0) _ rfl (heap_alloc2_new w _ _) Try.underlying72 rfl HI.out
    · exact (below_then (below_new w _) (below_new _ _)).drew
  · by_cases c2 : p < 2 * W
    · have e1 : (brC W H p : Int) + 1 = 4 := by unfold brC; rw [if_pos (by omega)]; rfl
      have e2 : brX W H p = p - W := by unfold brX; rw [if_neg c1, if_pos c2]
      have e3 : brY W H p = H := by unfold brY; rw [if_neg c1, if_pos c2]
      rw [e1, e2, e3]
      clear e1 e2 e3
      go_enter Try.func53, Try.ntmps53
      go_wp2
      go_region
      go_wp2
      refine bodyPost_ret (v := .agg #[.int .i64 4, .int .i64 (p - W), .int .i64 (H)]) ?_ rfl ⟨rfl, ?_⟩
      · exact results_cell_row rfl _ _ (w.heap.size + 1) 72 _ (0, 0) _ rfl (heap_alloc2_new w _ _) Try.underlying72 rfl HI.out
      · exact (below_then (below_new w _) (below_new _ _)).drew
    · by_cases c3 : p < 2 * W + H
      · have e1 : (brC W H p : Int) + 1 = 5 := by unfold brC; rw [if_neg (by omega)]; rfl
        have e2 : brX W H p = 0 := by unfold brX; rw [if_neg c1, if_neg c2, if_pos c3]
        have e3 : brY W H p = p - 2 * W := by unfold brY; rw [if_neg c1, if_neg c2, if_pos c3]
        rw [e1, e2, e3]
        clear e1 e2 e3
        go_enter Try.func53, Try.ntmps53
        go_wp2
        go_region
        go_wp2
        refine bodyPost_ret (v := .agg #[.int .i64 5, .int .i64 (0), .int .i64 (p - 2 * W)]) ?_ rfl ⟨rfl, ?_⟩
        · exact results_cell_row rfl _ _ (w.heap.size + 1) 72 _ (0, 0) _ rfl (heap_alloc2_new w _ _) Try.underlying72 rfl HI.out
        · exact (below_then (below_new w _) (below_new _ _)).drew
      · have e1 : (brC W H p : Int) + 1 = 5 := by unfold brC; rw [if_neg (by omega)]; rfl
        have e2 : brX W H p = W := by unfold brX; rw [if_neg c1, if_neg c2, if_neg c3]
        have e3 : brY W H p = p - 2 * W - H := by unfold brY; rw [if_neg c1, if_neg c2, if_neg c3]
        rw [e1, e2, e3]
        clear e1 e2 e3
        go_enter Try.func53, Try.ntmps53
        go_wp2
        go_region
        go_wp2
        refine bodyPost_ret (v := .agg #[.int .i64 5, .int .i64 (W), .int .i64 (p - 2 * W - H)]) ?_ rfl ⟨rfl, ?_⟩
        · exact results_cell_row rfl _ _ (w.heap.size + 1) 72 _ (0, 0) _ rfl (heap_alloc2_new w _ _) Try.underlying72 rfl HI.out
        · exact (below_then (below_new w _) (below_new _ _)).drew
end Go.Proofs.Ytakccepilbmmlaa
