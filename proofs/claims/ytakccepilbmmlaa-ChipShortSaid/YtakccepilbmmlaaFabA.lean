/- Walks of filigree/fabric's small functions: Check, many, grids. -/
import Derived.Test.YtakccepilbmmlaaFabP
namespace Go.Proofs.Ytakccepilbmmlaa
open Go.RowKit
set_option linter.unusedVariables false
set_option linter.unusedSimpArgs false

set_option maxHeartbeats 400000 in
theorem check_core (W H T m M : Int) (w : World) (hm : (if T < (if H < W then H else W) then T else (if H < W then H else W)) = m) (hM : (if W < H then H else W) = M) :
    Calls Try.prog 48 #[.agg #[.int .i64 W, .int .i64 H, .int .i64 T]] w fun e w' => (e = .returned (.int .i64 (if m < 1 ∨ 16 < M ∨ 16 < T then 1 else 0))) ∧ Below w.heap.size w w' := by
  by_cases c1 : m < 1
  · go_enter Try.func48, Try.ntmps48
    go_wp2
    go_ret
    exact ⟨by simp [c1], (Below.refl _ _).alloc (Nat.le_refl _) _⟩
  · by_cases c2 : 16 < M
    · go_enter Try.func48, Try.ntmps48
      go_wp2
      go_ret
      exact ⟨by simp [c2], (Below.refl _ _).alloc (Nat.le_refl _) _⟩
    · by_cases c3 : 16 < T
      · go_enter Try.func48, Try.ntmps48
        go_wp2
        go_ret
        exact ⟨by simp [c3], (Below.refl _ _).alloc (Nat.le_refl _) _⟩
      · go_enter Try.func48, Try.ntmps48
        go_wp2
        go_ret
        exact ⟨by simp [c1, c2, c3], (Below.refl _ _).alloc (Nat.le_refl _) _⟩

theorem check_yes (W H T : Int) (w : World) (h : okA W H T) :
    Calls Try.prog 48 #[.agg #[.int .i64 W, .int .i64 H, .int .i64 T]] w fun e w' => e = .returned (.int .i64 0) ∧ Below w.heap.size w w' := by
  refine (check_core W H T _ _ w rfl rfl).mono fun e w' ⟨he, hb⟩ => ⟨?_, hb⟩
  rw [he, if_neg]
  unfold okA at h
  split <;> split <;> split <;> omega
theorem check_no (W H T : Int) (w : World) (h : ¬ okA W H T) :
    Calls Try.prog 48 #[.agg #[.int .i64 W, .int .i64 H, .int .i64 T]] w fun e w' => e = .returned (.int .i64 1) ∧ Below w.heap.size w w' := by
  refine (check_core W H T _ _ w rfl rfl).mono fun e w' ⟨he, hb⟩ => ⟨?_, hb⟩
  rw [he, if_pos]
  unfold okA at h
  split <;> split <;> split <;> omega

set_option maxHeartbeats 400000 in
theorem many_any (k a b c : Int) (w : World) (h1 : 0 ≤ a * b) (h2 : a * b ≤ 100000) (h3 : 0 ≤ a * b * c) (h4 : a * b * c ≤ 100000) :
    Calls Try.prog 59 #[.agg #[.int .i64 k, .int .i64 a, .int .i64 b, .int .i64 c]] w fun e w' => e = .returned (.int .i64 (a * b * c)) ∧ Below w.heap.size w w' := by
  go_enter Try.func59, Try.ntmps59
  go_wp2
  go_ret
  exact ⟨rfl, (Below.refl _ _).alloc (Nat.le_refl _) _⟩

end Go.Proofs.Ytakccepilbmmlaa
