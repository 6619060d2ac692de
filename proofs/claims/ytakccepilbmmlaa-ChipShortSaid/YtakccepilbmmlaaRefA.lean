/- Walks of the reference of layer 28: Check, in, Pads, begin. -/
import Derived.Test.YtakccepilbmmlaaFabP
import Derived.BigQuiet
import Derived.Deep.QuietTactic
import Derived.Deep.RegionHeld3
import Derived.Deep.DrawnRows
namespace Go.Proofs.Ytakccepilbmmlaa
open Go.RowKit
set_option linter.unusedVariables false
set_option linter.unusedSimpArgs false

/-- the three sizes, by number -/
def el3 (W H T : Int) : Nat → Int
  | 0 => W
  | 1 => H
  | _ => T
theorem el3_ok {W H T : Int} (h : okA W H T) (k : Nat) : 1 ≤ el3 W H T k ∧ el3 W H T k ≤ 16 := by
  unfold okA at h
  rcases k with _ | _ | k <;> simp only [el3] <;> omega
theorem el3_cell (W H T : Int) {k : Nat} (hk : k < 3) (h : k < [Value.int .i64 W, .int .i64 H, .int .i64 T].length) : [Value.int .i64 W, .int .i64 H, .int .i64 T][k]'h = .int .i64 (el3 W H T k) := by
  have : k = 0 ∨ k = 1 ∨ k = 2 := by omega
  rcases this with rfl | rfl | rfl <;> rfl

set_option maxHeartbeats 400000 in
theorem rcheck_yes (W H T : Int) (w : World) (h : okA W H T) :
    Calls Try.prog 65 #[.agg #[.int .i64 W, .int .i64 H, .int .i64 T]] w fun e w' => e = .returned (.int .i64 0) ∧ Below w.heap.size w w' := by
  have H0 := Lib.hid h
  clear h
  go_enter Try.func65, Try.ntmps65
  go_wp2
  go_loop [4, 13] (fun n i => ∃ k : Nat, k ≤ 3 ∧ i = .int .i64 (k : Int)) (fun _ i => 3 - (intOf i).toNat)
  case atStart => exact ⟨0, by omega, rfl⟩
  case round =>
    obtain ⟨k, hk, rfl⟩ := hrel
    by_cases hlt : k < 3
    · have hc := el3_cell W H T hlt
      have hb := el3_ok H0.out k
      go_wp2
      go_round
      case rel => exact ⟨k + 1, by omega, by go_num⟩
      case measure => simp [intOf]; omega
    · go_wp2
      go_ret
      exact ⟨rfl, ((Below.refl _ _).alloc (Nat.le_refl _) _).alloc (by simp) _⟩

set_option maxHeartbeats 400000 in
theorem rcheck_no (W H T : Int) (w : World) (h : ¬ okA W H T) :
    Calls Try.prog 65 #[.agg #[.int .i64 W, .int .i64 H, .int .i64 T]] w fun e w' => e = .returned (.int .i64 1) ∧ Below w.heap.size w w' := by
  have H0 := Lib.hid h
  clear h
  have hfin : Below w.heap.size w ((w.alloc (.cells #[.int .i64 W, .int .i64 H, .int .i64 T] 23)).alloc (.cells #[.int .i64 W, .int .i64 H, .int .i64 T] 3)) := ((Below.refl _ _).alloc (Nat.le_refl _) _).alloc (by simp) _
  go_enter Try.func65, Try.ntmps65
  go_wp2
  go_loop [4, 13] (fun n i => ∃ k : Nat, k ≤ 3 ∧ i = .int .i64 (k : Int) ∧ ∀ j, j < k → 1 ≤ el3 W H T j ∧ el3 W H T j ≤ 16) (fun _ i => 3 - (intOf i).toNat)
  case atStart => exact ⟨0, by omega, rfl, fun _ h => absurd h (by omega)⟩
  case round =>
    obtain ⟨k, hk, rfl, hall⟩ := hrel
    have HA := Lib.hid hall
    clear hall
    by_cases hlt : k < 3
    · have hc := el3_cell W H T hlt
      by_cases c1 : el3 W H T k < 1
      · go_wp2
        go_ret
        exact ⟨rfl, hfin⟩
      · by_cases c2 : 16 < el3 W H T k
        · go_wp2
          go_ret
          exact ⟨rfl, hfin⟩
        · go_wp2
          go_round
          case rel =>
            refine ⟨k + 1, by omega, by go_num, fun j hj => ?_⟩
            by_cases e : j = k
            · subst e; omega
            · exact HA.out j (by omega)
          case measure => simp [intOf]; omega
    · exfalso
      obtain rfl : k = 3 := by omega
      have h0 := HA.out 0 (by omega)
      have h1 := HA.out 1 (by omega)
      have h2 := HA.out 2 (by omega)
      exact H0.out ⟨h0, h1, h2⟩

theorem rcheck_any (W H T : Int) (w : World) :
    Calls Try.prog 65 #[.agg #[.int .i64 W, .int .i64 H, .int .i64 T]] w fun e w' => e = .returned (.int .i64 (chkE W H T)) ∧ Below w.heap.size w w' := by
  unfold chkE
  by_cases h : okA W H T
  · rw [if_pos h]; exact rcheck_yes W H T w h
  · rw [if_neg h]; exact rcheck_no W H T w h

theorem rpads_yes (W H T : Int) (w : World) (h : okA W H T) :
    Calls Try.prog 69 #[.agg #[.int .i64 W, .int .i64 H, .int .i64 T]] w fun e w' => e = .returned (.int .i64 (2 * W + 2 * H)) ∧ Below w.heap.size w w' := by
  have hh := h
  unfold okA at hh
  go_enter Try.func69, Try.ntmps69
  go_wp2_with (go_at_call 65; refine (rcheck_yes W H T _ h).mono ?_; rintro e w1 ⟨rfl, hb1⟩; obtain ⟨hc1, hf1⟩ := bcell hb1)
  go_ret
  exact ⟨rfl, ((Below.refl _ _).alloc (Nat.le_refl _) _).trans (hb1.mono (by simp))⟩
theorem rpads_no (W H T : Int) (w : World) (h : ¬ okA W H T) :
    Calls Try.prog 69 #[.agg #[.int .i64 W, .int .i64 H, .int .i64 T]] w fun e w' => e = .returned (.int .i64 0) ∧ Below w.heap.size w w' := by
  go_enter Try.func69, Try.ntmps69
  go_wp2_with (go_at_call 65; refine (rcheck_no W H T _ h).mono ?_; rintro e w1 ⟨rfl, hb1⟩)
  go_ret
  exact ⟨rfl, ((Below.refl _ _).alloc (Nat.le_refl _) _).trans (hb1.mono (by simp))⟩
theorem rpads_any (W H T : Int) (w : World) :
    Calls Try.prog 69 #[.agg #[.int .i64 W, .int .i64 H, .int .i64 T]] w fun e w' => e = .returned (.int .i64 (padsO W H T)) ∧ Below w.heap.size w w' := by
  unfold padsO
  by_cases h : okA W H T
  · rw [if_pos h]; exact rpads_yes W H T w h
  · rw [if_neg h]; exact rpads_no W H T w h

/-- is n from 0 on, below m? -/
def inB (n m : Int) : Bool := decide (0 ≤ n ∧ n < m)
theorem in_any (n m : Int) (w : World) :
    Calls Try.prog 90 #[.int .i64 n, .int .i64 m] w fun e w' => e = .returned (.bool (inB n m)) ∧ w = w' := by
  by_cases h1 : 0 ≤ n
  · by_cases h2 : n < m
    · have HB := Lib.hid (show inB n m = true from by simp [inB]; omega)
      go_enter Try.func90, Try.ntmps90
      go_wp2
      go_ret
      exact ⟨by rw [HB.out]; rfl, rfl⟩
    · have HB := Lib.hid (show inB n m = false from by simp [inB]; omega)
      go_enter Try.func90, Try.ntmps90
      go_wp2
      go_ret
      exact ⟨by rw [HB.out]; rfl, rfl⟩
  · have HB := Lib.hid (show inB n m = false from by simp [inB]; omega)
    go_enter Try.func90, Try.ntmps90
    go_wp2
    go_ret
    exact ⟨by rw [HB.out]; rfl, rfl⟩
end Go.Proofs.Ytakccepilbmmlaa
