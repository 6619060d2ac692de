/- Walk of the laws' own 'track'. -/
import Derived.Test.YtpfhokhkbedkbaaFabF
import Derived.Test.YtpfhokhkbedkbaaFabQ
import Derived.Test.YtpfhokhkbedkbaaBox
namespace Go.Proofs.Ytpfhokhkbedkbaa
open Go.RowKit
set_option linter.unusedVariables false
set_option linter.unusedSimpArgs false

/-- is a node a track? -/
def trackB (W H T n : Int) : Bool := decide (isN W H T n ∧ (gk W H T n = 3 ∨ gk W H T n = 4))
def TRK (W H T n : Int) (w : World) (b : Bool) : Prop :=
    Calls Try.prog 34 #[.agg #[.int .i64 W, .int .i64 H, .int .i64 T], .int .i64 n] w fun e w' => e = .returned (.tuple #[.int .i64 (whT W H T n), .bool b]) ∧ Below w.heap.size w w'
theorem track_e (W H T n : Int) (w : World) (g : (whE W H T n == 0) = false) : TRK W H T n w false := by
  unfold TRK
  go_enter Try.func34, Try.ntmps34
  go_wp2_with (go_at_call 13; refine (what_any _ _ _ _ _).mono ?_; rintro e w1 ⟨rfl, hb1⟩)
  go_ret2
  exact ⟨rfl, below_then (below_new w _) hb1⟩
theorem track_4 (W H T n : Int) (w : World) (g : (whE W H T n == 0) = true) (k : (whK W H T n == 4) = true) : TRK W H T n w true := by
  unfold TRK
  go_enter Try.func34, Try.ntmps34
  go_wp2_with (go_at_call 13; refine (what_any _ _ _ _ _).mono ?_; rintro e w1 ⟨rfl, hb1⟩)
  go_ret2
  exact ⟨rfl, below_then (below_new w _) hb1⟩
theorem track_5 (W H T n : Int) (w : World) (g : (whE W H T n == 0) = true) (k4 : (whK W H T n == 4) = false) (b : Bool) (k : (whK W H T n == 5) = b) : TRK W H T n w b := by
  unfold TRK
  go_enter Try.func34, Try.ntmps34
  go_wp2_with (go_at_call 13; refine (what_any _ _ _ _ _).mono ?_; rintro e w1 ⟨rfl, hb1⟩)
  go_ret2
  exact ⟨rfl, below_then (below_new w _) hb1⟩
theorem track_any (W H T n : Int) (w : World) : TRK W H T n w (trackB W H T n) := by
  by_cases hN : isN W H T n
  · obtain ⟨v1, -, -, -, v5⟩ := wh_yes hN
    have g : (whE W H T n == 0) = true := by rw [v5]; rfl
    obtain ⟨hk, -⟩ := what_nodeAt hN
    by_cases h4 : gk W H T n = 3
    · have e : trackB W H T n = true := by unfold trackB; simp [hN, h4]
      rw [e]
      exact track_4 W H T n w g (by rw [v1, h4]; rfl)
    · have k4 : (whK W H T n == 4) = false := by rw [v1]; simp; omega
      by_cases h5 : gk W H T n = 4
      · have e : trackB W H T n = true := by unfold trackB; simp [hN, h5]
        rw [e]
        exact track_5 W H T n w g k4 true (by rw [v1, h5]; rfl)
      · have e : trackB W H T n = false := by unfold trackB; simp [hN, h4, h5]
        rw [e]
        exact track_5 W H T n w g k4 false (by rw [v1]; simp; omega)
  · have v5 : whE W H T n = 1 := by unfold whE; rw [if_neg hN]
    have e : trackB W H T n = false := by unfold trackB; simp [hN]
    rw [e]
    exact track_e W H T n w (by rw [v5]; rfl)
end Go.Proofs.Ytpfhokhkbedkbaa
