/- The law FabricWhat: What tells of any node of any fabric just what the document tells. For every fabric and every number; no condition. -/
import Derived.Test.YtfclfhgnfjmofaaFrame
import Derived.Test.YtfclfhgnfjmofaaFabA
import Derived.Test.YtfclfhgnfjmofaaRefA

namespace Go.Proofs.Ytfclfhgnfjmofaa
open Go.ChangeShapes Go.WideShapes Go.ChangeAt Go.RowKit Go.Joins
set_option linter.unusedVariables false
set_option linter.unusedSimpArgs false

theorem own : ownKnob Try.prog.godebug = none := by kernel_rfl
theorem laidOut : laidOutB Try.prog = true := by kernel_rfl

theorem live_any (w : World) :
    Calls Try.prog 33 #[] w fun e w' => e = .returned (.bool true) ∧ Below w.heap.size w w' := by
  have h13 : nodesO 1 1 1 = 13 := by decide
  go_enter Try.func33, Try.ntmps33
  go_wp2_with (go_at_call 43; refine (nodes_any _ _ _ _).mono ?_; rintro e w1 ⟨rfl, hb1⟩)
  go_ret
  exact ⟨rfl, hb1⟩




end Go.Proofs.Ytfclfhgnfjmofaa
