/- The law FabricWhat: What tells of any node of any fabric just what the document tells. For every fabric and every number; no condition. -/
import Derived.Test.YtoloaecbfglaeaaFrame
import Derived.Test.YtoloaecbfglaeaaFabA
import Derived.Test.YtoloaecbfglaeaaRefA

namespace Go.Proofs.Ytoloaecbfglaeaa
open Go.ChangeShapes Go.WideShapes Go.ChangeAt Go.RowKit Go.Joins
set_option linter.unusedVariables false
set_option linter.unusedSimpArgs false

theorem own : ownKnob Try.prog.godebug = none := by kernel_rfl
theorem laidOut : laidOutB Try.prog = true := by kernel_rfl





end Go.Proofs.Ytoloaecbfglaeaa
