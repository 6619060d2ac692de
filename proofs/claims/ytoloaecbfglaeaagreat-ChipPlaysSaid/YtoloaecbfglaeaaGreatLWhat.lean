/- The law FabricWhat: What tells of any node of any fabric just what the document tells. For every fabric and every number; no condition. -/
import Derived.Test.YtoloaecbfglaeaaGreatFrame
import Derived.Test.YtoloaecbfglaeaaGreatFabA
import Derived.Test.YtoloaecbfglaeaaGreatRefA

namespace Go.Proofs.YtoloaecbfglaeaaGreat
open Go.ChangeShapes Go.WideShapes Go.ChangeAt Go.RowKit Go.Joins
set_option linter.unusedVariables false
set_option linter.unusedSimpArgs false

theorem own : ownKnob Tryz.prog.godebug = none := by kernel_rfl
theorem laidOut : laidOutB Tryz.prog = true := by kernel_rfl





end Go.Proofs.YtoloaecbfglaeaaGreat
