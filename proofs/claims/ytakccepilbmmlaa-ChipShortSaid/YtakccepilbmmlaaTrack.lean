/- Walk of the laws' own 'track'. -/
import Derived.Test.YtakccepilbmmlaaFabF
import Derived.Test.YtakccepilbmmlaaFabQ
import Derived.Test.YtakccepilbmmlaaBox
namespace Go.Proofs.Ytakccepilbmmlaa
open Go.RowKit
set_option linter.unusedVariables false
set_option linter.unusedSimpArgs false

/-- is a node a track? -/
def trackB (W H T n : Int) : Bool := decide (isN W H T n ∧ (gk W H T n = 3 ∨ gk W H T n = 4))
end Go.Proofs.Ytakccepilbmmlaa
