/- Walks: are two lists of tiles the same? are two configurations? · is one small enough? -/
import Derived.Test.YtoloaecbfglaeaaGreatEq
import Derived.Test.YtoloaecbfglaeaaGreatCfg
namespace Go.Proofs.YtoloaecbfglaeaaGreat
open Go.RowKit
set_option linter.unusedVariables false
set_option linter.unusedSimpArgs false

theorem getT_eq {l : List TL} {q : Nat} (h : q < l.length) : l.getD q (0, false, false) = l[q]! := by
  rw [List.getD_eq_getElem?_getD, List.getElem?_eq_getElem h, getElem!_pos l q h]; rfl

end Go.Proofs.YtoloaecbfglaeaaGreat
