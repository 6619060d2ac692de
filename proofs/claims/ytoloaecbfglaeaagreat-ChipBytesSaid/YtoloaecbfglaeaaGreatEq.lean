/- Walks: are two lists the same, element by element? slices.Equal, and the references' own. -/
import Derived.Test.YtoloaecbfglaeaaGreatBase
import Derived.BigQuiet
import Derived.Deep.QuietTactic
import Derived.IntWalk
namespace Go.Proofs.YtoloaecbfglaeaaGreat
open Go.RowKit
set_option linter.unusedVariables false
set_option linter.unusedSimpArgs false

theorem take_eq_next {α : Type} {l k : List α} {q : Nat} (d : α) (hl : q < l.length) (hk : q < k.length) (h : l.take q = k.take q) (he : l.getD q d = k.getD q d) : l.take (q + 1) = k.take (q + 1) := by
  rw [List.take_succ_eq_append_getElem hl, List.take_succ_eq_append_getElem hk, h]
  simp only [List.getD_eq_getElem?_getD, List.getElem?_eq_getElem hl, List.getElem?_eq_getElem hk, Option.getD_some] at he
  rw [he]
theorem ne_of_getD {α : Type} {l k : List α} {q : Nat} (d : α) (he : ¬ l.getD q d = k.getD q d) : ¬ l = k := fun e => he (by rw [e])




end Go.Proofs.YtoloaecbfglaeaaGreat
