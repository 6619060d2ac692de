/- filigreeref25.made, plainly: what a store tells. -/
import Derived.Test.YtaajnmggbhnndaaGreatDoorZR25O
namespace Go.Proofs.YtaajnmggbhnndaaGreatDoor
open Go.RowKit
set_option linter.unusedVariables false
theorem mayL_dbl (F z : Nat) : mayL F (2 * z) = decide (F ≤ z) := by
  unfold mayL
  rw [show 2 * z % 2 = 0 by omega, show 2 * z / 2 = z by omega]
  simp
theorem tellN_leaf {F : Nat} {nd : List Bool} {z : Nat} (h : F ≤ z) : tellN F nd (2 * z) = nd.set (2 * z) true := by
  unfold tellN; rw [mayL_dbl, decide_eq_true h]
theorem tellN_none {F : Nat} {nd : List Bool} {a : Nat} (hi : ∀ a, nd.getD a false = true → mayL F a = true) (hm : mayL F a = false) : tellN F nd a = nd := by
  unfold tellN
  rw [hm]
  apply List.ext_getElem?
  intro j
  rw [List.getElem?_set]
  by_cases e : a = j
  · subst e
    rw [if_pos rfl]
    by_cases hl : a < nd.length
    · rw [if_pos hl, List.getElem?_eq_getElem hl]
      have h := hi a
      rw [List.getD_eq_getElem?_getD, List.getElem?_eq_getElem hl] at h
      cases hv : nd[a]
      · rfl
      · have h2 := h hv; rw [hm] at h2; cases h2
    · rw [if_neg hl, List.getElem?_eq_none (by omega)]
  · rw [if_neg e]
theorem bools_put (l : List Bool) (i : Nat) (b : Bool) : (bools l).set i (.bool b) = bools (l.set i b) := by simp [bools, List.map_set]
end Go.Proofs.YtaajnmggbhnndaaGreatDoor
