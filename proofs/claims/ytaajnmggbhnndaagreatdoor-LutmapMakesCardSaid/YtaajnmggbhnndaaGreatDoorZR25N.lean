/- filigreeref25.told, nodes. -/
import Derived.Test.YtaajnmggbhnndaaGreatDoorZMapW
import Derived.Test.YtaajnmggbhnndaaGreatDoorZLRun
namespace Go.Proofs.YtaajnmggbhnndaaGreatDoor
open Go.RowKit Go.Maps
set_option linter.unusedVariables false
set_option linter.unusedSimpArgs false
/-- the row of nodes, as far as literal n -/
def MP.rowN (M : MP) (n : Nat) : List Int := (List.range (2 * M.N)).map fun a => if a < n then (if M.nd.getD a false = true then ((M.F + M.idx a : Nat) : Int) else if a % 2 = 0 ∧ a / 2 < M.F then ((a / 2 : Nat) : Int) else 0) else 0
theorem MP.rowN_len (M : MP) (n : Nat) : (M.rowN n).length = 2 * M.N := by unfold MP.rowN; rw [List.length_map, List.length_range]
theorem MP.rowN_zero (M : MP) : M.rowN 0 = List.replicate (2 * M.N) 0 := by
  unfold MP.rowN
  rw [List.eq_replicate_iff]
  refine ⟨by rw [List.length_map, List.length_range], fun x hx => ?_⟩
  obtain ⟨a, -, rfl⟩ := List.mem_map.1 hx
  rw [if_neg (Nat.not_lt_zero _)]
theorem MP.rowN_get (M : MP) (n a : Nat) (ha : a < 2 * M.N) : (M.rowN n)[a]? = some (if a < n then (if M.nd.getD a false = true then ((M.F + M.idx a : Nat) : Int) else if a % 2 = 0 ∧ a / 2 < M.F then ((a / 2 : Nat) : Int) else 0) else 0) := by
  unfold MP.rowN
  rw [List.getElem?_map, List.getElem?_range ha]
  rfl
/-- the next literal's node -/
theorem MP.rowN_next (M : MP) (n : Nat) (hn : n < 2 * M.N) : M.rowN (n + 1) = (M.rowN n).set n (if M.nd.getD n false = true then ((M.F + M.idx n : Nat) : Int) else if n % 2 = 0 ∧ n / 2 < M.F then ((n / 2 : Nat) : Int) else 0) := by
  apply List.ext_getElem?
  intro a
  by_cases ha : a < 2 * M.N
  · rw [M.rowN_get (n + 1) a ha, List.getElem?_set]
    by_cases e : n = a
    · subst e
      rw [if_pos (show n < n + 1 by omega), if_pos rfl, if_pos (show n < (M.rowN n).length by rw [M.rowN_len]; exact hn)]
    · rw [if_neg e, M.rowN_get n a ha]
      by_cases h1 : a < n
      · rw [if_pos h1, if_pos (by omega)]
      · rw [if_neg h1, if_neg (by omega)]
  · rw [List.getElem?_eq_none (by rw [M.rowN_len]; omega), List.getElem?_eq_none (by rw [List.length_set, M.rowN_len]; omega)]
theorem MP.rowN_same (M : MP) (n : Nat) (hn : n < 2 * M.N) (h1 : ¬ M.nd.getD n false = true) (h2 : ¬ (n % 2 = 0 ∧ n / 2 < M.F)) : M.rowN (n + 1) = M.rowN n := by
  apply List.ext_getElem?
  intro a
  by_cases ha : a < 2 * M.N
  · rw [M.rowN_get (n + 1) a ha, M.rowN_get n a ha]
    by_cases e : a = n
    · subst e
      rw [if_pos (by omega), if_neg h1, if_neg h2, if_neg (by omega)]
    · by_cases h1 : a < n
      · rw [if_pos h1, if_pos (by omega)]
      · rw [if_neg h1, if_neg (by omega)]
  · rw [List.getElem?_eq_none (by rw [M.rowN_len]; omega), List.getElem?_eq_none (by rw [M.rowN_len]; omega)]
/-- what may be looked up is the node -/
theorem MP.rowN_at (M : MP) {a : Nat} (ha : M.good a) : (M.rowN (2 * M.N)).getD a 0 = (M.at_ a : Int) := by
  rw [List.getD_eq_getElem?_getD, M.rowN_get _ a ha.1, if_pos ha.1]
  unfold MP.at_
  by_cases h : M.nd.getD a false = true
  · rw [if_pos h, if_pos h]; rfl
  · obtain ⟨-, h2, h3⟩ := MP.at_no ha h
    rw [if_neg h, if_neg h, if_pos ⟨h2, h3⟩]; rfl
end Go.Proofs.YtaajnmggbhnndaaGreatDoor
