/- The chapter's example, plainly: the and of two inputs. -/
import Derived.Test.YtkhlllbceceikaaDoorBothP
namespace Go.Proofs.YtkhlllbceceikaaDoor
open Go.RowKit
set_option linter.unusedVariables false
set_option linter.unusedSimpArgs false
/-- the and of two inputs -/
def G0 (AA : Option Addr) : AG := { I := 2, AF := none, cF := 0, fl := [], AA := AA, cA := 1, an := [(2, 4)], AO := none, cO := 0, ou := [] }
section
variable (AA : Option Addr)
theorem g0_ok : (G0 AA).ok := by
  refine ⟨show (0 : Int) ≤ 2 by decide, by simp [G0], by simp [G0], fun i h => ?_⟩
  have h1 : i < 1 := h
  obtain rfl : i = 0 := by omega
  show gateB 3 0 ((2 : Int), (4 : Int)) = false
  decide
theorem g0_fit : (G0 AA).fit := ⟨show (2 : Int) ≤ 1000 by decide, show 0 ≤ 1000 by decide, show 1 ≤ 1000 by decide, show 0 ≤ 1000 by decide⟩
theorem g0_cnt : (G0 AA).cnt = 3 := rfl
theorem g0_fst : (G0 AA).fst = 3 := rfl
theorem g0_cn : (G0 AA).cn = 4 := rfl
theorem g0_ands : (G0 AA).ands = [(2, 4)] := rfl
theorem mrg_12 : Cut.mrg [1] [2] = [1, 2] := by simp [Cut.mrg]
theorem mrg_13 : Cut.mrg [1, 3] [2, 3] = [1, 2, 3] := by simp [Cut.mrg]
theorem merge_12 : Cut.merge [1] [2] 4 = some [1, 2] := by
  rw [merge_some, mrg_12]
  refine ⟨by decide, by decide, by decide, by decide, by rw [mrg_12]; decide⟩
theorem merge_13 : Cut.merge [1, 3] [2, 3] 3 = some [1, 2, 3] := by
  rw [merge_some, mrg_13]
  refine ⟨by decide, by decide, by decide, by decide, by rw [mrg_13]; decide⟩
theorem merge_132 : Cut.merge [1, 3] [2, 3] 2 = none := merge_none (fun h => by
  have h1 := h.2.2.2.2
  rw [mrg_13] at h1
  exact absurd h1 (by decide))
theorem g0_tab12 : (G0 AA).tabG [1, 2] 3 = some (Cut.col 0 &&& Cut.col 1) := by
  unfold AG.tabG
  have k1 : Cut.known [1, 2] Cut.col 1 = some (Cut.col 0) := rfl
  have k2 : Cut.known [1, 2] Cut.col 2 = some (Cut.col 1) := rfl
  have k3 : Cut.known [1, 2] Cut.col 3 = none := rfl
  rw [g0_ands, g0_fst, Cut.tab_gate (a := 2) (b := 4) k3 (by omega) rfl (by omega) (by omega), Cut.tab_known (show Cut.known [1, 2] Cut.col (2 / 2) = some (Cut.col 0) from k1), Cut.tab_known (show Cut.known [1, 2] Cut.col (4 / 2) = some (Cut.col 1) from k2)]
  rfl
theorem g0_tab1 : (G0 AA).tabG [1] 3 = none := by
  unfold AG.tabG
  have k1 : Cut.known [1] Cut.col 1 = some (Cut.col 0) := rfl
  have k2 : Cut.known [1] Cut.col 2 = none := rfl
  have k3 : Cut.known [1] Cut.col 3 = none := rfl
  rw [g0_ands, g0_fst, Cut.tab_gate (a := 2) (b := 4) k3 (by omega) rfl (by omega) (by omega), Cut.tab_known (show Cut.known [1] Cut.col (2 / 2) = some (Cut.col 0) from k1), Cut.tab_low (show Cut.known [1] Cut.col (4 / 2) = none from k2) (by omega)]
theorem g0_good12 : (G0 AA).good [1, 2] 3 = some 8 := by
  rw [AG.good_yes ⟨g0_ok AA, by omega, (show (3 : Int) ≤ 3 from Int.le_refl _), by rw [g0_cnt]; decide⟩]
  show (G0 AA).table [1, 2] 3 = some 8
  unfold AG.table
  rw [g0_tab12]
  show some ((Cut.col 0 &&& Cut.col 1) &&& Cut.rows 2) = some 8
  congr 1
theorem g0_good1 : (G0 AA).good [1] 3 = none := by
  rw [AG.good_yes ⟨g0_ok AA, by omega, (show (3 : Int) ≤ 3 from Int.le_refl _), by rw [g0_cnt]; decide⟩]
  show (G0 AA).table [1] 3 = none
  unfold AG.table
  rw [g0_tab1]; rfl
theorem g0_gate : Cut.gate [0, 0, 0] [[1]] [[2]] 4 = [[1, 2]] := by
  unfold Cut.gate Cut.gateAll
  have e : Cut.pairs [[(1 : Int)]] [[2]] = [([1], [2])] := rfl
  rw [e]
  simp only [List.foldl_cons, List.foldl_nil, Cut.putM, merge_12]
  rfl
theorem g0_row1 : (G0 AA).bothTo 4 1 = ([[([], 0)], [([1], 2)]], [0, 0]) := by
  rw [AG.bothTo, AG.bothTo]
  unfold AG.cutRow
  rw [g0_fst, if_pos (by omega)]; rfl
theorem g0_row2 : (G0 AA).bothTo 4 2 = ([[([], 0)], [([1], 2)], [([2], 2)]], [0, 0, 0]) := by
  rw [AG.bothTo, g0_row1]
  unfold AG.cutRow
  rw [g0_fst, if_pos (by omega)]; rfl
theorem g0_both : (G0 AA).bothTo 4 3 = ([[([], 0)], [([1], 2)], [([2], 2)], [([1, 2], 8), ([3], 2)]], [0, 0, 0, 1]) := by
  rw [AG.bothTo, g0_row2]
  have h : (G0 AA).cutRow 4 [[([], 0)], [([1], 2)], [([2], 2)]] [0, 0, 0] (2 + 1) = ([([1, 2], 8), ([3], 2)], 1) := by
    unfold AG.cutRow
    rw [g0_fst, if_neg (by omega), g0_ands]
    show ((Cut.gate [0, 0, 0] [[1]] [[2]] 4).map _ ++ _, _) = _
    have hg := g0_gate
    simp only [show ([(2, 4)] : List (Nat × Nat)).getD (2 + 1 - 3) (0, 0) = (2, 4) from rfl, show ([[([], 0)], [([1], 2)], [([2], 2)]] : List (List PC)).getD (2 / 2) [] = [([1], 2)] from rfl, show ([[([], 0)], [([1], 2)], [([2], 2)]] : List (List PC)).getD (4 / 2) [] = [([2], 2)] from rfl, List.map_cons, List.map_nil, g0_gate]
    have h8 := g0_good12 AA
    simp only [show ((2 + 1 : Nat) : Int) = 3 from rfl, h8]
    rfl
  rw [h]; rfl
end
end Go.Proofs.YtkhlllbceceikaaDoor
