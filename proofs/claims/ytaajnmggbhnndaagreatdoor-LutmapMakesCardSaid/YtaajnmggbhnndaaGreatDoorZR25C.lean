/- filigreeref25.rows, Count, table. -/
import Derived.Test.YtaajnmggbhnndaaGreatDoorZLRun
import Derived.BigQuiet
namespace Go.Proofs.YtaajnmggbhnndaaGreatDoor
open Go.RowKit Go.Shelf
set_option linter.unusedVariables false
set_option linter.unusedSimpArgs false
section
attribute [local go_sem] Oper.semAt_some
set_option maxRecDepth 100000 in
theorem rrows25_any (n : Nat) (w : World) (hn : n ≤ 6) :
    Calls Tryz.prog 40 #[.int .i64 (n : Int)] w fun r w' => r = .returned (.int .u64 (Cut.rows n : Int)) ∧ w = w' := by
  rcases (show n = 0 ∨ n = 1 ∨ n = 2 ∨ n = 3 ∨ n = 4 ∨ n = 5 ∨ n = 6 by omega) with rfl | rfl | rfl | rfl | rfl | rfl | rfl
  all_goals
    go_enter Tryz.func40, Tryz.ntmps40
    go_wp2_with fail
    go_ret
    exact ⟨rfl, rfl⟩
end
end Go.Proofs.YtaajnmggbhnndaaGreatDoor
