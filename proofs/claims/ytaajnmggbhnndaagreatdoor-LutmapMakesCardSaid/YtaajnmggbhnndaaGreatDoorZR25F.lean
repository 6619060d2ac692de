/- filigreeref25.FewRows, FewGates. -/
import Derived.Test.YtaajnmggbhnndaaGreatDoorZLRun
import Derived.Test.YtaajnmggbhnndaaGreatDoorZBig
namespace Go.Proofs.YtaajnmggbhnndaaGreatDoor
open Go.RowKit Go.Shelf
set_option linter.unusedVariables false
set_option linter.unusedSimpArgs false
def fewR (rows : List (List Bool)) : Prop := rows.length ≤ 12 ∧ ∀ r ∈ rows, r.length ≤ 400
instance (rows : List (List Bool)) : Decidable (fewR rows) := by unfold fewR; infer_instance
def fewG25 (G : AG) : Prop := (G.I ≤ 60 ∨ 65536 < G.I) ∧ G.fl.length ≤ 60 ∧ G.an.length ≤ 120 ∧ G.ou.length ≤ 60
instance (G : AG) : Decidable (fewG25 G) := by unfold fewG25; infer_instance
set_option maxRecDepth 100000 in
set_option maxHeartbeats 1000000 in
theorem fewGates25_any (G : AG) (w : World) :
    Calls Tryz.prog 5 #[.agg #[.int .i64 G.I, .slice G.AF G.fl.length G.cF, .slice G.AA G.an.length G.cA, .slice G.AO G.ou.length G.cO]] w fun e w' => e = .returned (.bool (decide (fewG25 G))) ∧ Below w.heap.size w w' := by
  have Q0 := Lib.hid (below_new w (.cells #[.int .i64 G.I, .slice G.AF G.fl.length G.cF, .slice G.AA G.an.length G.cA, .slice G.AO G.ou.length G.cO] 26))
  have X0 := Blk.made w 26 #[.int .i64 G.I, .slice G.AF G.fl.length G.cF, .slice G.AA G.an.length G.cA, .slice G.AO G.ou.length G.cO]
  have k0 := X0.cell 0
  have k1 := X0.cell 1
  have k2 := X0.cell 2
  have k3 := X0.cell 3
  unfold fewG25
  obtain ⟨b, hb⟩ : ∃ b, decide ((G.I ≤ 60 ∨ 65536 < G.I) ∧ G.fl.length ≤ 60 ∧ G.an.length ≤ 120 ∧ G.ou.length ≤ 60) = b := ⟨_, rfl⟩
  rw [hb]
  have HB := Lib.hid hb
  clear hb X0
  go_enter Tryz.func5, Tryz.ntmps5
  go_wp2_with fail
  all_goals
    go_ret
    refine ⟨?_, Q0.out⟩
    rw [← HB.out]
    simp <;> (first | omega | (rw [Bool.eq_iff_iff]; simp only [Bool.and_eq_true, Bool.or_eq_true, decide_eq_true_eq]; omega))
end Go.Proofs.YtaajnmggbhnndaaGreatDoor
