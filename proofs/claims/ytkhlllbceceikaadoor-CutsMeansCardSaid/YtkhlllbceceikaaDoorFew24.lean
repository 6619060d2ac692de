/- filigreelaw24.few: are there few gates? -/
import Derived.Test.YtkhlllbceceikaaDoorAigC
namespace Go.Proofs.YtkhlllbceceikaaDoor
open Go.RowKit
set_option linter.unusedVariables false
set_option linter.unusedSimpArgs false
def few24 (G : AG) : Prop := G.I ≤ 30 ∧ G.fl.length ≤ 30 ∧ G.an.length ≤ 60 ∧ G.ou.length ≤ 100
instance (G : AG) : Decidable (few24 G) := by unfold few24; infer_instance
theorem few24_fit {G : AG} (h : few24 G) : G.fit := ⟨by have := h.1; omega, by have := h.2.1; omega, by have := h.2.2.1; omega, by have := h.2.2.2; omega⟩
set_option maxRecDepth 100000 in
set_option maxHeartbeats 1000000 in
theorem few24_any (G : AG) (w : World) :
    Calls Tryd.prog 12 #[.agg #[.int .i64 G.I, .slice G.AF G.fl.length G.cF, .slice G.AA G.an.length G.cA, .slice G.AO G.ou.length G.cO]] w fun e w' => e = .returned (.bool (decide (few24 G))) ∧ Below w.heap.size w w' := by
  by_cases h0 : G.I ≤ 30
  case neg =>
    rw [show decide (few24 G) = false from decide_eq_false fun h => h0 h.1]
    go_enter Tryd.func12, Tryd.ntmps12
    go_wp2_with fail
    go_ret
    exact ⟨rfl, below_new w _⟩
  by_cases h1 : G.fl.length ≤ 30
  case neg =>
    rw [show decide (few24 G) = false from decide_eq_false fun h => h1 h.2.1]
    have d1 : ¬ (G.fl.length : Int) ≤ 30 := by omega
    go_enter Tryd.func12, Tryd.ntmps12
    go_wp2_with fail
    go_ret
    exact ⟨rfl, below_new w _⟩
  by_cases h2 : G.an.length ≤ 60
  case neg =>
    rw [show decide (few24 G) = false from decide_eq_false fun h => h2 h.2.2.1]
    have d1 : (G.fl.length : Int) ≤ 30 := by omega
    have d2 : ¬ (G.an.length : Int) ≤ 60 := by omega
    go_enter Tryd.func12, Tryd.ntmps12
    go_wp2_with fail
    go_ret
    exact ⟨rfl, below_new w _⟩
  have d1 : (G.fl.length : Int) ≤ 30 := by omega
  have d2 : (G.an.length : Int) ≤ 60 := by omega
  by_cases h3 : G.ou.length ≤ 100
  case neg =>
    rw [show decide (few24 G) = false from decide_eq_false fun h => h3 h.2.2.2]
    have d3 : decide ((G.ou.length : Int) ≤ 100) = false := decide_eq_false (by omega)
    go_enter Tryd.func12, Tryd.ntmps12
    go_wp2_with fail
    go_ret
    exact ⟨rfl, below_new w _⟩
  rw [show decide (few24 G) = true from decide_eq_true ⟨h0, h1, h2, h3⟩]
  have d3 : decide ((G.ou.length : Int) ≤ 100) = true := decide_eq_true (by omega)
  go_enter Tryd.func12, Tryd.ntmps12
  go_wp2_with fail
  go_ret
  exact ⟨rfl, below_new w _⟩
end Go.Proofs.YtkhlllbceceikaaDoor
