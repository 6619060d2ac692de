/- Walks of the reference's own Few of chapter 32: is a configuration small enough? -/
import Derived.Test.YtakccepilbmmlaaCfg
namespace Go.Proofs.Ytakccepilbmmlaa
open Go.RowKit
set_option linter.unusedVariables false
set_option linter.unusedSimpArgs false

/-- few enough, as the law tells -/
def few32 (C : Cfg) : Prop := C.W ≤ 6 ∧ C.H ≤ 6 ∧ C.T ≤ 8 ∧ C.tiles.length ≤ 100 ∧ C.on.length ≤ 20000 ∧ C.ins.length ≤ 50 ∧ C.outs.length ≤ 50
instance (C : Cfg) : Decidable (few32 C) := by unfold few32; infer_instance
set_option maxRecDepth 100000 in
set_option maxHeartbeats 1000000 in
theorem few32_yes (C : Cfg) (w : World) (h : few32 C) :
    Calls Try.prog 15 #[.agg #[.int .i64 C.W, .int .i64 C.H, .int .i64 C.T, .slice C.AT C.tiles.length C.cT, .slice C.AO C.on.length C.cO, .slice C.AI C.ins.length C.cI, .slice C.AU C.outs.length C.cU]] w fun e w' => e = .returned (.bool true) ∧ Below w.heap.size w w' := by
  obtain ⟨h0, h1, h2, h3, h4, h5, h6⟩ := h
  have hd : decide ((C.outs.length : Int) ≤ 50) = true := decide_eq_true (by omega)
  go_enter Try.func15, Try.ntmps15
  go_wp2_with fail
  go_ret
  exact ⟨rfl, below_new w _⟩
set_option maxRecDepth 100000 in
set_option maxHeartbeats 1000000 in
theorem few32_no0 (C : Cfg) (w : World)  (g : ¬ C.W ≤ 6) :
    Calls Try.prog 15 #[.agg #[.int .i64 C.W, .int .i64 C.H, .int .i64 C.T, .slice C.AT C.tiles.length C.cT, .slice C.AO C.on.length C.cO, .slice C.AI C.ins.length C.cI, .slice C.AU C.outs.length C.cU]] w fun e w' => e = .returned (.bool false) ∧ Below w.heap.size w w' := by
  go_enter Try.func15, Try.ntmps15
  go_wp2_with fail
  go_ret
  exact ⟨rfl, below_new w _⟩
set_option maxRecDepth 100000 in
set_option maxHeartbeats 1000000 in
theorem few32_no1 (C : Cfg) (w : World) (h0 : C.W ≤ 6) (g : ¬ C.H ≤ 6) :
    Calls Try.prog 15 #[.agg #[.int .i64 C.W, .int .i64 C.H, .int .i64 C.T, .slice C.AT C.tiles.length C.cT, .slice C.AO C.on.length C.cO, .slice C.AI C.ins.length C.cI, .slice C.AU C.outs.length C.cU]] w fun e w' => e = .returned (.bool false) ∧ Below w.heap.size w w' := by
  go_enter Try.func15, Try.ntmps15
  go_wp2_with fail
  go_ret
  exact ⟨rfl, below_new w _⟩
set_option maxRecDepth 100000 in
set_option maxHeartbeats 1000000 in
theorem few32_no2 (C : Cfg) (w : World) (h0 : C.W ≤ 6) (h1 : C.H ≤ 6) (g : ¬ C.T ≤ 8) :
    Calls Try.prog 15 #[.agg #[.int .i64 C.W, .int .i64 C.H, .int .i64 C.T, .slice C.AT C.tiles.length C.cT, .slice C.AO C.on.length C.cO, .slice C.AI C.ins.length C.cI, .slice C.AU C.outs.length C.cU]] w fun e w' => e = .returned (.bool false) ∧ Below w.heap.size w w' := by
  go_enter Try.func15, Try.ntmps15
  go_wp2_with fail
  go_ret
  exact ⟨rfl, below_new w _⟩
set_option maxRecDepth 100000 in
set_option maxHeartbeats 1000000 in
theorem few32_no3 (C : Cfg) (w : World) (h0 : C.W ≤ 6) (h1 : C.H ≤ 6) (h2 : C.T ≤ 8) (g : ¬ C.tiles.length ≤ 100) :
    Calls Try.prog 15 #[.agg #[.int .i64 C.W, .int .i64 C.H, .int .i64 C.T, .slice C.AT C.tiles.length C.cT, .slice C.AO C.on.length C.cO, .slice C.AI C.ins.length C.cI, .slice C.AU C.outs.length C.cU]] w fun e w' => e = .returned (.bool false) ∧ Below w.heap.size w w' := by
  go_enter Try.func15, Try.ntmps15
  go_wp2_with fail
  go_ret
  exact ⟨rfl, below_new w _⟩
set_option maxRecDepth 100000 in
set_option maxHeartbeats 1000000 in
theorem few32_no4 (C : Cfg) (w : World) (h0 : C.W ≤ 6) (h1 : C.H ≤ 6) (h2 : C.T ≤ 8) (h3 : C.tiles.length ≤ 100) (g : ¬ C.on.length ≤ 20000) :
    Calls Try.prog 15 #[.agg #[.int .i64 C.W, .int .i64 C.H, .int .i64 C.T, .slice C.AT C.tiles.length C.cT, .slice C.AO C.on.length C.cO, .slice C.AI C.ins.length C.cI, .slice C.AU C.outs.length C.cU]] w fun e w' => e = .returned (.bool false) ∧ Below w.heap.size w w' := by
  go_enter Try.func15, Try.ntmps15
  go_wp2_with fail
  go_ret
  exact ⟨rfl, below_new w _⟩
set_option maxRecDepth 100000 in
set_option maxHeartbeats 1000000 in
theorem few32_no5 (C : Cfg) (w : World) (h0 : C.W ≤ 6) (h1 : C.H ≤ 6) (h2 : C.T ≤ 8) (h3 : C.tiles.length ≤ 100) (h4 : C.on.length ≤ 20000) (g : ¬ C.ins.length ≤ 50) :
    Calls Try.prog 15 #[.agg #[.int .i64 C.W, .int .i64 C.H, .int .i64 C.T, .slice C.AT C.tiles.length C.cT, .slice C.AO C.on.length C.cO, .slice C.AI C.ins.length C.cI, .slice C.AU C.outs.length C.cU]] w fun e w' => e = .returned (.bool false) ∧ Below w.heap.size w w' := by
  go_enter Try.func15, Try.ntmps15
  go_wp2_with fail
  go_ret
  exact ⟨rfl, below_new w _⟩
set_option maxRecDepth 100000 in
set_option maxHeartbeats 1000000 in
theorem few32_no6 (C : Cfg) (w : World) (h0 : C.W ≤ 6) (h1 : C.H ≤ 6) (h2 : C.T ≤ 8) (h3 : C.tiles.length ≤ 100) (h4 : C.on.length ≤ 20000) (h5 : C.ins.length ≤ 50) (g : ¬ C.outs.length ≤ 50) :
    Calls Try.prog 15 #[.agg #[.int .i64 C.W, .int .i64 C.H, .int .i64 C.T, .slice C.AT C.tiles.length C.cT, .slice C.AO C.on.length C.cO, .slice C.AI C.ins.length C.cI, .slice C.AU C.outs.length C.cU]] w fun e w' => e = .returned (.bool false) ∧ Below w.heap.size w w' := by
  have hd : decide ((C.outs.length : Int) ≤ 50) = false := decide_eq_false (by omega)
  go_enter Try.func15, Try.ntmps15
  go_wp2_with fail
  go_ret
  exact ⟨rfl, below_new w _⟩
theorem few32_no (C : Cfg) (w : World) (h : ¬ few32 C) :
    Calls Try.prog 15 #[.agg #[.int .i64 C.W, .int .i64 C.H, .int .i64 C.T, .slice C.AT C.tiles.length C.cT, .slice C.AO C.on.length C.cO, .slice C.AI C.ins.length C.cI, .slice C.AU C.outs.length C.cU]] w fun e w' => e = .returned (.bool false) ∧ Below w.heap.size w w' := by
  unfold few32 at h
  by_cases h0 : C.W ≤ 6
  case neg => exact few32_no0 C w  h0
  by_cases h1 : C.H ≤ 6
  case neg => exact few32_no1 C w h0 h1
  by_cases h2 : C.T ≤ 8
  case neg => exact few32_no2 C w h0 h1 h2
  by_cases h3 : C.tiles.length ≤ 100
  case neg => exact few32_no3 C w h0 h1 h2 h3
  by_cases h4 : C.on.length ≤ 20000
  case neg => exact few32_no4 C w h0 h1 h2 h3 h4
  by_cases h5 : C.ins.length ≤ 50
  case neg => exact few32_no5 C w h0 h1 h2 h3 h4 h5
  exact few32_no6 C w h0 h1 h2 h3 h4 h5 (fun g => h ⟨h0, h1, h2, h3, h4, h5, g⟩)
theorem few32_few {C : Cfg} (h : few32 C) : C.few := by unfold few32 at h; unfold Cfg.few; omega
end Go.Proofs.Ytakccepilbmmlaa
