/- Walks: are two configurations the same? is one small enough? -/
import Derived.Test.YtoloaecbfglaeaaGreatEqT
import Derived.Test.YtoloaecbfglaeaaGreatCfg
namespace Go.Proofs.YtoloaecbfglaeaaGreat
open Go.RowKit
set_option linter.unusedVariables false
set_option linter.unusedSimpArgs false

/-- the same in all that is told of them -/
def sameP (C D : Cfg) : Prop := (C.W = D.W ∧ C.H = D.H ∧ C.T = D.T) ∧ C.tiles = D.tiles ∧ C.on = D.on ∧ C.ins = D.ins ∧ C.outs = D.outs
instance (C D : Cfg) : Decidable (sameP C D) := by unfold sameP; infer_instance
theorem few_tiles {C : Cfg} (h : C.few) : C.tiles.length ≤ 100000000 := by have := h.1; omega
theorem few_on {C : Cfg} (h : C.few) : C.on.length ≤ 100000000 := by have := h.2.1; omega
theorem few_ins {C : Cfg} (h : C.few) : C.ins.length ≤ 100000000 := by have := h.2.2.1; omega
theorem few_outs {C : Cfg} (h : C.few) : C.outs.length ≤ 100000000 := by have := h.2.2.2; omega
/-- both lie in boxes -/
structure Two7 (w0 wx : World) (C D : Cfg) : Prop where
  below : Below w0.heap.size w0 wx
  c : Box7 wx w0.heap.size C
  d : Box7 wx (w0.heap.size + 1) D
theorem Two7.keep {w0 wx wy : World} {C D : Cfg} (h : Two7 w0 wx C D) (hb : Below wx.heap.size wx wy) : Two7 w0 wy C D := ⟨below_then h.below hb, h.c.below hb, h.d.below hb⟩
theorem Two7.new (w : World) (C D : Cfg) : Two7 w ((w.alloc (.cells #[.int .i64 C.W, .int .i64 C.H, .int .i64 C.T, .slice C.AT C.tiles.length C.cT, .slice C.AO C.on.length C.cO, .slice C.AI C.ins.length C.cI, .slice C.AU C.outs.length C.cU] 28)).alloc (.cells #[.int .i64 D.W, .int .i64 D.H, .int .i64 D.T, .slice D.AT D.tiles.length D.cT, .slice D.AO D.on.length D.cO, .slice D.AI D.ins.length D.cI, .slice D.AU D.outs.length D.cU] 28)) C D :=
  ⟨(below_new w _).alloc (by simp) _, (Box7.new w C 28).below (below_new _ _), by have := Box7.new (w.alloc (.cells #[.int .i64 C.W, .int .i64 C.H, .int .i64 C.T, .slice C.AT C.tiles.length C.cT, .slice C.AO C.on.length C.cO, .slice C.AI C.ins.length C.cI, .slice C.AU C.outs.length C.cU] 28)) D 28; rwa [World.size_alloc] at this⟩










/-- few enough, as the reference tells -/
def few31 (C : Cfg) : Prop := C.W ≤ 6 ∧ C.H ≤ 6 ∧ C.T ≤ 8 ∧ C.tiles.length ≤ 100 ∧ C.on.length ≤ 10000 ∧ C.ins.length ≤ 100 ∧ C.outs.length ≤ 100
instance (C : Cfg) : Decidable (few31 C) := by unfold few31; infer_instance
theorem few31_few {C : Cfg} (h : few31 C) : C.few := by unfold few31 at h; unfold Cfg.few; omega










end Go.Proofs.YtoloaecbfglaeaaGreat
