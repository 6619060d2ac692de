/- Small lemmas that several texts use: cells of a new block, a tile that may be, configurations that are alike. -/
import Derived.Test.YtoloaecbfglaeaaGreatCfg
import Derived.Test.YtoloaecbfglaeaaGreatBchk
import Derived.ArgAppend
import Derived.BigQuiet
import Derived.Deep.QuietTactic
import Derived.Deep.RegionHeld3
import Derived.Deep.RegionWith
import Derived.IntWalk
import Derived.Laws.BitsAll
import Derived.Laws.BytesArg
import Derived.Laws.Rows
import Derived.LoopIn
import Derived.LoopNIn
import Derived.Maps.AppendAt
import Derived.OwnWalkIn
import Derived.RegionIn
import Derived.WalkKit
namespace Go.Proofs.YtoloaecbfglaeaaGreat
open Go.RowKit
set_option linter.unusedVariables false
set_option linter.unusedSimpArgs false

theorem rd_new (w : World) (t : TypeId) (cs : List Value) : Rd (w.alloc (.cells cs.toArray t)) 1 (some ⟨w.heap.size, 0, none⟩) cs.length cs.length cs := by
  refine ⟨by simp, Nat.le_refl _, fun h => (by cases h), fun j u hj => ⟨_, rfl, by simp, ?_⟩⟩
  have h0 : (Addr.add ⟨w.heap.size, 0, none⟩ j) = ⟨w.heap.size, j, none⟩ := by simp [Addr.add]; exact fun h => h.symm
  rw [h0]
  have := World.cell?_alloc_at (w := w) cs.toArray t w.heap.size j rfl
  rw [this]
  simpa using hj
theorem new_cells (w : World) (t : TypeId) (cs : List Value) : ∀ (j : Nat) (u : Value), cs[j]? = some u → (w.alloc (.cells cs.toArray t)).cell? ((⟨w.heap.size, 0, none⟩ : Addr).add j) = some u := fun j u hj => by
  obtain ⟨a', e, -, hc⟩ := (rd_new w t cs).read j u hj
  obtain rfl := Option.some.inj e
  exact hc
theorem rd_bool1 (w : World) (t : TypeId) (b : Bool) : Rd (w.alloc (.cells #[.bool b] t)) 1 (some ⟨w.heap.size, 0, none⟩) 1 1 (bools [b]) := rd_new w t [.bool b]
/-- what may be is small -/
theorem ok_tile {C : Cfg} (h : C.ok) {k : Nat} (hk : k < C.tiles.length) : 0 ≤ (C.tiles[k]!).1 ∧ (C.tiles[k]!).1 ≤ 65535 := by
  have ho := h.2.2.2.2
  rw [List.any_eq_false] at ho
  have := ho C.tiles[k] (List.getElem_mem hk)
  rw [getElem!_pos C.tiles k hk]
  unfold oddB at this
  simp only [Bool.or_eq_true, decide_eq_true_eq, not_or] at this
  omega
/-- the same in all that is told of them -/
def sameP (C D : Cfg) : Prop := (C.W = D.W ∧ C.H = D.H ∧ C.T = D.T) ∧ C.tiles = D.tiles ∧ C.on = D.on ∧ C.ins = D.ins ∧ C.outs = D.outs
instance (C D : Cfg) : Decidable (sameP C D) := by unfold sameP; infer_instance
end Go.Proofs.YtoloaecbfglaeaaGreat
