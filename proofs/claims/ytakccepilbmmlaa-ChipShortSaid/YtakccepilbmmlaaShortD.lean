/- One switch turned on, in memory: what the world is then. -/
import Derived.Test.YtakccepilbmmlaaShortC
import Derived.Test.YtakccepilbmmlaaAppB
namespace Go.Proofs.Ytakccepilbmmlaa
open Go.RowKit
set_option linter.unusedVariables false
set_option linter.unusedSimpArgs false

theorem own_apart {w : World} {base : Nat} {e : TypeId} {size n : Nat} {v : Value} {xs : List Value} (h : w.ownsRow base e size v n xs) {p : Addr} (hp : v.ownBlock ≠ some p.block) (u : Value) : (w.setCell p u).ownsRow base e size v n xs := by
  rcases h with ⟨h1, h2⟩
  refine ⟨h1, ?_⟩
  rcases h2 with h2 | ⟨g', cap, cur, hv, hg, hh, hr⟩
  · exact .inl h2
  · refine .inr ⟨g', cap, cur, hv, hg, ?_, hr⟩
    subst hv
    rw [Below.heap_setCell w p u g' (fun e => hp (by simp [Value.ownBlock, e]))]
    exact hh
/-- the cells of a configuration in a block of its own -/
abbrev cfgV (C : Cfg) : Array Value := #[.int .i64 C.W, .int .i64 C.H, .int .i64 C.T, .slice C.AT C.tiles.length C.cT, .slice C.AO C.on.length C.cO, .slice C.AI C.ins.length C.cI, .slice C.AU C.outs.length C.cU]
/-- the world behind 'on[at] = true; c.On = on' -/
def turnW (w6 : World) (B g6 q n c6 : Nat) : World := (w6.setCell ⟨g6, q, none⟩ (.bool true)).setCell ⟨B, 4, none⟩ (.slice (some ⟨g6, 0, none⟩) n c6)
section
variable {w w5 w6 : World} {C : Cfg} {g6 c6 q : Nat}
theorem turn_own (h5 : w.heap.size < w5.heap.size) (K5 : Blk w5 w.heap.size 28 (cfgV C)) (b6 : Below w5.heap.size w5 w6) (hg : w5.heap.size ≤ g6) (n : Nat)
    {base : Nat} {e : TypeId} {size k : Nat} {v : Value} {xs : List Value} (h : w5.ownsRow base e size v k xs) (he : e ≠ 28) : (turnW w6 w.heap.size g6 q n c6).ownsRow base e size v k xs := by
  unfold turnW
  refine own_apart (own_apart (own_keep h b6) (fun e' => ?_) _) (fun e' => ?_) _
  · rcases h.2 with ⟨hv, _⟩ | ⟨g', cap, cur, hv, hb, hh, _⟩
    · rw [hv] at e'; simp [Value.ownBlock] at e'
    · rw [hv] at e'; simp [Value.ownBlock] at e'; have := lt_of_block hh; omega
  · exact own_other h K5 he e'
theorem turn_below (Q5 : Below w.heap.size w w5) (h5 : w.heap.size < w5.heap.size) (b6 : Below w5.heap.size w5 w6) (hg : w5.heap.size ≤ g6) (n : Nat) : Below w.heap.size w (turnW w6 w.heap.size g6 q n c6) := by
  unfold turnW
  exact ((below_then Q5 b6).setCell (by simp; omega) _).setCell (by simp) _
theorem turn_box (h5 : w.heap.size < w5.heap.size) (K5 : Blk w5 w.heap.size 28 (cfgV C)) (b6 : Below w5.heap.size w5 w6) (hg : w5.heap.size ≤ g6) : Blk (turnW w6 w.heap.size g6 q C.on.length c6) w.heap.size 28 (cfgV (turned C (some ⟨g6, 0, none⟩) c6 q)) := by
  have h1 : Blk (w6.setCell ⟨g6, q, none⟩ (.bool true)) w.heap.size 28 (cfgV C) := (K5.keep b6).apart (by simp; omega) _
  have h2 := h1.put 4 (.slice (some ⟨g6, 0, none⟩) C.on.length c6)
  unfold turnW
  have e : (cfgV C).setIfInBounds 4 (.slice (some ⟨g6, 0, none⟩) C.on.length c6) = cfgV (turned C (some ⟨g6, 0, none⟩) c6 q) := by
    simp [cfgV, turned]
  rw [← e]
  exact h2
theorem turn_in (hin : C.In w) (Q5 : Below w.heap.size w w5) (h5 : w.heap.size < w5.heap.size) (b6 : Below w5.heap.size w5 w6) (hown : w6.ownsRow w5.heap.size 4 1 (.slice (some ⟨g6, 0, none⟩) C.on.length c6) C.on.length (bools C.on)) (hg : w5.heap.size ≤ g6) : (turned C (some ⟨g6, 0, none⟩) c6 q).In (turnW w6 w.heap.size g6 q C.on.length c6) := by
  have hb := turn_below (q := q) (c6 := c6) Q5 h5 b6 hg C.on.length
  refine ⟨hin.tiles.later hb, ?_, hin.ins.later hb, hin.outs.later hb⟩
  have h1 := (hown.stored q (.bool true)).1
  rw [bools_set] at h1
  have h2 := own_apart h1 (p := ⟨w.heap.size, 4, none⟩) (by simp [Value.ownBlock]; omega) (.slice (some ⟨g6, 0, none⟩) C.on.length c6)
  have h3 := Rd.of_own h2
  simpa [turned, turnW] using h3
end
end Go.Proofs.Ytakccepilbmmlaa
