/- A struct of three cells in a block of its own, kept over calls that leave elder memory alone. -/
import Derived.Test.YtakccepilbmmlaaBase
namespace Go.Proofs.Ytakccepilbmmlaa
open Go.RowKit
set_option linter.unusedVariables false

structure Box3 (w : World) (b : Nat) (x y z : Value) : Prop where
  lt : b < w.heap.size
  c0 : w.cell? ⟨b, 0, none⟩ = some x
  c1 : w.cell? ⟨b, 1, none⟩ = some y
  c2 : w.cell? ⟨b, 2, none⟩ = some z
theorem Box3.below {W w : World} {b : Nat} {x y z : Value} (h : Box3 W b x y z) (hb : Below W.heap.size W w) : Box3 w b x y z :=
  ⟨Nat.lt_of_lt_of_le h.lt hb.size, (hb.cell (p := ⟨b, 0, none⟩) h.lt).trans h.c0, (hb.cell (p := ⟨b, 1, none⟩) h.lt).trans h.c1, (hb.cell (p := ⟨b, 2, none⟩) h.lt).trans h.c2⟩
theorem Box3.new (w : World) (x y z : Value) (t : TypeId) : Box3 (w.alloc (.cells #[x, y, z] t)) w.heap.size x y z :=
  ⟨by simp, World.cell?_alloc_at _ _ _ _ rfl, World.cell?_alloc_at _ _ _ _ rfl, World.cell?_alloc_at _ _ _ _ rfl⟩
/-- a call behind what went before -/
theorem below_then {a w w' : World} (h : Below a.heap.size a w) (k : Below w.heap.size w w') : Below a.heap.size a w' := h.trans (k.mono h.size)
theorem below_new (w : World) (o : Obj) : Below w.heap.size w (w.alloc o) := (Below.refl _ _).alloc (Nat.le_refl _) _
theorem below_of_drew {B : Nat} {w w' : World} (h : Below B w.drew w') : Below B w w' := ⟨h.os, h.tape, h.output, h.size, h.block⟩
end Go.Proofs.Ytakccepilbmmlaa
