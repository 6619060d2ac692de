/- Regions that draw their order, whose operations read older memory and whose callees leave it alone: one walk of the text's order serves every order. Over any program. -/
import Derived.Test.YtkhlllbceceikaaDoorMem
import Derived.Laws.MakeOwn
import Derived.Deep.DeepCutAuto
namespace Go.Proofs.YtkhlllbceceikaaDoor
open Go.RowKit
set_option linter.unusedVariables false
set_option linter.unusedSimpArgs false

theorem wp_region_still_in {P : Program} {id : Nat} {Q : Exit → Act → World → Prop} {a : Act} {w : World} {l : List Oper} (hm : P.follows .mixedOrders = true) (hB : Region.lexB .any l.toArray = true)
    (h : ∀ (β : Type) (_ : Nonempty β) (V : β → World), (∀ s, Below w.heap.size w (V s)) → (∀ w', Below w.heap.size w w' → ∃ s, w' = V s) →
      wpQuiet P l.toArray (fun w' => ∃ s, w' = V s) (fun a' => ∀ w', (∃ s, w' = V s) → Q .normal a' w') l a) : (Code.region id l.toArray true).wp P Q a w :=
  wp_region_quiet (C := fun w' => ∃ s : { x : World // Below w.heap.size w x }, w' = s.val) hm hB ⟨⟨_, below_drewN (Below.refl _ _) 1⟩, rfl⟩
    (by simpa using h { x : World // Below w.heap.size w x } ⟨⟨w, Below.refl _ _⟩⟩ (fun s => s.val) (fun s => s.property) (fun w' hw => ⟨⟨w', hw⟩, rfl⟩))
theorem still_cell {w : World} {β : Type} {V : β → World} (hV : ∀ s, Below w.heap.size w (V s)) {p : Addr} {v : Value} (h : w.cell? p = some v) : ∀ s, (V s).cell? p = some v := fun s =>
  ((hV s).cell (World.block_lt_of_cell? w p h)).trans h
theorem Calls.still {P : Program} {f : FuncId} {args : Array Value} {w : World} {β : Type} {V : β → World} (hV : ∀ s, Below w.heap.size w (V s)) (hS : ∀ w', Below w.heap.size w w' → ∃ s, w' = V s) {s : β} {v : Value}
    (h : Calls P f args (V s) fun e w' => e = .returned v ∧ Below (V s).heap.size (V s) w') : Calls P f args (V s) fun e w'' => e = .returned v ∧ ∃ s, w'' = V s :=
  h.mono fun _ _ ⟨he, hb⟩ => ⟨he, hS _ (below_then (hV s) hb)⟩
theorem Calls.still_same {P : Program} {f : FuncId} {args : Array Value} {w : World} {β : Type} {V : β → World} (hS : ∀ w', Below w.heap.size w w' → ∃ s, w' = V s) {s : β} {v : Value}
    (h : Calls P f args (V s) fun e w' => e = .returned v ∧ V s = w') : Calls P f args (V s) fun e w'' => e = .returned v ∧ ∃ s, w'' = V s :=
  h.mono fun _ _ ⟨he, hb⟩ => ⟨he, s, hb.symm⟩
end Go.Proofs.YtkhlllbceceikaaDoor
