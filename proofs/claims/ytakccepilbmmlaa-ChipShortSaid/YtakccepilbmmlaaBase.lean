/- Small laws for walks, over any program. -/
import Derived.Test.YtakccepilbmmlaaRows
import Derived.WalkKit
import Derived.WalkSpells
import Derived.WalkLawsBesides
import Derived.Lib.Hide
import Derived.Deep.MidRow
namespace Go.Proofs.Ytakccepilbmmlaa
open Go.RowKit
set_option linter.unusedVariables false
set_option linter.unusedSimpArgs false

/-- what a world keeps of an elder one, as rules for the walk -/
theorem bcell {W w1 : World} (hb : Below W.heap.size W w1) : (∀ b o, b < W.heap.size → w1.cell? ⟨b, o, none⟩ = W.cell? ⟨b, o, none⟩) ∧ (∀ b o, b < W.heap.size → w1.frozen? ⟨b, o, none⟩ = W.frozen? ⟨b, o, none⟩) :=
  ⟨fun b o h => hb.cell (p := ⟨b, o, none⟩) h, fun b o h => hb.frozen (p := ⟨b, o, none⟩) h⟩

theorem world_alloc_setCell (w : World) (cs : Array Value) (t : TypeId) (i : Nat) (v : Value) :
    (w.alloc (.cells cs t)).setCell ⟨w.heap.size, i, none⟩ v = w.alloc (.cells (cs.setIfInBounds i v) t) :=
  World.setCell_alloc_at cs t w.heap.size i v rfl

theorem setCells_new (w : World) (t : TypeId) : ∀ (cs zs pre : List Value), cs.length = zs.length →
    (w.alloc (.cells (pre ++ zs).toArray t)).setCells w.heap.size pre.length cs = w.alloc (.cells (pre ++ cs).toArray t)
  | [], zs, pre, h => by
    have : zs = [] := List.eq_nil_of_length_eq_zero h.symm
    subst this
    rfl
  | c :: cs, [], pre, h => by simp at h
  | c :: cs, z :: zs, pre, h => by
    rw [World.setCells, world_alloc_setCell]
    have e : ((pre ++ z :: zs).toArray.setIfInBounds pre.length c) = ((pre ++ [c]) ++ zs).toArray := by
      apply Array.ext'
      simp
    rw [e]
    have := setCells_new w t cs zs (pre ++ [c]) (by simpa using h)
    simpa using this

theorem results_tmp4 {fn : Func} {t u v x : Tmp} (h : fn.results = #[.tmp t, .tmp u, .tmp v, .tmp x]) (tmps : Array Value) (P : Program) (w : World) :
    (results fn tmps).run P w = .ok (.tuple #[tmps.getD t undef, tmps.getD u undef, tmps.getD v undef, tmps.getD x undef]) w := by simp [results, h]
theorem results_tmp5 {fn : Func} {t u v x y : Tmp} (h : fn.results = #[.tmp t, .tmp u, .tmp v, .tmp x, .tmp y]) (tmps : Array Value) (P : Program) (w : World) :
    (results fn tmps).run P w = .ok (.tuple #[tmps.getD t undef, tmps.getD u undef, tmps.getD v undef, tmps.getD x undef, tmps.getD y undef]) w := by simp [results, h]
theorem below_drewN {B : Nat} {a w : World} (h : Below B a w) (n : Nat) : Below B a (w.drewN n) := ⟨h.os, h.tape, h.output, h.size, h.block⟩

section
variable {P : Program}
/-- a whole row is stored into the newest block -/
theorem wpList_store_new {ops : Array Oper} {rest : List Oper} {op : Oper} {a : Act} {w : World} {Q : Exit → Act → World → Prop} (hgd : op.guard = none) (ty : TypeId) (x y : Operand) (ho : op.op = .store ty x y)
    (W : World) (zs cells : List Value) (t : TypeId) (hW : W = w.alloc (.cells zs.toArray t)) (n : Nat) (hx : a.eval x = .pointer (some ⟨n, 0, none⟩)) (hn : n = w.heap.size) (hy : a.eval y = .agg cells.toArray)
    (hl : cells.length = zs.length) (hi : (P.info? ty).map (·.size) = some cells.length) (h1 : cells.all (·.oneCell') = true)
    (h : wpList P ops Q rest (a.put op.dst undef) (w.alloc (.cells cells.toArray t))) : wpList P ops Q (op :: rest) a W := by
  subst hW
  subst hn
  refine wpList_store_mid hgd ty x y ho w.heap.size 0 cells.toArray hx hy ?_ (by simpa using hi) (all_oneCell_toArray (List.all_eq_true.1 h1)) ?_
  · intro j hj
    have hj' : j < zs.length := by simpa [hl] using hj
    rw [World.cell?_alloc_at _ _ _ _ rfl, World.frozen?_alloc_at _ _ _ _ rfl]
    simp [hj']
  · have := setCells_new w t cells zs [] hl
    simp only [List.nil_append, List.length_nil] at this
    rw [this]
    exact h
/-- a composite literal whose cells are known -/
theorem wpList_build_to {ops : Array Oper} {rest : List Oper} {o : Oper} {a : Act} {w : World} {Q : Exit → Act → World → Prop} (hg : o.guard = none) (t : TypeId) (parts : Array (Nat × Operand)) (ho : o.op = .build t parts)
    (vals : List (Nat × Value)) (he : (parts.toList.map fun p => (p.1, a.eval p.2)) = vals) (cells : Array Value) (hf : P.built t vals = some cells)
    (h : wpList P ops Q rest (a.put o.dst (.agg cells)) w) : wpList P ops Q (o :: rest) a w := by
  have he' : (parts.map fun (i, x) => (i, a.eval x)).toList = vals := by rw [← he]; simp
  exact wpList_build hg t parts ho (by rw [he', hf]; rfl) (by rw [he', hf]; exact h)
end
end Go.Proofs.Ytakccepilbmmlaa
