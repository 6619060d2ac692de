/- Small laws for walks, over any program. · A struct of three cells in a block of its own, kept over calls that leave elder memory alone. · What a slice that came in reads as, over any program. -/
import Derived.Test.YtkhlllbceceikaaDoorRows
import Derived.WalkKit
import Derived.WalkSpells
import Derived.WalkLawsBesides
import Derived.Lib.Hide
import Derived.Deep.MidRow
import Derived.Laws.OwnMore
import Derived.Deep.AppendLies

namespace Go.Proofs.YtkhlllbceceikaaDoor
open Go.RowKit
set_option linter.unusedVariables false
set_option linter.unusedSimpArgs false

/-- what a world keeps of an elder one, as rules for the walk -/
theorem bcell {W w1 : World} (hb : Below W.heap.size W w1) : (∀ b o, b < W.heap.size → w1.cell? ⟨b, o, none⟩ = W.cell? ⟨b, o, none⟩) ∧ (∀ b o, b < W.heap.size → w1.frozen? ⟨b, o, none⟩ = W.frozen? ⟨b, o, none⟩) :=
  ⟨fun b o h => hb.cell (p := ⟨b, o, none⟩) h, fun b o h => hb.frozen (p := ⟨b, o, none⟩) h⟩

theorem world_alloc_setCell (w : World) (cs : Array Value) (t : TypeId) (i : Nat) (v : Value) :
    (w.alloc (.cells cs t)).setCell ⟨w.heap.size, i, none⟩ v = w.alloc (.cells (cs.setIfInBounds i v) t) :=
  World.setCell_alloc_at cs t w.heap.size i v rfl

theorem setCells_new (w : World) (t : TypeId) : ∀ (cs zs pre : List Value), cs.length = zs.length →
    (w.alloc (.cells (pre ++ zs).toArray t)).setCells w.heap.size pre.length cs = w.alloc (.cells (pre ++ cs).toArray t)
  | [], zs, pre, h => by
    have : zs = [] := List.eq_nil_of_length_eq_zero h.symm
    subst this
    rfl
  | c :: cs, [], pre, h => by simp at h
  | c :: cs, z :: zs, pre, h => by
    rw [World.setCells, world_alloc_setCell]
    have e : ((pre ++ z :: zs).toArray.setIfInBounds pre.length c) = ((pre ++ [c]) ++ zs).toArray := by
      apply Array.ext'
      simp
    rw [e]
    have := setCells_new w t cs zs (pre ++ [c]) (by simpa using h)
    simpa using this

theorem results_tmp4 {fn : Func} {t u v x : Tmp} (h : fn.results = #[.tmp t, .tmp u, .tmp v, .tmp x]) (tmps : Array Value) (P : Program) (w : World) :
    (results fn tmps).run P w = .ok (.tuple #[tmps.getD t undef, tmps.getD u undef, tmps.getD v undef, tmps.getD x undef]) w := by simp [results, h]
theorem results_tmp5 {fn : Func} {t u v x y : Tmp} (h : fn.results = #[.tmp t, .tmp u, .tmp v, .tmp x, .tmp y]) (tmps : Array Value) (P : Program) (w : World) :
    (results fn tmps).run P w = .ok (.tuple #[tmps.getD t undef, tmps.getD u undef, tmps.getD v undef, tmps.getD x undef, tmps.getD y undef]) w := by simp [results, h]
theorem below_drewN {B : Nat} {a w : World} (h : Below B a w) (n : Nat) : Below B a (w.drewN n) := ⟨h.os, h.tape, h.output, h.size, h.block⟩

section
variable {P : Program}
/-- a whole row is stored into the newest block -/
theorem wpList_store_new {ops : Array Oper} {rest : List Oper} {op : Oper} {a : Act} {w : World} {Q : Exit → Act → World → Prop} (hgd : op.guard = none) (ty : TypeId) (x y : Operand) (ho : op.op = .store ty x y)
    (W : World) (zs cells : List Value) (t : TypeId) (hW : W = w.alloc (.cells zs.toArray t)) (n : Nat) (hx : a.eval x = .pointer (some ⟨n, 0, none⟩)) (hn : n = w.heap.size) (hy : a.eval y = .agg cells.toArray)
    (hl : cells.length = zs.length) (hi : (P.info? ty).map (·.size) = some cells.length) (h1 : cells.all (·.oneCell') = true)
    (h : wpList P ops Q rest (a.put op.dst undef) (w.alloc (.cells cells.toArray t))) : wpList P ops Q (op :: rest) a W := by
  subst hW
  subst hn
  refine wpList_store_mid hgd ty x y ho w.heap.size 0 cells.toArray hx hy ?_ (by simpa using hi) (all_oneCell_toArray (List.all_eq_true.1 h1)) ?_
  · intro j hj
    have hj' : j < zs.length := by simpa [hl] using hj
    rw [World.cell?_alloc_at _ _ _ _ rfl, World.frozen?_alloc_at _ _ _ _ rfl]
    simp [hj']
  · have := setCells_new w t cells zs [] hl
    simp only [List.nil_append, List.length_nil] at this
    rw [this]
    exact h
/-- a composite literal whose cells are known -/
theorem wpList_build_to {ops : Array Oper} {rest : List Oper} {o : Oper} {a : Act} {w : World} {Q : Exit → Act → World → Prop} (hg : o.guard = none) (t : TypeId) (parts : Array (Nat × Operand)) (ho : o.op = .build t parts)
    (vals : List (Nat × Value)) (he : (parts.toList.map fun p => (p.1, a.eval p.2)) = vals) (cells : Array Value) (hf : P.built t vals = some cells)
    (h : wpList P ops Q rest (a.put o.dst (.agg cells)) w) : wpList P ops Q (o :: rest) a w := by
  have he' : (parts.map fun (i, x) => (i, a.eval x)).toList = vals := by rw [← he]; simp
  exact wpList_build hg t parts ho (by rw [he', hf]; rfl) (by rw [he', hf]; exact h)
end
end Go.Proofs.YtkhlllbceceikaaDoor

namespace Go.Proofs.YtkhlllbceceikaaDoor
open Go.RowKit
set_option linter.unusedVariables false

structure Box3 (w : World) (b : Nat) (x y z : Value) : Prop where
  lt : b < w.heap.size
  c0 : w.cell? ⟨b, 0, none⟩ = some x
  c1 : w.cell? ⟨b, 1, none⟩ = some y
  c2 : w.cell? ⟨b, 2, none⟩ = some z
theorem Box3.below {W w : World} {b : Nat} {x y z : Value} (h : Box3 W b x y z) (hb : Below W.heap.size W w) : Box3 w b x y z :=
  ⟨Nat.lt_of_lt_of_le h.lt hb.size, (hb.cell (p := ⟨b, 0, none⟩) h.lt).trans h.c0, (hb.cell (p := ⟨b, 1, none⟩) h.lt).trans h.c1, (hb.cell (p := ⟨b, 2, none⟩) h.lt).trans h.c2⟩
theorem Box3.new (w : World) (x y z : Value) (t : TypeId) : Box3 (w.alloc (.cells #[x, y, z] t)) w.heap.size x y z :=
  ⟨by simp, World.cell?_alloc_at _ _ _ _ rfl, World.cell?_alloc_at _ _ _ _ rfl, World.cell?_alloc_at _ _ _ _ rfl⟩
/-- a call behind what went before -/
theorem below_then {a w w' : World} (h : Below a.heap.size a w) (k : Below w.heap.size w w') : Below a.heap.size a w' := h.trans (k.mono h.size)
theorem below_new (w : World) (o : Obj) : Below w.heap.size w (w.alloc o) := (Below.refl _ _).alloc (Nat.le_refl _) _
theorem below_of_drew {B : Nat} {w w' : World} (h : Below B w.drew w') : Below B w w' := ⟨h.os, h.tape, h.output, h.size, h.block⟩
end Go.Proofs.YtkhlllbceceikaaDoor

namespace Go.Proofs.YtkhlllbceceikaaDoor
open Go.RowKit
set_option linter.unusedVariables false
set_option linter.unusedSimpArgs false

/-- the slice value '.slice A n c' reads as the cells xs, 'size' of them an element -/
structure Rd (w : World) (size : Nat) (A : Option Addr) (n c : Nat) (xs : List Value) : Prop where
  len : xs.length = n * size
  cap : n ≤ c
  nil : A = none → c = 0
  read : ∀ (j : Nat) (u : Value), xs[j]? = some u → ∃ a, A = some a ∧ a.block < w.heap.size ∧ w.cell? (a.add j) = some u

theorem add_block (a : Addr) (n : Nat) : (a.add n).block = a.block := by unfold Addr.add; split <;> rfl

section
variable {w w' : World} {size n c : Nat} {A : Option Addr} {xs : List Value}
/-- the same in a later world that has kept elder memory -/
theorem Rd.later (h : Rd w size A n c xs) (hb : Below w.heap.size w w') : Rd w' size A n c xs :=
  ⟨h.len, h.cap, h.nil, fun j u hj => by
    obtain ⟨a, e, hl, hc⟩ := h.read j u hj
    exact ⟨a, e, Nat.lt_of_lt_of_le hl hb.size, (hb.cell (p := a.add j) (by rw [add_block]; exact hl)).trans hc⟩⟩
theorem Rd.empty : Rd w size none 0 0 [] := ⟨by simp, Nat.le_refl _, fun _ => rfl, fun j u h => by simp at h⟩
/-- one cell an element: element k -/
theorem Rd.at1 (h : Rd w 1 A n c xs) {k : Nat} (hk : k < n) : ∃ a, A = some a ∧ a.block < w.heap.size ∧ w.cell? (a.add k) = some (xs.getD k undef) := by
  have hl : k < xs.length := by have := h.len; omega
  obtain ⟨a, e, hb, hc⟩ := h.read k xs[k] (List.getElem?_eq_getElem hl)
  exact ⟨a, e, hb, by rw [hc, List.getD_eq_getElem?_getD, List.getElem?_eq_getElem hl]; rfl⟩
theorem Rd.of_own {base : Nat} {e : TypeId} (h : w.ownsRow base e size (.slice A n c) n xs) : Rd w size A n c xs := by
  refine ⟨h.1, ?_, ?_, ?_⟩
  · rcases h.2 with ⟨hv, hn⟩ | ⟨g, cap, cur, hv, hg, hh, hc, -⟩
    · omega
    · injection hv with _ _ hcc; omega
  · intro hA
    subst hA
    rcases h.2 with ⟨hv, hn⟩ | ⟨g, cap, cur, hv, hg, hh, hc, -⟩
    · injection hv
    · injection hv with h1; cases h1
  · intro j u hj
    rcases h.2 with ⟨hv, hn⟩ | ⟨g, cap, cur, hv, hg, hh, hc, -⟩
    · have hl := h.1
      have : xs = [] := List.eq_nil_of_length_eq_zero (by rw [hl, hn]; simp)
      subst this
      simp at hj
    · injection hv with h1 h2 h3
      subst h1 h3
      exact ⟨_, rfl, lt_of_block hh, h.cells (g := g) rfl j u hj⟩
end

/-- the cells of ints, of bools -/
def ints (l : List Int) : List Value := l.map (Value.int .i64)
def bools (l : List Bool) : List Value := l.map Value.bool
theorem ints_length (l : List Int) : (ints l).length = l.length := by simp [ints]
theorem bools_length (l : List Bool) : (bools l).length = l.length := by simp [bools]
theorem ints_append (l m : List Int) : ints (l ++ m) = ints l ++ ints m := by simp [ints]
theorem ints_getD (l : List Int) {k : Nat} (h : k < l.length) : (ints l).getD k undef = .int .i64 (l.getD k 0) := by
  simp [ints, List.getD_eq_getElem?_getD, List.getElem?_eq_getElem h]
theorem bools_getD (l : List Bool) {k : Nat} (h : k < l.length) : (bools l).getD k undef = .bool (l.getD k false) := by
  simp [bools, List.getD_eq_getElem?_getD, List.getElem?_eq_getElem h]
theorem Rd.int {w : World} {A : Option Addr} {n c : Nat} {l : List Int} (h : Rd w 1 A n c (ints l)) {k : Nat} (hk : k < n) : ∃ a, A = some a ∧ a.block < w.heap.size ∧ w.cell? (a.add k) = some (.int .i64 (l.getD k 0)) := by
  obtain ⟨a, e, hb, hc⟩ := h.at1 hk
  exact ⟨a, e, hb, by rw [hc, ints_getD l (by have := h.len; rw [ints_length] at this; omega)]⟩
theorem Rd.bool {w : World} {A : Option Addr} {n c : Nat} {l : List Bool} (h : Rd w 1 A n c (bools l)) {k : Nat} (hk : k < n) : ∃ a, A = some a ∧ a.block < w.heap.size ∧ w.cell? (a.add k) = some (.bool (l.getD k false)) := by
  obtain ⟨a, e, hb, hc⟩ := h.at1 hk
  exact ⟨a, e, hb, by rw [hc, bools_getD l (by have := h.len; rw [bools_length] at this; omega)]⟩
end Go.Proofs.YtkhlllbceceikaaDoor
