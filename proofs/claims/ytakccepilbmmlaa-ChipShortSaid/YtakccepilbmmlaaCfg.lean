/- A configuration that came in: what it reads as. -/
import Derived.Test.YtakccepilbmmlaaConcat
namespace Go.Proofs.Ytakccepilbmmlaa
open Go.RowKit
set_option linter.unusedVariables false
set_option linter.unusedSimpArgs false

/-- a tile: table, flop?, set? -/
abbrev TL : Type := Int × Bool × Bool
def tiles3 (l : List TL) : List Value := l.flatMap fun t => [.int .i64 t.1, .bool t.2.1, .bool t.2.2]
theorem tiles3_length (l : List TL) : (tiles3 l).length = l.length * 3 := by
  induction l with
  | nil => rfl
  | cons t l ih => simp only [tiles3, List.flatMap_cons, List.length_append, List.length_cons] at ih ⊢; simp at ih ⊢; omega
theorem tiles3_get : ∀ (l : List TL) (k : Nat), k < l.length →
    (tiles3 l)[k * 3]? = some (.int .i64 (l[k]!).1) ∧ (tiles3 l)[k * 3 + 1]? = some (.bool (l[k]!).2.1) ∧ (tiles3 l)[k * 3 + 2]? = some (.bool (l[k]!).2.2)
  | [], k, h => by simp at h
  | t :: l, 0, _ => by simp [tiles3]
  | t :: l, k + 1, h => by
    obtain ⟨h1, h2, h3⟩ := tiles3_get l k (by simpa using h)
    have e : tiles3 (t :: l) = [.int .i64 t.1, .bool t.2.1, .bool t.2.2] ++ tiles3 l := rfl
    rw [e, show (k + 1) * 3 = k * 3 + 3 by omega]
    have g : ∀ j, ([Value.int .i64 t.1, .bool t.2.1, .bool t.2.2] ++ tiles3 l)[k * 3 + 3 + j]? = (tiles3 l)[k * 3 + j]? := fun j => by
      rw [List.getElem?_append_right (by simp; omega)]
      congr 1
      simp
      omega
    have g0 := g 0
    have e1 : (t :: l)[k + 1]! = l[k]! := by simp
    rw [e1]
    exact ⟨g0.trans h1, (g 1).trans h2, (g 2).trans h3⟩
/-- a field behind an element's address, as the walk spells it -/
theorem add_field (a : Addr) (m j : Nat) (h : 0 < j) : (⟨(a.add m).block, (a.add m).off + j, none⟩ : Addr) = a.add (m + j) := by
  unfold Addr.add
  by_cases hm : m = 0
  · subst hm; rw [if_pos rfl, if_neg (by omega), Nat.zero_add]
  · rw [if_neg hm, if_neg (by omega)]; simp [Nat.add_assoc]
theorem Rd.tile {w : World} {A : Option Addr} {n c : Nat} {l : List TL} (h : Rd w 3 A n c (tiles3 l)) {k : Nat} (hk : k < n) :
    ∃ a, A = some a ∧ a.block < w.heap.size ∧ w.cell? (a.add (k * 3)) = some (.int .i64 (l[k]!).1) ∧ w.cell? ⟨(a.add (k * 3)).block, (a.add (k * 3)).off + 1, none⟩ = some (.bool (l[k]!).2.1) ∧ w.cell? ⟨(a.add (k * 3)).block, (a.add (k * 3)).off + 2, none⟩ = some (.bool (l[k]!).2.2) := by
  have hl : k < l.length := by have := h.len; rw [tiles3_length] at this; omega
  obtain ⟨g1, g2, g3⟩ := tiles3_get l k hl
  obtain ⟨a, e, hb, h1⟩ := h.read _ _ g1
  obtain ⟨a2, e2, -, h2⟩ := h.read _ _ g2
  obtain ⟨a3, e3, -, h3⟩ := h.read _ _ g3
  rw [e] at e2 e3
  injection e2 with e2
  injection e3 with e3
  subst e2 e3
  exact ⟨a, e, hb, h1, by rw [add_field a (k * 3) 1 (by omega)]; exact h2, by rw [add_field a (k * 3) 2 (by omega)]; exact h3⟩

/-- a configuration -/
structure Cfg where
  W : Int
  H : Int
  T : Int
  AT : Option Addr
  cT : Nat
  tiles : List TL
  AO : Option Addr
  cO : Nat
  on : List Bool
  AI : Option Addr
  cI : Nat
  ins : List Int
  AU : Option Addr
  cU : Nat
  outs : List Int
/-- its cells -/
abbrev Cfg.cells (C : Cfg) : Array Value := #[.int .i64 C.W, .int .i64 C.H, .int .i64 C.T, .slice C.AT C.tiles.length C.cT, .slice C.AO C.on.length C.cO, .slice C.AI C.ins.length C.cI, .slice C.AU C.outs.length C.cU]
/-- what lies where its slices lead -/
structure Cfg.In (C : Cfg) (w : World) : Prop where
  tiles : Rd w 3 C.AT C.tiles.length C.cT (tiles3 C.tiles)
  on : Rd w 1 C.AO C.on.length C.cO (bools C.on)
  ins : Rd w 1 C.AI C.ins.length C.cI (ints C.ins)
  outs : Rd w 1 C.AU C.outs.length C.cU (ints C.outs)
theorem Cfg.In.later {C : Cfg} {w w' : World} (h : C.In w) (hb : Below w.heap.size w w') : C.In w' := ⟨h.tiles.later hb, h.on.later hb, h.ins.later hb, h.outs.later hb⟩
/-- it lies in a block of its own -/
structure Box7 (w : World) (b : Nat) (C : Cfg) : Prop where
  lt : b < w.heap.size
  c0 : w.cell? ⟨b, 0, none⟩ = some (.int .i64 C.W)
  c1 : w.cell? ⟨b, 1, none⟩ = some (.int .i64 C.H)
  c2 : w.cell? ⟨b, 2, none⟩ = some (.int .i64 C.T)
  c3 : w.cell? ⟨b, 3, none⟩ = some (.slice C.AT C.tiles.length C.cT)
  c4 : w.cell? ⟨b, 4, none⟩ = some (.slice C.AO C.on.length C.cO)
  c5 : w.cell? ⟨b, 5, none⟩ = some (.slice C.AI C.ins.length C.cI)
  c6 : w.cell? ⟨b, 6, none⟩ = some (.slice C.AU C.outs.length C.cU)
theorem Box7.below {W w : World} {b : Nat} {C : Cfg} (h : Box7 W b C) (hb : Below W.heap.size W w) : Box7 w b C :=
  have k := fun j => hb.cell (p := ⟨b, j, none⟩) h.lt
  ⟨Nat.lt_of_lt_of_le h.lt hb.size, (k 0).trans h.c0, (k 1).trans h.c1, (k 2).trans h.c2, (k 3).trans h.c3, (k 4).trans h.c4, (k 5).trans h.c5, (k 6).trans h.c6⟩
theorem box7_low {W w : World} {b B : Nat} {C : Cfg} (h : Box7 W b C) (hb : Below B W w) (hB : b < B) : Box7 w b C :=
  have k := fun j => hb.cell (p := ⟨b, j, none⟩) hB
  ⟨Nat.lt_of_lt_of_le h.lt hb.size, (k 0).trans h.c0, (k 1).trans h.c1, (k 2).trans h.c2, (k 3).trans h.c3, (k 4).trans h.c4, (k 5).trans h.c5, (k 6).trans h.c6⟩
theorem Box7.new (w : World) (C : Cfg) (t : TypeId) : Box7 (w.alloc (.cells #[.int .i64 C.W, .int .i64 C.H, .int .i64 C.T, .slice C.AT C.tiles.length C.cT, .slice C.AO C.on.length C.cO, .slice C.AI C.ins.length C.cI, .slice C.AU C.outs.length C.cU] t)) w.heap.size C :=
  ⟨by simp, World.cell?_alloc_at _ _ _ _ rfl, World.cell?_alloc_at _ _ _ _ rfl, World.cell?_alloc_at _ _ _ _ rfl, World.cell?_alloc_at _ _ _ _ rfl, World.cell?_alloc_at _ _ _ _ rfl, World.cell?_alloc_at _ _ _ _ rfl, World.cell?_alloc_at _ _ _ _ rfl⟩
/-- few enough to be gone through -/
def Cfg.few (C : Cfg) : Prop := C.tiles.length ≤ 1000 ∧ C.on.length ≤ 20000 ∧ C.ins.length ≤ 1000 ∧ C.outs.length ≤ 1000

/-- a tile that may not be -/
def oddB (t : TL) : Bool := decide (t.1 < 0) || decide (65535 < t.1) || (t.2.2 && !t.2.1)
/-- pads from 0 to below a limit, none twice -/
def padsOk (n : Int) : List Int → Prop := fun l => (∀ p ∈ l, 0 ≤ p ∧ p < n) ∧ l.Nodup
instance (n : Int) (l : List Int) : Decidable (padsOk n l) := by unfold padsOk; infer_instance
def Cfg.ok (C : Cfg) : Prop := okA C.W C.H C.T ∧ padsOk (2 * C.W + 2 * C.H) (C.ins ++ C.outs) ∧ (C.tiles.length : Int) = C.W * C.H ∧ C.on.length = (edgesL C.W C.H C.T).length ∧ C.tiles.any oddB = false
instance (C : Cfg) : Decidable C.ok := by unfold Cfg.ok; infer_instance
def Cfg.E (C : Cfg) : Int := if C.ok then 0 else 1
end Go.Proofs.Ytakccepilbmmlaa
