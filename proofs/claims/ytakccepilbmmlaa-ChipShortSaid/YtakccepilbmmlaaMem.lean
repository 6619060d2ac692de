/- What a slice that came in reads as, over any program. -/
import Derived.Test.YtakccepilbmmlaaBox
import Derived.Laws.OwnMore
import Derived.Deep.AppendLies
namespace Go.Proofs.Ytakccepilbmmlaa
open Go.RowKit
set_option linter.unusedVariables false
set_option linter.unusedSimpArgs false

/-- the slice value '.slice A n c' reads as the cells xs, 'size' of them an element -/
structure Rd (w : World) (size : Nat) (A : Option Addr) (n c : Nat) (xs : List Value) : Prop where
  len : xs.length = n * size
  cap : n ≤ c
  nil : A = none → c = 0
  read : ∀ (j : Nat) (u : Value), xs[j]? = some u → ∃ a, A = some a ∧ a.block < w.heap.size ∧ w.cell? (a.add j) = some u

theorem add_block (a : Addr) (n : Nat) : (a.add n).block = a.block := by unfold Addr.add; split <;> rfl

section
variable {w w' : World} {size n c : Nat} {A : Option Addr} {xs : List Value}
/-- the same in a later world that has kept elder memory -/
theorem Rd.later (h : Rd w size A n c xs) (hb : Below w.heap.size w w') : Rd w' size A n c xs :=
  ⟨h.len, h.cap, h.nil, fun j u hj => by
    obtain ⟨a, e, hl, hc⟩ := h.read j u hj
    exact ⟨a, e, Nat.lt_of_lt_of_le hl hb.size, (hb.cell (p := a.add j) (by rw [add_block]; exact hl)).trans hc⟩⟩
theorem Rd.empty : Rd w size none 0 0 [] := ⟨by simp, Nat.le_refl _, fun _ => rfl, fun j u h => by simp at h⟩
/-- one cell an element: element k -/
theorem Rd.at1 (h : Rd w 1 A n c xs) {k : Nat} (hk : k < n) : ∃ a, A = some a ∧ a.block < w.heap.size ∧ w.cell? (a.add k) = some (xs.getD k undef) := by
  have hl : k < xs.length := by have := h.len; omega
  obtain ⟨a, e, hb, hc⟩ := h.read k xs[k] (List.getElem?_eq_getElem hl)
  exact ⟨a, e, hb, by rw [hc, List.getD_eq_getElem?_getD, List.getElem?_eq_getElem hl]; rfl⟩
theorem Rd.of_own {base : Nat} {e : TypeId} (h : w.ownsRow base e size (.slice A n c) n xs) : Rd w size A n c xs := by
  refine ⟨h.1, ?_, ?_, ?_⟩
  · rcases h.2 with ⟨hv, hn⟩ | ⟨g, cap, cur, hv, hg, hh, hc, -⟩
    · omega
    · injection hv with _ _ hcc; omega
  · intro hA
    subst hA
    rcases h.2 with ⟨hv, hn⟩ | ⟨g, cap, cur, hv, hg, hh, hc, -⟩
    · injection hv
    · injection hv with h1; cases h1
  · intro j u hj
    rcases h.2 with ⟨hv, hn⟩ | ⟨g, cap, cur, hv, hg, hh, hc, -⟩
    · have hl := h.1
      have : xs = [] := List.eq_nil_of_length_eq_zero (by rw [hl, hn]; simp)
      subst this
      simp at hj
    · injection hv with h1 h2 h3
      subst h1 h3
      exact ⟨_, rfl, lt_of_block hh, h.cells (g := g) rfl j u hj⟩
end

/-- the cells of ints, of bools -/
def ints (l : List Int) : List Value := l.map (Value.int .i64)
def bools (l : List Bool) : List Value := l.map Value.bool
theorem ints_length (l : List Int) : (ints l).length = l.length := by simp [ints]
theorem bools_length (l : List Bool) : (bools l).length = l.length := by simp [bools]
theorem ints_append (l m : List Int) : ints (l ++ m) = ints l ++ ints m := by simp [ints]
theorem ints_getD (l : List Int) {k : Nat} (h : k < l.length) : (ints l).getD k undef = .int .i64 (l.getD k 0) := by
  simp [ints, List.getD_eq_getElem?_getD, List.getElem?_eq_getElem h]
theorem bools_getD (l : List Bool) {k : Nat} (h : k < l.length) : (bools l).getD k undef = .bool (l.getD k false) := by
  simp [bools, List.getD_eq_getElem?_getD, List.getElem?_eq_getElem h]
theorem Rd.int {w : World} {A : Option Addr} {n c : Nat} {l : List Int} (h : Rd w 1 A n c (ints l)) {k : Nat} (hk : k < n) : ∃ a, A = some a ∧ a.block < w.heap.size ∧ w.cell? (a.add k) = some (.int .i64 (l.getD k 0)) := by
  obtain ⟨a, e, hb, hc⟩ := h.at1 hk
  exact ⟨a, e, hb, by rw [hc, ints_getD l (by have := h.len; rw [ints_length] at this; omega)]⟩
theorem Rd.bool {w : World} {A : Option Addr} {n c : Nat} {l : List Bool} (h : Rd w 1 A n c (bools l)) {k : Nat} (hk : k < n) : ∃ a, A = some a ∧ a.block < w.heap.size ∧ w.cell? (a.add k) = some (.bool (l.getD k false)) := by
  obtain ⟨a, e, hb, hc⟩ := h.at1 hk
  exact ⟨a, e, hb, by rw [hc, bools_getD l (by have := h.len; rw [bools_length] at this; omega)]⟩
end Go.Proofs.Ytakccepilbmmlaa
