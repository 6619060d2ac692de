/- A table of four inputs without those that are nothing: the bits that the chip picks are those that are left when the inputs go one by one. -/
import Derived.Test.YtoloaecbfglaeaaBase
namespace Go.Proofs.Ytoloaecbfglaeaa.Topo
set_option linter.unusedVariables false
set_option linter.unusedSimpArgs false
/-- so many bits of a table, one after the other -/
def pk (l : List Nat) (t : Nat) : Nat → Nat
  | 0 => 0
  | j + 1 => pk l t j + t / 2 ^ l.getD j 0 % 2 * 2 ^ j
theorem pk_lt (l : List Nat) (t : Nat) : ∀ j, pk l t j < 2 ^ j
  | 0 => by simp [pk]
  | j + 1 => by
    have := pk_lt l t j
    have h2 : t / 2 ^ l.getD j 0 % 2 * 2 ^ j ≤ 1 * 2 ^ j := Nat.mul_le_mul_right _ (by omega)
    simp only [pk, Nat.pow_succ]; omega
theorem pk_bit (l : List Nat) (t : Nat) : ∀ j i, i < j → pk l t j / 2 ^ i % 2 = t / 2 ^ l.getD i 0 % 2
  | 0, i, h => by omega
  | j + 1, i, h => by
    simp only [pk]
    have hlt := pk_lt l t j
    by_cases e : i = j
    · subst e
      rw [Nat.add_mul_div_right _ _ (Nat.two_pow_pos i), Nat.div_eq_of_lt hlt, Nat.zero_add, Nat.mod_mod]
    · have hij : i < j := by omega
      have ih := pk_bit l t j i hij
      have h2 : (2 : Nat) ^ j = 2 ^ (j - i - 1) * 2 * 2 ^ i := by rw [← Nat.pow_succ, ← Nat.pow_add]; congr 1; omega
      rw [h2, ← Nat.mul_assoc, Nat.add_mul_div_right _ _ (Nat.two_pow_pos i), ← Nat.mul_assoc, Nat.add_mul_mod_self_right]
      exact ih
theorem pk_pk (l m : List Nat) (t n : Nat) : ∀ j, (∀ i, i < j → m.getD i 0 < n) → j ≤ m.length → pk m (pk l t n) j = pk (m.map fun i => l.getD i 0) t j
  | 0, _, _ => rfl
  | j + 1, h, hj => by
    simp only [pk]
    rw [pk_pk l m t n j (fun i hi => h i (by omega)) (by omega), pk_bit l t n _ (h j (by omega))]
    congr 3
    simp [List.getD_eq_getElem?_getD, List.getElem?_eq_getElem (show j < m.length by omega)]
/-- the rows in which one input is 0 -/
def sel (n k : Nat) : List Nat := (List.range (2 ^ n)).filter fun i => i / 2 ^ k % 2 == 0
/-- a table without the inputs that are 0 -/
def wo : Nat → List Int → Nat → List Int × Nat
  | 0, l, t => (l, t)
  | f + 1, l, t => match l.findIdx? (fun x => decide (x = 0)) with
    | none => (l, t)
    | some k => wo f (l.eraseIdx k) (pk (sel l.length k) t (sel l.length k).length)
/-- which inputs are something -/
def keptL (d : List Int) : List Nat := (List.range 4).filter fun k => decide (0 ≤ d.getD k 0)
/-- where the bits of a row of those are, of all -/
def spr (kept : List Nat) (i : Nat) : Nat → Nat
  | 0 => 0
  | j + 1 => spr kept i j + i / 2 ^ j % 2 * 2 ^ kept.getD j 0
def spread (kept : List Nat) : List Nat := (List.range (2 ^ kept.length)).map fun i => spr kept i kept.length
def blockT (d : List Int) (t : Nat) : Nat := pk (spread (keptL d)) t (2 ^ (keptL d).length)
theorem sel41 : sel 4 0 = [0,2,4,6,8,10,12,14] ∧ sel 4 1 = [0,1,4,5,8,9,12,13] ∧ sel 4 2 = [0,1,2,3,8,9,10,11] ∧ sel 4 3 = [0,1,2,3,4,5,6,7] := by decide
theorem sel31 : sel 3 0 = [0,2,4,6] ∧ sel 3 1 = [0,1,4,5] ∧ sel 3 2 = [0,1,2,3] := by decide
theorem sel21 : sel 2 0 = [0,2] ∧ sel 2 1 = [0,1] := by decide
theorem sel11 : sel 1 0 = [0] := by decide
theorem pk_all {t : Nat} (h : t < 65536) : pk (spread [0,1,2,3]) t 16 = t := by
  have e : spread [0,1,2,3] = [0,1,2,3,4,5,6,7,8,9,10,11,12,13,14,15] := by decide
  rw [e]
  simp only [pk, List.getD_cons_zero, List.getD_cons_succ]
  omega
theorem wo_block (a b c d : Int) (t : Nat) (ha : -1 ≤ a) (hb : -1 ≤ b) (hc : -1 ≤ c) (hd : -1 ≤ d) (ht : t < 65536) :
    wo 4 [a + 1, b + 1, c + 1, d + 1] t = (([a, b, c, d].filter fun x => decide (0 ≤ x)).map (· + 1), blockT [a, b, c, d] t) := by
  have e : ∀ x : Int, -1 ≤ x → (decide (x + 1 = 0) = false ∧ decide (0 ≤ x) = true) ∨ (decide (x + 1 = 0) = true ∧ decide (0 ≤ x) = false) := fun x hx => by
    by_cases h : x = -1
    · subst h; exact .inr ⟨rfl, rfl⟩
    · exact .inl ⟨by simp; omega, by simp; omega⟩
  rcases e a ha with ⟨a2, a3⟩ | ⟨a2, a3⟩ <;> rcases e b hb with ⟨b2, b3⟩ | ⟨b2, b3⟩ <;> rcases e c hc with ⟨c2, c3⟩ | ⟨c2, c3⟩ <;> rcases e d hd with ⟨d2, d3⟩ | ⟨d2, d3⟩
  all_goals simp only [wo, List.findIdx?_cons, List.findIdx?_nil, a2, b2, c2, d2, a3, b3, c3, d3, Bool.false_eq_true, if_false, if_true, Option.map_none, Option.map_some, List.eraseIdx_cons_zero, List.eraseIdx_cons_succ, List.filter_cons, List.filter_nil, List.map_cons, List.map_nil, List.length_cons, List.length_nil, Nat.zero_add, Nat.reduceAdd, sel41.1, sel41.2.1, sel41.2.2.1, sel41.2.2.2, sel31.1, sel31.2.1, sel31.2.2, sel21.1, sel21.2, sel11]
  all_goals refine Prod.ext rfl ?_
  all_goals simp only [blockT, keptL, show List.range 4 = [0,1,2,3] from rfl, List.filter_cons, List.filter_nil, List.getD_cons_zero, List.getD_cons_succ, a3, b3, c3, d3, show decide ((0 : Int) ≤ -1) = false from by decide, Bool.false_eq_true, if_false, if_true, List.length_cons, List.length_nil, Nat.zero_add, Nat.reduceAdd, Nat.reducePow]
  all_goals first
    | exact (pk_all ht).symm
    | (iterate 3 (try rw [pk_pk _ _ _ _ _ (by decide) (by decide)]))
  all_goals first | (congr 1; done) | (congr 1; decide)
end Go.Proofs.Ytoloaecbfglaeaa.Topo
