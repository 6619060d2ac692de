/- A map of nodes' values, as a function. -/
import Derived.Test.YtkhlllbceceikaaDoorRCut
import Derived.Maps.Own
import Derived.Maps.OwnSet
import Derived.Maps.OwnOps
import Derived.Maps.Views
namespace Go.Proofs.YtkhlllbceceikaaDoor
open Go.RowKit Go.Maps
set_option linter.unusedVariables false
set_option linter.unusedSimpArgs false

theorem key_int : Keyed Tryd.prog 3 := int_keyed Tryd.underlying3
theorem zero_u64 (w : World) : (zeroValue 27).run Tryd.prog w = .ok (.int .u64 0) w := by kernel_rfl
theorem key_lit (n : Nat) : WideAt.IsKeyLit (Lit.int .i64 (n : Int)) := trivial
/-- what a map holds -/
structure Holds (D : DataW Unit) (M : Nat → Option Nat) : Prop where
  map : IsMap D
  has : ∀ n : Nat, Maps.has D (.int .i64 (n : Int)) = (M n).isSome
  at_ : ∀ (n v : Nat), M n = some v → ∀ z, D.atKey (.int .i64 (n : Int)) z = .lit (.int .u64 (v : Int))
theorem Holds.start : Holds (.map []) (fun _ => none) := ⟨isMap_empty, fun n => rfl, fun n v h => by cases h⟩
theorem Holds.put {D : DataW Unit} {M : Nat → Option Nat} (h : Holds D M) (n v : Nat) : Holds (D.put (.int .i64 (n : Int)) (.lit (.int .u64 (v : Int)))) (Cut.upd M n v) := by
  refine ⟨h.map.put _ _, fun m => ?_, fun m u hm z => ?_⟩
  · unfold Cut.upd
    by_cases e : m = n
    · subst e; rw [has_put_same h.map (key_lit _), if_pos rfl]; rfl
    · rw [has_put_other (fun hx => e (by simp at hx; omega)), if_neg e]; exact h.has m
  · unfold Cut.upd at hm
    by_cases e : m = n
    · subst e; rw [if_pos rfl] at hm; cases hm; exact atKey_put_same h.map (key_lit _) _ _
    · rw [if_neg e] at hm
      rw [atKey_put_other (fun hx => e (by simp at hx; omega))]
      exact h.at_ m u hm z
/-- block B is a map of cap entries at most that holds M -/
def MapM (w : World) (B cap : Nat) (M : Nat → Option Nat) : Prop := ∃ D : DataW Unit, w.ownsMap Tryd.prog 3 (plainElem (H := Unit) Tryd.prog 27) B cap D ∧ Holds D M
theorem MapM.lt {w : World} {B cap : Nat} {M : Nat → Option Nat} (h : MapM w B cap M) : B < w.heap.size := let ⟨_, h, _⟩ := h; h.lt
theorem MapM.keep {w w' : World} {B cap : Nat} {M : Nat → Option Nat} (h : MapM w B cap M) (hb : w'.heap[B]? = w.heap[B]?) : MapM w' B cap M := by
  obtain ⟨D, ⟨es, clock, h1, h2⟩, hD⟩ := h
  exact ⟨D, ⟨es, clock, hb.trans h1, h2⟩, hD⟩
theorem MapM.below {w w' : World} {B cap : Nat} {M : Nat → Option Nat} (h : MapM w B cap M) (hb : Below w.heap.size w w') : MapM w' B cap M := h.keep (hb.block B h.lt)
/-- how many of the first nodes are not known -/
def unk (N : Nat) (M : Nat → Option Nat) : Nat := (List.range N).countP fun n => (M n).isNone
theorem unk_le (N : Nat) (M : Nat → Option Nat) : unk N M ≤ N := by have := List.countP_le_length (p := fun n => (M n).isNone) (l := List.range N); simpa [unk] using this
theorem unk_mono {N : Nat} {M M' : Nat → Option Nat} (h : ∀ n v, M n = some v → M' n = some v) : unk N M' ≤ unk N M := by
  unfold unk
  refine List.countP_mono_left fun n _ hn => ?_
  cases hM : M n with
  | none => rfl
  | some v => rw [h n v hM] at hn; cases hn
theorem unk_upd {M : Nat → Option Nat} {n v : Nat} (hn : M n = none) : ∀ N, n < N → unk N (Cut.upd M n v) + 1 ≤ unk N M
  | 0, h => by omega
  | N + 1, h => by
    unfold unk
    rw [List.range_succ, List.countP_append, List.countP_append]
    by_cases e : n = N
    · subst e
      have h1 : ((List.range n).countP fun m => (Cut.upd M n v m).isNone) ≤ ((List.range n).countP fun m => (M m).isNone) := List.countP_mono_left fun m hm hx => by
        have : m ≠ n := by have := List.mem_range.1 hm; omega
        simpa [Cut.upd, this] using hx
      have h2 : ([n].countP fun m => (Cut.upd M n v m).isNone) = 0 := by simp [Cut.upd]
      have h3 : ([n].countP fun m => (M m).isNone) = 1 := by simp [hn]
      omega
    · have ih := unk_upd (v := v) hn N (by omega)
      unfold unk at ih
      have h2 : ([N].countP fun m => (Cut.upd M n v m).isNone) = ([N].countP fun m => (M m).isNone) := by simp [Cut.upd, Ne.symm e]
      omega
theorem lit_lt {x a : Nat} (hx : x < 18446744073709551616) : Cut.lit x a < 18446744073709551616 := by
  unfold Cut.lit
  split
  · exact xor_ones_lt x hx
  · exact hx
theorem and_lt {x y : Nat} (hx : x < 18446744073709551616) : x &&& y < 18446744073709551616 := Nat.lt_of_le_of_lt Nat.and_le_left hx
theorem ones_and {x : Nat} (hx : x < 18446744073709551616) : Cut.ones &&& x = x := by
  have e : Cut.ones = 2 ^ 64 - 1 := by decide
  rw [Nat.and_comm, e, Nat.and_two_pow_sub_one_eq_mod, Nat.mod_eq_of_lt hx]
theorem tab_lt {K : Nat → Option Nat} {F : Nat} {ands : List (Nat × Nat)} (hK : ∀ n v, K n = some v → v < 18446744073709551616) : ∀ n v, Cut.tab K F ands n = some v → v < 18446744073709551616 := by
  intro n
  induction n using Nat.strongRecOn with
  | ind n ih =>
    intro v h
    cases hk : K n with
    | some u => rw [Cut.tab_known hk] at h; cases h; exact hK n _ hk
    | none =>
      by_cases hn : n < F
      · rw [Cut.tab_low hk hn] at h; cases h
      · rw [Cut.tab, hk] at h
        simp only [hn, if_false] at h
        cases hg : ands[n - F]? with
        | none => rw [hg] at h; cases h
        | some p =>
          obtain ⟨a, b⟩ := p
          rw [hg] at h
          by_cases hab : a / 2 < n ∧ b / 2 < n
          · simp only [hab, and_self, dite_true] at h
            cases ha : Cut.tab K F ands (a / 2) with
            | none => rw [ha] at h; cases h
            | some x =>
              rw [ha] at h
              cases hb : Cut.tab K F ands (b / 2) with
              | none => rw [hb] at h; cases h
              | some y =>
                rw [hb] at h
                cases h
                exact and_lt (lit_lt (ih _ hab.1 x ha))
          · simp only [hab, dite_false] at h; cases h
theorem MapM.update {w : World} {B cap : Nat} {M : Nat → Option Nat} (h : MapM w B cap M) (hc : cap < maxLen) (n v : Nat) (hn : n < 9223372036854775808) (hv : v < 18446744073709551616) :
    ∃ w', (Instr.mapUpdate 85 (.map (some B)) (.int .i64 (n : Int)) (.int .u64 (v : Int))).run Tryd.prog w = .ok () w' ∧ MapM w' B (cap + 1) (Cut.upd M n v) ∧ w.grownBy w' (some B) := by
  obtain ⟨D, hown, hD⟩ := h
  have hwn : (Lit.int .i64 (n : Int)).wf = true := WalkArith.wf_i64 (by omega)
  have hwv : (Lit.int .u64 (v : Int)).wf = true := WalkArith.wf_u64 (by omega)
  have hk : keyOf Tryd.prog 3 (.int .i64 (n : Int)) = some (.int .i64 (n : Int)) := keyOf_int_mk Tryd.underlying3 hwn
  obtain ⟨w', h1, h2, h3⟩ := hown.update key_int Tryd.underlying85 hc hk (plainElem_int Tryd.underlying27 hwv)
  exact ⟨w', h1, ⟨_, h2, hD.put n v⟩, h3⟩
theorem MapM.made (w : World) : MapM (w.alloc (.map #[] 0)) w.heap.size 0 (fun _ => none) := ⟨_, World.ownsMap_made _ _ _ _, Holds.start⟩
end Go.Proofs.YtkhlllbceceikaaDoor
