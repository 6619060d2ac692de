/- Sets of nodes, each leading to a lesser one of its set: plain, no program here. -/
import Derived.Test.YtakccepilbmmlaaMem
namespace Go.Proofs.Ytakccepilbmmlaa
set_option linter.unusedVariables false
set_option linter.unusedSimpArgs false

/-- each node leads to none greater -/
def Down (S : List Nat) : Prop := ∀ i, i < S.length → S.getD i 0 ≤ i
/-- where a node leads in the end -/
def rootF (S : List Nat) : Nat → Nat → Nat
  | 0, n => n
  | k + 1, n => if S.getD n 0 < n then rootF S k (S.getD n 0) else n
def root (S : List Nat) (n : Nat) : Nat := rootF S n n
theorem rootF_more (S : List Nat) : ∀ (k n : Nat), n ≤ k → rootF S k n = root S n := by
  intro k n
  unfold root
  induction n using Nat.strongRecOn generalizing k with
  | _ n ih =>
    intro hk
    cases n with
    | zero => cases k <;> simp [rootF]
    | succ n =>
      cases k with
      | zero => omega
      | succ k =>
        simp only [rootF]
        split
        · rename_i h
          rw [ih _ h k (by omega), ih _ h n (by omega)]
        · rfl
theorem root_step {S : List Nat} {n : Nat} (h : S.getD n 0 < n) : root S n = root S (S.getD n 0) := by
  cases n with
  | zero => omega
  | succ n =>
    conv => lhs; unfold root; simp only [rootF]
    rw [if_pos h, rootF_more S n _ (by omega)]
theorem root_stop {S : List Nat} {n : Nat} (h : ¬ S.getD n 0 < n) : root S n = n := by
  cases n with
  | zero => rfl
  | succ n => unfold root; simp only [rootF]; rw [if_neg h]
theorem root_to {S : List Nat} (hd : Down S) {n : Nat} (hn : n < S.length) : root S n = root S (S.getD n 0) := by
  by_cases h : S.getD n 0 < n
  · exact root_step h
  · have := hd n hn
    have e : S.getD n 0 = n := by omega
    rw [e]
theorem root_le (S : List Nat) (n : Nat) : root S n ≤ n := by
  induction n using Nat.strongRecOn with
  | _ n ih =>
    by_cases h : S.getD n 0 < n
    · rw [root_step h]; have := ih _ h; omega
    · rw [root_stop h]; exact Nat.le_refl _
theorem root_end {S : List Nat} (hd : Down S) (n : Nat) (hn : n < S.length) : S.getD (root S n) 0 = root S n := by
  induction n using Nat.strongRecOn with
  | _ n ih =>
    by_cases h : S.getD n 0 < n
    · rw [root_step h]; exact ih _ h (by omega)
    · rw [root_stop h]; have := hd n hn; omega
theorem root_of_end {S : List Nat} {n : Nat} (h : S.getD n 0 = n) : root S n = n := root_stop (by omega)
theorem getD_setN (l : List Nat) (i j : Nat) (h : i < l.length) (b : Nat) : (l.set i b).getD j 0 = if i = j then b else l.getD j 0 := by
  simp only [List.getD_eq_getElem?_getD, List.getElem?_set]
  by_cases e : i = j
  · subst e; simp [h]
  · simp [e]
theorem Down.set {S : List Nat} (hd : Down S) {n v : Nat} (hn : n < S.length) (hv : v ≤ n) : Down (S.set n v) := by
  intro i hi
  rw [getD_setN S n i hn]
  split
  · omega
  · exact hd i (by simpa using hi)
/-- a node that is led further down its own way: nothing turns -/
theorem root_set {S : List Nat} (hd : Down S) {n v : Nat} (hn : n < S.length) (hv : v < n) (he : root S v = root S n) (i : Nat) (hi : i < S.length) : root (S.set n v) i = root S i := by
  induction i using Nat.strongRecOn with
  | _ i ih =>
    by_cases e : n = i
    · subst e
      have g : (S.set n v).getD n 0 = v := by rw [getD_setN S n n hn, if_pos rfl]
      rw [root_step (by omega), g, ih v hv (by omega), he]
    · have g : (S.set n v).getD i 0 = S.getD i 0 := by rw [getD_setN S n i hn, if_neg e]
      by_cases h : S.getD i 0 < i
      · rw [root_step (by omega), g, ih _ h (by omega), ← root_step h]
      · rw [root_stop (by omega), root_stop h]
/-- two ends made one -/
theorem root_join {S : List Nat} (hd : Down S) {a b : Nat} (hab : a < b) (hb : b < S.length) (ha1 : S.getD a 0 = a) (hb1 : S.getD b 0 = b) (i : Nat) (hi : i < S.length) : root (S.set b a) i = if root S i = b then a else root S i := by
  induction i using Nat.strongRecOn with
  | _ i ih =>
    by_cases e : b = i
    · subst e
      have g : (S.set b a).getD b 0 = a := by rw [getD_setN S b b hb, if_pos rfl]
      have hra : root S a = a := root_of_end ha1
      rw [root_step (by omega), g, ih a hab (by omega), hra, root_of_end hb1, if_pos rfl, if_neg (by omega)]
    · have g : (S.set b a).getD i 0 = S.getD i 0 := by rw [getD_setN S b i hb, if_neg e]
      by_cases h : S.getD i 0 < i
      · rw [root_step (by omega), g, ih _ h (by omega), ← root_step h]
      · rw [root_stop (by omega), root_stop h, if_neg (fun h => e h.symm)]

/-- two sets made one, told of the ends alone -/
def joinR (f : Nat → Nat) (x y : Nat) : Nat → Nat := fun i => if f i = max (f x) (f y) then min (f x) (f y) else f i
/-- with the switches that are on, so many of them -/
def joinAll (E : List (Int × Int)) (on : List Bool) : Nat → (Nat → Nat)
  | 0 => fun i => i
  | k + 1 => if on.getD k false then joinR (joinAll E on k) (E[k]!).1.toNat (E[k]!).2.toNat else joinAll E on k
/-- the ends of a list of sets -/
structure Ends (f : Nat → Nat) : Prop where
  le : ∀ i, f i ≤ i
  same : ∀ i, f (f i) = f i
theorem Ends.start : Ends fun i => i := ⟨fun i => Nat.le_refl _, fun i => rfl⟩
theorem Ends.join {f : Nat → Nat} (h : Ends f) (x y : Nat) : Ends (joinR f x y) := by
  have key : ∀ i, joinR f x y i = f i ∨ (f i = max (f x) (f y) ∧ joinR f x y i = min (f x) (f y)) := fun i => by
    unfold joinR; split
    · exact .inr ⟨by assumption, rfl⟩
    · exact .inl rfl
  have hmin : f (min (f x) (f y)) = min (f x) (f y) := by
    rcases Nat.le_total (f x) (f y) with e | e
    · rw [Nat.min_eq_left e]; exact h.same x
    · rw [Nat.min_eq_right e]; exact h.same y
  constructor
  · intro i
    have := h.le i
    rcases key i with e | ⟨e1, e2⟩
    · omega
    · omega
  · intro i
    have hstay : joinR f x y (min (f x) (f y)) = min (f x) (f y) := by
      unfold joinR
      rw [hmin]
      split
      · rfl
      · rfl
    rcases key i with e | ⟨e1, e2⟩
    · rw [e]
      unfold joinR at e ⊢
      rw [h.same i]
      exact e
    · rw [e2]; exact hstay
theorem joinAll_ends (E : List (Int × Int)) (on : List Bool) : ∀ k, Ends (joinAll E on k)
  | 0 => Ends.start
  | k + 1 => by
    simp only [joinAll]
    split
    · exact (joinAll_ends E on k).join _ _
    · exact joinAll_ends E on k
theorem joinR_same (f : Nat → Nat) (x y : Nat) : joinR f x y x = joinR f x y y := by
  unfold joinR
  split <;> split <;> omega
theorem joinR_keeps {f : Nat → Nat} {i j : Nat} (h : f i = f j) (x y : Nat) : joinR f x y i = joinR f x y j := by
  unfold joinR; rw [h]
theorem joinAll_on (E : List (Int × Int)) (on : List Bool) : ∀ (k j : Nat), j < k → on.getD j false = true → joinAll E on k (E[j]!).1.toNat = joinAll E on k (E[j]!).2.toNat
  | 0, j, h, _ => by omega
  | k + 1, j, h, ho => by
    simp only [joinAll]
    by_cases e : j = k
    · subst e
      rw [if_pos ho]
      exact joinR_same _ _ _
    · have ih := joinAll_on E on k j (by omega) ho
      split
      · exact joinR_keeps ih _ _
      · exact ih
end Go.Proofs.Ytakccepilbmmlaa
