/- One switch more: which nodes are joined then, and who drives them. Plain, no program here. -/
import Derived.Test.YtakccepilbmmlaaDrv
namespace Go.Proofs.Ytakccepilbmmlaa
open Go.RowKit
set_option linter.unusedVariables false
set_option linter.unusedSimpArgs false

/-- joined by switches that are on, among the first k -/
inductive Lk (E : List (Int × Int)) (on : List Bool) (k : Nat) : Nat → Nat → Prop
  | refl (i : Nat) : Lk E on k i i
  | symm {i j : Nat} : Lk E on k i j → Lk E on k j i
  | trans {i j l : Nat} : Lk E on k i j → Lk E on k j l → Lk E on k i l
  | step {q : Nat} (hq : q < k) (ho : on.getD q false = true) : Lk E on k (E[q]!).1.toNat (E[q]!).2.toNat
theorem Lk.more {E : List (Int × Int)} {on on' : List Bool} {k k' : Nat} (hk : k ≤ k') (ho : ∀ q, q < k → on.getD q false = true → on'.getD q false = true) {i j : Nat} (h : Lk E on k i j) : Lk E on' k' i j := by
  induction h with
  | refl i => exact .refl i
  | symm _ ih => exact .symm ih
  | trans _ _ h1 h2 => exact .trans h1 h2
  | step hq hb => exact .step (by omega) (ho _ hq hb)
theorem joinR_eq {f : Nat → Nat} {x y i j : Nat} (h : joinR f x y i = joinR f x y j) : f i = f j ∨ ((f i = f x ∨ f i = f y) ∧ (f j = f x ∨ f j = f y)) := by
  unfold joinR at h
  split at h <;> split at h <;> omega
theorem joinAll_lk (E : List (Int × Int)) (on : List Bool) : ∀ (k i j : Nat), joinAll E on k i = joinAll E on k j → Lk E on k i j
  | 0, i, j, h => by simp only [joinAll] at h; subst h; exact .refl i
  | k + 1, i, j, h => by
    have up : ∀ {a b : Nat}, Lk E on k a b → Lk E on (k + 1) a b := fun h => h.more (by omega) (fun _ _ h => h)
    simp only [joinAll] at h
    split at h
    · rename_i ho
      have hxy : Lk E on (k + 1) (E[k]!).1.toNat (E[k]!).2.toNat := .step (by omega) ho
      rcases joinR_eq h with e | ⟨e1, e2⟩
      · exact up (joinAll_lk E on k i j e)
      · have a1 : Lk E on (k + 1) i (E[k]!).1.toNat := by
          rcases e1 with e | e
          · exact up (joinAll_lk E on k _ _ e)
          · exact .trans (up (joinAll_lk E on k _ _ e)) hxy.symm
        have a2 : Lk E on (k + 1) j (E[k]!).1.toNat := by
          rcases e2 with e | e
          · exact up (joinAll_lk E on k _ _ e)
          · exact .trans (up (joinAll_lk E on k _ _ e)) hxy.symm
        exact a1.trans a2.symm
    · exact up (joinAll_lk E on k i j h)
theorem lk_joinAll {E : List (Int × Int)} {on : List Bool} {k i j : Nat} (h : Lk E on k i j) : joinAll E on k i = joinAll E on k j := by
  induction h with
  | refl i => rfl
  | symm _ ih => exact ih.symm
  | trans _ _ h1 h2 => exact h1.trans h2
  | step hq ho => exact joinAll_on E on k _ hq ho
theorem ends_eq {f g : Nat → Nat} (hf : Ends f) (hg : Ends g) (h : ∀ i j, f i = f j ↔ g i = g j) (i : Nat) : f i = g i := by
  have h1 : g (f i) = g i := (h _ _).1 (hf.same i)
  have h2 : f (g i) = f i := (h _ _).2 (hg.same i)
  have h3 := hg.le (f i)
  have h4 := hf.le (g i)
  omega
/-- one switch more -/
theorem joinAll_more (E : List (Int × Int)) (on : List Bool) (k q : Nat) (hq : q < k) (hl : q < on.length) (i : Nat) :
    joinAll E (on.set q true) k i = joinR (joinAll E on k) (E[q]!).1.toNat (E[q]!).2.toNat i := by
  have hset : ∀ p, (on.set q true).getD p false = if q = p then true else on.getD p false := fun p => getD_setB on q p hl true
  refine ends_eq (joinAll_ends E _ k) ((joinAll_ends E on k).join _ _) (fun i j => ⟨fun h => ?_, fun h => ?_⟩) i
  · have hl := joinAll_lk E _ k i j h
    clear h
    induction hl with
    | refl i => rfl
    | symm _ ih => exact ih.symm
    | trans _ _ h1 h2 => exact h1.trans h2
    | @step p hp ho =>
      rw [hset] at ho
      by_cases e : q = p
      · subst e; exact joinR_same _ _ _
      · rw [if_neg e] at ho
        exact joinR_keeps (joinAll_on E on k p hp ho) _ _
  · have up : ∀ {a b : Nat}, joinAll E on k a = joinAll E on k b → Lk E (on.set q true) k a b := fun h =>
      (joinAll_lk E on k _ _ h).more (Nat.le_refl _) (fun p _ hp => by rw [hset]; split <;> first | rfl | exact hp)
    have hxy : Lk E (on.set q true) k (E[q]!).1.toNat (E[q]!).2.toNat := .step hq (by rw [hset, if_pos rfl])
    apply lk_joinAll
    rcases joinR_eq h with e | ⟨e1, e2⟩
    · exact up e
    · have a1 : Lk E (on.set q true) k i (E[q]!).1.toNat := by
        rcases e1 with e | e
        · exact up e
        · exact .trans (up e) hxy.symm
      have a2 : Lk E (on.set q true) k j (E[q]!).1.toNat := by
        rcases e2 with e | e
        · exact up e
        · exact .trans (up e) hxy.symm
      exact a1.trans a2.symm

/-! ### who drives -/
theorem whoseOf_some {l : List Nat} {n w : Nat} (hd : l.Nodup) (h : l[w]? = some n) : whoseOf l n = (w : Int) := by
  have hw := (List.getElem?_eq_some_iff.1 h).1
  have e := (List.getElem?_eq_some_iff.1 h).2
  have : l.findIdx? (· == n) = some w := by
    rw [List.findIdx?_eq_some_iff_getElem]
    refine ⟨hw, by simp [e], fun j hj => ?_⟩
    have hne : l[j] ≠ l[w] := List.pairwise_iff_getElem.1 hd j w (by omega) hw hj
    rw [e] at hne
    simpa using hne
  unfold whoseOf
  rw [this]
theorem whoseOf_none {l : List Nat} {n : Nat} (h : ¬ n ∈ l) : whoseOf l n = -1 := by
  have : l.findIdx? (· == n) = none := by
    rw [List.findIdx?_eq_none_iff]
    intro x hx
    simp only [beq_eq_false_iff_ne]
    rintro rfl
    exact h hx
  unfold whoseOf
  rw [this]
theorem whoseOf_cases (l : List Nat) (n : Nat) : (whoseOf l n = -1 ∧ ¬ n ∈ l) ∨ ∃ w : Nat, whoseOf l n = (w : Int) ∧ l[w]? = some n := by
  unfold whoseOf
  cases h : l.findIdx? (· == n) with
  | none =>
    refine .inl ⟨rfl, fun hm => ?_⟩
    rw [List.findIdx?_eq_none_iff] at h
    have := h n hm
    simp at this
  | some w =>
    rw [List.findIdx?_eq_some_iff_getElem] at h
    obtain ⟨hw, he, -⟩ := h
    exact .inr ⟨w, rfl, by rw [List.getElem?_eq_getElem hw]; simpa using he⟩
/-- two labels made one -/
def mg (p q : Nat) : Nat → Nat := fun n => if n = max p q then min p q else n
theorem mg_eq {p q m n : Nat} (h : mg p q m = mg p q n) : m = n ∨ ((m = p ∧ n = q) ∨ (m = q ∧ n = p)) := by
  unfold mg at h
  split at h <;> split at h <;> omega
theorem mg_left (p q : Nat) : mg p q p = min p q := by unfold mg; split <;> omega
theorem mg_right (p q : Nat) : mg p q q = min p q := by unfold mg; split <;> omega
theorem short_yes {l : List Nat} {p q : Nat} (ha : 0 ≤ whoseOf l p) (hb : 0 ≤ whoseOf l q) (hne : whoseOf l p ≠ whoseOf l q) : ¬ (l.map (mg p q)).Nodup := by
  rcases whoseOf_cases l p with ⟨e, -⟩ | ⟨a, ea, ha'⟩
  · omega
  · rcases whoseOf_cases l q with ⟨e, -⟩ | ⟨b, eb, hb'⟩
    · omega
    · intro hd
      have hab : a ≠ b := by rintro rfl; exact hne (ea.trans eb.symm)
      have h1 : (l.map (mg p q))[a]? = some (min p q) := by rw [List.getElem?_map, ha']; simp [mg_left]
      have h2 : (l.map (mg p q))[b]? = some (min p q) := by rw [List.getElem?_map, hb']; simp [mg_right]
      have w1 := whoseOf_some hd h1
      have w2 := whoseOf_some hd h2
      rw [w1] at w2
      omega
theorem short_no {l : List Nat} {p q : Nat} (hd : l.Nodup) (h : ¬ (0 ≤ whoseOf l p ∧ 0 ≤ whoseOf l q ∧ whoseOf l p ≠ whoseOf l q)) :
    (l.map (mg p q)).Nodup ∧ whoseOf (l.map (mg p q)) (min p q) = max (whoseOf l p) (whoseOf l q) := by
  have hnd : (l.map (mg p q)).Nodup := by
    rw [List.Nodup, List.pairwise_map, List.pairwise_iff_getElem]
    intro i j hi hj hij he
    rcases mg_eq he with e | ⟨e1, e2⟩ | ⟨e1, e2⟩
    · exact List.pairwise_iff_getElem.1 hd i j hi hj hij e
    · have w1 := whoseOf_some hd (w := i) (n := p) (by rw [List.getElem?_eq_getElem hi, e1])
      have w2 := whoseOf_some hd (w := j) (n := q) (by rw [List.getElem?_eq_getElem hj, e2])
      exact h ⟨by omega, by omega, by omega⟩
    · have w1 := whoseOf_some hd (w := i) (n := q) (by rw [List.getElem?_eq_getElem hi, e1])
      have w2 := whoseOf_some hd (w := j) (n := p) (by rw [List.getElem?_eq_getElem hj, e2])
      exact h ⟨by omega, by omega, by omega⟩
  refine ⟨hnd, ?_⟩
  rcases whoseOf_cases l p with ⟨ea, ha⟩ | ⟨a, ea, ha⟩
  · rcases whoseOf_cases l q with ⟨eb, hb⟩ | ⟨b, eb, hb⟩
    · rw [ea, eb, whoseOf_none]
      · rfl
      · intro hm
        obtain ⟨x, hx, he⟩ := List.mem_map.1 hm
        rw [← mg_left p q] at he
        rcases mg_eq he with e | ⟨e1, e2⟩ | ⟨e1, e2⟩
        · subst e; exact ha hx
        · subst e1; exact ha hx
        · subst e1; exact hb hx
    · rw [whoseOf_some hnd (w := b) (n := min p q) (by rw [List.getElem?_map, hb]; simp [mg_right]), ea, eb]
      omega
  · rcases whoseOf_cases l q with ⟨eb, hb⟩ | ⟨b, eb, hb⟩
    · rw [whoseOf_some hnd (w := a) (n := min p q) (by rw [List.getElem?_map, ha]; simp [mg_left]), ea, eb]
      omega
    · rw [whoseOf_some hnd (w := a) (n := min p q) (by rw [List.getElem?_map, ha]; simp [mg_left]), ea, eb]
      omega
end Go.Proofs.Ytakccepilbmmlaa
