/- Cuts, plainly: what a node is by some leaves; tables of fewer rows; lists that rise, made one. -/
import Derived.Test.YtkhlllbceceikaaDoorBase
namespace Go.Proofs.YtkhlllbceceikaaDoor.Cut
set_option linter.unusedVariables false
set_option linter.unusedSimpArgs false

def ones : Nat := 18446744073709551615
/-- a literal's values -/
def lit (x a : Nat) : Nat := if a % 2 = 1 then x ^^^ ones else x
/-- what a node is, by what is known: none, if it hangs on more -/
def tab (K : Nat → Option Nat) (first : Nat) (ands : List (Nat × Nat)) (n : Nat) : Option Nat :=
  match K n with
  | some v => some v
  | none => if n < first then none else
    match ands[n - first]? with
    | none => none
    | some (a, b) => if h : a / 2 < n ∧ b / 2 < n then
        match tab K first ands (a / 2) with
        | none => none
        | some x => match tab K first ands (b / 2) with
          | none => none
          | some y => some (lit x a &&& lit y b)
      else none
termination_by n
theorem tab_known {K : Nat → Option Nat} {first : Nat} {ands : List (Nat × Nat)} {n v : Nat} (h : K n = some v) : tab K first ands n = some v := by
  rw [tab, h]
theorem tab_low {K : Nat → Option Nat} {first : Nat} {ands : List (Nat × Nat)} {n : Nat} (h : K n = none) (hn : n < first) : tab K first ands n = none := by
  rw [tab, h]
  simp [hn]
theorem tab_gate {K : Nat → Option Nat} {first : Nat} {ands : List (Nat × Nat)} {n a b : Nat} (h : K n = none) (hn : ¬ n < first) (hg : ands[n - first]? = some (a, b)) (ha : a / 2 < n) (hb : b / 2 < n) :
    tab K first ands n = match tab K first ands (a / 2) with
      | none => none
      | some x => match tab K first ands (b / 2) with
        | none => none
        | some y => some (lit x a &&& lit y b) := by
  rw [tab, h]
  simp only [hn, if_false, hg, ha, hb, and_self, dite_true]
/-- more that is known of nodes, if it is what they are, changes nothing -/
theorem tab_more {K M : Nat → Option Nat} {first : Nat} {ands : List (Nat × Nat)} (h1 : ∀ n v, K n = some v → M n = some v) (h2 : ∀ n v, M n = some v → tab K first ands n = some v) : ∀ n, tab M first ands n = tab K first ands n := by
  intro n
  induction n using Nat.strongRecOn with
  | ind n ih =>
    cases hM : M n with
    | some v => rw [tab_known hM, h2 n v hM]
    | none =>
      have hK : K n = none := by
        cases hK : K n with
        | none => rfl
        | some v => rw [h1 n v hK] at hM; cases hM
      by_cases hn : n < first
      · rw [tab_low hM hn, tab_low hK hn]
      · cases hg : ands[n - first]? with
        | none => rw [tab, tab, hM, hK]; simp [hn, hg]
        | some p =>
          obtain ⟨a, b⟩ := p
          by_cases hab : a / 2 < n ∧ b / 2 < n
          · rw [tab_gate hM hn hg hab.1 hab.2, tab_gate hK hn hg hab.1 hab.2, ih _ hab.1, ih _ hab.2]
          · rw [tab, tab, hM, hK]; simp [hn, hg, hab]
/-- what a map of nodes' values holds comes through, under what keeps literals and the and -/
theorem tab_map {K : Nat → Option Nat} {first : Nat} {ands : List (Nat × Nat)} (f : Nat → Nat) (L : Nat → Nat → Nat) (hf : ∀ x y a b, f (lit x a &&& lit y b) = L (f x) a &&& L (f y) b) (T : Nat → Option Nat)
    (hK : ∀ n v, K n = some v → T n = some (f v)) (hlow : ∀ n, K n = none → n < first → T n = none)
    (hg : ∀ n a b, K n = none → ¬ n < first → ands[n - first]? = some (a, b) → a / 2 < n → b / 2 < n → T n = match T (a / 2) with
      | none => none
      | some x => match T (b / 2) with
        | none => none
        | some y => some (L x a &&& L y b)) (hin : ∀ i a b, ands[i]? = some (a, b) → a / 2 < first + i ∧ b / 2 < first + i) :
    ∀ n, n < first + ands.length → T n = (tab K first ands n).map f := by
  intro n
  induction n using Nat.strongRecOn with
  | ind n ih =>
    intro hlt
    cases h : K n with
    | some v => rw [tab_known h, hK n v h]; rfl
    | none =>
      by_cases hn : n < first
      · rw [tab_low h hn, hlow n h hn]; rfl
      · obtain ⟨p, hp⟩ : ∃ p, ands[n - first]? = some p := ⟨ands[n - first], List.getElem?_eq_getElem (by omega)⟩
        obtain ⟨a, b⟩ := p
        obtain ⟨ha, hb⟩ := hin _ _ _ hp
        have ha' : a / 2 < n := by omega
        have hb' : b / 2 < n := by omega
        rw [tab_gate h hn hp ha' hb', hg n a b h hn hp ha' hb', ih _ ha' (by omega), ih _ hb' (by omega)]
        cases tab K first ands (a / 2) with
        | none => rfl
        | some x => cases tab K first ands (b / 2) with
          | none => rfl
          | some y => simp [hf]
/-! ## Rows -/
/-- all rows of so many leaves -/
def rows (n : Nat) : Nat := 2 ^ 2 ^ n - 1
/-- a leaf's values, in 64 rows -/
def col (i : Nat) : Nat := match i with
  | 0 => 0xaaaaaaaaaaaaaaaa
  | 1 => 0xcccccccccccccccc
  | 2 => 0xf0f0f0f0f0f0f0f0
  | 3 => 0xff00ff00ff00ff00
  | 4 => 0xffff0000ffff0000
  | _ => 0xffffffff00000000
theorem and_mask (x y m : Nat) : (x &&& y) &&& m = (x &&& m) &&& (y &&& m) := by
  apply Nat.eq_of_testBit_eq
  intro i
  simp only [Nat.testBit_and]
  cases x.testBit i <;> cases y.testBit i <;> cases m.testBit i <;> rfl
theorem xor_mask (x o m : Nat) : (x ^^^ o) &&& m = ((x &&& m) ^^^ o) &&& m := by
  apply Nat.eq_of_testBit_eq
  intro i
  simp only [Nat.testBit_and, Nat.testBit_xor]
  cases x.testBit i <;> cases o.testBit i <;> cases m.testBit i <;> rfl
/-- a literal's values, of so many rows -/
def litM (m x a : Nat) : Nat := if a % 2 = 1 then (x ^^^ ones) &&& m else x
theorem mask_lit (m x y a b : Nat) : (lit x a &&& lit y b) &&& m = litM m (x &&& m) a &&& litM m (y &&& m) b := by
  rw [and_mask]
  congr 1
  · unfold lit litM; split
    · exact xor_mask _ _ _
    · rfl
  · unfold lit litM; split
    · exact xor_mask _ _ _
    · rfl
end Go.Proofs.YtkhlllbceceikaaDoor.Cut
namespace Go.Proofs.YtkhlllbceceikaaDoor.Cut
/-! ## Lists that rise -/
def Rises (l : List Int) : Prop := l.Pairwise (· < ·)
instance (l : List Int) : Decidable (Rises l) := by unfold Rises; infer_instance
theorem rises_uniq : ∀ {l m : List Int}, Rises l → Rises m → (∀ x, x ∈ l ↔ x ∈ m) → l = m
  | [], [], _, _, _ => rfl
  | [], y :: m, _, _, h => by have := (h y).2 (by simp); cases this
  | x :: l, [], _, _, h => by have := (h x).1 (by simp); cases this
  | x :: l, y :: m, hl, hm, h => by
    have hl' := List.pairwise_cons.1 hl
    have hm' := List.pairwise_cons.1 hm
    have hxy : x = y := by
      have h1 := (h x).1 (by simp)
      have h2 := (h y).2 (by simp)
      rcases List.mem_cons.1 h1 with e | h1
      · exact e
      · rcases List.mem_cons.1 h2 with e | h2
        · exact e.symm
        · have a := hm'.1 x h1
          have b := hl'.1 y h2
          omega
    subst hxy
    rw [rises_uniq hl'.2 hm'.2 (fun z => ?_)]
    constructor
    · intro hz
      have hne := hl'.1 z hz
      rcases List.mem_cons.1 ((h z).1 (List.mem_cons_of_mem _ hz)) with e | e
      · omega
      · exact e
    · intro hz
      have hne := hm'.1 z hz
      rcases List.mem_cons.1 ((h z).2 (List.mem_cons_of_mem _ hz)) with e | e
      · omega
      · exact e
/-- two lists made one -/
def mrg : List Int → List Int → List Int
  | [], b => b
  | a, [] => a
  | x :: a, y :: b => if x < y then x :: mrg a (y :: b) else if y < x then y :: mrg (x :: a) b else x :: mrg a b
termination_by a b => a.length + b.length
theorem mem_mrg : ∀ (a b : List Int) (z : Int), z ∈ mrg a b ↔ z ∈ a ∨ z ∈ b
  | [], b, z => by simp [mrg]
  | x :: a, [], z => by simp [mrg]
  | x :: a, y :: b, z => by
    rw [mrg]
    split
    · simp only [List.mem_cons, mem_mrg a (y :: b) z]
      constructor
      · rintro (h | h | h | h)
        · exact .inl (.inl h)
        · exact .inl (.inr h)
        · exact .inr (.inl h)
        · exact .inr (.inr h)
      · rintro ((h | h) | h | h)
        · exact .inl h
        · exact .inr (.inl h)
        · exact .inr (.inr (.inl h))
        · exact .inr (.inr (.inr h))
    · split
      · simp only [List.mem_cons, mem_mrg (x :: a) b z]
        constructor
        · rintro (h | (h | h) | h)
          · exact .inr (.inl h)
          · exact .inl (.inl h)
          · exact .inl (.inr h)
          · exact .inr (.inr h)
        · rintro ((h | h) | h | h)
          · exact .inr (.inl (.inl h))
          · exact .inr (.inl (.inr h))
          · exact .inl h
          · exact .inr (.inr h)
      · have e : x = y := by omega
        subst e
        simp only [List.mem_cons, mem_mrg a b z]
        constructor
        · rintro (h | h | h)
          · exact .inl (.inl h)
          · exact .inl (.inr h)
          · exact .inr (.inr h)
        · rintro ((h | h) | h | h)
          · exact .inl h
          · exact .inr (.inl h)
          · exact .inl h
          · exact .inr (.inr h)
termination_by a b => a.length + b.length
theorem mrg_rises : ∀ (a b : List Int), Rises a → Rises b → Rises (mrg a b)
  | [], b, _, hb => by simpa [mrg] using hb
  | x :: a, [], ha, _ => by simpa [mrg] using ha
  | x :: a, y :: b, ha, hb => by
    have ha' := List.pairwise_cons.1 ha
    have hb' := List.pairwise_cons.1 hb
    rw [mrg]
    split
    · refine List.pairwise_cons.2 ⟨fun z hz => ?_, mrg_rises a (y :: b) ha'.2 hb⟩
      rcases (mem_mrg _ _ _).1 hz with h | h
      · exact ha'.1 z h
      · rcases List.mem_cons.1 h with h | h
        · omega
        · have := hb'.1 z h; omega
    · split
      · refine List.pairwise_cons.2 ⟨fun z hz => ?_, mrg_rises (x :: a) b ha hb'.2⟩
        rcases (mem_mrg _ _ _).1 hz with h | h
        · rcases List.mem_cons.1 h with h | h
          · omega
          · have := ha'.1 z h; omega
        · exact hb'.1 z h
      · refine List.pairwise_cons.2 ⟨fun z hz => ?_, mrg_rises a b ha'.2 hb'.2⟩
        rcases (mem_mrg _ _ _).1 hz with h | h
        · exact ha'.1 z h
        · have := hb'.1 z h; omega
termination_by a b => a.length + b.length
theorem mrg_comm {a b : List Int} (ha : Rises a) (hb : Rises b) : mrg a b = mrg b a :=
  rises_uniq (mrg_rises a b ha hb) (mrg_rises b a hb ha) (fun z => by rw [mem_mrg, mem_mrg]; exact Or.comm)
theorem mrg_len : ∀ (a b : List Int), a.length ≤ (mrg a b).length ∧ b.length ≤ (mrg a b).length ∧ (mrg a b).length ≤ a.length + b.length
  | [], b => by simp [mrg]
  | x :: a, [] => by simp [mrg]
  | x :: a, y :: b => by
    rw [mrg]
    split
    · have := mrg_len a (y :: b); simp only [List.length_cons] at this ⊢; omega
    · split
      · have := mrg_len (x :: a) b; simp only [List.length_cons] at this ⊢; omega
      · have := mrg_len a b; simp only [List.length_cons] at this ⊢; omega
termination_by a b => a.length + b.length
/-- what Merge tells -/
def merge (a b : List Int) (k : Int) : Option (List Int) := if Rises a ∧ Rises b ∧ 0 ≤ k ∧ k ≤ 6 ∧ ((mrg a b).length : Int) ≤ k then some (mrg a b) else none
end Go.Proofs.YtkhlllbceceikaaDoor.Cut
