/- What cuts tell, plainly: tables mean what nodes are; all sets are cuts; first sets are least deep. -/
import Derived.Test.YtkhlllbceceikaaDoorBothP
namespace Go.Proofs.YtkhlllbceceikaaDoor
open Go.RowKit
set_option linter.unusedVariables false
set_option linter.unusedSimpArgs false
namespace Cut
/-- more leaves, more nodes that hang on them -/
theorem tab_sub {K M : Nat → Option Nat} {first : Nat} {ands : List (Nat × Nat)} (h : ∀ n, (K n).isSome → (M n).isSome) : ∀ n, (tab K first ands n).isSome → (tab M first ands n).isSome := by
  intro n
  induction n using Nat.strongRecOn with
  | ind n ih =>
    intro hk
    cases hM : M n with
    | some v => rw [tab_known hM]; rfl
    | none =>
      have hK : K n = none := by
        cases hK : K n with
        | none => rfl
        | some v => have := h n (by rw [hK]; rfl); rw [hM] at this; cases this
      by_cases hn : n < first
      · rw [tab_low hK hn] at hk; cases hk
      · cases hg : ands[n - first]? with
        | none => rw [tab, hK] at hk; simp [hn, hg] at hk
        | some p =>
          obtain ⟨a, b⟩ := p
          by_cases hab : a / 2 < n ∧ b / 2 < n
          · rw [tab_gate hK hn hg hab.1 hab.2] at hk
            rw [tab_gate hM hn hg hab.1 hab.2]
            cases ha : tab K first ands (a / 2) with
            | none => rw [ha] at hk; cases hk
            | some x =>
              cases hb : tab K first ands (b / 2) with
              | none => rw [ha, hb] at hk; cases hk
              | some y =>
                have h1 := ih _ hab.1 (by rw [ha]; rfl)
                have h2 := ih _ hab.2 (by rw [hb]; rfl)
                obtain ⟨x', hx'⟩ := Option.isSome_iff_exists.1 h1
                obtain ⟨y', hy'⟩ := Option.isSome_iff_exists.1 h2
                rw [hx', hy']; rfl
          · rw [tab, hK] at hk; simp [hn, hg, hab] at hk
/-- what holds of all that is known, and of gates' values, holds of all -/
theorem tab_inv (Q : Nat → Nat → Prop) {K : Nat → Option Nat} {first : Nat} {ands : List (Nat × Nat)} (hK : ∀ n v, K n = some v → Q n v)
    (hg : ∀ i a b x y, ands[i]? = some (a, b) → Q (a / 2) x → Q (b / 2) y → Q (first + i) (lit x a &&& lit y b)) : ∀ n v, tab K first ands n = some v → Q n v := by
  intro n
  induction n using Nat.strongRecOn with
  | ind n ih =>
    intro v hv
    cases hk : K n with
    | some u => rw [tab_known hk] at hv; cases hv; exact hK n _ hk
    | none =>
      by_cases hn : n < first
      · rw [tab_low hk hn] at hv; cases hv
      · cases hgs : ands[n - first]? with
        | none => rw [tab, hk] at hv; simp [hn, hgs] at hv
        | some p =>
          obtain ⟨a, b⟩ := p
          by_cases hab : a / 2 < n ∧ b / 2 < n
          · rw [tab_gate hk hn hgs hab.1 hab.2] at hv
            cases ha : tab K first ands (a / 2) with
            | none => rw [ha] at hv; cases hv
            | some x =>
              cases hb : tab K first ands (b / 2) with
              | none => rw [ha, hb] at hv; cases hv
              | some y =>
                rw [ha, hb] at hv
                cases hv
                have := hg _ a b x y hgs (ih _ hab.1 x ha) (ih _ hab.2 y hb)
                rwa [show first + (n - first) = n by omega] at this
          · rw [tab, hk] at hv; simp [hn, hgs, hab] at hv
/-- what is known only behind a node does not matter to it -/
theorem tab_below {K M : Nat → Option Nat} {first : Nat} {ands : List (Nat × Nat)} (N : Nat) (h : ∀ n, n < N → K n = M n) : ∀ n, n < N → tab K first ands n = tab M first ands n := by
  intro n
  induction n using Nat.strongRecOn with
  | ind n ih =>
    intro hN
    have hKM := h n hN
    cases hM : M n with
    | some v => rw [tab_known hM, tab_known (hKM.trans hM)]
    | none =>
      have hK := hKM.trans hM
      by_cases hn : n < first
      · rw [tab_low hM hn, tab_low hK hn]
      · cases hg : ands[n - first]? with
        | none => rw [tab, tab, hM, hK]; simp [hn, hg]
        | some p =>
          obtain ⟨a, b⟩ := p
          by_cases hab : a / 2 < n ∧ b / 2 < n
          · rw [tab_gate hM hn hg hab.1 hab.2, tab_gate hK hn hg hab.1 hab.2, ih _ hab.1 (by omega), ih _ hab.2 (by omega)]
          · rw [tab, tab, hM, hK]; simp [hn, hg, hab]
theorem col_bit : ∀ i, i < 6 → ∀ r, r < 64 → (col i).testBit r = decide (r / 2 ^ i % 2 = 1) := by decide +kernel
theorem ones_bit : ∀ r, r < 64 → ones.testBit r = true := by decide +kernel
theorem lit_bit {x a r : Nat} (hr : r < 64) : (lit x a).testBit r = (x.testBit r != decide (a % 2 = 1)) := by
  unfold lit
  split
  · rename_i h; rw [Nat.testBit_xor, ones_bit r hr]; simp [h]
  · rename_i h; simp [h]
theorem knownTo_inv (Q : Nat → Nat → Prop) (l : List Int) (f : Nat → Nat) (h0 : Q 0 0) : ∀ k, (∀ i, i < k → Q (l.getD i 0).toNat (f i)) → ∀ n v, knownTo l f k n = some v → Q n v
  | 0, _, n, v, h => by
    simp only [knownTo] at h
    split at h
    · cases h; rename_i hn; subst hn; exact h0
    · cases h
  | k + 1, hk, n, v, h => by
    simp only [knownTo, upd] at h
    split at h
    · cases h; rename_i hn; subst hn; exact hk k (by omega)
    · exact knownTo_inv Q l f h0 k (fun i hi => hk i (by omega)) n v h
theorem knownTo_some (l : List Int) (f : Nat → Nat) (n : Nat) : ∀ k, (knownTo l f k n).isSome = true ↔ n = 0 ∨ ∃ i, i < k ∧ (l.getD i 0).toNat = n
  | 0 => by simp only [knownTo]; split <;> simp_all
  | k + 1 => by
    have ih := knownTo_some l f n k
    simp only [knownTo, upd]
    split
    · rename_i hn
      exact ⟨fun _ => .inr ⟨k, by omega, hn.symm⟩, fun _ => rfl⟩
    · rename_i hn
      rw [ih]
      constructor
      · rintro (h | ⟨i, hi, he⟩)
        · exact .inl h
        · exact .inr ⟨i, by omega, he⟩
      · rintro (h | ⟨i, hi, he⟩)
        · exact .inl h
        · rcases Nat.lt_or_ge i k with h | h
          · exact .inr ⟨i, h, he⟩
          · obtain rfl : i = k := by omega
            exact absurd he.symm hn
theorem known_some (l : List Int) (f : Nat → Nat) (n : Nat) : (known l f n).isSome = true ↔ n = 0 ∨ ∃ x, x ∈ l ∧ x.toNat = n := by
  unfold known
  rw [knownTo_some]
  constructor
  · rintro (h | ⟨i, hi, he⟩)
    · exact .inl h
    · exact .inr ⟨_, getD_mem hi, he⟩
  · rintro (h | ⟨x, hx, he⟩)
    · exact .inl h
    · obtain ⟨i, hi, hxi⟩ := List.getElem_of_mem hx
      exact .inr ⟨i, hi, by rw [List.getD_eq_getElem?_getD, List.getElem?_eq_getElem hi]; simpa [hxi] using he⟩
end Cut
/-- nodes' values, of gates -/
structure AG.Val (G : AG) (ev : Nat → Bool) : Prop where
  zero : ev 0 = false
  gate : ∀ i a b, G.ands[i]? = some (a, b) → ev (G.fst + i) = ((ev (a / 2) != decide (a % 2 = 1)) && (ev (b / 2) != decide (b % 2 = 1)))
/-- a table tells, in its leaves' row, what the node is -/
theorem AG.tabG_means {G : AG} {ev : Nat → Bool} (hv : G.Val ev) {l : List Int} (hl : l.length ≤ 6) {r : Nat} (hr : r < 64) (hrow : ∀ i, i < l.length → decide (r / 2 ^ i % 2 = 1) = ev (l.getD i 0).toNat) {n v : Nat} (h : G.tabG l n = some v) : v.testBit r = ev n := by
  refine Cut.tab_inv (fun n v => v.testBit r = ev n) ?_ ?_ n v h
  · refine Cut.knownTo_inv (fun n v => v.testBit r = ev n) l Cut.col (by simp [hv.zero]) l.length fun i hi => ?_
    rw [Cut.col_bit i (by omega) r hr]
    exact hrow i hi
  · intro i a b x y hg hx hy
    rw [Nat.testBit_and, Cut.lit_bit hr, Cut.lit_bit hr, hx, hy, hv.gate i a b hg]
theorem rows_bit (m r : Nat) : (Cut.rows m).testBit r = decide (r < 2 ^ m) := by
  unfold Cut.rows
  exact Nat.testBit_two_pow_sub_one _ _
theorem AG.table_means {G : AG} {ev : Nat → Bool} (hv : G.Val ev) {l : List Int} (hl : l.length ≤ 6) {r : Nat} (hrl : r < 2 ^ l.length) (hrow : ∀ i, i < l.length → decide (r / 2 ^ i % 2 = 1) = ev (l.getD i 0).toNat) {n v : Nat} (h : G.table l n = some v) : v.testBit r = ev n := by
  have hr : r < 64 := by
    have : 2 ^ l.length ≤ 2 ^ 6 := Nat.pow_le_pow_right (by omega) hl
    omega
  unfold AG.table at h
  cases ht : G.tabG l n with
  | none => rw [ht] at h; cases h
  | some u =>
    rw [ht] at h
    cases h
    rw [Nat.testBit_and, G.tabG_means hv hl hr hrow ht, rows_bit]
    simp [hrl]
/-- rows are again what they were -/
def Per (m v : Nat) : Prop := ∀ r, r < 2 ^ m → r + 2 ^ m < 64 → v.testBit (r + 2 ^ m) = v.testBit r
theorem col_per : ∀ m, m < 6 → ∀ i, i < m → ∀ r, r < 2 ^ m → (Cut.col i).testBit (r + 2 ^ m) = (Cut.col i).testBit r := by decide +kernel
theorem AG.tabG_per (G : AG) {l : List Int} (hl : l.length ≤ 5) {n v : Nat} (h : G.tabG l n = some v) : Per l.length v := by
  refine Cut.tab_inv (fun _ v => Per l.length v) ?_ ?_ n v h
  · refine Cut.knownTo_inv (fun _ v => Per l.length v) l Cut.col (by intro r _ _; simp) l.length fun i hi => ?_
    intro r h1 h2
    exact col_per _ (by omega) i hi r h1
  · intro i a b x y hg hx hy r h1 h2
    rw [Nat.testBit_and, Nat.testBit_and, Cut.lit_bit h2, Cut.lit_bit h2, Cut.lit_bit (by omega), Cut.lit_bit (by omega), hx r h1 h2, hy r h1 h2]
/-- a leaf more, behind a node: its table is twice what it was -/
theorem AG.table_more (G : AG) {l : List Int} (hl : l.length ≤ 5) {n t : Nat} {z : Int} (hz : n < z.toNat) (h : G.table l n = some t) : G.table (l ++ [z]) n = some (t ||| t <<< 2 ^ l.length) ∧ t < 2 ^ 2 ^ l.length := by
  unfold AG.table at h ⊢
  have e : G.tabG (l ++ [z]) n = G.tabG l n := by
    refine Cut.tab_below (n + 1) (fun k hk => ?_) n (by omega)
    unfold Cut.known
    rw [List.length_append, List.length_singleton, Cut.knownTo, Cut.upd, if_neg (by simp; omega)]
    have : ∀ j, j ≤ l.length → Cut.knownTo (l ++ [z]) Cut.col j k = Cut.knownTo l Cut.col j k := by
      intro j
      induction j with
      | zero => intro _; rfl
      | succ j ih =>
        intro hj
        simp only [Cut.knownTo, Cut.upd, ih (by omega), getD_left l [z] 0 (show j < l.length by omega)]
    exact this _ (Nat.le_refl _)
  cases ht : G.tabG l n with
  | none => rw [ht] at h; cases h
  | some v =>
    rw [ht] at h
    cases h
    rw [e, ht]
    have hp := G.tabG_per hl ht
    have hm : 2 ^ l.length ≤ 32 := by
      have : 2 ^ l.length ≤ 2 ^ 5 := Nat.pow_le_pow_right (by omega) hl
      omega
    have hv64 : v < 2 ^ 64 := tabG_lt G l n v ht
    refine ⟨congrArg some (Nat.eq_of_testBit_eq fun r => ?_), ?_⟩
    · simp only [Nat.testBit_and, Nat.testBit_or, Nat.testBit_shiftLeft, rows_bit, List.length_append, List.length_singleton, Nat.pow_succ]
      unfold Per at hp
      obtain ⟨M, hM⟩ : ∃ M, 2 ^ l.length = M := ⟨_, rfl⟩
      simp only [hM] at hm hp ⊢
      rcases Nat.lt_or_ge r M with h1 | h1
      · simp [h1, show r < M * 2 by omega, show ¬ M ≤ r by omega]
      · rcases Nat.lt_or_ge r (M * 2) with h2 | h2
        · have := hp (r - M) (by omega) (by omega)
          rw [show r - M + M = r by omega] at this
          simp [h1, h2, show ¬ r < M by omega, show r - M < M by omega, this]
        · simp [h1, show ¬ r < M by omega, show ¬ r < M * 2 by omega, show ¬ r - M < M by omega]
    · have h1 : v &&& Cut.rows l.length ≤ Cut.rows l.length := Nat.and_le_right
      have h2 : 0 < 2 ^ 2 ^ l.length := Nat.pow_pos (by omega)
      show v &&& Cut.rows l.length < _
      unfold Cut.rows at h1 ⊢
      omega
/-- a node by itself is itself -/
theorem AG.table_self (G : AG) {n : Nat} (h : 0 < n) : G.table [(n : Int)] n = some 2 := by
  have hk : Cut.known [(n : Int)] Cut.col n = some (Cut.col 0) := by
    simp [Cut.known, Cut.knownTo, Cut.upd]
  unfold AG.table AG.tabG
  rw [Cut.tab_known hk]
  simp only [Option.map_some, List.length_singleton]
  decide +kernel
theorem AG.table_zero (G : AG) : G.table [] 0 = some 0 := by
  have hk : Cut.known [] Cut.col 0 = some 0 := by simp [Cut.known, Cut.knownTo]
  unfold AG.table AG.tabG
  rw [Cut.tab_known hk]
  rfl
/-- a gate by its two nodes -/
theorem AG.table_two {G : AG} {i a b : Nat} (hg : G.ands[i]? = some (a, b)) (ha : a / 2 < G.fst + i) (hb : b / 2 < G.fst + i) {u v : Nat} (hu : 0 < u) (huv : u < v) (hab : (a / 2 = u ∧ b / 2 = v) ∨ (a / 2 = v ∧ b / 2 = u)) (hf : 0 < G.fst) :
    G.table [(u : Int), (v : Int)] (G.fst + i) = some (Cut.lit (if a / 2 = u then Cut.col 0 else Cut.col 1) a &&& Cut.lit (if b / 2 = u then Cut.col 0 else Cut.col 1) b &&& Cut.rows 2) := by
  have k0 : Cut.known [(u : Int), (v : Int)] Cut.col u = some (Cut.col 0) := by
    simp [Cut.known, Cut.knownTo, Cut.upd, show ¬ u = v by omega]
  have k1 : Cut.known [(u : Int), (v : Int)] Cut.col v = some (Cut.col 1) := by
    simp [Cut.known, Cut.knownTo, Cut.upd]
  have kx : Cut.known [(u : Int), (v : Int)] Cut.col (G.fst + i) = none := by
    simp only [Cut.known, Cut.knownTo, Cut.upd, List.length_cons, List.length_nil]
    rcases hab with ⟨h1, h2⟩ | ⟨h1, h2⟩
    · rw [if_neg (by simp; omega), if_neg (by simp; omega), if_neg (by omega)]
    · rw [if_neg (by simp; omega), if_neg (by simp; omega), if_neg (by omega)]
  unfold AG.table AG.tabG
  rw [Cut.tab_gate kx (by omega) (by rw [Nat.add_sub_cancel_left]; exact hg) ha hb]
  rcases hab with ⟨h1, h2⟩ | ⟨h1, h2⟩
  · rw [h1, h2, Cut.tab_known k0, Cut.tab_known k1]
    simp only [Option.map_some, if_true, if_neg (show ¬ v = u by omega), List.length_cons, List.length_nil]
  · rw [h1, h2, Cut.tab_known k0, Cut.tab_known k1]
    simp only [Option.map_some, if_true, if_neg (show ¬ v = u by omega), List.length_cons, List.length_nil]
theorem and_case : ∀ p q : Bool, Cut.lit (Cut.col 0) (if p then 1 else 0) &&& Cut.lit (Cut.col 1) (if q then 1 else 0) &&& Cut.rows 2 = 2 ^ (3 - (if p then 1 else 0) - (if q then 2 else 0)) := by decide +kernel
theorem lit_par (x a : Nat) : Cut.lit x a = Cut.lit x (if a % 2 = 1 then 1 else 0) := by
  unfold Cut.lit
  rcases Nat.mod_two_eq_zero_or_one a with h | h <;> simp [h]
/-- the table of a gate by its two: of the literals in order -/
theorem AG.table_own {G : AG} {i a b x y : Nat} (hg : G.ands[i]? = some (a, b)) (ha : a / 2 < G.fst + i) (hb : b / 2 < G.fst + i) (hf : 0 < G.fst) (hx : x = min a b) (hy : y = max a b) (hne : x / 2 ≠ y / 2) (h2 : 2 ≤ x) :
    G.table [((x / 2 : Nat) : Int), ((y / 2 : Nat) : Int)] (G.fst + i) = some (2 ^ (3 - (if x % 2 = 1 then 1 else 0) - (if y % 2 = 1 then 2 else 0))) := by
  have key : ∀ p q : Nat, Cut.lit (Cut.col 0) p &&& Cut.lit (Cut.col 1) q &&& Cut.rows 2 = 2 ^ (3 - (if p % 2 = 1 then 1 else 0) - (if q % 2 = 1 then 2 else 0)) := fun p q => by
    rw [lit_par _ p, lit_par _ q]
    have := and_case (decide (p % 2 = 1)) (decide (q % 2 = 1))
    simpa using this
  rcases Nat.lt_or_ge b a with h | h
  · obtain rfl : x = b := by omega
    obtain rfl : y = a := by omega
    rw [G.table_two hg ha hb (u := x / 2) (v := y / 2) (by omega) (by omega) (.inr ⟨rfl, rfl⟩) hf]
    rw [if_neg (by omega), if_pos rfl, Nat.and_comm (Cut.lit (Cut.col 1) y), key]
  · obtain rfl : x = a := by omega
    obtain rfl : y = b := by omega
    rw [G.table_two hg ha hb (u := x / 2) (v := y / 2) (by omega) (by omega) (.inl ⟨rfl, rfl⟩) hf]
    rw [if_pos rfl, if_neg (by omega), key]
/-! ## Rows of all nodes -/
theorem AG.bothTo_pre (G : AG) (k : Int) {y : Nat} : ∀ x, y ≤ x → ∀ j, j ≤ y → (G.bothTo k x).1.getD j [] = (G.bothTo k y).1.getD j [] ∧ (G.bothTo k x).2.getD j 0 = (G.bothTo k y).2.getD j 0
  | 0, hy, j, hj => by obtain rfl : y = 0 := by omega
                       exact ⟨rfl, rfl⟩
  | x + 1, hy, j, hj => by
    rcases Nat.lt_or_ge y (x + 1) with h | h
    · have ih := G.bothTo_pre k x (by omega) j hj
      have hl := G.bothTo_len k x
      rw [← ih.1, ← ih.2]
      simp only [AG.bothTo]
      exact ⟨getD_left _ _ _ (by rw [hl.1]; omega), getD_left _ _ _ (by rw [hl.2]; omega)⟩
    · obtain rfl : y = x + 1 := by omega
      exact ⟨rfl, rfl⟩
theorem AG.bothTo_at (G : AG) (k : Int) {x y : Nat} (h : y + 1 ≤ x) : (G.bothTo k x).1.getD (y + 1) [] = (G.cutRow k (G.bothTo k y).1 (G.bothTo k y).2 (y + 1)).1 ∧ (G.bothTo k x).2.getD (y + 1) 0 = (G.cutRow k (G.bothTo k y).1 (G.bothTo k y).2 (y + 1)).2 := by
  have h1 := G.bothTo_pre k x h (y + 1) (Nat.le_refl _)
  have hl := G.bothTo_len k y
  rw [h1.1, h1.2]
  simp only [AG.bothTo]
  constructor
  · rw [List.getD_eq_getElem?_getD, List.getElem?_append_right (by omega), hl.1, Nat.sub_self]; rfl
  · rw [List.getD_eq_getElem?_getD, List.getElem?_append_right (by omega), hl.2, Nat.sub_self]; rfl
/-- the row, and the depth, of a node -/
noncomputable def AG.rowAt (G : AG) (k : Int) (j : Nat) : List PC := (G.bothTo k j).1.getD j []
noncomputable def AG.depAt (G : AG) (k : Int) (j : Nat) : Int := (G.bothTo k j).2.getD j 0
theorem AG.rowAt_eq (G : AG) (k : Int) {x j : Nat} (h : j ≤ x) : (G.bothTo k x).1.getD j [] = G.rowAt k j := (G.bothTo_pre k x h j (Nat.le_refl _)).1
theorem AG.depAt_eq (G : AG) (k : Int) {x j : Nat} (h : j ≤ x) : (G.bothTo k x).2.getD j 0 = G.depAt k j := (G.bothTo_pre k x h j (Nat.le_refl _)).2
theorem AG.rowAt_zero (G : AG) (k : Int) : G.rowAt k 0 = [([], 0)] ∧ G.depAt k 0 = 0 := ⟨rfl, rfl⟩
theorem AG.rowAt_low (G : AG) (k : Int) {j : Nat} (h0 : 0 < j) (h : j < G.fst) : G.rowAt k j = [([(j : Int)], 2)] ∧ G.depAt k j = 0 := by
  obtain ⟨y, rfl⟩ : ∃ y, j = y + 1 := ⟨j - 1, by omega⟩
  have h1 := G.bothTo_at k (Nat.le_refl (y + 1))
  unfold AG.rowAt AG.depAt
  rw [h1.1, h1.2]
  unfold AG.cutRow
  rw [if_pos h]
  exact ⟨rfl, rfl⟩
/-- the sets of a gate -/
noncomputable def AG.setsOf (G : AG) (k : Int) (j a b : Nat) : List (List Int) := Cut.gate (G.bothTo k (j - 1)).2 ((G.rowAt k (a / 2)).map (·.1)) ((G.rowAt k (b / 2)).map (·.1)) k
theorem AG.rowAt_gate (G : AG) (k : Int) {i a b : Nat} (hf : 0 < G.fst) (hg : G.ands[i]? = some (a, b)) (ha : a / 2 < G.fst + i) (hb : b / 2 < G.fst + i) :
    G.rowAt k (G.fst + i) = (G.setsOf k (G.fst + i) a b).map (fun l => (l, optV (G.good l ((G.fst + i : Nat) : Int)))) ++ [([((G.fst + i : Nat) : Int)], 2)] ∧
    G.depAt k (G.fst + i) = Cut.deep (G.bothTo k (G.fst + i - 1)).2 ((G.setsOf k (G.fst + i) a b).headD []) := by
  obtain ⟨y, hy⟩ : ∃ y, G.fst + i = y + 1 := ⟨G.fst + i - 1, by omega⟩
  have hp : G.ands.getD (y + 1 - G.fst) (0, 0) = (a, b) := by
    rw [show y + 1 - G.fst = i by omega, List.getD_eq_getElem?_getD, hg]; rfl
  rw [hy] at ha hb ⊢
  have h1 := G.bothTo_at k (Nat.le_refl (y + 1))
  unfold AG.setsOf
  rw [Nat.add_sub_cancel, ← G.rowAt_eq k (x := y) (show a / 2 ≤ y by omega), ← G.rowAt_eq k (x := y) (show b / 2 ≤ y by omega)]
  rw [show G.rowAt k (y + 1) = _ from h1.1, show G.depAt k (y + 1) = _ from h1.2]
  unfold AG.cutRow
  rw [if_neg (by omega)]
  simp only [hp]
  exact ⟨trivial, trivial⟩
theorem AG.fst_pos (G : AG) : 0 < G.fst := by unfold AG.fst; omega
theorem AG.rowOk {G : AG} {k : Int} (hm : G.ok ∧ 2 ≤ k ∧ k ≤ 6) {j : Nat} (hj : j < G.cn) : RowOk k j (G.rowAt k j) :=
  (AG.bothTo_ok hm.2 hm.1 j hj).row j (Nat.le_refl _)
theorem leaves_ok {G : AG} (hok : G.ok) {j : Nat} (hj : j < G.cn) {l : List Int} (h1 : NodesIn (j + 1) l) (h2 : Cut.Rises l) (h3 : l.length ≤ 6) (h4 : ∀ z ∈ l, 1 ≤ z) : leavesB G.cnt l = true := by
  have hc := hok.cnt
  simp only [leavesB, Bool.and_eq_true, Bool.or_eq_true, decide_eq_true_eq]
  refine ⟨⟨h3, h2⟩, ?_⟩
  rcases Nat.eq_zero_or_pos l.length with h0 | h0
  · exact .inl h0
  · refine .inr ⟨h4 _ (getD_mem h0), ?_⟩
    have := (h1 _ (getD_mem (show l.length - 1 < l.length by omega))).2
    omega
theorem AG.good_of {G : AG} (hok : G.ok) {j : Nat} (hj : j < G.cn) {l : List Int} (h1 : NodesIn (j + 1) l) (h2 : Cut.Rises l) (h3 : l.length ≤ 6) (h4 : ∀ z ∈ l, 1 ≤ z) : G.good l (j : Int) = G.table l j := by
  have hc := hok.cnt
  rw [AG.good_yes ⟨hok, by omega, by omega, leaves_ok hok hj h1 h2 h3 h4⟩]
  rfl
theorem AG.mem_sets {G : AG} {k : Int} {j a b : Nat} {l : List Int} (h : l ∈ G.setsOf k j a b) : ∃ c ∈ G.rowAt k (a / 2), ∃ e ∈ G.rowAt k (b / 2), Cut.merge c.1 e.1 k = some l := by
  obtain ⟨p, hp, hm⟩ := mem_gate h
  obtain ⟨h1, h2⟩ := pairs_mem hp
  obtain ⟨c, hc, e1⟩ := List.mem_map.1 h1
  obtain ⟨e, he, e2⟩ := List.mem_map.1 h2
  exact ⟨c, hc, e, he, by rw [e1, e2]; exact hm⟩
theorem merge_sup {a b l : List Int} {k : Int} (h : Cut.merge a b k = some l) : (∀ z ∈ a, z ∈ l) ∧ ∀ z ∈ b, z ∈ l := by
  obtain ⟨rfl, -⟩ := Cut.merge_mem h
  exact ⟨fun z hz => (Cut.mem_mrg a b z).2 (.inl hz), fun z hz => (Cut.mem_mrg a b z).2 (.inr hz)⟩
theorem AG.tabG_sub {G : AG} {l m : List Int} (h : ∀ z ∈ l, z ∈ m) {n : Nat} (hs : (G.tabG l n).isSome) : (G.tabG m n).isSome := by
  refine Cut.tab_sub (fun n hn => ?_) n hs
  rw [Cut.known_some] at hn ⊢
  rcases hn with h0 | ⟨x, hx, e⟩
  · exact .inl h0
  · exact .inr ⟨x, h x hx, e⟩
/-- each cut is one -/
theorem AG.cut_is {G : AG} {k : Int} (hm : G.ok ∧ 2 ≤ k ∧ k ≤ 6) : ∀ j, j < G.cn → ∀ c ∈ G.rowAt k j, (G.tabG c.1 j).isSome ∧ G.good c.1 (j : Int) = some c.2 := by
  intro j
  induction j using Nat.strongRecOn with
  | ind j ih =>
    intro hj c hc
    have hlv := (AG.rowOk hm hj).lv c hc
    have hgd := AG.good_of hm.1 hj hlv.1 hlv.2.1 hlv.2.2.1 hlv.2.2.2.2
    have hself : 0 < j → c = ([(j : Int)], 2) → (G.tabG c.1 j).isSome ∧ G.good c.1 (j : Int) = some c.2 := fun hp he => by
      have ht := G.table_self hp
      rw [hgd]
      subst he
      refine ⟨?_, ht⟩
      unfold AG.table at ht
      cases h : G.tabG [(j : Int)] j with
      | none => rw [h] at ht; cases ht
      | some v => rfl
    rcases Nat.eq_zero_or_pos j with rfl | hp
    · rw [hgd]
      rw [(G.rowAt_zero k).1, List.mem_singleton] at hc
      subst hc
      refine ⟨?_, G.table_zero⟩
      have ht := G.table_zero
      unfold AG.table at ht
      cases h : G.tabG [] 0 with
      | none => rw [h] at ht; cases ht
      | some v => rfl
    · by_cases hlow : j < G.fst
      · rw [(G.rowAt_low k hp hlow).1, List.mem_singleton] at hc
        exact hself hp hc
      · obtain ⟨i, rfl⟩ : ∃ i, j = G.fst + i := ⟨j - G.fst, by omega⟩
        have hia : i < G.an.length := by have : G.cn = G.fst + G.an.length := rfl; omega
        obtain ⟨a, b, hg, hgs, ha, hb, -, -⟩ := hm.1.gate hia
        rw [(G.rowAt_gate k G.fst_pos hgs ha hb).1] at hc
        rcases List.mem_append.1 hc with hc | hc
        · obtain ⟨l, hl, rfl⟩ := List.mem_map.1 hc
          obtain ⟨c, hc1, e, he1, hmg⟩ := AG.mem_sets hl
          obtain ⟨s1, s2⟩ := merge_sup hmg
          have t1 := AG.tabG_sub s1 (ih _ ha (by omega) c hc1).1
          have t2 := AG.tabG_sub s2 (ih _ hb (by omega) e he1).1
          have hs : (G.tabG l (G.fst + i)).isSome := by
            unfold AG.tabG at t1 t2 ⊢
            cases hk : Cut.known l Cut.col (G.fst + i) with
            | some v => rw [Cut.tab_known hk]; rfl
            | none =>
              rw [Cut.tab_gate hk (by omega) (by rw [Nat.add_sub_cancel_left]; exact hgs) ha hb]
              obtain ⟨x, hx⟩ := Option.isSome_iff_exists.1 t1
              obtain ⟨y, hy⟩ := Option.isSome_iff_exists.1 t2
              rw [hx, hy]; rfl
          refine ⟨hs, ?_⟩
          obtain ⟨v, hv⟩ := Option.isSome_iff_exists.1 hs
          simp only at hgd ⊢
          rw [hgd]
          unfold AG.table
          rw [hv]
          rfl
        · exact hself hp (by simpa using hc)
/-- no two cuts of a node have the same leaves -/
theorem AG.row_nodup {G : AG} {k : Int} (hm : G.ok ∧ 2 ≤ k ∧ k ≤ 6) {j : Nat} (hj : j < G.cn) : ((G.rowAt k j).map (·.1)).Nodup := by
  rcases Nat.eq_zero_or_pos j with rfl | hp
  · rw [(G.rowAt_zero k).1]; simp
  · by_cases hlow : j < G.fst
    · rw [(G.rowAt_low k hp hlow).1]; simp
    · obtain ⟨i, rfl⟩ : ∃ i, j = G.fst + i := ⟨j - G.fst, by omega⟩
      have hia : i < G.an.length := by have : G.cn = G.fst + G.an.length := rfl; omega
      obtain ⟨a, b, hg, hgs, ha, hb, -, -⟩ := hm.1.gate hia
      rw [(G.rowAt_gate k G.fst_pos hgs ha hb).1]
      simp only [List.map_append, List.map_map, List.map_cons, List.map_nil]
      have e : ((fun c : PC => c.1) ∘ fun l : List Int => (l, optV (G.good l ((G.fst + i : Nat) : Int)))) = id := rfl
      rw [e, List.map_id]
      have hpw : (G.setsOf k (G.fst + i) a b).Pairwise (Cut.Lt (G.bothTo k (G.fst + i - 1)).2) :=
        List.Pairwise.sublist (List.take_sublist _ _) (Cut.fold_sorted _ k (Cut.pairs ((G.rowAt k (a / 2)).map (·.1)) ((G.rowAt k (b / 2)).map (·.1))) [] List.Pairwise.nil (fun l hl => by cases hl)).1
      rw [List.nodup_append]
      refine ⟨hpw.imp fun {x y} hxy he => ?_, by simp, fun x hx y hy he => ?_⟩
      · subst he; exact Cut.Lt.irrefl _ _ hxy
      · rw [List.mem_singleton] at hy
        subst he
        subst hy
        obtain ⟨c, hc1, e, he1, hmg⟩ := AG.mem_sets hx
        obtain ⟨-, -, -, -, hin⟩ := Cut.merge_mem hmg
        rcases hin _ (List.mem_singleton.2 rfl) with h3 | h3
        · have := (((AG.rowOk hm (show a / 2 < G.cn by omega)).lv c hc1).1 _ h3).2; omega
        · have := (((AG.rowOk hm (show b / 2 < G.cn by omega)).lv e he1).1 _ h3).2; omega
/-! ## Depths -/
theorem deepTo_congr {d e l : List Int} (h : ∀ z ∈ l, d.getD z.toNat 0 = e.getD z.toNat 0) : ∀ k, k ≤ l.length → Cut.deepTo d l k = Cut.deepTo e l k
  | 0, _ => rfl
  | k + 1, hk => by
    rw [Cut.deepTo, Cut.deepTo, deepTo_congr h k (by omega), h _ (getD_mem (by omega))]
theorem deep_congr {d e l : List Int} (h : ∀ z ∈ l, d.getD z.toNat 0 = e.getD z.toNat 0) : Cut.deep d l = Cut.deep e l := by
  unfold Cut.deep; rw [deepTo_congr h _ (Nat.le_refl _)]
theorem lt_deep {d a b : List Int} (h : Cut.Lt d a b) : Cut.deep d a ≤ Cut.deep d b := by
  unfold Cut.Lt Cut.rankOf at h
  rw [Cut.cmpL] at h
  by_cases hc : Cut.cmpI (Cut.deep d a) (Cut.deep d b) = 0
  · have := (Cut.cmpI_eq _ _).1 hc; omega
  · rw [if_pos hc] at h
    have := (Cut.cmpI_lt _ _).1 h; omega
/-- the first set is the least deep one, of all that can be made -/
theorem gate_first {d : List Int} {a b : List (List Int)} {k : Int} {y : List Int} {p : List Int × List Int} (hp : p ∈ Cut.pairs a b) (hm : Cut.merge p.1 p.2 k = some y) : Cut.deep d ((Cut.gate d a b k).headD []) ≤ Cut.deep d y := by
  obtain ⟨h1, h2⟩ := Cut.fold_sorted d k (Cut.pairs a b) [] List.Pairwise.nil (fun l hl => by cases hl)
  have hy : y ∈ (Cut.pairs a b).foldl (Cut.putM d k) [] := (h2 y).2 (.inr ⟨p, hp, hm⟩)
  unfold Cut.gate Cut.gateAll
  generalize (Cut.pairs a b).foldl (Cut.putM d k) [] = L at h1 hy
  cases L with
  | nil => cases hy
  | cons x L =>
    show Cut.deep d x ≤ _
    rcases List.mem_cons.1 hy with rfl | hy
    · exact Int.le_refl _
    · exact lt_deep (List.rel_of_pairwise_cons h1 hy)
theorem gate_least {d : List Int} {a b : List (List Int)} {k : Int} {y : List Int} (hy : y ∈ Cut.gate d a b k) : Cut.deep d ((Cut.gate d a b k).headD []) ≤ Cut.deep d y := by
  obtain ⟨p, hp, hm⟩ := mem_gate hy
  exact gate_first hp hm
theorem deep_one (d : List Int) (z : Int) : Cut.deep d [z] = max 0 (d.getD z.toNat 0) + 1 := rfl
theorem mem_deep {d : List Int} {M : Int} {l : List Int} (h0 : 0 ≤ M) (h : ∀ z ∈ l, d.getD z.toNat 0 ≤ M) : Cut.deep d l ≤ M + 1 := (deep_le h0 h).2
/-- a node's own cut, or none -/
theorem AG.own_cut {G : AG} {k : Int} (hm : G.ok ∧ 2 ≤ k ∧ k ≤ 6) {j : Nat} (hj : j < G.cn) : ∃ c ∈ G.rowAt k j, c.1.length ≤ 1 ∧ ∀ z ∈ c.1, z = (j : Int) := by
  rcases Nat.eq_zero_or_pos j with rfl | hp
  · exact ⟨([], 0), by rw [(G.rowAt_zero k).1]; simp, by simp, fun z hz => by cases hz⟩
  · exact ⟨_, List.mem_of_getElem? ((AG.rowOk hm hj).last hp), by simp, fun z hz => by simpa using hz⟩
/-- as deep as levels at most -/
theorem AG.depAt_lev {G : AG} {k : Int} (hm : G.ok ∧ 2 ≤ k ∧ k ≤ 6) {lev : Nat → Int} (h0 : ∀ j, 0 ≤ lev j) (hl : ∀ i a b, G.ands[i]? = some (a, b) → lev (G.fst + i) = max (lev (a / 2)) (lev (b / 2)) + 1) : ∀ j, j < G.cn → G.depAt k j ≤ lev j := by
  intro j
  induction j using Nat.strongRecOn with
  | ind j ih =>
    intro hj
    rcases Nat.eq_zero_or_pos j with rfl | hp
    · rw [(G.rowAt_zero k).2]; exact h0 0
    · by_cases hlow : j < G.fst
      · rw [(G.rowAt_low k hp hlow).2]; exact h0 j
      · obtain ⟨i, rfl⟩ : ∃ i, j = G.fst + i := ⟨j - G.fst, by omega⟩
        have hia : i < G.an.length := by have : G.cn = G.fst + G.an.length := rfl; omega
        obtain ⟨a, b, hg, hgs, ha, hb, -, -⟩ := hm.1.gate hia
        rw [(G.rowAt_gate k G.fst_pos hgs ha hb).2, hl i a b hgs]
        obtain ⟨c, hc, hc1, hc2⟩ := AG.own_cut hm (show a / 2 < G.cn by omega)
        obtain ⟨e, he, he1, he2⟩ := AG.own_cut hm (show b / 2 < G.cn by omega)
        obtain ⟨z, hz⟩ := merge_ones hm.2 c.1 e.1 hc1 he1
        have hp : (c.1, e.1) ∈ Cut.pairs ((G.rowAt k (a / 2)).map (·.1)) ((G.rowAt k (b / 2)).map (·.1)) := by
          unfold Cut.pairs
          exact List.mem_flatMap.2 ⟨c.1, List.mem_map.2 ⟨c, hc, rfl⟩, List.mem_map.2 ⟨e.1, List.mem_map.2 ⟨e, he, rfl⟩, rfl⟩⟩
        have h1 := gate_first (d := (G.bothTo k (G.fst + i - 1)).2) hp hz
        unfold AG.setsOf
        refine Int.le_trans h1 (mem_deep (by have := h0 (a / 2); omega) fun y hy => ?_)
        obtain ⟨-, -, -, -, hin⟩ := Cut.merge_mem hz
        rcases hin y hy with h3 | h3
        · obtain rfl := hc2 y h3
          rw [show ((a / 2 : Nat) : Int).toNat = a / 2 by omega, G.depAt_eq k (show a / 2 ≤ G.fst + i - 1 by omega)]
          have := ih _ ha (by omega)
          omega
        · obtain rfl := he2 y h3
          rw [show ((b / 2 : Nat) : Int).toNat = b / 2 by omega, G.depAt_eq k (show b / 2 ≤ G.fst + i - 1 by omega)]
          have := ih _ hb (by omega)
          omega
/-- of a gate: as deep as its first set, none of them less deep -/
theorem AG.row_deep {G : AG} {k : Int} (hm : G.ok ∧ 2 ≤ k ∧ k ≤ 6) {j : Nat} (hj : j < G.cn) (hlow : G.fst ≤ j) {d : List Int} (hd : ∀ z, z < j → d.getD z 0 = G.depAt k z) :
    2 ≤ (G.rowAt k j).length ∧ 1 ≤ G.depAt k j ∧ (∀ i, i + 1 < (G.rowAt k j).length → G.depAt k j ≤ Cut.deep d ((G.rowAt k j).getD i ([], 0)).1 ∧ (i = 0 → Cut.deep d ((G.rowAt k j).getD i ([], 0)).1 = G.depAt k j)) := by
  obtain ⟨i, rfl⟩ : ∃ i, j = G.fst + i := ⟨j - G.fst, by omega⟩
  have hia : i < G.an.length := by have : G.cn = G.fst + G.an.length := rfl; omega
  obtain ⟨a, b, hg, hgs, ha, hb, -, -⟩ := hm.1.gate hia
  obtain ⟨hr, hdp⟩ := G.rowAt_gate k G.fst_pos hgs ha hb
  have hne : G.setsOf k (G.fst + i) a b ≠ [] := by
    have hbk := AG.bothTo_ok hm.2 hm.1 (G.fst + i - 1) (by omega)
    have := gate_ne hm.2 hbk (a := a / 2) (b := b / 2) (by omega) (by omega) (G.bothTo k (G.fst + i - 1)).2
    rwa [G.rowAt_eq k (show a / 2 ≤ G.fst + i - 1 by omega), G.rowAt_eq k (show b / 2 ≤ G.fst + i - 1 by omega)] at this
  have hlen : 1 ≤ (G.setsOf k (G.fst + i) a b).length := List.length_pos_iff.2 hne
  have hsame : ∀ l ∈ G.setsOf k (G.fst + i) a b, Cut.deep d l = Cut.deep (G.bothTo k (G.fst + i - 1)).2 l := fun l hl => by
    refine deep_congr fun z hz => ?_
    obtain ⟨c, hc1, e, he1, hmg⟩ := AG.mem_sets hl
    obtain ⟨-, -, -, -, hin⟩ := Cut.merge_mem hmg
    have hzb : 0 ≤ z ∧ z.toNat < G.fst + i := by
      rcases hin z hz with h3 | h3
      · have := ((AG.rowOk hm (show a / 2 < G.cn by omega)).lv c hc1).1 _ h3; omega
      · have := ((AG.rowOk hm (show b / 2 < G.cn by omega)).lv e he1).1 _ h3; omega
    rw [hd _ hzb.2, G.depAt_eq k (show z.toNat ≤ G.fst + i - 1 by omega)]
  rw [hdp, hr]
  refine ⟨by simp; omega, ?_, fun q hq => ?_⟩
  · have := (deep_le (d := (G.bothTo k (G.fst + i - 1)).2) (l := (G.setsOf k (G.fst + i) a b).headD []) (M := ((G.fst + i : Nat) : Int)) (by omega) (fun z hz => ?_)).1
    · exact this
    · have hhd : (G.setsOf k (G.fst + i) a b).headD [] ∈ G.setsOf k (G.fst + i) a b := by
        cases hs : G.setsOf k (G.fst + i) a b with
        | nil => exact absurd hs hne
        | cons x L => simp
      obtain ⟨c, hc1, e, he1, hmg⟩ := AG.mem_sets hhd
      obtain ⟨-, -, -, -, hin⟩ := Cut.merge_mem hmg
      have hzb : 0 ≤ z ∧ z.toNat < G.fst + i := by
        rcases hin z hz with h3 | h3
        · have := ((AG.rowOk hm (show a / 2 < G.cn by omega)).lv c hc1).1 _ h3; omega
        · have := ((AG.rowOk hm (show b / 2 < G.cn by omega)).lv e he1).1 _ h3; omega
      have hbk := AG.bothTo_ok hm.2 hm.1 (G.fst + i - 1) (by omega)
      have := (hbk.dep z.toNat (by omega)).2
      omega
  · simp only [List.length_append, List.length_map, List.length_singleton] at hq
    have hq' : q < (G.setsOf k (G.fst + i) a b).length := by omega
    have hel : (((G.setsOf k (G.fst + i) a b).map (fun l => (l, optV (G.good l ((G.fst + i : Nat) : Int)))) ++ [([((G.fst + i : Nat) : Int)], 2)]).getD q ([], 0)).1 = (G.setsOf k (G.fst + i) a b)[q] := by
      rw [getD_left _ _ _ (by simpa using hq'), List.getD_eq_getElem?_getD]
      simp [hq']
    rw [hel, hsame _ (List.getElem_mem hq')]
    refine ⟨gate_least (List.getElem_mem hq'), fun h0 => ?_⟩
    subst h0
    have hh : ∀ (L : List (List Int)) (h : 0 < L.length), L[0] = L.headD [] := fun L h => by cases L with
      | nil => simp at h
      | cons x L => rfl
    rw [hh _ hq']
theorem AG.dep_low {G : AG} {k : Int} {j : Nat} (h : j < G.fst) : G.depAt k j = 0 := by
  rcases Nat.eq_zero_or_pos j with rfl | hp
  · exact (G.rowAt_zero k).2
  · exact (G.rowAt_low k hp h).2
end Go.Proofs.YtkhlllbceceikaaDoor
