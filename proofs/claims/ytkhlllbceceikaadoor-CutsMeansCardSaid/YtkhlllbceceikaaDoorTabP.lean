/- Which table a node hangs on others by, plainly, of gates that may be. -/
import Derived.Test.YtkhlllbceceikaaDoorRTab
namespace Go.Proofs.YtkhlllbceceikaaDoor
open Go.RowKit
set_option linter.unusedVariables false
set_option linter.unusedSimpArgs false
namespace Cut
def upd (T : Nat → Option Nat) (x v : Nat) : Nat → Option Nat := fun n => if n = x then some v else T n
def knownTo (l : List Int) (f : Nat → Nat) : Nat → Nat → Option Nat
  | 0 => fun n => if n = 0 then some 0 else none
  | k + 1 => upd (knownTo l f k) (l.getD k 0).toNat (f k)
/-- what is known ahead of the gates: node 0, and the leaves -/
def known (l : List Int) (f : Nat → Nat) : Nat → Option Nat := knownTo l f l.length
theorem knownTo_map (l : List Int) (f : Nat → Nat) (g : Nat → Nat) (h : Nat → Nat) (m : Nat) (h0 : g 0 = 0) (hk : ∀ i, i < m → g (f i) = h i) : ∀ k, k ≤ m → ∀ n, (knownTo l f k n).map g = knownTo l h k n
  | 0, _, n => by simp only [knownTo]; split <;> simp [h0]
  | k + 1, hm, n => by
    simp only [knownTo, upd]
    split
    · simp [hk k (by omega)]
    · exact knownTo_map l f g h m h0 hk k (by omega) n
theorem known_mask (l : List Int) (hl : l.length ≤ 6) (n : Nat) : (known l col n).map (· &&& rows l.length) = known l (fun i => colM i l.length) n :=
  knownTo_map l col (· &&& rows l.length) (fun i => colM i l.length) l.length (Nat.zero_and _) (fun i hi => (colM_eq i l.length hi hl).symm) _ (Nat.le_refl _) n
end Cut
/-- the gates, as natural numbers; the first gate's node; how many nodes there are -/
def AG.ands (G : AG) : List (Nat × Nat) := G.an.map fun p => (p.1.toNat, p.2.toNat)
def AG.fst (G : AG) : Nat := 1 + G.I.toNat + G.fl.length
def AG.cn (G : AG) : Nat := G.fst + G.an.length
theorem AG.ok.cnt {G : AG} (h : G.ok) : G.cnt + 1 = (G.cn : Int) := by have := h.1; unfold AG.cnt AG.cn AG.fst; omega
theorem AG.ok.firstN {G : AG} (h : G.ok) : G.first = (G.fst : Int) := by have := h.1; unfold AG.first AG.fst; omega
theorem AG.ok.gate {G : AG} (h : G.ok) {i : Nat} (hi : i < G.an.length) : ∃ a b : Nat, G.an[i] = ((a : Int), (b : Int)) ∧ G.ands[i]? = some (a, b) ∧ a / 2 < G.fst + i ∧ b / 2 < G.fst + i ∧ (a : Int) ≤ 1000000 + 4 * (G.fst + i) ∧ (b : Int) ≤ 1000000 + 4 * (G.fst + i) := by
  have hg := h.2.2.2 i hi
  have hf := h.firstN
  simp only [gateB, Bool.or_eq_false_iff, decide_eq_false_iff_not] at hg
  obtain ⟨h1, h2⟩ := hg
  obtain ⟨⟨x, y⟩, hp⟩ : ∃ p, G.an[i] = p := ⟨_, rfl⟩
  rw [hp] at h1 h2 ⊢
  simp only at h1 h2
  refine ⟨x.toNat, y.toNat, by simp; omega, by simp [AG.ands, List.getElem?_eq_getElem hi, hp], by omega, by omega, by omega, by omega⟩
/-- what a node is by leaves: none, if it hangs on more -/
def AG.tabG (G : AG) (l : List Int) (n : Nat) : Option Nat := Cut.tab (Cut.known l Cut.col) G.fst G.ands n
/-- by which table -/
def AG.table (G : AG) (l : List Int) (n : Nat) : Option Nat := (G.tabG l n).map (· &&& Cut.rows l.length)
theorem leavesB_len {c : Int} {l : List Int} (h : leavesB c l = true) : l.length ≤ 6 := by simp [leavesB] at h; exact h.1.1
theorem leavesB_rises {c : Int} {l : List Int} (h : leavesB c l = true) : Cut.Rises l := by simp [leavesB] at h; exact h.1.2
theorem rises_at {l : List Int} (h : Cut.Rises l) {i j : Nat} (hij : i < j) (hj : j < l.length) : l.getD i 0 < l.getD j 0 := by
  have := List.pairwise_iff_getElem.1 h i j (by omega) hj hij
  simpa [List.getD_eq_getElem?_getD, List.getElem?_eq_getElem, hj, show i < l.length by omega] using this
theorem leavesB_mem {c : Int} {l : List Int} (h : leavesB c l = true) {i : Nat} (hi : i < l.length) : 1 ≤ l.getD i 0 ∧ l.getD i 0 ≤ c := by
  have hr := leavesB_rises h
  have h2 : 1 ≤ l.getD 0 0 ∧ l.getD (l.length - 1) 0 ≤ c := by
    simp only [leavesB, Bool.and_eq_true, Bool.or_eq_true, decide_eq_true_eq] at h
    rcases h.2 with h0 | h0
    · omega
    · exact h0
  constructor
  · rcases Nat.eq_zero_or_pos i with rfl | hp
    · exact h2.1
    · have := rises_at hr hp hi; omega
  · rcases Nat.lt_or_ge i (l.length - 1) with hp | hp
    · have := rises_at hr hp (by omega); omega
    · rw [show i = l.length - 1 by omega]; exact h2.2
/-- the two rows of values, as far as node x -/
def AG.spec (G : AG) (l : List Int) (x n : Nat) : Option Nat := if n < x then G.table l n else Cut.known l (fun i => Cut.colM i l.length) n
theorem AG.spec_start (G : AG) (l : List Int) (hl : l.length ≤ 6) (n : Nat) : G.spec l G.fst n = Cut.known l (fun i => Cut.colM i l.length) n := by
  unfold AG.spec
  split
  · rename_i h
    rw [← Cut.known_mask l hl n]
    unfold AG.table AG.tabG
    cases hk : Cut.known l Cut.col n with
    | some v => rw [Cut.tab_known hk]
    | none => rw [Cut.tab_low hk h]
  · rfl
theorem AG.table_gate {G : AG} {l : List Int} {x i a b : Nat} (hl : l.length ≤ 6) (hx : G.fst + i = x) (hg : G.ands[i]? = some (a, b)) (ha : a / 2 < x) (hb : b / 2 < x) :
    G.table l x = match Cut.known l (fun i => Cut.colM i l.length) x with
      | some v => some v
      | none => match G.table l (a / 2) with
        | none => none
        | some u => match G.table l (b / 2) with
          | none => none
          | some v => some (Cut.litM (Cut.rows l.length) u a &&& Cut.litM (Cut.rows l.length) v b) := by
  rw [← Cut.known_mask l hl x]
  unfold AG.table AG.tabG
  cases hk : Cut.known l Cut.col x with
  | some v => rw [Cut.tab_known hk]; rfl
  | none =>
    rw [Cut.tab_gate hk (by omega) (by rw [← hx, Nat.add_sub_cancel_left]; exact hg) ha hb]
    cases Cut.tab (Cut.known l Cut.col) G.fst G.ands (a / 2) with
    | none => rfl
    | some u => cases Cut.tab (Cut.known l Cut.col) G.fst G.ands (b / 2) with
      | none => rfl
      | some v => simp [Cut.mask_lit]
theorem Cut.knownTo_lt (l : List Int) (m : Nat) (hm : m ≤ 6) : ∀ k, k ≤ m → ∀ n v, Cut.knownTo l (fun i => Cut.colM i m) k n = some v → v < 18446744073709551616
  | 0, _, n, v, h => by
    simp only [Cut.knownTo] at h
    split at h
    · cases h; omega
    · cases h
  | k + 1, hk, n, v, h => by
    simp only [Cut.knownTo, Cut.upd] at h
    split at h
    · cases h; exact Cut.colM_lt _ _ hm
    · exact Cut.knownTo_lt l m hm k (by omega) n v h
theorem AG.table_lt {G : AG} {l : List Int} (hl : l.length ≤ 6) {n v : Nat} (h : G.table l n = some v) : v < 18446744073709551616 := by
  unfold AG.table at h
  cases ht : G.tabG l n with
  | none => rw [ht] at h; cases h
  | some u =>
    rw [ht] at h
    cases h
    exact Nat.lt_of_le_of_lt Nat.and_le_right (Cut.rows_lt _ hl)
theorem AG.spec_lt {G : AG} {l : List Int} (hl : l.length ≤ 6) {x n v : Nat} (h : G.spec l x n = some v) : v < 18446744073709551616 := by
  unfold AG.spec at h
  split at h
  · exact AG.table_lt hl h
  · exact Cut.knownTo_lt l _ hl _ (Nat.le_refl _) n v h
/-- rows of values: is it known; what it is -/
def okA (N : Nat) (T : Nat → Option Nat) : List Bool := (List.range N).map fun n => (T n).isSome
def vA (N : Nat) (T : Nat → Option Nat) : List Nat := (List.range N).map fun n => (T n).getD 0
theorem okA_len (N : Nat) (T : Nat → Option Nat) : (okA N T).length = N := by simp [okA]
theorem vA_len (N : Nat) (T : Nat → Option Nat) : (vA N T).length = N := by simp [vA]
theorem okA_get {N : Nat} (T : Nat → Option Nat) {n : Nat} (h : n < N) : (okA N T).getD n false = (T n).isSome := by simp [okA, List.getD_eq_getElem?_getD, List.getElem?_map, List.getElem?_range h]
theorem vA_get {N : Nat} (T : Nat → Option Nat) {n : Nat} (h : n < N) : (vA N T).getD n 0 = (T n).getD 0 := by simp [vA, List.getD_eq_getElem?_getD, List.getElem?_map, List.getElem?_range h]
theorem okA_upd (N : Nat) (T : Nat → Option Nat) (x v : Nat) : (okA N T).set x true = okA N (Cut.upd T x v) := by
  apply List.ext_getElem?
  intro i
  rw [List.getElem?_set]
  simp only [okA, List.getElem?_map, List.length_map, List.length_range, Cut.upd]
  by_cases hi : i < N
  · rw [List.getElem?_range hi]
    by_cases e : x = i
    · subst e; simp [hi]
    · simp [e, Ne.symm e]
  · rw [List.getElem?_eq_none (by simpa using hi)]
    by_cases e : x = i
    · subst e; simp [hi]
    · simp [e]
theorem vA_upd (N : Nat) (T : Nat → Option Nat) (x v : Nat) : (vA N T).set x v = vA N (Cut.upd T x v) := by
  apply List.ext_getElem?
  intro i
  rw [List.getElem?_set]
  simp only [vA, List.getElem?_map, List.length_map, List.length_range, Cut.upd]
  by_cases hi : i < N
  · rw [List.getElem?_range hi]
    by_cases e : x = i
    · subst e; simp [hi]
    · simp [e, Ne.symm e]
  · rw [List.getElem?_eq_none (by simpa using hi)]
    by_cases e : x = i
    · subst e; simp [hi]
    · simp [e]
theorem u64s_set (M : List Nat) (k v : Nat) : (u64s M).set k (.int .u64 (v : Int)) = u64s (M.set k v) := by simp [u64s, List.map_set]
theorem u64s_replicate (N v : Nat) : List.replicate N (Value.int .u64 (v : Int)) = u64s (List.replicate N v) := by simp [u64s]
theorem okA_congr {N : Nat} {T T' : Nat → Option Nat} (h : ∀ n, n < N → T n = T' n) : okA N T = okA N T' := List.map_congr_left fun n hn => by rw [h n (List.mem_range.1 hn)]
theorem vA_congr {N : Nat} {T T' : Nat → Option Nat} (h : ∀ n, n < N → T n = T' n) : vA N T = vA N T' := List.map_congr_left fun n hn => by rw [h n (List.mem_range.1 hn)]
/-- a leaf more, a node more -/
theorem AG.spec_same {G : AG} {l : List Int} {x : Nat} (h : G.table l x = Cut.known l (fun i => Cut.colM i l.length) x) (n : Nat) : G.spec l (x + 1) n = G.spec l x n := by
  unfold AG.spec
  by_cases e : n = x
  · subst e; simp [h]
  · by_cases hn : n < x
    · rw [if_pos hn, if_pos (by omega)]
    · rw [if_neg hn, if_neg (by omega)]
theorem AG.spec_next {G : AG} {l : List Int} {x v : Nat} (h : G.table l x = some v) (n : Nat) : G.spec l (x + 1) n = Cut.upd (G.spec l x) x v n := by
  show (if n < x + 1 then _ else _) = if n = x then some v else if n < x then _ else _
  by_cases e : n = x
  · subst e; simp [h]
  · rw [if_neg e]
    by_cases hn : n < x
    · rw [if_pos hn, if_pos (by omega)]
    · rw [if_neg hn, if_neg (by omega)]
end Go.Proofs.YtkhlllbceceikaaDoor
