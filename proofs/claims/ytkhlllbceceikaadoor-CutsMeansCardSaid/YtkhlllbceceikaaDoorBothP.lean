/- All cuts of gates, plainly. -/
import Derived.Test.YtkhlllbceceikaaDoorCSets
import Derived.Test.YtkhlllbceceikaaDoorCCut
namespace Go.Proofs.YtkhlllbceceikaaDoor
open Go.RowKit
set_option linter.unusedVariables false
set_option linter.unusedSimpArgs false
/-- a cut, plainly: leaves, table -/
abbrev PC : Type := List Int × Nat
/-- the row of node x, and its depth, of what is ahead -/
noncomputable def AG.cutRow (G : AG) (k : Int) (out : List (List PC)) (d : List Int) (x : Nat) : List PC × Int :=
  if x < G.fst then ([([(x : Int)], 2)], 0) else
    let p := G.ands.getD (x - G.fst) (0, 0)
    let s := Cut.gate d ((out.getD (p.1 / 2) []).map (·.1)) ((out.getD (p.2 / 2) []).map (·.1)) k
    (s.map (fun l => (l, optV (G.good l (x : Int)))) ++ [([(x : Int)], 2)], Cut.deep d (s.headD []))
/-- cuts and depths of the nodes up to x -/
noncomputable def AG.bothTo (G : AG) (k : Int) : Nat → List (List PC) × List Int
  | 0 => ([[([], 0)]], [0])
  | x + 1 => ((G.bothTo k x).1 ++ [(G.cutRow k (G.bothTo k x).1 (G.bothTo k x).2 (x + 1)).1], (G.bothTo k x).2 ++ [(G.cutRow k (G.bothTo k x).1 (G.bothTo k x).2 (x + 1)).2])
theorem AG.bothTo_len (G : AG) (k : Int) : ∀ x, (G.bothTo k x).1.length = x + 1 ∧ (G.bothTo k x).2.length = x + 1
  | 0 => ⟨rfl, rfl⟩
  | x + 1 => by have := G.bothTo_len k x; simp [AG.bothTo, this.1, this.2]
/-- what holds of a row -/
structure RowOk (k : Int) (x : Nat) (r : List PC) : Prop where
  lv : ∀ c ∈ r, NodesIn (x + 1) c.1 ∧ Cut.Rises c.1 ∧ c.1.length ≤ 6 ∧ (c.1.length : Int) ≤ max k 1 ∧ ∀ z ∈ c.1, 1 ≤ z
  len : 1 ≤ r.length ∧ r.length ≤ 9
  last : 0 < x → r[r.length - 1]? = some ([(x : Int)], 2)
  zero : x = 0 → r = [([], 0)]
  tab : ∀ c ∈ r, c.2 < 18446744073709551616
/-- what holds of all that is told -/
structure BothOk (k : Int) (x : Nat) (st : List (List PC) × List Int) : Prop where
  len : st.1.length = x + 1 ∧ st.2.length = x + 1
  row : ∀ j, j ≤ x → RowOk k j (st.1.getD j [])
  dep : ∀ j, j ≤ x → 0 ≤ st.2.getD j 0 ∧ st.2.getD j 0 ≤ (j : Int)
theorem NodesIn.mono {N M : Nat} {l : List Int} (h : NodesIn N l) (hm : N ≤ M) : NodesIn M l := fun x hx => ⟨(h x hx).1, by have := (h x hx).2; omega⟩
theorem BothOk.lvIn {k : Int} {x j : Nat} {st : List (List PC) × List Int} (h : BothOk k x st) (hj : j ≤ x) : ∀ l ∈ (st.1.getD j []).map (·.1), NodesIn (x + 1) l ∧ l.length ≤ 6 := fun l hl => by
  obtain ⟨c, hc, rfl⟩ := List.mem_map.1 hl
  have := (h.row j hj).lv c hc
  exact ⟨this.1.mono (by omega), this.2.2.1⟩
/-- two cuts of no or one leaf can be made one -/
theorem merge_ones {k : Int} (hk : 2 ≤ k ∧ k ≤ 6) (a b : List Int) (ha : a.length ≤ 1) (hb : b.length ≤ 1) : ∃ z, Cut.merge a b k = some z := by
  have hr : ∀ l : List Int, l.length ≤ 1 → Cut.Rises l := fun l hl => by
    match l, hl with
    | [], _ => exact List.Pairwise.nil
    | [x], _ => exact List.pairwise_singleton _ _
  have := Cut.mrg_len a b
  exact ⟨_, merge_some ⟨hr a ha, hr b hb, by omega, by omega, by omega⟩⟩
theorem RowOk.one {k : Int} {x : Nat} {r : List PC} (h : RowOk k x r) : ∃ c ∈ r, c.1.length ≤ 1 := by
  rcases Nat.eq_zero_or_pos x with h0 | h0
  · have h1 := h.zero h0; exact ⟨([], 0), by rw [h1]; simp, by simp⟩
  · exact ⟨_, List.mem_of_getElem? (h.last h0), by simp⟩
/-- the gate of two nodes has a set -/
theorem gate_some {k : Int} (hk : 2 ≤ k ∧ k ≤ 6) {x a b : Nat} {st : List (List PC) × List Int} (h : BothOk k x st) (ha : a ≤ x) (hb : b ≤ x) :
    ∃ y, ∃ p ∈ Cut.pairs ((st.1.getD a []).map (·.1)) ((st.1.getD b []).map (·.1)), Cut.merge p.1 p.2 k = some y := by
  obtain ⟨c, hc, hc1⟩ := (h.row a ha).one
  obtain ⟨e, he, he1⟩ := (h.row b hb).one
  obtain ⟨z, hz⟩ := merge_ones hk c.1 e.1 hc1 he1
  refine ⟨z, (c.1, e.1), ?_, hz⟩
  unfold Cut.pairs
  exact List.mem_flatMap.2 ⟨c.1, List.mem_map.2 ⟨c, hc, rfl⟩, List.mem_map.2 ⟨e.1, List.mem_map.2 ⟨e, he, rfl⟩, rfl⟩⟩
theorem mem_gate {d : List Int} {a b : List (List Int)} {k : Int} {l : List Int} (h : l ∈ Cut.gate d a b k) : ∃ p ∈ Cut.pairs a b, Cut.merge p.1 p.2 k = some l := by
  have := (Cut.fold_sorted d k (Cut.pairs a b) [] (by simp) (by simp)).2 l
  rcases this.1 (List.mem_of_mem_take h) with h1 | h1
  · cases h1
  · exact h1
theorem pairs_mem {a b : List (List Int)} {p : List Int × List Int} (h : p ∈ Cut.pairs a b) : p.1 ∈ a ∧ p.2 ∈ b := by
  obtain ⟨x, hx, h⟩ := List.mem_flatMap.1 h
  obtain ⟨y, hy, rfl⟩ := List.mem_map.1 h
  exact ⟨hx, hy⟩
theorem gate_ne {k : Int} (hk : 2 ≤ k ∧ k ≤ 6) {x a b : Nat} {st : List (List PC) × List Int} (h : BothOk k x st) (ha : a ≤ x) (hb : b ≤ x) (d : List Int) : Cut.gate d ((st.1.getD a []).map (·.1)) ((st.1.getD b []).map (·.1)) k ≠ [] := by
  obtain ⟨y, p, hp, hm⟩ := gate_some hk h ha hb
  have h1 := (Cut.fold_sorted d k (Cut.pairs ((st.1.getD a []).map (·.1)) ((st.1.getD b []).map (·.1))) [] (by simp) (by simp)).2 y
  have h2 : y ∈ Cut.gateAll d ((st.1.getD a []).map (·.1)) ((st.1.getD b []).map (·.1)) k := h1.2 (.inr ⟨p, hp, hm⟩)
  intro he
  unfold Cut.gate at he
  rw [List.take_eq_nil_iff] at he
  rcases he with he | he
  · omega
  · rw [he] at h2; cases h2
theorem optV_good_lt (G : AG) (l : List Int) (n : Int) (hl : l.length ≤ 6) : optV (G.good l n) < 18446744073709551616 := by
  by_cases h : G.ok ∧ 0 ≤ n ∧ n ≤ G.cnt ∧ leavesB G.cnt l = true
  · rw [AG.good_yes h]
    cases ht : G.table l n.toNat with
    | none => decide
    | some v => exact AG.table_lt hl ht
  · rw [AG.good_no h]; decide
theorem deep_le {d l : List Int} {M : Int} (h0 : 0 ≤ M) (h : ∀ z ∈ l, d.getD z.toNat 0 ≤ M) : 1 ≤ Cut.deep d l ∧ Cut.deep d l ≤ M + 1 := by
  have ht : ∀ k, k ≤ l.length → 0 ≤ Cut.deepTo d l k ∧ Cut.deepTo d l k ≤ M := fun k => by
    induction k with
    | zero => intro _; exact ⟨Int.le_refl _, h0⟩
    | succ k ih =>
      intro hk
      have := ih (by omega)
      have h2 := h _ (getD_mem (l := l) (k := k) (by omega))
      simp only [Cut.deepTo]; omega
  have := ht l.length (Nat.le_refl _)
  unfold Cut.deep; omega
/-- the next row is as it should be -/
theorem BothOk.next {G : AG} {k : Int} (hk : 2 ≤ k ∧ k ≤ 6) (hok : G.ok) {x : Nat} (hx : x + 1 < G.cn) {st : List (List PC) × List Int} (h : BothOk k x st) :
    RowOk k (x + 1) (G.cutRow k st.1 st.2 (x + 1)).1 ∧ 0 ≤ (G.cutRow k st.1 st.2 (x + 1)).2 ∧ (G.cutRow k st.1 st.2 (x + 1)).2 ≤ ((x + 1 : Nat) : Int) := by
  have hself : ∀ c : PC, c = ([((x + 1 : Nat) : Int)], 2) → NodesIn (x + 1 + 1) c.1 ∧ Cut.Rises c.1 ∧ c.1.length ≤ 6 ∧ (c.1.length : Int) ≤ max k 1 ∧ ∀ z ∈ c.1, 1 ≤ z := fun c hc => by
    subst hc
    refine ⟨fun z hz => ?_, List.pairwise_singleton _ _, by simp, by simp; omega, fun z hz => ?_⟩
    · rw [List.mem_singleton] at hz; subst hz; omega
    · rw [List.mem_singleton] at hz; subst hz; omega
  unfold AG.cutRow
  by_cases hlow : x + 1 < G.fst
  · rw [if_pos hlow]
    refine ⟨⟨fun c hc => hself c (by simpa using hc), by simp, fun _ => by simp, fun h => by omega, fun c hc => by rw [List.mem_singleton] at hc; subst hc; show 2 < 18446744073709551616; decide⟩, Int.le_refl _, by simp; omega⟩
  · rw [if_neg hlow]
    obtain ⟨i, hi⟩ : ∃ i, x + 1 - G.fst = i := ⟨_, rfl⟩
    have hia : i < G.an.length := by have : G.cn = G.fst + G.an.length := rfl; omega
    obtain ⟨a, b, hg, hgs, ha, hb, -, -⟩ := hok.gate hia
    have hp : G.ands.getD (x + 1 - G.fst) (0, 0) = (a, b) := by rw [hi, List.getD_eq_getElem?_getD, hgs]; rfl
    have ha2 : a / 2 ≤ x := by omega
    have hb2 : b / 2 ≤ x := by omega
    simp only [hp]
    obtain ⟨s, hs⟩ : ∃ s, Cut.gate st.2 ((st.1.getD (a / 2) []).map (·.1)) ((st.1.getD (b / 2) []).map (·.1)) k = s := ⟨_, rfl⟩
    have hne := gate_ne hk h ha2 hb2 st.2
    rw [hs] at hne ⊢
    have hmem : ∀ l ∈ s, NodesIn (x + 1) l ∧ Cut.Rises l ∧ (l.length : Int) ≤ k ∧ ∀ z ∈ l, 1 ≤ z := fun l hl => by
      rw [← hs] at hl
      obtain ⟨p, hp, hm⟩ := mem_gate hl
      obtain ⟨h1, h2⟩ := pairs_mem hp
      obtain ⟨c, hc, e1⟩ := List.mem_map.1 h1
      obtain ⟨e, he, e2⟩ := List.mem_map.1 h2
      obtain ⟨-, m2, m3, m4, m5⟩ := Cut.merge_mem hm
      have r1 := (h.row _ ha2).lv c hc
      have r2 := (h.row _ hb2).lv e he
      refine ⟨fun z hz => ?_, m2, m3, fun z hz => ?_⟩
      · rcases m5 z hz with h3 | h3
        · rw [← e1] at h3; exact (r1.1.mono (by omega)) z h3
        · rw [← e2] at h3; exact (r2.1.mono (by omega)) z h3
      · rcases m5 z hz with h3 | h3
        · rw [← e1] at h3; exact r1.2.2.2.2 z h3
        · rw [← e2] at h3; exact r2.2.2.2.2 z h3
    have hsl : s.length ≤ 8 := by rw [← hs]; unfold Cut.gate; rw [List.length_take]; omega
    refine ⟨⟨fun c hc => ?_, by simp; omega, fun _ => by simp, fun h => by omega, fun c hc => ?_⟩, ?_⟩
    · rcases List.mem_append.1 hc with hc | hc
      · obtain ⟨l, hl, rfl⟩ := List.mem_map.1 hc
        have hm := hmem l hl
        exact ⟨hm.1.mono (by omega), hm.2.1, by have := hm.2.2.1; show l.length ≤ 6; omega, by have := hm.2.2.1; show (l.length : Int) ≤ max k 1; omega, hm.2.2.2⟩
      · exact hself c (by simpa using hc)
    · rcases List.mem_append.1 hc with hc | hc
      · obtain ⟨l, hl, rfl⟩ := List.mem_map.1 hc
        have := hmem l hl
        exact optV_good_lt G l _ (by omega)
      · rw [List.mem_singleton] at hc; subst hc; show 2 < 18446744073709551616; decide
    · obtain ⟨l0, hl0⟩ : ∃ l, s.headD [] = l := ⟨_, rfl⟩
      rw [hl0]
      have hin : l0 ∈ s := by
        cases s with
        | nil => exact absurd rfl hne
        | cons y s => simp at hl0; subst hl0; simp
      have := deep_le (d := st.2) (l := l0) (M := (x : Int)) (by omega) (fun z hz => by
        have h1 := (hmem l0 hin).1 z hz
        have h2 := (h.dep z.toNat (by omega)).2
        omega)
      omega
theorem getD_left {α : Type} (l m : List α) (d : α) {j : Nat} (h : j < l.length) : (l ++ m).getD j d = l.getD j d := by
  rw [List.getD_eq_getElem?_getD, List.getD_eq_getElem?_getD, List.getElem?_append_left h]
theorem AG.bothTo_ok {G : AG} {k : Int} (hk : 2 ≤ k ∧ k ≤ 6) (hok : G.ok) : ∀ x, x < G.cn → BothOk k x (G.bothTo k x)
  | 0, _ => ⟨⟨rfl, rfl⟩, fun j hj => by
      obtain rfl : j = 0 := by omega
      exact ⟨fun c hc => by simp [AG.bothTo] at hc; subst hc; exact ⟨fun z hz => by simp at hz, List.Pairwise.nil, by simp, by simp; omega, fun z hz => by simp at hz⟩, by simp [AG.bothTo], fun h => by omega, fun _ => rfl, fun c hc => by simp [AG.bothTo] at hc; subst hc; decide⟩, fun j hj => by
      obtain rfl : j = 0 := by omega
      exact ⟨Int.le_refl _, Int.le_refl _⟩⟩
  | x + 1, hx => by
    have ih := G.bothTo_ok hk hok x (by omega)
    obtain ⟨h1, h2, h3⟩ := ih.next hk hok hx
    refine ⟨G.bothTo_len k (x + 1), fun j hj => ?_, fun j hj => ?_⟩
    · simp only [AG.bothTo]
      rcases Nat.lt_or_ge j (x + 1) with hlt | hge
      · rw [getD_left _ _ _ (by rw [ih.len.1]; exact hlt)]
        exact ih.row j (by omega)
      · obtain rfl : j = x + 1 := by omega
        rw [List.getD_eq_getElem?_getD, List.getElem?_append_right (by rw [ih.len.1]; exact Nat.le_refl _), ih.len.1, Nat.sub_self]
        exact h1
    · simp only [AG.bothTo]
      rcases Nat.lt_or_ge j (x + 1) with hlt | hge
      · rw [getD_left _ _ _ (by rw [ih.len.2]; exact hlt)]
        exact ih.dep j (by omega)
      · obtain rfl : j = x + 1 := by omega
        rw [List.getD_eq_getElem?_getD, List.getElem?_append_right (by rw [ih.len.2]; exact Nat.le_refl _), ih.len.2, Nat.sub_self]
        exact ⟨h2, h3⟩
end Go.Proofs.YtkhlllbceceikaaDoor
