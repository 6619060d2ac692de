/- Ranks of sets of leaves, plainly: their order; what the sets of a gate are. -/
import Derived.Test.YtkhlllbceceikaaDoorRGate
import Derived.Test.YtkhlllbceceikaaDoorCMrg
import Derived.Shelf.SlSortCmp.WholeK
namespace Go.Proofs.YtkhlllbceceikaaDoor.Cut
set_option linter.unusedVariables false
set_option linter.unusedSimpArgs false
def cmpI (a b : Int) : Int := if a < b then -1 else if a > b then 1 else 0
def cmpL : List Int → List Int → Int
  | [], [] => 0
  | [], _ :: _ => -1
  | _ :: _, [] => 1
  | x :: a, y :: b => if cmpI x y ≠ 0 then cmpI x y else cmpL a b
theorem cmpI_eq (x y : Int) : cmpI x y = 0 ↔ x = y := by unfold cmpI; split <;> (try split) <;> omega
theorem cmpI_lt (x y : Int) : cmpI x y < 0 ↔ x < y := by unfold cmpI; split <;> (try split) <;> omega
theorem cmpI_gt (x y : Int) : 0 < cmpI x y ↔ y < x := by unfold cmpI; split <;> (try split) <;> omega
theorem cmpI_swap (x y : Int) : cmpI y x = -cmpI x y := by unfold cmpI; split <;> split <;> (try split) <;> (try split) <;> omega
theorem cmpL_swap : ∀ a b : List Int, cmpL b a = -cmpL a b
  | [], [] => rfl
  | [], _ :: _ => rfl
  | _ :: _, [] => rfl
  | x :: a, y :: b => by
    have h := cmpI_swap x y
    have ih := cmpL_swap a b
    simp only [cmpL]
    split <;> split <;> omega
theorem cmpL_eq : ∀ a b : List Int, cmpL a b = 0 ↔ a = b
  | [], [] => by simp [cmpL]
  | [], _ :: _ => by simp [cmpL]
  | _ :: _, [] => by simp [cmpL]
  | x :: a, y :: b => by
    have h := cmpI_eq x y
    have ih := cmpL_eq a b
    simp only [cmpL, List.cons.injEq]
    split
    · next hc => exact ⟨fun e => absurd e hc, fun e => absurd (h.2 e.1) hc⟩
    · next hc =>
      have hc' : cmpI x y = 0 := Decidable.not_not.1 hc
      rw [ih]
      exact ⟨fun e => ⟨h.1 hc', e⟩, fun e => e.2⟩
theorem cmpL_trans : ∀ a b c : List Int, cmpL a b ≤ 0 → cmpL b c ≤ 0 → cmpL a c ≤ 0 ∧ (cmpL a b < 0 ∨ cmpL b c < 0 → cmpL a c < 0)
  | [], [], [], _, _ => by simp [cmpL]
  | [], [], _ :: _, _, _ => by simp [cmpL]
  | [], _ :: _, [], _, h => by simp [cmpL] at h
  | [], _ :: _, _ :: _, _, _ => by simp [cmpL]
  | _ :: _, [], _, h, _ => by simp [cmpL] at h
  | _ :: _, _ :: _, [], _, h => by simp [cmpL] at h
  | x :: a, y :: b, z :: c, h1, h2 => by
    have ih := cmpL_trans a b c
    have e1 := cmpI_eq x y; have e2 := cmpI_eq y z; have e3 := cmpI_eq x z
    have l1 := cmpI_lt x y; have l2 := cmpI_lt y z; have l3 := cmpI_lt x z
    simp only [cmpL] at h1 h2 ⊢
    by_cases c1 : cmpI x y ≠ 0 <;> by_cases c2 : cmpI y z ≠ 0 <;> by_cases c3 : cmpI x z ≠ 0 <;> simp only [c1, c2, c3, if_true, if_false, ne_eq, not_true, not_false_eq_true] at h1 h2 ⊢ <;> first | omega | exact ih h1 h2
/-- the rank of a set -/
def rankOf (d l : List Int) : List Int := deep d l :: (l.length : Int) :: (List.range 6).map (fun i => l.getD i 0)
theorem six_lex : ∀ (n : Nat) (a b : List Int), a.length = b.length → a.length ≤ n → (cmpL ((List.range n).map (fun i => a.getD i 0)) ((List.range n).map (fun i => b.getD i 0)) < 0 ↔ lexB a b = true)
  | 0, [], [], _, _ => by simp [cmpL, lexB]
  | n + 1, [], [], _, _ => by
    have : cmpL ((List.range (n + 1)).map (fun i => ([] : List Int).getD i 0)) ((List.range (n + 1)).map (fun i => ([] : List Int).getD i 0)) = 0 := (cmpL_eq _ _).2 rfl
    rw [this]; simp [lexB]
  | n + 1, x :: a, y :: b, h1, h2 => by
    have ih := six_lex n a b (by simpa using h1) (by simpa using h2)
    have e : ∀ (x : Int) (a : List Int), (List.range (n + 1)).map (fun i => (x :: a).getD i 0) = x :: (List.range n).map (fun i => a.getD i 0) := fun x a => by
      rw [List.range_succ_eq_map]; simp
    rw [e, e, cmpL, lexB]
    have c1 := cmpI_eq x y
    have c2 := cmpI_lt x y
    by_cases hxy : x = y
    · rw [if_neg (by rw [c1.2 hxy]; simp), if_neg (by simp [hxy]), ih]
    · rw [if_pos (fun h => hxy (c1.1 h)), if_pos hxy, c2]; simp
  | 0, _ :: _, _, _, h => by simp at h
  | _, [], _ :: _, h, _ => by simp at h
  | _, _ :: _, [], h, _ => by simp at h
theorem ahead_rank (d : List Int) {a b : List Int} (ha : a.length ≤ 6) (hb : b.length ≤ 6) : aheadB d a b = decide (cmpL (rankOf d a) (rankOf d b) < 0) := by
  unfold aheadB rankOf
  rw [cmpL, cmpL]
  have c1 := cmpI_eq (deep d a) (deep d b)
  have c2 := cmpI_lt (deep d a) (deep d b)
  have c3 := cmpI_eq (a.length : Int) (b.length : Int)
  have c4 := cmpI_lt (a.length : Int) (b.length : Int)
  by_cases h1 : deep d a = deep d b
  · rw [c1.2 h1]
    simp only [h1, ne_eq, not_true_eq_false, if_false]
    by_cases h2 : a.length = b.length
    · rw [c3.2 (by omega)]
      simp only [h2, ne_eq, not_true_eq_false, if_false]
      have := six_lex 6 a b h2 ha
      rw [Bool.eq_iff_iff, decide_eq_true_eq, this]
    · rw [if_pos h2, if_pos (fun h => h2 (by have := c3.1 h; omega))]
      rw [Bool.eq_iff_iff, decide_eq_true_eq, decide_eq_true_eq, c4]; omega
  · rw [if_pos h1, if_pos (fun h => h1 (c1.1 h))]
    rw [Bool.eq_iff_iff, decide_eq_true_eq, decide_eq_true_eq, c2]
theorem six_inj : ∀ (n : Nat) (a b : List Int), a.length = b.length → a.length ≤ n → (List.range n).map (fun i => a.getD i 0) = (List.range n).map (fun i => b.getD i 0) → a = b := by
  intro n a b h1 h2 h
  apply List.ext_getElem h1
  intro i hi hj
  have h3 := congrArg (fun l : List Int => l[i]?) h
  simp only [List.getElem?_map, List.getElem?_range (by omega : i < n), Option.map_some] at h3
  rw [List.getD_eq_getElem?_getD, List.getD_eq_getElem?_getD, List.getElem?_eq_getElem hi, List.getElem?_eq_getElem hj] at h3
  simpa using h3
theorem rank_inj (d : List Int) {a b : List Int} (ha : a.length ≤ 6) (hb : b.length ≤ 6) (h : rankOf d a = rankOf d b) : a = b := by
  unfold rankOf at h
  injection h with h1 h
  injection h with h2 h3
  exact six_inj 6 a b (by omega) ha h3
/-- two lists in strict order, of the same members -/
theorem sorted_uniq {α : Type} (r : α → α → Prop) (hirr : ∀ x, ¬ r x x) (htr : ∀ x y z, r x y → r y z → r x z) : ∀ {l m : List α}, l.Pairwise r → m.Pairwise r → (∀ x, x ∈ l ↔ x ∈ m) → l = m
  | [], [], _, _, _ => rfl
  | [], y :: m, _, _, h => by have := (h y).2 (by simp); cases this
  | x :: l, [], _, _, h => by have := (h x).1 (by simp); cases this
  | x :: l, y :: m, hl, hm, h => by
    have hl' := List.pairwise_cons.1 hl
    have hm' := List.pairwise_cons.1 hm
    have hxy : x = y := by
      rcases List.mem_cons.1 ((h x).1 (by simp)) with e | h1
      · exact e
      · rcases List.mem_cons.1 ((h y).2 (by simp)) with e | h2
        · exact e.symm
        · exact absurd (htr _ _ _ (hm'.1 x h1) (hl'.1 y h2)) (hirr _)
    subst hxy
    rw [sorted_uniq r hirr htr hl'.2 hm'.2 (fun z => ?_)]
    constructor
    · intro hz
      rcases List.mem_cons.1 ((h z).1 (List.mem_cons_of_mem _ hz)) with e | e
      · subst e; exact absurd (hl'.1 _ hz) (hirr _)
      · exact e
    · intro hz
      rcases List.mem_cons.1 ((h z).2 (List.mem_cons_of_mem _ hz)) with e | e
      · subst e; exact absurd (hm'.1 _ hz) (hirr _)
      · exact e
/-- the order of sets -/
def Lt (d a b : List Int) : Prop := cmpL (rankOf d a) (rankOf d b) < 0
theorem Lt.irrefl (d a : List Int) : ¬ Lt d a a := by unfold Lt; rw [(cmpL_eq _ _).2 rfl]; omega
theorem Lt.trans {d a b c : List Int} (h1 : Lt d a b) (h2 : Lt d b c) : Lt d a c := (cmpL_trans _ _ _ (Int.le_of_lt h1) (Int.le_of_lt h2)).2 (.inl h1)
theorem Lt.total (d : List Int) {a b : List Int} (ha : a.length ≤ 6) (hb : b.length ≤ 6) (h : ¬ Lt d a b) : a = b ∨ Lt d b a := by
  unfold Lt at *
  have hs := cmpL_swap (rankOf d a) (rankOf d b)
  by_cases h0 : cmpL (rankOf d a) (rankOf d b) = 0
  · exact .inl (rank_inj d ha hb ((cmpL_eq _ _).1 h0))
  · exact .inr (by omega)
theorem takeWhile_place {α : Type} (p : α → Bool) (L : List α) : (∀ (j : Nat) (h : j < L.length), j < (L.takeWhile p).length → p L[j] = true) ∧ (∀ h : (L.takeWhile p).length < L.length, p L[(L.takeWhile p).length] = false) := by
  induction L with
  | nil => exact ⟨fun j h => by simp at h, fun h => by simp at h⟩
  | cons x L ih =>
    by_cases hx : p x = true
    · have e : ((x :: L).takeWhile p).length = (L.takeWhile p).length + 1 := by rw [List.takeWhile_cons, if_pos hx]; rfl
      refine ⟨fun j h hj => ?_, fun h => ?_⟩
      · rw [e] at hj
        cases j with
        | zero => exact hx
        | succ j => exact ih.1 j (by simpa using h) (by omega)
      · simp only [e] at h ⊢
        exact ih.2 (by simpa using h)
    · have e : ((x :: L).takeWhile p).length = 0 := by rw [List.takeWhile_cons, if_neg hx]; rfl
      refine ⟨fun j h hj => by omega, fun h => ?_⟩
      simp only [e]
      simpa using hx
/-- one set more keeps the order -/
theorem put_sorted (d : List Int) {L : List (List Int)} {x : List Int} (hs : L.Pairwise (Lt d)) (h6 : ∀ l ∈ L, l.length ≤ 6) (hx : x.length ≤ 6) : (put d L x).Pairwise (Lt d) ∧ ∀ y, y ∈ put d L x ↔ y ∈ L ∨ y = x := by
  obtain ⟨h1, h2⟩ := takeWhile_place (fun y => aheadB d y x) L
  obtain ⟨k, hk⟩ : ∃ k, placeOf d L x = k := ⟨_, rfl⟩
  have hk' : (L.takeWhile fun y => aheadB d y x).length = k := hk
  rw [hk'] at h1 h2
  have hb : ∀ (j : Nat) (h : j < L.length), j < k → Lt d L[j] x := fun j h hj => by
    have := h1 j h hj
    rw [ahead_rank d (h6 _ (List.getElem_mem h)) hx] at this
    simpa [Lt] using this
  unfold put
  rw [hk]
  by_cases he : L[k]? = some x
  · rw [if_pos he]
    refine ⟨hs, fun y => ⟨fun h => .inl h, fun h => ?_⟩⟩
    rcases h with h | h
    · exact h
    · rw [h]; exact List.mem_of_getElem? he
  · rw [if_neg he]
    have ha : ∀ (j : Nat) (h : j < L.length), k ≤ j → Lt d x L[j] := fun j h hj => by
      have hkl : k < L.length := by omega
      have hn : ¬ Lt d L[k] x := fun hl => by
        have := h2 hkl
        rw [ahead_rank d (h6 _ (List.getElem_mem hkl)) hx] at this
        simp [Lt] at hl
        simp at this; omega
      have hkx : Lt d x L[k] := by
        rcases Lt.total d (h6 _ (List.getElem_mem hkl)) hx hn with e | e
        · exact absurd (by rw [List.getElem?_eq_getElem hkl, e]) he
        · exact e
      rcases Nat.lt_or_ge k j with h3 | h3
      · exact hkx.trans (List.pairwise_iff_getElem.1 hs k j hkl h h3)
      · obtain rfl : j = k := by omega
        exact hkx
    refine ⟨?_, fun y => ?_⟩
    · rw [List.append_assoc]
      refine List.pairwise_append.2 ⟨hs.sublist (List.take_sublist _ _), ?_, fun y hy z hz => ?_⟩
      · refine List.pairwise_cons.2 ⟨fun z hz => ?_, hs.sublist (List.drop_sublist _ _)⟩
        obtain ⟨j, hj, rfl⟩ := List.mem_drop_iff_getElem.1 hz
        exact ha (k + j) (by omega) (by omega)
      · obtain ⟨i, hi, rfl⟩ := List.mem_take_iff_getElem.1 hy
        rcases List.mem_cons.1 hz with e | hz
        · subst e; exact hb i (by omega) (by omega)
        · obtain ⟨j, hj, rfl⟩ := List.mem_drop_iff_getElem.1 hz
          exact List.pairwise_iff_getElem.1 hs i (k + j) (by omega) (by omega) (by omega)
    · simp only [List.mem_append, List.mem_singleton]
      constructor
      · rintro ((h | h) | h)
        · exact .inl (List.mem_of_mem_take h)
        · exact .inr h
        · exact .inl (List.mem_of_mem_drop h)
      · rintro (h | h)
        · have := List.take_append_drop k L
          rw [← this] at h
          rcases List.mem_append.1 h with h | h
          · exact .inl (.inl h)
          · exact .inr h
        · exact .inl (.inr h)
/-- what is made of pairs -/
theorem fold_sorted (d : List Int) (k : Int) : ∀ (ps : List (List Int × List Int)) (L : List (List Int)), L.Pairwise (Lt d) → (∀ l ∈ L, l.length ≤ 6) →
    (ps.foldl (putM d k) L).Pairwise (Lt d) ∧ ∀ y, y ∈ ps.foldl (putM d k) L ↔ y ∈ L ∨ ∃ p ∈ ps, merge p.1 p.2 k = some y
  | [], L, h1, h2 => ⟨h1, fun y => by simp⟩
  | p :: ps, L, h1, h2 => by
    rw [List.foldl_cons]
    cases hm : merge p.1 p.2 k with
    | none =>
      have e : putM d k L p = L := by unfold putM; rw [hm]
      rw [e]
      have ih := fold_sorted d k ps L h1 h2
      refine ⟨ih.1, fun y => ?_⟩
      rw [ih.2 y]
      simp [hm]
    | some x =>
      have e : putM d k L p = put d L x := by unfold putM; rw [hm]
      rw [e]
      have hx := merge_mem hm
      have hx6 : x.length ≤ 6 := by omega
      have hp := put_sorted d h1 h2 hx6
      have ih := fold_sorted d k ps (put d L x) hp.1 (fun l hl => by rcases (hp.2 l).1 hl with h | h; exact h2 l h; rw [h]; exact hx6)
      refine ⟨ih.1, fun y => ?_⟩
      rw [ih.2 y, hp.2 y]
      simp only [List.mem_cons, exists_eq_or_imp, hm, Option.some.injEq]
      constructor
      · rintro ((h | h) | h)
        · exact .inl h
        · exact .inr (.inl h.symm)
        · exact .inr (.inr h)
      · rintro (h | h | h)
        · exact .inl (.inl h)
        · exact .inl (.inr h.symm)
        · exact .inr h
end Go.Proofs.YtkhlllbceceikaaDoor.Cut
