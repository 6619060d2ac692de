/- Neighbours that are alike made one: plainly, and in memory. -/
import Derived.Test.YtkhlllbceceikaaDoorNest
namespace Go.Proofs.YtkhlllbceceikaaDoor
open Go.RowKit
set_option linter.unusedVariables false
set_option linter.unusedSimpArgs false

section
variable {α κ : Type} [Inhabited α] [DecidableEq κ]
/-- the first m, neighbours of like key made one -/
def cptTo (f : α → κ) (L : List α) : Nat → List α
  | 0 => []
  | m + 1 => if m = 0 ∨ f (L.getD m default) ≠ f (L.getD (m - 1) default) then cptTo f L m ++ [L.getD m default] else cptTo f L m
def cpt (f : α → κ) (L : List α) : List α := cptTo f L L.length
theorem cptTo_new {f : α → κ} {L : List α} {m : Nat} (h : m = 0 ∨ f (L.getD m default) ≠ f (L.getD (m - 1) default)) : cptTo f L (m + 1) = cptTo f L m ++ [L.getD m default] := by rw [cptTo, if_pos h]
theorem cptTo_old {f : α → κ} {L : List α} {m : Nat} (h0 : m ≠ 0) (h : f (L.getD m default) = f (L.getD (m - 1) default)) : cptTo f L (m + 1) = cptTo f L m := by rw [cptTo, if_neg (by rintro (h1 | h1); exact h0 h1; exact h1 h)]
theorem cptTo_len (f : α → κ) (L : List α) : ∀ m, (cptTo f L m).length ≤ m
  | 0 => Nat.le_refl _
  | m + 1 => by
    have ih := cptTo_len f L m
    unfold cptTo
    split
    · rw [List.length_append]; simp; omega
    · omega
/-- no two neighbours alike so far: it is what it was -/
theorem cptTo_all {f : α → κ} {L : List α} : ∀ m, m ≤ L.length → (∀ j, 0 < j → j < m → f (L.getD j default) ≠ f (L.getD (j - 1) default)) → cptTo f L m = L.take m
  | 0, _, _ => by simp [cptTo]
  | m + 1, hm, h => by
    have ih := cptTo_all m (by omega) (fun j h1 h2 => h j h1 (by omega))
    rw [cptTo_new, ih, List.take_succ_eq_append_getElem (show m < L.length by omega)]
    · congr 2
      rw [List.getD_eq_getElem?_getD, List.getElem?_eq_getElem (show m < L.length by omega)]; rfl
    · rcases Nat.eq_zero_or_pos m with e | e
      · exact .inl e
      · exact .inr (h m e (by omega))
theorem cptTo_mem {f : α → κ} {L : List α} : ∀ m, m ≤ L.length → ∀ x ∈ cptTo f L m, x ∈ L.take m
  | 0, _, x, h => by simp [cptTo] at h
  | m + 1, hm, x, h => by
    have ih := cptTo_mem (f := f) (L := L) m (by omega) x
    rw [List.take_succ_eq_append_getElem (show m < L.length by omega)]
    unfold cptTo at h
    split at h
    · rcases List.mem_append.1 h with h | h
      · exact List.mem_append_left _ (ih h)
      · refine List.mem_append_right _ ?_
        rw [List.getD_eq_getElem?_getD, List.getElem?_eq_getElem (show m < L.length by omega)] at h
        exact h
    · exact List.mem_append_left _ (ih h)
/-- no key is lost -/
theorem cptTo_key {f : α → κ} {L : List α} : ∀ m, m ≤ L.length → ∀ x ∈ L.take m, ∃ y ∈ cptTo f L m, f y = f x
  | 0, _, x, h => by simp at h
  | m + 1, hm, x, h => by
    have ih := cptTo_key (f := f) (L := L) m (by omega)
    have hL : L.getD m default = L[m] := by rw [List.getD_eq_getElem?_getD, List.getElem?_eq_getElem (show m < L.length by omega)]; rfl
    rw [List.take_succ_eq_append_getElem (show m < L.length by omega)] at h
    unfold cptTo
    split
    · rcases List.mem_append.1 h with h | h
      · obtain ⟨y, hy, e⟩ := ih x h
        exact ⟨y, List.mem_append_left _ hy, e⟩
      · rw [List.mem_singleton] at h
        exact ⟨L.getD m default, List.mem_append_right _ (by simp), by rw [h, hL]⟩
    · next hc =>
      rcases List.mem_append.1 h with h | h
      · exact ih x h
      · rw [List.mem_singleton] at h
        have h0 : m ≠ 0 := fun e => hc (.inl e)
        have h1 : f (L.getD m default) = f (L.getD (m - 1) default) := Decidable.not_not.1 fun e => hc (.inr e)
        have hm1 : L.getD (m - 1) default ∈ L.take m := by
          rw [List.getD_eq_getElem?_getD, List.getElem?_eq_getElem (show m - 1 < L.length by omega)]
          exact List.mem_take_iff_getElem.2 ⟨m - 1, by omega, rfl⟩
        obtain ⟨y, hy, e⟩ := ih _ hm1
        exact ⟨y, hy, by rw [e, ← h1, hL, h]⟩
/-- of a row in order it rises -/
theorem cptTo_rise {f : α → κ} {L : List α} (lt : κ → κ → Prop) (htr : ∀ a b c, lt a b → lt b c → lt a c) (hs : ∀ i j, i < j → j < L.length → lt (f (L.getD i default)) (f (L.getD j default)) ∨ f (L.getD i default) = f (L.getD j default)) :
    ∀ m, m ≤ L.length → (cptTo f L m).Pairwise fun x y => lt (f x) (f y)
  | 0, _ => by simp [cptTo]
  | m + 1, hm => by
    have ih := cptTo_rise lt htr hs m (by omega)
    by_cases hc : m = 0 ∨ f (L.getD m default) ≠ f (L.getD (m - 1) default)
    · rw [cptTo_new hc]
      refine List.pairwise_append.2 ⟨ih, by simp, fun x hx y hy => ?_⟩
      rw [List.mem_singleton] at hy
      subst hy
      have hx' := cptTo_mem m (by omega) x hx
      obtain ⟨j, hj, e⟩ := List.mem_take_iff_getElem.1 hx'
      have hj' : j < m := by omega
      have hxe : x = L.getD j default := by rw [List.getD_eq_getElem?_getD, List.getElem?_eq_getElem (show j < L.length by omega), ← e]; rfl
      have hne : f (L.getD m default) ≠ f (L.getD (m - 1) default) := by rcases hc with h | h; omega; exact h
      have hlt : lt (f (L.getD (m - 1) default)) (f (L.getD m default)) := by
        rcases hs (m - 1) m (by omega) (by omega) with h | h
        · exact h
        · exact absurd h.symm hne
      rw [hxe]
      rcases Nat.lt_or_ge j (m - 1) with h1 | h1
      · rcases hs j (m - 1) h1 (by omega) with h | h
        · exact htr _ _ _ h hlt
        · rw [h]; exact hlt
      · obtain rfl : j = m - 1 := by omega
        exact hlt
    · rw [cptTo, if_neg hc]; exact ih
end
/-! ## In memory -/
theorem Blk.setCells {w : World} {g : Nat} {t : TypeId} : ∀ (vs cs : List Value) (o : Nat), Blk w g t cs.toArray → o + vs.length ≤ cs.length → Blk (w.setCells g o vs) g t (cs.take o ++ vs ++ cs.drop (o + vs.length)).toArray
  | [], cs, o, h, _ => by
    have e : (cs.take o ++ [] ++ cs.drop (o + ([] : List Value).length)) = cs := by simp
    rw [e]; exact h
  | v :: vs, cs, o, h, hl => by
    simp only [List.length_cons] at hl
    have h1 := h.put o v
    have e : cs.toArray.setIfInBounds o v = (cs.set o v).toArray := by simp
    rw [e] at h1
    have ih := Blk.setCells vs (cs.set o v) (o + 1) h1 (by simp; omega)
    have e2 : (cs.set o v).take (o + 1) ++ vs ++ (cs.set o v).drop (o + 1 + vs.length) = cs.take o ++ (v :: vs) ++ cs.drop (o + (v :: vs).length) := by
      rw [List.drop_set_of_lt (by omega), List.take_set]
      have : (cs.take (o + 1)).set o v = cs.take o ++ [v] := by
        rw [List.take_succ_eq_append_getElem (show o < cs.length by omega), List.set_append_right _ _ (by simp; omega)]
        simp [Nat.min_eq_left (by omega : o ≤ cs.length)]
      rw [this]
      simp [Nat.add_assoc, Nat.add_comm 1]
    rw [e2] at ih
    exact ih
theorem Chg.wide {w w' : World} {X Y : Nat → Prop} (h : Chg w w' X) (hx : ∀ k, X k → Y k) : Chg w w' Y := ⟨h.os, h.tape, h.output, h.size, fun k hk hy => h.block k hk fun hX => hy (hx k hX)⟩
theorem Chg.setCells (g : Nat) : ∀ (vs : List Value) (o : Nat) (w : World), Chg w (w.setCells g o vs) fun k => k = g
  | [], o, w => ⟨rfl, rfl, rfl, Nat.le_refl _, fun _ _ _ => rfl⟩
  | v :: vs, o, w => by
    have h1 := Chg.set w g o v
    have h2 := Chg.setCells g vs (o + 1) (w.setCell ⟨g, o, none⟩ v)
    exact (h1.trans h2).wide (fun k h => by rcases h with h | h <;> exact h)
/-- a row that is being made less: P stands ahead, from m - 1 on all is as it was -/
def CptM (w : World) (g : Nat) (t : TypeId) (O : List Value) (sz : Nat) (P : List Value) (m : Nat) : Prop :=
  ∃ cur : List Value, Blk w g t cur.toArray ∧ cur.length = O.length ∧ cur.take P.length = P ∧ cur.drop ((m - 1) * sz) = O.drop ((m - 1) * sz)
theorem CptM.start {w : World} {g : Nat} {t : TypeId} {O : List Value} {sz : Nat} {P : List Value} {m : Nat} (h : Blk w g t O.toArray) (hp : O.take P.length = P) : CptM w g t O sz P m := ⟨O, h, rfl, hp, rfl⟩
theorem CptM.lt {w : World} {g : Nat} {t : TypeId} {O : List Value} {sz : Nat} {P : List Value} {m : Nat} (h : CptM w g t O sz P m) : g < w.heap.size := by obtain ⟨cur, hb, _⟩ := h; exact hb.lt
theorem CptM.keep {w w' : World} {g : Nat} {t : TypeId} {O : List Value} {sz : Nat} {P : List Value} {m : Nat} (h : CptM w g t O sz P m) (hb : Below w.heap.size w w') : CptM w' g t O sz P m := by
  obtain ⟨cur, h1, h2⟩ := h
  exact ⟨cur, h1.keep hb, h2⟩
theorem CptM.more {w : World} {g : Nat} {t : TypeId} {O : List Value} {sz : Nat} {P : List Value} {m m' : Nat} (h : CptM w g t O sz P m) (hm : m ≤ m') : CptM w g t O sz P m' := by
  obtain ⟨cur, h1, h2, h3, h4⟩ := h
  refine ⟨cur, h1, h2, h3, ?_⟩
  have e : (m' - 1) * sz = (m - 1) * sz + ((m' - 1) * sz - (m - 1) * sz) := by have := Nat.mul_le_mul_right sz (show m - 1 ≤ m' - 1 by omega); omega
  rw [e, ← List.drop_drop, h4, List.drop_drop]
/-- a cell that is as it was -/
theorem CptM.cell {w : World} {g : Nat} {t : TypeId} {O : List Value} {sz : Nat} {P : List Value} {m : Nat} (h : CptM w g t O sz P m) {i : Nat} (hi : (m - 1) * sz ≤ i) : w.cell? ⟨g, i, none⟩ = O[i]? := by
  obtain ⟨cur, h1, h2, h3, h4⟩ := h
  rw [h1.cell i]
  have e : i = (m - 1) * sz + (i - (m - 1) * sz) := by omega
  have h5 := congrArg (fun l : List Value => l[i - (m - 1) * sz]?) h4
  simp only [List.getElem?_drop] at h5
  rw [← e] at h5
  simpa using h5
/-- that something is there, and may be written -/
theorem CptM.there {w : World} {g : Nat} {t : TypeId} {O : List Value} {sz : Nat} {P : List Value} {m : Nat} (h : CptM w g t O sz P m) {i : Nat} (hi : i < O.length) : ∃ v, w.cell? ⟨g, i, none⟩ = some v ∧ w.frozen? ⟨g, i, none⟩ = false := by
  obtain ⟨cur, h1, h2, -, -⟩ := h
  have hi' : i < cur.length := by omega
  exact ⟨cur[i], by rw [h1.cell i]; simp [hi'], h1.free i⟩
theorem CptM.put {w : World} {g : Nat} {t : TypeId} {O : List Value} {sz : Nat} {P : List Value} {m : Nat} (h : CptM w g t O sz P m) (vs : List Value) (hv : vs.length = sz) (hp : P.length + sz ≤ m * sz) (hm : m * sz ≤ O.length) : CptM (w.setCells g P.length vs) g t O sz (P ++ vs) (m + 1) := by
  obtain ⟨cur, h1, h2, h3, h4⟩ := h
  refine ⟨_, Blk.setCells vs cur P.length h1 (by omega), ?_, ?_, ?_⟩
  · simp; omega
  · rw [h3, List.take_append_of_le_length (by simp), List.length_append, List.take_of_length_le (by simp)]
  · have hmm : (m - 1) * sz + sz = m * sz ∨ m * sz ≤ sz := by
      rcases Nat.eq_zero_or_pos m with e | e
      · subst e; exact .inr (by omega)
      · refine .inl ?_
        have : (m - 1 + 1) * sz = m * sz := by rw [show m - 1 + 1 = m by omega]
        rw [← this, Nat.add_mul]; omega
    have hle : (m - 1) * sz ≤ m * sz := Nat.mul_le_mul_right _ (by omega)
    have h5 : cur.drop (m * sz) = O.drop (m * sz) := by
      have e : m * sz = (m - 1) * sz + (m * sz - (m - 1) * sz) := by omega
      rw [e, ← List.drop_drop, h4, List.drop_drop]
    rw [Nat.add_sub_cancel, List.drop_append, List.drop_drop, List.length_append, List.length_take, Nat.min_eq_left (by omega), List.drop_eq_nil_of_le (by simp; omega), List.nil_append, hv, show P.length + sz + (m * sz - (P.length + sz)) = m * sz by omega]
    exact h5
end Go.Proofs.YtkhlllbceceikaaDoor
