/- The law FabricReach's own marks: a list of bools that is filled until nothing turns. Plain, no program here. -/
import Derived.Test.YtpfhokhkbedkbaaFabR
namespace Go.Proofs.Ytpfhokhkbedkbaa
set_option linter.unusedVariables false
set_option linter.unusedSimpArgs false

/-- the cells of bools -/
def bc (M : List Bool) : List Value := M.map Value.bool
theorem bc_length (M : List Bool) : (bc M).length = M.length := by simp [bc]
theorem bc_get (M : List Bool) {k : Nat} (h : k < M.length) : (bc M)[k]? = some (.bool (M.getD k false)) := by
  simp [bc, List.getD_eq_getElem?_getD, List.getElem?_eq_getElem h]
theorem bc_set (M : List Bool) (k : Nat) (b : Bool) : (bc M).set k (.bool b) = bc (M.set k b) := by simp [bc, List.map_set]
theorem bc_replicate (N : Nat) (b : Bool) : List.replicate N (Value.bool b) = bc (List.replicate N b) := by simp [bc]

theorem marks_eq (a b : Int) : (!(decide (a = b) == (a == b))) = false := by by_cases h : a = b <;> simp [h]
theorem bne_mk {u v : Bool} (h : u ≠ v) : (!(u == v)) = true := by cases u <;> cases v <;> simp_all

/-- how many are not set -/
def falses : List Bool → Nat
  | [] => 0
  | b :: l => (if b then 0 else 1) + falses l
theorem falses_set_le : ∀ (l : List Bool) (i : Nat), falses (l.set i true) ≤ falses l
  | [], _ => by simp [falses]
  | b :: l, 0 => by simp [falses]
  | b :: l, i + 1 => by have := falses_set_le l i; simp only [List.set_cons_succ, falses]; omega
theorem falses_set_lt : ∀ (l : List Bool) (i : Nat), i < l.length → l.getD i false = false → falses (l.set i true) < falses l
  | [], i, h, _ => by simp at h
  | b :: l, 0, _, h => by simp at h; subst h; simp [falses]
  | b :: l, i + 1, h, h1 => by
    have := falses_set_lt l i (by simpa using h) (by simpa using h1)
    simp only [List.set_cons_succ, falses]; omega
theorem getD_set (l : List Bool) (i j : Nat) (h : i < l.length) (b : Bool) : (l.set i b).getD j false = if i = j then b else l.getD j false := by
  simp only [List.getD_eq_getElem?_getD, List.getElem?_set]
  by_cases e : i = j
  · subst e; simp [h]
  · simp [e]

/-- what the marks are good for at any time -/
structure Marks (W H T : Int) (N f : Nat) (t : Int) (M : List Bool) : Prop where
  len : M.length = N
  first : M.getD f false = true
  sound : ∀ n : Nat, M.getD n false = true → trackB W H T n = true ∧ whT W H T n = t
/-- a switch between two marked tracks, or two that are not -/
def Even (W H T : Int) (M : List Bool) (p : Int × Int) : Prop := trackB W H T p.1 = true → trackB W H T p.2 = true → M.getD p.1.toNat false = M.getD p.2.toNat false
/-- within a round: so many switches are gone through -/
structure Going (W H T : Int) (N f : Nat) (t : Int) (L : List (Int × Int)) (F : Nat) (M : List Bool) (c : Bool) (k : Nat) : Prop where
  marks : Marks W H T N f t M
  le : falses M ≤ F
  lt : c = true → falses M < F
  even : c = false → ∀ j, j < k → Even W H T M L[j]!

section
variable {W H T : Int} {N f : Nat} {t : Int} {L : List (Int × Int)} {F : Nat} {M : List Bool} {c : Bool} {k : Nat}
theorem Going.start (h : Marks W H T N f t M) : Going W H T N f t L (falses M) M false 0 := ⟨h, Nat.le_refl _, fun h => by simp at h, fun _ j hj => by omega⟩
theorem Going.skip (h : Going W H T N f t L F M c k) (he : Even W H T M L[k]!) : Going W H T N f t L F M c (k + 1) :=
  ⟨h.marks, h.le, h.lt, fun hc j hj => by
    by_cases e : j = k
    · subst e; exact he
    · exact h.even hc j (by omega)⟩
theorem Going.step (h : Going W H T N f t L F M c k) {a b : Nat} (ha : a < N) (hb : b < N) (hta : trackB W H T a = true) (htb : trackB W H T b = true) (ht : whT W H T a = whT W H T b) (hne : M.getD a false ≠ M.getD b false) :
    Going W H T N f t L F ((M.set a true).set b true) true (k + 1) := by
  have hl := h.marks.len
  have hab : a ≠ b := by rintro rfl; exact hne rfl
  have hlt : falses ((M.set a true).set b true) < falses M := by
    cases hA : M.getD a false with
    | false => exact Nat.lt_of_le_of_lt (falses_set_le _ _) (falses_set_lt M a (by omega) hA)
    | true =>
      have hB : M.getD b false = false := by
        cases hB : M.getD b false
        · rfl
        · rw [hA, hB] at hne; exact absurd rfl hne
      refine Nat.lt_of_lt_of_le (falses_set_lt (M.set a true) b (by simp; omega) ?_) (falses_set_le M a)
      rw [getD_set M a b (by omega), if_neg hab]
      exact hB
  have hT : whT W H T a = t := by
    cases hA : M.getD a false with
    | true => exact (h.marks.sound a hA).2
    | false =>
      cases hB : M.getD b false with
      | true => rw [ht]; exact (h.marks.sound b hB).2
      | false => rw [hA, hB] at hne; exact absurd rfl hne
  refine ⟨⟨by simp [hl], ?_, ?_⟩, by have := h.le; omega, fun _ => by have := h.le; omega, fun h => by simp at h⟩
  · rw [getD_set _ _ _ (by simp; omega), getD_set _ _ _ (by omega)]
    split
    · rfl
    · split
      · rfl
      · exact h.marks.first
  · intro n hn
    rw [getD_set _ _ _ (by simp; omega), getD_set _ _ _ (by omega)] at hn
    by_cases e1 : b = n
    · subst e1; exact ⟨htb, by rw [← ht]; exact hT⟩
    · rw [if_neg e1] at hn
      by_cases e2 : a = n
      · subst e2; exact ⟨hta, hT⟩
      · rw [if_neg e2] at hn
        exact h.marks.sound n hn
/-- at the end all tracks of the t are marked, and no others -/
theorem Going.all (h : Going W H T N f t L F M false k) (hk : k = L.length) (hL : ∀ p ∈ rawL W H T, p ∈ L) (ho : okA W H T) (hN : nodesI W H T = N) (hf : trackB W H T f = true) (hft : whT W H T f = t) {n : Nat} (hn : trackB W H T n = true) :
    M.getD n false = decide (whT W H T n = t) := by
  have hs : Shut W H T (fun n => M.getD n.toNat false) := by
    intro p hp h1 h2
    have hp' : p ∈ L := hL p hp
    obtain ⟨j, hj, e⟩ := List.mem_iff_getElem.1 hp'
    have := h.even rfl j (by omega)
    rw [getElem!_pos L j hj, e] at this
    exact this h1 h2
  by_cases e : whT W H T n = t
  · have := shut_same ho hs hn hf (e.trans hft.symm)
    simp only [Int.toNat_natCast] at this
    rw [this, h.marks.first]
    simp [e]
  · cases hm : M.getD n false
    · simp [e]
    · exact absurd (h.marks.sound n hm).2 e
end
end Go.Proofs.Ytpfhokhkbedkbaa
