/- Which tables gates are made, plainly: the literals that are told, their nodes. · What tables tell, plainly: values, levels, how many there are, each is used. · What cuts tell, plainly: tables mean what nodes are; all sets are cuts; first sets are least deep. · Which tables gates are made, plainly: of gates. -/
import Derived.Test.YtaajnmggbhnndaaGreatDoorZNet
namespace Go.Proofs.YtaajnmggbhnndaaGreatDoor
open Go.RowKit
set_option linter.unusedVariables false
set_option linter.unusedSimpArgs false
/-- gates, as far as tables are made of them: the first gate's node, how many nodes there are, each gate's first cut, the literals that are told -/
structure MP where
  F : Nat
  N : Nat
  C : Nat → List Nat
  T : Nat → Nat
  ts : List Nat
structure MP.Ok (M : MP) : Prop where
  f : 0 < M.F ∧ M.F ≤ M.N
  c : ∀ x, M.F ≤ x → x < M.N → ∀ z ∈ M.C x, 1 ≤ z ∧ z < x
  t : ∀ a ∈ M.ts, a < 2 * M.N
def mayL (F a : Nat) : Bool := decide (a % 2 = 1) || decide (F ≤ a / 2)
def tellN (F : Nat) (nd : List Bool) (a : Nat) : List Bool := nd.set a (mayL F a)
def tells (F : Nat) (nd : List Bool) (l : List Nat) : List Bool := l.foldl (tellN F) nd
theorem tellN_len (F : Nat) (nd : List Bool) (a : Nat) : (tellN F nd a).length = nd.length := by unfold tellN; rw [List.length_set]
theorem tells_len (F : Nat) : ∀ (l : List Nat) (nd : List Bool), (tells F nd l).length = nd.length
  | [], nd => rfl
  | a :: l, nd => by
    have := tells_len F l (tellN F nd a)
    rw [tellN_len] at this
    exact this
def InvN (F : Nat) (nd : List Bool) : Prop := ∀ a, nd.getD a false = true → mayL F a = true
theorem getD_setN {α : Type} (l : List α) (a x : Nat) (b d : α) : (l.set a b).getD x d = if x = a ∧ a < l.length then b else l.getD x d := by
  rw [List.getD_eq_getElem?_getD, List.getElem?_set, List.getD_eq_getElem?_getD]
  by_cases h : a = x
  · subst h
    by_cases h2 : a < l.length
    · simp [h2]
    · simp [h2]
  · have h' : ¬ x = a := fun e => h e.symm
    simp [h, h']
theorem InvN.tell {F : Nat} {nd : List Bool} (h : InvN F nd) (a : Nat) : InvN F (tellN F nd a) := by
  intro x hx
  unfold tellN at hx
  rw [getD_setN] at hx
  split at hx
  · rename_i h1; rw [h1.1]; exact hx
  · exact h x hx
theorem InvN.tells {F : Nat} : ∀ {l : List Nat} {nd : List Bool}, InvN F nd → InvN F (tells F nd l)
  | [], nd, h => h
  | a :: l, nd, h => InvN.tells (l := l) (h.tell a)
theorem InvN.start (F n : Nat) : InvN F (List.replicate n false) := by
  intro a h
  rw [List.getD_eq_getElem?_getD, List.getElem?_replicate] at h
  split at h <;> cases h
/-- the program tells the same -/
theorem InvN.or {F : Nat} {nd : List Bool} (h : InvN F nd) (a : Nat) : (nd.getD a false || mayL F a) = mayL F a := by
  cases e : nd.getD a false with
  | false => rfl
  | true => rw [h a e]; rfl
theorem tellN_get {F : Nat} {nd : List Bool} (h : InvN F nd) {a : Nat} (ha : a < nd.length) (x : Nat) : (tellN F nd a).getD x false = (nd.getD x false || (decide (x = a) && mayL F x)) := by
  unfold tellN
  rw [getD_setN]
  by_cases e : x = a
  · subst e
    rw [if_pos ⟨rfl, ha⟩, decide_eq_true rfl, Bool.true_and, h.or]
  · rw [if_neg (fun h => e h.1), decide_eq_false e, Bool.false_and, Bool.or_false]
theorem tells_get {F : Nat} : ∀ {l : List Nat} {nd : List Bool}, InvN F nd → (∀ a ∈ l, a < nd.length) → ∀ x, (tells F nd l).getD x false = (nd.getD x false || (decide (x ∈ l) && mayL F x))
  | [], nd, h, hl, x => by simp [tells]
  | a :: l, nd, h, hl, x => by
    have ih := tells_get (l := l) (h.tell a) (fun b hb => by rw [tellN_len]; exact hl b (List.mem_cons_of_mem _ hb)) x
    rw [show tells F nd (a :: l) = tells F (tellN F nd a) l from rfl, ih, tellN_get h (hl a (List.mem_cons_self ..))]
    by_cases e : x = a
    · subst e
      simp only [decide_true, Bool.true_and, List.mem_cons_self]
      cases nd.getD x false <;> cases mayL F x <;> simp
    · simp [e]
def MP.nd0 (M : MP) : List Bool := tells M.F (List.replicate (2 * M.N) false) M.ts
/-- is a node made, turned or not -/
def needX (nd : List Bool) (x : Nat) : Bool := nd.getD (2 * x) false || nd.getD (2 * x + 1) false
def MP.back (M : MP) : Nat → List Bool
  | 0 => M.nd0
  | j + 1 => if needX (M.back j) (M.N - 1 - j) = true then tells M.F (M.back j) ((M.C (M.N - 1 - j)).map (2 * ·)) else M.back j
def MP.nd (M : MP) : List Bool := M.back (M.N - M.F)
theorem MP.back_len (M : MP) : ∀ j, (M.back j).length = 2 * M.N
  | 0 => by rw [MP.back, MP.nd0, tells_len, List.length_replicate]
  | j + 1 => by
    rw [MP.back]
    split
    · rw [tells_len, M.back_len j]
    · exact M.back_len j
theorem MP.back_inv (M : MP) : ∀ j, InvN M.F (M.back j)
  | 0 => InvN.tells (InvN.start _ _)
  | j + 1 => by
    rw [MP.back]
    split
    · exact InvN.tells (M.back_inv j)
    · exact M.back_inv j
theorem MP.nd_len (M : MP) : M.nd.length = 2 * M.N := M.back_len _
theorem MP.nd_inv (M : MP) : InvN M.F M.nd := M.back_inv _
variable {M : MP}
theorem MP.Ok.step (h : M.Ok) {j : Nat} (hj : j < M.N - M.F) (a : Nat) : (M.back (j + 1)).getD a false = ((M.back j).getD a false || (needX (M.back j) (M.N - 1 - j) && (decide (a ∈ (M.C (M.N - 1 - j)).map (2 * ·)) && mayL M.F a))) := by
  rw [MP.back]
  split
  · rename_i hn
    rw [tells_get (M.back_inv j), hn, Bool.true_and]
    intro b hb
    obtain ⟨z, hz, rfl⟩ := List.mem_map.1 hb
    have := h.c (M.N - 1 - j) (by omega) (by have := h.f; omega) z hz
    rw [M.back_len]
    have := h.f
    omega
  · rename_i hn
    rw [Bool.not_eq_true] at hn
    rw [hn, Bool.false_and, Bool.or_false]
/-- what lies behind the gates that were seen does not change -/
theorem MP.Ok.stay (h : M.Ok) {j : Nat} (a : Nat) (ha : M.N ≤ a / 2 + 1 + j) : ∀ i, j ≤ i → i ≤ M.N - M.F → (M.back i).getD a false = (M.back j).getD a false
  | 0, hi, _ => by obtain rfl : j = 0 := by omega
                   rfl
  | i + 1, hi, hm => by
    rcases Nat.lt_or_ge i j with h1 | h1
    · obtain rfl : j = i + 1 := by omega
      rfl
    · rw [h.step (by omega), h.stay a ha i h1 (by omega)]
      have : ¬ a ∈ (M.C (M.N - 1 - i)).map (2 * ·) := by
        intro hb
        obtain ⟨z, hz, rfl⟩ := List.mem_map.1 hb
        have := h.c (M.N - 1 - i) (by omega) (by have := h.f; omega) z hz
        omega
      rw [decide_eq_false this, Bool.false_and, Bool.and_false, Bool.or_false]
theorem MP.Ok.nd0_iff (h : M.Ok) (a : Nat) : M.nd0.getD a false = (decide (a ∈ M.ts) && mayL M.F a) := by
  unfold MP.nd0
  rw [tells_get (InvN.start _ _) (fun b hb => by rw [List.length_replicate]; exact h.t b hb), List.getD_eq_getElem?_getD, List.getElem?_replicate]
  split <;> simp
/-- which literals are made -/
theorem MP.Ok.back_iff (h : M.Ok) (a : Nat) : ∀ j, j ≤ M.N - M.F → ((M.back j).getD a false = true ↔ mayL M.F a = true ∧ (a ∈ M.ts ∨ ∃ x, M.N ≤ x + j ∧ x < M.N ∧ needX M.nd x = true ∧ ∃ z ∈ M.C x, a = 2 * z))
  | 0, _ => by
    rw [MP.back, h.nd0_iff, Bool.and_eq_true, decide_eq_true_eq]
    constructor
    · rintro ⟨h1, h2⟩; exact ⟨h2, .inl h1⟩
    · rintro ⟨h2, h1 | ⟨x, h3, h4, _⟩⟩
      · exact ⟨h1, h2⟩
      · omega
  | j + 1, hj => by
    have ih := h.back_iff a j (by omega)
    have hn : needX (M.back j) (M.N - 1 - j) = needX M.nd (M.N - 1 - j) := by
      unfold needX MP.nd
      rw [h.stay (j := j) (2 * (M.N - 1 - j)) (by omega) (M.N - M.F) (by omega) (Nat.le_refl _), h.stay (j := j) (2 * (M.N - 1 - j) + 1) (by omega) (M.N - M.F) (by omega) (Nat.le_refl _)]
    rw [h.step (by omega), Bool.or_eq_true, ih, hn, Bool.and_eq_true, Bool.and_eq_true, decide_eq_true_eq, List.mem_map]
    constructor
    · rintro (⟨h1, h2 | ⟨x, h3, h4, h5⟩⟩ | ⟨h1, ⟨z, hz, rfl⟩, h2⟩)
      · exact ⟨h1, .inl h2⟩
      · exact ⟨h1, .inr ⟨x, by omega, h4, h5⟩⟩
      · exact ⟨h2, .inr ⟨M.N - 1 - j, by omega, by omega, h1, z, hz, rfl⟩⟩
    · rintro ⟨h1, h2 | ⟨x, h3, h4, h5, z, hz, rfl⟩⟩
      · exact .inl ⟨h1, .inl h2⟩
      · rcases Nat.lt_or_ge (x + j) M.N with h6 | h6
        · obtain rfl : x = M.N - 1 - j := by omega
          exact .inr ⟨h5, ⟨z, hz, rfl⟩, h1⟩
        · exact .inl ⟨h1, .inr ⟨x, h6, h4, h5, z, hz, rfl⟩⟩
theorem MP.Ok.nd_iff (h : M.Ok) (a : Nat) : M.nd.getD a false = true ↔ mayL M.F a = true ∧ (a ∈ M.ts ∨ ∃ x, M.F ≤ x ∧ x < M.N ∧ needX M.nd x = true ∧ ∃ z ∈ M.C x, a = 2 * z) := by
  have hf := h.f
  rw [MP.nd, h.back_iff a (M.N - M.F) (Nat.le_refl _)]
  constructor
  · rintro ⟨h1, h2 | ⟨x, h3, h4, h5⟩⟩
    · exact ⟨h1, .inl h2⟩
    · exact ⟨h1, .inr ⟨x, by omega, h4, h5⟩⟩
  · rintro ⟨h1, h2 | ⟨x, h3, h4, h5⟩⟩
    · exact ⟨h1, .inl h2⟩
    · exact ⟨h1, .inr ⟨x, by omega, h4, h5⟩⟩
/-- a literal that may be looked up: it is made, or a node that is no gate -/
def MP.good (M : MP) (a : Nat) : Prop := a < 2 * M.N ∧ (mayL M.F a = true → M.nd.getD a false = true)
theorem MP.Ok.ts_good (h : M.Ok) {a : Nat} (ha : a ∈ M.ts) : M.good a := ⟨h.t a ha, fun hm => (h.nd_iff a).2 ⟨hm, .inl ha⟩⟩
theorem MP.Ok.leaf_good (h : M.Ok) {x z : Nat} (hx : M.F ≤ x) (hx2 : x < M.N) (hn : needX M.nd x = true) (hz : z ∈ M.C x) : M.good (2 * z) :=
  ⟨by have := h.c x hx hx2 z hz; omega, fun hm => (h.nd_iff _).2 ⟨hm, .inr ⟨x, hx, hx2, hn, z, hz, rfl⟩⟩⟩
/-- the literals that are made, ahead of one -/
def litsTo (nd : List Bool) : Nat → List Nat
  | 0 => []
  | a + 1 => if nd.getD a false = true then litsTo nd a ++ [a] else litsTo nd a
def MP.idx (M : MP) (a : Nat) : Nat := (litsTo M.nd a).length
def MP.lits (M : MP) : List Nat := litsTo M.nd (2 * M.N)
def MP.at_ (M : MP) (a : Nat) : Nat := if M.nd.getD a false = true then M.F + M.idx a else a / 2
theorem litsTo_mem (nd : List Bool) (b : Nat) : ∀ n, b ∈ litsTo nd n ↔ b < n ∧ nd.getD b false = true
  | 0 => by simp [litsTo]
  | a + 1 => by
    have ih := litsTo_mem nd b a
    rw [litsTo]
    split
    · rename_i h
      rw [List.mem_append, ih, List.mem_singleton]
      constructor
      · rintro (h1 | rfl)
        · exact ⟨by omega, h1.2⟩
        · exact ⟨by omega, h⟩
      · rintro ⟨h1, h2⟩
        rcases Nat.lt_succ_iff_lt_or_eq.1 h1 with h3 | h3
        · exact .inl ⟨h3, h2⟩
        · exact .inr h3
    · rename_i h
      rw [ih]
      constructor
      · rintro ⟨h1, h2⟩; exact ⟨by omega, h2⟩
      · rintro ⟨h1, h2⟩
        refine ⟨?_, h2⟩
        rcases Nat.lt_succ_iff_lt_or_eq.1 h1 with h3 | h3
        · exact h3
        · subst h3; exact absurd h2 h
/-- the first ones are the first ones -/
theorem litsTo_pre (nd : List Bool) {a : Nat} : ∀ n, a ≤ n → ∃ l, litsTo nd n = litsTo nd a ++ l
  | 0, h => by obtain rfl : a = 0 := by omega
               exact ⟨[], by simp⟩
  | n + 1, h => by
    rcases Nat.lt_or_ge n a with h1 | h1
    · obtain rfl : a = n + 1 := by omega
      exact ⟨[], by simp⟩
    · obtain ⟨l, hl⟩ := litsTo_pre nd n h1
      rw [litsTo]
      split
      · exact ⟨l ++ [n], by rw [hl, List.append_assoc]⟩
      · exact ⟨l, hl⟩
theorem litsTo_mono (nd : List Bool) {a n : Nat} (h : a ≤ n) : (litsTo nd a).length ≤ (litsTo nd n).length := by
  obtain ⟨l, hl⟩ := litsTo_pre nd n h
  rw [hl, List.length_append]; omega
theorem litsTo_lt (nd : List Bool) {a n : Nat} (h : a < n) (ha : nd.getD a false = true) : (litsTo nd a).length < (litsTo nd n).length := by
  have := litsTo_mono nd (show a + 1 ≤ n from h)
  rw [litsTo, if_pos ha, List.length_append] at this
  simp only [List.length_singleton] at this
  omega
/-- the literal's place is its own -/
theorem litsTo_at (nd : List Bool) {a n : Nat} (h : a < n) (ha : nd.getD a false = true) : (litsTo nd n)[(litsTo nd a).length]? = some a := by
  obtain ⟨l, hl⟩ := litsTo_pre nd n (show a + 1 ≤ n from h)
  rw [litsTo, if_pos ha] at hl
  rw [hl, List.append_assoc, List.getElem?_append_right (Nat.le_refl _), Nat.sub_self]
  rfl
theorem litsTo_behind (nd : List Bool) {b : Nat} : ∀ {n : Nat} {l : List Nat}, litsTo nd n = litsTo nd (b + 1) ++ l → b ∈ l → False := by
  intro n
  induction n with
  | zero =>
    intro l hl hb
    have h0 := congrArg List.length hl
    rw [List.length_append] at h0
    have h1 : l.length = 0 := by
      have : (litsTo nd 0).length = 0 := rfl
      omega
    rw [List.length_eq_zero_iff.1 h1] at hb
    cases hb
  | succ n ih =>
    intro l hl hb
    rcases Nat.lt_or_ge n (b + 1) with h1 | h1
    · have h2 := litsTo_mono nd (show n + 1 ≤ b + 1 from h1)
      have h3 := congrArg List.length hl
      rw [List.length_append] at h3
      have h4 : l.length = 0 := by omega
      rw [List.length_eq_zero_iff.1 h4] at hb; cases hb
    · obtain ⟨m, hm⟩ := litsTo_pre nd n h1
      rw [litsTo] at hl
      split at hl
      · rw [hm, List.append_assoc] at hl
        have hl2 := List.append_cancel_left hl
        rw [← hl2] at hb
        rcases List.mem_append.1 hb with h5 | h5
        · exact ih hm h5
        · have := List.mem_singleton.1 h5; omega
      · exact ih hl hb
theorem litsTo_idx (nd : List Bool) (i : Nat) : ∀ n, ∀ h : i < (litsTo nd n).length, (litsTo nd n)[i] < n ∧ nd.getD (litsTo nd n)[i] false = true ∧ (litsTo nd (litsTo nd n)[i]).length = i := by
  intro n h
  have hm := (litsTo_mem nd _ n).1 (List.getElem_mem h)
  refine ⟨hm.1, hm.2, ?_⟩
  have hat := litsTo_at nd hm.1 hm.2
  -- both places hold the same literal
  generalize hb : (litsTo nd n)[i] = b at hat hm ⊢
  have hlt := litsTo_lt nd hm.1 hm.2
  rcases Nat.lt_trichotomy (litsTo nd b).length i with h1 | h1 | h1
  · exfalso
    -- i lies behind b's place: what lies there is greater
    obtain ⟨l, hl⟩ := litsTo_pre nd n (show b + 1 ≤ n from hm.1)
    have hs : (litsTo nd (b + 1)).length = (litsTo nd b).length + 1 := by rw [litsTo, if_pos hm.2, List.length_append]; rfl
    have : b ∈ l := by
      have e : (litsTo nd n)[i]? = some b := by rw [List.getElem?_eq_getElem h, hb]
      rw [hl, List.getElem?_append_right (by omega)] at e
      exact List.mem_of_getElem? e
    exact litsTo_behind nd hl this
  · exact h1
  · exfalso
    obtain ⟨l, hl⟩ := litsTo_pre nd n (show b ≤ n by omega)
    have e : (litsTo nd n)[i]? = some b := by rw [List.getElem?_eq_getElem h, hb]
    rw [hl, List.getElem?_append_left h1] at e
    have := (litsTo_mem nd b b).1 (List.mem_of_getElem? e)
    omega
theorem MP.Ok.lits_at (h : M.Ok) {i : Nat} (hi : i < M.lits.length) : M.lits[i] < 2 * M.N ∧ M.nd.getD M.lits[i] false = true ∧ M.idx M.lits[i] = i := litsTo_idx M.nd i _ hi
theorem MP.nd_lt {a : Nat} (h : M.nd.getD a false = true) : a < 2 * M.N := by
  rcases Nat.lt_or_ge a (2 * M.N) with h1 | h1
  · exact h1
  · rw [List.getD_eq_getElem?_getD, List.getElem?_eq_none (by rw [M.nd_len]; exact h1)] at h; cases h
theorem MP.at_lt (h : M.Ok) {a n : Nat} (ha : M.good a) (h1 : a < n) (h2 : n ≤ 2 * M.N) : M.at_ a < M.F + (litsTo M.nd n).length := by
  unfold MP.at_
  split
  · rename_i hn
    have := litsTo_lt M.nd h1 hn
    unfold MP.idx
    omega
  · rename_i hn
    have : ¬ mayL M.F a = true := fun hm => hn (ha.2 hm)
    simp only [mayL, Bool.or_eq_true, decide_eq_true_eq] at this
    omega
/-- literals are the same just if their nodes are -/
theorem MP.at_inj (h : M.Ok) {a b : Nat} (ha : M.good a) (hb : M.good b) (e : M.at_ a = M.at_ b) : a = b := by
  have low : ∀ c, M.good c → ¬ M.nd.getD c false = true → c % 2 = 0 ∧ c / 2 < M.F := fun c hc hn => by
    have : ¬ mayL M.F c = true := fun hm => hn (hc.2 hm)
    simp only [mayL, Bool.or_eq_true, decide_eq_true_eq] at this
    omega
  unfold MP.at_ at e
  by_cases h1 : M.nd.getD a false = true <;> by_cases h2 : M.nd.getD b false = true
  · rw [if_pos h1, if_pos h2] at e
    have e1 : M.idx a = M.idx b := by omega
    unfold MP.idx at e1
    have p1 := litsTo_at M.nd (MP.nd_lt h1) h1
    have p2 := litsTo_at M.nd (MP.nd_lt h2) h2
    rw [e1, p2] at p1
    exact (Option.some.inj p1).symm
  · rw [if_pos h1, if_neg h2] at e
    have := low b hb h2; omega
  · rw [if_neg h1, if_pos h2] at e
    have := low a ha h1; omega
  · rw [if_neg h1, if_neg h2] at e
    have := low a ha h1; have := low b hb h2; omega
/-- the table of a literal that is made -/
def MP.lut (M : MP) (a : Nat) : PC :=
  if M.F ≤ a / 2 then ((M.C (a / 2)).map (fun z => (M.at_ (2 * z) : Int)), if a % 2 = 1 then M.T (a / 2) ^^^ Cut.rows (M.C (a / 2)).length else M.T (a / 2))
  else if 0 < a / 2 then ([((a / 2 : Nat) : Int)], 1) else ([], 1)
def MP.luts (M : MP) : List PC := M.lits.map M.lut
theorem MP.luts_len (M : MP) : M.luts.length = M.lits.length := by unfold MP.luts; rw [List.length_map]
theorem MP.Ok.need (h : M.Ok) {a : Nat} (ha : M.nd.getD a false = true) : needX M.nd (a / 2) = true := by
  unfold needX
  rw [Bool.or_eq_true]
  rcases Nat.mod_two_eq_zero_or_one a with e | e
  · left; rw [show 2 * (a / 2) = a by omega]; exact ha
  · right; rw [show 2 * (a / 2) + 1 = a by omega]; exact ha
/-- all inputs of a table lie ahead of it -/
theorem MP.Ok.lut_in (h : M.Ok) {a : Nat} (ha : M.nd.getD a false = true) : ∀ y ∈ (M.lut a).1, 1 ≤ y ∧ y < ((M.F + M.idx a : Nat) : Int) := by
  have hl := MP.nd_lt ha
  intro y hy
  unfold MP.lut at hy
  split at hy
  · rename_i hF
    obtain ⟨z, hz, rfl⟩ := List.mem_map.1 hy
    have hc := h.c (a / 2) hF (by omega) z hz
    have hg := h.leaf_good hF (by omega) (h.need ha) hz
    have := MP.at_lt h hg (n := a) (by omega) (by omega)
    have h1 : 1 ≤ M.at_ (2 * z) := by
      unfold MP.at_
      split
      · have := h.f; omega
      · omega
    unfold MP.idx
    omega
  · split at hy
    · rename_i h1 h2
      have := List.mem_singleton.1 hy
      subst this
      have : M.F ≤ M.F + M.idx a := Nat.le_add_right _ _
      omega
    · cases hy
end Go.Proofs.YtaajnmggbhnndaaGreatDoor

namespace Go.Proofs.YtaajnmggbhnndaaGreatDoor
open Go.RowKit
set_option linter.unusedVariables false
set_option linter.unusedSimpArgs false
variable {M : MP}
theorem MP.lits_idx {a : Nat} (ha : M.nd.getD a false = true) : ∃ h : M.idx a < M.lits.length, M.lits[M.idx a] = a := by
  have h1 := litsTo_at M.nd (MP.nd_lt ha) ha
  have h2 : M.idx a < M.lits.length := litsTo_lt M.nd (MP.nd_lt ha) ha
  exact ⟨h2, by
    have e : M.lits[M.idx a]? = some a := h1
    rw [List.getElem?_eq_getElem h2] at e
    exact Option.some.inj e⟩
theorem MP.at_yes {a : Nat} (ha : M.nd.getD a false = true) : M.at_ a = M.F + M.idx a := by unfold MP.at_; rw [if_pos ha]
theorem MP.at_no {a : Nat} (hg : M.good a) (ha : ¬ M.nd.getD a false = true) : M.at_ a = a / 2 ∧ a % 2 = 0 ∧ a / 2 < M.F := by
  have : ¬ mayL M.F a = true := fun hm => ha (hg.2 hm)
  simp only [mayL, Bool.or_eq_true, decide_eq_true_eq] at this
  unfold MP.at_; rw [if_neg ha]
  omega
/-- each table is used: by what is told, or by one behind it -/
theorem MP.Ok.used (h : M.Ok) {i : Nat} (hi : i < M.lits.length) : (∃ a ∈ M.ts, M.at_ a = M.F + i) ∨ ∃ j, ∃ hj : j < M.lits.length, i < j ∧ ((M.F + i : Nat) : Int) ∈ (M.lut M.lits[j]).1 := by
  obtain ⟨h1, h2, h3⟩ := h.lits_at hi
  generalize M.lits[i] = a at h1 h2 h3
  have hat : M.at_ a = M.F + i := by rw [MP.at_yes h2, h3]
  rcases (h.nd_iff a).1 h2 with ⟨hm, ht | ⟨x, hx, hx2, hn, z, hz, rfl⟩⟩
  · exact .inl ⟨a, ht, hat⟩
  · right
    obtain ⟨b, hb, hbx⟩ : ∃ b, M.nd.getD b false = true ∧ b / 2 = x := by
      unfold needX at hn
      rw [Bool.or_eq_true] at hn
      rcases hn with hn | hn
      · exact ⟨_, hn, by omega⟩
      · exact ⟨_, hn, by omega⟩
    obtain ⟨hj, hjb⟩ := MP.lits_idx hb
    have hc := h.c x hx hx2 z hz
    refine ⟨M.idx b, hj, ?_, ?_⟩
    · rw [← h3]; exact litsTo_lt M.nd (by omega) h2
    · rw [hjb]
      unfold MP.lut
      rw [if_pos (by omega), hbx]
      exact List.mem_map.2 ⟨z, hz, by rw [hat]⟩
theorem countP_more {α : Type} {p q : α → Bool} : ∀ {l : List α}, (∀ x, p x = true → q x = true) → ∀ a ∈ l, q a = true → p a = false → l.countP p + 1 ≤ l.countP q
  | [], _, a, ha, _, _ => by cases ha
  | x :: l, hpq, a, ha, h1, h2 => by
    have hle : l.countP p ≤ l.countP q := List.countP_mono_left fun x _ hx => hpq x hx
    rcases List.mem_cons.1 ha with e | e
    · subst e
      rw [List.countP_cons, List.countP_cons, h1, h2]
      simp
      omega
    · have ih := countP_more (l := l) hpq a e h1 h2
      rw [List.countP_cons, List.countP_cons]
      have : (if p x = true then 1 else 0) ≤ (if q x = true then 1 else 0) := by
        cases hp : p x with
        | false => simp
        | true => rw [hpq x hp]; simp
      omega
theorem MP.Ok.count_to (h : M.Ok) : ∀ n, (litsTo M.nd n).length ≤ ((n + 1) / 2 - M.F) + M.ts.countP (fun a => decide (a % 2 = 1 ∧ a < n))
  | 0 => by simp [litsTo]
  | a + 1 => by
    have ih := h.count_to a
    rw [litsTo]
    have hmono : M.ts.countP (fun b => decide (b % 2 = 1 ∧ b < a)) ≤ M.ts.countP (fun b => decide (b % 2 = 1 ∧ b < a + 1)) := List.countP_mono_left fun x _ hx => by
      simp only [decide_eq_true_eq] at hx ⊢; omega
    split
    · rename_i hn
      rw [List.length_append, List.length_singleton]
      obtain ⟨hm, hor⟩ := (h.nd_iff a).1 hn
      rcases Nat.mod_two_eq_zero_or_one a with e | e
      · simp only [mayL, Bool.or_eq_true, decide_eq_true_eq] at hm
        omega
      · have ht : a ∈ M.ts := by
          rcases hor with ht | ⟨x, _, _, _, z, _, hz⟩
          · exact ht
          · omega
        have := countP_more (p := fun b => decide (b % 2 = 1 ∧ b < a)) (q := fun b => decide (b % 2 = 1 ∧ b < a + 1)) (l := M.ts) (fun x hx => by simp only [decide_eq_true_eq] at hx ⊢; omega) a ht (by simp only [decide_eq_true_eq]; omega) (by simp)
        omega
    · omega
/-- no more tables than gates, and literals that are turned round -/
theorem MP.Ok.count (h : M.Ok) : M.lits.length ≤ (M.N - M.F) + M.ts.countP (fun a => decide (a % 2 = 1)) := by
  have h1 := h.count_to (2 * M.N)
  have h2 : M.ts.countP (fun a => decide (a % 2 = 1 ∧ a < 2 * M.N)) ≤ M.ts.countP (fun a => decide (a % 2 = 1)) := List.countP_mono_left fun x _ hx => by
    simp only [decide_eq_true_eq] at hx ⊢; exact hx.1
  unfold MP.lits
  omega
theorem bitB_bit (t : Nat) (bs : List Bool) : bitB t bs = t.testBit (rowB bs) := by
  unfold bitB
  rw [Nat.testBit_eq_decide_div_mod_eq]
theorem rows_bitP (m r : Nat) : (Cut.rows m).testBit r = decide (r < 2 ^ m) := by
  unfold Cut.rows
  rw [Nat.testBit_two_pow_sub_one]
/-- a node's value is its literal's -/
theorem MP.Ok.vals (h : M.Ok) (ev : Nat → Bool) (v : List Bool) (h0 : ev 0 = false) (hlow : ∀ x, x < M.F → v.getD x false = ev x)
    (hlut : ∀ i, ∀ hi : i < M.lits.length, v.getD (M.F + i) false = bitB (M.lut M.lits[i]).2 (pickB v (M.lut M.lits[i]).1))
    (hT : ∀ x, M.F ≤ x → x < M.N → ∀ bs : List Bool, bs = (M.C x).map ev → (M.T x).testBit (rowB bs) = ev x) : ∀ a, M.good a → v.getD (M.at_ a) false = (ev (a / 2) != decide (a % 2 = 1)) := by
  intro a
  induction a using Nat.strongRecOn with
  | ind a ih =>
    intro hg
    by_cases hn : M.nd.getD a false = true
    · obtain ⟨hi, hb⟩ := MP.lits_idx hn
      rw [MP.at_yes hn, hlut _ hi, hb, bitB_bit]
      have hl := MP.nd_lt hn
      unfold MP.lut
      by_cases hF : M.F ≤ a / 2
      · rw [if_pos hF]
        have hpick : pickB v ((M.C (a / 2)).map fun z => (M.at_ (2 * z) : Int)) = (M.C (a / 2)).map ev := by
          unfold pickB
          rw [List.map_map]
          refine List.map_congr_left fun z hz => ?_
          have hc := h.c (a / 2) hF (by omega) z hz
          have hgz := h.leaf_good hF (by omega) (h.need hn) hz
          have := ih (2 * z) (by omega) hgz
          rw [show 2 * z / 2 = z by omega, show decide (2 * z % 2 = 1) = false from decide_eq_false (by omega)] at this
          simpa using this
        rw [hpick]
        have hT' := hT (a / 2) hF (by omega) _ rfl
        have hr := rowB_lt ((M.C (a / 2)).map ev)
        rw [List.length_map] at hr
        rcases Nat.mod_two_eq_zero_or_one a with e | e
        · rw [if_neg (by omega), hT', e]; simp
        · rw [if_pos e, Nat.testBit_xor, hT', e, rows_bitP, decide_eq_true hr]; simp
      · rw [if_neg hF]
        have hodd : a % 2 = 1 := by
          have := M.nd_inv a hn
          simp only [mayL, Bool.or_eq_true, decide_eq_true_eq] at this
          omega
        rw [decide_eq_true hodd]
        split
        · have hx := hlow (a / 2) (by omega)
          simp only [pickB, List.map_cons, List.map_nil, Int.toNat_natCast, hx, rowB]
          cases ev (a / 2) <;> rfl
        · rename_i h2
          rw [show a / 2 = 0 by omega, h0]
          simp [pickB, rowB]
    · obtain ⟨h1, h2, h3⟩ := MP.at_no hg hn
      rw [h1, hlow _ h3, h2]
      simp
theorem lvMax_map (d e : List Int) (f : Nat → Nat) : ∀ l : List Nat, (∀ z ∈ l, d.getD (f z) 0 = e.getD z 0) → lvMax d (l.map fun z : Nat => (f z : Int)) = lvMax e (l.map fun z : Nat => (z : Int))
  | [], _ => rfl
  | z :: l, h => by
    simp only [List.map_cons, lvMax, Int.toNat_natCast, h z (List.mem_cons_self ..)]
    rw [lvMax_map d e f l (fun y hy => h y (List.mem_cons_of_mem _ hy))]
/-- a node is as deep as its literal -/
theorem MP.Ok.deep (h : M.Ok) (dp : List Int) (d : List Int) (hlow : ∀ x, x < M.F → d.getD x 0 = 0 ∧ dp.getD x 0 = 0)
    (hlut : ∀ i, ∀ hi : i < M.lits.length, d.getD (M.F + i) 0 = 1 + lvMax d (M.lut M.lits[i]).1)
    (hD : ∀ x, M.F ≤ x → x < M.N → 1 ≤ dp.getD x 0 ∧ dp.getD x 0 = 1 + lvMax dp ((M.C x).map fun z : Nat => (z : Int))) : ∀ a, M.good a → d.getD (M.at_ a) 0 = if a % 2 = 1 then max (dp.getD (a / 2) 0) 1 else dp.getD (a / 2) 0 := by
  intro a
  induction a using Nat.strongRecOn with
  | ind a ih =>
    intro hg
    by_cases hn : M.nd.getD a false = true
    · obtain ⟨hi, hb⟩ := MP.lits_idx hn
      rw [MP.at_yes hn, hlut _ hi, hb]
      have hl := MP.nd_lt hn
      unfold MP.lut
      by_cases hF : M.F ≤ a / 2
      · rw [if_pos hF]
        have hD' := hD (a / 2) hF (by omega)
        rw [lvMax_map d dp (fun z => M.at_ (2 * z)) (M.C (a / 2)) (fun z hz => by
          have hc := h.c (a / 2) hF (by omega) z hz
          have hgz := h.leaf_good hF (by omega) (h.need hn) hz
          have := ih (2 * z) (by omega) hgz
          rw [if_neg (by omega), show 2 * z / 2 = z by omega] at this
          exact this), ← hD'.2]
        split
        · omega
        · rfl
      · rw [if_neg hF]
        have hodd : a % 2 = 1 := by
          have := M.nd_inv a hn
          simp only [mayL, Bool.or_eq_true, decide_eq_true_eq] at this
          omega
        have hx := hlow (a / 2) (by omega)
        rw [if_pos hodd, hx.2]
        split
        · simp only [lvMax, Int.toNat_natCast, hx.1]; rfl
        · simp only [lvMax]; rfl
    · obtain ⟨h1, h2, h3⟩ := MP.at_no hg hn
      rw [h1, if_neg (by omega), (hlow _ h3).1, (hlow _ h3).2]
end Go.Proofs.YtaajnmggbhnndaaGreatDoor

namespace Go.Proofs.YtaajnmggbhnndaaGreatDoor
open Go.RowKit
set_option linter.unusedVariables false
set_option linter.unusedSimpArgs false
namespace Cut
/-- more leaves, more nodes that hang on them -/
theorem tab_sub {K M : Nat → Option Nat} {first : Nat} {ands : List (Nat × Nat)} (h : ∀ n, (K n).isSome → (M n).isSome) : ∀ n, (tab K first ands n).isSome → (tab M first ands n).isSome := by
  intro n
  induction n using Nat.strongRecOn with
  | ind n ih =>
    intro hk
    cases hM : M n with
    | some v => rw [tab_known hM]; rfl
    | none =>
      have hK : K n = none := by
        cases hK : K n with
        | none => rfl
        | some v => have := h n (by rw [hK]; rfl); rw [hM] at this; cases this
      by_cases hn : n < first
      · rw [tab_low hK hn] at hk; cases hk
      · cases hg : ands[n - first]? with
        | none => rw [tab, hK] at hk; simp [hn, hg] at hk
        | some p =>
          obtain ⟨a, b⟩ := p
          by_cases hab : a / 2 < n ∧ b / 2 < n
          · rw [tab_gate hK hn hg hab.1 hab.2] at hk
            rw [tab_gate hM hn hg hab.1 hab.2]
            cases ha : tab K first ands (a / 2) with
            | none => rw [ha] at hk; cases hk
            | some x =>
              cases hb : tab K first ands (b / 2) with
              | none => rw [ha, hb] at hk; cases hk
              | some y =>
                have h1 := ih _ hab.1 (by rw [ha]; rfl)
                have h2 := ih _ hab.2 (by rw [hb]; rfl)
                obtain ⟨x', hx'⟩ := Option.isSome_iff_exists.1 h1
                obtain ⟨y', hy'⟩ := Option.isSome_iff_exists.1 h2
                rw [hx', hy']; rfl
          · rw [tab, hK] at hk; simp [hn, hg, hab] at hk
/-- what holds of all that is known, and of gates' values, holds of all -/
theorem tab_inv (Q : Nat → Nat → Prop) {K : Nat → Option Nat} {first : Nat} {ands : List (Nat × Nat)} (hK : ∀ n v, K n = some v → Q n v)
    (hg : ∀ i a b x y, ands[i]? = some (a, b) → Q (a / 2) x → Q (b / 2) y → Q (first + i) (lit x a &&& lit y b)) : ∀ n v, tab K first ands n = some v → Q n v := by
  intro n
  induction n using Nat.strongRecOn with
  | ind n ih =>
    intro v hv
    cases hk : K n with
    | some u => rw [tab_known hk] at hv; cases hv; exact hK n _ hk
    | none =>
      by_cases hn : n < first
      · rw [tab_low hk hn] at hv; cases hv
      · cases hgs : ands[n - first]? with
        | none => rw [tab, hk] at hv; simp [hn, hgs] at hv
        | some p =>
          obtain ⟨a, b⟩ := p
          by_cases hab : a / 2 < n ∧ b / 2 < n
          · rw [tab_gate hk hn hgs hab.1 hab.2] at hv
            cases ha : tab K first ands (a / 2) with
            | none => rw [ha] at hv; cases hv
            | some x =>
              cases hb : tab K first ands (b / 2) with
              | none => rw [ha, hb] at hv; cases hv
              | some y =>
                rw [ha, hb] at hv
                cases hv
                have := hg _ a b x y hgs (ih _ hab.1 x ha) (ih _ hab.2 y hb)
                rwa [show first + (n - first) = n by omega] at this
          · rw [tab, hk] at hv; simp [hn, hgs, hab] at hv
/-- what is known only behind a node does not matter to it -/
theorem tab_below {K M : Nat → Option Nat} {first : Nat} {ands : List (Nat × Nat)} (N : Nat) (h : ∀ n, n < N → K n = M n) : ∀ n, n < N → tab K first ands n = tab M first ands n := by
  intro n
  induction n using Nat.strongRecOn with
  | ind n ih =>
    intro hN
    have hKM := h n hN
    cases hM : M n with
    | some v => rw [tab_known hM, tab_known (hKM.trans hM)]
    | none =>
      have hK := hKM.trans hM
      by_cases hn : n < first
      · rw [tab_low hM hn, tab_low hK hn]
      · cases hg : ands[n - first]? with
        | none => rw [tab, tab, hM, hK]; simp [hn, hg]
        | some p =>
          obtain ⟨a, b⟩ := p
          by_cases hab : a / 2 < n ∧ b / 2 < n
          · rw [tab_gate hM hn hg hab.1 hab.2, tab_gate hK hn hg hab.1 hab.2, ih _ hab.1 (by omega), ih _ hab.2 (by omega)]
          · rw [tab, tab, hM, hK]; simp [hn, hg, hab]
theorem col_bit : ∀ i, i < 6 → ∀ r, r < 64 → (col i).testBit r = decide (r / 2 ^ i % 2 = 1) := by decide +kernel
theorem ones_bit : ∀ r, r < 64 → ones.testBit r = true := by decide +kernel
theorem lit_bit {x a r : Nat} (hr : r < 64) : (lit x a).testBit r = (x.testBit r != decide (a % 2 = 1)) := by
  unfold lit
  split
  · rename_i h; rw [Nat.testBit_xor, ones_bit r hr]; simp [h]
  · rename_i h; simp [h]
theorem knownTo_inv (Q : Nat → Nat → Prop) (l : List Int) (f : Nat → Nat) (h0 : Q 0 0) : ∀ k, (∀ i, i < k → Q (l.getD i 0).toNat (f i)) → ∀ n v, knownTo l f k n = some v → Q n v
  | 0, _, n, v, h => by
    simp only [knownTo] at h
    split at h
    · cases h; rename_i hn; subst hn; exact h0
    · cases h
  | k + 1, hk, n, v, h => by
    simp only [knownTo, upd] at h
    split at h
    · cases h; rename_i hn; subst hn; exact hk k (by omega)
    · exact knownTo_inv Q l f h0 k (fun i hi => hk i (by omega)) n v h
theorem knownTo_some (l : List Int) (f : Nat → Nat) (n : Nat) : ∀ k, (knownTo l f k n).isSome = true ↔ n = 0 ∨ ∃ i, i < k ∧ (l.getD i 0).toNat = n
  | 0 => by simp only [knownTo]; split <;> simp_all
  | k + 1 => by
    have ih := knownTo_some l f n k
    simp only [knownTo, upd]
    split
    · rename_i hn
      exact ⟨fun _ => .inr ⟨k, by omega, hn.symm⟩, fun _ => rfl⟩
    · rename_i hn
      rw [ih]
      constructor
      · rintro (h | ⟨i, hi, he⟩)
        · exact .inl h
        · exact .inr ⟨i, by omega, he⟩
      · rintro (h | ⟨i, hi, he⟩)
        · exact .inl h
        · rcases Nat.lt_or_ge i k with h | h
          · exact .inr ⟨i, h, he⟩
          · obtain rfl : i = k := by omega
            exact absurd he.symm hn
theorem known_some (l : List Int) (f : Nat → Nat) (n : Nat) : (known l f n).isSome = true ↔ n = 0 ∨ ∃ x, x ∈ l ∧ x.toNat = n := by
  unfold known
  rw [knownTo_some]
  constructor
  · rintro (h | ⟨i, hi, he⟩)
    · exact .inl h
    · exact .inr ⟨_, getD_mem hi, he⟩
  · rintro (h | ⟨x, hx, he⟩)
    · exact .inl h
    · obtain ⟨i, hi, hxi⟩ := List.getElem_of_mem hx
      exact .inr ⟨i, hi, by rw [List.getD_eq_getElem?_getD, List.getElem?_eq_getElem hi]; simpa [hxi] using he⟩
end Cut
/-- nodes' values, of gates -/
structure AG.Val (G : AG) (ev : Nat → Bool) : Prop where
  zero : ev 0 = false
  gate : ∀ i a b, G.ands[i]? = some (a, b) → ev (G.fst + i) = ((ev (a / 2) != decide (a % 2 = 1)) && (ev (b / 2) != decide (b % 2 = 1)))
/-- a table tells, in its leaves' row, what the node is -/
theorem AG.tabG_means {G : AG} {ev : Nat → Bool} (hv : G.Val ev) {l : List Int} (hl : l.length ≤ 6) {r : Nat} (hr : r < 64) (hrow : ∀ i, i < l.length → decide (r / 2 ^ i % 2 = 1) = ev (l.getD i 0).toNat) {n v : Nat} (h : G.tabG l n = some v) : v.testBit r = ev n := by
  refine Cut.tab_inv (fun n v => v.testBit r = ev n) ?_ ?_ n v h
  · refine Cut.knownTo_inv (fun n v => v.testBit r = ev n) l Cut.col (by simp [hv.zero]) l.length fun i hi => ?_
    rw [Cut.col_bit i (by omega) r hr]
    exact hrow i hi
  · intro i a b x y hg hx hy
    rw [Nat.testBit_and, Cut.lit_bit hr, Cut.lit_bit hr, hx, hy, hv.gate i a b hg]
theorem rows_bit (m r : Nat) : (Cut.rows m).testBit r = decide (r < 2 ^ m) := by
  unfold Cut.rows
  exact Nat.testBit_two_pow_sub_one _ _
theorem AG.table_means {G : AG} {ev : Nat → Bool} (hv : G.Val ev) {l : List Int} (hl : l.length ≤ 6) {r : Nat} (hrl : r < 2 ^ l.length) (hrow : ∀ i, i < l.length → decide (r / 2 ^ i % 2 = 1) = ev (l.getD i 0).toNat) {n v : Nat} (h : G.table l n = some v) : v.testBit r = ev n := by
  have hr : r < 64 := by
    have : 2 ^ l.length ≤ 2 ^ 6 := Nat.pow_le_pow_right (by omega) hl
    omega
  unfold AG.table at h
  cases ht : G.tabG l n with
  | none => rw [ht] at h; cases h
  | some u =>
    rw [ht] at h
    cases h
    rw [Nat.testBit_and, G.tabG_means hv hl hr hrow ht, rows_bit]
    simp [hrl]
/-- rows are again what they were -/
def Per (m v : Nat) : Prop := ∀ r, r < 2 ^ m → r + 2 ^ m < 64 → v.testBit (r + 2 ^ m) = v.testBit r
theorem col_per : ∀ m, m < 6 → ∀ i, i < m → ∀ r, r < 2 ^ m → (Cut.col i).testBit (r + 2 ^ m) = (Cut.col i).testBit r := by decide +kernel
theorem AG.tabG_per (G : AG) {l : List Int} (hl : l.length ≤ 5) {n v : Nat} (h : G.tabG l n = some v) : Per l.length v := by
  refine Cut.tab_inv (fun _ v => Per l.length v) ?_ ?_ n v h
  · refine Cut.knownTo_inv (fun _ v => Per l.length v) l Cut.col (by intro r _ _; simp) l.length fun i hi => ?_
    intro r h1 h2
    exact col_per _ (by omega) i hi r h1
  · intro i a b x y hg hx hy r h1 h2
    rw [Nat.testBit_and, Nat.testBit_and, Cut.lit_bit h2, Cut.lit_bit h2, Cut.lit_bit (by omega), Cut.lit_bit (by omega), hx r h1 h2, hy r h1 h2]
/-- a leaf more, behind a node: its table is twice what it was -/
theorem AG.table_more (G : AG) {l : List Int} (hl : l.length ≤ 5) {n t : Nat} {z : Int} (hz : n < z.toNat) (h : G.table l n = some t) : G.table (l ++ [z]) n = some (t ||| t <<< 2 ^ l.length) ∧ t < 2 ^ 2 ^ l.length := by
  unfold AG.table at h ⊢
  have e : G.tabG (l ++ [z]) n = G.tabG l n := by
    refine Cut.tab_below (n + 1) (fun k hk => ?_) n (by omega)
    unfold Cut.known
    rw [List.length_append, List.length_singleton, Cut.knownTo, Cut.upd, if_neg (by simp; omega)]
    have : ∀ j, j ≤ l.length → Cut.knownTo (l ++ [z]) Cut.col j k = Cut.knownTo l Cut.col j k := by
      intro j
      induction j with
      | zero => intro _; rfl
      | succ j ih =>
        intro hj
        simp only [Cut.knownTo, Cut.upd, ih (by omega), getD_left l [z] 0 (show j < l.length by omega)]
    exact this _ (Nat.le_refl _)
  cases ht : G.tabG l n with
  | none => rw [ht] at h; cases h
  | some v =>
    rw [ht] at h
    cases h
    rw [e, ht]
    have hp := G.tabG_per hl ht
    have hm : 2 ^ l.length ≤ 32 := by
      have : 2 ^ l.length ≤ 2 ^ 5 := Nat.pow_le_pow_right (by omega) hl
      omega
    have hv64 : v < 2 ^ 64 := tabG_lt G l n v ht
    refine ⟨congrArg some (Nat.eq_of_testBit_eq fun r => ?_), ?_⟩
    · simp only [Nat.testBit_and, Nat.testBit_or, Nat.testBit_shiftLeft, rows_bit, List.length_append, List.length_singleton, Nat.pow_succ]
      unfold Per at hp
      obtain ⟨M, hM⟩ : ∃ M, 2 ^ l.length = M := ⟨_, rfl⟩
      simp only [hM] at hm hp ⊢
      rcases Nat.lt_or_ge r M with h1 | h1
      · simp [h1, show r < M * 2 by omega, show ¬ M ≤ r by omega]
      · rcases Nat.lt_or_ge r (M * 2) with h2 | h2
        · have := hp (r - M) (by omega) (by omega)
          rw [show r - M + M = r by omega] at this
          simp [h1, h2, show ¬ r < M by omega, show r - M < M by omega, this]
        · simp [h1, show ¬ r < M by omega, show ¬ r < M * 2 by omega, show ¬ r - M < M by omega]
    · have h1 : v &&& Cut.rows l.length ≤ Cut.rows l.length := Nat.and_le_right
      have h2 : 0 < 2 ^ 2 ^ l.length := Nat.pow_pos (by omega)
      show v &&& Cut.rows l.length < _
      unfold Cut.rows at h1 ⊢
      omega
/-- a node by itself is itself -/
theorem AG.table_self (G : AG) {n : Nat} (h : 0 < n) : G.table [(n : Int)] n = some 2 := by
  have hk : Cut.known [(n : Int)] Cut.col n = some (Cut.col 0) := by
    simp [Cut.known, Cut.knownTo, Cut.upd]
  unfold AG.table AG.tabG
  rw [Cut.tab_known hk]
  simp only [Option.map_some, List.length_singleton]
  decide +kernel
theorem AG.table_zero (G : AG) : G.table [] 0 = some 0 := by
  have hk : Cut.known [] Cut.col 0 = some 0 := by simp [Cut.known, Cut.knownTo]
  unfold AG.table AG.tabG
  rw [Cut.tab_known hk]
  rfl
/-- a gate by its two nodes -/
theorem AG.table_two {G : AG} {i a b : Nat} (hg : G.ands[i]? = some (a, b)) (ha : a / 2 < G.fst + i) (hb : b / 2 < G.fst + i) {u v : Nat} (hu : 0 < u) (huv : u < v) (hab : (a / 2 = u ∧ b / 2 = v) ∨ (a / 2 = v ∧ b / 2 = u)) (hf : 0 < G.fst) :
    G.table [(u : Int), (v : Int)] (G.fst + i) = some (Cut.lit (if a / 2 = u then Cut.col 0 else Cut.col 1) a &&& Cut.lit (if b / 2 = u then Cut.col 0 else Cut.col 1) b &&& Cut.rows 2) := by
  have k0 : Cut.known [(u : Int), (v : Int)] Cut.col u = some (Cut.col 0) := by
    simp [Cut.known, Cut.knownTo, Cut.upd, show ¬ u = v by omega]
  have k1 : Cut.known [(u : Int), (v : Int)] Cut.col v = some (Cut.col 1) := by
    simp [Cut.known, Cut.knownTo, Cut.upd]
  have kx : Cut.known [(u : Int), (v : Int)] Cut.col (G.fst + i) = none := by
    simp only [Cut.known, Cut.knownTo, Cut.upd, List.length_cons, List.length_nil]
    rcases hab with ⟨h1, h2⟩ | ⟨h1, h2⟩
    · rw [if_neg (by simp; omega), if_neg (by simp; omega), if_neg (by omega)]
    · rw [if_neg (by simp; omega), if_neg (by simp; omega), if_neg (by omega)]
  unfold AG.table AG.tabG
  rw [Cut.tab_gate kx (by omega) (by rw [Nat.add_sub_cancel_left]; exact hg) ha hb]
  rcases hab with ⟨h1, h2⟩ | ⟨h1, h2⟩
  · rw [h1, h2, Cut.tab_known k0, Cut.tab_known k1]
    simp only [Option.map_some, if_true, if_neg (show ¬ v = u by omega), List.length_cons, List.length_nil]
  · rw [h1, h2, Cut.tab_known k0, Cut.tab_known k1]
    simp only [Option.map_some, if_true, if_neg (show ¬ v = u by omega), List.length_cons, List.length_nil]
theorem and_case : ∀ p q : Bool, Cut.lit (Cut.col 0) (if p then 1 else 0) &&& Cut.lit (Cut.col 1) (if q then 1 else 0) &&& Cut.rows 2 = 2 ^ (3 - (if p then 1 else 0) - (if q then 2 else 0)) := by decide +kernel
theorem lit_par (x a : Nat) : Cut.lit x a = Cut.lit x (if a % 2 = 1 then 1 else 0) := by
  unfold Cut.lit
  rcases Nat.mod_two_eq_zero_or_one a with h | h <;> simp [h]
/-- the table of a gate by its two: of the literals in order -/
theorem AG.table_own {G : AG} {i a b x y : Nat} (hg : G.ands[i]? = some (a, b)) (ha : a / 2 < G.fst + i) (hb : b / 2 < G.fst + i) (hf : 0 < G.fst) (hx : x = min a b) (hy : y = max a b) (hne : x / 2 ≠ y / 2) (h2 : 2 ≤ x) :
    G.table [((x / 2 : Nat) : Int), ((y / 2 : Nat) : Int)] (G.fst + i) = some (2 ^ (3 - (if x % 2 = 1 then 1 else 0) - (if y % 2 = 1 then 2 else 0))) := by
  have key : ∀ p q : Nat, Cut.lit (Cut.col 0) p &&& Cut.lit (Cut.col 1) q &&& Cut.rows 2 = 2 ^ (3 - (if p % 2 = 1 then 1 else 0) - (if q % 2 = 1 then 2 else 0)) := fun p q => by
    rw [lit_par _ p, lit_par _ q]
    have := and_case (decide (p % 2 = 1)) (decide (q % 2 = 1))
    simpa using this
  rcases Nat.lt_or_ge b a with h | h
  · obtain rfl : x = b := by omega
    obtain rfl : y = a := by omega
    rw [G.table_two hg ha hb (u := x / 2) (v := y / 2) (by omega) (by omega) (.inr ⟨rfl, rfl⟩) hf]
    rw [if_neg (by omega), if_pos rfl, Nat.and_comm (Cut.lit (Cut.col 1) y), key]
  · obtain rfl : x = a := by omega
    obtain rfl : y = b := by omega
    rw [G.table_two hg ha hb (u := x / 2) (v := y / 2) (by omega) (by omega) (.inl ⟨rfl, rfl⟩) hf]
    rw [if_pos rfl, if_neg (by omega), key]
/-! ## Rows of all nodes -/
theorem AG.bothTo_pre (G : AG) (k : Int) {y : Nat} : ∀ x, y ≤ x → ∀ j, j ≤ y → (G.bothTo k x).1.getD j [] = (G.bothTo k y).1.getD j [] ∧ (G.bothTo k x).2.getD j 0 = (G.bothTo k y).2.getD j 0
  | 0, hy, j, hj => by obtain rfl : y = 0 := by omega
                       exact ⟨rfl, rfl⟩
  | x + 1, hy, j, hj => by
    rcases Nat.lt_or_ge y (x + 1) with h | h
    · have ih := G.bothTo_pre k x (by omega) j hj
      have hl := G.bothTo_len k x
      rw [← ih.1, ← ih.2]
      simp only [AG.bothTo]
      exact ⟨getD_left _ _ _ (by rw [hl.1]; omega), getD_left _ _ _ (by rw [hl.2]; omega)⟩
    · obtain rfl : y = x + 1 := by omega
      exact ⟨rfl, rfl⟩
theorem AG.bothTo_at (G : AG) (k : Int) {x y : Nat} (h : y + 1 ≤ x) : (G.bothTo k x).1.getD (y + 1) [] = (G.cutRow k (G.bothTo k y).1 (G.bothTo k y).2 (y + 1)).1 ∧ (G.bothTo k x).2.getD (y + 1) 0 = (G.cutRow k (G.bothTo k y).1 (G.bothTo k y).2 (y + 1)).2 := by
  have h1 := G.bothTo_pre k x h (y + 1) (Nat.le_refl _)
  have hl := G.bothTo_len k y
  rw [h1.1, h1.2]
  simp only [AG.bothTo]
  constructor
  · rw [List.getD_eq_getElem?_getD, List.getElem?_append_right (by omega), hl.1, Nat.sub_self]; rfl
  · rw [List.getD_eq_getElem?_getD, List.getElem?_append_right (by omega), hl.2, Nat.sub_self]; rfl
/-- the row, and the depth, of a node -/
noncomputable def AG.rowAt (G : AG) (k : Int) (j : Nat) : List PC := (G.bothTo k j).1.getD j []
noncomputable def AG.depAt (G : AG) (k : Int) (j : Nat) : Int := (G.bothTo k j).2.getD j 0
theorem AG.rowAt_eq (G : AG) (k : Int) {x j : Nat} (h : j ≤ x) : (G.bothTo k x).1.getD j [] = G.rowAt k j := (G.bothTo_pre k x h j (Nat.le_refl _)).1
theorem AG.depAt_eq (G : AG) (k : Int) {x j : Nat} (h : j ≤ x) : (G.bothTo k x).2.getD j 0 = G.depAt k j := (G.bothTo_pre k x h j (Nat.le_refl _)).2
theorem AG.rowAt_zero (G : AG) (k : Int) : G.rowAt k 0 = [([], 0)] ∧ G.depAt k 0 = 0 := ⟨rfl, rfl⟩
theorem AG.rowAt_low (G : AG) (k : Int) {j : Nat} (h0 : 0 < j) (h : j < G.fst) : G.rowAt k j = [([(j : Int)], 2)] ∧ G.depAt k j = 0 := by
  obtain ⟨y, rfl⟩ : ∃ y, j = y + 1 := ⟨j - 1, by omega⟩
  have h1 := G.bothTo_at k (Nat.le_refl (y + 1))
  unfold AG.rowAt AG.depAt
  rw [h1.1, h1.2]
  unfold AG.cutRow
  rw [if_pos h]
  exact ⟨rfl, rfl⟩
/-- the sets of a gate -/
noncomputable def AG.setsOf (G : AG) (k : Int) (j a b : Nat) : List (List Int) := Cut.gate (G.bothTo k (j - 1)).2 ((G.rowAt k (a / 2)).map (·.1)) ((G.rowAt k (b / 2)).map (·.1)) k
theorem AG.rowAt_gate (G : AG) (k : Int) {i a b : Nat} (hf : 0 < G.fst) (hg : G.ands[i]? = some (a, b)) (ha : a / 2 < G.fst + i) (hb : b / 2 < G.fst + i) :
    G.rowAt k (G.fst + i) = (G.setsOf k (G.fst + i) a b).map (fun l => (l, optV (G.good l ((G.fst + i : Nat) : Int)))) ++ [([((G.fst + i : Nat) : Int)], 2)] ∧
    G.depAt k (G.fst + i) = Cut.deep (G.bothTo k (G.fst + i - 1)).2 ((G.setsOf k (G.fst + i) a b).headD []) := by
  obtain ⟨y, hy⟩ : ∃ y, G.fst + i = y + 1 := ⟨G.fst + i - 1, by omega⟩
  have hp : G.ands.getD (y + 1 - G.fst) (0, 0) = (a, b) := by
    rw [show y + 1 - G.fst = i by omega, List.getD_eq_getElem?_getD, hg]; rfl
  rw [hy] at ha hb ⊢
  have h1 := G.bothTo_at k (Nat.le_refl (y + 1))
  unfold AG.setsOf
  rw [Nat.add_sub_cancel, ← G.rowAt_eq k (x := y) (show a / 2 ≤ y by omega), ← G.rowAt_eq k (x := y) (show b / 2 ≤ y by omega)]
  rw [show G.rowAt k (y + 1) = _ from h1.1, show G.depAt k (y + 1) = _ from h1.2]
  unfold AG.cutRow
  rw [if_neg (by omega)]
  simp only [hp]
  exact ⟨trivial, trivial⟩
theorem AG.fst_pos (G : AG) : 0 < G.fst := by unfold AG.fst; omega
theorem AG.rowOk {G : AG} {k : Int} (hm : G.ok ∧ 2 ≤ k ∧ k ≤ 6) {j : Nat} (hj : j < G.cn) : RowOk k j (G.rowAt k j) :=
  (AG.bothTo_ok hm.2 hm.1 j hj).row j (Nat.le_refl _)
theorem leaves_ok {G : AG} (hok : G.ok) {j : Nat} (hj : j < G.cn) {l : List Int} (h1 : NodesIn (j + 1) l) (h2 : Cut.Rises l) (h3 : l.length ≤ 6) (h4 : ∀ z ∈ l, 1 ≤ z) : leavesB G.cnt l = true := by
  have hc := hok.cnt
  simp only [leavesB, Bool.and_eq_true, Bool.or_eq_true, decide_eq_true_eq]
  refine ⟨⟨h3, h2⟩, ?_⟩
  rcases Nat.eq_zero_or_pos l.length with h0 | h0
  · exact .inl h0
  · refine .inr ⟨h4 _ (getD_mem h0), ?_⟩
    have := (h1 _ (getD_mem (show l.length - 1 < l.length by omega))).2
    omega
theorem AG.good_of {G : AG} (hok : G.ok) {j : Nat} (hj : j < G.cn) {l : List Int} (h1 : NodesIn (j + 1) l) (h2 : Cut.Rises l) (h3 : l.length ≤ 6) (h4 : ∀ z ∈ l, 1 ≤ z) : G.good l (j : Int) = G.table l j := by
  have hc := hok.cnt
  rw [AG.good_yes ⟨hok, by omega, by omega, leaves_ok hok hj h1 h2 h3 h4⟩]
  rfl
theorem AG.mem_sets {G : AG} {k : Int} {j a b : Nat} {l : List Int} (h : l ∈ G.setsOf k j a b) : ∃ c ∈ G.rowAt k (a / 2), ∃ e ∈ G.rowAt k (b / 2), Cut.merge c.1 e.1 k = some l := by
  obtain ⟨p, hp, hm⟩ := mem_gate h
  obtain ⟨h1, h2⟩ := pairs_mem hp
  obtain ⟨c, hc, e1⟩ := List.mem_map.1 h1
  obtain ⟨e, he, e2⟩ := List.mem_map.1 h2
  exact ⟨c, hc, e, he, by rw [e1, e2]; exact hm⟩
theorem merge_sup {a b l : List Int} {k : Int} (h : Cut.merge a b k = some l) : (∀ z ∈ a, z ∈ l) ∧ ∀ z ∈ b, z ∈ l := by
  obtain ⟨rfl, -⟩ := Cut.merge_mem h
  exact ⟨fun z hz => (Cut.mem_mrg a b z).2 (.inl hz), fun z hz => (Cut.mem_mrg a b z).2 (.inr hz)⟩
theorem AG.tabG_sub {G : AG} {l m : List Int} (h : ∀ z ∈ l, z ∈ m) {n : Nat} (hs : (G.tabG l n).isSome) : (G.tabG m n).isSome := by
  refine Cut.tab_sub (fun n hn => ?_) n hs
  rw [Cut.known_some] at hn ⊢
  rcases hn with h0 | ⟨x, hx, e⟩
  · exact .inl h0
  · exact .inr ⟨x, h x hx, e⟩
/-- each cut is one -/
theorem AG.cut_is {G : AG} {k : Int} (hm : G.ok ∧ 2 ≤ k ∧ k ≤ 6) : ∀ j, j < G.cn → ∀ c ∈ G.rowAt k j, (G.tabG c.1 j).isSome ∧ G.good c.1 (j : Int) = some c.2 := by
  intro j
  induction j using Nat.strongRecOn with
  | ind j ih =>
    intro hj c hc
    have hlv := (AG.rowOk hm hj).lv c hc
    have hgd := AG.good_of hm.1 hj hlv.1 hlv.2.1 hlv.2.2.1 hlv.2.2.2.2
    have hself : 0 < j → c = ([(j : Int)], 2) → (G.tabG c.1 j).isSome ∧ G.good c.1 (j : Int) = some c.2 := fun hp he => by
      have ht := G.table_self hp
      rw [hgd]
      subst he
      refine ⟨?_, ht⟩
      unfold AG.table at ht
      cases h : G.tabG [(j : Int)] j with
      | none => rw [h] at ht; cases ht
      | some v => rfl
    rcases Nat.eq_zero_or_pos j with rfl | hp
    · rw [hgd]
      rw [(G.rowAt_zero k).1, List.mem_singleton] at hc
      subst hc
      refine ⟨?_, G.table_zero⟩
      have ht := G.table_zero
      unfold AG.table at ht
      cases h : G.tabG [] 0 with
      | none => rw [h] at ht; cases ht
      | some v => rfl
    · by_cases hlow : j < G.fst
      · rw [(G.rowAt_low k hp hlow).1, List.mem_singleton] at hc
        exact hself hp hc
      · obtain ⟨i, rfl⟩ : ∃ i, j = G.fst + i := ⟨j - G.fst, by omega⟩
        have hia : i < G.an.length := by have : G.cn = G.fst + G.an.length := rfl; omega
        obtain ⟨a, b, hg, hgs, ha, hb, -, -⟩ := hm.1.gate hia
        rw [(G.rowAt_gate k G.fst_pos hgs ha hb).1] at hc
        rcases List.mem_append.1 hc with hc | hc
        · obtain ⟨l, hl, rfl⟩ := List.mem_map.1 hc
          obtain ⟨c, hc1, e, he1, hmg⟩ := AG.mem_sets hl
          obtain ⟨s1, s2⟩ := merge_sup hmg
          have t1 := AG.tabG_sub s1 (ih _ ha (by omega) c hc1).1
          have t2 := AG.tabG_sub s2 (ih _ hb (by omega) e he1).1
          have hs : (G.tabG l (G.fst + i)).isSome := by
            unfold AG.tabG at t1 t2 ⊢
            cases hk : Cut.known l Cut.col (G.fst + i) with
            | some v => rw [Cut.tab_known hk]; rfl
            | none =>
              rw [Cut.tab_gate hk (by omega) (by rw [Nat.add_sub_cancel_left]; exact hgs) ha hb]
              obtain ⟨x, hx⟩ := Option.isSome_iff_exists.1 t1
              obtain ⟨y, hy⟩ := Option.isSome_iff_exists.1 t2
              rw [hx, hy]; rfl
          refine ⟨hs, ?_⟩
          obtain ⟨v, hv⟩ := Option.isSome_iff_exists.1 hs
          simp only at hgd ⊢
          rw [hgd]
          unfold AG.table
          rw [hv]
          rfl
        · exact hself hp (by simpa using hc)
/-- no two cuts of a node have the same leaves -/
theorem AG.row_nodup {G : AG} {k : Int} (hm : G.ok ∧ 2 ≤ k ∧ k ≤ 6) {j : Nat} (hj : j < G.cn) : ((G.rowAt k j).map (·.1)).Nodup := by
  rcases Nat.eq_zero_or_pos j with rfl | hp
  · rw [(G.rowAt_zero k).1]; simp
  · by_cases hlow : j < G.fst
    · rw [(G.rowAt_low k hp hlow).1]; simp
    · obtain ⟨i, rfl⟩ : ∃ i, j = G.fst + i := ⟨j - G.fst, by omega⟩
      have hia : i < G.an.length := by have : G.cn = G.fst + G.an.length := rfl; omega
      obtain ⟨a, b, hg, hgs, ha, hb, -, -⟩ := hm.1.gate hia
      rw [(G.rowAt_gate k G.fst_pos hgs ha hb).1]
      simp only [List.map_append, List.map_map, List.map_cons, List.map_nil]
      have e : ((fun c : PC => c.1) ∘ fun l : List Int => (l, optV (G.good l ((G.fst + i : Nat) : Int)))) = id := rfl
      rw [e, List.map_id]
      have hpw : (G.setsOf k (G.fst + i) a b).Pairwise (Cut.Lt (G.bothTo k (G.fst + i - 1)).2) :=
        List.Pairwise.sublist (List.take_sublist _ _) (Cut.fold_sorted _ k (Cut.pairs ((G.rowAt k (a / 2)).map (·.1)) ((G.rowAt k (b / 2)).map (·.1))) [] List.Pairwise.nil (fun l hl => by cases hl)).1
      rw [List.nodup_append]
      refine ⟨hpw.imp fun {x y} hxy he => ?_, by simp, fun x hx y hy he => ?_⟩
      · subst he; exact Cut.Lt.irrefl _ _ hxy
      · rw [List.mem_singleton] at hy
        subst he
        subst hy
        obtain ⟨c, hc1, e, he1, hmg⟩ := AG.mem_sets hx
        obtain ⟨-, -, -, -, hin⟩ := Cut.merge_mem hmg
        rcases hin _ (List.mem_singleton.2 rfl) with h3 | h3
        · have := (((AG.rowOk hm (show a / 2 < G.cn by omega)).lv c hc1).1 _ h3).2; omega
        · have := (((AG.rowOk hm (show b / 2 < G.cn by omega)).lv e he1).1 _ h3).2; omega
/-! ## Depths -/
theorem deepTo_congr {d e l : List Int} (h : ∀ z ∈ l, d.getD z.toNat 0 = e.getD z.toNat 0) : ∀ k, k ≤ l.length → Cut.deepTo d l k = Cut.deepTo e l k
  | 0, _ => rfl
  | k + 1, hk => by
    rw [Cut.deepTo, Cut.deepTo, deepTo_congr h k (by omega), h _ (getD_mem (by omega))]
theorem deep_congr {d e l : List Int} (h : ∀ z ∈ l, d.getD z.toNat 0 = e.getD z.toNat 0) : Cut.deep d l = Cut.deep e l := by
  unfold Cut.deep; rw [deepTo_congr h _ (Nat.le_refl _)]
theorem lt_deep {d a b : List Int} (h : Cut.Lt d a b) : Cut.deep d a ≤ Cut.deep d b := by
  unfold Cut.Lt Cut.rankOf at h
  rw [Cut.cmpL] at h
  by_cases hc : Cut.cmpI (Cut.deep d a) (Cut.deep d b) = 0
  · have := (Cut.cmpI_eq _ _).1 hc; omega
  · rw [if_pos hc] at h
    have := (Cut.cmpI_lt _ _).1 h; omega
/-- the first set is the least deep one, of all that can be made -/
theorem gate_first {d : List Int} {a b : List (List Int)} {k : Int} {y : List Int} {p : List Int × List Int} (hp : p ∈ Cut.pairs a b) (hm : Cut.merge p.1 p.2 k = some y) : Cut.deep d ((Cut.gate d a b k).headD []) ≤ Cut.deep d y := by
  obtain ⟨h1, h2⟩ := Cut.fold_sorted d k (Cut.pairs a b) [] List.Pairwise.nil (fun l hl => by cases hl)
  have hy : y ∈ (Cut.pairs a b).foldl (Cut.putM d k) [] := (h2 y).2 (.inr ⟨p, hp, hm⟩)
  unfold Cut.gate Cut.gateAll
  generalize (Cut.pairs a b).foldl (Cut.putM d k) [] = L at h1 hy
  cases L with
  | nil => cases hy
  | cons x L =>
    show Cut.deep d x ≤ _
    rcases List.mem_cons.1 hy with rfl | hy
    · exact Int.le_refl _
    · exact lt_deep (List.rel_of_pairwise_cons h1 hy)
theorem gate_least {d : List Int} {a b : List (List Int)} {k : Int} {y : List Int} (hy : y ∈ Cut.gate d a b k) : Cut.deep d ((Cut.gate d a b k).headD []) ≤ Cut.deep d y := by
  obtain ⟨p, hp, hm⟩ := mem_gate hy
  exact gate_first hp hm
theorem deep_one (d : List Int) (z : Int) : Cut.deep d [z] = max 0 (d.getD z.toNat 0) + 1 := rfl
theorem mem_deep {d : List Int} {M : Int} {l : List Int} (h0 : 0 ≤ M) (h : ∀ z ∈ l, d.getD z.toNat 0 ≤ M) : Cut.deep d l ≤ M + 1 := (deep_le h0 h).2
/-- a node's own cut, or none -/
theorem AG.own_cut {G : AG} {k : Int} (hm : G.ok ∧ 2 ≤ k ∧ k ≤ 6) {j : Nat} (hj : j < G.cn) : ∃ c ∈ G.rowAt k j, c.1.length ≤ 1 ∧ ∀ z ∈ c.1, z = (j : Int) := by
  rcases Nat.eq_zero_or_pos j with rfl | hp
  · exact ⟨([], 0), by rw [(G.rowAt_zero k).1]; simp, by simp, fun z hz => by cases hz⟩
  · exact ⟨_, List.mem_of_getElem? ((AG.rowOk hm hj).last hp), by simp, fun z hz => by simpa using hz⟩
/-- as deep as levels at most -/
theorem AG.depAt_lev {G : AG} {k : Int} (hm : G.ok ∧ 2 ≤ k ∧ k ≤ 6) {lev : Nat → Int} (h0 : ∀ j, 0 ≤ lev j) (hl : ∀ i a b, G.ands[i]? = some (a, b) → lev (G.fst + i) = max (lev (a / 2)) (lev (b / 2)) + 1) : ∀ j, j < G.cn → G.depAt k j ≤ lev j := by
  intro j
  induction j using Nat.strongRecOn with
  | ind j ih =>
    intro hj
    rcases Nat.eq_zero_or_pos j with rfl | hp
    · rw [(G.rowAt_zero k).2]; exact h0 0
    · by_cases hlow : j < G.fst
      · rw [(G.rowAt_low k hp hlow).2]; exact h0 j
      · obtain ⟨i, rfl⟩ : ∃ i, j = G.fst + i := ⟨j - G.fst, by omega⟩
        have hia : i < G.an.length := by have : G.cn = G.fst + G.an.length := rfl; omega
        obtain ⟨a, b, hg, hgs, ha, hb, -, -⟩ := hm.1.gate hia
        rw [(G.rowAt_gate k G.fst_pos hgs ha hb).2, hl i a b hgs]
        obtain ⟨c, hc, hc1, hc2⟩ := AG.own_cut hm (show a / 2 < G.cn by omega)
        obtain ⟨e, he, he1, he2⟩ := AG.own_cut hm (show b / 2 < G.cn by omega)
        obtain ⟨z, hz⟩ := merge_ones hm.2 c.1 e.1 hc1 he1
        have hp : (c.1, e.1) ∈ Cut.pairs ((G.rowAt k (a / 2)).map (·.1)) ((G.rowAt k (b / 2)).map (·.1)) := by
          unfold Cut.pairs
          exact List.mem_flatMap.2 ⟨c.1, List.mem_map.2 ⟨c, hc, rfl⟩, List.mem_map.2 ⟨e.1, List.mem_map.2 ⟨e, he, rfl⟩, rfl⟩⟩
        have h1 := gate_first (d := (G.bothTo k (G.fst + i - 1)).2) hp hz
        unfold AG.setsOf
        refine Int.le_trans h1 (mem_deep (by have := h0 (a / 2); omega) fun y hy => ?_)
        obtain ⟨-, -, -, -, hin⟩ := Cut.merge_mem hz
        rcases hin y hy with h3 | h3
        · obtain rfl := hc2 y h3
          rw [show ((a / 2 : Nat) : Int).toNat = a / 2 by omega, G.depAt_eq k (show a / 2 ≤ G.fst + i - 1 by omega)]
          have := ih _ ha (by omega)
          omega
        · obtain rfl := he2 y h3
          rw [show ((b / 2 : Nat) : Int).toNat = b / 2 by omega, G.depAt_eq k (show b / 2 ≤ G.fst + i - 1 by omega)]
          have := ih _ hb (by omega)
          omega
/-- of a gate: as deep as its first set, none of them less deep -/
theorem AG.row_deep {G : AG} {k : Int} (hm : G.ok ∧ 2 ≤ k ∧ k ≤ 6) {j : Nat} (hj : j < G.cn) (hlow : G.fst ≤ j) {d : List Int} (hd : ∀ z, z < j → d.getD z 0 = G.depAt k z) :
    2 ≤ (G.rowAt k j).length ∧ 1 ≤ G.depAt k j ∧ (∀ i, i + 1 < (G.rowAt k j).length → G.depAt k j ≤ Cut.deep d ((G.rowAt k j).getD i ([], 0)).1 ∧ (i = 0 → Cut.deep d ((G.rowAt k j).getD i ([], 0)).1 = G.depAt k j)) := by
  obtain ⟨i, rfl⟩ : ∃ i, j = G.fst + i := ⟨j - G.fst, by omega⟩
  have hia : i < G.an.length := by have : G.cn = G.fst + G.an.length := rfl; omega
  obtain ⟨a, b, hg, hgs, ha, hb, -, -⟩ := hm.1.gate hia
  obtain ⟨hr, hdp⟩ := G.rowAt_gate k G.fst_pos hgs ha hb
  have hne : G.setsOf k (G.fst + i) a b ≠ [] := by
    have hbk := AG.bothTo_ok hm.2 hm.1 (G.fst + i - 1) (by omega)
    have := gate_ne hm.2 hbk (a := a / 2) (b := b / 2) (by omega) (by omega) (G.bothTo k (G.fst + i - 1)).2
    rwa [G.rowAt_eq k (show a / 2 ≤ G.fst + i - 1 by omega), G.rowAt_eq k (show b / 2 ≤ G.fst + i - 1 by omega)] at this
  have hlen : 1 ≤ (G.setsOf k (G.fst + i) a b).length := List.length_pos_iff.2 hne
  have hsame : ∀ l ∈ G.setsOf k (G.fst + i) a b, Cut.deep d l = Cut.deep (G.bothTo k (G.fst + i - 1)).2 l := fun l hl => by
    refine deep_congr fun z hz => ?_
    obtain ⟨c, hc1, e, he1, hmg⟩ := AG.mem_sets hl
    obtain ⟨-, -, -, -, hin⟩ := Cut.merge_mem hmg
    have hzb : 0 ≤ z ∧ z.toNat < G.fst + i := by
      rcases hin z hz with h3 | h3
      · have := ((AG.rowOk hm (show a / 2 < G.cn by omega)).lv c hc1).1 _ h3; omega
      · have := ((AG.rowOk hm (show b / 2 < G.cn by omega)).lv e he1).1 _ h3; omega
    rw [hd _ hzb.2, G.depAt_eq k (show z.toNat ≤ G.fst + i - 1 by omega)]
  rw [hdp, hr]
  refine ⟨by simp; omega, ?_, fun q hq => ?_⟩
  · have := (deep_le (d := (G.bothTo k (G.fst + i - 1)).2) (l := (G.setsOf k (G.fst + i) a b).headD []) (M := ((G.fst + i : Nat) : Int)) (by omega) (fun z hz => ?_)).1
    · exact this
    · have hhd : (G.setsOf k (G.fst + i) a b).headD [] ∈ G.setsOf k (G.fst + i) a b := by
        cases hs : G.setsOf k (G.fst + i) a b with
        | nil => exact absurd hs hne
        | cons x L => simp
      obtain ⟨c, hc1, e, he1, hmg⟩ := AG.mem_sets hhd
      obtain ⟨-, -, -, -, hin⟩ := Cut.merge_mem hmg
      have hzb : 0 ≤ z ∧ z.toNat < G.fst + i := by
        rcases hin z hz with h3 | h3
        · have := ((AG.rowOk hm (show a / 2 < G.cn by omega)).lv c hc1).1 _ h3; omega
        · have := ((AG.rowOk hm (show b / 2 < G.cn by omega)).lv e he1).1 _ h3; omega
      have hbk := AG.bothTo_ok hm.2 hm.1 (G.fst + i - 1) (by omega)
      have := (hbk.dep z.toNat (by omega)).2
      omega
  · simp only [List.length_append, List.length_map, List.length_singleton] at hq
    have hq' : q < (G.setsOf k (G.fst + i) a b).length := by omega
    have hel : (((G.setsOf k (G.fst + i) a b).map (fun l => (l, optV (G.good l ((G.fst + i : Nat) : Int)))) ++ [([((G.fst + i : Nat) : Int)], 2)]).getD q ([], 0)).1 = (G.setsOf k (G.fst + i) a b)[q] := by
      rw [getD_left _ _ _ (by simpa using hq'), List.getD_eq_getElem?_getD]
      simp [hq']
    rw [hel, hsame _ (List.getElem_mem hq')]
    refine ⟨gate_least (List.getElem_mem hq'), fun h0 => ?_⟩
    subst h0
    have hh : ∀ (L : List (List Int)) (h : 0 < L.length), L[0] = L.headD [] := fun L h => by cases L with
      | nil => simp at h
      | cons x L => rfl
    rw [hh _ hq']
theorem AG.dep_low {G : AG} {k : Int} {j : Nat} (h : j < G.fst) : G.depAt k j = 0 := by
  rcases Nat.eq_zero_or_pos j with rfl | hp
  · exact (G.rowAt_zero k).2
  · exact (G.rowAt_low k hp h).2
end Go.Proofs.YtaajnmggbhnndaaGreatDoor

namespace Go.Proofs.YtaajnmggbhnndaaGreatDoor
open Go.RowKit
set_option linter.unusedVariables false
set_option linter.unusedSimpArgs false
/-- a node's first cut -/
noncomputable def AG.c0 (G : AG) (k : Int) (x : Nat) : PC := (G.rowAt k x).headD ([], 0)
noncomputable def AG.mp (G : AG) (k : Int) : MP := ⟨G.fst, G.cn, fun x => (G.c0 k x).1.map Int.toNat, fun x => (G.c0 k x).2, G.ou.map Int.toNat ++ G.fl.map fun f => f.1.toNat⟩
structure C0Ok (G : AG) (k : Int) (x : Nat) (c : PC) : Prop where
  mem : c ∈ G.rowAt k x
  lv : ∀ z ∈ c.1, 1 ≤ z ∧ z < (x : Int)
  len : c.1.length ≤ 6 ∧ (c.1.length : Int) ≤ k
  tab : G.table c.1 x = some c.2
  small : c.2 < 2 ^ 2 ^ c.1.length
  u64 : c.2 < 18446744073709551616
theorem rows_lt (m : Nat) (hm : m ≤ 6) : Cut.rows m < 18446744073709551616 ∧ Cut.rows m < 2 ^ 2 ^ m := by
  unfold Cut.rows
  have h1 : 2 ^ m ≤ 2 ^ 6 := Nat.pow_le_pow_right (by decide) hm
  have h2 : 2 ^ 2 ^ m ≤ 2 ^ 2 ^ 6 := Nat.pow_le_pow_right (by decide) h1
  have h3 : 0 < 2 ^ 2 ^ m := Nat.pow_pos (by decide)
  have h4 : (2 : Nat) ^ 2 ^ 6 = 18446744073709551616 := by decide
  omega
theorem AG.c0_ok {G : AG} {k : Int} (hm : G.ok ∧ 2 ≤ k ∧ k ≤ 6) {x : Nat} (hF : G.fst ≤ x) (hx : x < G.cn) : C0Ok G k x (G.c0 k x) := by
  obtain ⟨i, rfl⟩ : ∃ i, x = G.fst + i := ⟨x - G.fst, by omega⟩
  have hia : i < G.an.length := by have : G.cn = G.fst + G.an.length := rfl; omega
  obtain ⟨a, b, hg, hgs, ha, hb, -, -⟩ := hm.1.gate hia
  obtain ⟨hr, hdp⟩ := G.rowAt_gate k G.fst_pos hgs ha hb
  have hne : G.setsOf k (G.fst + i) a b ≠ [] := by
    have hbk := AG.bothTo_ok hm.2 hm.1 (G.fst + i - 1) (by omega)
    have := gate_ne hm.2 hbk (a := a / 2) (b := b / 2) (by omega) (by omega) (G.bothTo k (G.fst + i - 1)).2
    rwa [G.rowAt_eq k (show a / 2 ≤ G.fst + i - 1 by omega), G.rowAt_eq k (show b / 2 ≤ G.fst + i - 1 by omega)] at this
  obtain ⟨l, hl, hcl⟩ : ∃ l ∈ G.setsOf k (G.fst + i) a b, (G.c0 k (G.fst + i)).1 = l ∧ G.c0 k (G.fst + i) ∈ G.rowAt k (G.fst + i) := by
    unfold AG.c0
    rw [hr]
    cases hs : G.setsOf k (G.fst + i) a b with
    | nil => exact absurd hs hne
    | cons y L => exact ⟨y, by simp, by simp, by simp⟩
  obtain ⟨c, hc1, e, he1, hmg⟩ := AG.mem_sets hl
  obtain ⟨-, -, -, -, hin⟩ := Cut.merge_mem hmg
  have hrow := (AG.rowOk hm hx).lv _ hcl.2
  have hcut := AG.cut_is hm _ hx _ hcl.2
  have hgood := AG.good_of hm.1 hx hrow.1 hrow.2.1 hrow.2.2.1 hrow.2.2.2.2
  have ht : G.table (G.c0 k (G.fst + i)).1 (G.fst + i) = some (G.c0 k (G.fst + i)).2 := by rw [← hgood]; exact hcut.2
  have hsm : (G.c0 k (G.fst + i)).2 ≤ Cut.rows (G.c0 k (G.fst + i)).1.length := by
    unfold AG.table at ht
    cases hv : G.tabG (G.c0 k (G.fst + i)).1 (G.fst + i) with
    | none => rw [hv] at ht; cases ht
    | some v => rw [hv] at ht; rw [← Option.some.inj ht]; exact Nat.and_le_right
  have hrl := rows_lt (G.c0 k (G.fst + i)).1.length hrow.2.2.1
  refine ⟨hcl.2, fun z hz => ⟨hrow.2.2.2.2 z hz, ?_⟩, ⟨hrow.2.2.1, by have := hrow.2.2.2.1; omega⟩, ht, by omega, by omega⟩
  rw [hcl.1] at hz
  rcases hin z hz with h3 | h3
  · have := ((AG.rowOk hm (show a / 2 < G.cn by omega)).lv c hc1).1 _ h3; omega
  · have := ((AG.rowOk hm (show b / 2 < G.cn by omega)).lv e he1).1 _ h3; omega
theorem AG.ok.lit {G : AG} (h : G.ok) {a : Int} (ha : a ∈ G.ou ∨ ∃ f ∈ G.fl, f.1 = a) : 0 ≤ a ∧ a.toNat < 2 * G.cn := by
  have hb : litB G.cnt a = true := by
    rcases ha with ha | ⟨f, hf, rfl⟩
    · exact h.2.2.1 a ha
    · exact h.2.1 f hf
  have hc := h.cnt
  simp only [litB, Bool.and_eq_true, decide_eq_true_eq] at hb
  omega
theorem AG.mp_ok {G : AG} {k : Int} (hm : G.ok ∧ 2 ≤ k ∧ k ≤ 6) : (G.mp k).Ok := by
  refine ⟨⟨G.fst_pos, Nat.le_add_right _ _⟩, fun x hF hx z hz => ?_, fun a ha => ?_⟩
  · obtain ⟨y, hy, rfl⟩ := List.mem_map.1 hz
    have := (AG.c0_ok hm hF hx).lv y hy
    omega
  · rcases List.mem_append.1 ha with ha | ha
    · obtain ⟨b, hb, rfl⟩ := List.mem_map.1 ha
      exact (hm.1.lit (.inl hb)).2
    · obtain ⟨f, hf, rfl⟩ := List.mem_map.1 ha
      exact (hm.1.lit (.inr ⟨f, hf, rfl⟩)).2
theorem AG.mp_out {G : AG} {k : Int} (hm : G.ok ∧ 2 ≤ k ∧ k ≤ 6) {a : Int} (ha : a ∈ G.ou) : (G.mp k).good a.toNat := (AG.mp_ok hm).ts_good (List.mem_append_left _ (List.mem_map.2 ⟨a, ha, rfl⟩))
theorem AG.mp_next {G : AG} {k : Int} (hm : G.ok ∧ 2 ≤ k ∧ k ≤ 6) {f : Int × Bool} (hf : f ∈ G.fl) : (G.mp k).good f.1.toNat := (AG.mp_ok hm).ts_good (List.mem_append_right _ (List.mem_map.2 ⟨f, hf, rfl⟩))
/-- the net that gates are made -/
structure NT.IsMap (N : NT) (G : AG) (k : Int) : Prop where
  i : N.I = G.I
  hs : N.hs = G.fl.map fun f => (((G.mp k).at_ f.1.toNat : Int), f.2)
  ls : N.luts = (G.mp k).luts
  ou : N.ou = G.ou.map fun a => ((G.mp k).at_ a.toNat : Int)
/-- what Map tells -/
def MapOut (G : AG) (k : Int) (w : World) (r : Ending) (w' : World) : Prop :=
  ((G.ok ∧ 2 ≤ k ∧ k ≤ 6) → ∃ N : NT, r = .returned (.tuple #[.agg #[.int .i64 N.I, .slice N.AH N.hs.length N.cH, .slice N.AL N.ls.length N.cL, .slice N.AO N.ou.length N.cO], .int .i64 0]) ∧ Below w.heap.size w w' ∧ N.In w' ∧ N.IsMap G k) ∧
  (¬ (G.ok ∧ 2 ≤ k ∧ k ≤ 6) → r = .returned (.tuple #[.agg #[.int .i64 0, .slice none 0 0, .slice none 0 0, .slice none 0 0], .int .i64 1]) ∧ Below w.heap.size w w')
/-- the table of a literal of a gate -/
theorem AG.lut_gate {G : AG} {k : Int} (a : Nat) (h : G.fst ≤ a / 2) : (G.mp k).lut a = ((G.c0 k (a / 2)).1.map (fun z => ((G.mp k).at_ (2 * z.toNat) : Int)), if a % 2 = 1 then (G.c0 k (a / 2)).2 ^^^ Cut.rows (G.c0 k (a / 2)).1.length else (G.c0 k (a / 2)).2) := by
  unfold MP.lut
  rw [if_pos (show (G.mp k).F ≤ a / 2 from h)]
  simp only [AG.mp, List.map_map, List.length_map, Function.comp_def]
theorem AG.lut_low {G : AG} {k : Int} (a : Nat) (h : a / 2 < G.fst) (h0 : 0 < a / 2) : (G.mp k).lut a = ([((a / 2 : Nat) : Int)], 1) := by
  unfold MP.lut
  rw [if_neg (show ¬ (G.mp k).F ≤ a / 2 from by have : (G.mp k).F = G.fst := rfl; omega), if_pos h0]
theorem AG.lut_zero {G : AG} {k : Int} (a : Nat) (h0 : a / 2 = 0) : (G.mp k).lut a = ([], 1) := by
  unfold MP.lut
  rw [if_neg (show ¬ (G.mp k).F ≤ a / 2 from by have : (G.mp k).F = G.fst := rfl; have := G.fst_pos; omega), if_neg (by omega)]
/-- tables of any literals that are made: how many inputs, how great -/
theorem AG.lut_small {G : AG} {k : Int} (hm : G.ok ∧ 2 ≤ k ∧ k ≤ 6) {a : Nat} (ha : a < 2 * G.cn) : ((G.mp k).lut a).1.length ≤ 6 ∧ (((G.mp k).lut a).1.length : Int) ≤ k ∧ ((G.mp k).lut a).2 < 2 ^ 2 ^ ((G.mp k).lut a).1.length ∧ ((G.mp k).lut a).2 < 18446744073709551616 := by
  by_cases h : G.fst ≤ a / 2
  · rw [AG.lut_gate a h]
    have hc := AG.c0_ok hm h (show a / 2 < G.cn by omega)
    generalize G.c0 k (a / 2) = c at hc
    have hr := rows_lt c.1.length hc.len.1
    simp only [List.length_map]
    have hx : c.2 ^^^ Cut.rows c.1.length < 2 ^ 2 ^ c.1.length := Nat.xor_lt_two_pow hc.small hr.2
    have h1 : 2 ^ c.1.length ≤ 2 ^ 6 := Nat.pow_le_pow_right (by decide) hc.len.1
    have h2 : 2 ^ 2 ^ c.1.length ≤ 2 ^ 2 ^ 6 := Nat.pow_le_pow_right (by decide) h1
    have h4 : (2 : Nat) ^ 2 ^ 6 = 18446744073709551616 := by decide
    refine ⟨hc.len.1, hc.len.2, ?_, ?_⟩ <;> split
    · exact hx
    · exact hc.small
    · omega
    · exact hc.u64
  · by_cases h0 : 0 < a / 2
    · rw [AG.lut_low a (by omega) h0]; simp; omega
    · rw [AG.lut_zero a (by omega)]; simp; omega
/-- where a node's first cut lies -/
theorem rows_c0 {G : AG} {k : Int} (hm : G.ok ∧ 2 ≤ k ∧ k ≤ 6) {rs : List CR} (h : plainR rs = (G.bothTo k (G.cn - 1)).1) : rs.length = G.cn ∧ ∀ x, ∀ hx : x < rs.length, ∃ h0 : 0 < rs[x].2.2.length, G.c0 k x = (rs[x].2.2[0].1.2.2, rs[x].2.2[0].2) := by
  have hn : rs.length = G.cn := by
    have h1 := (G.bothTo_len k (G.cn - 1)).1
    rw [← h, plainR_len] at h1
    have := G.fst_pos
    have : G.fst ≤ G.cn := Nat.le_add_right _ _
    omega
  refine ⟨hn, fun x hx => ?_⟩
  have hr : pcs rs[x].2.2 = G.rowAt k x := by
    rw [← plainR_at hx, h, G.rowAt_eq k (by omega)]
  have hlen : 0 < rs[x].2.2.length := by
    have h1 := (AG.rowOk hm (show x < G.cn by omega)).len.1
    rw [← hr] at h1
    have h2 : (pcs rs[x].2.2).length = rs[x].2.2.length := by unfold pcs; rw [List.length_map]
    omega
  refine ⟨hlen, ?_⟩
  unfold AG.c0
  rw [← hr]
  generalize rs[x].2.2 = cs at hlen ⊢
  cases cs with
  | nil => cases hlen
  | cons c cs => rfl
end Go.Proofs.YtaajnmggbhnndaaGreatDoor
