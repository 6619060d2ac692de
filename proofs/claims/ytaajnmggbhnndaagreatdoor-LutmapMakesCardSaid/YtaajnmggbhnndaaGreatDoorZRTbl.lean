/- Cuts, plainly: what a node is by some leaves; tables of fewer rows; lists that rise, made one. · Walks of filigree/cuts.rises, rows, and of filigreeref24.rises. · Regions that draw their order, whose operations read older memory and whose callees leave it alone: one walk of the text's order serves every order. Over any program. · The values of leaves: filigreeref24.column, full, turned. · filigreeref24.rises, leaves, full, turned. · filigreeref24.full, turned, values. · Which table a node hangs on others by, plainly, of gates that may be. · filigreeref24.values. · filigreeref24.Table, Check. · filigreeref24.Check. -/
import Derived.Test.YtaajnmggbhnndaaGreatDoorZMem
import Derived.Test.YtaajnmggbhnndaaGreatDoorZAig
import Derived.Laws.MakeOwn
import Derived.Deep.DeepCutAuto
namespace Go.Proofs.YtaajnmggbhnndaaGreatDoor.Cut
set_option linter.unusedVariables false
set_option linter.unusedSimpArgs false

def ones : Nat := 18446744073709551615
/-- a literal's values -/
def lit (x a : Nat) : Nat := if a % 2 = 1 then x ^^^ ones else x
/-- what a node is, by what is known: none, if it hangs on more -/
def tab (K : Nat → Option Nat) (first : Nat) (ands : List (Nat × Nat)) (n : Nat) : Option Nat :=
  match K n with
  | some v => some v
  | none => if n < first then none else
    match ands[n - first]? with
    | none => none
    | some (a, b) => if h : a / 2 < n ∧ b / 2 < n then
        match tab K first ands (a / 2) with
        | none => none
        | some x => match tab K first ands (b / 2) with
          | none => none
          | some y => some (lit x a &&& lit y b)
      else none
termination_by n
theorem tab_known {K : Nat → Option Nat} {first : Nat} {ands : List (Nat × Nat)} {n v : Nat} (h : K n = some v) : tab K first ands n = some v := by
  rw [tab, h]
theorem tab_low {K : Nat → Option Nat} {first : Nat} {ands : List (Nat × Nat)} {n : Nat} (h : K n = none) (hn : n < first) : tab K first ands n = none := by
  rw [tab, h]
  simp [hn]
theorem tab_gate {K : Nat → Option Nat} {first : Nat} {ands : List (Nat × Nat)} {n a b : Nat} (h : K n = none) (hn : ¬ n < first) (hg : ands[n - first]? = some (a, b)) (ha : a / 2 < n) (hb : b / 2 < n) :
    tab K first ands n = match tab K first ands (a / 2) with
      | none => none
      | some x => match tab K first ands (b / 2) with
        | none => none
        | some y => some (lit x a &&& lit y b) := by
  rw [tab, h]
  simp only [hn, if_false, hg, ha, hb, and_self, dite_true]
/-- more that is known of nodes, if it is what they are, changes nothing -/
theorem tab_more {K M : Nat → Option Nat} {first : Nat} {ands : List (Nat × Nat)} (h1 : ∀ n v, K n = some v → M n = some v) (h2 : ∀ n v, M n = some v → tab K first ands n = some v) : ∀ n, tab M first ands n = tab K first ands n := by
  intro n
  induction n using Nat.strongRecOn with
  | ind n ih =>
    cases hM : M n with
    | some v => rw [tab_known hM, h2 n v hM]
    | none =>
      have hK : K n = none := by
        cases hK : K n with
        | none => rfl
        | some v => rw [h1 n v hK] at hM; cases hM
      by_cases hn : n < first
      · rw [tab_low hM hn, tab_low hK hn]
      · cases hg : ands[n - first]? with
        | none => rw [tab, tab, hM, hK]; simp [hn, hg]
        | some p =>
          obtain ⟨a, b⟩ := p
          by_cases hab : a / 2 < n ∧ b / 2 < n
          · rw [tab_gate hM hn hg hab.1 hab.2, tab_gate hK hn hg hab.1 hab.2, ih _ hab.1, ih _ hab.2]
          · rw [tab, tab, hM, hK]; simp [hn, hg, hab]
/-- what a map of nodes' values holds comes through, under what keeps literals and the and -/
theorem tab_map {K : Nat → Option Nat} {first : Nat} {ands : List (Nat × Nat)} (f : Nat → Nat) (L : Nat → Nat → Nat) (hf : ∀ x y a b, f (lit x a &&& lit y b) = L (f x) a &&& L (f y) b) (T : Nat → Option Nat)
    (hK : ∀ n v, K n = some v → T n = some (f v)) (hlow : ∀ n, K n = none → n < first → T n = none)
    (hg : ∀ n a b, K n = none → ¬ n < first → ands[n - first]? = some (a, b) → a / 2 < n → b / 2 < n → T n = match T (a / 2) with
      | none => none
      | some x => match T (b / 2) with
        | none => none
        | some y => some (L x a &&& L y b)) (hin : ∀ i a b, ands[i]? = some (a, b) → a / 2 < first + i ∧ b / 2 < first + i) :
    ∀ n, n < first + ands.length → T n = (tab K first ands n).map f := by
  intro n
  induction n using Nat.strongRecOn with
  | ind n ih =>
    intro hlt
    cases h : K n with
    | some v => rw [tab_known h, hK n v h]; rfl
    | none =>
      by_cases hn : n < first
      · rw [tab_low h hn, hlow n h hn]; rfl
      · obtain ⟨p, hp⟩ : ∃ p, ands[n - first]? = some p := ⟨ands[n - first], List.getElem?_eq_getElem (by omega)⟩
        obtain ⟨a, b⟩ := p
        obtain ⟨ha, hb⟩ := hin _ _ _ hp
        have ha' : a / 2 < n := by omega
        have hb' : b / 2 < n := by omega
        rw [tab_gate h hn hp ha' hb', hg n a b h hn hp ha' hb', ih _ ha' (by omega), ih _ hb' (by omega)]
        cases tab K first ands (a / 2) with
        | none => rfl
        | some x => cases tab K first ands (b / 2) with
          | none => rfl
          | some y => simp [hf]
/-! ## Rows -/
/-- all rows of so many leaves -/
def rows (n : Nat) : Nat := 2 ^ 2 ^ n - 1
/-- a leaf's values, in 64 rows -/
def col (i : Nat) : Nat := match i with
  | 0 => 0xaaaaaaaaaaaaaaaa
  | 1 => 0xcccccccccccccccc
  | 2 => 0xf0f0f0f0f0f0f0f0
  | 3 => 0xff00ff00ff00ff00
  | 4 => 0xffff0000ffff0000
  | _ => 0xffffffff00000000
theorem and_mask (x y m : Nat) : (x &&& y) &&& m = (x &&& m) &&& (y &&& m) := by
  apply Nat.eq_of_testBit_eq
  intro i
  simp only [Nat.testBit_and]
  cases x.testBit i <;> cases y.testBit i <;> cases m.testBit i <;> rfl
theorem xor_mask (x o m : Nat) : (x ^^^ o) &&& m = ((x &&& m) ^^^ o) &&& m := by
  apply Nat.eq_of_testBit_eq
  intro i
  simp only [Nat.testBit_and, Nat.testBit_xor]
  cases x.testBit i <;> cases o.testBit i <;> cases m.testBit i <;> rfl
/-- a literal's values, of so many rows -/
def litM (m x a : Nat) : Nat := if a % 2 = 1 then (x ^^^ ones) &&& m else x
theorem mask_lit (m x y a b : Nat) : (lit x a &&& lit y b) &&& m = litM m (x &&& m) a &&& litM m (y &&& m) b := by
  rw [and_mask]
  congr 1
  · unfold lit litM; split
    · exact xor_mask _ _ _
    · rfl
  · unfold lit litM; split
    · exact xor_mask _ _ _
    · rfl
end Go.Proofs.YtaajnmggbhnndaaGreatDoor.Cut
namespace Go.Proofs.YtaajnmggbhnndaaGreatDoor.Cut
/-! ## Lists that rise -/
def Rises (l : List Int) : Prop := l.Pairwise (· < ·)
instance (l : List Int) : Decidable (Rises l) := by unfold Rises; infer_instance
theorem rises_uniq : ∀ {l m : List Int}, Rises l → Rises m → (∀ x, x ∈ l ↔ x ∈ m) → l = m
  | [], [], _, _, _ => rfl
  | [], y :: m, _, _, h => by have := (h y).2 (by simp); cases this
  | x :: l, [], _, _, h => by have := (h x).1 (by simp); cases this
  | x :: l, y :: m, hl, hm, h => by
    have hl' := List.pairwise_cons.1 hl
    have hm' := List.pairwise_cons.1 hm
    have hxy : x = y := by
      have h1 := (h x).1 (by simp)
      have h2 := (h y).2 (by simp)
      rcases List.mem_cons.1 h1 with e | h1
      · exact e
      · rcases List.mem_cons.1 h2 with e | h2
        · exact e.symm
        · have a := hm'.1 x h1
          have b := hl'.1 y h2
          omega
    subst hxy
    rw [rises_uniq hl'.2 hm'.2 (fun z => ?_)]
    constructor
    · intro hz
      have hne := hl'.1 z hz
      rcases List.mem_cons.1 ((h z).1 (List.mem_cons_of_mem _ hz)) with e | e
      · omega
      · exact e
    · intro hz
      have hne := hm'.1 z hz
      rcases List.mem_cons.1 ((h z).2 (List.mem_cons_of_mem _ hz)) with e | e
      · omega
      · exact e
/-- two lists made one -/
def mrg : List Int → List Int → List Int
  | [], b => b
  | a, [] => a
  | x :: a, y :: b => if x < y then x :: mrg a (y :: b) else if y < x then y :: mrg (x :: a) b else x :: mrg a b
termination_by a b => a.length + b.length
theorem mem_mrg : ∀ (a b : List Int) (z : Int), z ∈ mrg a b ↔ z ∈ a ∨ z ∈ b
  | [], b, z => by simp [mrg]
  | x :: a, [], z => by simp [mrg]
  | x :: a, y :: b, z => by
    rw [mrg]
    split
    · simp only [List.mem_cons, mem_mrg a (y :: b) z]
      constructor
      · rintro (h | h | h | h)
        · exact .inl (.inl h)
        · exact .inl (.inr h)
        · exact .inr (.inl h)
        · exact .inr (.inr h)
      · rintro ((h | h) | h | h)
        · exact .inl h
        · exact .inr (.inl h)
        · exact .inr (.inr (.inl h))
        · exact .inr (.inr (.inr h))
    · split
      · simp only [List.mem_cons, mem_mrg (x :: a) b z]
        constructor
        · rintro (h | (h | h) | h)
          · exact .inr (.inl h)
          · exact .inl (.inl h)
          · exact .inl (.inr h)
          · exact .inr (.inr h)
        · rintro ((h | h) | h | h)
          · exact .inr (.inl (.inl h))
          · exact .inr (.inl (.inr h))
          · exact .inl h
          · exact .inr (.inr h)
      · have e : x = y := by omega
        subst e
        simp only [List.mem_cons, mem_mrg a b z]
        constructor
        · rintro (h | h | h)
          · exact .inl (.inl h)
          · exact .inl (.inr h)
          · exact .inr (.inr h)
        · rintro ((h | h) | h | h)
          · exact .inl h
          · exact .inr (.inl h)
          · exact .inl h
          · exact .inr (.inr h)
termination_by a b => a.length + b.length
theorem mrg_rises : ∀ (a b : List Int), Rises a → Rises b → Rises (mrg a b)
  | [], b, _, hb => by simpa [mrg] using hb
  | x :: a, [], ha, _ => by simpa [mrg] using ha
  | x :: a, y :: b, ha, hb => by
    have ha' := List.pairwise_cons.1 ha
    have hb' := List.pairwise_cons.1 hb
    rw [mrg]
    split
    · refine List.pairwise_cons.2 ⟨fun z hz => ?_, mrg_rises a (y :: b) ha'.2 hb⟩
      rcases (mem_mrg _ _ _).1 hz with h | h
      · exact ha'.1 z h
      · rcases List.mem_cons.1 h with h | h
        · omega
        · have := hb'.1 z h; omega
    · split
      · refine List.pairwise_cons.2 ⟨fun z hz => ?_, mrg_rises (x :: a) b ha hb'.2⟩
        rcases (mem_mrg _ _ _).1 hz with h | h
        · rcases List.mem_cons.1 h with h | h
          · omega
          · have := ha'.1 z h; omega
        · exact hb'.1 z h
      · refine List.pairwise_cons.2 ⟨fun z hz => ?_, mrg_rises a b ha'.2 hb'.2⟩
        rcases (mem_mrg _ _ _).1 hz with h | h
        · exact ha'.1 z h
        · have := hb'.1 z h; omega
termination_by a b => a.length + b.length
theorem mrg_comm {a b : List Int} (ha : Rises a) (hb : Rises b) : mrg a b = mrg b a :=
  rises_uniq (mrg_rises a b ha hb) (mrg_rises b a hb ha) (fun z => by rw [mem_mrg, mem_mrg]; exact Or.comm)
theorem mrg_len : ∀ (a b : List Int), a.length ≤ (mrg a b).length ∧ b.length ≤ (mrg a b).length ∧ (mrg a b).length ≤ a.length + b.length
  | [], b => by simp [mrg]
  | x :: a, [] => by simp [mrg]
  | x :: a, y :: b => by
    rw [mrg]
    split
    · have := mrg_len a (y :: b); simp only [List.length_cons] at this ⊢; omega
    · split
      · have := mrg_len (x :: a) b; simp only [List.length_cons] at this ⊢; omega
      · have := mrg_len a b; simp only [List.length_cons] at this ⊢; omega
termination_by a b => a.length + b.length
/-- what Merge tells -/
def merge (a b : List Int) (k : Int) : Option (List Int) := if Rises a ∧ Rises b ∧ 0 ≤ k ∧ k ≤ 6 ∧ ((mrg a b).length : Int) ≤ k then some (mrg a b) else none
end Go.Proofs.YtaajnmggbhnndaaGreatDoor.Cut

namespace Go.Proofs.YtaajnmggbhnndaaGreatDoor
open Go.RowKit
set_option linter.unusedVariables false
set_option linter.unusedSimpArgs false

theorem rises_iff (l : List Int) : Cut.Rises l ↔ ∀ j, j + 1 < l.length → l.getD j 0 < l.getD (j + 1) 0 := by
  have e : ∀ j (h : j < l.length), l.getD j 0 = l[j] := fun j h => by rw [List.getD_eq_getElem?_getD, List.getElem?_eq_getElem h]; rfl
  unfold Cut.Rises
  rw [List.pairwise_iff_getElem]
  constructor
  · intro h j hj
    rw [e j (by omega), e (j + 1) hj]
    exact h j (j + 1) (by omega) hj (by omega)
  · intro h i j hi hj hij
    have key : ∀ d, i + d + 1 < l.length → l.getD i 0 < l.getD (i + d + 1) 0 := by
      intro d
      induction d with
      | zero => intro hd; exact h i hd
      | succ d ih =>
        intro hd
        have h1 := ih (by omega)
        have h2 := h (i + d + 1) hd
        exact Int.lt_trans h1 h2
    have := key (j - i - 1) (by omega)
    rw [show i + (j - i - 1) + 1 = j by omega, e i hi, e j hj] at this
    exact this
/-- as far as k they rise -/
def RiseTo (l : List Int) (k : Nat) : Prop := ∀ j, j < k → l.getD j 0 < l.getD (j + 1) 0
theorem riseTo_all {l : List Int} {k : Nat} (h : RiseTo l k) (hk : l.length ≤ k + 1) : Cut.Rises l := (rises_iff l).2 fun j hj => h j (by omega)
theorem riseTo_next {l : List Int} {k : Nat} (h : RiseTo l k) (hk : l.getD k 0 < l.getD (k + 1) 0) : RiseTo l (k + 1) := fun j hj => by
  by_cases e : j = k
  · subst e; exact hk
  · exact h j (by omega)
theorem rises_not {l : List Int} {k : Nat} (hk : k + 1 < l.length) (h : l.getD (k + 1) 0 ≤ l.getD k 0) : ¬ Cut.Rises l := fun hr => by have := (rises_iff l).1 hr k hk; omega
theorem add_one_add (a : Addr) (k : Nat) : a.add (k + 1) = ⟨a.block, a.off + 1 + k, none⟩ := by
  unfold Addr.add
  rw [if_neg (by omega)]
  congr 1
  omega
set_option maxRecDepth 100000 in
set_option maxHeartbeats 2000000 in
theorem crises_any (A : Option Addr) (c : Nat) (l : List Int) (w : World) (hr : Rd w 1 A l.length c (ints l)) (hn : l.length ≤ 1000000) :
    Calls Tryz.prog 73 #[.slice A l.length c] w fun r w' => r = .returned (.bool (decide (Cut.Rises l))) ∧ Below w.heap.size w w' := by
  obtain ⟨r, hrr⟩ : ∃ r, decide (Cut.Rises l) = r := ⟨_, rfl⟩
  have HR := Lib.hid hrr
  rw [hrr]
  have HA := Lib.hid hr
  obtain ⟨n, hnn⟩ : ∃ n, l.length = n := ⟨_, rfl⟩
  have HN := Lib.hid hnn
  rw [hnn] at hn ⊢
  have hcap := hr.cap
  rw [hnn] at hcap
  clear hrr hnn
  by_cases h0 : n = 0
  · have hr1 : r = true := by
      rw [← HR.out]
      exact decide_eq_true (riseTo_all (k := 0) (fun j hj => absurd hj (by omega)) (by rw [HN.out]; omega))
    have H1 := Lib.hid hr1
    subst h0
    clear hr hr1 hcap
    cases A with
    | none =>
      have hc : c = 0 := HA.out.nil rfl
      subst hc
      go_enter Tryz.func73, Tryz.ntmps73
      go_wp2_with fail
      go_loop [11] (fun i => i = .int .i64 0) (fun _ => 0)
      case atStart => rfl
      case round =>
        subst hrel
        go_wp2_with fail
        go_ret
        exact ⟨by rw [H1.out]; rfl, Below.refl _ _⟩
    | some a =>
      go_enter Tryz.func73, Tryz.ntmps73
      go_wp2_with fail
      go_loop [11] (fun i => i = .int .i64 0) (fun _ => 0)
      case atStart => rfl
      case round =>
        subst hrel
        go_wp2_with fail
        go_ret
        exact ⟨by rw [H1.out]; rfl, Below.refl _ _⟩
  obtain ⟨m, rfl⟩ : ∃ m, n = m + 1 := ⟨n - 1, by omega⟩
  obtain ⟨a, hA, -, -⟩ := hr.int (k := 0) (by rw [HN.out]; omega)
  subst hA
  clear hr h0
  have hmin : (if ((m : Int) + 1) < 1 then ((m : Int) + 1) else 1) = 1 := if_neg (by omega)
  have hm0 : ¬ (m : Int) + 1 < 1 := by omega
  have hm1 : (1 : Int) ≤ (m : Int) + 1 := by omega
  by_cases hc1 : c = 1
  · have hm : m = 0 := by omega
    have hr1 : r = true := by
      rw [← HR.out]
      exact decide_eq_true (riseTo_all (k := 0) (fun j hj => absurd hj (by omega)) (by rw [HN.out]; omega))
    have H1 := Lib.hid hr1
    subst hm hc1
    clear hr1 hcap hmin hm0 hm1
    go_enter Tryz.func73, Tryz.ntmps73
    go_wp2_with fail
    go_loop [11] (fun i => i = .int .i64 0) (fun _ => 0)
    case atStart => rfl
    case round =>
      subst hrel
      go_wp2_with fail
      go_ret
      exact ⟨by rw [H1.out]; rfl, Below.refl _ _⟩
  have hc2 : ¬ 1 = c := fun h => hc1 h.symm
  go_enter Tryz.func73, Tryz.ntmps73
  go_wp2_with fail
  go_loopw [11] (fun i wx => ∃ k : Nat, k ≤ m ∧ i = .int .i64 (k : Int) ∧ RiseTo l k ∧ Below w.heap.size w wx) (fun i _ => m - (intOf i).toNat)
  case atStart => exact ⟨0, by omega, rfl, fun j hj => absurd hj (by omega), Below.refl _ _⟩
  case round =>
    obtain ⟨k, hk, rfl, ht, hB⟩ := hrel
    have HT := Lib.hid ht
    have B1 := Lib.hid hB
    clear ht hB hmin
    by_cases hlt : k < m
    case neg =>
      obtain rfl : k = m := by omega
      have hr1 : r = true := by
        rw [← HR.out]
        exact decide_eq_true (riseTo_all HT.out (by rw [HN.out]; exact Nat.le_refl _))
      have H1 := Lib.hid hr1
      clear hr1
      go_wp2_with fail
      go_ret
      exact ⟨by rw [H1.out]; rfl, B1.out⟩
    obtain ⟨a1, e1, -, d0⟩ := (HA.out.later B1.out).int (k := k) (by rw [HN.out]; omega)
    obtain ⟨a2, e2, -, d1⟩ := (HA.out.later B1.out).int (k := k + 1) (by rw [HN.out]; omega)
    obtain rfl := Option.some.inj e1
    obtain rfl := Option.some.inj e2
    rw [add_one_add] at d1
    have hnot : l.getD (k + 1) 0 ≤ l.getD k 0 → r = false := fun h => by
      rw [← HR.out]; exact decide_eq_false (rises_not (by rw [HN.out]; omega) h)
    have hnx : l.getD k 0 < l.getD (k + 1) 0 → RiseTo l (k + 1) := fun h => riseTo_next HT.out h
    have HNOT := Lib.hid hnot
    have HNX := Lib.hid hnx
    clear hnot hnx e1 e2
    generalize l.getD k 0 = x at d0 HNOT HNX
    generalize l.getD (k + 1) 0 = y at d1 HNOT HNX
    by_cases hxy : y ≤ x
    · have HF := Lib.hid (HNOT.out hxy)
      go_wp2_with fail
      go_ret
      exact ⟨by rw [HF.out]; rfl, B1.out⟩
    · have HF := Lib.hid (HNX.out (by omega))
      go_wp2_with fail
      go_roundw
      case rel => exact ⟨k + 1, by omega, by go_num, HF.out, B1.out⟩
      case measure => simp [intOf]; omega
set_option maxRecDepth 100000 in
theorem rows_any (n : Nat) (w : World) (hn : n ≤ 6) :
    Calls Tryz.prog 64 #[.int .i64 (n : Int)] w fun r w' => r = .returned (.int .u64 (Cut.rows n : Int)) ∧ w = w' := by
  rcases (show n = 0 ∨ n = 1 ∨ n = 2 ∨ n = 3 ∨ n = 4 ∨ n = 5 ∨ n = 6 by omega) with rfl | rfl | rfl | rfl | rfl | rfl | rfl
  all_goals
    go_enter Tryz.func64, Tryz.ntmps64
    go_wp2_with fail
    go_ret
    exact ⟨by first | rfl | (simp [Cut.rows]), rfl⟩
end Go.Proofs.YtaajnmggbhnndaaGreatDoor

namespace Go.Proofs.YtaajnmggbhnndaaGreatDoor
open Go.RowKit
set_option linter.unusedVariables false
set_option linter.unusedSimpArgs false

theorem wp_region_still_in {P : Program} {id : Nat} {Q : Exit → Act → World → Prop} {a : Act} {w : World} {l : List Oper} (hm : P.follows .mixedOrders = true) (hB : Region.lexB .any l.toArray = true)
    (h : ∀ (β : Type) (_ : Nonempty β) (V : β → World), (∀ s, Below w.heap.size w (V s)) → (∀ w', Below w.heap.size w w' → ∃ s, w' = V s) →
      wpQuiet P l.toArray (fun w' => ∃ s, w' = V s) (fun a' => ∀ w', (∃ s, w' = V s) → Q .normal a' w') l a) : (Code.region id l.toArray true).wp P Q a w :=
  wp_region_quiet (C := fun w' => ∃ s : { x : World // Below w.heap.size w x }, w' = s.val) hm hB ⟨⟨_, below_drewN (Below.refl _ _) 1⟩, rfl⟩
    (by simpa using h { x : World // Below w.heap.size w x } ⟨⟨w, Below.refl _ _⟩⟩ (fun s => s.val) (fun s => s.property) (fun w' hw => ⟨⟨w', hw⟩, rfl⟩))
theorem still_cell {w : World} {β : Type} {V : β → World} (hV : ∀ s, Below w.heap.size w (V s)) {p : Addr} {v : Value} (h : w.cell? p = some v) : ∀ s, (V s).cell? p = some v := fun s =>
  ((hV s).cell (World.block_lt_of_cell? w p h)).trans h
theorem Calls.still {P : Program} {f : FuncId} {args : Array Value} {w : World} {β : Type} {V : β → World} (hV : ∀ s, Below w.heap.size w (V s)) (hS : ∀ w', Below w.heap.size w w' → ∃ s, w' = V s) {s : β} {v : Value}
    (h : Calls P f args (V s) fun e w' => e = .returned v ∧ Below (V s).heap.size (V s) w') : Calls P f args (V s) fun e w'' => e = .returned v ∧ ∃ s, w'' = V s :=
  h.mono fun _ _ ⟨he, hb⟩ => ⟨he, hS _ (below_then (hV s) hb)⟩
theorem Calls.still_same {P : Program} {f : FuncId} {args : Array Value} {w : World} {β : Type} {V : β → World} (hS : ∀ w', Below w.heap.size w w' → ∃ s, w' = V s) {s : β} {v : Value}
    (h : Calls P f args (V s) fun e w' => e = .returned v ∧ V s = w') : Calls P f args (V s) fun e w'' => e = .returned v ∧ ∃ s, w'' = V s :=
  h.mono fun _ _ ⟨he, hb⟩ => ⟨he, s, hb.symm⟩
end Go.Proofs.YtaajnmggbhnndaaGreatDoor

namespace Go.Proofs.YtaajnmggbhnndaaGreatDoor
open Go.RowKit
set_option linter.unusedVariables false
set_option linter.unusedSimpArgs false

theorem u64_and_nat (a b : Nat) (ha : a < 18446744073709551616) (hb : b < 18446744073709551616) : bits .and .u64 (a : Int) (b : Int) = ((a &&& b : Nat) : Int) := by
  have e : bits .and .u64 (a : Int) (b : Int) = IntKind.u64.wrap ((BitVec.ofInt 64 (a : Int) &&& BitVec.ofInt 64 (b : Int)).toNat : Int) := rfl
  have e1 : (BitVec.ofInt 64 (a : Int)).toNat = a := by simp; omega
  have e2 : (BitVec.ofInt 64 (b : Int)).toNat = b := by simp; omega
  have h : a &&& b ≤ a := Nat.and_le_left
  rw [e, BitVec.toNat_and, e1, e2]
  show ((a &&& b : Nat) : Int) % 18446744073709551616 = _
  omega
theorem u64_or_nat (a b : Nat) (ha : a < 18446744073709551616) (hb : b < 18446744073709551616) : bits .or .u64 (a : Int) (b : Int) = ((a ||| b : Nat) : Int) := by
  have e : bits .or .u64 (a : Int) (b : Int) = IntKind.u64.wrap ((BitVec.ofInt 64 (a : Int) ||| BitVec.ofInt 64 (b : Int)).toNat : Int) := rfl
  have e1 : (BitVec.ofInt 64 (a : Int)).toNat = a := by simp; omega
  have e2 : (BitVec.ofInt 64 (b : Int)).toNat = b := by simp; omega
  have h : a ||| b < 2 ^ 64 := Nat.or_lt_two_pow (by omega) (by omega)
  rw [e, BitVec.toNat_or, e1, e2]
  show ((a ||| b : Nat) : Int) % 18446744073709551616 = _
  omega
namespace Cut
/-- a leaf's values in the first rows -/
def colTo (k : Nat) : Nat → Nat
  | 0 => 0
  | i + 1 => if i / 2 ^ k % 2 = 1 then colTo k i ||| 2 ^ i else colTo k i
theorem colTo_lt (k : Nat) : ∀ i, i ≤ 64 → colTo k i < 18446744073709551616
  | 0, _ => by simp [colTo]
  | i + 1, h => by
    have ih := colTo_lt k i (by omega)
    rw [colTo]
    split
    · refine Nat.or_lt_two_pow (n := 64) ih ?_
      exact Nat.pow_lt_pow_right (by omega) (by omega)
    · exact ih
def colM (k n : Nat) : Nat := colTo k (2 ^ n)
theorem colM_lt (k n : Nat) (h : n ≤ 6) : colM k n < 18446744073709551616 := colTo_lt k _ (by
  have : 2 ^ n ≤ 2 ^ 6 := Nat.pow_le_pow_right (by omega) h
  omega)
theorem colM_eq (k n : Nat) (hk : k < n) (hn : n ≤ 6) : colM k n = col k &&& rows n := by
  rcases (show n = 1 ∨ n = 2 ∨ n = 3 ∨ n = 4 ∨ n = 5 ∨ n = 6 by omega) with rfl | rfl | rfl | rfl | rfl | rfl
  · obtain rfl : k = 0 := by omega
    decide
  · rcases (show k = 0 ∨ k = 1 by omega) with rfl | rfl <;> decide
  · rcases (show k = 0 ∨ k = 1 ∨ k = 2 by omega) with rfl | rfl | rfl <;> decide
  · rcases (show k = 0 ∨ k = 1 ∨ k = 2 ∨ k = 3 by omega) with rfl | rfl | rfl | rfl <;> decide +kernel
  · rcases (show k = 0 ∨ k = 1 ∨ k = 2 ∨ k = 3 ∨ k = 4 by omega) with rfl | rfl | rfl | rfl | rfl <;> decide +kernel
  · rcases (show k = 0 ∨ k = 1 ∨ k = 2 ∨ k = 3 ∨ k = 4 ∨ k = 5 by omega) with rfl | rfl | rfl | rfl | rfl | rfl <;> decide +kernel
theorem full_eq (n : Nat) (hn : n ≤ 6) : (colM 0 n ||| (colM 0 n / 2)) ||| 1 = rows n := by
  rcases (show n = 0 ∨ n = 1 ∨ n = 2 ∨ n = 3 ∨ n = 4 ∨ n = 5 ∨ n = 6 by omega) with rfl | rfl | rfl | rfl | rfl | rfl | rfl <;> decide +kernel
theorem rows_lt (n : Nat) (hn : n ≤ 6) : rows n < 18446744073709551616 := by
  rcases (show n = 0 ∨ n = 1 ∨ n = 2 ∨ n = 3 ∨ n = 4 ∨ n = 5 ∨ n = 6 by omega) with rfl | rfl | rfl | rfl | rfl | rfl | rfl <;> decide
end Cut
set_option maxRecDepth 100000 in
set_option maxHeartbeats 1000000 in
theorem column_any (k n : Nat) (w : World) (hk : k ≤ 5) (hn : n ≤ 6) :
    Calls Tryz.prog 83 #[.int .i64 (k : Int), .int .i64 (n : Int)] w fun r w' => r = .returned (.int .u64 (Cut.colM k n : Int)) ∧ w = w' := by
  obtain ⟨p, hp⟩ : ∃ p, 2 ^ n = p := ⟨_, rfl⟩
  obtain ⟨q, hq⟩ : ∃ q, 2 ^ k = q := ⟨_, rfl⟩
  have hp6 : p ≤ 64 := by
    have : 2 ^ n ≤ 2 ^ 6 := Nat.pow_le_pow_right (by omega) hn
    omega
  have HP := pow_nat hp
  have HQ := pow_nat hq
  have hc : Cut.colM k n = Cut.colTo k p := by rw [← hp]; rfl
  rw [hc]
  clear hc
  have HP2 := Lib.hid hp
  have HQ2 := Lib.hid hq
  clear hp hq
  go_enter Tryz.func83, Tryz.ntmps83
  go_wp2_with fail
  go_loop [5, 6] (fun v i => ∃ j : Nat, j ≤ p ∧ i = .int .i64 (j : Int) ∧ v = .int .u64 (Cut.colTo k j : Int)) (fun _ i => p - (intOf i).toNat)
  case atStart => exact ⟨0, by omega, rfl, rfl⟩
  case round =>
    obtain ⟨j, hj, rfl, rfl⟩ := hrel
    by_cases hlt : j < p
    case neg =>
      obtain rfl : j = p := by omega
      go_wp2_with fail
      go_ret
      exact ⟨rfl, rfl⟩
    obtain ⟨d, hd⟩ : ∃ d, j / q = d := ⟨_, rfl⟩
    have HD : (j : Int) / (q : Int) = (d : Int) := by rw [← hd]; rfl
    have hd6 : d ≤ 64 := by rw [← hd]; exact Nat.le_trans (Nat.div_le_self _ _) (by omega)
    have HB := and1_i64 d (by omega)
    obtain ⟨x, hx⟩ : ∃ x, Cut.colTo k j = x := ⟨_, rfl⟩
    have hx64 : x < 18446744073709551616 := by rw [← hx]; exact Cut.colTo_lt k j (by omega)
    obtain ⟨y, hy⟩ : ∃ y, 2 ^ j = y := ⟨_, rfl⟩
    have HY := pow_nat hy
    have hy64 : y < 18446744073709551616 := by rw [← hy]; exact Nat.pow_lt_pow_right (n := 64) (by omega) (by omega)
    have HO := u64_or_nat x y hx64 hy64
    by_cases hb : d % 2 = 1
    · have hnx : Cut.colTo k (j + 1) = x ||| y := by
        rw [Cut.colTo, HQ2.out, hd, if_pos hb, hx, hy]
      have HN := Lib.hid hnx
      rw [hb] at HB
      rw [hx]
      have HX := Lib.hid hx
      clear hx hnx hd hy
      go_wp2_with fail
      go_round
      · exact ⟨j + 1, by omega, by go_num, by rw [HN.out]⟩
      · simp [intOf]; omega
    · have hb0 : d % 2 = 0 := by omega
      have hnx : Cut.colTo k (j + 1) = x := by
        rw [Cut.colTo, HQ2.out, hd, if_neg hb, hx]
      have HN := Lib.hid hnx
      rw [hb0] at HB
      rw [hx]
      have HX := Lib.hid hx
      clear hx hnx hd hy
      go_wp2_with fail
      go_round
      · exact ⟨j + 1, by omega, by go_num, by rw [HN.out]⟩
      · simp [intOf]; omega
end Go.Proofs.YtaajnmggbhnndaaGreatDoor

namespace Go.Proofs.YtaajnmggbhnndaaGreatDoor
open Go.RowKit
set_option linter.unusedVariables false
set_option linter.unusedSimpArgs false

set_option maxRecDepth 100000 in
set_option maxHeartbeats 1000000 in
theorem rrises_any (A : Option Addr) (c : Nat) (l : List Int) (w : World) (hr : Rd w 1 A l.length c (ints l)) (hn : l.length ≤ 1000000) :
    Calls Tryz.prog 80 #[.slice A l.length c] w fun r w' => r = .returned (.bool (decide (Cut.Rises l))) ∧ Below w.heap.size w w' := by
  obtain ⟨r, hrr⟩ : ∃ r, decide (Cut.Rises l) = r := ⟨_, rfl⟩
  have HR := Lib.hid hrr
  rw [hrr]
  have HA := Lib.hid hr
  obtain ⟨n, hnn⟩ : ∃ n, l.length = n := ⟨_, rfl⟩
  have HN := Lib.hid hnn
  rw [hnn] at hn ⊢
  clear hrr hnn hr
  go_enter Tryz.func80, Tryz.ntmps80
  go_wp2_with fail
  go_loopw [3] (fun i wx => ∃ k j : Nat, (k + 1 ≤ n ∨ k = 0) ∧ k + 1 = j ∧ i = .int .i64 (j : Int) ∧ RiseTo l k ∧ Below w.heap.size w wx) (fun i _ => n + 1 - (intOf i).toNat)
  case atStart => exact ⟨0, 1, by omega, rfl, rfl, fun j hj => absurd hj (by omega), Below.refl _ _⟩
  case round =>
    obtain ⟨k, m, hk, hm, rfl, ht, hB⟩ := hrel
    have HM := Lib.hid hm
    have HT := Lib.hid ht
    have B1 := Lib.hid hB
    clear ht hB
    by_cases hlt : m < n
    case neg =>
      have hr1 : r = true := by
        rw [← HR.out]
        exact decide_eq_true (riseTo_all HT.out (by rw [HN.out]; omega))
      have H1 := Lib.hid hr1
      have hlt' : ¬ (m : Int) < (n : Int) := by omega
      clear hr1
      go_wp2_with fail
      go_ret
      exact ⟨by rw [H1.out]; rfl, B1.out⟩
    obtain ⟨a, hA, hab, d0⟩ := (HA.out.later B1.out).int (k := k) (by rw [HN.out]; omega)
    obtain ⟨a2, e2, -, d1⟩ := (HA.out.later B1.out).int (k := m) (by rw [HN.out]; omega)
    subst hA
    obtain rfl := Option.some.inj e2
    have hnot : l.getD m 0 ≤ l.getD k 0 → r = false := fun h => by
      rw [← HR.out]; rw [← hm] at h; exact decide_eq_false (rises_not (by rw [HN.out]; omega) h)
    have hnx : l.getD k 0 < l.getD m 0 → RiseTo l m := fun h => by rw [← hm] at h ⊢; exact riseTo_next HT.out h
    have HNOT := Lib.hid hnot
    have HNX := Lib.hid hnx
    have hlt' : (m : Int) < (n : Int) := by omega
    have hk0 : (m : Int) - 1 = (k : Int) := by omega
    have hkb : (k : Int) < (n : Int) := by omega
    have hkw : IntKind.i64.wrap (k : Int) = (k : Int) := IntWalk.i64_in _ (by omega)
    clear hnot hnx e2 hm
    generalize l.getD k 0 = x at d0 HNOT HNX
    generalize l.getD m 0 = y at d1 HNOT HNX
    by_cases hxy : y ≤ x
    · have HF := Lib.hid (HNOT.out hxy)
      go_wp2_with fail
      go_quiet (fail)
      go_wp2_with fail
      go_ret
      exact ⟨by rw [HF.out]; rfl, below_drewN B1.out _⟩
    · have HF := Lib.hid (HNX.out (by omega))
      go_wp2_with fail
      go_quiet (fail)
      go_wp2_with fail
      go_roundw
      case rel => exact ⟨m, m + 1, by have := HM.out; omega, rfl, by go_num, HF.out, below_drewN B1.out _⟩
      case measure => have := HM.out; simp [intOf]; omega
/-- are they leaves, c being the last node -/
def leavesB (c : Int) (l : List Int) : Bool := decide (l.length ≤ 6) && decide (Cut.Rises l) && (decide (l.length = 0) || decide (1 ≤ l.getD 0 0) && decide (l.getD (l.length - 1) 0 ≤ c))
set_option maxRecDepth 100000 in
set_option maxHeartbeats 2000000 in
theorem leaves_any (G : AG) (A : Option Addr) (c : Nat) (l : List Int) (w : World) (hr : Rd w 1 A l.length c (ints l)) (hn : l.length ≤ 1000000) (hi : 0 ≤ G.I) (hf : G.fit) :
    Calls Tryz.prog 68 #[.agg #[.int .i64 G.I, .slice G.AF G.fl.length G.cF, .slice G.AA G.an.length G.cA, .slice G.AO G.ou.length G.cO], .slice A l.length c] w fun r w' => r = .returned (.bool (leavesB G.cnt l)) ∧ Below w.heap.size w w' := by
  obtain ⟨r, hrr⟩ : ∃ r, leavesB G.cnt l = r := ⟨_, rfl⟩
  have HR := Lib.hid hrr
  rw [hrr]
  have X1 := Lib.hid (Blk.made w 26 #[.int .i64 G.I, .slice G.AF G.fl.length G.cF, .slice G.AA G.an.length G.cA, .slice G.AO G.ou.length G.cO])
  have B5 := Lib.hid (below_new w (.cells #[.int .i64 G.I, .slice G.AF G.fl.length G.cF, .slice G.AA G.an.length G.cA, .slice G.AO G.ou.length G.cO] 26))
  have HIN := Lib.hid hr
  have HRI := Lib.hid (fun (W : World) (hB : Below w.heap.size w W) => rrises_any A c l W (hr.later hB) hn)
  have HCO := Lib.hid (fun (W : World) => rcount_any G W hi hf)
  obtain ⟨AF, hAF⟩ : ∃ A, G.AF = A := ⟨_, rfl⟩
  obtain ⟨AA, hAA⟩ : ∃ A, G.AA = A := ⟨_, rfl⟩
  obtain ⟨AO, hAO⟩ : ∃ A, G.AO = A := ⟨_, rfl⟩
  obtain ⟨ct, hct⟩ : ∃ c, G.cnt = c := ⟨_, rfl⟩
  rw [hAF, hAA, hAO, hct] at HCO
  rw [hAF, hAA, hAO] at X1 B5 ⊢
  have hz := X1.out.lt
  have c0 := X1.out.cell 0
  have c1 := X1.out.cell 1
  have c2 := X1.out.cell 2
  have c3 := X1.out.cell 3
  have hct1 : 0 ≤ ct ∧ ct ≤ 10000 := by have := hf.i; have := hf.f; have := hf.a; rw [← hct]; unfold AG.cnt; omega
  obtain ⟨hct1, hct2⟩ := hct1
  rw [hct] at HR
  clear hr hrr hi hf hAF hAA hAO hct
  obtain ⟨n, hnn⟩ : ∃ n, l.length = n := ⟨_, rfl⟩
  have HN := Lib.hid hnn
  rw [hnn] at HIN HRI ⊢
  rw [hnn] at hn
  clear hnn
  have hS := HIN.out.later B5.out
  have HS := Lib.hid hS
  clear hS
  by_cases hn6 : n ≤ 6
  case neg =>
    have h1 : r = false := by rw [← HR.out]; simp [leavesB, HN.out, hn6]
    have H1 := Lib.hid h1
    have g1 : ¬ (n : Int) ≤ 6 := by omega
    have g2 : decide ((n : Int) ≤ 6) = false := decide_eq_false g1
    clear h1
    go_enter Tryz.func68, Tryz.ntmps68
    go_wp2_with fail
    refine wp_region_still_in (by kernel_rfl) (by kernel_rfl) fun St9 ne9 V9 hV9 hS9 => ?_
    have qc0 := still_cell hV9 c0
    have qc1 := still_cell hV9 c1
    have qc2 := still_cell hV9 c2
    have qc3 := still_cell hV9 c3
    repeat (first | go_big_quiet_step (first | (go_at_call 80; exact Calls.still hV9 hS9 (HRI.out _ (below_then B5.out (hV9 _)))) | (go_at_call 38; exact Calls.still hV9 hS9 (HCO.out _))) | quiet_step (first | (go_at_call 80; exact Calls.still hV9 hS9 (HRI.out _ (below_then B5.out (hV9 _)))) | (go_at_call 38; exact Calls.still hV9 hS9 (HCO.out _))))
    refine wpQuiet_nil ?_
    intro _ hw9
    obtain ⟨s9, rfl⟩ := hw9
    have hb9 := hV9 s9
    clear qc0 qc1 qc2 qc3 hS9
    generalize V9 s9 = w9 at hb9 ⊢
    clear hV9 s9 V9 ne9 St9
    go_wp2_with fail
    go_ret
    exact ⟨by rw [H1.out]; rfl, below_then B5.out hb9⟩
  have g1 : (n : Int) ≤ 6 := by omega
  have g1' : decide ((n : Int) ≤ 6) = true := decide_eq_true g1
  cases hri : decide (Cut.Rises l) with
  | false =>
    have h1 : r = false := by rw [← HR.out]; simp [leavesB, HN.out, hn6, hri]
    have H1 := Lib.hid h1
    rw [hri] at HRI
    clear h1 hri
    go_enter Tryz.func68, Tryz.ntmps68
    go_wp2_with fail
    refine wp_region_still_in (by kernel_rfl) (by kernel_rfl) fun St9 ne9 V9 hV9 hS9 => ?_
    have qc0 := still_cell hV9 c0
    have qc1 := still_cell hV9 c1
    have qc2 := still_cell hV9 c2
    have qc3 := still_cell hV9 c3
    repeat (first | go_big_quiet_step (first | (go_at_call 80; exact Calls.still hV9 hS9 (HRI.out _ (below_then B5.out (hV9 _)))) | (go_at_call 38; exact Calls.still hV9 hS9 (HCO.out _))) | quiet_step (first | (go_at_call 80; exact Calls.still hV9 hS9 (HRI.out _ (below_then B5.out (hV9 _)))) | (go_at_call 38; exact Calls.still hV9 hS9 (HCO.out _))))
    refine wpQuiet_nil ?_
    intro _ hw9
    obtain ⟨s9, rfl⟩ := hw9
    have hb9 := hV9 s9
    clear qc0 qc1 qc2 qc3 hS9
    generalize V9 s9 = w9 at hb9 ⊢
    clear hV9 s9 V9 ne9 St9
    go_wp2_with fail
    go_ret
    exact ⟨by rw [H1.out]; rfl, below_then B5.out hb9⟩
  | true =>
    rw [hri] at HRI
    by_cases hn0 : n = 0
    · have h1 : r = true := by rw [← HR.out]; simp [leavesB, HN.out, hn6, hri, hn0]
      have H1 := Lib.hid h1
      have g3 : ((n : Int) == 0) = true := by simp; omega
      clear h1 hri hn0
      go_enter Tryz.func68, Tryz.ntmps68
      go_wp2_with fail
      refine wp_region_still_in (by kernel_rfl) (by kernel_rfl) fun St9 ne9 V9 hV9 hS9 => ?_
      have qc0 := still_cell hV9 c0
      have qc1 := still_cell hV9 c1
      have qc2 := still_cell hV9 c2
      have qc3 := still_cell hV9 c3
      repeat (first | go_big_quiet_step (first | (go_at_call 80; exact Calls.still hV9 hS9 (HRI.out _ (below_then B5.out (hV9 _)))) | (go_at_call 38; exact Calls.still hV9 hS9 (HCO.out _))) | quiet_step (first | (go_at_call 80; exact Calls.still hV9 hS9 (HRI.out _ (below_then B5.out (hV9 _)))) | (go_at_call 38; exact Calls.still hV9 hS9 (HCO.out _))))
      refine wpQuiet_nil ?_
      intro _ hw9
      obtain ⟨s9, rfl⟩ := hw9
      have hb9 := hV9 s9
      clear qc0 qc1 qc2 qc3 hS9
      generalize V9 s9 = w9 at hb9 ⊢
      clear hV9 s9 V9 ne9 St9
      go_wp2_with fail
      go_ret
      exact ⟨by rw [H1.out]; rfl, below_then B5.out hb9⟩
    obtain ⟨a, hA, hab, d0⟩ := HS.out.int (k := 0) (by omega)
    obtain ⟨a2, e2, -, d1⟩ := HS.out.int (k := n - 1) (by omega)
    subst hA
    obtain rfl := Option.some.inj e2
    clear e2
    obtain ⟨m, hm⟩ : ∃ m, n - 1 = m := ⟨_, rfl⟩
    have hm1 : (n : Int) - 1 = (m : Int) := by omega
    have hm2 : IntKind.i64.wrap (m : Int) = (m : Int) := IntWalk.i64_in _ (by omega)
    have hmn : m < n := by omega
    have hmn' : (m : Int) < (n : Int) := by omega
    have hn1 : 0 < n := by omega
    have hn1' : (0 : Int) < (n : Int) := by omega
    have g3 : ¬ (n : Int) = 0 := by omega
    have g3' : ((n : Int) == 0) = false := by simp; omega
    have hval : r = (decide (1 ≤ l.getD 0 0) && decide (l.getD m 0 ≤ ct)) := by
      rw [← HR.out]; simp [leavesB, HN.out, hn6, hri, hn0, hm]
    have HVAL := Lib.hid hval
    rw [hm] at d1
    rw [show a.add 0 = a from if_pos rfl] at d0
    generalize l.getD 0 0 = x at d0 HVAL
    generalize l.getD m 0 = y at d1 HVAL
    clear hval hri hm hn0
    by_cases hx : 1 ≤ x
    case neg =>
      have h1 : r = false := by rw [HVAL.out]; simp [hx]
      have H1 := Lib.hid h1
      have g4 : decide (1 ≤ x) = false := decide_eq_false hx
      clear h1
      go_enter Tryz.func68, Tryz.ntmps68
      go_wp2_with fail
      refine wp_region_still_in (by kernel_rfl) (by kernel_rfl) fun St9 ne9 V9 hV9 hS9 => ?_
      have qc0 := still_cell hV9 c0
      have qc1 := still_cell hV9 c1
      have qc2 := still_cell hV9 c2
      have qc3 := still_cell hV9 c3
      have qd0 := still_cell hV9 d0
      repeat (first | go_big_quiet_step (first | (go_at_call 80; exact Calls.still hV9 hS9 (HRI.out _ (below_then B5.out (hV9 _)))) | (go_at_call 38; exact Calls.still hV9 hS9 (HCO.out _))) | quiet_step (first | (go_at_call 80; exact Calls.still hV9 hS9 (HRI.out _ (below_then B5.out (hV9 _)))) | (go_at_call 38; exact Calls.still hV9 hS9 (HCO.out _))))
      refine wpQuiet_nil ?_
      intro _ hw9
      obtain ⟨s9, rfl⟩ := hw9
      have hb9 := hV9 s9
      clear qc0 qc1 qc2 qc3 qd0 hS9
      generalize V9 s9 = w9 at hb9 ⊢
      clear hV9 s9 V9 ne9 St9
      go_wp2_with fail
      go_ret
      exact ⟨by rw [H1.out]; rfl, below_then B5.out hb9⟩
    have g4 : decide (1 ≤ x) = true := decide_eq_true hx
    by_cases hy : y ≤ ct
    case neg =>
      have h1 : r = false := by rw [HVAL.out]; simp [hy]
      have H1 := Lib.hid h1
      have g5 : ¬ y < 1 + ct := by omega
      have g6 : decide (y < 1 + ct) = false := decide_eq_false g5
      clear h1
      go_enter Tryz.func68, Tryz.ntmps68
      go_wp2_with fail
      refine wp_region_still_in (by kernel_rfl) (by kernel_rfl) fun St9 ne9 V9 hV9 hS9 => ?_
      have qc0 := still_cell hV9 c0
      have qc1 := still_cell hV9 c1
      have qc2 := still_cell hV9 c2
      have qc3 := still_cell hV9 c3
      have qd0 := still_cell hV9 d0
      have qd1 := still_cell hV9 d1
      repeat (first | go_big_quiet_step (first | (go_at_call 80; exact Calls.still hV9 hS9 (HRI.out _ (below_then B5.out (hV9 _)))) | (go_at_call 38; exact Calls.still hV9 hS9 (HCO.out _))) | quiet_step (first | (go_at_call 80; exact Calls.still hV9 hS9 (HRI.out _ (below_then B5.out (hV9 _)))) | (go_at_call 38; exact Calls.still hV9 hS9 (HCO.out _))))
      refine wpQuiet_nil ?_
      intro _ hw9
      obtain ⟨s9, rfl⟩ := hw9
      have hb9 := hV9 s9
      clear qc0 qc1 qc2 qc3 qd0 qd1 hS9
      generalize V9 s9 = w9 at hb9 ⊢
      clear hV9 s9 V9 ne9 St9
      go_wp2_with fail
      go_ret
      exact ⟨by rw [H1.out]; rfl, below_then B5.out hb9⟩
    have h1 : r = true := by rw [HVAL.out]; simp [hx, hy]
    have H1 := Lib.hid h1
    have g5 : y < 1 + ct := by omega
    have g6 : decide (y < 1 + ct) = true := decide_eq_true g5
    clear h1
    go_enter Tryz.func68, Tryz.ntmps68
    go_wp2_with fail
    refine wp_region_still_in (by kernel_rfl) (by kernel_rfl) fun St9 ne9 V9 hV9 hS9 => ?_
    have qc0 := still_cell hV9 c0
    have qc1 := still_cell hV9 c1
    have qc2 := still_cell hV9 c2
    have qc3 := still_cell hV9 c3
    have qd0 := still_cell hV9 d0
    have qd1 := still_cell hV9 d1
    repeat (first | go_big_quiet_step (first | (go_at_call 80; exact Calls.still hV9 hS9 (HRI.out _ (below_then B5.out (hV9 _)))) | (go_at_call 38; exact Calls.still hV9 hS9 (HCO.out _))) | quiet_step (first | (go_at_call 80; exact Calls.still hV9 hS9 (HRI.out _ (below_then B5.out (hV9 _)))) | (go_at_call 38; exact Calls.still hV9 hS9 (HCO.out _))))
    refine wpQuiet_nil ?_
    intro _ hw9
    obtain ⟨s9, rfl⟩ := hw9
    have hb9 := hV9 s9
    clear qc0 qc1 qc2 qc3 qd0 qd1 hS9
    generalize V9 s9 = w9 at hb9 ⊢
    clear hV9 s9 V9 ne9 St9
    go_wp2_with fail
    go_ret
    exact ⟨by rw [H1.out]; rfl, below_then B5.out hb9⟩
end Go.Proofs.YtaajnmggbhnndaaGreatDoor

namespace Go.Proofs.YtaajnmggbhnndaaGreatDoor
open Go.RowKit
set_option linter.unusedVariables false
set_option linter.unusedSimpArgs false

set_option maxRecDepth 100000 in
theorem full_any (n : Nat) (w : World) (hn : n ≤ 6) :
    Calls Tryz.prog 103 #[.int .i64 (n : Int)] w fun r w' => r = .returned (.int .u64 (Cut.rows n : Int)) ∧ w = w' := by
  obtain ⟨x, hx⟩ : ∃ x, Cut.colM 0 n = x := ⟨_, rfl⟩
  have hx64 : x < 18446744073709551616 := by rw [← hx]; exact Cut.colM_lt 0 n hn
  have hf := Cut.full_eq n hn
  rw [hx] at hf
  obtain ⟨d, hd⟩ : ∃ d, x / 2 = d := ⟨_, rfl⟩
  have hd64 : d < 18446744073709551616 := by omega
  have HD : (x : Int) / 2 = (d : Int) := by rw [← hd]; rfl
  have HO1 := u64_or_nat x d hx64 hd64
  rw [hd] at hf
  obtain ⟨y, hy⟩ : ∃ y, x ||| d = y := ⟨_, rfl⟩
  rw [hy] at HO1 hf
  have hy64 : y < 18446744073709551616 := by rw [← hy]; exact Nat.or_lt_two_pow (n := 64) hx64 hd64
  have HO2 := u64_or_nat y 1 hy64 (by omega)
  rw [hf] at HO2
  have HO2' : bits .or .u64 (y : Int) 1 = (Cut.rows n : Int) := HO2
  have HC := Lib.hid (fun (W : World) => hx ▸ column_any 0 n W (by omega) hn)
  clear hx hf hd hy HO2
  generalize Cut.rows n = R at HO2' ⊢
  go_enter Tryz.func103, Tryz.ntmps103
  go_wp2_with fail
  refine (HC.out _).mono ?_
  rintro e w1 ⟨rfl, rfl⟩
  go_wp2_with fail
  refine (HC.out _).mono ?_
  rintro e w1 ⟨rfl, rfl⟩
  go_wp2_with fail
  go_ret
  exact ⟨rfl, rfl⟩
theorem u64_not_nat (a : Nat) (ha : a < 18446744073709551616) : bits .xor .u64 18446744073709551615 (a : Int) = ((a ^^^ Cut.ones : Nat) : Int) := by
  have e : bits .xor .u64 18446744073709551615 (a : Int) = IntKind.u64.wrap ((BitVec.ofInt 64 18446744073709551615 ^^^ BitVec.ofInt 64 (a : Int)).toNat : Int) := rfl
  have e1 : (BitVec.ofInt 64 (a : Int)).toNat = a := by simp; omega
  have e2 : (BitVec.ofInt 64 18446744073709551615).toNat = Cut.ones := by decide
  have h : Cut.ones ^^^ a < 2 ^ 64 := Nat.xor_lt_two_pow (by decide) (by omega)
  rw [e, BitVec.toNat_xor, e1, e2, Nat.xor_comm]
  rw [Nat.xor_comm] at h
  show ((a ^^^ Cut.ones : Nat) : Int) % 18446744073709551616 = _
  omega
theorem xor_ones_lt (a : Nat) (ha : a < 18446744073709551616) : a ^^^ Cut.ones < 18446744073709551616 := Nat.xor_lt_two_pow (n := 64) (by omega) (by decide)
def u64s (l : List Nat) : List Value := l.map fun (n : Nat) => .int .u64 (n : Int)
theorem Rd.u64 {w : World} {A : Option Addr} {n c : Nat} {l : List Nat} (h : Rd w 1 A n c (u64s l)) {k : Nat} (hk : k < n) : ∃ a, A = some a ∧ a.block < w.heap.size ∧ w.cell? (a.add k) = some (.int .u64 (l.getD k 0 : Int)) := by
  obtain ⟨a, hA, hb, hc⟩ := h.at1 hk
  refine ⟨a, hA, hb, hc.trans ?_⟩
  have := h.len
  simp only [u64s, List.length_map, Nat.mul_one] at this
  simp [u64s, List.getD_eq_getElem?_getD, List.getElem?_map, List.getElem?_eq_getElem (show k < l.length by omega)]
set_option maxRecDepth 100000 in
set_option maxHeartbeats 1000000 in
theorem turned_any (A : Option Addr) (N c : Nat) (l : List Nat) (a n : Nat) (w : World) (hr : Rd w 1 A N c (u64s l)) (ha : a / 2 < N) (hN : N ≤ 1000000) (hn : n ≤ 6) (hl : ∀ x ∈ l, x < 18446744073709551616) :
    Calls Tryz.prog 84 #[.slice A N c, .int .i64 (a : Int), .int .i64 (n : Int)] w fun r w' => r = .returned (.int .u64 (Cut.litM (Cut.rows n) (l.getD (a / 2) 0) a : Int)) ∧ Below w.heap.size w w' := by
  have hlen := hr.len
  simp only [u64s, List.length_map, Nat.mul_one] at hlen
  have hx64 : l.getD (a / 2) 0 < 18446744073709551616 := hl _ (nat_getD_mem (by omega))
  obtain ⟨b, hA, hbb, d0⟩ := hr.u64 ha
  subst hA
  obtain ⟨d, hd⟩ : ∃ d, a / 2 = d := ⟨_, rfl⟩
  rw [hd] at d0 ha hx64 ⊢
  generalize l.getD d 0 = x at d0 hx64 ⊢
  have HX : bits .xor .u64 IntKind.u64.max (x : Int) = ((x ^^^ Cut.ones : Nat) : Int) := u64_not_nat x hx64
  have hy64 := xor_ones_lt x hx64
  have hR := Cut.rows_lt n hn
  have HFU := Lib.hid (fun (W : World) => full_any n W hn)
  have hx2 := hx64
  have htm : Int.tmod (a : Int) 2 = ((a % 2 : Nat) : Int) := by rw [Int.tmod_eq_emod_of_nonneg (by omega)]; omega
  have htd : Int.tdiv (a : Int) 2 = (d : Int) := by rw [Int.tdiv_eq_ediv_of_nonneg (by omega)]; omega
  have hwd : IntKind.i64.wrap (d : Int) = (d : Int) := IntWalk.i64_in _ (by omega)
  have had : (a : Int) / 2 = (d : Int) := by omega
  have hdN : (d : Int) < (N : Int) := by omega
  have HRES := Lib.hid (show Cut.litM (Cut.rows n) x a = if a % 2 = 1 then (x ^^^ Cut.ones) &&& Cut.rows n else x from rfl)
  by_cases ho : a % 2 = 1
  · have HH := Lib.hid (show Cut.litM (Cut.rows n) x a = (x ^^^ Cut.ones) &&& Cut.rows n by rw [HRES.out, if_pos ho])
    rw [ho] at htm
    have HA := u64_and_nat (x ^^^ Cut.ones) (Cut.rows n) hy64 hR
    have hae : (a : Int) % 2 = 1 := by omega
    generalize x ^^^ Cut.ones = y at HX HA HH hy64
    generalize Cut.rows n = R at HA HH HFU hR
    generalize Cut.litM R x a = res at HH HRES ⊢
    clear HRES ho hd hr hl hlen
    go_enter Tryz.func84, Tryz.ntmps84
    go_wp2_with fail
    refine wp_region_still_in (by kernel_rfl) (by kernel_rfl) fun St9 ne9 V9 hV9 hS9 => ?_
    have qd0 := still_cell hV9 d0
    repeat (first | go_big_quiet_step (first | (go_at_call 103; exact Calls.still_same hS9 (HFU.out _))) | quiet_step (first | (go_at_call 103; exact Calls.still_same hS9 (HFU.out _))))
    refine wpQuiet_nil ?_
    intro _ hw9
    obtain ⟨s9, rfl⟩ := hw9
    have hb9 := hV9 s9
    clear qd0 hS9
    generalize V9 s9 = w9 at hb9 ⊢
    clear hV9 s9 V9 ne9 St9
    go_wp2_with fail
    go_ret
    exact ⟨by rw [HH.out]; rfl, hb9⟩
  · have HH := Lib.hid (show Cut.litM (Cut.rows n) x a = x by rw [HRES.out, if_neg ho])
    rw [HH.out]
    have h0 : a % 2 = 0 := by omega
    rw [h0] at htm
    have hae : (a : Int) % 2 = 0 := by omega
    clear HRES ho h0 hd hr hl hlen HH
    go_enter Tryz.func84, Tryz.ntmps84
    go_wp2_with fail
    go_ret
    exact ⟨rfl, Below.refl _ _⟩
end Go.Proofs.YtaajnmggbhnndaaGreatDoor

namespace Go.Proofs.YtaajnmggbhnndaaGreatDoor
open Go.RowKit
set_option linter.unusedVariables false
set_option linter.unusedSimpArgs false
namespace Cut
def upd (T : Nat → Option Nat) (x v : Nat) : Nat → Option Nat := fun n => if n = x then some v else T n
def knownTo (l : List Int) (f : Nat → Nat) : Nat → Nat → Option Nat
  | 0 => fun n => if n = 0 then some 0 else none
  | k + 1 => upd (knownTo l f k) (l.getD k 0).toNat (f k)
/-- what is known ahead of the gates: node 0, and the leaves -/
def known (l : List Int) (f : Nat → Nat) : Nat → Option Nat := knownTo l f l.length
theorem knownTo_map (l : List Int) (f : Nat → Nat) (g : Nat → Nat) (h : Nat → Nat) (m : Nat) (h0 : g 0 = 0) (hk : ∀ i, i < m → g (f i) = h i) : ∀ k, k ≤ m → ∀ n, (knownTo l f k n).map g = knownTo l h k n
  | 0, _, n => by simp only [knownTo]; split <;> simp [h0]
  | k + 1, hm, n => by
    simp only [knownTo, upd]
    split
    · simp [hk k (by omega)]
    · exact knownTo_map l f g h m h0 hk k (by omega) n
theorem known_mask (l : List Int) (hl : l.length ≤ 6) (n : Nat) : (known l col n).map (· &&& rows l.length) = known l (fun i => colM i l.length) n :=
  knownTo_map l col (· &&& rows l.length) (fun i => colM i l.length) l.length (Nat.zero_and _) (fun i hi => (colM_eq i l.length hi hl).symm) _ (Nat.le_refl _) n
end Cut
/-- the gates, as natural numbers; the first gate's node; how many nodes there are -/
def AG.ands (G : AG) : List (Nat × Nat) := G.an.map fun p => (p.1.toNat, p.2.toNat)
def AG.fst (G : AG) : Nat := 1 + G.I.toNat + G.fl.length
def AG.cn (G : AG) : Nat := G.fst + G.an.length
theorem AG.ok.cnt {G : AG} (h : G.ok) : G.cnt + 1 = (G.cn : Int) := by have := h.1; unfold AG.cnt AG.cn AG.fst; omega
theorem AG.ok.firstN {G : AG} (h : G.ok) : G.first = (G.fst : Int) := by have := h.1; unfold AG.first AG.fst; omega
theorem AG.ok.gate {G : AG} (h : G.ok) {i : Nat} (hi : i < G.an.length) : ∃ a b : Nat, G.an[i] = ((a : Int), (b : Int)) ∧ G.ands[i]? = some (a, b) ∧ a / 2 < G.fst + i ∧ b / 2 < G.fst + i ∧ (a : Int) ≤ 1000000 + 4 * (G.fst + i) ∧ (b : Int) ≤ 1000000 + 4 * (G.fst + i) := by
  have hg := h.2.2.2 i hi
  have hf := h.firstN
  simp only [gateB, Bool.or_eq_false_iff, decide_eq_false_iff_not] at hg
  obtain ⟨h1, h2⟩ := hg
  obtain ⟨⟨x, y⟩, hp⟩ : ∃ p, G.an[i] = p := ⟨_, rfl⟩
  rw [hp] at h1 h2 ⊢
  simp only at h1 h2
  refine ⟨x.toNat, y.toNat, by simp; omega, by simp [AG.ands, List.getElem?_eq_getElem hi, hp], by omega, by omega, by omega, by omega⟩
/-- what a node is by leaves: none, if it hangs on more -/
def AG.tabG (G : AG) (l : List Int) (n : Nat) : Option Nat := Cut.tab (Cut.known l Cut.col) G.fst G.ands n
/-- by which table -/
def AG.table (G : AG) (l : List Int) (n : Nat) : Option Nat := (G.tabG l n).map (· &&& Cut.rows l.length)
theorem leavesB_len {c : Int} {l : List Int} (h : leavesB c l = true) : l.length ≤ 6 := by simp [leavesB] at h; exact h.1.1
theorem leavesB_rises {c : Int} {l : List Int} (h : leavesB c l = true) : Cut.Rises l := by simp [leavesB] at h; exact h.1.2
theorem rises_at {l : List Int} (h : Cut.Rises l) {i j : Nat} (hij : i < j) (hj : j < l.length) : l.getD i 0 < l.getD j 0 := by
  have := List.pairwise_iff_getElem.1 h i j (by omega) hj hij
  simpa [List.getD_eq_getElem?_getD, List.getElem?_eq_getElem, hj, show i < l.length by omega] using this
theorem leavesB_mem {c : Int} {l : List Int} (h : leavesB c l = true) {i : Nat} (hi : i < l.length) : 1 ≤ l.getD i 0 ∧ l.getD i 0 ≤ c := by
  have hr := leavesB_rises h
  have h2 : 1 ≤ l.getD 0 0 ∧ l.getD (l.length - 1) 0 ≤ c := by
    simp only [leavesB, Bool.and_eq_true, Bool.or_eq_true, decide_eq_true_eq] at h
    rcases h.2 with h0 | h0
    · omega
    · exact h0
  constructor
  · rcases Nat.eq_zero_or_pos i with rfl | hp
    · exact h2.1
    · have := rises_at hr hp hi; omega
  · rcases Nat.lt_or_ge i (l.length - 1) with hp | hp
    · have := rises_at hr hp (by omega); omega
    · rw [show i = l.length - 1 by omega]; exact h2.2
/-- the two rows of values, as far as node x -/
def AG.spec (G : AG) (l : List Int) (x n : Nat) : Option Nat := if n < x then G.table l n else Cut.known l (fun i => Cut.colM i l.length) n
theorem AG.spec_start (G : AG) (l : List Int) (hl : l.length ≤ 6) (n : Nat) : G.spec l G.fst n = Cut.known l (fun i => Cut.colM i l.length) n := by
  unfold AG.spec
  split
  · rename_i h
    rw [← Cut.known_mask l hl n]
    unfold AG.table AG.tabG
    cases hk : Cut.known l Cut.col n with
    | some v => rw [Cut.tab_known hk]
    | none => rw [Cut.tab_low hk h]
  · rfl
theorem AG.table_gate {G : AG} {l : List Int} {x i a b : Nat} (hl : l.length ≤ 6) (hx : G.fst + i = x) (hg : G.ands[i]? = some (a, b)) (ha : a / 2 < x) (hb : b / 2 < x) :
    G.table l x = match Cut.known l (fun i => Cut.colM i l.length) x with
      | some v => some v
      | none => match G.table l (a / 2) with
        | none => none
        | some u => match G.table l (b / 2) with
          | none => none
          | some v => some (Cut.litM (Cut.rows l.length) u a &&& Cut.litM (Cut.rows l.length) v b) := by
  rw [← Cut.known_mask l hl x]
  unfold AG.table AG.tabG
  cases hk : Cut.known l Cut.col x with
  | some v => rw [Cut.tab_known hk]; rfl
  | none =>
    rw [Cut.tab_gate hk (by omega) (by rw [← hx, Nat.add_sub_cancel_left]; exact hg) ha hb]
    cases Cut.tab (Cut.known l Cut.col) G.fst G.ands (a / 2) with
    | none => rfl
    | some u => cases Cut.tab (Cut.known l Cut.col) G.fst G.ands (b / 2) with
      | none => rfl
      | some v => simp [Cut.mask_lit]
theorem Cut.knownTo_lt (l : List Int) (m : Nat) (hm : m ≤ 6) : ∀ k, k ≤ m → ∀ n v, Cut.knownTo l (fun i => Cut.colM i m) k n = some v → v < 18446744073709551616
  | 0, _, n, v, h => by
    simp only [Cut.knownTo] at h
    split at h
    · cases h; omega
    · cases h
  | k + 1, hk, n, v, h => by
    simp only [Cut.knownTo, Cut.upd] at h
    split at h
    · cases h; exact Cut.colM_lt _ _ hm
    · exact Cut.knownTo_lt l m hm k (by omega) n v h
theorem AG.table_lt {G : AG} {l : List Int} (hl : l.length ≤ 6) {n v : Nat} (h : G.table l n = some v) : v < 18446744073709551616 := by
  unfold AG.table at h
  cases ht : G.tabG l n with
  | none => rw [ht] at h; cases h
  | some u =>
    rw [ht] at h
    cases h
    exact Nat.lt_of_le_of_lt Nat.and_le_right (Cut.rows_lt _ hl)
theorem AG.spec_lt {G : AG} {l : List Int} (hl : l.length ≤ 6) {x n v : Nat} (h : G.spec l x n = some v) : v < 18446744073709551616 := by
  unfold AG.spec at h
  split at h
  · exact AG.table_lt hl h
  · exact Cut.knownTo_lt l _ hl _ (Nat.le_refl _) n v h
/-- rows of values: is it known; what it is -/
def okA (N : Nat) (T : Nat → Option Nat) : List Bool := (List.range N).map fun n => (T n).isSome
def vA (N : Nat) (T : Nat → Option Nat) : List Nat := (List.range N).map fun n => (T n).getD 0
theorem okA_len (N : Nat) (T : Nat → Option Nat) : (okA N T).length = N := by simp [okA]
theorem vA_len (N : Nat) (T : Nat → Option Nat) : (vA N T).length = N := by simp [vA]
theorem okA_get {N : Nat} (T : Nat → Option Nat) {n : Nat} (h : n < N) : (okA N T).getD n false = (T n).isSome := by simp [okA, List.getD_eq_getElem?_getD, List.getElem?_map, List.getElem?_range h]
theorem vA_get {N : Nat} (T : Nat → Option Nat) {n : Nat} (h : n < N) : (vA N T).getD n 0 = (T n).getD 0 := by simp [vA, List.getD_eq_getElem?_getD, List.getElem?_map, List.getElem?_range h]
theorem okA_upd (N : Nat) (T : Nat → Option Nat) (x v : Nat) : (okA N T).set x true = okA N (Cut.upd T x v) := by
  apply List.ext_getElem?
  intro i
  rw [List.getElem?_set]
  simp only [okA, List.getElem?_map, List.length_map, List.length_range, Cut.upd]
  by_cases hi : i < N
  · rw [List.getElem?_range hi]
    by_cases e : x = i
    · subst e; simp [hi]
    · simp [e, Ne.symm e]
  · rw [List.getElem?_eq_none (by simpa using hi)]
    by_cases e : x = i
    · subst e; simp [hi]
    · simp [e]
theorem vA_upd (N : Nat) (T : Nat → Option Nat) (x v : Nat) : (vA N T).set x v = vA N (Cut.upd T x v) := by
  apply List.ext_getElem?
  intro i
  rw [List.getElem?_set]
  simp only [vA, List.getElem?_map, List.length_map, List.length_range, Cut.upd]
  by_cases hi : i < N
  · rw [List.getElem?_range hi]
    by_cases e : x = i
    · subst e; simp [hi]
    · simp [e, Ne.symm e]
  · rw [List.getElem?_eq_none (by simpa using hi)]
    by_cases e : x = i
    · subst e; simp [hi]
    · simp [e]
theorem u64s_set (M : List Nat) (k v : Nat) : (u64s M).set k (.int .u64 (v : Int)) = u64s (M.set k v) := by simp [u64s, List.map_set]
theorem u64s_replicate (N v : Nat) : List.replicate N (Value.int .u64 (v : Int)) = u64s (List.replicate N v) := by simp [u64s]
theorem okA_congr {N : Nat} {T T' : Nat → Option Nat} (h : ∀ n, n < N → T n = T' n) : okA N T = okA N T' := List.map_congr_left fun n hn => by rw [h n (List.mem_range.1 hn)]
theorem vA_congr {N : Nat} {T T' : Nat → Option Nat} (h : ∀ n, n < N → T n = T' n) : vA N T = vA N T' := List.map_congr_left fun n hn => by rw [h n (List.mem_range.1 hn)]
/-- a leaf more, a node more -/
theorem AG.spec_same {G : AG} {l : List Int} {x : Nat} (h : G.table l x = Cut.known l (fun i => Cut.colM i l.length) x) (n : Nat) : G.spec l (x + 1) n = G.spec l x n := by
  unfold AG.spec
  by_cases e : n = x
  · subst e; simp [h]
  · by_cases hn : n < x
    · rw [if_pos hn, if_pos (by omega)]
    · rw [if_neg hn, if_neg (by omega)]
theorem AG.spec_next {G : AG} {l : List Int} {x v : Nat} (h : G.table l x = some v) (n : Nat) : G.spec l (x + 1) n = Cut.upd (G.spec l x) x v n := by
  show (if n < x + 1 then _ else _) = if n = x then some v else if n < x then _ else _
  by_cases e : n = x
  · subst e; simp [h]
  · rw [if_neg e]
    by_cases hn : n < x
    · rw [if_pos hn, if_pos (by omega)]
    · rw [if_neg hn, if_neg (by omega)]
end Go.Proofs.YtaajnmggbhnndaaGreatDoor

namespace Go.Proofs.YtaajnmggbhnndaaGreatDoor
open Go.RowKit
set_option linter.unusedVariables false
set_option linter.unusedSimpArgs false

theorem u64_infoA : (Tryz.prog.info? 39).map (fun i => (i.zero, i.size, i.bytes)) = some (some (.int .u64 0), 1, 8) := by kernel_rfl
theorem bools_get {N : Nat} (T : Nat → Option Nat) {n : Nat} (h : n < N) : (bools (okA N T)).toArray[n]? = some (.bool (T n).isSome) := by
  simp [bools, okA, List.getElem?_map, List.getElem?_range h]
theorem u64s_get {N : Nat} (T : Nat → Option Nat) {n : Nat} (h : n < N) : (u64s (vA N T)).toArray[n]? = some (.int .u64 ((T n).getD 0 : Nat)) := by
  simp [u64s, vA, List.getElem?_map, List.getElem?_range h]
theorem okA_none (N : Nat) : bools (okA N (fun _ => none)) = List.replicate N (.bool false) := by simp [bools, okA, List.map_const']
theorem vA_none (N : Nat) : u64s (vA N (fun _ => none)) = List.replicate N (.int .u64 0) := by simp [u64s, vA, List.map_const']
/-- the two rows of values, in memory -/
structure VM (w : World) (N g1 g2 : Nat) (T : Nat → Option Nat) : Prop where
  ok : Blk w g1 4 (bools (okA N T)).toArray
  v : Blk w g2 39 (u64s (vA N T)).toArray
theorem VM.ne {w : World} {N g1 g2 : Nat} {T : Nat → Option Nat} (h : VM w N g1 g2 T) : g1 ≠ g2 := h.ok.other h.v (by decide)
theorem VM.keep {w w' : World} {N g1 g2 : Nat} {T : Nat → Option Nat} (h : VM w N g1 g2 T) (hb : Below w.heap.size w w') : VM w' N g1 g2 T := ⟨h.ok.keep hb, h.v.keep hb⟩
theorem VM.put {w : World} {N g1 g2 : Nat} {T : Nat → Option Nat} (h : VM w N g1 g2 T) (x v : Nat) (hx : x < N) {w' : World} (hb : Below w.heap.size (w.setCell ⟨g1, x, none⟩ (.bool true)) w') :
    VM (w'.setCell ⟨g2, x, none⟩ (.int .u64 (v : Int))) N g1 g2 (Cut.upd T x v) := by
  have h1 := (h.ok.put x (.bool true)).below hb h.ok.lt
  have h2 := (h.v.apart (p := ⟨g1, x, none⟩) h.ne.symm (.bool true)).below hb h.v.lt
  refine ⟨?_, ?_⟩
  · have := h1.apart (p := ⟨g2, x, none⟩) h.ne (.int .u64 (v : Int))
    rw [← okA_upd N T x v, ← bools_set]
    simpa using this
  · have := h2.put x (.int .u64 (v : Int))
    rw [← vA_upd, ← u64s_set]
    simpa using this
theorem VM.made {w : World} {N g1 g2 : Nat} (h1 : Blk w g1 4 (Array.replicate N (Value.bool false))) (h2 : Blk w g2 39 (Array.replicate N (Value.int .u64 0))) : VM w N g1 g2 (fun _ => none) := by
  refine ⟨?_, ?_⟩
  · rw [okA_none]; simpa using h1
  · rw [vA_none]; simpa using h2
theorem VM.zero {w : World} {N g1 g2 : Nat} (h : VM w N g1 g2 (fun _ => none)) : VM (w.setCell ⟨g1, 0, none⟩ (.bool true)) N g1 g2 (fun n => if n = 0 then some 0 else none) := by
  refine ⟨?_, ?_⟩
  · have := h.ok.put 0 (.bool true)
    have e : (fun n => if n = 0 then some 0 else none : Nat → Option Nat) = Cut.upd (fun _ => none) 0 0 := rfl
    rw [e, ← okA_upd N, ← bools_set]
    simpa using this
  · have := h.v.apart (p := ⟨g1, 0, none⟩) h.ne.symm (.bool true)
    have e : vA N (fun n => if n = 0 then some 0 else none : Nat → Option Nat) = vA N (fun _ => none) := List.map_congr_left fun n _ => by
      by_cases h : n = 0 <;> simp [h]
    rw [e]
    exact this
theorem VM.drew {w : World} {N g1 g2 : Nat} {T : Nat → Option Nat} (h : VM w N g1 g2 T) : VM w.drew N g1 g2 T := ⟨h.ok, h.v⟩
theorem VM.congr {w : World} {N g1 g2 : Nat} {T T' : Nat → Option Nat} (h : VM w N g1 g2 T) (e : ∀ n, n < N → T n = T' n) : VM w N g1 g2 T' := ⟨by rw [← okA_congr e]; exact h.ok, by rw [← vA_congr e]; exact h.v⟩
theorem rd_blk {w : World} {g : Nat} {t : TypeId} {cs : List Value} {n : Nat} (h : Blk w g t cs.toArray) (hn : cs.length = n) : Rd w 1 (some ⟨g, 0, none⟩) n n cs := by
  refine ⟨by omega, Nat.le_refl _, (fun e => nomatch e), fun j u hj => ⟨⟨g, 0, none⟩, rfl, h.lt, ?_⟩⟩
  have e : (⟨g, 0, none⟩ : Addr).add j = ⟨g, j, none⟩ := by unfold Addr.add; by_cases h : j = 0 <;> simp [h]
  rw [e, h.cell j]
  simpa using hj
theorem litM_lt {m x a : Nat} (hm : m < 18446744073709551616) (hx : x < 18446744073709551616) : Cut.litM m x a < 18446744073709551616 := by
  unfold Cut.litM
  split
  · exact Nat.lt_of_le_of_lt Nat.and_le_right hm
  · exact hx
theorem vA_mem {N : Nat} {T : Nat → Option Nat} (h : ∀ n v, T n = some v → v < 18446744073709551616) : ∀ x ∈ vA N T, x < 18446744073709551616 := by
  intro x hx
  obtain ⟨n, -, rfl⟩ := List.mem_map.1 hx
  cases hT : T n with
  | none => simp
  | some v => exact h n v hT
def ValsOut (G : AG) (l : List Int) (node : Nat) (w : World) (r : Ending) (w' : World) : Prop :=
  ∃ g1 g2, r = .returned (.tuple #[.slice (some ⟨g1, 0, none⟩) G.cn G.cn, .slice (some ⟨g2, 0, none⟩) G.cn G.cn]) ∧ Below w.heap.size w w' ∧ VM w' G.cn g1 g2 (G.spec l (max G.fst (node + 1)))
set_option maxRecDepth 100000 in
set_option maxHeartbeats 2000000 in
theorem values_any (G : AG) (A : Option Addr) (c : Nat) (l : List Int) (node : Nat) (w : World) (hin : G.In w) (hf : G.fit) (hok : G.ok) (hr : Rd w 1 A l.length c (ints l)) (hl : leavesB G.cnt l = true) (hn : node < G.cn) :
    Calls Tryz.prog 69 #[.agg #[.int .i64 G.I, .slice G.AF G.fl.length G.cF, .slice G.AA G.an.length G.cA, .slice G.AO G.ou.length G.cO], .int .i64 (node : Int), .slice A l.length c] w (ValsOut G l node w) := by
  have hcn := hok.cnt
  have hfN := hok.firstN
  have hl6 := leavesB_len hl
  have hcf := hf.i
  have hcf2 := hf.f
  have hcf3 := hf.a
  have hi0 := hok.1
  have hfst : G.fst ≤ 2001 := by unfold AG.fst; omega
  have hcn1 : G.cn ≤ 3001 := by unfold AG.cn; omega
  have hcnF : G.cn = G.fst + G.an.length := rfl
  have hfst0 : 1 ≤ G.fst := by unfold AG.fst; omega
  have hfI : (1 : Int) + G.I + (G.fl.length : Int) = (G.fst : Int) := by unfold AG.fst; omega
  have HCO := Lib.hid (fun (W : World) => (show (1 + G.cnt) = (G.cn : Int) by omega) ▸ rcount_any G W hi0 hf)
  have HMEM := Lib.hid (fun (i : Nat) (hi : i < l.length) => leavesB_mem hl hi)
  have HSP := Lib.hid (G.spec_start l hl6)
  have HLT := Lib.hid (fun (x n v : Nat) (h : G.spec l x n = some v) => AG.spec_lt hl6 h)
  have HTG := Lib.hid (fun (x i a b : Nat) (h1 : G.fst + i = x) (h2 : G.ands[i]? = some (a, b)) (h3 : a / 2 < x) (h4 : b / 2 < x) => AG.table_gate (l := l) hl6 h1 h2 h3 h4)
  have HG := Lib.hid (fun (i : Nat) (hi : i < G.an.length) => hok.gate hi)
  have HIN := Lib.hid hin
  have HRD := Lib.hid hr
  obtain ⟨i0, hi0', hz0, hz1, hz2⟩ := info_parts (show (Tryz.prog.info? 4).map (fun i => (i.zero, i.size, i.bytes)) = some (some (.bool false), 1, 1) by kernel_rfl)
  obtain ⟨j0, hj0, hy0, hy1, hy2⟩ := info_parts u64_infoA
  have hmk1 : ∀ w : World, (Instr.makeSlice 42 (.int .i64 (G.cn : Int)) (.int .i64 (G.cn : Int))).run Tryz.prog w = .ok (.slice (some ⟨w.heap.size, 0, none⟩) G.cn G.cn) (w.alloc (.cells (List.replicate G.cn (.bool false)).toArray 4)) := fun w => by
    have := run_make (P := Tryz.prog) w 42 4 i0 (.bool false) Tryz.underlying42 hi0' hz0 .i64 .i64 (G.cn : Int) (G.cn : Int) (by omega) (Int.le_refl _) (by rw [hz2]; omega) (by omega)
    rw [this, hz1]
    simp [Value.cells, made_eq]
  have hmk2 : ∀ w : World, (Instr.makeSlice 133 (.int .i64 (G.cn : Int)) (.int .i64 (G.cn : Int))).run Tryz.prog w = .ok (.slice (some ⟨w.heap.size, 0, none⟩) G.cn G.cn) (w.alloc (.cells (List.replicate G.cn (.int .u64 0)).toArray 39)) := fun w => by
    have := run_make (P := Tryz.prog) w 133 39 j0 (.int .u64 0) Tryz.underlying133 hj0 hy0 .i64 .i64 (G.cn : Int) (G.cn : Int) (by omega) (Int.le_refl _) (by rw [hy2]; omega) (by omega)
    rw [this, hy1]
    simp [Value.cells, made_eq]
  have HMK1 := Lib.hid hmk1
  have HMK2 := Lib.hid hmk2
  clear hi0' hz0 hz1 hz2 hj0 hy0 hy1 hy2 hmk1 hmk2
  have X0 := Lib.hid (Blk.made w 26 #[.int .i64 G.I, .slice G.AF G.fl.length G.cF, .slice G.AA G.an.length G.cA, .slice G.AO G.ou.length G.cO])
  have B0 := Lib.hid (below_new w (.cells #[.int .i64 G.I, .slice G.AF G.fl.length G.cF, .slice G.AA G.an.length G.cA, .slice G.AO G.ou.length G.cO] 26))
  unfold ValsOut
  obtain ⟨N, hN⟩ : ∃ N, G.cn = N := ⟨_, rfl⟩
  obtain ⟨F, hF⟩ : ∃ F, G.fst = F := ⟨_, rfl⟩
  rw [hN] at HCO HMK1 HMK2 hn hcn1 hcnF ⊢
  rw [hF] at hcnF hfst hfst0 hfI HSP HTG HG ⊢
  have HN := Lib.hid hN
  have HF := Lib.hid hF
  have HCNF := Lib.hid hcnF
  clear hcnF hcn hfN hl hcf hcf2 hcf3 hin hr hN hF
  obtain ⟨AF, hAF⟩ : ∃ A, G.AF = A := ⟨_, rfl⟩
  obtain ⟨AA, hAA⟩ : ∃ A, G.AA = A := ⟨_, rfl⟩
  obtain ⟨AO, hAO⟩ : ∃ A, G.AO = A := ⟨_, rfl⟩
  rw [hAF, hAA, hAO] at HCO X0 B0 ⊢
  have HAF := Lib.hid hAF
  have HAA := Lib.hid hAA
  have HAO := Lib.hid hAO
  clear hAF hAA hAO
  go_enter Tryz.func69, Tryz.ntmps69
  have c0 := X0.out.cell 0
  have c1 := X0.out.cell 1
  have c2 := X0.out.cell 2
  have c3 := X0.out.cell 3
  go_wp2_with fail
  refine (HCO.out _).mono ?_
  rintro e w1 ⟨rfl, hb1⟩
  have X1 := Lib.hid (X0.out.keep hb1)
  have B1 := Lib.hid (below_then B0.out hb1)
  clear hb1 X0 B0 c0 c1 c2 c3
  have hmk1 := HMK1.out
  have c0 := X1.out.cell 0
  have c1 := X1.out.cell 1
  have c2 := X1.out.cell 2
  have c3 := X1.out.cell 3
  go_upto_region 2 with (fail)
  have M2 := Lib.hid (Blk.made w1 4 (Array.replicate N (Value.bool false)))
  have X2 := Lib.hid (X1.out.alloc (.cells (Array.replicate N (Value.bool false)) 4))
  have B2 := Lib.hid (below_then B1.out (below_new w1 (.cells (Array.replicate N (Value.bool false)) 4)))
  have G2 := Lib.hid (show w.heap.size < w1.heap.size from X1.out.lt)
  generalize w1.alloc (.cells (Array.replicate N (Value.bool false)) 4) = w2 at M2 X2 B2 ⊢
  obtain ⟨g1, hg1⟩ : ∃ g, w1.heap.size = g := ⟨_, rfl⟩
  rw [hg1] at M2 G2 ⊢
  clear hg1 hmk1 HMK1 X1 B1 c0 c1 c2 c3
  have c0 := X2.out.cell 0
  have c1 := X2.out.cell 1
  have c2 := X2.out.cell 2
  have c3 := X2.out.cell 3
  go_wp2_with fail
  refine (HCO.out _).mono ?_
  rintro e w3 ⟨rfl, hb3⟩
  have X3 := Lib.hid (X2.out.keep hb3)
  have M3 := Lib.hid (M2.out.keep hb3)
  have B3 := Lib.hid (below_then B2.out hb3)
  clear hb3 X2 M2 B2 c0 c1 c2 c3
  have hmk2 := HMK2.out
  go_upto_region 3 with (fail)
  have V4 := Lib.hid (VM.made (M3.out.alloc (.cells (Array.replicate N (Value.int .u64 0)) 39)) (Blk.made w3 39 (Array.replicate N (Value.int .u64 0))))
  have X4 := Lib.hid (X3.out.alloc (.cells (Array.replicate N (Value.int .u64 0)) 39))
  have B4 := Lib.hid (below_then B3.out (below_new w3 (.cells (Array.replicate N (Value.int .u64 0)) 39)))
  have G3 := Lib.hid (show w.heap.size < w3.heap.size from X3.out.lt)
  generalize w3.alloc (.cells (Array.replicate N (Value.int .u64 0)) 39) = w4 at V4 X4 B4 ⊢
  obtain ⟨g2, hg2⟩ : ∃ g, w3.heap.size = g := ⟨_, rfl⟩
  rw [hg2] at V4 G3 ⊢
  clear hg2 hmk2 HMK2 X3 M3 B3
  have hN0 : 0 < N := by omega
  have v0 : w4.cell? ⟨g1, 0, none⟩ = some (.bool false) := (V4.out.ok.cell 0).trans (bools_get _ hN0)
  have f0 := V4.out.ok.free 0
  go_upto_region 4 with (fail)
  have V5 := Lib.hid V4.out.zero
  have X5 := Lib.hid (X4.out.apart (p := ⟨g1, 0, none⟩) (Nat.ne_of_lt G2.out) (.bool true))
  have B5 := Lib.hid (B4.out.setCell (p := ⟨g1, 0, none⟩) (Nat.le_of_lt G2.out) (.bool true))
  generalize w4.setCell ⟨g1, 0, none⟩ (.bool true) = w5 at V5 X5 B5 ⊢
  clear V4 X4 B4 v0 f0
  go_wp2_with fail
  go_loopw [10] (fun i wx => ∃ k : Nat, k ≤ l.length ∧ i = .int .i64 (k : Int) ∧ VM wx N g1 g2 (Cut.knownTo l (fun i => Cut.colM i l.length) k) ∧ Blk wx w.heap.size 26 #[.int .i64 G.I, .slice AF G.fl.length G.cF, .slice AA G.an.length G.cA, .slice AO G.ou.length G.cO] ∧ Below w.heap.size w wx) (fun i _ => l.length - (intOf i).toNat)
  case atStart => exact ⟨0, by omega, rfl, V5.out, X5.out, B5.out⟩
  case round =>
    obtain ⟨k, hk, rfl, hV, hX, hB⟩ := hrel
    have V6 := Lib.hid hV
    have X6 := Lib.hid hX
    have B6 := Lib.hid hB
    clear hV hX hB V5 X5 B5
    by_cases hlt : k < l.length
    case neg =>
      obtain rfl : k = l.length := by omega
      have V7 := Lib.hid (VM.congr V6.out fun n _ => (HSP.out n).symm)
      have HBX := Lib.hid (Nat.ne_of_lt G2.out)
      clear V6
      have c0 := X6.out.cell 0
      have c1 := X6.out.cell 1
      go_wp2_with fail
      clear c0 c1
      have hmax : F ≤ max F (node + 1) := Nat.le_max_left _ _
      go_loopw [12] (fun i wx => ∃ y : Nat, F ≤ y ∧ y ≤ max F (node + 1) ∧ i = .int .i64 (y : Int) ∧ VM wx N g1 g2 (G.spec l y) ∧ Blk wx w.heap.size 26 #[.int .i64 G.I, .slice AF G.fl.length G.cF, .slice AA G.an.length G.cA, .slice AO G.ou.length G.cO] ∧ Below w.heap.size w wx) (fun i _ => max F (node + 1) - (intOf i).toNat)
      case atStart => exact ⟨F, by omega, by omega, rfl, V7.out, X6.out, B6.out⟩
      case round =>
        obtain ⟨y, hy0, hy1, rfl, hV, hX, hB⟩ := hrel
        have V8 := Lib.hid hV
        have X8 := Lib.hid hX
        have B8 := Lib.hid hB
        clear hV hX hB V7 X6 B6
        by_cases hlt : y ≤ node
        case neg =>
          have hye : y = max F (node + 1) := by omega
          have hlt' : ¬ (y : Int) ≤ (node : Int) := by omega
          have V9 := Lib.hid (hye ▸ V8.out)
          clear hye
          go_wp2_with fail
          go_ret2
          exact ⟨g1, g2, rfl, B8.out, V9.out⟩
        obtain ⟨i, hi⟩ : ∃ i, y - F = i := ⟨_, rfl⟩
        have hia : i < G.an.length := by have := HCNF.out; omega
        have hyi : F + i = y := by omega
        have hyF : (y : Int) - (F : Int) = (i : Int) := by omega
        have hlt' : (y : Int) ≤ (node : Int) := by omega
        have hyN : y < N := by omega
        obtain ⟨a, b, hg, hgs, ha, hb, ha3, hb3⟩ := HG.out i hia
        rw [hyi] at ha hb
        have htab := HTG.out y i a b hyi hgs ha hb
        have hsa : G.spec l y (a / 2) = G.table l (a / 2) := if_pos ha
        have hsb : G.spec l y (b / 2) = G.table l (b / 2) := if_pos hb
        have hsy : G.spec l y y = Cut.known l (fun i => Cut.colM i l.length) y := if_neg (Nat.lt_irrefl _)
        have haN : a / 2 < N := by omega
        have hbN : b / 2 < N := by omega
        obtain ⟨pa, hPA, hpb, e0, e1⟩ := HIN.out.an.two (pc_get G.an i hia).1 (pc_get G.an i hia).2
        rw [hg] at e0 e1
        rw [HAA.out] at hPA
        subst hPA
        obtain ⟨ga, hga⟩ : ∃ p, pa.add (i * 2) = p := ⟨_, rfl⟩
        have hgab : ga.block < w.heap.size := by rw [← hga, add_block]; exact hpb
        rw [hga] at e0 e1
        have e2 : wr.cell? ga = some (.int .i64 (a : Int)) := (B8.out.cell hgab).trans e0
        have e3 : wr.cell? ⟨ga.block, ga.off + 1, none⟩ = some (.int .i64 (b : Int)) := (B8.out.cell (p := ⟨ga.block, ga.off + 1, none⟩) hgab).trans e1
        clear e0 e1
        have o0 : wr.cell? ⟨g1, y, none⟩ = some (.bool _) := (V8.out.ok.cell y).trans (bools_get _ hyN)
        have o1 : wr.cell? ⟨g1, a / 2, none⟩ = some (.bool _) := (V8.out.ok.cell (a / 2)).trans (bools_get _ haN)
        have o2 : wr.cell? ⟨g1, b / 2, none⟩ = some (.bool _) := (V8.out.ok.cell (b / 2)).trans (bools_get _ hbN)
        rw [hsy] at o0
        rw [hsa] at o1
        rw [hsb] at o2
        have HSA := Lib.hid hsa
        have HSB := Lib.hid hsb
        have c2 := X8.out.cell 2
        obtain ⟨a2, ha2⟩ : ∃ d, a / 2 = d := ⟨_, rfl⟩
        obtain ⟨b2, hb2⟩ : ∃ d, b / 2 = d := ⟨_, rfl⟩
        have hae : (a : Int) / 2 = (a2 : Int) := by omega
        have hbe : (b : Int) / 2 = (b2 : Int) := by omega
        rw [ha2] at o1 htab HSA haN ha
        rw [hb2] at o2 htab HSB hbN hb
        have HA2 := Lib.hid ha2
        have HB2 := Lib.hid hb2
        clear hi hg hgs hsa hsb hsy hpb ha2 hb2
        cases hk : Cut.known l (fun i => Cut.colM i l.length) y with
        | some z =>
          rw [hk] at htab o0
          have HNX := Lib.hid (VM.congr V8.out fun n _ => (AG.spec_same (htab.trans hk.symm) n).symm)
          clear htab hk
          have o0' : wr.cell? ⟨g1, y, none⟩ = some (.bool true) := o0
          clear o0 o1 o2
          go_wp2_with fail
          go_roundw
          case rel => exact ⟨y + 1, by omega, by omega, by go_num, HNX.out, X8.out, B8.out⟩
          case measure => simp [intOf]; omega
        | none =>
          rw [hk] at htab o0
          have o0' : wr.cell? ⟨g1, y, none⟩ = some (.bool false) := o0
          clear o0
          cases hta : G.table l a2 with
          | none =>
            rw [hta] at htab o1
            have HNX := Lib.hid (VM.congr V8.out fun n _ => (AG.spec_same (htab.trans hk.symm) n).symm)
            clear htab hk
            have o1' : wr.cell? ⟨g1, a2, none⟩ = some (.bool false) := o1
            clear o1 o2
            go_wp2_with fail
            go_roundw
            case rel => exact ⟨y + 1, by omega, by omega, by go_num, HNX.out, X8.out, B8.out⟩
            case measure => simp [intOf]; omega
          | some u =>
            rw [hta] at htab o1
            have o1' : wr.cell? ⟨g1, a2, none⟩ = some (.bool true) := o1
            clear o1
            cases htb : G.table l b2 with
            | none =>
              rw [htb] at htab o2
              have HNX := Lib.hid (VM.congr V8.out fun n _ => (AG.spec_same (htab.trans hk.symm) n).symm)
              clear htab hk
              have o2' : wr.cell? ⟨g1, b2, none⟩ = some (.bool false) := o2
              clear o2
              go_wp2_with fail
              go_roundw
              case rel => exact ⟨y + 1, by omega, by omega, by go_num, HNX.out, X8.out, B8.out⟩
              case measure => simp [intOf]; omega
            | some v =>
              rw [htb] at htab o2
              have o2' : wr.cell? ⟨g1, b2, none⟩ = some (.bool true) := o2
              clear o2
              have f0 := V8.out.ok.free y
              have HTB := Lib.hid htab
              have hu64 := AG.table_lt hl6 hta
              have hv64 := AG.table_lt hl6 htb
              have hga2 : (vA N (G.spec l y)).getD (a / 2) 0 = u := by rw [HA2.out, vA_get _ haN, HSA.out, hta]; rfl
              have hgb2 : (vA N (G.spec l y)).getD (b / 2) 0 = v := by rw [HB2.out, vA_get _ hbN, HSB.out, htb]; rfl
              have HGA := Lib.hid hga2
              have HGB := Lib.hid hgb2
              clear htab hk hta htb hga2 hgb2
              go_upto_region 17 with (fail)
              have V9 := Lib.hid (V8.out.v.apart (p := ⟨g1, y, none⟩) V8.out.ne.symm (.bool true))
              have X9 := Lib.hid (X8.out.apart (p := ⟨g1, y, none⟩) (Nat.ne_of_lt G2.out) (.bool true))
              have B9 := Lib.hid (B8.out.setCell (p := ⟨g1, y, none⟩) (Nat.le_of_lt G2.out) (.bool true))
              obtain ⟨w9, hw9⟩ : ∃ W, wr.setCell ⟨g1, y, none⟩ (.bool true) = W := ⟨_, rfl⟩
              have HW9 := Lib.hid hw9
              rw [hw9] at V9 X9 B9 ⊢
              have H9 := Lib.hid (Below.refl w9.heap.size w9)
              clear hw9 o0' o1' o2' f0 e2 e3 c2
              have HTU := Lib.hid (fun (z : Nat) (W : World) (hB : Below w9.heap.size w9 W) (hz : z / 2 < N) => turned_any (some ⟨g2, 0, none⟩) N N (vA N (G.spec l y)) z l.length W (rd_blk (V9.out.keep hB) (by simp [u64s, vA])) hz (by omega) hl6 (vA_mem (HLT.out y)))
              go_wp2_with fail
              refine (HTU.out a w9 H9.out (by rw [HA2.out]; exact haN)).mono ?_
              rintro e w10 ⟨rfl, hb10⟩
              rw [HGA.out]
              go_wp2_with fail
              refine (HTU.out b w10 hb10 (by rw [HB2.out]; exact hbN)).mono ?_
              rintro e w11 ⟨rfl, hb11⟩
              rw [HGB.out]
              have hb12 := below_then hb10 hb11
              have hR := Cut.rows_lt _ hl6
              have HAND := u64_and_nat _ _ (litM_lt (a := a) hR hu64) (litM_lt (a := b) hR hv64)
              have V11 := Lib.hid (V9.out.keep hb12)
              have v1 : w11.cell? ⟨g2, y, none⟩ = some (.int .u64 _) := (V11.out.cell y).trans (u64s_get _ hyN)
              have f1 := V11.out.free y
              generalize Cut.litM (Cut.rows l.length) u a = ua at HAND HTB ⊢
              generalize Cut.litM (Cut.rows l.length) v b = vb at HAND HTB ⊢
              go_upto_region 12 with (fail)
              have V12 := Lib.hid (VM.congr (V8.out.put y (ua &&& vb) hyN (show Below wr.heap.size (wr.setCell ⟨g1, y, none⟩ (.bool true)) w11 by rw [HW9.out, ← show w9.heap.size = wr.heap.size by rw [← HW9.out]; simp]; exact hb12)) fun n _ => (AG.spec_next HTB.out n).symm)
              have X12 := Lib.hid ((X9.out.keep hb12).apart (p := ⟨g2, y, none⟩) (Nat.ne_of_lt G3.out) (.int .u64 ((ua &&& vb : Nat) : Int)))
              have B12 := Lib.hid ((below_then B9.out hb12).setCell (p := ⟨g2, y, none⟩) (Nat.le_of_lt G3.out) (.int .u64 ((ua &&& vb : Nat) : Int)))
              clear v1 f1 HAND hb10 hb11 hb12
              generalize w11.setCell ⟨g2, y, none⟩ (.int .u64 ((ua &&& vb : Nat) : Int)) = w12 at V12 X12 B12 ⊢
              go_wp2_with fail
              go_roundw
              case rel => exact ⟨y + 1, by omega, by omega, by go_num, V12.out, X12.out, B12.out⟩
              case measure => simp [intOf]; omega
    obtain ⟨a, hA, hab, d0⟩ := HRD.out.int hlt
    obtain ⟨hx1, hx2⟩ := HMEM.out k hlt
    obtain ⟨x, hx⟩ : ∃ x : Nat, l.getD k 0 = (x : Int) := ⟨(l.getD k 0).toNat, by omega⟩
    have HX := Lib.hid hx
    have hxN : x < N := by rw [← HN.out]; have := hok.cnt; omega
    rw [hx] at d0
    rw [hA]
    have HA := Lib.hid hA
    clear hA hx hx1 hx2
    obtain ⟨ad, had⟩ : ∃ ad, a.add k = ad := ⟨_, rfl⟩
    have hadb : ad.block < w.heap.size := by rw [← had, add_block]; exact hab
    rw [had] at d0
    have HD := Lib.hid d0
    have d6 := (B6.out.cell hadb).trans d0
    have v0 : wr.cell? ⟨g1, x, none⟩ = some (.bool _) := (V6.out.ok.cell x).trans (bools_get _ hxN)
    have f0 := V6.out.ok.free x
    clear d0
    go_upto_region 8 with (fail)
    have v1 : (wr.setCell ⟨g1, x, none⟩ (.bool true)).cell? ⟨g2, x, none⟩ = some (.int .u64 _) := ((V6.out.v.apart (p := ⟨g1, x, none⟩) V6.out.ne.symm (.bool true)).cell x).trans (u64s_get _ hxN)
    have f1 := (V6.out.v.apart (p := ⟨g1, x, none⟩) V6.out.ne.symm (.bool true)).free x
    have X7 := Lib.hid (X6.out.apart (p := ⟨g1, x, none⟩) (Nat.ne_of_lt G2.out) (.bool true))
    have B7 := Lib.hid (B6.out.setCell (p := ⟨g1, x, none⟩) (Nat.le_of_lt G2.out) (.bool true))
    obtain ⟨w7, hw7⟩ : ∃ W, wr.setCell ⟨g1, x, none⟩ (.bool true) = W := ⟨_, rfl⟩
    have HW7 := Lib.hid hw7
    rw [hw7] at v1 f1 X7 B7 ⊢
    have d7 := (B7.out.cell hadb).trans HD.out
    have hne : ¬ g2 = ad.block := by have := G3.out; omega
    have hkl : (k : Int) < (l.length : Int) := by omega
    have hxN' : (x : Int) < (N : Int) := by omega
    have HCL := Lib.hid (fun (W : World) => column_any k l.length W (by omega) hl6)
    clear hw7 d6 v0 f0 B6 hab
    go_region_held3 (fun w' => w'.cell? ad = some (.int .i64 (x : Int))) (go_keep) ((go_at_call 83; (with_reducible refine (HCL.out _).mono ?_); rintro e w8 ⟨rfl, rfl⟩))
    have V8 := Lib.hid (V6.out.put x (Cut.colM k l.length) hxN (HW7.out ▸ Below.refl _ _ : Below wr.heap.size (wr.setCell ⟨g1, x, none⟩ (.bool true)) w7)).drew
    have X8 := Lib.hid (X7.out.apart (p := ⟨g2, x, none⟩) (Nat.ne_of_lt G3.out) (.int .u64 (Cut.colM k l.length : Int)))
    have B8 := Lib.hid (below_drewN (B7.out.setCell (p := ⟨g2, x, none⟩) (Nat.le_of_lt G3.out) (.int .u64 (Cut.colM k l.length : Int))) 1)
    have X8 := Lib.hid (show Blk (w7.setCell ⟨g2, x, none⟩ (.int .u64 (Cut.colM k l.length : Int))).drew _ _ _ from X8.out)
    have B8 := Lib.hid (show Below w.heap.size w (w7.setCell ⟨g2, x, none⟩ (.int .u64 (Cut.colM k l.length : Int))).drew from B8.out)
    generalize (w7.setCell ⟨g2, x, none⟩ (.int .u64 (Cut.colM k l.length : Int))).drew = w8 at V8 X8 B8 ⊢
    clear v1 f1 d7 hne hkl hxN' HCL V6 X6 HW7 X7 B7 had hadb HD
    go_wp2_with fail
    go_roundw
    case rel => exact ⟨k + 1, by omega, by go_num, by have := V8.out; simp only [Cut.knownTo, HX.out, Int.toNat_natCast]; exact this, X8.out, B8.out⟩
    case measure => simp [intOf]; omega
end Go.Proofs.YtaajnmggbhnndaaGreatDoor

namespace Go.Proofs.YtaajnmggbhnndaaGreatDoor
open Go.RowKit
set_option linter.unusedVariables false
set_option linter.unusedSimpArgs false

open Classical in
/-- by which table a node hangs on leaves, of any gates: none, if it does not -/
noncomputable def AG.good (G : AG) (l : List Int) (node : Int) : Option Nat := if G.ok ∧ 0 ≤ node ∧ node ≤ G.cnt ∧ leavesB G.cnt l = true then G.table l node.toNat else none
def optV (o : Option Nat) : Nat := o.getD 0
def optE (o : Option Nat) : Int := if o.isSome then 0 else 1
theorem AG.good_yes {G : AG} {l : List Int} {node : Int} (h : G.ok ∧ 0 ≤ node ∧ node ≤ G.cnt ∧ leavesB G.cnt l = true) : G.good l node = G.table l node.toNat := if_pos h
theorem AG.good_no {G : AG} {l : List Int} {node : Int} (h : ¬ (G.ok ∧ 0 ≤ node ∧ node ≤ G.cnt ∧ leavesB G.cnt l = true)) : G.good l node = none := if_neg h
def TblOut (o : Option Nat) (w : World) (r : Ending) (w' : World) : Prop := r = .returned (.tuple #[.int .u64 (optV o : Int), .int .i64 (optE o)]) ∧ Below w.heap.size w w'
set_option maxRecDepth 100000 in
set_option maxHeartbeats 1000000 in
theorem rtable_any (G : AG) (A : Option Addr) (c : Nat) (l : List Int) (node : Int) (w : World) (hin : G.In w) (hf : G.fit) (hr : Rd w 1 A l.length c (ints l)) (hl : l.length ≤ 1000000) :
    Calls Tryz.prog 51 #[.agg #[.int .i64 G.I, .slice G.AF G.fl.length G.cF, .slice G.AA G.an.length G.cA, .slice G.AO G.ou.length G.cO], .int .i64 node, .slice A l.length c] w (TblOut (G.good l node) w) := by
  classical
  have X0 := Lib.hid (Blk.made w 26 #[.int .i64 G.I, .slice G.AF G.fl.length G.cF, .slice G.AA G.an.length G.cA, .slice G.AO G.ou.length G.cO])
  have B0 := Lib.hid (below_new w (.cells #[.int .i64 G.I, .slice G.AF G.fl.length G.cF, .slice G.AA G.an.length G.cA, .slice G.AO G.ou.length G.cO] 26))
  have HCH := fun (W : World) (hB : Below w.heap.size w W) => rcheck18_any G W (hin.later hB) hf
  unfold TblOut
  obtain ⟨o, ho⟩ : ∃ o, G.good l node = o := ⟨_, rfl⟩
  rw [ho]
  by_cases hok : G.ok
  case neg =>
    have hE : G.E = 1 := if_neg hok
    have ho1 : o = none := by rw [← ho]; exact AG.good_no fun h => hok h.1
    subst ho1
    rw [hE] at HCH
    have HCH := Lib.hid HCH
    clear hE ho
    go_enter Tryz.func51, Tryz.ntmps51
    have c0 := X0.out.cell 0
    have c1 := X0.out.cell 1
    have c2 := X0.out.cell 2
    have c3 := X0.out.cell 3
    go_wp2_with fail
    refine (HCH.out _ B0.out).mono ?_
    rintro e w1 ⟨rfl, hb1⟩
    have B1 := Lib.hid (below_then B0.out hb1)
    clear hb1 c0 c1 c2 c3
    go_wp2_with fail
    go_ret2
    exact ⟨rfl, B1.out⟩
  have hE : G.E = 0 := if_pos hok
  rw [hE] at HCH
  have HCH := Lib.hid HCH
  have HCO := Lib.hid (fun (W : World) => rcount_any G W hok.1 hf)
  have HLE := Lib.hid (fun (W : World) (hB : Below w.heap.size w W) => leaves_any G A c l W (hr.later hB) hl hok.1 hf)
  have hcn := hok.cnt
  obtain ⟨ct, hct⟩ : ∃ c, G.cnt = c := ⟨_, rfl⟩
  rw [hct] at HCO hcn HLE
  have HCT := Lib.hid hct
  clear hct hE
  by_cases hn0 : node < 0
  · have ho1 : o = none := by rw [← ho]; exact AG.good_no fun h => by have := h.2.1; omega
    subst ho1
    clear ho
    go_enter Tryz.func51, Tryz.ntmps51
    have c0 := X0.out.cell 0
    have c1 := X0.out.cell 1
    have c2 := X0.out.cell 2
    have c3 := X0.out.cell 3
    go_wp2_with fail
    refine (HCH.out _ B0.out).mono ?_
    rintro e w1 ⟨rfl, hb1⟩
    have B1 := Lib.hid (below_then B0.out hb1)
    clear hb1 c0 c1 c2 c3
    go_wp2_with fail
    go_ret2
    exact ⟨rfl, B1.out⟩
  by_cases hnc : ct < node
  · have ho1 : o = none := by rw [← ho]; exact AG.good_no fun h => by have := h.2.2.1; rw [HCT.out] at this; omega
    subst ho1
    have hge : 1 + ct ≤ node := by omega
    clear ho
    go_enter Tryz.func51, Tryz.ntmps51
    have c0 := X0.out.cell 0
    have c1 := X0.out.cell 1
    have c2 := X0.out.cell 2
    have c3 := X0.out.cell 3
    go_wp2_with fail
    refine (HCH.out _ B0.out).mono ?_
    rintro e w1 ⟨rfl, hb1⟩
    have B1 := Lib.hid (below_then B0.out hb1)
    have X1 := Lib.hid (X0.out.keep hb1)
    clear hb1 c0 c1 c2 c3
    have c0 := X1.out.cell 0
    have c1 := X1.out.cell 1
    have c2 := X1.out.cell 2
    have c3 := X1.out.cell 3
    go_wp2_with fail
    refine (HCO.out _).mono ?_
    rintro e w2 ⟨rfl, hb2⟩
    have B2 := Lib.hid (below_then B1.out hb2)
    clear hb2 c0 c1 c2 c3
    go_wp2_with fail
    go_ret2
    exact ⟨rfl, B2.out⟩
  have hnl : ¬ 1 + ct ≤ node := by omega
  cases hle : leavesB ct l with
  | false =>
    have ho1 : o = none := by rw [← ho]; exact AG.good_no fun h => by have := h.2.2.2; rw [HCT.out, hle] at this; cases this
    subst ho1
    rw [hle] at HLE
    clear ho hle
    go_enter Tryz.func51, Tryz.ntmps51
    have c0 := X0.out.cell 0
    have c1 := X0.out.cell 1
    have c2 := X0.out.cell 2
    have c3 := X0.out.cell 3
    go_wp2_with fail
    refine (HCH.out _ B0.out).mono ?_
    rintro e w1 ⟨rfl, hb1⟩
    have B1 := Lib.hid (below_then B0.out hb1)
    have X1 := Lib.hid (X0.out.keep hb1)
    clear hb1 c0 c1 c2 c3
    have c0 := X1.out.cell 0
    have c1 := X1.out.cell 1
    have c2 := X1.out.cell 2
    have c3 := X1.out.cell 3
    go_wp2_with fail
    refine (HCO.out _).mono ?_
    rintro e w2 ⟨rfl, hb2⟩
    have B2 := Lib.hid (below_then B1.out hb2)
    have X2 := Lib.hid (X1.out.keep hb2)
    clear hb2 c0 c1 c2 c3
    have c0 := X2.out.cell 0
    have c1 := X2.out.cell 1
    have c2 := X2.out.cell 2
    have c3 := X2.out.cell 3
    go_wp2_with fail
    refine (HLE.out _ B2.out).mono ?_
    rintro e w3 ⟨rfl, hb3⟩
    have B3 := Lib.hid (below_then B2.out hb3)
    clear hb3 c0 c1 c2 c3
    go_wp2_with fail
    go_ret2
    exact ⟨rfl, B3.out⟩
  | true =>
    obtain ⟨nd, hnd⟩ : ∃ nd : Nat, node = (nd : Int) := ⟨node.toNat, by omega⟩
    subst hnd
    have hot : o = G.table l nd := by rw [← ho]; exact (AG.good_yes ⟨hok, by omega, by rw [HCT.out]; omega, by rw [HCT.out]; exact hle⟩)
    have hndN : nd < G.cn := by omega
    have hva := fun (W : World) (hB : Below w.heap.size w W) => values_any G A c l nd W (hin.later hB) hf hok (hr.later hB) (by rw [HCT.out]; exact hle) hndN
    unfold ValsOut at hva
    have HVA := Lib.hid hva
    clear hva
    have hsp : G.spec l (max G.fst (nd + 1)) nd = o := by rw [hot]; exact if_pos (by omega)
    have HSP := Lib.hid hsp
    rw [hle] at HLE
    obtain ⟨N, hN⟩ : ∃ N, G.cn = N := ⟨_, rfl⟩
    rw [hN] at HVA hndN
    have hndN' : (nd : Int) < (N : Int) := by omega
    have hN1 : N ≤ 100000 := by have := hf.i; have := hf.f; have := hf.a; have := hok.1; rw [← hN]; unfold AG.cn AG.fst; omega
    clear ho hle hot hN hsp hcn
    go_enter Tryz.func51, Tryz.ntmps51
    have c0 := X0.out.cell 0
    have c1 := X0.out.cell 1
    have c2 := X0.out.cell 2
    have c3 := X0.out.cell 3
    go_wp2_with fail
    refine (HCH.out _ B0.out).mono ?_
    rintro e w1 ⟨rfl, hb1⟩
    have B1 := Lib.hid (below_then B0.out hb1)
    have X1 := Lib.hid (X0.out.keep hb1)
    clear hb1 c0 c1 c2 c3
    have c0 := X1.out.cell 0
    have c1 := X1.out.cell 1
    have c2 := X1.out.cell 2
    have c3 := X1.out.cell 3
    go_wp2_with fail
    refine (HCO.out _).mono ?_
    rintro e w2 ⟨rfl, hb2⟩
    have B2 := Lib.hid (below_then B1.out hb2)
    have X2 := Lib.hid (X1.out.keep hb2)
    clear hb2 c0 c1 c2 c3
    have c0 := X2.out.cell 0
    have c1 := X2.out.cell 1
    have c2 := X2.out.cell 2
    have c3 := X2.out.cell 3
    go_wp2_with fail
    refine (HLE.out _ B2.out).mono ?_
    rintro e w3 ⟨rfl, hb3⟩
    have B3 := Lib.hid (below_then B2.out hb3)
    have X3 := Lib.hid (X2.out.keep hb3)
    clear hb3 c0 c1 c2 c3
    have c0 := X3.out.cell 0
    have c1 := X3.out.cell 1
    have c2 := X3.out.cell 2
    have c3 := X3.out.cell 3
    go_wp2_with fail
    refine (HVA.out _ B3.out).mono ?_
    rintro e w4 ⟨g1, g2, rfl, hb4, hV⟩
    have B4 := Lib.hid (below_then B3.out hb4)
    have o1 : w4.cell? ⟨g1, nd, none⟩ = some (.bool _) := (hV.ok.cell nd).trans (bools_get _ hndN)
    have o2 : w4.cell? ⟨g2, nd, none⟩ = some (.int .u64 _) := (hV.v.cell nd).trans (u64s_get _ hndN)
    rw [HSP.out] at o1 o2
    clear hb4 hV c0 c1 c2 c3
    cases o with
    | none =>
      have o1' : w4.cell? ⟨g1, nd, none⟩ = some (.bool false) := o1
      clear o1
      go_wp2_with fail
      go_ret2
      exact ⟨rfl, B4.out⟩
    | some v =>
      have o1' : w4.cell? ⟨g1, nd, none⟩ = some (.bool true) := o1
      have o2' : w4.cell? ⟨g2, nd, none⟩ = some (.int .u64 (v : Int)) := o2
      clear o1 o2
      go_wp2_with fail
      go_ret2
      exact ⟨rfl, B4.out⟩
end Go.Proofs.YtaajnmggbhnndaaGreatDoor

namespace Go.Proofs.YtaajnmggbhnndaaGreatDoor
open Go.RowKit
set_option linter.unusedVariables false
set_option linter.unusedSimpArgs false

/-- is a cut one -/
def cutE (o : Option Nat) (t : Nat) : Int := match o with
  | none => 1
  | some v => if v = t then 0 else 1
end Go.Proofs.YtaajnmggbhnndaaGreatDoor
