/- Cuts, plainly: what a node is by some leaves; tables of fewer rows; lists that rise, made one. · Walks of filigree/cuts.rises, rows, and of filigreeref24.rises. · Regions that draw their order, whose operations read older memory and whose callees leave it alone: one walk of the text's order serves every order. Over any program. · The values of leaves: filigreeref24.column, full, turned. · filigreeref24.rises, leaves, full, turned. · filigreeref24.full, turned, values. · Which table a node hangs on others by, plainly, of gates that may be. · filigreeref24.values. · filigreeref24.Table, Check. · filigreeref24.Check. -/
import Derived.Test.YtebgihekgijpfaaDoorZMem
import Derived.Test.YtebgihekgijpfaaDoorZAig
import Derived.Laws.MakeOwn
import Derived.Deep.DeepCutAuto
namespace Go.Proofs.YtebgihekgijpfaaDoor.Cut
set_option linter.unusedVariables false
set_option linter.unusedSimpArgs false

def ones : Nat := 18446744073709551615
/-- a literal's values -/
def lit (x a : Nat) : Nat := if a % 2 = 1 then x ^^^ ones else x
/-- what a node is, by what is known: none, if it hangs on more -/
def tab (K : Nat → Option Nat) (first : Nat) (ands : List (Nat × Nat)) (n : Nat) : Option Nat :=
  match K n with
  | some v => some v
  | none => if n < first then none else
    match ands[n - first]? with
    | none => none
    | some (a, b) => if h : a / 2 < n ∧ b / 2 < n then
        match tab K first ands (a / 2) with
        | none => none
        | some x => match tab K first ands (b / 2) with
          | none => none
          | some y => some (lit x a &&& lit y b)
      else none
termination_by n
theorem tab_known {K : Nat → Option Nat} {first : Nat} {ands : List (Nat × Nat)} {n v : Nat} (h : K n = some v) : tab K first ands n = some v := by
  rw [tab, h]
theorem tab_low {K : Nat → Option Nat} {first : Nat} {ands : List (Nat × Nat)} {n : Nat} (h : K n = none) (hn : n < first) : tab K first ands n = none := by
  rw [tab, h]
  simp [hn]
theorem tab_gate {K : Nat → Option Nat} {first : Nat} {ands : List (Nat × Nat)} {n a b : Nat} (h : K n = none) (hn : ¬ n < first) (hg : ands[n - first]? = some (a, b)) (ha : a / 2 < n) (hb : b / 2 < n) :
    tab K first ands n = match tab K first ands (a / 2) with
      | none => none
      | some x => match tab K first ands (b / 2) with
        | none => none
        | some y => some (lit x a &&& lit y b) := by
  rw [tab, h]
  simp only [hn, if_false, hg, ha, hb, and_self, dite_true]
/-- more that is known of nodes, if it is what they are, changes nothing -/
theorem tab_more {K M : Nat → Option Nat} {first : Nat} {ands : List (Nat × Nat)} (h1 : ∀ n v, K n = some v → M n = some v) (h2 : ∀ n v, M n = some v → tab K first ands n = some v) : ∀ n, tab M first ands n = tab K first ands n := by
  intro n
  induction n using Nat.strongRecOn with
  | ind n ih =>
    cases hM : M n with
    | some v => rw [tab_known hM, h2 n v hM]
    | none =>
      have hK : K n = none := by
        cases hK : K n with
        | none => rfl
        | some v => rw [h1 n v hK] at hM; cases hM
      by_cases hn : n < first
      · rw [tab_low hM hn, tab_low hK hn]
      · cases hg : ands[n - first]? with
        | none => rw [tab, tab, hM, hK]; simp [hn, hg]
        | some p =>
          obtain ⟨a, b⟩ := p
          by_cases hab : a / 2 < n ∧ b / 2 < n
          · rw [tab_gate hM hn hg hab.1 hab.2, tab_gate hK hn hg hab.1 hab.2, ih _ hab.1, ih _ hab.2]
          · rw [tab, tab, hM, hK]; simp [hn, hg, hab]
/-- what a map of nodes' values holds comes through, under what keeps literals and the and -/
theorem tab_map {K : Nat → Option Nat} {first : Nat} {ands : List (Nat × Nat)} (f : Nat → Nat) (L : Nat → Nat → Nat) (hf : ∀ x y a b, f (lit x a &&& lit y b) = L (f x) a &&& L (f y) b) (T : Nat → Option Nat)
    (hK : ∀ n v, K n = some v → T n = some (f v)) (hlow : ∀ n, K n = none → n < first → T n = none)
    (hg : ∀ n a b, K n = none → ¬ n < first → ands[n - first]? = some (a, b) → a / 2 < n → b / 2 < n → T n = match T (a / 2) with
      | none => none
      | some x => match T (b / 2) with
        | none => none
        | some y => some (L x a &&& L y b)) (hin : ∀ i a b, ands[i]? = some (a, b) → a / 2 < first + i ∧ b / 2 < first + i) :
    ∀ n, n < first + ands.length → T n = (tab K first ands n).map f := by
  intro n
  induction n using Nat.strongRecOn with
  | ind n ih =>
    intro hlt
    cases h : K n with
    | some v => rw [tab_known h, hK n v h]; rfl
    | none =>
      by_cases hn : n < first
      · rw [tab_low h hn, hlow n h hn]; rfl
      · obtain ⟨p, hp⟩ : ∃ p, ands[n - first]? = some p := ⟨ands[n - first], List.getElem?_eq_getElem (by omega)⟩
        obtain ⟨a, b⟩ := p
        obtain ⟨ha, hb⟩ := hin _ _ _ hp
        have ha' : a / 2 < n := by omega
        have hb' : b / 2 < n := by omega
        rw [tab_gate h hn hp ha' hb', hg n a b h hn hp ha' hb', ih _ ha' (by omega), ih _ hb' (by omega)]
        cases tab K first ands (a / 2) with
        | none => rfl
        | some x => cases tab K first ands (b / 2) with
          | none => rfl
          | some y => simp [hf]
/-! ## Rows -/
/-- all rows of so many leaves -/
def rows (n : Nat) : Nat := 2 ^ 2 ^ n - 1
/-- a leaf's values, in 64 rows -/
def col (i : Nat) : Nat := match i with
  | 0 => 0xaaaaaaaaaaaaaaaa
  | 1 => 0xcccccccccccccccc
  | 2 => 0xf0f0f0f0f0f0f0f0
  | 3 => 0xff00ff00ff00ff00
  | 4 => 0xffff0000ffff0000
  | _ => 0xffffffff00000000
theorem and_mask (x y m : Nat) : (x &&& y) &&& m = (x &&& m) &&& (y &&& m) := by
  apply Nat.eq_of_testBit_eq
  intro i
  simp only [Nat.testBit_and]
  cases x.testBit i <;> cases y.testBit i <;> cases m.testBit i <;> rfl
theorem xor_mask (x o m : Nat) : (x ^^^ o) &&& m = ((x &&& m) ^^^ o) &&& m := by
  apply Nat.eq_of_testBit_eq
  intro i
  simp only [Nat.testBit_and, Nat.testBit_xor]
  cases x.testBit i <;> cases o.testBit i <;> cases m.testBit i <;> rfl
/-- a literal's values, of so many rows -/
def litM (m x a : Nat) : Nat := if a % 2 = 1 then (x ^^^ ones) &&& m else x
theorem mask_lit (m x y a b : Nat) : (lit x a &&& lit y b) &&& m = litM m (x &&& m) a &&& litM m (y &&& m) b := by
  rw [and_mask]
  congr 1
  · unfold lit litM; split
    · exact xor_mask _ _ _
    · rfl
  · unfold lit litM; split
    · exact xor_mask _ _ _
    · rfl
end Go.Proofs.YtebgihekgijpfaaDoor.Cut
namespace Go.Proofs.YtebgihekgijpfaaDoor.Cut
/-! ## Lists that rise -/
def Rises (l : List Int) : Prop := l.Pairwise (· < ·)
instance (l : List Int) : Decidable (Rises l) := by unfold Rises; infer_instance
theorem rises_uniq : ∀ {l m : List Int}, Rises l → Rises m → (∀ x, x ∈ l ↔ x ∈ m) → l = m
  | [], [], _, _, _ => rfl
  | [], y :: m, _, _, h => by have := (h y).2 (by simp); cases this
  | x :: l, [], _, _, h => by have := (h x).1 (by simp); cases this
  | x :: l, y :: m, hl, hm, h => by
    have hl' := List.pairwise_cons.1 hl
    have hm' := List.pairwise_cons.1 hm
    have hxy : x = y := by
      have h1 := (h x).1 (by simp)
      have h2 := (h y).2 (by simp)
      rcases List.mem_cons.1 h1 with e | h1
      · exact e
      · rcases List.mem_cons.1 h2 with e | h2
        · exact e.symm
        · have a := hm'.1 x h1
          have b := hl'.1 y h2
          omega
    subst hxy
    rw [rises_uniq hl'.2 hm'.2 (fun z => ?_)]
    constructor
    · intro hz
      have hne := hl'.1 z hz
      rcases List.mem_cons.1 ((h z).1 (List.mem_cons_of_mem _ hz)) with e | e
      · omega
      · exact e
    · intro hz
      have hne := hm'.1 z hz
      rcases List.mem_cons.1 ((h z).2 (List.mem_cons_of_mem _ hz)) with e | e
      · omega
      · exact e
/-- two lists made one -/
def mrg : List Int → List Int → List Int
  | [], b => b
  | a, [] => a
  | x :: a, y :: b => if x < y then x :: mrg a (y :: b) else if y < x then y :: mrg (x :: a) b else x :: mrg a b
termination_by a b => a.length + b.length
theorem mem_mrg : ∀ (a b : List Int) (z : Int), z ∈ mrg a b ↔ z ∈ a ∨ z ∈ b
  | [], b, z => by simp [mrg]
  | x :: a, [], z => by simp [mrg]
  | x :: a, y :: b, z => by
    rw [mrg]
    split
    · simp only [List.mem_cons, mem_mrg a (y :: b) z]
      constructor
      · rintro (h | h | h | h)
        · exact .inl (.inl h)
        · exact .inl (.inr h)
        · exact .inr (.inl h)
        · exact .inr (.inr h)
      · rintro ((h | h) | h | h)
        · exact .inl h
        · exact .inr (.inl h)
        · exact .inr (.inr (.inl h))
        · exact .inr (.inr (.inr h))
    · split
      · simp only [List.mem_cons, mem_mrg (x :: a) b z]
        constructor
        · rintro (h | (h | h) | h)
          · exact .inr (.inl h)
          · exact .inl (.inl h)
          · exact .inl (.inr h)
          · exact .inr (.inr h)
        · rintro ((h | h) | h | h)
          · exact .inr (.inl (.inl h))
          · exact .inr (.inl (.inr h))
          · exact .inl h
          · exact .inr (.inr h)
      · have e : x = y := by omega
        subst e
        simp only [List.mem_cons, mem_mrg a b z]
        constructor
        · rintro (h | h | h)
          · exact .inl (.inl h)
          · exact .inl (.inr h)
          · exact .inr (.inr h)
        · rintro ((h | h) | h | h)
          · exact .inl h
          · exact .inr (.inl h)
          · exact .inl h
          · exact .inr (.inr h)
termination_by a b => a.length + b.length
theorem mrg_rises : ∀ (a b : List Int), Rises a → Rises b → Rises (mrg a b)
  | [], b, _, hb => by simpa [mrg] using hb
  | x :: a, [], ha, _ => by simpa [mrg] using ha
  | x :: a, y :: b, ha, hb => by
    have ha' := List.pairwise_cons.1 ha
    have hb' := List.pairwise_cons.1 hb
    rw [mrg]
    split
    · refine List.pairwise_cons.2 ⟨fun z hz => ?_, mrg_rises a (y :: b) ha'.2 hb⟩
      rcases (mem_mrg _ _ _).1 hz with h | h
      · exact ha'.1 z h
      · rcases List.mem_cons.1 h with h | h
        · omega
        · have := hb'.1 z h; omega
    · split
      · refine List.pairwise_cons.2 ⟨fun z hz => ?_, mrg_rises (x :: a) b ha hb'.2⟩
        rcases (mem_mrg _ _ _).1 hz with h | h
        · rcases List.mem_cons.1 h with h | h
          · omega
          · have := ha'.1 z h; omega
        · exact hb'.1 z h
      · refine List.pairwise_cons.2 ⟨fun z hz => ?_, mrg_rises a b ha'.2 hb'.2⟩
        rcases (mem_mrg _ _ _).1 hz with h | h
        · exact ha'.1 z h
        · have := hb'.1 z h; omega
termination_by a b => a.length + b.length
theorem mrg_comm {a b : List Int} (ha : Rises a) (hb : Rises b) : mrg a b = mrg b a :=
  rises_uniq (mrg_rises a b ha hb) (mrg_rises b a hb ha) (fun z => by rw [mem_mrg, mem_mrg]; exact Or.comm)
theorem mrg_len : ∀ (a b : List Int), a.length ≤ (mrg a b).length ∧ b.length ≤ (mrg a b).length ∧ (mrg a b).length ≤ a.length + b.length
  | [], b => by simp [mrg]
  | x :: a, [] => by simp [mrg]
  | x :: a, y :: b => by
    rw [mrg]
    split
    · have := mrg_len a (y :: b); simp only [List.length_cons] at this ⊢; omega
    · split
      · have := mrg_len (x :: a) b; simp only [List.length_cons] at this ⊢; omega
      · have := mrg_len a b; simp only [List.length_cons] at this ⊢; omega
termination_by a b => a.length + b.length
/-- what Merge tells -/
def merge (a b : List Int) (k : Int) : Option (List Int) := if Rises a ∧ Rises b ∧ 0 ≤ k ∧ k ≤ 6 ∧ ((mrg a b).length : Int) ≤ k then some (mrg a b) else none
end Go.Proofs.YtebgihekgijpfaaDoor.Cut

namespace Go.Proofs.YtebgihekgijpfaaDoor
open Go.RowKit
set_option linter.unusedVariables false
set_option linter.unusedSimpArgs false

theorem rises_iff (l : List Int) : Cut.Rises l ↔ ∀ j, j + 1 < l.length → l.getD j 0 < l.getD (j + 1) 0 := by
  have e : ∀ j (h : j < l.length), l.getD j 0 = l[j] := fun j h => by rw [List.getD_eq_getElem?_getD, List.getElem?_eq_getElem h]; rfl
  unfold Cut.Rises
  rw [List.pairwise_iff_getElem]
  constructor
  · intro h j hj
    rw [e j (by omega), e (j + 1) hj]
    exact h j (j + 1) (by omega) hj (by omega)
  · intro h i j hi hj hij
    have key : ∀ d, i + d + 1 < l.length → l.getD i 0 < l.getD (i + d + 1) 0 := by
      intro d
      induction d with
      | zero => intro hd; exact h i hd
      | succ d ih =>
        intro hd
        have h1 := ih (by omega)
        have h2 := h (i + d + 1) hd
        exact Int.lt_trans h1 h2
    have := key (j - i - 1) (by omega)
    rw [show i + (j - i - 1) + 1 = j by omega, e i hi, e j hj] at this
    exact this
/-- as far as k they rise -/
def RiseTo (l : List Int) (k : Nat) : Prop := ∀ j, j < k → l.getD j 0 < l.getD (j + 1) 0
theorem riseTo_all {l : List Int} {k : Nat} (h : RiseTo l k) (hk : l.length ≤ k + 1) : Cut.Rises l := (rises_iff l).2 fun j hj => h j (by omega)
theorem riseTo_next {l : List Int} {k : Nat} (h : RiseTo l k) (hk : l.getD k 0 < l.getD (k + 1) 0) : RiseTo l (k + 1) := fun j hj => by
  by_cases e : j = k
  · subst e; exact hk
  · exact h j (by omega)
theorem rises_not {l : List Int} {k : Nat} (hk : k + 1 < l.length) (h : l.getD (k + 1) 0 ≤ l.getD k 0) : ¬ Cut.Rises l := fun hr => by have := (rises_iff l).1 hr k hk; omega
theorem add_one_add (a : Addr) (k : Nat) : a.add (k + 1) = ⟨a.block, a.off + 1 + k, none⟩ := by
  unfold Addr.add
  rw [if_neg (by omega)]
  congr 1
  omega
set_option maxRecDepth 100000 in
set_option maxHeartbeats 2000000 in
theorem crises_any (A : Option Addr) (c : Nat) (l : List Int) (w : World) (hr : Rd w 1 A l.length c (ints l)) (hn : l.length ≤ 1000000) :
    Calls Tryd.prog 70 #[.slice A l.length c] w fun r w' => r = .returned (.bool (decide (Cut.Rises l))) ∧ Below w.heap.size w w' := by
  obtain ⟨r, hrr⟩ : ∃ r, decide (Cut.Rises l) = r := ⟨_, rfl⟩
  have HR := Lib.hid hrr
  rw [hrr]
  have HA := Lib.hid hr
  obtain ⟨n, hnn⟩ : ∃ n, l.length = n := ⟨_, rfl⟩
  have HN := Lib.hid hnn
  rw [hnn] at hn ⊢
  have hcap := hr.cap
  rw [hnn] at hcap
  clear hrr hnn
  by_cases h0 : n = 0
  · have hr1 : r = true := by
      rw [← HR.out]
      exact decide_eq_true (riseTo_all (k := 0) (fun j hj => absurd hj (by omega)) (by rw [HN.out]; omega))
    have H1 := Lib.hid hr1
    subst h0
    clear hr hr1 hcap
    cases A with
    | none =>
      have hc : c = 0 := HA.out.nil rfl
      subst hc
      go_enter Tryd.func70, Tryd.ntmps70
      go_wp2_with fail
      go_loop [11] (fun i => i = .int .i64 0) (fun _ => 0)
      case atStart => rfl
      case round =>
        subst hrel
        go_wp2_with fail
        go_ret
        exact ⟨by rw [H1.out]; rfl, Below.refl _ _⟩
    | some a =>
      go_enter Tryd.func70, Tryd.ntmps70
      go_wp2_with fail
      go_loop [11] (fun i => i = .int .i64 0) (fun _ => 0)
      case atStart => rfl
      case round =>
        subst hrel
        go_wp2_with fail
        go_ret
        exact ⟨by rw [H1.out]; rfl, Below.refl _ _⟩
  obtain ⟨m, rfl⟩ : ∃ m, n = m + 1 := ⟨n - 1, by omega⟩
  obtain ⟨a, hA, -, -⟩ := hr.int (k := 0) (by rw [HN.out]; omega)
  subst hA
  clear hr h0
  have hmin : (if ((m : Int) + 1) < 1 then ((m : Int) + 1) else 1) = 1 := if_neg (by omega)
  have hm0 : ¬ (m : Int) + 1 < 1 := by omega
  have hm1 : (1 : Int) ≤ (m : Int) + 1 := by omega
  by_cases hc1 : c = 1
  · have hm : m = 0 := by omega
    have hr1 : r = true := by
      rw [← HR.out]
      exact decide_eq_true (riseTo_all (k := 0) (fun j hj => absurd hj (by omega)) (by rw [HN.out]; omega))
    have H1 := Lib.hid hr1
    subst hm hc1
    clear hr1 hcap hmin hm0 hm1
    go_enter Tryd.func70, Tryd.ntmps70
    go_wp2_with fail
    go_loop [11] (fun i => i = .int .i64 0) (fun _ => 0)
    case atStart => rfl
    case round =>
      subst hrel
      go_wp2_with fail
      go_ret
      exact ⟨by rw [H1.out]; rfl, Below.refl _ _⟩
  have hc2 : ¬ 1 = c := fun h => hc1 h.symm
  go_enter Tryd.func70, Tryd.ntmps70
  go_wp2_with fail
  go_loopw [11] (fun i wx => ∃ k : Nat, k ≤ m ∧ i = .int .i64 (k : Int) ∧ RiseTo l k ∧ Below w.heap.size w wx) (fun i _ => m - (intOf i).toNat)
  case atStart => exact ⟨0, by omega, rfl, fun j hj => absurd hj (by omega), Below.refl _ _⟩
  case round =>
    obtain ⟨k, hk, rfl, ht, hB⟩ := hrel
    have HT := Lib.hid ht
    have B1 := Lib.hid hB
    clear ht hB hmin
    by_cases hlt : k < m
    case neg =>
      obtain rfl : k = m := by omega
      have hr1 : r = true := by
        rw [← HR.out]
        exact decide_eq_true (riseTo_all HT.out (by rw [HN.out]; exact Nat.le_refl _))
      have H1 := Lib.hid hr1
      clear hr1
      go_wp2_with fail
      go_ret
      exact ⟨by rw [H1.out]; rfl, B1.out⟩
    obtain ⟨a1, e1, -, d0⟩ := (HA.out.later B1.out).int (k := k) (by rw [HN.out]; omega)
    obtain ⟨a2, e2, -, d1⟩ := (HA.out.later B1.out).int (k := k + 1) (by rw [HN.out]; omega)
    obtain rfl := Option.some.inj e1
    obtain rfl := Option.some.inj e2
    rw [add_one_add] at d1
    have hnot : l.getD (k + 1) 0 ≤ l.getD k 0 → r = false := fun h => by
      rw [← HR.out]; exact decide_eq_false (rises_not (by rw [HN.out]; omega) h)
    have hnx : l.getD k 0 < l.getD (k + 1) 0 → RiseTo l (k + 1) := fun h => riseTo_next HT.out h
    have HNOT := Lib.hid hnot
    have HNX := Lib.hid hnx
    clear hnot hnx e1 e2
    generalize l.getD k 0 = x at d0 HNOT HNX
    generalize l.getD (k + 1) 0 = y at d1 HNOT HNX
    by_cases hxy : y ≤ x
    · have HF := Lib.hid (HNOT.out hxy)
      go_wp2_with fail
      go_ret
      exact ⟨by rw [HF.out]; rfl, B1.out⟩
    · have HF := Lib.hid (HNX.out (by omega))
      go_wp2_with fail
      go_roundw
      case rel => exact ⟨k + 1, by omega, by go_num, HF.out, B1.out⟩
      case measure => simp [intOf]; omega
set_option maxRecDepth 100000 in
theorem rows_any (n : Nat) (w : World) (hn : n ≤ 6) :
    Calls Tryd.prog 66 #[.int .i64 (n : Int)] w fun r w' => r = .returned (.int .u64 (Cut.rows n : Int)) ∧ w = w' := by
  rcases (show n = 0 ∨ n = 1 ∨ n = 2 ∨ n = 3 ∨ n = 4 ∨ n = 5 ∨ n = 6 by omega) with rfl | rfl | rfl | rfl | rfl | rfl | rfl
  all_goals
    go_enter Tryd.func66, Tryd.ntmps66
    go_wp2_with fail
    go_ret
    exact ⟨by first | rfl | (simp [Cut.rows]), rfl⟩
end Go.Proofs.YtebgihekgijpfaaDoor

namespace Go.Proofs.YtebgihekgijpfaaDoor
open Go.RowKit
set_option linter.unusedVariables false
set_option linter.unusedSimpArgs false

theorem wp_region_still_in {P : Program} {id : Nat} {Q : Exit → Act → World → Prop} {a : Act} {w : World} {l : List Oper} (hm : P.follows .mixedOrders = true) (hB : Region.lexB .any l.toArray = true)
    (h : ∀ (β : Type) (_ : Nonempty β) (V : β → World), (∀ s, Below w.heap.size w (V s)) → (∀ w', Below w.heap.size w w' → ∃ s, w' = V s) →
      wpQuiet P l.toArray (fun w' => ∃ s, w' = V s) (fun a' => ∀ w', (∃ s, w' = V s) → Q .normal a' w') l a) : (Code.region id l.toArray true).wp P Q a w :=
  wp_region_quiet (C := fun w' => ∃ s : { x : World // Below w.heap.size w x }, w' = s.val) hm hB ⟨⟨_, below_drewN (Below.refl _ _) 1⟩, rfl⟩
    (by simpa using h { x : World // Below w.heap.size w x } ⟨⟨w, Below.refl _ _⟩⟩ (fun s => s.val) (fun s => s.property) (fun w' hw => ⟨⟨w', hw⟩, rfl⟩))
theorem still_cell {w : World} {β : Type} {V : β → World} (hV : ∀ s, Below w.heap.size w (V s)) {p : Addr} {v : Value} (h : w.cell? p = some v) : ∀ s, (V s).cell? p = some v := fun s =>
  ((hV s).cell (World.block_lt_of_cell? w p h)).trans h
theorem Calls.still {P : Program} {f : FuncId} {args : Array Value} {w : World} {β : Type} {V : β → World} (hV : ∀ s, Below w.heap.size w (V s)) (hS : ∀ w', Below w.heap.size w w' → ∃ s, w' = V s) {s : β} {v : Value}
    (h : Calls P f args (V s) fun e w' => e = .returned v ∧ Below (V s).heap.size (V s) w') : Calls P f args (V s) fun e w'' => e = .returned v ∧ ∃ s, w'' = V s :=
  h.mono fun _ _ ⟨he, hb⟩ => ⟨he, hS _ (below_then (hV s) hb)⟩
theorem Calls.still_same {P : Program} {f : FuncId} {args : Array Value} {w : World} {β : Type} {V : β → World} (hS : ∀ w', Below w.heap.size w w' → ∃ s, w' = V s) {s : β} {v : Value}
    (h : Calls P f args (V s) fun e w' => e = .returned v ∧ V s = w') : Calls P f args (V s) fun e w'' => e = .returned v ∧ ∃ s, w'' = V s :=
  h.mono fun _ _ ⟨he, hb⟩ => ⟨he, s, hb.symm⟩
end Go.Proofs.YtebgihekgijpfaaDoor

namespace Go.Proofs.YtebgihekgijpfaaDoor
open Go.RowKit
set_option linter.unusedVariables false
set_option linter.unusedSimpArgs false

theorem u64_and_nat (a b : Nat) (ha : a < 18446744073709551616) (hb : b < 18446744073709551616) : bits .and .u64 (a : Int) (b : Int) = ((a &&& b : Nat) : Int) := by
  have e : bits .and .u64 (a : Int) (b : Int) = IntKind.u64.wrap ((BitVec.ofInt 64 (a : Int) &&& BitVec.ofInt 64 (b : Int)).toNat : Int) := rfl
  have e1 : (BitVec.ofInt 64 (a : Int)).toNat = a := by simp; omega
  have e2 : (BitVec.ofInt 64 (b : Int)).toNat = b := by simp; omega
  have h : a &&& b ≤ a := Nat.and_le_left
  rw [e, BitVec.toNat_and, e1, e2]
  show ((a &&& b : Nat) : Int) % 18446744073709551616 = _
  omega
theorem u64_or_nat (a b : Nat) (ha : a < 18446744073709551616) (hb : b < 18446744073709551616) : bits .or .u64 (a : Int) (b : Int) = ((a ||| b : Nat) : Int) := by
  have e : bits .or .u64 (a : Int) (b : Int) = IntKind.u64.wrap ((BitVec.ofInt 64 (a : Int) ||| BitVec.ofInt 64 (b : Int)).toNat : Int) := rfl
  have e1 : (BitVec.ofInt 64 (a : Int)).toNat = a := by simp; omega
  have e2 : (BitVec.ofInt 64 (b : Int)).toNat = b := by simp; omega
  have h : a ||| b < 2 ^ 64 := Nat.or_lt_two_pow (by omega) (by omega)
  rw [e, BitVec.toNat_or, e1, e2]
  show ((a ||| b : Nat) : Int) % 18446744073709551616 = _
  omega
namespace Cut
/-- a leaf's values in the first rows -/
def colTo (k : Nat) : Nat → Nat
  | 0 => 0
  | i + 1 => if i / 2 ^ k % 2 = 1 then colTo k i ||| 2 ^ i else colTo k i
theorem colTo_lt (k : Nat) : ∀ i, i ≤ 64 → colTo k i < 18446744073709551616
  | 0, _ => by simp [colTo]
  | i + 1, h => by
    have ih := colTo_lt k i (by omega)
    rw [colTo]
    split
    · refine Nat.or_lt_two_pow (n := 64) ih ?_
      exact Nat.pow_lt_pow_right (by omega) (by omega)
    · exact ih
def colM (k n : Nat) : Nat := colTo k (2 ^ n)
theorem colM_lt (k n : Nat) (h : n ≤ 6) : colM k n < 18446744073709551616 := colTo_lt k _ (by
  have : 2 ^ n ≤ 2 ^ 6 := Nat.pow_le_pow_right (by omega) h
  omega)
theorem colM_eq (k n : Nat) (hk : k < n) (hn : n ≤ 6) : colM k n = col k &&& rows n := by
  rcases (show n = 1 ∨ n = 2 ∨ n = 3 ∨ n = 4 ∨ n = 5 ∨ n = 6 by omega) with rfl | rfl | rfl | rfl | rfl | rfl
  · obtain rfl : k = 0 := by omega
    decide
  · rcases (show k = 0 ∨ k = 1 by omega) with rfl | rfl <;> decide
  · rcases (show k = 0 ∨ k = 1 ∨ k = 2 by omega) with rfl | rfl | rfl <;> decide
  · rcases (show k = 0 ∨ k = 1 ∨ k = 2 ∨ k = 3 by omega) with rfl | rfl | rfl | rfl <;> decide +kernel
  · rcases (show k = 0 ∨ k = 1 ∨ k = 2 ∨ k = 3 ∨ k = 4 by omega) with rfl | rfl | rfl | rfl | rfl <;> decide +kernel
  · rcases (show k = 0 ∨ k = 1 ∨ k = 2 ∨ k = 3 ∨ k = 4 ∨ k = 5 by omega) with rfl | rfl | rfl | rfl | rfl | rfl <;> decide +kernel
theorem full_eq (n : Nat) (hn : n ≤ 6) : (colM 0 n ||| (colM 0 n / 2)) ||| 1 = rows n := by
  rcases (show n = 0 ∨ n = 1 ∨ n = 2 ∨ n = 3 ∨ n = 4 ∨ n = 5 ∨ n = 6 by omega) with rfl | rfl | rfl | rfl | rfl | rfl | rfl <;> decide +kernel
theorem rows_lt (n : Nat) (hn : n ≤ 6) : rows n < 18446744073709551616 := by
  rcases (show n = 0 ∨ n = 1 ∨ n = 2 ∨ n = 3 ∨ n = 4 ∨ n = 5 ∨ n = 6 by omega) with rfl | rfl | rfl | rfl | rfl | rfl | rfl <;> decide
end Cut
end Go.Proofs.YtebgihekgijpfaaDoor

namespace Go.Proofs.YtebgihekgijpfaaDoor
open Go.RowKit
set_option linter.unusedVariables false
set_option linter.unusedSimpArgs false

/-- are they leaves, c being the last node -/
def leavesB (c : Int) (l : List Int) : Bool := decide (l.length ≤ 6) && decide (Cut.Rises l) && (decide (l.length = 0) || decide (1 ≤ l.getD 0 0) && decide (l.getD (l.length - 1) 0 ≤ c))
end Go.Proofs.YtebgihekgijpfaaDoor

namespace Go.Proofs.YtebgihekgijpfaaDoor
open Go.RowKit
set_option linter.unusedVariables false
set_option linter.unusedSimpArgs false

theorem u64_not_nat (a : Nat) (ha : a < 18446744073709551616) : bits .xor .u64 18446744073709551615 (a : Int) = ((a ^^^ Cut.ones : Nat) : Int) := by
  have e : bits .xor .u64 18446744073709551615 (a : Int) = IntKind.u64.wrap ((BitVec.ofInt 64 18446744073709551615 ^^^ BitVec.ofInt 64 (a : Int)).toNat : Int) := rfl
  have e1 : (BitVec.ofInt 64 (a : Int)).toNat = a := by simp; omega
  have e2 : (BitVec.ofInt 64 18446744073709551615).toNat = Cut.ones := by decide
  have h : Cut.ones ^^^ a < 2 ^ 64 := Nat.xor_lt_two_pow (by decide) (by omega)
  rw [e, BitVec.toNat_xor, e1, e2, Nat.xor_comm]
  rw [Nat.xor_comm] at h
  show ((a ^^^ Cut.ones : Nat) : Int) % 18446744073709551616 = _
  omega
theorem xor_ones_lt (a : Nat) (ha : a < 18446744073709551616) : a ^^^ Cut.ones < 18446744073709551616 := Nat.xor_lt_two_pow (n := 64) (by omega) (by decide)
def u64s (l : List Nat) : List Value := l.map fun (n : Nat) => .int .u64 (n : Int)
theorem Rd.u64 {w : World} {A : Option Addr} {n c : Nat} {l : List Nat} (h : Rd w 1 A n c (u64s l)) {k : Nat} (hk : k < n) : ∃ a, A = some a ∧ a.block < w.heap.size ∧ w.cell? (a.add k) = some (.int .u64 (l.getD k 0 : Int)) := by
  obtain ⟨a, hA, hb, hc⟩ := h.at1 hk
  refine ⟨a, hA, hb, hc.trans ?_⟩
  have := h.len
  simp only [u64s, List.length_map, Nat.mul_one] at this
  simp [u64s, List.getD_eq_getElem?_getD, List.getElem?_map, List.getElem?_eq_getElem (show k < l.length by omega)]
end Go.Proofs.YtebgihekgijpfaaDoor

namespace Go.Proofs.YtebgihekgijpfaaDoor
open Go.RowKit
set_option linter.unusedVariables false
set_option linter.unusedSimpArgs false
namespace Cut
def upd (T : Nat → Option Nat) (x v : Nat) : Nat → Option Nat := fun n => if n = x then some v else T n
def knownTo (l : List Int) (f : Nat → Nat) : Nat → Nat → Option Nat
  | 0 => fun n => if n = 0 then some 0 else none
  | k + 1 => upd (knownTo l f k) (l.getD k 0).toNat (f k)
/-- what is known ahead of the gates: node 0, and the leaves -/
def known (l : List Int) (f : Nat → Nat) : Nat → Option Nat := knownTo l f l.length
theorem knownTo_map (l : List Int) (f : Nat → Nat) (g : Nat → Nat) (h : Nat → Nat) (m : Nat) (h0 : g 0 = 0) (hk : ∀ i, i < m → g (f i) = h i) : ∀ k, k ≤ m → ∀ n, (knownTo l f k n).map g = knownTo l h k n
  | 0, _, n => by simp only [knownTo]; split <;> simp [h0]
  | k + 1, hm, n => by
    simp only [knownTo, upd]
    split
    · simp [hk k (by omega)]
    · exact knownTo_map l f g h m h0 hk k (by omega) n
theorem known_mask (l : List Int) (hl : l.length ≤ 6) (n : Nat) : (known l col n).map (· &&& rows l.length) = known l (fun i => colM i l.length) n :=
  knownTo_map l col (· &&& rows l.length) (fun i => colM i l.length) l.length (Nat.zero_and _) (fun i hi => (colM_eq i l.length hi hl).symm) _ (Nat.le_refl _) n
end Cut
/-- the gates, as natural numbers; the first gate's node; how many nodes there are -/
def AG.ands (G : AG) : List (Nat × Nat) := G.an.map fun p => (p.1.toNat, p.2.toNat)
def AG.fst (G : AG) : Nat := 1 + G.I.toNat + G.fl.length
def AG.cn (G : AG) : Nat := G.fst + G.an.length
theorem AG.ok.cnt {G : AG} (h : G.ok) : G.cnt + 1 = (G.cn : Int) := by have := h.1; unfold AG.cnt AG.cn AG.fst; omega
theorem AG.ok.firstN {G : AG} (h : G.ok) : G.first = (G.fst : Int) := by have := h.1; unfold AG.first AG.fst; omega
theorem AG.ok.gate {G : AG} (h : G.ok) {i : Nat} (hi : i < G.an.length) : ∃ a b : Nat, G.an[i] = ((a : Int), (b : Int)) ∧ G.ands[i]? = some (a, b) ∧ a / 2 < G.fst + i ∧ b / 2 < G.fst + i ∧ (a : Int) ≤ 1000000 + 4 * (G.fst + i) ∧ (b : Int) ≤ 1000000 + 4 * (G.fst + i) := by
  have hg := h.2.2.2 i hi
  have hf := h.firstN
  simp only [gateB, Bool.or_eq_false_iff, decide_eq_false_iff_not] at hg
  obtain ⟨h1, h2⟩ := hg
  obtain ⟨⟨x, y⟩, hp⟩ : ∃ p, G.an[i] = p := ⟨_, rfl⟩
  rw [hp] at h1 h2 ⊢
  simp only at h1 h2
  refine ⟨x.toNat, y.toNat, by simp; omega, by simp [AG.ands, List.getElem?_eq_getElem hi, hp], by omega, by omega, by omega, by omega⟩
/-- what a node is by leaves: none, if it hangs on more -/
def AG.tabG (G : AG) (l : List Int) (n : Nat) : Option Nat := Cut.tab (Cut.known l Cut.col) G.fst G.ands n
/-- by which table -/
def AG.table (G : AG) (l : List Int) (n : Nat) : Option Nat := (G.tabG l n).map (· &&& Cut.rows l.length)
theorem leavesB_len {c : Int} {l : List Int} (h : leavesB c l = true) : l.length ≤ 6 := by simp [leavesB] at h; exact h.1.1
theorem leavesB_rises {c : Int} {l : List Int} (h : leavesB c l = true) : Cut.Rises l := by simp [leavesB] at h; exact h.1.2
theorem rises_at {l : List Int} (h : Cut.Rises l) {i j : Nat} (hij : i < j) (hj : j < l.length) : l.getD i 0 < l.getD j 0 := by
  have := List.pairwise_iff_getElem.1 h i j (by omega) hj hij
  simpa [List.getD_eq_getElem?_getD, List.getElem?_eq_getElem, hj, show i < l.length by omega] using this
theorem leavesB_mem {c : Int} {l : List Int} (h : leavesB c l = true) {i : Nat} (hi : i < l.length) : 1 ≤ l.getD i 0 ∧ l.getD i 0 ≤ c := by
  have hr := leavesB_rises h
  have h2 : 1 ≤ l.getD 0 0 ∧ l.getD (l.length - 1) 0 ≤ c := by
    simp only [leavesB, Bool.and_eq_true, Bool.or_eq_true, decide_eq_true_eq] at h
    rcases h.2 with h0 | h0
    · omega
    · exact h0
  constructor
  · rcases Nat.eq_zero_or_pos i with rfl | hp
    · exact h2.1
    · have := rises_at hr hp hi; omega
  · rcases Nat.lt_or_ge i (l.length - 1) with hp | hp
    · have := rises_at hr hp (by omega); omega
    · rw [show i = l.length - 1 by omega]; exact h2.2
/-- the two rows of values, as far as node x -/
def AG.spec (G : AG) (l : List Int) (x n : Nat) : Option Nat := if n < x then G.table l n else Cut.known l (fun i => Cut.colM i l.length) n
theorem AG.spec_start (G : AG) (l : List Int) (hl : l.length ≤ 6) (n : Nat) : G.spec l G.fst n = Cut.known l (fun i => Cut.colM i l.length) n := by
  unfold AG.spec
  split
  · rename_i h
    rw [← Cut.known_mask l hl n]
    unfold AG.table AG.tabG
    cases hk : Cut.known l Cut.col n with
    | some v => rw [Cut.tab_known hk]
    | none => rw [Cut.tab_low hk h]
  · rfl
theorem AG.table_gate {G : AG} {l : List Int} {x i a b : Nat} (hl : l.length ≤ 6) (hx : G.fst + i = x) (hg : G.ands[i]? = some (a, b)) (ha : a / 2 < x) (hb : b / 2 < x) :
    G.table l x = match Cut.known l (fun i => Cut.colM i l.length) x with
      | some v => some v
      | none => match G.table l (a / 2) with
        | none => none
        | some u => match G.table l (b / 2) with
          | none => none
          | some v => some (Cut.litM (Cut.rows l.length) u a &&& Cut.litM (Cut.rows l.length) v b) := by
  rw [← Cut.known_mask l hl x]
  unfold AG.table AG.tabG
  cases hk : Cut.known l Cut.col x with
  | some v => rw [Cut.tab_known hk]; rfl
  | none =>
    rw [Cut.tab_gate hk (by omega) (by rw [← hx, Nat.add_sub_cancel_left]; exact hg) ha hb]
    cases Cut.tab (Cut.known l Cut.col) G.fst G.ands (a / 2) with
    | none => rfl
    | some u => cases Cut.tab (Cut.known l Cut.col) G.fst G.ands (b / 2) with
      | none => rfl
      | some v => simp [Cut.mask_lit]
theorem Cut.knownTo_lt (l : List Int) (m : Nat) (hm : m ≤ 6) : ∀ k, k ≤ m → ∀ n v, Cut.knownTo l (fun i => Cut.colM i m) k n = some v → v < 18446744073709551616
  | 0, _, n, v, h => by
    simp only [Cut.knownTo] at h
    split at h
    · cases h; omega
    · cases h
  | k + 1, hk, n, v, h => by
    simp only [Cut.knownTo, Cut.upd] at h
    split at h
    · cases h; exact Cut.colM_lt _ _ hm
    · exact Cut.knownTo_lt l m hm k (by omega) n v h
theorem AG.table_lt {G : AG} {l : List Int} (hl : l.length ≤ 6) {n v : Nat} (h : G.table l n = some v) : v < 18446744073709551616 := by
  unfold AG.table at h
  cases ht : G.tabG l n with
  | none => rw [ht] at h; cases h
  | some u =>
    rw [ht] at h
    cases h
    exact Nat.lt_of_le_of_lt Nat.and_le_right (Cut.rows_lt _ hl)
theorem AG.spec_lt {G : AG} {l : List Int} (hl : l.length ≤ 6) {x n v : Nat} (h : G.spec l x n = some v) : v < 18446744073709551616 := by
  unfold AG.spec at h
  split at h
  · exact AG.table_lt hl h
  · exact Cut.knownTo_lt l _ hl _ (Nat.le_refl _) n v h
/-- rows of values: is it known; what it is -/
def okA (N : Nat) (T : Nat → Option Nat) : List Bool := (List.range N).map fun n => (T n).isSome
def vA (N : Nat) (T : Nat → Option Nat) : List Nat := (List.range N).map fun n => (T n).getD 0
theorem okA_len (N : Nat) (T : Nat → Option Nat) : (okA N T).length = N := by simp [okA]
theorem vA_len (N : Nat) (T : Nat → Option Nat) : (vA N T).length = N := by simp [vA]
theorem okA_get {N : Nat} (T : Nat → Option Nat) {n : Nat} (h : n < N) : (okA N T).getD n false = (T n).isSome := by simp [okA, List.getD_eq_getElem?_getD, List.getElem?_map, List.getElem?_range h]
theorem vA_get {N : Nat} (T : Nat → Option Nat) {n : Nat} (h : n < N) : (vA N T).getD n 0 = (T n).getD 0 := by simp [vA, List.getD_eq_getElem?_getD, List.getElem?_map, List.getElem?_range h]
theorem okA_upd (N : Nat) (T : Nat → Option Nat) (x v : Nat) : (okA N T).set x true = okA N (Cut.upd T x v) := by
  apply List.ext_getElem?
  intro i
  rw [List.getElem?_set]
  simp only [okA, List.getElem?_map, List.length_map, List.length_range, Cut.upd]
  by_cases hi : i < N
  · rw [List.getElem?_range hi]
    by_cases e : x = i
    · subst e; simp [hi]
    · simp [e, Ne.symm e]
  · rw [List.getElem?_eq_none (by simpa using hi)]
    by_cases e : x = i
    · subst e; simp [hi]
    · simp [e]
theorem vA_upd (N : Nat) (T : Nat → Option Nat) (x v : Nat) : (vA N T).set x v = vA N (Cut.upd T x v) := by
  apply List.ext_getElem?
  intro i
  rw [List.getElem?_set]
  simp only [vA, List.getElem?_map, List.length_map, List.length_range, Cut.upd]
  by_cases hi : i < N
  · rw [List.getElem?_range hi]
    by_cases e : x = i
    · subst e; simp [hi]
    · simp [e, Ne.symm e]
  · rw [List.getElem?_eq_none (by simpa using hi)]
    by_cases e : x = i
    · subst e; simp [hi]
    · simp [e]
theorem u64s_set (M : List Nat) (k v : Nat) : (u64s M).set k (.int .u64 (v : Int)) = u64s (M.set k v) := by simp [u64s, List.map_set]
theorem u64s_replicate (N v : Nat) : List.replicate N (Value.int .u64 (v : Int)) = u64s (List.replicate N v) := by simp [u64s]
theorem okA_congr {N : Nat} {T T' : Nat → Option Nat} (h : ∀ n, n < N → T n = T' n) : okA N T = okA N T' := List.map_congr_left fun n hn => by rw [h n (List.mem_range.1 hn)]
theorem vA_congr {N : Nat} {T T' : Nat → Option Nat} (h : ∀ n, n < N → T n = T' n) : vA N T = vA N T' := List.map_congr_left fun n hn => by rw [h n (List.mem_range.1 hn)]
/-- a leaf more, a node more -/
theorem AG.spec_same {G : AG} {l : List Int} {x : Nat} (h : G.table l x = Cut.known l (fun i => Cut.colM i l.length) x) (n : Nat) : G.spec l (x + 1) n = G.spec l x n := by
  unfold AG.spec
  by_cases e : n = x
  · subst e; simp [h]
  · by_cases hn : n < x
    · rw [if_pos hn, if_pos (by omega)]
    · rw [if_neg hn, if_neg (by omega)]
theorem AG.spec_next {G : AG} {l : List Int} {x v : Nat} (h : G.table l x = some v) (n : Nat) : G.spec l (x + 1) n = Cut.upd (G.spec l x) x v n := by
  show (if n < x + 1 then _ else _) = if n = x then some v else if n < x then _ else _
  by_cases e : n = x
  · subst e; simp [h]
  · rw [if_neg e]
    by_cases hn : n < x
    · rw [if_pos hn, if_pos (by omega)]
    · rw [if_neg hn, if_neg (by omega)]
end Go.Proofs.YtebgihekgijpfaaDoor

namespace Go.Proofs.YtebgihekgijpfaaDoor
open Go.RowKit
set_option linter.unusedVariables false
set_option linter.unusedSimpArgs false

theorem u64_infoA : (Tryd.prog.info? 43).map (fun i => (i.zero, i.size, i.bytes)) = some (some (.int .u64 0), 1, 8) := by kernel_rfl
theorem bools_get {N : Nat} (T : Nat → Option Nat) {n : Nat} (h : n < N) : (bools (okA N T)).toArray[n]? = some (.bool (T n).isSome) := by
  simp [bools, okA, List.getElem?_map, List.getElem?_range h]
theorem u64s_get {N : Nat} (T : Nat → Option Nat) {n : Nat} (h : n < N) : (u64s (vA N T)).toArray[n]? = some (.int .u64 ((T n).getD 0 : Nat)) := by
  simp [u64s, vA, List.getElem?_map, List.getElem?_range h]
theorem okA_none (N : Nat) : bools (okA N (fun _ => none)) = List.replicate N (.bool false) := by simp [bools, okA, List.map_const']
theorem vA_none (N : Nat) : u64s (vA N (fun _ => none)) = List.replicate N (.int .u64 0) := by simp [u64s, vA, List.map_const']
/-- the two rows of values, in memory -/
structure VM (w : World) (N g1 g2 : Nat) (T : Nat → Option Nat) : Prop where
  ok : Blk w g1 4 (bools (okA N T)).toArray
  v : Blk w g2 43 (u64s (vA N T)).toArray
theorem VM.ne {w : World} {N g1 g2 : Nat} {T : Nat → Option Nat} (h : VM w N g1 g2 T) : g1 ≠ g2 := h.ok.other h.v (by decide)
theorem VM.keep {w w' : World} {N g1 g2 : Nat} {T : Nat → Option Nat} (h : VM w N g1 g2 T) (hb : Below w.heap.size w w') : VM w' N g1 g2 T := ⟨h.ok.keep hb, h.v.keep hb⟩
theorem VM.put {w : World} {N g1 g2 : Nat} {T : Nat → Option Nat} (h : VM w N g1 g2 T) (x v : Nat) (hx : x < N) {w' : World} (hb : Below w.heap.size (w.setCell ⟨g1, x, none⟩ (.bool true)) w') :
    VM (w'.setCell ⟨g2, x, none⟩ (.int .u64 (v : Int))) N g1 g2 (Cut.upd T x v) := by
  have h1 := (h.ok.put x (.bool true)).below hb h.ok.lt
  have h2 := (h.v.apart (p := ⟨g1, x, none⟩) h.ne.symm (.bool true)).below hb h.v.lt
  refine ⟨?_, ?_⟩
  · have := h1.apart (p := ⟨g2, x, none⟩) h.ne (.int .u64 (v : Int))
    rw [← okA_upd N T x v, ← bools_set]
    simpa using this
  · have := h2.put x (.int .u64 (v : Int))
    rw [← vA_upd, ← u64s_set]
    simpa using this
theorem VM.made {w : World} {N g1 g2 : Nat} (h1 : Blk w g1 4 (Array.replicate N (Value.bool false))) (h2 : Blk w g2 43 (Array.replicate N (Value.int .u64 0))) : VM w N g1 g2 (fun _ => none) := by
  refine ⟨?_, ?_⟩
  · rw [okA_none]; simpa using h1
  · rw [vA_none]; simpa using h2
theorem VM.zero {w : World} {N g1 g2 : Nat} (h : VM w N g1 g2 (fun _ => none)) : VM (w.setCell ⟨g1, 0, none⟩ (.bool true)) N g1 g2 (fun n => if n = 0 then some 0 else none) := by
  refine ⟨?_, ?_⟩
  · have := h.ok.put 0 (.bool true)
    have e : (fun n => if n = 0 then some 0 else none : Nat → Option Nat) = Cut.upd (fun _ => none) 0 0 := rfl
    rw [e, ← okA_upd N, ← bools_set]
    simpa using this
  · have := h.v.apart (p := ⟨g1, 0, none⟩) h.ne.symm (.bool true)
    have e : vA N (fun n => if n = 0 then some 0 else none : Nat → Option Nat) = vA N (fun _ => none) := List.map_congr_left fun n _ => by
      by_cases h : n = 0 <;> simp [h]
    rw [e]
    exact this
theorem VM.drew {w : World} {N g1 g2 : Nat} {T : Nat → Option Nat} (h : VM w N g1 g2 T) : VM w.drew N g1 g2 T := ⟨h.ok, h.v⟩
theorem VM.congr {w : World} {N g1 g2 : Nat} {T T' : Nat → Option Nat} (h : VM w N g1 g2 T) (e : ∀ n, n < N → T n = T' n) : VM w N g1 g2 T' := ⟨by rw [← okA_congr e]; exact h.ok, by rw [← vA_congr e]; exact h.v⟩
theorem rd_blk {w : World} {g : Nat} {t : TypeId} {cs : List Value} {n : Nat} (h : Blk w g t cs.toArray) (hn : cs.length = n) : Rd w 1 (some ⟨g, 0, none⟩) n n cs := by
  refine ⟨by omega, Nat.le_refl _, (fun e => nomatch e), fun j u hj => ⟨⟨g, 0, none⟩, rfl, h.lt, ?_⟩⟩
  have e : (⟨g, 0, none⟩ : Addr).add j = ⟨g, j, none⟩ := by unfold Addr.add; by_cases h : j = 0 <;> simp [h]
  rw [e, h.cell j]
  simpa using hj
theorem litM_lt {m x a : Nat} (hm : m < 18446744073709551616) (hx : x < 18446744073709551616) : Cut.litM m x a < 18446744073709551616 := by
  unfold Cut.litM
  split
  · exact Nat.lt_of_le_of_lt Nat.and_le_right hm
  · exact hx
theorem vA_mem {N : Nat} {T : Nat → Option Nat} (h : ∀ n v, T n = some v → v < 18446744073709551616) : ∀ x ∈ vA N T, x < 18446744073709551616 := by
  intro x hx
  obtain ⟨n, -, rfl⟩ := List.mem_map.1 hx
  cases hT : T n with
  | none => simp
  | some v => exact h n v hT
def ValsOut (G : AG) (l : List Int) (node : Nat) (w : World) (r : Ending) (w' : World) : Prop :=
  ∃ g1 g2, r = .returned (.tuple #[.slice (some ⟨g1, 0, none⟩) G.cn G.cn, .slice (some ⟨g2, 0, none⟩) G.cn G.cn]) ∧ Below w.heap.size w w' ∧ VM w' G.cn g1 g2 (G.spec l (max G.fst (node + 1)))
end Go.Proofs.YtebgihekgijpfaaDoor

namespace Go.Proofs.YtebgihekgijpfaaDoor
open Go.RowKit
set_option linter.unusedVariables false
set_option linter.unusedSimpArgs false

open Classical in
/-- by which table a node hangs on leaves, of any gates: none, if it does not -/
noncomputable def AG.good (G : AG) (l : List Int) (node : Int) : Option Nat := if G.ok ∧ 0 ≤ node ∧ node ≤ G.cnt ∧ leavesB G.cnt l = true then G.table l node.toNat else none
def optV (o : Option Nat) : Nat := o.getD 0
def optE (o : Option Nat) : Int := if o.isSome then 0 else 1
theorem AG.good_yes {G : AG} {l : List Int} {node : Int} (h : G.ok ∧ 0 ≤ node ∧ node ≤ G.cnt ∧ leavesB G.cnt l = true) : G.good l node = G.table l node.toNat := if_pos h
theorem AG.good_no {G : AG} {l : List Int} {node : Int} (h : ¬ (G.ok ∧ 0 ≤ node ∧ node ≤ G.cnt ∧ leavesB G.cnt l = true)) : G.good l node = none := if_neg h
def TblOut (o : Option Nat) (w : World) (r : Ending) (w' : World) : Prop := r = .returned (.tuple #[.int .u64 (optV o : Int), .int .i64 (optE o)]) ∧ Below w.heap.size w w'
end Go.Proofs.YtebgihekgijpfaaDoor

namespace Go.Proofs.YtebgihekgijpfaaDoor
open Go.RowKit
set_option linter.unusedVariables false
set_option linter.unusedSimpArgs false

/-- is a cut one -/
def cutE (o : Option Nat) (t : Nat) : Int := match o with
  | none => 1
  | some v => if v = t then 0 else 1
end Go.Proofs.YtebgihekgijpfaaDoor
