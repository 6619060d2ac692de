/- Walks of filigree/cuts.rises, rows, and of filigreeref24.rises. -/
import Derived.Test.YtkhlllbceceikaaDoorAigR
import Derived.Test.YtkhlllbceceikaaDoorCutP
namespace Go.Proofs.YtkhlllbceceikaaDoor
open Go.RowKit
set_option linter.unusedVariables false
set_option linter.unusedSimpArgs false

theorem rises_iff (l : List Int) : Cut.Rises l ↔ ∀ j, j + 1 < l.length → l.getD j 0 < l.getD (j + 1) 0 := by
  have e : ∀ j (h : j < l.length), l.getD j 0 = l[j] := fun j h => by rw [List.getD_eq_getElem?_getD, List.getElem?_eq_getElem h]; rfl
  unfold Cut.Rises
  rw [List.pairwise_iff_getElem]
  constructor
  · intro h j hj
    rw [e j (by omega), e (j + 1) hj]
    exact h j (j + 1) (by omega) hj (by omega)
  · intro h i j hi hj hij
    have key : ∀ d, i + d + 1 < l.length → l.getD i 0 < l.getD (i + d + 1) 0 := by
      intro d
      induction d with
      | zero => intro hd; exact h i hd
      | succ d ih =>
        intro hd
        have h1 := ih (by omega)
        have h2 := h (i + d + 1) hd
        exact Int.lt_trans h1 h2
    have := key (j - i - 1) (by omega)
    rw [show i + (j - i - 1) + 1 = j by omega, e i hi, e j hj] at this
    exact this
/-- as far as k they rise -/
def RiseTo (l : List Int) (k : Nat) : Prop := ∀ j, j < k → l.getD j 0 < l.getD (j + 1) 0
theorem riseTo_all {l : List Int} {k : Nat} (h : RiseTo l k) (hk : l.length ≤ k + 1) : Cut.Rises l := (rises_iff l).2 fun j hj => h j (by omega)
theorem riseTo_next {l : List Int} {k : Nat} (h : RiseTo l k) (hk : l.getD k 0 < l.getD (k + 1) 0) : RiseTo l (k + 1) := fun j hj => by
  by_cases e : j = k
  · subst e; exact hk
  · exact h j (by omega)
theorem rises_not {l : List Int} {k : Nat} (hk : k + 1 < l.length) (h : l.getD (k + 1) 0 ≤ l.getD k 0) : ¬ Cut.Rises l := fun hr => by have := (rises_iff l).1 hr k hk; omega
theorem add_one_add (a : Addr) (k : Nat) : a.add (k + 1) = ⟨a.block, a.off + 1 + k, none⟩ := by
  unfold Addr.add
  rw [if_neg (by omega)]
  congr 1
  omega
set_option maxRecDepth 100000 in
set_option maxHeartbeats 2000000 in
theorem crises_any (A : Option Addr) (c : Nat) (l : List Int) (w : World) (hr : Rd w 1 A l.length c (ints l)) (hn : l.length ≤ 1000000) :
    Calls Tryd.prog 34 #[.slice A l.length c] w fun r w' => r = .returned (.bool (decide (Cut.Rises l))) ∧ Below w.heap.size w w' := by
  obtain ⟨r, hrr⟩ : ∃ r, decide (Cut.Rises l) = r := ⟨_, rfl⟩
  have HR := Lib.hid hrr
  rw [hrr]
  have HA := Lib.hid hr
  obtain ⟨n, hnn⟩ : ∃ n, l.length = n := ⟨_, rfl⟩
  have HN := Lib.hid hnn
  rw [hnn] at hn ⊢
  have hcap := hr.cap
  rw [hnn] at hcap
  clear hrr hnn
  by_cases h0 : n = 0
  · have hr1 : r = true := by
      rw [← HR.out]
      exact decide_eq_true (riseTo_all (k := 0) (fun j hj => absurd hj (by omega)) (by rw [HN.out]; omega))
    have H1 := Lib.hid hr1
    subst h0
    clear hr hr1 hcap
    cases A with
    | none =>
      have hc : c = 0 := HA.out.nil rfl
      subst hc
      go_enter Tryd.func34, Tryd.ntmps34
      go_wp2_with fail
      go_loop [11] (fun i => i = .int .i64 0) (fun _ => 0)
      case atStart => rfl
      case round =>
        subst hrel
        go_wp2_with fail
        go_ret
        exact ⟨by rw [H1.out]; rfl, Below.refl _ _⟩
    | some a =>
      go_enter Tryd.func34, Tryd.ntmps34
      go_wp2_with fail
      go_loop [11] (fun i => i = .int .i64 0) (fun _ => 0)
      case atStart => rfl
      case round =>
        subst hrel
        go_wp2_with fail
        go_ret
        exact ⟨by rw [H1.out]; rfl, Below.refl _ _⟩
  obtain ⟨m, rfl⟩ : ∃ m, n = m + 1 := ⟨n - 1, by omega⟩
  obtain ⟨a, hA, -, -⟩ := hr.int (k := 0) (by rw [HN.out]; omega)
  subst hA
  clear hr h0
  have hmin : (if ((m : Int) + 1) < 1 then ((m : Int) + 1) else 1) = 1 := if_neg (by omega)
  have hm0 : ¬ (m : Int) + 1 < 1 := by omega
  have hm1 : (1 : Int) ≤ (m : Int) + 1 := by omega
  by_cases hc1 : c = 1
  · have hm : m = 0 := by omega
    have hr1 : r = true := by
      rw [← HR.out]
      exact decide_eq_true (riseTo_all (k := 0) (fun j hj => absurd hj (by omega)) (by rw [HN.out]; omega))
    have H1 := Lib.hid hr1
    subst hm hc1
    clear hr1 hcap hmin hm0 hm1
    go_enter Tryd.func34, Tryd.ntmps34
    go_wp2_with fail
    go_loop [11] (fun i => i = .int .i64 0) (fun _ => 0)
    case atStart => rfl
    case round =>
      subst hrel
      go_wp2_with fail
      go_ret
      exact ⟨by rw [H1.out]; rfl, Below.refl _ _⟩
  have hc2 : ¬ 1 = c := fun h => hc1 h.symm
  go_enter Tryd.func34, Tryd.ntmps34
  go_wp2_with fail
  go_loopw [11] (fun i wx => ∃ k : Nat, k ≤ m ∧ i = .int .i64 (k : Int) ∧ RiseTo l k ∧ Below w.heap.size w wx) (fun i _ => m - (intOf i).toNat)
  case atStart => exact ⟨0, by omega, rfl, fun j hj => absurd hj (by omega), Below.refl _ _⟩
  case round =>
    obtain ⟨k, hk, rfl, ht, hB⟩ := hrel
    have HT := Lib.hid ht
    have B1 := Lib.hid hB
    clear ht hB hmin
    by_cases hlt : k < m
    case neg =>
      obtain rfl : k = m := by omega
      have hr1 : r = true := by
        rw [← HR.out]
        exact decide_eq_true (riseTo_all HT.out (by rw [HN.out]; exact Nat.le_refl _))
      have H1 := Lib.hid hr1
      clear hr1
      go_wp2_with fail
      go_ret
      exact ⟨by rw [H1.out]; rfl, B1.out⟩
    obtain ⟨a1, e1, -, d0⟩ := (HA.out.later B1.out).int (k := k) (by rw [HN.out]; omega)
    obtain ⟨a2, e2, -, d1⟩ := (HA.out.later B1.out).int (k := k + 1) (by rw [HN.out]; omega)
    obtain rfl := Option.some.inj e1
    obtain rfl := Option.some.inj e2
    rw [add_one_add] at d1
    have hnot : l.getD (k + 1) 0 ≤ l.getD k 0 → r = false := fun h => by
      rw [← HR.out]; exact decide_eq_false (rises_not (by rw [HN.out]; omega) h)
    have hnx : l.getD k 0 < l.getD (k + 1) 0 → RiseTo l (k + 1) := fun h => riseTo_next HT.out h
    have HNOT := Lib.hid hnot
    have HNX := Lib.hid hnx
    clear hnot hnx e1 e2
    generalize l.getD k 0 = x at d0 HNOT HNX
    generalize l.getD (k + 1) 0 = y at d1 HNOT HNX
    by_cases hxy : y ≤ x
    · have HF := Lib.hid (HNOT.out hxy)
      go_wp2_with fail
      go_ret
      exact ⟨by rw [HF.out]; rfl, B1.out⟩
    · have HF := Lib.hid (HNX.out (by omega))
      go_wp2_with fail
      go_roundw
      case rel => exact ⟨k + 1, by omega, by go_num, HF.out, B1.out⟩
      case measure => simp [intOf]; omega
set_option maxRecDepth 100000 in
theorem rows_any (n : Nat) (w : World) (hn : n ≤ 6) :
    Calls Tryd.prog 52 #[.int .i64 (n : Int)] w fun r w' => r = .returned (.int .u64 (Cut.rows n : Int)) ∧ w = w' := by
  rcases (show n = 0 ∨ n = 1 ∨ n = 2 ∨ n = 3 ∨ n = 4 ∨ n = 5 ∨ n = 6 by omega) with rfl | rfl | rfl | rfl | rfl | rfl | rfl
  all_goals
    go_enter Tryd.func52, Tryd.ntmps52
    go_wp2_with fail
    go_ret
    exact ⟨by first | rfl | (simp [Cut.rows]), rfl⟩
end Go.Proofs.YtkhlllbceceikaaDoor
