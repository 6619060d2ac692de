/- filigreeref24.rises, leaves, full, turned. -/
import Derived.Test.YtkhlllbceceikaaDoorColT
namespace Go.Proofs.YtkhlllbceceikaaDoor
open Go.RowKit
set_option linter.unusedVariables false
set_option linter.unusedSimpArgs false

set_option maxRecDepth 100000 in
set_option maxHeartbeats 1000000 in
theorem rrises_any (A : Option Addr) (c : Nat) (l : List Int) (w : World) (hr : Rd w 1 A l.length c (ints l)) (hn : l.length ≤ 1000000) :
    Calls Tryd.prog 42 #[.slice A l.length c] w fun r w' => r = .returned (.bool (decide (Cut.Rises l))) ∧ Below w.heap.size w w' := by
  obtain ⟨r, hrr⟩ : ∃ r, decide (Cut.Rises l) = r := ⟨_, rfl⟩
  have HR := Lib.hid hrr
  rw [hrr]
  have HA := Lib.hid hr
  obtain ⟨n, hnn⟩ : ∃ n, l.length = n := ⟨_, rfl⟩
  have HN := Lib.hid hnn
  rw [hnn] at hn ⊢
  clear hrr hnn hr
  go_enter Tryd.func42, Tryd.ntmps42
  go_wp2_with fail
  go_loopw [3] (fun i wx => ∃ k j : Nat, (k + 1 ≤ n ∨ k = 0) ∧ k + 1 = j ∧ i = .int .i64 (j : Int) ∧ RiseTo l k ∧ Below w.heap.size w wx) (fun i _ => n + 1 - (intOf i).toNat)
  case atStart => exact ⟨0, 1, by omega, rfl, rfl, fun j hj => absurd hj (by omega), Below.refl _ _⟩
  case round =>
    obtain ⟨k, m, hk, hm, rfl, ht, hB⟩ := hrel
    have HM := Lib.hid hm
    have HT := Lib.hid ht
    have B1 := Lib.hid hB
    clear ht hB
    by_cases hlt : m < n
    case neg =>
      have hr1 : r = true := by
        rw [← HR.out]
        exact decide_eq_true (riseTo_all HT.out (by rw [HN.out]; omega))
      have H1 := Lib.hid hr1
      have hlt' : ¬ (m : Int) < (n : Int) := by omega
      clear hr1
      go_wp2_with fail
      go_ret
      exact ⟨by rw [H1.out]; rfl, B1.out⟩
    obtain ⟨a, hA, hab, d0⟩ := (HA.out.later B1.out).int (k := k) (by rw [HN.out]; omega)
    obtain ⟨a2, e2, -, d1⟩ := (HA.out.later B1.out).int (k := m) (by rw [HN.out]; omega)
    subst hA
    obtain rfl := Option.some.inj e2
    have hnot : l.getD m 0 ≤ l.getD k 0 → r = false := fun h => by
      rw [← HR.out]; rw [← hm] at h; exact decide_eq_false (rises_not (by rw [HN.out]; omega) h)
    have hnx : l.getD k 0 < l.getD m 0 → RiseTo l m := fun h => by rw [← hm] at h ⊢; exact riseTo_next HT.out h
    have HNOT := Lib.hid hnot
    have HNX := Lib.hid hnx
    have hlt' : (m : Int) < (n : Int) := by omega
    have hk0 : (m : Int) - 1 = (k : Int) := by omega
    have hkb : (k : Int) < (n : Int) := by omega
    have hkw : IntKind.i64.wrap (k : Int) = (k : Int) := IntWalk.i64_in _ (by omega)
    clear hnot hnx e2 hm
    generalize l.getD k 0 = x at d0 HNOT HNX
    generalize l.getD m 0 = y at d1 HNOT HNX
    by_cases hxy : y ≤ x
    · have HF := Lib.hid (HNOT.out hxy)
      go_wp2_with fail
      go_quiet (fail)
      go_wp2_with fail
      go_ret
      exact ⟨by rw [HF.out]; rfl, below_drewN B1.out _⟩
    · have HF := Lib.hid (HNX.out (by omega))
      go_wp2_with fail
      go_quiet (fail)
      go_wp2_with fail
      go_roundw
      case rel => exact ⟨m, m + 1, by have := HM.out; omega, rfl, by go_num, HF.out, below_drewN B1.out _⟩
      case measure => have := HM.out; simp [intOf]; omega
/-- are they leaves, c being the last node -/
def leavesB (c : Int) (l : List Int) : Bool := decide (l.length ≤ 6) && decide (Cut.Rises l) && (decide (l.length = 0) || decide (1 ≤ l.getD 0 0) && decide (l.getD (l.length - 1) 0 ≤ c))
set_option maxRecDepth 100000 in
set_option maxHeartbeats 2000000 in
theorem leaves_any (G : AG) (A : Option Addr) (c : Nat) (l : List Int) (w : World) (hr : Rd w 1 A l.length c (ints l)) (hn : l.length ≤ 1000000) (hi : 0 ≤ G.I) (hf : G.fit) :
    Calls Tryd.prog 37 #[.agg #[.int .i64 G.I, .slice G.AF G.fl.length G.cF, .slice G.AA G.an.length G.cA, .slice G.AO G.ou.length G.cO], .slice A l.length c] w fun r w' => r = .returned (.bool (leavesB G.cnt l)) ∧ Below w.heap.size w w' := by
  obtain ⟨r, hrr⟩ : ∃ r, leavesB G.cnt l = r := ⟨_, rfl⟩
  have HR := Lib.hid hrr
  rw [hrr]
  have X1 := Lib.hid (Blk.made w 26 #[.int .i64 G.I, .slice G.AF G.fl.length G.cF, .slice G.AA G.an.length G.cA, .slice G.AO G.ou.length G.cO])
  have B5 := Lib.hid (below_new w (.cells #[.int .i64 G.I, .slice G.AF G.fl.length G.cF, .slice G.AA G.an.length G.cA, .slice G.AO G.ou.length G.cO] 26))
  have HIN := Lib.hid hr
  have HRI := Lib.hid (fun (W : World) (hB : Below w.heap.size w W) => rrises_any A c l W (hr.later hB) hn)
  have HCO := Lib.hid (fun (W : World) => rcount_any G W hi hf)
  obtain ⟨AF, hAF⟩ : ∃ A, G.AF = A := ⟨_, rfl⟩
  obtain ⟨AA, hAA⟩ : ∃ A, G.AA = A := ⟨_, rfl⟩
  obtain ⟨AO, hAO⟩ : ∃ A, G.AO = A := ⟨_, rfl⟩
  obtain ⟨ct, hct⟩ : ∃ c, G.cnt = c := ⟨_, rfl⟩
  rw [hAF, hAA, hAO, hct] at HCO
  rw [hAF, hAA, hAO] at X1 B5 ⊢
  have hz := X1.out.lt
  have c0 := X1.out.cell 0
  have c1 := X1.out.cell 1
  have c2 := X1.out.cell 2
  have c3 := X1.out.cell 3
  have hct1 : 0 ≤ ct ∧ ct ≤ 10000 := by have := hf.i; have := hf.f; have := hf.a; rw [← hct]; unfold AG.cnt; omega
  obtain ⟨hct1, hct2⟩ := hct1
  rw [hct] at HR
  clear hr hrr hi hf hAF hAA hAO hct
  obtain ⟨n, hnn⟩ : ∃ n, l.length = n := ⟨_, rfl⟩
  have HN := Lib.hid hnn
  rw [hnn] at HIN HRI ⊢
  rw [hnn] at hn
  clear hnn
  have hS := HIN.out.later B5.out
  have HS := Lib.hid hS
  clear hS
  by_cases hn6 : n ≤ 6
  case neg =>
    have h1 : r = false := by rw [← HR.out]; simp [leavesB, HN.out, hn6]
    have H1 := Lib.hid h1
    have g1 : ¬ (n : Int) ≤ 6 := by omega
    have g2 : decide ((n : Int) ≤ 6) = false := decide_eq_false g1
    clear h1
    go_enter Tryd.func37, Tryd.ntmps37
    go_wp2_with fail
    refine wp_region_still_in (by kernel_rfl) (by kernel_rfl) fun St9 ne9 V9 hV9 hS9 => ?_
    have qc0 := still_cell hV9 c0
    have qc1 := still_cell hV9 c1
    have qc2 := still_cell hV9 c2
    have qc3 := still_cell hV9 c3
    repeat (first | go_big_quiet_step (first | (go_at_call 42; exact Calls.still hV9 hS9 (HRI.out _ (below_then B5.out (hV9 _)))) | (go_at_call 27; exact Calls.still hV9 hS9 (HCO.out _))) | quiet_step (first | (go_at_call 42; exact Calls.still hV9 hS9 (HRI.out _ (below_then B5.out (hV9 _)))) | (go_at_call 27; exact Calls.still hV9 hS9 (HCO.out _))))
    refine wpQuiet_nil ?_
    intro _ hw9
    obtain ⟨s9, rfl⟩ := hw9
    have hb9 := hV9 s9
    clear qc0 qc1 qc2 qc3 hS9
    generalize V9 s9 = w9 at hb9 ⊢
    clear hV9 s9 V9 ne9 St9
    go_wp2_with fail
    go_ret
    exact ⟨by rw [H1.out]; rfl, below_then B5.out hb9⟩
  have g1 : (n : Int) ≤ 6 := by omega
  have g1' : decide ((n : Int) ≤ 6) = true := decide_eq_true g1
  cases hri : decide (Cut.Rises l) with
  | false =>
    have h1 : r = false := by rw [← HR.out]; simp [leavesB, HN.out, hn6, hri]
    have H1 := Lib.hid h1
    rw [hri] at HRI
    clear h1 hri
    go_enter Tryd.func37, Tryd.ntmps37
    go_wp2_with fail
    refine wp_region_still_in (by kernel_rfl) (by kernel_rfl) fun St9 ne9 V9 hV9 hS9 => ?_
    have qc0 := still_cell hV9 c0
    have qc1 := still_cell hV9 c1
    have qc2 := still_cell hV9 c2
    have qc3 := still_cell hV9 c3
    repeat (first | go_big_quiet_step (first | (go_at_call 42; exact Calls.still hV9 hS9 (HRI.out _ (below_then B5.out (hV9 _)))) | (go_at_call 27; exact Calls.still hV9 hS9 (HCO.out _))) | quiet_step (first | (go_at_call 42; exact Calls.still hV9 hS9 (HRI.out _ (below_then B5.out (hV9 _)))) | (go_at_call 27; exact Calls.still hV9 hS9 (HCO.out _))))
    refine wpQuiet_nil ?_
    intro _ hw9
    obtain ⟨s9, rfl⟩ := hw9
    have hb9 := hV9 s9
    clear qc0 qc1 qc2 qc3 hS9
    generalize V9 s9 = w9 at hb9 ⊢
    clear hV9 s9 V9 ne9 St9
    go_wp2_with fail
    go_ret
    exact ⟨by rw [H1.out]; rfl, below_then B5.out hb9⟩
  | true =>
    rw [hri] at HRI
    by_cases hn0 : n = 0
    · have h1 : r = true := by rw [← HR.out]; simp [leavesB, HN.out, hn6, hri, hn0]
      have H1 := Lib.hid h1
      have g3 : ((n : Int) == 0) = true := by simp; omega
      clear h1 hri hn0
      go_enter Tryd.func37, Tryd.ntmps37
      go_wp2_with fail
      refine wp_region_still_in (by kernel_rfl) (by kernel_rfl) fun St9 ne9 V9 hV9 hS9 => ?_
      have qc0 := still_cell hV9 c0
      have qc1 := still_cell hV9 c1
      have qc2 := still_cell hV9 c2
      have qc3 := still_cell hV9 c3
      repeat (first | go_big_quiet_step (first | (go_at_call 42; exact Calls.still hV9 hS9 (HRI.out _ (below_then B5.out (hV9 _)))) | (go_at_call 27; exact Calls.still hV9 hS9 (HCO.out _))) | quiet_step (first | (go_at_call 42; exact Calls.still hV9 hS9 (HRI.out _ (below_then B5.out (hV9 _)))) | (go_at_call 27; exact Calls.still hV9 hS9 (HCO.out _))))
      refine wpQuiet_nil ?_
      intro _ hw9
      obtain ⟨s9, rfl⟩ := hw9
      have hb9 := hV9 s9
      clear qc0 qc1 qc2 qc3 hS9
      generalize V9 s9 = w9 at hb9 ⊢
      clear hV9 s9 V9 ne9 St9
      go_wp2_with fail
      go_ret
      exact ⟨by rw [H1.out]; rfl, below_then B5.out hb9⟩
    obtain ⟨a, hA, hab, d0⟩ := HS.out.int (k := 0) (by omega)
    obtain ⟨a2, e2, -, d1⟩ := HS.out.int (k := n - 1) (by omega)
    subst hA
    obtain rfl := Option.some.inj e2
    clear e2
    obtain ⟨m, hm⟩ : ∃ m, n - 1 = m := ⟨_, rfl⟩
    have hm1 : (n : Int) - 1 = (m : Int) := by omega
    have hm2 : IntKind.i64.wrap (m : Int) = (m : Int) := IntWalk.i64_in _ (by omega)
    have hmn : m < n := by omega
    have hmn' : (m : Int) < (n : Int) := by omega
    have hn1 : 0 < n := by omega
    have hn1' : (0 : Int) < (n : Int) := by omega
    have g3 : ¬ (n : Int) = 0 := by omega
    have g3' : ((n : Int) == 0) = false := by simp; omega
    have hval : r = (decide (1 ≤ l.getD 0 0) && decide (l.getD m 0 ≤ ct)) := by
      rw [← HR.out]; simp [leavesB, HN.out, hn6, hri, hn0, hm]
    have HVAL := Lib.hid hval
    rw [hm] at d1
    rw [show a.add 0 = a from if_pos rfl] at d0
    generalize l.getD 0 0 = x at d0 HVAL
    generalize l.getD m 0 = y at d1 HVAL
    clear hval hri hm hn0
    by_cases hx : 1 ≤ x
    case neg =>
      have h1 : r = false := by rw [HVAL.out]; simp [hx]
      have H1 := Lib.hid h1
      have g4 : decide (1 ≤ x) = false := decide_eq_false hx
      clear h1
      go_enter Tryd.func37, Tryd.ntmps37
      go_wp2_with fail
      refine wp_region_still_in (by kernel_rfl) (by kernel_rfl) fun St9 ne9 V9 hV9 hS9 => ?_
      have qc0 := still_cell hV9 c0
      have qc1 := still_cell hV9 c1
      have qc2 := still_cell hV9 c2
      have qc3 := still_cell hV9 c3
      have qd0 := still_cell hV9 d0
      repeat (first | go_big_quiet_step (first | (go_at_call 42; exact Calls.still hV9 hS9 (HRI.out _ (below_then B5.out (hV9 _)))) | (go_at_call 27; exact Calls.still hV9 hS9 (HCO.out _))) | quiet_step (first | (go_at_call 42; exact Calls.still hV9 hS9 (HRI.out _ (below_then B5.out (hV9 _)))) | (go_at_call 27; exact Calls.still hV9 hS9 (HCO.out _))))
      refine wpQuiet_nil ?_
      intro _ hw9
      obtain ⟨s9, rfl⟩ := hw9
      have hb9 := hV9 s9
      clear qc0 qc1 qc2 qc3 qd0 hS9
      generalize V9 s9 = w9 at hb9 ⊢
      clear hV9 s9 V9 ne9 St9
      go_wp2_with fail
      go_ret
      exact ⟨by rw [H1.out]; rfl, below_then B5.out hb9⟩
    have g4 : decide (1 ≤ x) = true := decide_eq_true hx
    by_cases hy : y ≤ ct
    case neg =>
      have h1 : r = false := by rw [HVAL.out]; simp [hy]
      have H1 := Lib.hid h1
      have g5 : ¬ y < 1 + ct := by omega
      have g6 : decide (y < 1 + ct) = false := decide_eq_false g5
      clear h1
      go_enter Tryd.func37, Tryd.ntmps37
      go_wp2_with fail
      refine wp_region_still_in (by kernel_rfl) (by kernel_rfl) fun St9 ne9 V9 hV9 hS9 => ?_
      have qc0 := still_cell hV9 c0
      have qc1 := still_cell hV9 c1
      have qc2 := still_cell hV9 c2
      have qc3 := still_cell hV9 c3
      have qd0 := still_cell hV9 d0
      have qd1 := still_cell hV9 d1
      repeat (first | go_big_quiet_step (first | (go_at_call 42; exact Calls.still hV9 hS9 (HRI.out _ (below_then B5.out (hV9 _)))) | (go_at_call 27; exact Calls.still hV9 hS9 (HCO.out _))) | quiet_step (first | (go_at_call 42; exact Calls.still hV9 hS9 (HRI.out _ (below_then B5.out (hV9 _)))) | (go_at_call 27; exact Calls.still hV9 hS9 (HCO.out _))))
      refine wpQuiet_nil ?_
      intro _ hw9
      obtain ⟨s9, rfl⟩ := hw9
      have hb9 := hV9 s9
      clear qc0 qc1 qc2 qc3 qd0 qd1 hS9
      generalize V9 s9 = w9 at hb9 ⊢
      clear hV9 s9 V9 ne9 St9
      go_wp2_with fail
      go_ret
      exact ⟨by rw [H1.out]; rfl, below_then B5.out hb9⟩
    have h1 : r = true := by rw [HVAL.out]; simp [hx, hy]
    have H1 := Lib.hid h1
    have g5 : y < 1 + ct := by omega
    have g6 : decide (y < 1 + ct) = true := decide_eq_true g5
    clear h1
    go_enter Tryd.func37, Tryd.ntmps37
    go_wp2_with fail
    refine wp_region_still_in (by kernel_rfl) (by kernel_rfl) fun St9 ne9 V9 hV9 hS9 => ?_
    have qc0 := still_cell hV9 c0
    have qc1 := still_cell hV9 c1
    have qc2 := still_cell hV9 c2
    have qc3 := still_cell hV9 c3
    have qd0 := still_cell hV9 d0
    have qd1 := still_cell hV9 d1
    repeat (first | go_big_quiet_step (first | (go_at_call 42; exact Calls.still hV9 hS9 (HRI.out _ (below_then B5.out (hV9 _)))) | (go_at_call 27; exact Calls.still hV9 hS9 (HCO.out _))) | quiet_step (first | (go_at_call 42; exact Calls.still hV9 hS9 (HRI.out _ (below_then B5.out (hV9 _)))) | (go_at_call 27; exact Calls.still hV9 hS9 (HCO.out _))))
    refine wpQuiet_nil ?_
    intro _ hw9
    obtain ⟨s9, rfl⟩ := hw9
    have hb9 := hV9 s9
    clear qc0 qc1 qc2 qc3 qd0 qd1 hS9
    generalize V9 s9 = w9 at hb9 ⊢
    clear hV9 s9 V9 ne9 St9
    go_wp2_with fail
    go_ret
    exact ⟨by rw [H1.out]; rfl, below_then B5.out hb9⟩
end Go.Proofs.YtkhlllbceceikaaDoor
