/- filigreeref25.FewRows, FewGates. -/
import Derived.Test.YtebgihekgijpfaaGreatDoorZLRun
import Derived.Test.YtebgihekgijpfaaGreatDoorZBig
namespace Go.Proofs.YtebgihekgijpfaaGreatDoor
open Go.RowKit Go.Shelf
set_option linter.unusedVariables false
set_option linter.unusedSimpArgs false
def fewR (rows : List (List Bool)) : Prop := rows.length ≤ 12 ∧ ∀ r ∈ rows, r.length ≤ 400
instance (rows : List (List Bool)) : Decidable (fewR rows) := by unfold fewR; infer_instance
set_option maxRecDepth 100000 in
set_option maxHeartbeats 1000000 in
theorem fewRows25_any (A : Option Addr) (c : Nat) (l : List SB) (w : World) (ha : RowsB w A c l) :
    Calls Tryz.prog 24 #[.slice A l.length c] w fun r w' => r = .returned (.bool (decide (fewR (rowsP l)))) ∧ Below w.heap.size w w' := by
  have HA := Lib.hid ha
  obtain ⟨b, hb⟩ : ∃ b, decide (fewR (rowsP l)) = b := ⟨_, rfl⟩
  rw [hb]
  obtain ⟨n, hn⟩ : ∃ n, l.length = n := ⟨_, rfl⟩
  have HN := Lib.hid hn
  have hB := Lib.hid hb
  rw [hn]
  clear ha hb hn
  by_cases h12 : n ≤ 12
  case neg =>
    have HF := Lib.hid (show b = false by rw [← hB.out]; exact decide_eq_false fun h => by have := h.1; rw [rowsP_len, HN.out] at this; exact h12 this)
    have hd : (12 : Int) < (n : Int) := by omega
    clear h12
    go_enter Tryz.func24, Tryz.ntmps24
    go_wp2_with fail
    go_ret
    exact ⟨by rw [HF.out]; rfl, Below.refl _ _⟩
  have hd : ¬ (12 : Int) < (n : Int) := by omega
  go_enter Tryz.func24, Tryz.ntmps24
  go_wp2_with fail
  go_loopw [3] (fun v3 wx => ∃ i : Nat, i ≤ n ∧ v3 = .int .i64 (i : Int) ∧ (∀ j, j < i → ((rowsP l).getD j []).length ≤ 400) ∧ Below w.heap.size w wx) (fun v3 _ => n - (intOf v3).toNat)
  case atStart => exact ⟨0, by omega, rfl, fun j hj => absurd hj (Nat.not_lt_zero _), Below.refl _ _⟩
  case round =>
    obtain ⟨i, hi, rfl, hg, hB'⟩ := hrel
    have B1 := Lib.hid hB'
    have HG := Lib.hid hg
    clear hB' hg
    by_cases hin : i < n
    case neg =>
      have hlt : ¬ (i : Int) < (n : Int) := by omega
      go_wp2_with fail
      go_ret
      refine ⟨?_, B1.out⟩
      have hf : b = true := by
        rw [← hB.out]
        refine decide_eq_true ⟨by rw [rowsP_len, HN.out]; exact h12, fun r hr => ?_⟩
        obtain ⟨j, hj, rfl⟩ := List.mem_iff_getElem.1 hr
        have h := HG.out j (by rw [rowsP_len, HN.out] at hj; omega)
        rw [List.getD_eq_getElem?_getD, List.getElem?_eq_getElem hj] at h
        exact h
      rw [hf]; rfl
    have hin' : (i : Int) < (n : Int) := by omega
    have hil : i < l.length := by rw [HN.out]; exact hin
    obtain ⟨a, hA, hab, d0, -⟩ := (HA.out.later B1.out).at_ hil
    have hge := rowsP_at hil
    have hbad : ¬ l[i].2.2.length ≤ 400 → b = false := fun h => by
      rw [← hB.out]
      refine decide_eq_false fun hf => h ?_
      have := hf.2 _ (List.getElem_mem (by rw [rowsP_len]; exact hil) : (rowsP l)[i]'(by rw [rowsP_len]; exact hil) ∈ rowsP l)
      rw [List.getD_eq_getElem?_getD, List.getElem?_eq_getElem (by rw [rowsP_len]; exact hil)] at hge
      rw [← hge]; exact this
    have HBAD := Lib.hid hbad
    have HGE := Lib.hid hge
    subst hA
    clear hbad hge
    generalize l[i] = x at d0 HBAD HGE
    obtain ⟨x1, x2, x3⟩ := x
    simp only [slvB] at d0 HBAD HGE
    have hl3 := x3.length
    by_cases h4 : x3.length ≤ 400
    case neg =>
      have HF := Lib.hid (HBAD.out h4)
      have hd4 : (400 : Int) < (x3.length : Int) := by omega
      clear h4
      go_wp2_with fail
      go_ret
      exact ⟨by rw [HF.out]; rfl, B1.out⟩
    have HN4 := Lib.hid (show ∀ j, j < i + 1 → ((rowsP l).getD j []).length ≤ 400 from fun j hj => by
      rcases Nat.lt_succ_iff_lt_or_eq.1 hj with h | rfl
      · exact HG.out j h
      · rw [HGE.out]; exact h4)
    have hd4 : ¬ (400 : Int) < (x3.length : Int) := by omega
    clear h4
    go_wp2_with fail
    go_roundw
    case rel => exact ⟨i + 1, by omega, by go_num, HN4.out, B1.out⟩
    case measure => simp [intOf]; omega
def fewG25 (G : AG) : Prop := (G.I ≤ 60 ∨ 65536 < G.I) ∧ G.fl.length ≤ 60 ∧ G.an.length ≤ 120 ∧ G.ou.length ≤ 60
instance (G : AG) : Decidable (fewG25 G) := by unfold fewG25; infer_instance
set_option maxRecDepth 100000 in
set_option maxHeartbeats 1000000 in
theorem fewGates25_any (G : AG) (w : World) :
    Calls Tryz.prog 9 #[.agg #[.int .i64 G.I, .slice G.AF G.fl.length G.cF, .slice G.AA G.an.length G.cA, .slice G.AO G.ou.length G.cO]] w fun e w' => e = .returned (.bool (decide (fewG25 G))) ∧ Below w.heap.size w w' := by
  have Q0 := Lib.hid (below_new w (.cells #[.int .i64 G.I, .slice G.AF G.fl.length G.cF, .slice G.AA G.an.length G.cA, .slice G.AO G.ou.length G.cO] 26))
  have X0 := Blk.made w 26 #[.int .i64 G.I, .slice G.AF G.fl.length G.cF, .slice G.AA G.an.length G.cA, .slice G.AO G.ou.length G.cO]
  have k0 := X0.cell 0
  have k1 := X0.cell 1
  have k2 := X0.cell 2
  have k3 := X0.cell 3
  unfold fewG25
  obtain ⟨b, hb⟩ : ∃ b, decide ((G.I ≤ 60 ∨ 65536 < G.I) ∧ G.fl.length ≤ 60 ∧ G.an.length ≤ 120 ∧ G.ou.length ≤ 60) = b := ⟨_, rfl⟩
  rw [hb]
  have HB := Lib.hid hb
  clear hb X0
  go_enter Tryz.func9, Tryz.ntmps9
  go_wp2_with fail
  all_goals
    go_ret
    refine ⟨?_, Q0.out⟩
    rw [← HB.out]
    simp <;> (first | omega | (rw [Bool.eq_iff_iff]; simp only [Bool.and_eq_true, Bool.or_eq_true, decide_eq_true_eq]; omega))
end Go.Proofs.YtebgihekgijpfaaGreatDoor
