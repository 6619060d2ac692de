/- Walks of filigree/fabric: node, Out, In, Pad, Hor, Ver, Pads. -/
import Derived.Test.YtakccepilbmmlaaFabC
import Derived.BigQuiet
import Derived.Deep.QuietTactic
namespace Go.Proofs.Ytakccepilbmmlaa
open Go.RowKit
set_option linter.unusedVariables false
set_option linter.unusedSimpArgs false


theorem node_no (W H T kd x y t : Int) (w : World) (h : ¬ okA W H T) :
    Calls Try.prog 51 #[.agg #[.int .i64 W, .int .i64 H, .int .i64 T], .int .i64 kd, .int .i64 x, .int .i64 y, .int .i64 t] w fun e w' => e = .returned (pairV 0 1) ∧ Below w.heap.size w w' := by
  go_enter Try.func51, Try.ntmps51
  go_wp2_with (go_at_call 48; refine (check_no W H T _ h).mono ?_; rintro e w1 ⟨rfl, hb1⟩)
  go_ret2
  exact ⟨rfl, ((Below.refl _ _).alloc (Nat.le_refl _) _).trans (hb1.mono (by simp))⟩

set_option maxHeartbeats 400000 in
theorem node_kind (W H T kd x y t : Int) (w : World) (h : okA W H T) (hkd : kd < 1 ∨ 5 < kd) :
    Calls Try.prog 51 #[.agg #[.int .i64 W, .int .i64 H, .int .i64 T], .int .i64 kd, .int .i64 x, .int .i64 y, .int .i64 t] w fun e w' => e = .returned (pairV 0 1) ∧ Below w.heap.size w w' := by
  have HK := Lib.hid hkd
  clear hkd
  go_enter Try.func51, Try.ntmps51
  go_wp2_with (first
    | (go_at_call 48; refine (check_yes W H T _ h).mono ?_; rintro e w1 ⟨rfl, hb1⟩; obtain ⟨hc1, hf1⟩ := bcell hb1)
    | (go_at_call 58; refine (grids_ok W H T _ h).mono ?_; rintro e w2 ⟨rfl, hb2⟩))
  clear hc1 hf1
  have hB : Below w.heap.size w w2 := (((Below.refl _ _).alloc (Nat.le_refl _) _).trans (hb1.mono (by simp))).trans (hb2.mono (by have := hb1.size; simp at this; omega))
  clear hb1 hb2
  have H0 := Lib.hid h
  clear h
  go_loopw [12, 20] (fun n i wr => ∃ k : Nat, k ≤ 5 ∧ i = .int .i64 (k : Int) ∧ n = .int .i64 (gat W H T k) ∧ Below w.heap.size w wr) (fun _ i _ => 5 - (intOf i).toNat)
  case atStart => exact ⟨0, by omega, rfl, rfl, hB⟩
  case round =>
    obtain ⟨k, hk, rfl, rfl, hbr⟩ := hrel
    by_cases hlt : k < 5
    · have hix := grid_at W H T hlt
      have hq := g_bd2 H0.out hlt
      have hq2 := gat_bd H0.out hk
      have hne : ((k : Int) + 1 == kd) = false := by have := HK.out; simp; omega
      go_wp2_with (go_at_call 59; refine (many_any _ _ _ _ _ (by omega) (by omega) (by omega) (by omega)).mono ?_; rintro e w3 ⟨rfl, hb3⟩)
      go_roundw
      case rel => exact ⟨k + 1, by omega, by go_num, rfl, (hbr.alloc hbr.size _).trans (hb3.mono (by have := hbr.size; simp; omega))⟩
      case measure => simp [intOf]; omega
    · obtain rfl : k = 5 := by omega
      go_wp2
      go_ret2
      exact ⟨rfl, hbr⟩

set_option maxHeartbeats 400000 in
theorem node_core (W H T x y t : Int) (c : Nat) (w : World) (h : okA W H T) (hc : c < 5) :
    Calls Try.prog 51 #[.agg #[.int .i64 W, .int .i64 H, .int .i64 T], .int .i64 ((c : Int) + 1), .int .i64 x, .int .i64 y, .int .i64 t] w fun e w' => e = .returned (if inG W H T c x y t then pairV (nodeAt W H T c x y t) 0 else pairV 0 1) ∧ Below w.heap.size w w' := by
  obtain ⟨m, hm⟩ : ∃ m, (if t < (if y < x then y else x) then t else (if y < x then y else x)) = m := ⟨_, rfl⟩
  have HM := Lib.hid hm
  go_enter Try.func51, Try.ntmps51
  go_wp2_with (first
    | (go_at_call 48; refine (check_yes W H T _ h).mono ?_; rintro e w1 ⟨rfl, hb1⟩; obtain ⟨hc1, hf1⟩ := bcell hb1)
    | (go_at_call 58; refine (grids_ok W H T _ h).mono ?_; rintro e w2 ⟨rfl, hb2⟩))
  clear hc1 hf1
  have hB : Below w.heap.size w w2 := (((Below.refl _ _).alloc (Nat.le_refl _) _).trans (hb1.mono (by simp))).trans (hb2.mono (by have := hb1.size; simp at this; omega))
  clear hb1 hb2
  have H0 := Lib.hid h
  clear h
  go_loopw [12, 20] (fun n i wr => ∃ k : Nat, k ≤ c ∧ i = .int .i64 (k : Int) ∧ n = .int .i64 (gat W H T k) ∧ Below w.heap.size w wr) (fun _ i _ => 5 - (intOf i).toNat)
  case atStart => exact ⟨0, by omega, rfl, rfl, hB⟩
  case round =>
    obtain ⟨k, hk, rfl, rfl, hbr⟩ := hrel
    have hlt : k < 5 := by omega
    have hix := grid_at W H T hlt
    have hq := g_bd2 H0.out hlt
    have hq2 := gat_bd H0.out (k := k) (by omega)
    by_cases hkc : k < c
    · have hne : ((k : Int) + 1 == (c : Int) + 1) = false := by simp; omega
      go_wp2_with (go_at_call 59; refine (many_any _ _ _ _ _ (by omega) (by omega) (by omega) (by omega)).mono ?_; rintro e w3 ⟨rfl, hb3⟩)
      go_roundw
      case rel => exact ⟨k + 1, by omega, by go_num, rfl, (hbr.alloc hbr.size _).trans (hb3.mono (by have := hbr.size; simp; omega))⟩
      case measure => simp [intOf]; omega
    · obtain rfl : k = c := by omega
      clear hkc
      have hbb := hbr.alloc hbr.size (.cells #[.int .i64 ((k : Int) + 1), .int .i64 (gw W H k), .int .i64 (gh H k), .int .i64 (gd T k)] 83)
      by_cases c1 : m < 0
      · have hno : ¬ inG W H T k x y t := by have := HM.out; unfold inG; split at this <;> split at this <;> omega
        have HN := Lib.hid hno
        clear hno
        go_wp2
        go_ret2
        exact ⟨rfl, hbb⟩
      · have hx0 : 0 ≤ x ∧ 0 ≤ y ∧ 0 ≤ t := by have := HM.out; split at this <;> split at this <;> omega
        by_cases c2 : gw W H k ≤ x
        · have HN := Lib.hid (show ¬ inG W H T k x y t from by unfold inG; omega)
          go_wp2
          go_ret2
          exact ⟨rfl, hbb⟩
        · by_cases c3 : gh H k ≤ y
          · have HN := Lib.hid (show ¬ inG W H T k x y t from by unfold inG; omega)
            go_wp2
            go_ret2
            exact ⟨rfl, hbb⟩
          · by_cases c4 : gd T k ≤ t
            · have HN := Lib.hid (show ¬ inG W H T k x y t from by unfold inG; omega)
              go_wp2
              go_ret2
              exact ⟨rfl, hbb⟩
            · have HN := Lib.hid (show inG W H T k x y t from by unfold inG; omega)
              have r1 := row_lt (a := gw W H k) (b := gh H k) hx0.1 (by omega) hx0.2.1 (by omega)
              have r2 := row_lt (a := gd T k) (b := gw W H k * gh H k) hx0.2.2 (by omega) r1.1 r1.2
              have r3 : 0 ≤ y * gw W H k := Int.mul_nonneg hx0.2.1 (by have := g_bd H0.out hlt; omega)
              rw [Int.mul_comm (gd T k)] at r2
              have r4 : 0 ≤ (y * gw W H k + x) * gd T k := Int.mul_nonneg r1.1 (by have := g_bd H0.out hlt; omega)
              go_wp2
              go_ret2
              exact ⟨rfl, hbb⟩
end Go.Proofs.Ytakccepilbmmlaa
