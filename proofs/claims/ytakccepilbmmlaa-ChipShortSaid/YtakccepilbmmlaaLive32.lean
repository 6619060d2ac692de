/- Walk of the laws' own 'live' of chapter 32. -/
import Derived.Test.YtakccepilbmmlaaBare
namespace Go.Proofs.Ytakccepilbmmlaa
open Go.RowKit
set_option linter.unusedVariables false
set_option linter.unusedSimpArgs false

theorem bare_ok (g1 g2 g3 : Nat) : (bareC g1 g2 g3).ok :=
  ⟨ok111, ⟨fun p hp => by simp [bareC] at hp; subst hp; simp [bareC], by simp [bareC]⟩, by simp [bareC], by simp only [bareC]; rw [edges111]; simp, by simp [bareC, oddB]⟩
theorem bare_few (g1 g2 g3 : Nat) : (bareC g1 g2 g3).few := by unfold Cfg.few; simp [bareC]
theorem joinAll_none (E : List (Int × Int)) (on : List Bool) (h : ∀ j, on.getD j false = false) : ∀ k, joinAll E on k = fun i => i
  | 0 => rfl
  | k + 1 => by simp only [joinAll]; rw [h k]; simpa using joinAll_none E on h k
theorem bare_joined (g1 g2 g3 : Nat) : joinedL (bareC g1 g2 g3) = List.range 13 := by
  have h : joinedR (bareC g1 g2 g3) = fun i => i := joinAll_none _ _ (fun j => by
    simp only [bareC, List.getD_eq_getElem?_getD, List.getElem?_replicate]; split <;> simp) _
  unfold joinedL
  rw [h]
  have : (nodesI (bareC g1 g2 g3).W (bareC g1 g2 g3).H (bareC g1 g2 g3).T).toNat = 13 := by simp only [bareC]; decide
  rw [this]
  simp
theorem joined_bare (g1 g2 g3 : Nat) (w : World) (hin : (bareC g1 g2 g3).In w) :
    Calls Try.prog 16 #[.agg #[.int .i64 1, .int .i64 1, .int .i64 1, .slice (some ⟨g1, 0, none⟩) 1 1, .slice (some ⟨g2, 0, none⟩) 16 16, .slice (some ⟨g3, 0, none⟩) 1 1, .slice none 0 0]] w fun e w' =>
      ∃ g, e = .returned (.tuple #[.slice (some ⟨g, 0, none⟩) 13 13, .int .i64 0]) ∧ Below w.heap.size w w' ∧ w'.ownsRow g 3 1 (.slice (some ⟨g, 0, none⟩) 13 13) 13 (nats (List.range 13)) := by
  refine Calls.mono (joined_yes (bareC g1 g2 g3) w hin (bare_few g1 g2 g3) (bare_ok g1 g2 g3)) ?_
  rintro e w' ⟨g, N, rfl, hN, hg, hb, hown⟩
  have hn : N = 13 := by
    have : nodesI (bareC g1 g2 g3).W (bareC g1 g2 g3).H (bareC g1 g2 g3).T = 13 := by simp only [bareC]; decide
    rw [this] at hN; omega
  subst hn
  rw [bare_joined] at hown
  exact ⟨g, rfl, hb, hown⟩

set_option maxRecDepth 100000 in
set_option maxHeartbeats 2000000 in
theorem live32_any (w : World) : Calls Try.prog 14 #[] w fun e w' => e = .returned (.bool true) ∧ Below w.heap.size w w' := by
  go_enter Try.func14, Try.ntmps14
  go_wp2_with fail
  refine (bare_any _).mono ?_
  rintro e w1 ⟨g1, g2, g3, rfl, hin, hb1⟩
  have HI := Lib.hid hin
  have HB1 := Lib.hid hb1
  clear hin hb1
  go_wp2_with fail
  refine (joined_bare g1 g2 g3 _ (HI.out.later (below_new w1 _))).mono ?_
  rintro e w2 ⟨g, rfl, hb2, hown⟩
  have HB2 := Lib.hid (below_then (below_then HB1.out (below_new w1 _)) hb2)
  have HO := Lib.hid hown
  clear hb2 hown
  go_wp2_with fail
  go_loop [29] (fun i => ∃ k : Nat, k ≤ 13 ∧ i = .int .i64 (k : Int)) (fun i => 13 - (intOf i).toNat)
  case atStart => exact ⟨0, by omega, rfl⟩
  case round =>
    obtain ⟨k, hk, rfl⟩ := hrel
    by_cases hlt : k < 13
    · have c0 : w2.cell? ⟨g, k, none⟩ = some (.int .i64 (k : Int)) := by
        rw [HO.out.cellAt k (by omega), nats_get _ (by simpa using hlt)]
        simp [List.getD_eq_getElem?_getD, List.getElem?_range hlt]
      go_wp2_with fail
      go_round
      case rel => exact ⟨k + 1, by omega, by go_num⟩
      case measure => simp [intOf]; omega
    · go_wp2_with fail
      go_ret
      exact ⟨rfl, HB2.out⟩
end Go.Proofs.Ytakccepilbmmlaa
