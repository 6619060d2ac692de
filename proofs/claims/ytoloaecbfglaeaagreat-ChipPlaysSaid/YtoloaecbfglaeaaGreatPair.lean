/- What filigree/chip.Drivers tells, in one form. -/
import Derived.Test.YtoloaecbfglaeaaGreatDrv
namespace Go.Proofs.YtoloaecbfglaeaaGreat
open Go.RowKit
set_option linter.unusedVariables false
set_option linter.unusedSimpArgs false

/-- a list, an error, as answers -/
def PairOut (L : List Int) (x : Int) (w : World) (e : Ending) (w' : World) : Prop :=
  ∃ A c, e = .returned (.tuple #[.slice A L.length c, .int .i64 x]) ∧ Below w.heap.size w w' ∧ Rd w' 1 A L.length c (ints L)
noncomputable def jL (C : Cfg) : List Int := if C.ok then labI C else []
def jE (C : Cfg) : Int := if C.ok then 0 else 1
noncomputable def dL (C : Cfg) : List Int := if C.ok ∧ (labs C).Nodup then driversL C else []
def dE (C : Cfg) : Int := if C.ok then (if (labs C).Nodup then 0 else 320) else 1
theorem pair_none {x : Int} {w w' : World} (hb : Below w.heap.size w w') : PairOut [] x w (.returned (.tuple #[.slice none 0 0, .int .i64 x])) w' := ⟨none, 0, rfl, hb, Rd.empty⟩
theorem joined_pair (C : Cfg) (w : World) (hin : C.In w) (hf : C.few) : JND C w (PairOut (jL C) (jE C) w) := by
  unfold jL jE
  by_cases h : C.ok
  · rw [if_pos h, if_pos h]
    refine Calls.mono (joined_yes C w hin hf h) fun e w' hd => ?_
    obtain ⟨g, N, rfl, hN, hg, hb, ho⟩ := hd
    rw [← labI_ints] at ho
    have hl : (labI C).length = N := by have := ho.1; rw [ints_length] at this; omega
    exact ⟨_, N, by rw [hl], hb, by rw [hl]; exact Rd.of_own ho⟩
  · rw [if_neg h, if_neg h]
    refine Calls.mono (joined_no C w hin hf h) fun e w' hd => ?_
    obtain ⟨rfl, hb⟩ := hd
    exact pair_none hb
theorem drivers_pair (C : Cfg) (w : World) (hin : C.In w) (hf : C.few) : DRV C w (PairOut (dL C) (dE C) w) := by
  unfold dL dE
  by_cases h : C.ok
  · rw [if_pos h]
    refine Calls.mono (drivers_yes C w hin hf h) fun e w' hd => ?_
    obtain ⟨hb, h1, h2⟩ := hd
    by_cases hn : (labs C).Nodup
    · rw [if_pos ⟨h, hn⟩, if_pos hn]
      obtain ⟨g, N, rfl, -, -, ho⟩ := h2 hn
      have hl : (driversL C).length = N := by have := ho.1; rw [ints_length] at this; omega
      exact ⟨_, N, by rw [hl], hb, by rw [hl]; exact Rd.of_own ho⟩
    · rw [if_neg (fun x => hn x.2), if_neg hn]
      obtain rfl := h1 hn
      exact pair_none hb
  · rw [if_neg (fun x => h x.1), if_neg h]
    refine Calls.mono (drivers_no C w hin hf h) fun e w' hd => ?_
    obtain ⟨rfl, hb⟩ := hd
    exact pair_none hb
theorem jL_len (C : Cfg) : (jL C).length ≤ 100000000 := by
  unfold jL
  by_cases h : C.ok
  · rw [if_pos h]
    have := nodes_bd h.1
    simp only [labI, List.length_map, joinedL, List.length_range]
    omega
  · rw [if_neg h]; simp
theorem dL_len (C : Cfg) : (dL C).length ≤ 100000000 := by
  unfold dL
  by_cases h : C.ok ∧ (labs C).Nodup
  · rw [if_pos h]
    have := nodes_bd h.1.1
    simp only [driversL, List.length_map, joinedL, List.length_range]
    omega
  · rw [if_neg h]; simp
end Go.Proofs.YtoloaecbfglaeaaGreat
