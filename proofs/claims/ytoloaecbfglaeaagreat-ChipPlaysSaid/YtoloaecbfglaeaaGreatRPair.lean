/- What filigree/filigreeref32.Drivers tells, in one form. -/
import Derived.Test.YtoloaecbfglaeaaGreatPair
import Derived.Test.YtoloaecbfglaeaaGreatR32J
namespace Go.Proofs.YtoloaecbfglaeaaGreat
open Go.RowKit
set_option linter.unusedVariables false
set_option linter.unusedSimpArgs false

theorem rjoined_pair (C : Cfg) (w : World) (hin : C.In w) (hf : C.few) : RJND C w (PairOut (jL C) (jE C) w) := by
  unfold jL jE
  by_cases h : C.ok
  · rw [if_pos h, if_pos h]
    refine Calls.mono (rjoined_yes C w hin hf h) fun e w' hd => ?_
    obtain ⟨g, N, rfl, hN, hg, hb, ho⟩ := hd
    rw [← labI_ints] at ho
    have hl : (labI C).length = N := by have := ho.1; rw [ints_length] at this; omega
    exact ⟨_, N, by rw [hl], hb, by rw [hl]; exact Rd.of_own ho⟩
  · rw [if_neg h, if_neg h]
    refine Calls.mono (rjoined_no C w hin hf h) fun e w' hd => ?_
    obtain ⟨rfl, hb⟩ := hd
    exact pair_none hb
theorem rdrivers_pair (C : Cfg) (w : World) (hin : C.In w) (hf : C.few) : RDRV C w (PairOut (dL C) (dE C) w) := by
  unfold dL dE
  by_cases h : C.ok
  · rw [if_pos h]
    refine Calls.mono (rdrivers_yes C w hin hf h) fun e w' hd => ?_
    obtain ⟨hb, h1, h2⟩ := hd
    by_cases hn : (labs C).Nodup
    · rw [if_pos ⟨h, hn⟩, if_pos hn]
      obtain ⟨A, c, rfl, ho⟩ := h2 hn
      exact ⟨A, c, rfl, hb, Rd.of_own ho⟩
    · rw [if_neg (fun x => hn x.2), if_neg hn]
      obtain rfl := h1 hn
      exact pair_none hb
  · rw [if_neg (fun x => h x.1), if_neg h]
    refine Calls.mono (rdrivers_no C w hin hf h) fun e w' hd => ?_
    obtain ⟨rfl, hb⟩ := hd
    exact pair_none hb
end Go.Proofs.YtoloaecbfglaeaaGreat
