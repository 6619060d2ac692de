/- The switches in order: what the laws read off the list. Plain, no program here. -/
import Derived.Test.YtakccepilbmmlaaFabO
import Derived.Test.YtakccepilbmmlaaEdE
import Derived.Test.YtakccepilbmmlaaTrack
namespace Go.Proofs.Ytakccepilbmmlaa
open Go.Sort Go.Shelf Go.Lib
set_option linter.unusedVariables false
set_option linter.unusedSimpArgs false

theorem edgesL_mem {W H T : Int} {p : Int × Int} : p ∈ edgesL W H T ↔ p ∈ rawL W H T := by
  unfold edgesL sortP
  exact List.mem_mergeSort
theorem edgesL_nodup {W H T : Int} (h : okA W H T) : (edgesL W H T).Nodup := by
  unfold edgesL sortP
  exact (List.mergeSort_perm _ _).nodup_iff.2 (rawL_nodup h)
/-- before, in order -/
def before (x y : Int × Int) : Prop := x.1 < y.1 ∨ x.1 = y.1 ∧ x.2 < y.2
theorem edgesL_le {W H T : Int} : (edgesL W H T).Pairwise fun x y => ¬ before y x := by
  have := List.pairwise_mergeSort (le := fun x y => !(ltOf pcmp) y x) (fun a b c h1 h2 => by
      simp only [pcmp_lt, Bool.not_eq_true', decide_eq_false_iff_not] at *
      omega) (fun a b => by
      simp only [pcmp_lt]
      by_cases c : b.1 < a.1 ∨ b.1 = a.1 ∧ b.2 < a.2
      · have : ¬ (a.1 < b.1 ∨ a.1 = b.1 ∧ a.2 < b.2) := by omega
        simp [this]
      · simp [c]) (rawL W H T)
  refine this.imp fun {a b} h => ?_
  simp only [pcmp_lt, Bool.not_eq_true', decide_eq_false_iff_not] at h
  exact h
theorem edgesL_lt {W H T : Int} (h : okA W H T) : (edgesL W H T).Pairwise before := by
  refine (List.pairwise_and_iff.2 ⟨edgesL_le, edgesL_nodup h⟩).imp fun {a b} hab => ?_
  obtain ⟨h1, h2⟩ := hab
  unfold before at *
  by_cases e : a.1 = b.1
  · by_cases f : a.2 = b.2
    · exact absurd (Prod.ext e f) h2
    · omega
  · omega
/-- FabricKinds, of each switch -/
theorem edges_kinds {W H T : Int} (h : okA W H T) {p : Int × Int} (hp : p ∈ edgesL W H T) :
    p.1 < p.2 ∧ trackB W H T p.2 = true ∧ (trackB W H T p.1 = true → whT W H T p.1 = whT W H T p.2) := by
  rcases rawL_mem h (edgesL_mem.1 hp) with ⟨a1, a2, a3, a4, a5⟩ | ⟨a1, a2, a3, a4, a5, a6⟩
  · refine ⟨a3, by unfold trackB; simp [a4, a5], fun ht => ?_⟩
    unfold trackB at ht
    simp at ht
    omega
  · refine ⟨a1, by unfold trackB; simp [a3, a5], fun _ => ?_⟩
    rw [(wh_yes a2).2.2.2.1, (wh_yes a3).2.2.2.1]
    exact a6
/-- both ends are nodes -/
theorem edges_nodes {W H T : Int} (h : okA W H T) {p : Int × Int} (hp : p ∈ edgesL W H T) : isN W H T p.1 ∧ isN W H T p.2 := by
  rcases rawL_mem h (edgesL_mem.1 hp) with ⟨a1, a2, a3, a4, a5⟩ | ⟨a1, a2, a3, a4, a5, a6⟩
  · exact ⟨a1, a4⟩
  · exact ⟨a2, a3⟩
end Go.Proofs.Ytakccepilbmmlaa
