/- An argument that is rows of bits: opened; a small number that is one; how much a run tells. -/
import Derived.Test.YtoloaecbfglaeaaGreatOpen
import Derived.Test.YtoloaecbfglaeaaGreatIdleC
namespace Go.Proofs.YtoloaecbfglaeaaGreat
open Go.ChangeShapes Go.WideShapes Go.ChangeAt Go.RowKit Go.Joins Go.Deep
set_option linter.unusedVariables false
set_option linter.unusedSimpArgs false

set_option maxRecDepth 100000 in
theorem open_rows {H : Type} {enc : TypeId × Value → H} {w : World} {base b0 : Nat} {held : Bool} {r : Reach} {v : Value} {d : DataW H} {p : List MemPlace}
    (hv : Value.okWide Tryz.prog w r b0 42 v) (h : DataW.Trod enc Tryz.prog w base (fun _ => true) held 42 v d p) :
    ∃ A c L, v = .slice A (L : List BR).length c ∧ RowsIn A c L w ∧ L.length ≤ maxLen ∧ ∀ b ∈ L, b.l.length ≤ maxLen := by
  have he : Tryz.prog.cellsOf 25 = 1 := by kernel_rfl
  have hq : Tryz.prog.cellsOf 4 = 1 := by kernel_rfl
  obtain ⟨a1, len, cap, rfl⟩ := okWide_slice Tryz.underlying42 hv
  obtain ⟨fuel, hf⟩ := h
  rcases open_bool_rows Tryz.underlying42 Tryz.underlying25 Tryz.underlying4 he hq hf with ⟨hcs, -⟩ | ⟨a, len', cap', A, L, C, B, hcs, hb, hl, hm, -, hcell⟩
  · simp [Value.cells] at hcs
    obtain ⟨rfl, rfl, rfl⟩ := hcs
    exact ⟨none, 0, [], rfl, RowsIn.nil _, Nat.zero_le _, fun b hb => (nomatch hb)⟩
  · simp [Value.cells] at hcs
    obtain ⟨rfl, rfl, rfl⟩ := hcs
    refine ⟨some a, cap, (List.range len).map (fun r => (⟨A r, C r, (List.range (L r)).map (B r)⟩ : BR)), by simp, ⟨⟨by simp, by simpa using hl, (fun h => by cases h), ?_⟩, ?_⟩, by simp; omega, ?_⟩
    · intro j u hj
      have hjl : j < len := by have := (List.getElem?_eq_some_iff.1 hj).1; simpa using this
      have hc := (hcell j (by omega)).1
      refine ⟨a, rfl, ?_, ?_⟩
      · have := block_lt_of_cell hc; rwa [add_block] at this
      · rw [hc, ← hj]
        simp [BR.v, hjl]
    · intro b hb
      obtain ⟨r, hr, rfl⟩ := List.mem_map.1 hb
      have hrl := List.mem_range.1 hr
      obtain ⟨-, h1, h2, h3, h4⟩ := hcell r (by omega)
      refine ⟨by simp [bools_length], by simpa using h1, h3, ?_⟩
      intro j u hj
      have hjl : j < L r := by have := (List.getElem?_eq_some_iff.1 hj).1; simpa [bools_length] using this
      cases hA : A r with
      | none => have := h3 hA; omega
      | some a' =>
        have hc := (h4 a' hA).2 j (by omega)
        refine ⟨a', rfl, ?_, ?_⟩
        · have := block_lt_of_cell hc; rwa [add_block] at this
        · rw [hc, ← hj]
          simp [bools, hjl]
    · intro b hb
      obtain ⟨r, hr, rfl⟩ := List.mem_map.1 hb
      have hrl := List.mem_range.1 hr
      obtain ⟨-, h1, h2, -⟩ := hcell r (by omega)
      simp; omega
theorem word_of {a : Int} (h : (Lit.int .u16 a).wf = true) : 0 ≤ a ∧ a ≤ 65535 := by
  have h1 : IntKind.u16.min = 0 := rfl
  have h2 : IntKind.u16.max = 65535 := rfl
  simp [Lit.wf] at h
  omega
theorem crun_len {C : Cfg} {L rs : List (List Bool)} {x : Int} (h : CRunR C L rs x) : rs.length ≤ L.length ∧ ∀ r ∈ rs, r.length ≤ C.outs.length := by
  obtain ⟨P, y, hr, h⟩ := h
  rcases h with ⟨-, -, rfl⟩ | ⟨rfl, h⟩
  · exact ⟨Nat.zero_le _, fun r hr => (nomatch hr)⟩
  · rcases h with ⟨-, -, rfl⟩ | ⟨-, -, -, rfl⟩ | ⟨-, -, -, O, -, rfl⟩
    · exact ⟨Nat.zero_le _, fun r hr => (nomatch hr)⟩
    · exact ⟨Nat.zero_le _, fun r hr => (nomatch hr)⟩
    · refine ⟨by simp [PK.play], fun r hm => ?_⟩
      obtain ⟨k, -, rfl⟩ := List.mem_map.1 hm
      have := (plain_at (read_zero hr).2.2.2.1).2.2.1
      simp [PK.tell, this, outsD]
end Go.Proofs.YtoloaecbfglaeaaGreat
