/- A configuration that is an argument: opened to what it reads as. -/
import Derived.Test.YtakccepilbmmlaaCfg
import Derived.Test.YtakccepilbmmlaaFrame
import Derived.Deep.Slices
import Derived.Deep.Grids
import Derived.Deep.Fields
namespace Go.Proofs.Ytakccepilbmmlaa
open Go.ChangeShapes Go.WideShapes Go.ChangeAt Go.RowKit Go.Joins Go.Deep
set_option linter.unusedVariables false
set_option linter.unusedSimpArgs false

section
variable {H : Type} {enc : TypeId × Value → H} {P : Program} {w : World} {base : Nat} {held : Bool}
theorem rd_ints {t e : TypeId} {fuel : Nat} {v : Value} {y : DataW H × List MemPlace} (ht : P.underlying t = some (.slice e)) (he : P.underlying e = some (.int .i64)) (hc : P.cellsOf e = 1)
    (h : DataW.trod enc P w base (fun _ => true) held fuel t [v] = some y) : ∃ A c l, v = .slice A l.length c ∧ Rd w 1 A l.length c (ints l) ∧ ∀ n ∈ l, (Lit.int .i64 n).wf = true := by
  rcases open_ints ht he hc h with ⟨h1, -⟩ | ⟨a, len, cap, zs, h1, hb, hl, hm, hz, -, hcell, hwf⟩
  · injection h1 with h1
    exact ⟨none, 0, [], h1, by simpa [ints] using Rd.empty, fun n hn => by cases hn⟩
  · injection h1 with h1
    simp only [if_true] at hz
    have hlen : (zs.take len).length = len := by rw [List.length_take]; omega
    refine ⟨some a, cap, zs.take len, by rw [hlen]; exact h1, ⟨by rw [ints_length, hlen]; omega, by omega, (fun h => by cases h), ?_⟩, fun n hn => hwf n (List.mem_of_mem_take hn)⟩
    intro j u hj
    have hjl : j < len := by have := (List.getElem?_eq_some_iff.1 hj).1; rw [ints_length, hlen] at this; exact this
    have hc := hcell j (by omega)
    refine ⟨a, rfl, ?_, ?_⟩
    · have := block_lt_of_cell hc; rwa [add_block] at this
    · rw [hc, ← hj]
      simp [ints, List.getD_eq_getElem?_getD, List.getElem?_take, hjl, List.getElem?_eq_getElem (show j < zs.length by omega)]
theorem rd_bools {t e : TypeId} {fuel : Nat} {v : Value} {y : DataW H × List MemPlace} (ht : P.underlying t = some (.slice e)) (he : P.underlying e = some .bool) (hc : P.cellsOf e = 1)
    (h : DataW.trod enc P w base (fun _ => true) held fuel t [v] = some y) : ∃ A c l, v = .slice A l.length c ∧ Rd w 1 A l.length c (bools l) := by
  rcases open_bools ht he hc h with ⟨h1, -⟩ | ⟨a, len, cap, B, h1, hb, hl, hm, -, hcell⟩
  · injection h1 with h1
    exact ⟨none, 0, [], h1, by simpa [bools] using Rd.empty⟩
  · injection h1 with h1
    refine ⟨some a, cap, (List.range len).map B, by simpa using h1, ⟨by simp [bools_length], by simp; omega, (fun h => by cases h), ?_⟩⟩
    intro j u hj
    have hjl : j < len := by have := (List.getElem?_eq_some_iff.1 hj).1; simpa [bools_length] using this
    have hc := hcell j (by omega)
    refine ⟨a, rfl, ?_, ?_⟩
    · have := block_lt_of_cell hc; rwa [add_block] at this
    · rw [hc, ← hj]
      simp [bools, hjl]
theorem rd_tiles {t e : TypeId} {fuel : Nat} {v : Value} {y : DataW H × List MemPlace} {f0 f1 f2 : Field} (ht : P.underlying t = some (.slice e)) (he : P.underlying e = some (.struct #[f0, f1, f2])) (hC : P.cellsOf e = 3) (hone : oneCellFields P #[f0, f1, f2] = true)
    (h0 : P.underlying f0.type = some (.int .i64)) (h1 : P.underlying f1.type = some .bool) (h2 : P.underlying f2.type = some .bool)
    (h : DataW.trod enc P w base (fun _ => true) held fuel t [v] = some y) : ∃ A c l, v = .slice A l.length c ∧ Rd w 3 A l.length c (tiles3 l) ∧ ∀ t ∈ l, (Lit.int .i64 t.1).wf = true := by
  rcases open_slice ht h with ⟨g1, -⟩ | ⟨a, len, cap, m, n, D, Pl, g1, hb, hl, hm, hmm, -, hcell⟩
  · injection g1 with g1
    exact ⟨none, 0, [], g1, by simpa [tiles3] using Rd.empty, fun n hn => by cases hn⟩
  · injection g1 with g1
    simp only [if_true] at hmm
    subst hmm
    have key : ∀ i, i < m → ∃ t : TL, w.cell? (a.add (i * 3)) = some (.int .i64 t.1) ∧ w.cell? (a.add (i * 3 + 1)) = some (.bool t.2.1) ∧ w.cell? (a.add (i * 3 + 2)) = some (.bool t.2.2) ∧ (Lit.int .i64 t.1).wf = true := by
      intro i hi
      obtain ⟨cs', hc, ht'⟩ := hcell i hi
      rw [hC] at hc
      obtain ⟨_, hcl, hat⟩ := World.cells?_some hc
      obtain ⟨ys, n', hn', hy, hlen, hyl, hf⟩ := DataW.trod_struct he ht'
      match cs', hcl with
      | [c0, c1, c2], _ =>
        obtain ⟨o0, k0⟩ := hone_of hone 0 f0 rfl
        obtain ⟨o1, k1⟩ := hone_of hone 1 f1 rfl
        obtain ⟨o2, k2⟩ := hone_of hone 2 f2 rfl
        match ys, hyl with
        | [y0, y1, y2], _ =>
          have e0 : DataW.trod enc P w base (fun _ => true) held n' f0.type [c0] = some y0 := by simpa [o0, k0] using hf 0 f0 rfl
          have e1 : DataW.trod enc P w base (fun _ => true) held n' f1.type [c1] = some y1 := by simpa [o1, k1] using hf 1 f1 rfl
          have e2 : DataW.trod enc P w base (fun _ => true) held n' f2.type [c2] = some y2 := by simpa [o2, k2] using hf 2 f2 rfl
          obtain ⟨z, g0, -, hz⟩ := DataW.trod_int h0 e0
          obtain ⟨b1, g1', -⟩ := DataW.trod_bool h1 e1
          obtain ⟨b2, g2', -⟩ := DataW.trod_bool h2 e2
          simp at g0 g1' g2'
          subst g0 g1' g2'
          refine ⟨(z, b1, b2), ?_, ?_, ?_, hz⟩
          · have := hat 0 (by omega); rw [Go.Deep.add_add] at this; simpa using this
          · have := hat 1 (by omega); rw [Go.Deep.add_add] at this; simpa using this
          · have := hat 2 (by omega); rw [Go.Deep.add_add] at this; simpa using this
    obtain ⟨F, hF⟩ : ∃ F : Nat → TL, ∀ i, i < m → w.cell? (a.add (i * 3)) = some (.int .i64 (F i).1) ∧ w.cell? (a.add (i * 3 + 1)) = some (.bool (F i).2.1) ∧ w.cell? (a.add (i * 3 + 2)) = some (.bool (F i).2.2) ∧ (Lit.int .i64 (F i).1).wf = true := by
      refine ⟨fun i => if h : i < m then Classical.choose (key i h) else (0, false, false), fun i hi => ?_⟩
      simp only [dif_pos hi]
      exact Classical.choose_spec (key i hi)
    have hll : ((List.range len).map F).length = len := by simp
    refine ⟨some a, m, (List.range len).map F, by rw [hll]; exact g1, ⟨tiles3_length _, by omega, (fun h => by cases h), ?_⟩, fun t ht => ?_⟩
    · intro j u hj
      have hjl : j < len * 3 := by have := (List.getElem?_eq_some_iff.1 hj).1; rw [tiles3_length, hll] at this; exact this
      obtain ⟨g0, g1', g2', -⟩ := hF (j / 3) (by omega)
      obtain ⟨t0, t1, t2⟩ := tiles3_get ((List.range len).map F) (j / 3) (by rw [hll]; omega)
      have hel : ((List.range len).map F)[j / 3]! = F (j / 3) := by
        rw [getElem!_pos _ _ (by rw [hll]; omega)]; simp
      rw [hel] at t0 t1 t2
      refine ⟨a, rfl, ?_, ?_⟩
      · have := block_lt_of_cell g0; rwa [add_block] at this
      · rcases (show j = j / 3 * 3 ∨ j = j / 3 * 3 + 1 ∨ j = j / 3 * 3 + 2 by omega) with e | e | e
        · rw [e] at hj ⊢; rw [← hj, t0]; simpa using g0
        · rw [e] at hj ⊢; rw [← hj]; generalize j / 3 = q at *; rw [t1]; exact g1'
        · rw [e] at hj ⊢; rw [← hj]; generalize j / 3 = q at *; rw [t2]; exact g2'
    · obtain ⟨i, hi, rfl⟩ := List.mem_map.1 ht
      exact (hF i (by have := List.mem_range.1 hi; omega)).2.2.2
end
end Go.Proofs.Ytakccepilbmmlaa
