/- Walk of the laws' own 'bare': a configuration of a fabric of one tile, with no switch on. -/
import Derived.Test.YtakccepilbmmlaaBareP
namespace Go.Proofs.Ytakccepilbmmlaa
open Go.RowKit
set_option linter.unusedVariables false
set_option linter.unusedSimpArgs false

set_option maxRecDepth 100000 in
set_option maxHeartbeats 40000000 in
theorem bare_any (w : World) :
    Calls Try.prog 42 #[] w (BAREPOST w) := by
  have hmk1 : ∀ w : World, (Instr.makeSlice 24 (.int .i64 1) (.int .i64 1)).run Try.prog w = .ok (.slice (some ⟨w.heap.size, 0, none⟩) 1 1) (w.alloc (.cells #[.int .i64 0, .bool false, .bool false] 89)) := fun _ => by kernel_rfl
  have hmk2 : ∀ w : World, (Instr.makeSlice 25 (.int .i64 16) (.int .i64 16)).run Try.prog w = .ok (.slice (some ⟨w.heap.size, 0, none⟩) 16 16) (w.alloc (.cells #[.bool false, .bool false, .bool false, .bool false, .bool false, .bool false, .bool false, .bool false, .bool false, .bool false, .bool false, .bool false, .bool false, .bool false, .bool false, .bool false] 4)) := fun _ => by kernel_rfl
  go_enter Try.func42, Try.ntmps42
  go_wp2_with fail
  refine (edges_yes _ _ _ _ ok111).mono ?_
  rintro e w1 ⟨v, rfl, hb1, hown⟩
  rw [edges111] at hown
  obtain ⟨AA, c, hv⟩ := own_slice hown
  subst hv
  clear hown
  have b0 : w1.cell? ⟨w.heap.size + 1, 0, none⟩ = some (.int .i64 1) := (hb1.cell (p := ⟨w.heap.size + 1, 0, none⟩) (by simp)).trans (by go_simp)
  have b1 : w1.cell? ⟨w.heap.size + 1, 1, none⟩ = some (.int .i64 1) := (hb1.cell (p := ⟨w.heap.size + 1, 1, none⟩) (by simp)).trans (by go_simp)
  have b2 : w1.cell? ⟨w.heap.size + 1, 2, none⟩ = some (.int .i64 1) := (hb1.cell (p := ⟨w.heap.size + 1, 2, none⟩) (by simp)).trans (by go_simp)
  have hB1 : Below w.heap.size w w1 := ((((Below.refl w.heap.size w).alloc (Nat.le_refl _) _).alloc (by simp) _).trans (hb1.mono (by simp; omega)))
  have HB : Blk w1 w.heap.size 28 #[.int .i64 0, .int .i64 0, .int .i64 0, .slice none 0 0, .slice none 0 0, .slice none 0 0, .slice none 0 0] := ((Blk.made w 28 _).alloc _).below hb1 (by simp; omega)
  have hs1 : w.heap.size + 1 < w1.heap.size := by have := hb1.size; simp at this; omega
  have HT : Three (w.heap.size + 1) w1 := ⟨b0, b1, b2⟩
  have hs0 : w.heap.size < w1.heap.size := by omega
  have hs0b : w.heap.size < w1.heap.size + 1 := by omega
  have hs0c : w.heap.size < w1.heap.size + 1 + 1 := by omega
  have hs0d : w.heap.size < w1.heap.size + 2 := by omega
  have r0 : w1.cell? ⟨w.heap.size, 0, none⟩ = some (.int .i64 0) := (hb1.cell (p := ⟨w.heap.size, 0, none⟩) (by first | (simp; done) | (simp; omega))).trans (by go_simp)
  have f0 : w1.frozen? ⟨w.heap.size, 0, none⟩ = false := (hb1.frozen (p := ⟨w.heap.size, 0, none⟩) (by first | (simp; done) | (simp; omega))).trans (by go_simp)
  have r1 : w1.cell? ⟨w.heap.size, 1, none⟩ = some (.int .i64 0) := (hb1.cell (p := ⟨w.heap.size, 1, none⟩) (by first | (simp; done) | (simp; omega))).trans (by go_simp)
  have f1 : w1.frozen? ⟨w.heap.size, 1, none⟩ = false := (hb1.frozen (p := ⟨w.heap.size, 1, none⟩) (by first | (simp; done) | (simp; omega))).trans (by go_simp)
  have r2 : w1.cell? ⟨w.heap.size, 2, none⟩ = some (.int .i64 0) := (hb1.cell (p := ⟨w.heap.size, 2, none⟩) (by first | (simp; done) | (simp; omega))).trans (by go_simp)
  have f2 : w1.frozen? ⟨w.heap.size, 2, none⟩ = false := (hb1.frozen (p := ⟨w.heap.size, 2, none⟩) (by first | (simp; done) | (simp; omega))).trans (by go_simp)
  have r3 : w1.cell? ⟨w.heap.size, 3, none⟩ = some (.slice none 0 0) := (hb1.cell (p := ⟨w.heap.size, 3, none⟩) (by first | (simp; done) | (simp; omega))).trans (by go_simp)
  have f3 : w1.frozen? ⟨w.heap.size, 3, none⟩ = false := (hb1.frozen (p := ⟨w.heap.size, 3, none⟩) (by first | (simp; done) | (simp; omega))).trans (by go_simp)
  have r4 : w1.cell? ⟨w.heap.size, 4, none⟩ = some (.slice none 0 0) := (hb1.cell (p := ⟨w.heap.size, 4, none⟩) (by first | (simp; done) | (simp; omega))).trans (by go_simp)
  have f4 : w1.frozen? ⟨w.heap.size, 4, none⟩ = false := (hb1.frozen (p := ⟨w.heap.size, 4, none⟩) (by first | (simp; done) | (simp; omega))).trans (by go_simp)
  have r5 : w1.cell? ⟨w.heap.size, 5, none⟩ = some (.slice none 0 0) := (hb1.cell (p := ⟨w.heap.size, 5, none⟩) (by first | (simp; done) | (simp; omega))).trans (by go_simp)
  have f5 : w1.frozen? ⟨w.heap.size, 5, none⟩ = false := (hb1.frozen (p := ⟨w.heap.size, 5, none⟩) (by first | (simp; done) | (simp; omega))).trans (by go_simp)
  have r6 : w1.cell? ⟨w.heap.size, 6, none⟩ = some (.slice none 0 0) := (hb1.cell (p := ⟨w.heap.size, 6, none⟩) (by first | (simp; done) | (simp; omega))).trans (by go_simp)
  have f6 : w1.frozen? ⟨w.heap.size, 6, none⟩ = false := (hb1.frozen (p := ⟨w.heap.size, 6, none⟩) (by first | (simp; done) | (simp; omega))).trans (by go_simp)
  go_wp2_with fail
  go_region_held3 (fun w' => w'.cell? ⟨w.heap.size + 1, 0, none⟩ = some (.int .i64 1) ∧ w'.cell? ⟨w.heap.size + 1, 1, none⟩ = some (.int .i64 1) ∧ w'.cell? ⟨w.heap.size + 1, 2, none⟩ = some (.int .i64 1)) ((repeat' (first | (with_reducible exact HT) | (with_reducible refine Three.store ?_ _ _ _ (by omega)) | (with_reducible refine Three.drew ?_) | (with_reducible refine Three.alloc ?_ (by first | omega | (simp only [World.alloc_size, World.drew_size]; omega) | (simp; omega)) _)))) (fail)
  all_goals go_wp2_with fail
  all_goals clear hmk1 hmk2 HT hs0b hs0c hs0d
  · exact bare_go012 w w1 hB1 HB _ rfl rfl
  · exact bare_go021 w w1 hB1 HB _ rfl rfl
  · exact bare_go102 w w1 hB1 HB _ rfl rfl
  · exact bare_go120 w w1 hB1 HB _ rfl rfl
  · exact bare_go201 w w1 hB1 HB _ rfl rfl
  · exact bare_go210 w w1 hB1 HB _ rfl rfl
end Go.Proofs.Ytakccepilbmmlaa
