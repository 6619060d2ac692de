/- filigreeref25.lut: of literals that are no gate's. -/
import Derived.Test.YtaajnmggbhnndaaGreatDoorZR25Q
namespace Go.Proofs.YtaajnmggbhnndaaGreatDoor
open Go.RowKit
set_option linter.unusedVariables false
set_option linter.unusedSimpArgs false
set_option maxRecDepth 100000 in
set_option maxHeartbeats 1000000 in
theorem rlut25_zero (G : AG) (R A : Option Addr) (nR cR n c a : Nat) (w : World) (ha : a < 2) :
    Calls Tryz.prog 24 #[.agg #[.int .i64 G.I, .slice G.AF G.fl.length G.cF, .slice G.AA G.an.length G.cA, .slice G.AO G.ou.length G.cO], .slice R nR cR, .slice A n c, .int .i64 (a : Int)] w fun r w' => r = .returned (.agg #[.slice none 0 0, .int .u64 1]) ∧ Below w.heap.size w w' := by
  have Q0 := Lib.hid (below_then (below_new w (.cells #[.int .i64 G.I, .slice G.AF G.fl.length G.cF, .slice G.AA G.an.length G.cA, .slice G.AO G.ou.length G.cO] 26)) (below_new _ (.cells #[.slice none 0 0, .int .u64 0] 41)))
  have R0 := Lib.hid (blk_made1 w (.cells #[.int .i64 G.I, .slice G.AF G.fl.length G.cF, .slice G.AA G.an.length G.cA, .slice G.AO G.ou.length G.cO] 26) 41 #[.slice none 0 0, .int .u64 0])
  have h0 : (a : Int) / 2 = 0 := by omega
  go_enter Tryz.func24, Tryz.ntmps24
  go_wp2_with fail
  have hci : (Tryz.prog.info? 41).map (·.size) = some 2 := by kernel_rfl
  have R1 := blk_made1 w (.cells #[.int .i64 G.I, .slice G.AF G.fl.length G.cF, .slice G.AA G.an.length G.cA, .slice G.AO G.ou.length G.cO] 26) 41 #[.slice none 0 0, .int .u64 1]
  have Q1 := below_then (below_new w (.cells #[.int .i64 G.I, .slice G.AF G.fl.length G.cF, .slice G.AA G.an.length G.cA, .slice G.AO G.ou.length G.cO] 26)) (below_new _ (.cells #[.slice none 0 0, .int .u64 1] 41))
  refine bodyPost_ret (v := .agg #[.slice none 0 0, .int .u64 1]) ?_ rfl ?_
  · exact results_cell_row rfl _ _ (w.heap.size + 1) 41 _ (0, 0) _ rfl R1 Tryz.underlying41 rfl hci
  · exact ⟨rfl, Q1⟩
set_option maxRecDepth 100000 in
set_option maxHeartbeats 1000000 in
theorem rlut25_leaf (G : AG) (F : Nat) (R A : Option Addr) (nR cR n c a : Nat) (w : World) (ha : 0 < a / 2) (hF : a / 2 < F) (hFF : 1 + G.I + (G.fl.length : Int) = (F : Int)) (hI : 0 ≤ G.I) (hF3 : F ≤ 100000) :
    Calls Tryz.prog 24 #[.agg #[.int .i64 G.I, .slice G.AF G.fl.length G.cF, .slice G.AA G.an.length G.cA, .slice G.AO G.ou.length G.cO], .slice R nR cR, .slice A n c, .int .i64 (a : Int)] w fun r w' => ∃ g, r = .returned (.agg #[.slice (some ⟨g, 0, none⟩) 1 1, .int .u64 1]) ∧ Below w.heap.size w w' ∧ w'.ownsRow w.heap.size 3 1 (.slice (some ⟨g, 0, none⟩) 1 1) 1 (ints [((a / 2 : Nat) : Int)]) := by
  obtain ⟨q, hq⟩ : ∃ q, a / 2 = q := ⟨_, rfl⟩
  have hq2 : (a : Int) / 2 = (q : Int) := by omega
  obtain ⟨h, hh⟩ : ∃ h, G.fl.length = h := ⟨_, rfl⟩
  obtain ⟨I, hII⟩ : ∃ I, G.I = I := ⟨_, rfl⟩
  rw [hq] at ha hF ⊢
  rw [hh, hII] at hFF ⊢
  rw [hII] at hI
  have X0 := Lib.hid (Blk.made w 26 #[.int .i64 I, .slice G.AF h G.cF, .slice G.AA G.an.length G.cA, .slice G.AO G.ou.length G.cO])
  have k0 := (X0.out.alloc (.cells #[.slice none 0 0, .int .u64 0] 41)).cell 0
  have k1 := (X0.out.alloc (.cells #[.slice none 0 0, .int .u64 0] 41)).cell 1
  have hwr : IntKind.i64.wrap (1 + I) = 1 + I := IntWalk.i64_in _ (by omega)
  have hwr2 : IntKind.i64.wrap (1 + I + (h : Int)) = (F : Int) := by rw [hFF]; exact IntWalk.i64_in _ (by omega)
  have hne : ¬ (q : Int) = 0 := by omega
  have hlt : (q : Int) < (F : Int) := by omega
  have hci : (Tryz.prog.info? 41).map (·.size) = some 2 := by kernel_rfl
  clear hq hh hII
  go_enter Tryz.func24, Tryz.ntmps24
  go_wp2_with fail
  have R1 := (blk_made1 w (.cells #[.int .i64 I, .slice G.AF h G.cF, .slice G.AA G.an.length G.cA, .slice G.AO G.ou.length G.cO] 26) 41 #[.slice (some ⟨w.heap.size + 1 + 1, 0, none⟩) 1 1, .int .u64 1]).alloc (.cells #[.int .i64 (q : Int)] 3)
  have Q1 := below_then (below_then (below_new w (.cells #[.int .i64 I, .slice G.AF h G.cF, .slice G.AA G.an.length G.cA, .slice G.AO G.ou.length G.cO] 26)) (below_new _ (.cells #[.slice (some ⟨w.heap.size + 1 + 1, 0, none⟩) 1 1, .int .u64 1] 41))) (below_new _ (.cells #[.int .i64 (q : Int)] 3))
  have O := World.ownsRow_lit (base := w.heap.size) (e := 3) (size := 1) ((w.alloc (.cells #[.int .i64 I, .slice G.AF h G.cF, .slice G.AA G.an.length G.cA, .slice G.AO G.ou.length G.cO] 26)).alloc (.cells #[.slice (some ⟨w.heap.size + 1 + 1, 0, none⟩) 1 1, .int .u64 1] 41)) #[.int .i64 (q : Int)] 1 (by simp; omega) (by unfold maxLen; omega) rfl
  rw [show ((w.alloc (.cells #[.int .i64 I, .slice G.AF h G.cF, .slice G.AA G.an.length G.cA, .slice G.AO G.ou.length G.cO] 26)).alloc (.cells #[.slice (some ⟨w.heap.size + 1 + 1, 0, none⟩) 1 1, .int .u64 1] 41)).heap.size = w.heap.size + 1 + 1 by simp] at O
  refine bodyPost_ret (v := .agg #[.slice (some ⟨w.heap.size + 1 + 1, 0, none⟩) 1 1, .int .u64 1]) ?_ rfl ?_
  · exact results_cell_row rfl _ _ (w.heap.size + 1) 41 _ (0, 0) _ rfl R1 Tryz.underlying41 rfl hci
  · exact ⟨_, rfl, Q1, O⟩
end Go.Proofs.YtaajnmggbhnndaaGreatDoor
