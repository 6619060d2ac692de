/- filigree/lutmap.Map and cuts.All, of gates so few as chapter 25 looks at. -/
import Derived.Test.YtaajnmggbhnndaaGreatDoorZLMap
import Derived.Test.YtaajnmggbhnndaaGreatDoorZBig
import Derived.Test.YtaajnmggbhnndaaGreatDoorZMapS
namespace Go.Proofs.YtaajnmggbhnndaaGreatDoor
open Go.RowKit Go.Maps
set_option linter.unusedVariables false
set_option linter.unusedSimpArgs false
set_option maxRecDepth 100000 in
set_option maxHeartbeats 2000000 in
theorem lmap_big (G : AG) (k : Int) (w : World) (hi : 65536 < G.I) :
    Calls Tryz.prog 6 #[.agg #[.int .i64 G.I, .slice G.AF G.fl.length G.cF, .slice G.AA G.an.length G.cA, .slice G.AO G.ou.length G.cO], .int .i64 k] w fun r w' => r = .returned (.tuple #[.agg #[.int .i64 0, .slice none 0 0, .slice none 0 0, .slice none 0 0], .int .i64 2]) ∧ Below w.heap.size w w' := by
  have B0 := Lib.hid (below_then (below_new w (.cells #[.int .i64 G.I, .slice G.AF G.fl.length G.cF, .slice G.AA G.an.length G.cA, .slice G.AO G.ou.length G.cO] 26)) (below_new _ (.cells #[.int .i64 0, .slice none 0 0, .slice none 0 0, .slice none 0 0] 32)))
  have X0 := Lib.hid ((Blk.made w 26 #[.int .i64 G.I, .slice G.AF G.fl.length G.cF, .slice G.AA G.an.length G.cA, .slice G.AO G.ou.length G.cO]).alloc (.cells #[.int .i64 0, .slice none 0 0, .slice none 0 0, .slice none 0 0] 32))
  have R0 := Lib.hid (blk_made1 w (.cells #[.int .i64 G.I, .slice G.AF G.fl.length G.cF, .slice G.AA G.an.length G.cA, .slice G.AO G.ou.length G.cO] 26) 32 #[.int .i64 0, .slice none 0 0, .slice none 0 0, .slice none 0 0])
  have HC := Lib.hid (call_big G k ((w.alloc (.cells #[.int .i64 G.I, .slice G.AF G.fl.length G.cF, .slice G.AA G.an.length G.cA, .slice G.AO G.ou.length G.cO] 26)).alloc (.cells #[.int .i64 0, .slice none 0 0, .slice none 0 0, .slice none 0 0] 32)) hi)
  have k0 := X0.out.cell 0
  have k1 := X0.out.cell 1
  have k2 := X0.out.cell 2
  have k3 := X0.out.cell 3
  clear hi
  go_enter Tryz.func6, Tryz.ntmps6
  go_wp2_with fail
  go_step3
  go_wp2_with fail
  refine HC.out.mono ?_
  rintro e w2 ⟨rfl, hb2⟩
  have R2 := Lib.hid (R0.out.keep hb2)
  have B2 := Lib.hid (below_then B0.out hb2)
  clear hb2 HC k0 k1 k2 k3
  have r0 := R2.out.cell 0
  have r1 := R2.out.cell 1
  have r2 := R2.out.cell 2
  have r3 := R2.out.cell 3
  have f0 := R2.out.free 0
  have f1 := R2.out.free 1
  have f2 := R2.out.free 2
  have f3 := R2.out.free 3
  go_wp2_with fail
  rw [Exit.noGoto_ret]
  refine bodyPost_ret (results_net rfl _ _ (w.heap.size + 1) _ _ _ _ rfl (set4n R2.out _ _ _ _)) rfl ?_
  refine ⟨rfl, (Chg.sets w2 (w.heap.size + 1) _ _ _ _).below B2.out B2.out.size (fun k hk => by rw [hk]; exact Nat.le_succ _)⟩
/-- the error of gates and a number -/
def AG.errM (G : AG) (k : Int) : Int := if 65536 < G.I then 2 else if G.may k then 0 else 1
theorem errM_zero {G : AG} {k : Int} (hf : fewG25 G) (h : G.errM k = 0) : (G.ok ∧ 2 ≤ k ∧ k ≤ 6) ∧ G.fit := by
  unfold AG.errM at h
  split at h
  · omega
  · split at h
    · rename_i h1 h2; exact ⟨h2, fewG25_fit hf (by omega)⟩
    · omega
def MapAns (G : AG) (k : Int) (w : World) (r : Ending) (w' : World) : Prop :=
  (G.errM k = 0 → ∃ N : NT, r = .returned (.tuple #[.agg #[.int .i64 N.I, .slice N.AH N.hs.length N.cH, .slice N.AL N.ls.length N.cL, .slice N.AO N.ou.length N.cO], .int .i64 0]) ∧ Below w.heap.size w w' ∧ N.In w' ∧ N.IsMap G k) ∧
  (G.errM k ≠ 0 → r = .returned (.tuple #[.agg #[.int .i64 0, .slice none 0 0, .slice none 0 0, .slice none 0 0], .int .i64 (G.errM k)]) ∧ Below w.heap.size w w')
theorem lmap25_any (G : AG) (k : Int) (w : World) (hin : G.In w) (hf : fewG25 G) (hw : G.wf) (hcols : COLS w) :
    Calls Tryz.prog 6 #[.agg #[.int .i64 G.I, .slice G.AF G.fl.length G.cF, .slice G.AA G.an.length G.cA, .slice G.AO G.ou.length G.cO], .int .i64 k] w (MapAns G k w) := by
  by_cases hi : 65536 < G.I
  · have e : G.errM k = 2 := if_pos hi
    refine (lmap_big G k w hi).mono fun r w' h => ⟨fun h0 => by omega, fun _ => by rw [e]; exact h⟩
  · have hfit := fewG25_fit hf (by omega)
    by_cases hm : G.may k
    · have e : G.errM k = 0 := by unfold AG.errM; rw [if_neg hi, if_pos hm]
      exact (lmap_any G k w hin hfit hw hcols).mono fun r w' h => ⟨fun _ => h.1 hm, fun h0 => absurd e h0⟩
    · have e : G.errM k = 1 := by unfold AG.errM; rw [if_neg hi, if_neg hm]
      exact (lmap_any G k w hin hfit hw hcols).mono fun r w' h => ⟨fun h0 => by omega, fun _ => by rw [e]; exact h.2 hm⟩
theorem call25_no (G : AG) (k : Int) (w : World) (hin : G.In w) (hf : fewG25 G) (hw : G.wf) (hcols : COLS w) (he : G.errM k ≠ 0) :
    Calls Tryz.prog 17 #[.agg #[.int .i64 G.I, .slice G.AF G.fl.length G.cF, .slice G.AA G.an.length G.cA, .slice G.AO G.ou.length G.cO], .int .i64 k] w fun r w' => r = .returned (.tuple #[.slice none 0 0, .int .i64 (G.errM k)]) ∧ Below w.heap.size w w' := by
  by_cases hi : 65536 < G.I
  · have e : G.errM k = 2 := if_pos hi
    rw [e]
    exact call_big G k w hi
  · have hfit := fewG25_fit hf (by omega)
    by_cases hm : G.may k
    · have e : G.errM k = 0 := by unfold AG.errM; rw [if_neg hi, if_pos hm]
      exact absurd e he
    · have e : G.errM k = 1 := by unfold AG.errM; rw [if_neg hi, if_neg hm]
      rw [e]
      exact (call_any G k w hin hfit hw hcols).mono fun r w' h => h.2 hm
end Go.Proofs.YtaajnmggbhnndaaGreatDoor
