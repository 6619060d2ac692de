/- filigreeref25.Map, of any gates that are few. -/
import Derived.Test.YtaajnmggbhnndaaGreatDoorZR25X
import Derived.Test.YtaajnmggbhnndaaGreatDoorZMapB
namespace Go.Proofs.YtaajnmggbhnndaaGreatDoor
open Go.RowKit Go.Maps
set_option linter.unusedVariables false
set_option linter.unusedSimpArgs false
set_option maxRecDepth 100000 in
set_option maxHeartbeats 2000000 in
theorem rmap25_err (G : AG) (k x : Int) (w : World) (hx : x = 1 ∨ x = 2)
    (hall : ∀ W, Below w.heap.size w W → Calls Tryz.prog 21 #[.agg #[.int .i64 G.I, .slice G.AF G.fl.length G.cF, .slice G.AA G.an.length G.cA, .slice G.AO G.ou.length G.cO], .int .i64 k] W fun r w' => r = .returned (.tuple #[.slice none 0 0, .int .i64 x]) ∧ Below W.heap.size W w') :
    Calls Tryz.prog 7 #[.agg #[.int .i64 G.I, .slice G.AF G.fl.length G.cF, .slice G.AA G.an.length G.cA, .slice G.AO G.ou.length G.cO], .int .i64 k] w fun r w' => r = .returned (.tuple #[.agg #[.int .i64 0, .slice none 0 0, .slice none 0 0, .slice none 0 0], .int .i64 x]) ∧ Below w.heap.size w w' := by
  have B0 := Lib.hid (below_then (below_new w (.cells #[.int .i64 G.I, .slice G.AF G.fl.length G.cF, .slice G.AA G.an.length G.cA, .slice G.AO G.ou.length G.cO] 26)) (below_new _ (.cells #[.int .i64 0, .slice none 0 0, .slice none 0 0, .slice none 0 0] 32)))
  have X0 := Lib.hid ((Blk.made w 26 #[.int .i64 G.I, .slice G.AF G.fl.length G.cF, .slice G.AA G.an.length G.cA, .slice G.AO G.ou.length G.cO]).alloc (.cells #[.int .i64 0, .slice none 0 0, .slice none 0 0, .slice none 0 0] 32))
  have R0 := Lib.hid (blk_made1 w (.cells #[.int .i64 G.I, .slice G.AF G.fl.length G.cF, .slice G.AA G.an.length G.cA, .slice G.AO G.ou.length G.cO] 26) 32 #[.int .i64 0, .slice none 0 0, .slice none 0 0, .slice none 0 0])
  have HC := Lib.hid (hall _ B0.out)
  have k0 := X0.out.cell 0
  have k1 := X0.out.cell 1
  have k2 := X0.out.cell 2
  have k3 := X0.out.cell 3
  have hx0 : ¬ x = 0 := by omega
  clear hall hx
  go_enter Tryz.func7, Tryz.ntmps7
  go_wp2_with fail
  refine HC.out.mono ?_
  rintro e w2 ⟨rfl, hb2⟩
  have R2 := Lib.hid (R0.out.keep hb2)
  have B2 := Lib.hid (below_then B0.out hb2)
  clear hb2 HC k0 k1 k2 k3
  have r0 := R2.out.cell 0
  have r1 := R2.out.cell 1
  have r2 := R2.out.cell 2
  have r3 := R2.out.cell 3
  have f0 := R2.out.free 0
  have f1 := R2.out.free 1
  have f2 := R2.out.free 2
  have f3 := R2.out.free 3
  go_wp2_with fail
  refine bodyPost_ret (results_net rfl _ _ (w.heap.size + 1) _ _ _ _ rfl (set4n R2.out _ _ _ _)) rfl ?_
  refine ⟨rfl, (Chg.sets w2 (w.heap.size + 1) _ _ _ _).below B2.out B2.out.size (fun k hk => by rw [hk]; exact Nat.le_succ _)⟩
theorem rmap25_any (G : AG) (k : Int) (w : World) (hin : G.In w) (hf : fewG25 G) :
    Calls Tryz.prog 7 #[.agg #[.int .i64 G.I, .slice G.AF G.fl.length G.cF, .slice G.AA G.an.length G.cA, .slice G.AO G.ou.length G.cO], .int .i64 k] w (MapAns G k w) := by
  by_cases hi : 65536 < G.I
  · have e : G.errM k = 2 := if_pos hi
    refine (rmap25_err G k 2 w (.inr rfl) (fun W _ => rall24_big G k W hi)).mono fun r w' h => ⟨fun h0 => by omega, fun _ => by rw [e]; exact h⟩
  · have hfit := fewG25_fit hf (by omega)
    by_cases hm : G.may k
    · have e : G.errM k = 0 := by unfold AG.errM; rw [if_neg hi, if_pos hm]
      exact (rmap25_yes G k w hin hfit hm).mono fun r w' h => ⟨fun _ => h, fun h0 => absurd e h0⟩
    · have e : G.errM k = 1 := by unfold AG.errM; rw [if_neg hi, if_neg hm]
      refine (rmap25_err G k 1 w (.inl rfl) (fun W hW => (rall24_any G k W (hin.later hW) hfit).mono fun r w' h => h.2 hm)).mono fun r w' h => ⟨fun h0 => by omega, fun _ => by rw [e]; exact h⟩
end Go.Proofs.YtaajnmggbhnndaaGreatDoor
