/- cuts.Check. -/
import Derived.Test.YtkhlllbceceikaaDoorCTbl
import Derived.Test.YtkhlllbceceikaaDoorRCut
namespace Go.Proofs.YtkhlllbceceikaaDoor
open Go.RowKit
set_option linter.unusedVariables false
set_option linter.unusedSimpArgs false

set_option maxRecDepth 100000 in
set_option maxHeartbeats 1000000 in
theorem ccheck24_any (G : AG) (A : Option Addr) (c : Nat) (l : List Int) (node : Int) (t : Nat) (w : World) (hin : G.In w) (hf : G.fit) (hw : G.wf) (hr : Rd w 1 A l.length c (ints l)) (hl : l.length ≤ 1000000) (hcols : COLS w) :
    Calls Tryd.prog 17 #[.agg #[.int .i64 G.I, .slice G.AF G.fl.length G.cF, .slice G.AA G.an.length G.cA, .slice G.AO G.ou.length G.cO], .int .i64 node, .agg #[.slice A l.length c, .int .u64 (t : Int)]] w fun r w' => r = .returned (.int .i64 (cutE (G.good l node) t)) ∧ Below w.heap.size w w' := by
  have X0 := Lib.hid (Blk.made w 26 #[.int .i64 G.I, .slice G.AF G.fl.length G.cF, .slice G.AA G.an.length G.cA, .slice G.AO G.ou.length G.cO])
  have B0 := Lib.hid (below_new w (.cells #[.int .i64 G.I, .slice G.AF G.fl.length G.cF, .slice G.AA G.an.length G.cA, .slice G.AO G.ou.length G.cO] 26))
  have hz0 := X0.out.lt
  have HT := fun (W : World) (hB : Below w.heap.size w W) => ctbl_any G A c l node W (hin.later hB) hf hw (hr.later hB) hl (hcols.below hB)
  unfold TblOut at HT
  have HT := Lib.hid HT
  obtain ⟨o, ho⟩ : ∃ o, G.good l node = o := ⟨_, rfl⟩
  rw [ho] at HT ⊢
  clear ho
  obtain ⟨R, hR⟩ : ∃ R, cutE o t = R := ⟨_, rfl⟩
  rw [hR]
  have HR := Lib.hid hR
  clear hR
  have k0 := X0.out.cell 0
  have k1 := X0.out.cell 1
  have k2 := X0.out.cell 2
  have k3 := X0.out.cell 3
  have X1 := Lib.hid (X0.out.alloc (.cells #[.slice A l.length c, .int .u64 (t : Int)] 34))
  have Y1 := Lib.hid (Blk.made (w.alloc (.cells #[.int .i64 G.I, .slice G.AF G.fl.length G.cF, .slice G.AA G.an.length G.cA, .slice G.AO G.ou.length G.cO] 26)) 34 #[.slice A l.length c, .int .u64 (t : Int)])
  have B1 := Lib.hid (below_then B0.out (below_new _ (.cells #[.slice A l.length c, .int .u64 (t : Int)] 34)))
  rw [show (w.alloc (.cells #[.int .i64 G.I, .slice G.AF G.fl.length G.cF, .slice G.AA G.an.length G.cA, .slice G.AO G.ou.length G.cO] 26)).heap.size = w.heap.size + 1 by simp] at Y1
  go_enter Tryd.func17, Tryd.ntmps17
  go_upto_region 1 with (fail)
  clear k0 k1 k2 k3
  generalize (w.alloc (.cells #[.int .i64 G.I, .slice G.AF G.fl.length G.cF, .slice G.AA G.an.length G.cA, .slice G.AO G.ou.length G.cO] 26)).alloc (.cells #[.slice A l.length c, .int .u64 (t : Int)] 34) = w1 at X1 Y1 B1 ⊢
  have c0 := X1.out.cell 0
  have c1 := X1.out.cell 1
  have c2 := X1.out.cell 2
  have c3 := X1.out.cell 3
  have d0 := Y1.out.cell 0
  clear hz0 X0 B0
  go_wp2_with fail
  refine (HT.out _ B1.out).mono ?_
  rintro e w2 ⟨rfl, hb2⟩
  have B2 := Lib.hid (below_then B1.out hb2)
  have Y2 := Lib.hid (Y1.out.keep hb2)
  clear hb2 c0 c1 c2 c3 d0
  have d1 := Y2.out.cell 1
  cases o with
  | none =>
    simp only [optV, optE, Option.getD_none, Option.isSome_none, Bool.false_eq_true, if_false]
    have HQ := Lib.hid (show R = 1 from HR.out.symm)
    go_wp2_with fail
    go_ret
    exact ⟨by rw [HQ.out]; rfl, B2.out⟩
  | some v =>
    simp only [optV, optE, Option.getD_some, Option.isSome_some, if_true]
    by_cases hv : v = t
    · have hv1 : ((v : Int) == (t : Int)) = true := by simp; omega
      have HQ := Lib.hid (show R = 0 by rw [← HR.out]; simp [cutE, hv])
      clear hv
      go_wp2_with fail
      go_ret
      exact ⟨by rw [HQ.out]; rfl, B2.out⟩
    · have hv2 : ¬ (v : Int) = (t : Int) := by omega
      have hv1 : ((v : Int) == (t : Int)) = false := by simp; omega
      have HQ := Lib.hid (show R = 1 by rw [← HR.out]; simp [cutE, hv])
      go_wp2_with fail
      go_ret
      exact ⟨by rw [HQ.out]; rfl, B2.out⟩
end Go.Proofs.YtkhlllbceceikaaDoor
