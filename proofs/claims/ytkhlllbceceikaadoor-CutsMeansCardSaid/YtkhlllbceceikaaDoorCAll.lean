/- cuts.All, cuts.Depths. -/
import Derived.Test.YtkhlllbceceikaaDoorCBoth
namespace Go.Proofs.YtkhlllbceceikaaDoor
open Go.RowKit
set_option linter.unusedVariables false
set_option linter.unusedSimpArgs false
set_option maxRecDepth 100000 in
set_option maxHeartbeats 1000000 in
theorem call_any (G : AG) (k : Int) (w : World) (hin : G.In w) (hf : G.fit) (hw : G.wf) (hcols : COLS w) :
    Calls Tryd.prog 20 #[.agg #[.int .i64 G.I, .slice G.AF G.fl.length G.cF, .slice G.AA G.an.length G.cA, .slice G.AO G.ou.length G.cO], .int .i64 k] w (AllOut G k w) := by
  have X0 := Lib.hid (Blk.made w 26 #[.int .i64 G.I, .slice G.AF G.fl.length G.cF, .slice G.AA G.an.length G.cA, .slice G.AO G.ou.length G.cO])
  have B0 := Lib.hid (below_new w (.cells #[.int .i64 G.I, .slice G.AF G.fl.length G.cF, .slice G.AA G.an.length G.cA, .slice G.AO G.ou.length G.cO] 26))
  have c0 := X0.out.cell 0
  have c1 := X0.out.cell 1
  have c2 := X0.out.cell 2
  have c3 := X0.out.cell 3
  by_cases hm : G.may k
  case neg =>
    have HM := Lib.hid (fun (W : World) (hB : Below w.heap.size w W) => cboth_no G k W (hin.later hB) hf hw hm)
    have HN := Lib.hid hm
    clear hin hf hw hm hcols
    go_enter Tryd.func20, Tryd.ntmps20
    go_wp2_with fail
    refine (HM.out _ B0.out).mono ?_
    rintro e w1 ⟨rfl, hb1⟩
    have B1 := Lib.hid (below_then B0.out hb1)
    clear hb1
    go_wp2_with fail
    go_ret2
    exact ⟨fun h => absurd h HN.out, fun _ => ⟨rfl, B1.out⟩⟩
  have HB := Lib.hid (fun (W : World) (hB : Below w.heap.size w W) => cboth_yes G k W (hin.later hB) hf hw hm (hcols.below hB))
  have HY := Lib.hid hm
  clear hin hf hw hm hcols
  go_enter Tryd.func20, Tryd.ntmps20
  go_wp2_with fail
  refine (HB.out _ B0.out).mono ?_
  rintro e w2 ⟨AO, cO, rs, AD, cD, rfl, hst⟩
  have HS := Lib.hid (hst.back B0.out)
  clear hst c0 c1 c2 c3
  go_wp2_with fail
  go_ret2
  exact ⟨fun _ => ⟨AO, cO, rs, AD, cD, rfl, HS.out⟩, fun h => absurd HY.out h⟩
set_option maxRecDepth 100000 in
set_option maxHeartbeats 1000000 in
theorem cdepths_any (G : AG) (k : Int) (w : World) (hin : G.In w) (hf : G.fit) (hw : G.wf) (hcols : COLS w) :
    Calls Tryd.prog 22 #[.agg #[.int .i64 G.I, .slice G.AF G.fl.length G.cF, .slice G.AA G.an.length G.cA, .slice G.AO G.ou.length G.cO], .int .i64 k] w (DepOut G k w) := by
  have X0 := Lib.hid (Blk.made w 26 #[.int .i64 G.I, .slice G.AF G.fl.length G.cF, .slice G.AA G.an.length G.cA, .slice G.AO G.ou.length G.cO])
  have B0 := Lib.hid (below_new w (.cells #[.int .i64 G.I, .slice G.AF G.fl.length G.cF, .slice G.AA G.an.length G.cA, .slice G.AO G.ou.length G.cO] 26))
  have c0 := X0.out.cell 0
  have c1 := X0.out.cell 1
  have c2 := X0.out.cell 2
  have c3 := X0.out.cell 3
  by_cases hm : G.may k
  case neg =>
    have HM := Lib.hid (fun (W : World) (hB : Below w.heap.size w W) => cboth_no G k W (hin.later hB) hf hw hm)
    have HN := Lib.hid hm
    clear hin hf hw hm hcols
    go_enter Tryd.func22, Tryd.ntmps22
    go_wp2_with fail
    refine (HM.out _ B0.out).mono ?_
    rintro e w1 ⟨rfl, hb1⟩
    have B1 := Lib.hid (below_then B0.out hb1)
    clear hb1
    go_wp2_with fail
    go_ret2
    exact ⟨fun h => absurd h HN.out, fun _ => ⟨rfl, B1.out⟩⟩
  have HB := Lib.hid (fun (W : World) (hB : Below w.heap.size w W) => cboth_yes G k W (hin.later hB) hf hw hm (hcols.below hB))
  have HY := Lib.hid hm
  clear hin hf hw hm hcols
  go_enter Tryd.func22, Tryd.ntmps22
  go_wp2_with fail
  refine (HB.out _ B0.out).mono ?_
  rintro e w2 ⟨AO, cO, rs, AD, cD, rfl, hst⟩
  have HS := Lib.hid (hst.back B0.out)
  clear hst c0 c1 c2 c3
  go_wp2_with fail
  go_ret2
  exact ⟨fun _ => ⟨AO, cO, rs, AD, cD, rfl, HS.out⟩, fun h => absurd HY.out h⟩
end Go.Proofs.YtkhlllbceceikaaDoor
