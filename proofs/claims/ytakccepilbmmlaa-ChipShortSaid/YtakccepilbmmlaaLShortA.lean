/- Walks towards the law ChipShort: the ways on which nothing is asked. -/
import Derived.Test.YtakccepilbmmlaaFrame
import Derived.Test.YtakccepilbmmlaaLWhat
import Derived.Test.YtakccepilbmmlaaOpenC
import Derived.Test.YtakccepilbmmlaaFew32
import Derived.Test.YtakccepilbmmlaaLive32
import Derived.Test.YtakccepilbmmlaaShortC
import Derived.BigQuiet
import Derived.Deep.QuietTactic
namespace Go.Proofs.Ytakccepilbmmlaa
open Go.ChangeShapes Go.WideShapes Go.ChangeAt Go.RowKit Go.Joins
set_option linter.unusedVariables false
set_option linter.unusedSimpArgs false

theorem drv_n (C : Cfg) (w : World) (hin : C.In w) (hf : C.few) (h : ¬ C.ok) : Calls Try.prog 18 #[.agg #[.int .i64 C.W, .int .i64 C.H, .int .i64 C.T, .slice C.AT C.tiles.length C.cT, .slice C.AO C.on.length C.cO, .slice C.AI C.ins.length C.cI, .slice C.AU C.outs.length C.cU]] w fun e w' => e = .returned (.tuple #[.slice none 0 0, .int .i64 1]) ∧ Below w.heap.size w w' := drivers_no C w hin hf h
theorem drv_s (C : Cfg) (w : World) (hin : C.In w) (hf : C.few) (h : C.ok) (hn : ¬ (labs C).Nodup) : Calls Try.prog 18 #[.agg #[.int .i64 C.W, .int .i64 C.H, .int .i64 C.T, .slice C.AT C.tiles.length C.cT, .slice C.AO C.on.length C.cO, .slice C.AI C.ins.length C.cI, .slice C.AU C.outs.length C.cU]] w fun e w' => e = .returned (.tuple #[.slice none 0 0, .int .i64 320]) ∧ Below w.heap.size w w' :=
  Calls.mono (drivers_yes C w hin hf h) fun e w' hd => ⟨hd.2.1 hn, hd.1⟩
theorem drv_y (C : Cfg) (w : World) (hin : C.In w) (hf : C.few) (h : C.ok) (hn : (labs C).Nodup) : Calls Try.prog 18 #[.agg #[.int .i64 C.W, .int .i64 C.H, .int .i64 C.T, .slice C.AT C.tiles.length C.cT, .slice C.AO C.on.length C.cO, .slice C.AI C.ins.length C.cI, .slice C.AU C.outs.length C.cU]] w fun e w' => ∃ g N, e = .returned (.tuple #[.slice (some ⟨g, 0, none⟩) N N, .int .i64 0]) ∧ nodesI C.W C.H C.T = (N : Int) ∧ w.heap.size ≤ g ∧ Below w.heap.size w w' ∧ w'.ownsRow g 3 1 (.slice (some ⟨g, 0, none⟩) N N) N (ints (driversL C)) :=
  Calls.mono (drivers_yes C w hin hf h) fun e w' hd => by
    obtain ⟨g, N, h1, h2, h3, h4⟩ := hd.2.2 hn
    exact ⟨g, N, h1, h2, h3, hd.1, h4⟩

set_option maxRecDepth 100000 in
set_option maxHeartbeats 4000000 in
theorem chipShort_large (C : Cfg) (at_ : Int) (w : World) (hin : C.In w) (hs : ¬ few32 C) :
    Calls Try.prog 4 #[.agg #[.int .i64 C.W, .int .i64 C.H, .int .i64 C.T, .slice C.AT C.tiles.length C.cT, .slice C.AO C.on.length C.cO, .slice C.AI C.ins.length C.cI, .slice C.AU C.outs.length C.cU], .int .i64 at_] w fun e w' => e = .returned (.bool true) ∧ Below w.heap.size w w' := by
  have Q0 := below_new w (.cells #[.int .i64 C.W, .int .i64 C.H, .int .i64 C.T, .slice C.AT C.tiles.length C.cT, .slice C.AO C.on.length C.cO, .slice C.AI C.ins.length C.cI, .slice C.AU C.outs.length C.cU] 28)
  have B0 := Box7.new w C 28
  have HI := Lib.hid hin
  clear hin
  go_enter Try.func4, Try.ntmps4
  go_wp2_with fail
  refine (live32_any _).mono ?_
  rintro e w1 ⟨rfl, hb1⟩
  have Q1 := below_then Q0 hb1
  have B1 := Box7.below B0 hb1
  clear hb1
  obtain ⟨z1, k10, k11, k12, k13, k14, k15, k16⟩ := id B1
  go_wp2_with fail
  refine (few32_no _ _ hs).mono ?_
  rintro e w2 ⟨rfl, hb2⟩
  have Q2 := below_then Q1 hb2
  have B2 := Box7.below B1 hb2
  clear hb2
  obtain ⟨z2, k20, k21, k22, k23, k24, k25, k26⟩ := id B2
  go_wp2_with fail
  go_ret
  exact ⟨rfl, Q2⟩

set_option maxRecDepth 100000 in
set_option maxHeartbeats 4000000 in
theorem chipShort_low (C : Cfg) (at_ : Int) (w : World) (hin : C.In w) (hs : few32 C) (ha : at_ < 0) :
    Calls Try.prog 4 #[.agg #[.int .i64 C.W, .int .i64 C.H, .int .i64 C.T, .slice C.AT C.tiles.length C.cT, .slice C.AO C.on.length C.cO, .slice C.AI C.ins.length C.cI, .slice C.AU C.outs.length C.cU], .int .i64 at_] w fun e w' => e = .returned (.bool true) ∧ Below w.heap.size w w' := by
  have Q0 := below_new w (.cells #[.int .i64 C.W, .int .i64 C.H, .int .i64 C.T, .slice C.AT C.tiles.length C.cT, .slice C.AO C.on.length C.cO, .slice C.AI C.ins.length C.cI, .slice C.AU C.outs.length C.cU] 28)
  have B0 := Box7.new w C 28
  have HI := Lib.hid hin
  clear hin
  go_enter Try.func4, Try.ntmps4
  go_wp2_with fail
  refine (live32_any _).mono ?_
  rintro e w1 ⟨rfl, hb1⟩
  have Q1 := below_then Q0 hb1
  have B1 := Box7.below B0 hb1
  clear hb1
  obtain ⟨z1, k10, k11, k12, k13, k14, k15, k16⟩ := id B1
  go_wp2_with fail
  refine (few32_yes _ _ hs).mono ?_
  rintro e w2 ⟨rfl, hb2⟩
  have Q2 := below_then Q1 hb2
  have B2 := Box7.below B1 hb2
  clear hb2
  obtain ⟨z2, k20, k21, k22, k23, k24, k25, k26⟩ := id B2
  go_wp2_with fail
  go_ret
  exact ⟨rfl, Q2⟩

set_option maxRecDepth 100000 in
set_option maxHeartbeats 4000000 in
theorem chipShort_high (C : Cfg) (at_ : Int) (w : World) (hin : C.In w) (hs : few32 C) (ha : 0 ≤ at_) (hb : (C.on.length : Int) ≤ at_) :
    Calls Try.prog 4 #[.agg #[.int .i64 C.W, .int .i64 C.H, .int .i64 C.T, .slice C.AT C.tiles.length C.cT, .slice C.AO C.on.length C.cO, .slice C.AI C.ins.length C.cI, .slice C.AU C.outs.length C.cU], .int .i64 at_] w fun e w' => e = .returned (.bool true) ∧ Below w.heap.size w w' := by
  have Q0 := below_new w (.cells #[.int .i64 C.W, .int .i64 C.H, .int .i64 C.T, .slice C.AT C.tiles.length C.cT, .slice C.AO C.on.length C.cO, .slice C.AI C.ins.length C.cI, .slice C.AU C.outs.length C.cU] 28)
  have B0 := Box7.new w C 28
  have HI := Lib.hid hin
  clear hin
  have hd : decide ((C.on.length : Int) ≤ at_) = true := decide_eq_true hb
  go_enter Try.func4, Try.ntmps4
  go_wp2_with fail
  refine (live32_any _).mono ?_
  rintro e w1 ⟨rfl, hb1⟩
  have Q1 := below_then Q0 hb1
  have B1 := Box7.below B0 hb1
  clear hb1
  obtain ⟨z1, k10, k11, k12, k13, k14, k15, k16⟩ := id B1
  go_wp2_with fail
  refine (few32_yes _ _ hs).mono ?_
  rintro e w2 ⟨rfl, hb2⟩
  have Q2 := below_then Q1 hb2
  have B2 := Box7.below B1 hb2
  clear hb2
  obtain ⟨z2, k20, k21, k22, k23, k24, k25, k26⟩ := id B2
  go_wp2_with fail
  go_ret
  exact ⟨rfl, Q2⟩

set_option maxRecDepth 100000 in
set_option maxHeartbeats 4000000 in
theorem chipShort_no (C : Cfg) (at_ : Int) (w : World) (hin : C.In w) (hs : few32 C) (ha : 0 ≤ at_) (hb : at_ < (C.on.length : Int)) (h : ¬ C.ok) :
    Calls Try.prog 4 #[.agg #[.int .i64 C.W, .int .i64 C.H, .int .i64 C.T, .slice C.AT C.tiles.length C.cT, .slice C.AO C.on.length C.cO, .slice C.AI C.ins.length C.cI, .slice C.AU C.outs.length C.cU], .int .i64 at_] w fun e w' => e = .returned (.bool true) ∧ Below w.heap.size w w' := by
  have Q0 := below_new w (.cells #[.int .i64 C.W, .int .i64 C.H, .int .i64 C.T, .slice C.AT C.tiles.length C.cT, .slice C.AO C.on.length C.cO, .slice C.AI C.ins.length C.cI, .slice C.AU C.outs.length C.cU] 28)
  have B0 := Box7.new w C 28
  have HI := Lib.hid hin
  clear hin
  have hd : decide ((C.on.length : Int) ≤ at_) = false := decide_eq_false (by omega)
  go_enter Try.func4, Try.ntmps4
  go_wp2_with fail
  refine (live32_any _).mono ?_
  rintro e w1 ⟨rfl, hb1⟩
  have Q1 := below_then Q0 hb1
  have B1 := Box7.below B0 hb1
  clear hb1
  obtain ⟨z1, k10, k11, k12, k13, k14, k15, k16⟩ := id B1
  go_wp2_with fail
  refine (few32_yes _ _ hs).mono ?_
  rintro e w2 ⟨rfl, hb2⟩
  have Q2 := below_then Q1 hb2
  have B2 := Box7.below B1 hb2
  clear hb2
  obtain ⟨z2, k20, k21, k22, k23, k24, k25, k26⟩ := id B2
  go_wp2_with fail
  refine (drv_n _ _ (HI.out.later Q2) (few32_few hs) h).mono ?_
  rintro e w3 ⟨rfl, hb3⟩
  have Q3 := below_then Q2 hb3
  have B3 := Box7.below B2 hb3
  clear hb3
  obtain ⟨z3, k30, k31, k32, k33, k34, k35, k36⟩ := id B3
  go_wp2_with fail
  go_ret
  exact ⟨rfl, Q3⟩

set_option maxRecDepth 100000 in
set_option maxHeartbeats 4000000 in
theorem chipShort_short (C : Cfg) (at_ : Int) (w : World) (hin : C.In w) (hs : few32 C) (ha : 0 ≤ at_) (hb : at_ < (C.on.length : Int)) (h : C.ok) (hn : ¬ (labs C).Nodup) :
    Calls Try.prog 4 #[.agg #[.int .i64 C.W, .int .i64 C.H, .int .i64 C.T, .slice C.AT C.tiles.length C.cT, .slice C.AO C.on.length C.cO, .slice C.AI C.ins.length C.cI, .slice C.AU C.outs.length C.cU], .int .i64 at_] w fun e w' => e = .returned (.bool true) ∧ Below w.heap.size w w' := by
  have Q0 := below_new w (.cells #[.int .i64 C.W, .int .i64 C.H, .int .i64 C.T, .slice C.AT C.tiles.length C.cT, .slice C.AO C.on.length C.cO, .slice C.AI C.ins.length C.cI, .slice C.AU C.outs.length C.cU] 28)
  have B0 := Box7.new w C 28
  have HI := Lib.hid hin
  clear hin
  have hd : decide ((C.on.length : Int) ≤ at_) = false := decide_eq_false (by omega)
  go_enter Try.func4, Try.ntmps4
  go_wp2_with fail
  refine (live32_any _).mono ?_
  rintro e w1 ⟨rfl, hb1⟩
  have Q1 := below_then Q0 hb1
  have B1 := Box7.below B0 hb1
  clear hb1
  obtain ⟨z1, k10, k11, k12, k13, k14, k15, k16⟩ := id B1
  go_wp2_with fail
  refine (few32_yes _ _ hs).mono ?_
  rintro e w2 ⟨rfl, hb2⟩
  have Q2 := below_then Q1 hb2
  have B2 := Box7.below B1 hb2
  clear hb2
  obtain ⟨z2, k20, k21, k22, k23, k24, k25, k26⟩ := id B2
  go_wp2_with fail
  refine (drv_s _ _ (HI.out.later Q2) (few32_few hs) h hn).mono ?_
  rintro e w3 ⟨rfl, hb3⟩
  have Q3 := below_then Q2 hb3
  have B3 := Box7.below B2 hb3
  clear hb3
  obtain ⟨z3, k30, k31, k32, k33, k34, k35, k36⟩ := id B3
  go_wp2_with fail
  go_ret
  exact ⟨rfl, Q3⟩
end Go.Proofs.Ytakccepilbmmlaa
