/- The law FabricBack: each node is what is told of it, and what is told of anything that there is is its node. For every fabric and all numbers; no condition. -/
import Derived.Test.YtfeogkiemjmocaaFrame
import Derived.Test.YtfeogkiemjmocaaLWhat
import Derived.Test.YtfeogkiemjmocaaBox
import Derived.Test.YtfeogkiemjmocaaFabQ
import Derived.Deep.RegionHeld3
namespace Go.Proofs.Ytfeogkiemjmocaa
open Go.ChangeShapes Go.WideShapes Go.ChangeAt Go.RowKit Go.Joins
set_option linter.unusedVariables false
set_option linter.unusedSimpArgs false

set_option maxHeartbeats 400000 in
theorem of_none_any (W H T kd x y t : Int) (w : World) (h : kd < 1 ∨ 5 < kd) :
    Calls Try.prog 31 #[.agg #[.int .i64 W, .int .i64 H, .int .i64 T], .int .i64 kd, .int .i64 x, .int .i64 y, .int .i64 t] w fun e w' => e = .returned (.tuple #[.int .i64 0, .bool false]) ∧ Below w.heap.size w w' := by
  have h1 : (kd == 1) = false := by simp; omega
  have h2 : (kd == 2) = false := by simp; omega
  have h3 : (kd == 3) = false := by simp; omega
  have h4 : (kd == 4) = false := by simp; omega
  have h5 : (kd == 5) = false := by simp; omega
  clear h
  go_enter Try.func31, Try.ntmps31
  go_wp2_with fail
  go_ret2
  exact ⟨rfl, below_new w _⟩

set_option maxHeartbeats 400000 in
theorem of_0_any (W H T x y t : Int) (w : World) :
    Calls Try.prog 31 #[.agg #[.int .i64 W, .int .i64 H, .int .i64 T], .int .i64 1, .int .i64 x, .int .i64 y, .int .i64 t] w fun e w' => e = .returned (.tuple #[.int .i64 (nodeN W H T 0 x y 0), .bool (nodeE W H T 0 x y 0 == 0)]) ∧ Below w.heap.size w w' := by
  go_enter Try.func31, Try.ntmps31
  go_wp2_with (go_at_call 15; refine (out_any _ _ _ _ _ _).mono ?_; rintro e w1 ⟨rfl, hb1⟩)
  go_ret2
  exact ⟨rfl, below_then (below_new w _) hb1⟩

set_option maxHeartbeats 400000 in
theorem of_1_any (W H T x y t : Int) (w : World) :
    Calls Try.prog 31 #[.agg #[.int .i64 W, .int .i64 H, .int .i64 T], .int .i64 2, .int .i64 x, .int .i64 y, .int .i64 t] w fun e w' => e = .returned (.tuple #[.int .i64 (nodeN W H T 1 x y t), .bool (nodeE W H T 1 x y t == 0)]) ∧ Below w.heap.size w w' := by
  go_enter Try.func31, Try.ntmps31
  go_wp2_with (go_at_call 17; refine (inn_any _ _ _ _ _ _ _).mono ?_; rintro e w1 ⟨rfl, hb1⟩)
  go_ret2
  exact ⟨rfl, below_then (below_new w _) hb1⟩

set_option maxHeartbeats 400000 in
theorem of_2_any (W H T x y t : Int) (w : World) :
    Calls Try.prog 31 #[.agg #[.int .i64 W, .int .i64 H, .int .i64 T], .int .i64 3, .int .i64 x, .int .i64 y, .int .i64 t] w fun e w' => e = .returned (.tuple #[.int .i64 (nodeN W H T 2 x 0 0), .bool (nodeE W H T 2 x 0 0 == 0)]) ∧ Below w.heap.size w w' := by
  go_enter Try.func31, Try.ntmps31
  go_wp2_with (go_at_call 19; refine (pad_any _ _ _ _ _).mono ?_; rintro e w1 ⟨rfl, hb1⟩)
  go_ret2
  exact ⟨rfl, below_then (below_new w _) hb1⟩

set_option maxHeartbeats 400000 in
theorem of_3_any (W H T x y t : Int) (w : World) :
    Calls Try.prog 31 #[.agg #[.int .i64 W, .int .i64 H, .int .i64 T], .int .i64 4, .int .i64 x, .int .i64 y, .int .i64 t] w fun e w' => e = .returned (.tuple #[.int .i64 (nodeN W H T 3 x y t), .bool (nodeE W H T 3 x y t == 0)]) ∧ Below w.heap.size w w' := by
  go_enter Try.func31, Try.ntmps31
  go_wp2_with (go_at_call 21; refine (hor_any _ _ _ _ _ _ _).mono ?_; rintro e w1 ⟨rfl, hb1⟩)
  go_ret2
  exact ⟨rfl, below_then (below_new w _) hb1⟩

set_option maxHeartbeats 400000 in
theorem of_4_any (W H T x y t : Int) (w : World) :
    Calls Try.prog 31 #[.agg #[.int .i64 W, .int .i64 H, .int .i64 T], .int .i64 5, .int .i64 x, .int .i64 y, .int .i64 t] w fun e w' => e = .returned (.tuple #[.int .i64 (nodeN W H T 4 x y t), .bool (nodeE W H T 4 x y t == 0)]) ∧ Below w.heap.size w w' := by
  go_enter Try.func31, Try.ntmps31
  go_wp2_with (go_at_call 23; refine (ver_any _ _ _ _ _ _ _).mono ?_; rintro e w1 ⟨rfl, hb1⟩)
  go_ret2
  exact ⟨rfl, below_then (below_new w _) hb1⟩

theorem of_any (W H T kd x y t : Int) (w : World) :
    Calls Try.prog 31 #[.agg #[.int .i64 W, .int .i64 H, .int .i64 T], .int .i64 kd, .int .i64 x, .int .i64 y, .int .i64 t] w fun e w' => e = .returned (.tuple #[.int .i64 (ofN W H T kd x y t), .bool (ofB W H T kd x y t)]) ∧ Below w.heap.size w w' := by
  by_cases h : 1 ≤ kd ∧ kd ≤ 5
  · have h5 : kd = 1 ∨ kd = 2 ∨ kd = 3 ∨ kd = 4 ∨ kd = 5 := by omega
    rcases h5 with rfl | rfl | rfl | rfl | rfl
    · exact of_0_any W H T x y t w
    · exact of_1_any W H T x y t w
    · exact of_2_any W H T x y t w
    · exact of_3_any W H T x y t w
    · exact of_4_any W H T x y t w
  · have e1 : ofN W H T kd x y t = 0 := if_neg h
    have e2 : ofB W H T kd x y t = false := if_neg h
    rw [e1, e2]
    exact of_none_any W H T kd x y t w (by omega)

set_option maxRecDepth 100000 in
set_option maxHeartbeats 2000000 in
theorem back_y_none (W H T n kd x y t : Int) (w : World) (g1 : ofN W H T (whK W H T n) (whX W H T n) (whY W H T n) (whT W H T n) = n) (g2 : ofB W H T (whK W H T n) (whX W H T n) (whY W H T n) (whT W H T n) = true) (g3 : whE W H T n = 0) (g4 : 0 ≤ n) (g5 : n < nodesO W H T) (f0 : ofB W H T kd x y t = false) (f1 : ofN W H T kd x y t = 0) :
    Calls Try.prog 5 #[.agg #[.int .i64 W, .int .i64 H, .int .i64 T], .int .i64 n, .int .i64 kd, .int .i64 x, .int .i64 y, .int .i64 t] w fun e w' => e = .returned (.bool true) ∧ Below w.heap.size w w' := by
  have Q0 := below_new w (.cells #[.int .i64 W, .int .i64 H, .int .i64 T] 23)
  have B0 := Box3.new w (.int .i64 W) (.int .i64 H) (.int .i64 T) 23
  go_enter Try.func5, Try.ntmps5
  go_wp2_with fail
  refine (live_any _).mono ?_
  rintro e w1 ⟨rfl, hb1⟩
  have Q1 := below_then Q0 hb1
  have B1 := Box3.below B0 hb1
  clear hb1
  obtain ⟨z1, k10, k11, k12⟩ := id B1
  go_wp2_with fail
  refine (what_any _ _ _ _ _).mono ?_
  rintro e w2 ⟨rfl, hb2⟩
  have Q2 := below_then Q1 hb2
  have B2 := Box3.below B1 hb2
  clear hb2
  obtain ⟨z2, k20, k21, k22⟩ := id B2
  go_wp2_with fail
  refine (of_any _ _ _ _ _ _ _ _).mono ?_
  rintro e w3 ⟨rfl, hb3⟩
  have Q3 := below_then Q2 hb3
  have B3 := Box3.below B2 hb3
  clear hb3
  obtain ⟨z3, k30, k31, k32⟩ := id B3
  go_wp2_with fail
  refine (nodes_any _ _ _ _).mono ?_
  rintro e w4 ⟨rfl, hb4⟩
  have Q4 := below_then Q3 hb4
  have B4 := Box3.below B3 hb4
  clear hb4
  obtain ⟨z4, k40, k41, k42⟩ := id B4
  go_wp2_with fail
  refine (of_any _ _ _ _ _ _ _ _).mono ?_
  rintro e w5 ⟨rfl, hb5⟩
  have Q5 := below_then Q4 hb5
  have B5 := Box3.below B4 hb5
  clear hb5
  obtain ⟨z5, k50, k51, k52⟩ := id B5
  go_wp2_with fail
  go_ret
  exact ⟨rfl, Q5⟩

set_option maxRecDepth 100000 in
set_option maxHeartbeats 2000000 in
theorem back_y_pad (W H T n kd x y t : Int) (w : World) (g1 : ofN W H T (whK W H T n) (whX W H T n) (whY W H T n) (whT W H T n) = n) (g2 : ofB W H T (whK W H T n) (whX W H T n) (whY W H T n) (whT W H T n) = true) (g3 : whE W H T n = 0) (g4 : 0 ≤ n) (g5 : n < nodesO W H T) (f0 : ofB W H T kd x y t = true) (f1 : whE W H T (ofN W H T kd x y t) = 0) (f2 : whK W H T (ofN W H T kd x y t) = kd) (f3 : whX W H T (ofN W H T kd x y t) = x) (f4 : (kd == 3) = true) :
    Calls Try.prog 5 #[.agg #[.int .i64 W, .int .i64 H, .int .i64 T], .int .i64 n, .int .i64 kd, .int .i64 x, .int .i64 y, .int .i64 t] w fun e w' => e = .returned (.bool true) ∧ Below w.heap.size w w' := by
  have Q0 := below_new w (.cells #[.int .i64 W, .int .i64 H, .int .i64 T] 23)
  have B0 := Box3.new w (.int .i64 W) (.int .i64 H) (.int .i64 T) 23
  go_enter Try.func5, Try.ntmps5
  go_wp2_with fail
  refine (live_any _).mono ?_
  rintro e w1 ⟨rfl, hb1⟩
  have Q1 := below_then Q0 hb1
  have B1 := Box3.below B0 hb1
  clear hb1
  obtain ⟨z1, k10, k11, k12⟩ := id B1
  go_wp2_with fail
  refine (what_any _ _ _ _ _).mono ?_
  rintro e w2 ⟨rfl, hb2⟩
  have Q2 := below_then Q1 hb2
  have B2 := Box3.below B1 hb2
  clear hb2
  obtain ⟨z2, k20, k21, k22⟩ := id B2
  go_wp2_with fail
  refine (of_any _ _ _ _ _ _ _ _).mono ?_
  rintro e w3 ⟨rfl, hb3⟩
  have Q3 := below_then Q2 hb3
  have B3 := Box3.below B2 hb3
  clear hb3
  obtain ⟨z3, k30, k31, k32⟩ := id B3
  go_wp2_with fail
  refine (nodes_any _ _ _ _).mono ?_
  rintro e w4 ⟨rfl, hb4⟩
  have Q4 := below_then Q3 hb4
  have B4 := Box3.below B3 hb4
  clear hb4
  obtain ⟨z4, k40, k41, k42⟩ := id B4
  go_wp2_with fail
  refine (of_any _ _ _ _ _ _ _ _).mono ?_
  rintro e w5 ⟨rfl, hb5⟩
  have Q5 := below_then Q4 hb5
  have B5 := Box3.below B4 hb5
  clear hb5
  obtain ⟨z5, k50, k51, k52⟩ := id B5
  go_wp2_with fail
  refine (what_any _ _ _ _ _).mono ?_
  rintro e w6 ⟨rfl, hb6⟩
  have Q6 := below_then Q5 hb6
  have B6 := Box3.below B5 hb6
  clear hb6
  obtain ⟨z6, k60, k61, k62⟩ := id B6
  go_wp2_with fail
  go_ret
  exact ⟨rfl, Q6⟩

set_option maxRecDepth 100000 in
set_option maxHeartbeats 2000000 in
theorem back_y_out (W H T n kd x y t : Int) (w : World) (g1 : ofN W H T (whK W H T n) (whX W H T n) (whY W H T n) (whT W H T n) = n) (g2 : ofB W H T (whK W H T n) (whX W H T n) (whY W H T n) (whT W H T n) = true) (g3 : whE W H T n = 0) (g4 : 0 ≤ n) (g5 : n < nodesO W H T) (f0 : ofB W H T kd x y t = true) (f1 : whE W H T (ofN W H T kd x y t) = 0) (f2 : whK W H T (ofN W H T kd x y t) = kd) (f3 : whX W H T (ofN W H T kd x y t) = x) (f4 : (kd == 3) = false) (f5 : whY W H T (ofN W H T kd x y t) = y) (f6 : (kd == 1) = true) :
    Calls Try.prog 5 #[.agg #[.int .i64 W, .int .i64 H, .int .i64 T], .int .i64 n, .int .i64 kd, .int .i64 x, .int .i64 y, .int .i64 t] w fun e w' => e = .returned (.bool true) ∧ Below w.heap.size w w' := by
  have Q0 := below_new w (.cells #[.int .i64 W, .int .i64 H, .int .i64 T] 23)
  have B0 := Box3.new w (.int .i64 W) (.int .i64 H) (.int .i64 T) 23
  go_enter Try.func5, Try.ntmps5
  go_wp2_with fail
  refine (live_any _).mono ?_
  rintro e w1 ⟨rfl, hb1⟩
  have Q1 := below_then Q0 hb1
  have B1 := Box3.below B0 hb1
  clear hb1
  obtain ⟨z1, k10, k11, k12⟩ := id B1
  go_wp2_with fail
  refine (what_any _ _ _ _ _).mono ?_
  rintro e w2 ⟨rfl, hb2⟩
  have Q2 := below_then Q1 hb2
  have B2 := Box3.below B1 hb2
  clear hb2
  obtain ⟨z2, k20, k21, k22⟩ := id B2
  go_wp2_with fail
  refine (of_any _ _ _ _ _ _ _ _).mono ?_
  rintro e w3 ⟨rfl, hb3⟩
  have Q3 := below_then Q2 hb3
  have B3 := Box3.below B2 hb3
  clear hb3
  obtain ⟨z3, k30, k31, k32⟩ := id B3
  go_wp2_with fail
  refine (nodes_any _ _ _ _).mono ?_
  rintro e w4 ⟨rfl, hb4⟩
  have Q4 := below_then Q3 hb4
  have B4 := Box3.below B3 hb4
  clear hb4
  obtain ⟨z4, k40, k41, k42⟩ := id B4
  go_wp2_with fail
  refine (of_any _ _ _ _ _ _ _ _).mono ?_
  rintro e w5 ⟨rfl, hb5⟩
  have Q5 := below_then Q4 hb5
  have B5 := Box3.below B4 hb5
  clear hb5
  obtain ⟨z5, k50, k51, k52⟩ := id B5
  go_wp2_with fail
  refine (what_any _ _ _ _ _).mono ?_
  rintro e w6 ⟨rfl, hb6⟩
  have Q6 := below_then Q5 hb6
  have B6 := Box3.below B5 hb6
  clear hb6
  obtain ⟨z6, k60, k61, k62⟩ := id B6
  go_wp2_with fail
  go_ret
  exact ⟨rfl, Q6⟩

set_option maxRecDepth 100000 in
set_option maxHeartbeats 2000000 in
theorem back_y_tr (W H T n kd x y t : Int) (w : World) (g1 : ofN W H T (whK W H T n) (whX W H T n) (whY W H T n) (whT W H T n) = n) (g2 : ofB W H T (whK W H T n) (whX W H T n) (whY W H T n) (whT W H T n) = true) (g3 : whE W H T n = 0) (g4 : 0 ≤ n) (g5 : n < nodesO W H T) (f0 : ofB W H T kd x y t = true) (f1 : whE W H T (ofN W H T kd x y t) = 0) (f2 : whK W H T (ofN W H T kd x y t) = kd) (f3 : whX W H T (ofN W H T kd x y t) = x) (f4 : (kd == 3) = false) (f5 : whY W H T (ofN W H T kd x y t) = y) (f6 : (kd == 1) = false) (f7 : whT W H T (ofN W H T kd x y t) = t) :
    Calls Try.prog 5 #[.agg #[.int .i64 W, .int .i64 H, .int .i64 T], .int .i64 n, .int .i64 kd, .int .i64 x, .int .i64 y, .int .i64 t] w fun e w' => e = .returned (.bool true) ∧ Below w.heap.size w w' := by
  have Q0 := below_new w (.cells #[.int .i64 W, .int .i64 H, .int .i64 T] 23)
  have B0 := Box3.new w (.int .i64 W) (.int .i64 H) (.int .i64 T) 23
  go_enter Try.func5, Try.ntmps5
  go_wp2_with fail
  refine (live_any _).mono ?_
  rintro e w1 ⟨rfl, hb1⟩
  have Q1 := below_then Q0 hb1
  have B1 := Box3.below B0 hb1
  clear hb1
  obtain ⟨z1, k10, k11, k12⟩ := id B1
  go_wp2_with fail
  refine (what_any _ _ _ _ _).mono ?_
  rintro e w2 ⟨rfl, hb2⟩
  have Q2 := below_then Q1 hb2
  have B2 := Box3.below B1 hb2
  clear hb2
  obtain ⟨z2, k20, k21, k22⟩ := id B2
  go_wp2_with fail
  refine (of_any _ _ _ _ _ _ _ _).mono ?_
  rintro e w3 ⟨rfl, hb3⟩
  have Q3 := below_then Q2 hb3
  have B3 := Box3.below B2 hb3
  clear hb3
  obtain ⟨z3, k30, k31, k32⟩ := id B3
  go_wp2_with fail
  refine (nodes_any _ _ _ _).mono ?_
  rintro e w4 ⟨rfl, hb4⟩
  have Q4 := below_then Q3 hb4
  have B4 := Box3.below B3 hb4
  clear hb4
  obtain ⟨z4, k40, k41, k42⟩ := id B4
  go_wp2_with fail
  refine (of_any _ _ _ _ _ _ _ _).mono ?_
  rintro e w5 ⟨rfl, hb5⟩
  have Q5 := below_then Q4 hb5
  have B5 := Box3.below B4 hb5
  clear hb5
  obtain ⟨z5, k50, k51, k52⟩ := id B5
  go_wp2_with fail
  refine (what_any _ _ _ _ _).mono ?_
  rintro e w6 ⟨rfl, hb6⟩
  have Q6 := below_then Q5 hb6
  have B6 := Box3.below B5 hb6
  clear hb6
  obtain ⟨z6, k60, k61, k62⟩ := id B6
  go_wp2_with fail
  go_ret
  exact ⟨rfl, Q6⟩

set_option maxRecDepth 100000 in
set_option maxHeartbeats 2000000 in
theorem back_neg_none (W H T n kd x y t : Int) (w : World) (g1 : whK W H T n = 0) (g2 : whX W H T n = 0) (g3 : whY W H T n = 0) (g4 : whT W H T n = 0) (g5 : whE W H T n = 1) (g6 : n < 0) (f0 : ofB W H T kd x y t = false) (f1 : ofN W H T kd x y t = 0) :
    Calls Try.prog 5 #[.agg #[.int .i64 W, .int .i64 H, .int .i64 T], .int .i64 n, .int .i64 kd, .int .i64 x, .int .i64 y, .int .i64 t] w fun e w' => e = .returned (.bool true) ∧ Below w.heap.size w w' := by
  have Q0 := below_new w (.cells #[.int .i64 W, .int .i64 H, .int .i64 T] 23)
  have B0 := Box3.new w (.int .i64 W) (.int .i64 H) (.int .i64 T) 23
  go_enter Try.func5, Try.ntmps5
  go_wp2_with fail
  refine (live_any _).mono ?_
  rintro e w1 ⟨rfl, hb1⟩
  have Q1 := below_then Q0 hb1
  have B1 := Box3.below B0 hb1
  clear hb1
  obtain ⟨z1, k10, k11, k12⟩ := id B1
  go_wp2_with fail
  refine (what_any _ _ _ _ _).mono ?_
  rintro e w2 ⟨rfl, hb2⟩
  have Q2 := below_then Q1 hb2
  have B2 := Box3.below B1 hb2
  clear hb2
  obtain ⟨z2, k20, k21, k22⟩ := id B2
  go_wp2_with fail
  refine (of_any _ _ _ _ _ _ _ _).mono ?_
  rintro e w3 ⟨rfl, hb3⟩
  have Q3 := below_then Q2 hb3
  have B3 := Box3.below B2 hb3
  clear hb3
  obtain ⟨z3, k30, k31, k32⟩ := id B3
  go_wp2_with fail
  go_ret
  exact ⟨rfl, Q3⟩

set_option maxRecDepth 100000 in
set_option maxHeartbeats 2000000 in
theorem back_neg_pad (W H T n kd x y t : Int) (w : World) (g1 : whK W H T n = 0) (g2 : whX W H T n = 0) (g3 : whY W H T n = 0) (g4 : whT W H T n = 0) (g5 : whE W H T n = 1) (g6 : n < 0) (f0 : ofB W H T kd x y t = true) (f1 : whE W H T (ofN W H T kd x y t) = 0) (f2 : whK W H T (ofN W H T kd x y t) = kd) (f3 : whX W H T (ofN W H T kd x y t) = x) (f4 : (kd == 3) = true) :
    Calls Try.prog 5 #[.agg #[.int .i64 W, .int .i64 H, .int .i64 T], .int .i64 n, .int .i64 kd, .int .i64 x, .int .i64 y, .int .i64 t] w fun e w' => e = .returned (.bool true) ∧ Below w.heap.size w w' := by
  have Q0 := below_new w (.cells #[.int .i64 W, .int .i64 H, .int .i64 T] 23)
  have B0 := Box3.new w (.int .i64 W) (.int .i64 H) (.int .i64 T) 23
  go_enter Try.func5, Try.ntmps5
  go_wp2_with fail
  refine (live_any _).mono ?_
  rintro e w1 ⟨rfl, hb1⟩
  have Q1 := below_then Q0 hb1
  have B1 := Box3.below B0 hb1
  clear hb1
  obtain ⟨z1, k10, k11, k12⟩ := id B1
  go_wp2_with fail
  refine (what_any _ _ _ _ _).mono ?_
  rintro e w2 ⟨rfl, hb2⟩
  have Q2 := below_then Q1 hb2
  have B2 := Box3.below B1 hb2
  clear hb2
  obtain ⟨z2, k20, k21, k22⟩ := id B2
  go_wp2_with fail
  refine (of_any _ _ _ _ _ _ _ _).mono ?_
  rintro e w3 ⟨rfl, hb3⟩
  have Q3 := below_then Q2 hb3
  have B3 := Box3.below B2 hb3
  clear hb3
  obtain ⟨z3, k30, k31, k32⟩ := id B3
  go_wp2_with fail
  refine (what_any _ _ _ _ _).mono ?_
  rintro e w4 ⟨rfl, hb4⟩
  have Q4 := below_then Q3 hb4
  have B4 := Box3.below B3 hb4
  clear hb4
  obtain ⟨z4, k40, k41, k42⟩ := id B4
  go_wp2_with fail
  go_ret
  exact ⟨rfl, Q4⟩

set_option maxRecDepth 100000 in
set_option maxHeartbeats 2000000 in
theorem back_neg_out (W H T n kd x y t : Int) (w : World) (g1 : whK W H T n = 0) (g2 : whX W H T n = 0) (g3 : whY W H T n = 0) (g4 : whT W H T n = 0) (g5 : whE W H T n = 1) (g6 : n < 0) (f0 : ofB W H T kd x y t = true) (f1 : whE W H T (ofN W H T kd x y t) = 0) (f2 : whK W H T (ofN W H T kd x y t) = kd) (f3 : whX W H T (ofN W H T kd x y t) = x) (f4 : (kd == 3) = false) (f5 : whY W H T (ofN W H T kd x y t) = y) (f6 : (kd == 1) = true) :
    Calls Try.prog 5 #[.agg #[.int .i64 W, .int .i64 H, .int .i64 T], .int .i64 n, .int .i64 kd, .int .i64 x, .int .i64 y, .int .i64 t] w fun e w' => e = .returned (.bool true) ∧ Below w.heap.size w w' := by
  have Q0 := below_new w (.cells #[.int .i64 W, .int .i64 H, .int .i64 T] 23)
  have B0 := Box3.new w (.int .i64 W) (.int .i64 H) (.int .i64 T) 23
  go_enter Try.func5, Try.ntmps5
  go_wp2_with fail
  refine (live_any _).mono ?_
  rintro e w1 ⟨rfl, hb1⟩
  have Q1 := below_then Q0 hb1
  have B1 := Box3.below B0 hb1
  clear hb1
  obtain ⟨z1, k10, k11, k12⟩ := id B1
  go_wp2_with fail
  refine (what_any _ _ _ _ _).mono ?_
  rintro e w2 ⟨rfl, hb2⟩
  have Q2 := below_then Q1 hb2
  have B2 := Box3.below B1 hb2
  clear hb2
  obtain ⟨z2, k20, k21, k22⟩ := id B2
  go_wp2_with fail
  refine (of_any _ _ _ _ _ _ _ _).mono ?_
  rintro e w3 ⟨rfl, hb3⟩
  have Q3 := below_then Q2 hb3
  have B3 := Box3.below B2 hb3
  clear hb3
  obtain ⟨z3, k30, k31, k32⟩ := id B3
  go_wp2_with fail
  refine (what_any _ _ _ _ _).mono ?_
  rintro e w4 ⟨rfl, hb4⟩
  have Q4 := below_then Q3 hb4
  have B4 := Box3.below B3 hb4
  clear hb4
  obtain ⟨z4, k40, k41, k42⟩ := id B4
  go_wp2_with fail
  go_ret
  exact ⟨rfl, Q4⟩

set_option maxRecDepth 100000 in
set_option maxHeartbeats 2000000 in
theorem back_neg_tr (W H T n kd x y t : Int) (w : World) (g1 : whK W H T n = 0) (g2 : whX W H T n = 0) (g3 : whY W H T n = 0) (g4 : whT W H T n = 0) (g5 : whE W H T n = 1) (g6 : n < 0) (f0 : ofB W H T kd x y t = true) (f1 : whE W H T (ofN W H T kd x y t) = 0) (f2 : whK W H T (ofN W H T kd x y t) = kd) (f3 : whX W H T (ofN W H T kd x y t) = x) (f4 : (kd == 3) = false) (f5 : whY W H T (ofN W H T kd x y t) = y) (f6 : (kd == 1) = false) (f7 : whT W H T (ofN W H T kd x y t) = t) :
    Calls Try.prog 5 #[.agg #[.int .i64 W, .int .i64 H, .int .i64 T], .int .i64 n, .int .i64 kd, .int .i64 x, .int .i64 y, .int .i64 t] w fun e w' => e = .returned (.bool true) ∧ Below w.heap.size w w' := by
  have Q0 := below_new w (.cells #[.int .i64 W, .int .i64 H, .int .i64 T] 23)
  have B0 := Box3.new w (.int .i64 W) (.int .i64 H) (.int .i64 T) 23
  go_enter Try.func5, Try.ntmps5
  go_wp2_with fail
  refine (live_any _).mono ?_
  rintro e w1 ⟨rfl, hb1⟩
  have Q1 := below_then Q0 hb1
  have B1 := Box3.below B0 hb1
  clear hb1
  obtain ⟨z1, k10, k11, k12⟩ := id B1
  go_wp2_with fail
  refine (what_any _ _ _ _ _).mono ?_
  rintro e w2 ⟨rfl, hb2⟩
  have Q2 := below_then Q1 hb2
  have B2 := Box3.below B1 hb2
  clear hb2
  obtain ⟨z2, k20, k21, k22⟩ := id B2
  go_wp2_with fail
  refine (of_any _ _ _ _ _ _ _ _).mono ?_
  rintro e w3 ⟨rfl, hb3⟩
  have Q3 := below_then Q2 hb3
  have B3 := Box3.below B2 hb3
  clear hb3
  obtain ⟨z3, k30, k31, k32⟩ := id B3
  go_wp2_with fail
  refine (what_any _ _ _ _ _).mono ?_
  rintro e w4 ⟨rfl, hb4⟩
  have Q4 := below_then Q3 hb4
  have B4 := Box3.below B3 hb4
  clear hb4
  obtain ⟨z4, k40, k41, k42⟩ := id B4
  go_wp2_with fail
  go_ret
  exact ⟨rfl, Q4⟩

set_option maxRecDepth 100000 in
set_option maxHeartbeats 2000000 in
theorem back_pos_none (W H T n kd x y t : Int) (w : World) (g1 : whK W H T n = 0) (g2 : whX W H T n = 0) (g3 : whY W H T n = 0) (g4 : whT W H T n = 0) (g5 : whE W H T n = 1) (g6 : 0 ≤ n) (g7 : nodesO W H T ≤ n) (f0 : ofB W H T kd x y t = false) (f1 : ofN W H T kd x y t = 0) :
    Calls Try.prog 5 #[.agg #[.int .i64 W, .int .i64 H, .int .i64 T], .int .i64 n, .int .i64 kd, .int .i64 x, .int .i64 y, .int .i64 t] w fun e w' => e = .returned (.bool true) ∧ Below w.heap.size w w' := by
  have Q0 := below_new w (.cells #[.int .i64 W, .int .i64 H, .int .i64 T] 23)
  have B0 := Box3.new w (.int .i64 W) (.int .i64 H) (.int .i64 T) 23
  go_enter Try.func5, Try.ntmps5
  go_wp2_with fail
  refine (live_any _).mono ?_
  rintro e w1 ⟨rfl, hb1⟩
  have Q1 := below_then Q0 hb1
  have B1 := Box3.below B0 hb1
  clear hb1
  obtain ⟨z1, k10, k11, k12⟩ := id B1
  go_wp2_with fail
  refine (what_any _ _ _ _ _).mono ?_
  rintro e w2 ⟨rfl, hb2⟩
  have Q2 := below_then Q1 hb2
  have B2 := Box3.below B1 hb2
  clear hb2
  obtain ⟨z2, k20, k21, k22⟩ := id B2
  go_wp2_with fail
  refine (nodes_any _ _ _ _).mono ?_
  rintro e w3 ⟨rfl, hb3⟩
  have Q3 := below_then Q2 hb3
  have B3 := Box3.below B2 hb3
  clear hb3
  obtain ⟨z3, k30, k31, k32⟩ := id B3
  go_wp2_with fail
  refine (of_any _ _ _ _ _ _ _ _).mono ?_
  rintro e w4 ⟨rfl, hb4⟩
  have Q4 := below_then Q3 hb4
  have B4 := Box3.below B3 hb4
  clear hb4
  obtain ⟨z4, k40, k41, k42⟩ := id B4
  go_wp2_with fail
  go_ret
  exact ⟨rfl, Q4⟩

set_option maxRecDepth 100000 in
set_option maxHeartbeats 2000000 in
theorem back_pos_pad (W H T n kd x y t : Int) (w : World) (g1 : whK W H T n = 0) (g2 : whX W H T n = 0) (g3 : whY W H T n = 0) (g4 : whT W H T n = 0) (g5 : whE W H T n = 1) (g6 : 0 ≤ n) (g7 : nodesO W H T ≤ n) (f0 : ofB W H T kd x y t = true) (f1 : whE W H T (ofN W H T kd x y t) = 0) (f2 : whK W H T (ofN W H T kd x y t) = kd) (f3 : whX W H T (ofN W H T kd x y t) = x) (f4 : (kd == 3) = true) :
    Calls Try.prog 5 #[.agg #[.int .i64 W, .int .i64 H, .int .i64 T], .int .i64 n, .int .i64 kd, .int .i64 x, .int .i64 y, .int .i64 t] w fun e w' => e = .returned (.bool true) ∧ Below w.heap.size w w' := by
  have Q0 := below_new w (.cells #[.int .i64 W, .int .i64 H, .int .i64 T] 23)
  have B0 := Box3.new w (.int .i64 W) (.int .i64 H) (.int .i64 T) 23
  go_enter Try.func5, Try.ntmps5
  go_wp2_with fail
  refine (live_any _).mono ?_
  rintro e w1 ⟨rfl, hb1⟩
  have Q1 := below_then Q0 hb1
  have B1 := Box3.below B0 hb1
  clear hb1
  obtain ⟨z1, k10, k11, k12⟩ := id B1
  go_wp2_with fail
  refine (what_any _ _ _ _ _).mono ?_
  rintro e w2 ⟨rfl, hb2⟩
  have Q2 := below_then Q1 hb2
  have B2 := Box3.below B1 hb2
  clear hb2
  obtain ⟨z2, k20, k21, k22⟩ := id B2
  go_wp2_with fail
  refine (nodes_any _ _ _ _).mono ?_
  rintro e w3 ⟨rfl, hb3⟩
  have Q3 := below_then Q2 hb3
  have B3 := Box3.below B2 hb3
  clear hb3
  obtain ⟨z3, k30, k31, k32⟩ := id B3
  go_wp2_with fail
  refine (of_any _ _ _ _ _ _ _ _).mono ?_
  rintro e w4 ⟨rfl, hb4⟩
  have Q4 := below_then Q3 hb4
  have B4 := Box3.below B3 hb4
  clear hb4
  obtain ⟨z4, k40, k41, k42⟩ := id B4
  go_wp2_with fail
  refine (what_any _ _ _ _ _).mono ?_
  rintro e w5 ⟨rfl, hb5⟩
  have Q5 := below_then Q4 hb5
  have B5 := Box3.below B4 hb5
  clear hb5
  obtain ⟨z5, k50, k51, k52⟩ := id B5
  go_wp2_with fail
  go_ret
  exact ⟨rfl, Q5⟩

set_option maxRecDepth 100000 in
set_option maxHeartbeats 2000000 in
theorem back_pos_out (W H T n kd x y t : Int) (w : World) (g1 : whK W H T n = 0) (g2 : whX W H T n = 0) (g3 : whY W H T n = 0) (g4 : whT W H T n = 0) (g5 : whE W H T n = 1) (g6 : 0 ≤ n) (g7 : nodesO W H T ≤ n) (f0 : ofB W H T kd x y t = true) (f1 : whE W H T (ofN W H T kd x y t) = 0) (f2 : whK W H T (ofN W H T kd x y t) = kd) (f3 : whX W H T (ofN W H T kd x y t) = x) (f4 : (kd == 3) = false) (f5 : whY W H T (ofN W H T kd x y t) = y) (f6 : (kd == 1) = true) :
    Calls Try.prog 5 #[.agg #[.int .i64 W, .int .i64 H, .int .i64 T], .int .i64 n, .int .i64 kd, .int .i64 x, .int .i64 y, .int .i64 t] w fun e w' => e = .returned (.bool true) ∧ Below w.heap.size w w' := by
  have Q0 := below_new w (.cells #[.int .i64 W, .int .i64 H, .int .i64 T] 23)
  have B0 := Box3.new w (.int .i64 W) (.int .i64 H) (.int .i64 T) 23
  go_enter Try.func5, Try.ntmps5
  go_wp2_with fail
  refine (live_any _).mono ?_
  rintro e w1 ⟨rfl, hb1⟩
  have Q1 := below_then Q0 hb1
  have B1 := Box3.below B0 hb1
  clear hb1
  obtain ⟨z1, k10, k11, k12⟩ := id B1
  go_wp2_with fail
  refine (what_any _ _ _ _ _).mono ?_
  rintro e w2 ⟨rfl, hb2⟩
  have Q2 := below_then Q1 hb2
  have B2 := Box3.below B1 hb2
  clear hb2
  obtain ⟨z2, k20, k21, k22⟩ := id B2
  go_wp2_with fail
  refine (nodes_any _ _ _ _).mono ?_
  rintro e w3 ⟨rfl, hb3⟩
  have Q3 := below_then Q2 hb3
  have B3 := Box3.below B2 hb3
  clear hb3
  obtain ⟨z3, k30, k31, k32⟩ := id B3
  go_wp2_with fail
  refine (of_any _ _ _ _ _ _ _ _).mono ?_
  rintro e w4 ⟨rfl, hb4⟩
  have Q4 := below_then Q3 hb4
  have B4 := Box3.below B3 hb4
  clear hb4
  obtain ⟨z4, k40, k41, k42⟩ := id B4
  go_wp2_with fail
  refine (what_any _ _ _ _ _).mono ?_
  rintro e w5 ⟨rfl, hb5⟩
  have Q5 := below_then Q4 hb5
  have B5 := Box3.below B4 hb5
  clear hb5
  obtain ⟨z5, k50, k51, k52⟩ := id B5
  go_wp2_with fail
  go_ret
  exact ⟨rfl, Q5⟩

set_option maxRecDepth 100000 in
set_option maxHeartbeats 2000000 in
theorem back_pos_tr (W H T n kd x y t : Int) (w : World) (g1 : whK W H T n = 0) (g2 : whX W H T n = 0) (g3 : whY W H T n = 0) (g4 : whT W H T n = 0) (g5 : whE W H T n = 1) (g6 : 0 ≤ n) (g7 : nodesO W H T ≤ n) (f0 : ofB W H T kd x y t = true) (f1 : whE W H T (ofN W H T kd x y t) = 0) (f2 : whK W H T (ofN W H T kd x y t) = kd) (f3 : whX W H T (ofN W H T kd x y t) = x) (f4 : (kd == 3) = false) (f5 : whY W H T (ofN W H T kd x y t) = y) (f6 : (kd == 1) = false) (f7 : whT W H T (ofN W H T kd x y t) = t) :
    Calls Try.prog 5 #[.agg #[.int .i64 W, .int .i64 H, .int .i64 T], .int .i64 n, .int .i64 kd, .int .i64 x, .int .i64 y, .int .i64 t] w fun e w' => e = .returned (.bool true) ∧ Below w.heap.size w w' := by
  have Q0 := below_new w (.cells #[.int .i64 W, .int .i64 H, .int .i64 T] 23)
  have B0 := Box3.new w (.int .i64 W) (.int .i64 H) (.int .i64 T) 23
  go_enter Try.func5, Try.ntmps5
  go_wp2_with fail
  refine (live_any _).mono ?_
  rintro e w1 ⟨rfl, hb1⟩
  have Q1 := below_then Q0 hb1
  have B1 := Box3.below B0 hb1
  clear hb1
  obtain ⟨z1, k10, k11, k12⟩ := id B1
  go_wp2_with fail
  refine (what_any _ _ _ _ _).mono ?_
  rintro e w2 ⟨rfl, hb2⟩
  have Q2 := below_then Q1 hb2
  have B2 := Box3.below B1 hb2
  clear hb2
  obtain ⟨z2, k20, k21, k22⟩ := id B2
  go_wp2_with fail
  refine (nodes_any _ _ _ _).mono ?_
  rintro e w3 ⟨rfl, hb3⟩
  have Q3 := below_then Q2 hb3
  have B3 := Box3.below B2 hb3
  clear hb3
  obtain ⟨z3, k30, k31, k32⟩ := id B3
  go_wp2_with fail
  refine (of_any _ _ _ _ _ _ _ _).mono ?_
  rintro e w4 ⟨rfl, hb4⟩
  have Q4 := below_then Q3 hb4
  have B4 := Box3.below B3 hb4
  clear hb4
  obtain ⟨z4, k40, k41, k42⟩ := id B4
  go_wp2_with fail
  refine (what_any _ _ _ _ _).mono ?_
  rintro e w5 ⟨rfl, hb5⟩
  have Q5 := below_then Q4 hb5
  have B5 := Box3.below B4 hb5
  clear hb5
  obtain ⟨z5, k50, k51, k52⟩ := id B5
  go_wp2_with fail
  go_ret
  exact ⟨rfl, Q5⟩

theorem fabricBack_walk (W H T n kd x y t : Int) (w : World) :
    Calls Try.prog 5 #[.agg #[.int .i64 W, .int .i64 H, .int .i64 T], .int .i64 n, .int .i64 kd, .int .i64 x, .int .i64 y, .int .i64 t] w fun e w' => e = .returned (.bool true) ∧ Below w.heap.size w w' := by
  by_cases hN : isN W H T n
  · obtain ⟨g1, g2⟩ := of_what hN
    have g3 := (wh_yes hN).2.2.2.2
    have g5 : n < nodesO W H T := by unfold nodesO; rw [if_pos hN.1]; exact hN.2.2
    cases f0 : ofB W H T kd x y t
    · exact back_y_none W H T n kd x y t w g1 g2 g3 hN.2.1 g5 f0 (of_none f0)
    · obtain ⟨f1, f2, f3, f4⟩ := what_of f0
      by_cases h3 : kd = 3
      · exact back_y_pad W H T n kd x y t w g1 g2 g3 hN.2.1 g5 f0 f1 f2 f3 (by simp [h3])
      · obtain ⟨f5, f6⟩ := f4.resolve_left h3
        by_cases h1 : kd = 1
        · exact back_y_out W H T n kd x y t w g1 g2 g3 hN.2.1 g5 f0 f1 f2 f3 (by simp [h3]) f5 (by simp [h1])
        · exact back_y_tr W H T n kd x y t w g1 g2 g3 hN.2.1 g5 f0 f1 f2 f3 (by simp [h3]) f5 (by simp [h1]) (f6.resolve_left h1)
  · obtain ⟨g1, g2, g3, g4, g5⟩ := wh_no hN
    by_cases g6 : n < 0
    · cases f0 : ofB W H T kd x y t
      · exact back_neg_none W H T n kd x y t w g1 g2 g3 g4 g5 g6 f0 (of_none f0)
      · obtain ⟨f1, f2, f3, f4⟩ := what_of f0
        by_cases h3 : kd = 3
        · exact back_neg_pad W H T n kd x y t w g1 g2 g3 g4 g5 g6 f0 f1 f2 f3 (by simp [h3])
        · obtain ⟨f5, f6⟩ := f4.resolve_left h3
          by_cases h1 : kd = 1
          · exact back_neg_out W H T n kd x y t w g1 g2 g3 g4 g5 g6 f0 f1 f2 f3 (by simp [h3]) f5 (by simp [h1])
          · exact back_neg_tr W H T n kd x y t w g1 g2 g3 g4 g5 g6 f0 f1 f2 f3 (by simp [h3]) f5 (by simp [h1]) (f6.resolve_left h1)
    · have g7 : nodesO W H T ≤ n := by
        unfold nodesO
        split
        · rename_i ho
          by_cases h1 : n < nodesI W H T
          · exact absurd ⟨ho, by omega, h1⟩ hN
          · omega
        · omega
      cases f0 : ofB W H T kd x y t
      · exact back_pos_none W H T n kd x y t w g1 g2 g3 g4 g5 (by omega) g7 f0 (of_none f0)
      · obtain ⟨f1, f2, f3, f4⟩ := what_of f0
        by_cases h3 : kd = 3
        · exact back_pos_pad W H T n kd x y t w g1 g2 g3 g4 g5 (by omega) g7 f0 f1 f2 f3 (by simp [h3])
        · obtain ⟨f5, f6⟩ := f4.resolve_left h3
          by_cases h1 : kd = 1
          · exact back_pos_out W H T n kd x y t w g1 g2 g3 g4 g5 (by omega) g7 f0 f1 f2 f3 (by simp [h3]) f5 (by simp [h1])
          · exact back_pos_tr W H T n kd x y t w g1 g2 g3 g4 g5 (by omega) g7 f0 f1 f2 f3 (by simp [h3]) f5 (by simp [h1]) (f6.resolve_left h1)

set_option maxRecDepth 100000 in
theorem fabricBack_lifted (os : Os) (started : os.Started) (H : Type) (enc : TypeId × Value → H) :
    ReturnsInHanded {} Try.checked os 5 .any (Rows.fabricBackSpec.pre6 enc Try.prog Try.f5 Rows.fabricBackRow.domain false) (Rows.fabricBackSpec.post enc Try.prog Try.f5 false true false false) := by
  have hr : ∀ t ∈ Try.f5.params.toList, Try.prog.readableRec t = true ∧ t < Try.prog.types.size := by
    have h : Try.f5.params.toList.all (fun t => Try.prog.readableRec t && decide (t < Try.prog.types.size)) = true := by kernel_rfl
    intro t ht
    simpa using List.all_eq_true.1 h t ht
  refine returnsInHanded_of_change (C := Try.checked) own started (by kernel_rfl) Try.func5
    (ChangeSpec.witness6 (enc := enc) (C := Try.checked) false ⟨#[], #[.agg #[.int .i64 0, .int .i64 0, .int .i64 0], .int .i64 0, .int .i64 0, .int .i64 0, .int .i64 0, .int .i64 0], []⟩ 8 (by kernel_rfl) (by kernel_rfl) (by kernel_rfl) (by kernel_rfl)) ?_
  intro W base args ds gs before hval0 hW hcnd _
  have hval : ∀ (j : Nat) t v, Try.f5.params[j]? = some t → args[j]? = some v → Value.okWide Try.prog W .any base t v := hval0
  have hW' := hW
  obtain ⟨p, q, hA0, hV, rfl, hfz, hnd⟩ := hW
  have hA1 : DataW.TrodAll enc Try.prog W 0 (fun _ => true) true Try.f5.params.toList args.toList ds p := hA0
  have hA := hA1
  rw [Try.params5] at hA hval
  obtain ⟨v0, vs0, d0, ds0, p0, q0, hargs, rfl, rfl, h0, r0⟩ := trodAll_cons hA
  obtain ⟨v1, vs1, d1, ds1, p1, q1, rfl, rfl, rfl, h1, r1⟩ := trodAll_cons r0
  obtain ⟨v2, vs2, d2, ds2, p2, q2, rfl, rfl, rfl, h2, r2⟩ := trodAll_cons r1
  obtain ⟨v3, vs3, d3, ds3, p3, q3, rfl, rfl, rfl, h3, r3⟩ := trodAll_cons r2
  obtain ⟨v4, vs4, d4, ds4, p4, q4, rfl, rfl, rfl, h4, r4⟩ := trodAll_cons r3
  obtain ⟨v5, vs5, d5, ds5, p5, q5, rfl, rfl, rfl, h5, r5⟩ := trodAll_cons r4
  obtain ⟨rfl, rfl, rfl⟩ := trodAll_nil r5
  obtain rfl : args = #[v0, v1, v2, v3, v4, v5] := by cases args; simp_all
  obtain ⟨rfl, rfl⟩ := trodVars_none hV
  obtain ⟨c0, c1, c2, y0, y1, y2, m, rfl, rfl, rfl, hy0, hy1, hy2⟩ := open_agg3 Try.underlying23 (by kernel_rfl) (by kernel_rfl : Try.prog.cellsOf 23 = 3) (hval 0 23 v0 rfl rfl) h0
  obtain ⟨a0_0, e0, rfl, wa0_0⟩ := DataW.trod_int Try.underlying3 hy0
  obtain ⟨a0_1, e1, rfl, wa0_1⟩ := DataW.trod_int Try.underlying3 hy1
  obtain ⟨a0_2, e2, rfl, wa0_2⟩ := DataW.trod_int Try.underlying3 hy2
  simp at e0 e1 e2
  subst e0 e1 e2
  obtain ⟨a1, rfl, rfl, rfl, w1⟩ := open_int Try.underlying3 (hval 1 3 v1 rfl rfl) h1
  obtain ⟨a2, rfl, rfl, rfl, w2⟩ := open_int Try.underlying3 (hval 2 3 v2 rfl rfl) h2
  obtain ⟨a3, rfl, rfl, rfl, w3⟩ := open_int Try.underlying3 (hval 3 3 v3 rfl rfl) h3
  obtain ⟨a4, rfl, rfl, rfl, w4⟩ := open_int Try.underlying3 (hval 4 3 v4 rfl rfl) h4
  obtain ⟨a5, rfl, rfl, rfl, w5⟩ := open_int Try.underlying3 (hval 5 3 v5 rfl rfl) h5
  clear hA0 hval0
  simp only [List.append_nil] at hW'
  refine (fabricBack_walk a0_0 a0_1 a0_2 a1 a2 a3 a4 a5 W).mono fun e W' ⟨he, hb⟩ => ?_
  subst he
  exact ⟨_, rfl, law_post laidOut hr rfl hW' hA1 rfl rfl Try.underlying4 hb⟩

theorem fabricBack_over : Rows.fabricBackRow.holds Try.pinned (OpenSpec.ofChange Rows.fabricBackSpec) :=
  OpenClaim.holds_of_wide 5 Try.f5 rfl rfl rfl rfl rfl rfl rfl ⟨rfl, rfl, rfl, rfl, rfl⟩ rfl rfl rfl rfl rfl (by kernel_rfl) Try.func5 (by kernel_rfl)
    (of_decide_eq_true (by kernel_rfl)) (by unfold Func.isWrapper; first | (rw [if_pos (by decide +kernel)]; kernel_rfl) | (rw [if_neg (by decide +kernel)]; exact ⟨rfl, rfl⟩))
    (fun os started H enc _ => fabricBack_lifted os started H enc)

theorem fabricBack_holds : Rows.FabricBackSaid := fabricBack_over
#print axioms fabricBack_holds
end Go.Proofs.Ytfeogkiemjmocaa
