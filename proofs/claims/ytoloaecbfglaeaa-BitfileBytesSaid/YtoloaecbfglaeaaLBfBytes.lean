/- The law BitfileBytes. -/
import Derived.Test.YtoloaecbfglaeaaFrame
import Derived.Test.YtoloaecbfglaeaaOpenB
import Derived.Test.YtoloaecbfglaeaaLWhat
import Derived.Test.YtoloaecbfglaeaaOpen
namespace Go.Proofs.Ytoloaecbfglaeaa
open Go.ChangeShapes Go.WideShapes Go.ChangeAt Go.RowKit Go.Joins
set_option linter.unusedVariables false
set_option linter.unusedSimpArgs false

set_option maxRecDepth 100000 in
set_option maxHeartbeats 4000000 in
theorem bitfileBytes_a (C : Cfg) (A : Option Addr) (c : Nat) (l : List Nat) (w : World) (hs : ¬ few31 C) :
    Calls Try.prog 4 #[.agg #[.int .i64 C.W, .int .i64 C.H, .int .i64 C.T, .slice C.AT C.tiles.length C.cT, .slice C.AO C.on.length C.cO, .slice C.AI C.ins.length C.cI, .slice C.AU C.outs.length C.cU], .slice A l.length c] w fun e w' => e = .returned (.bool true) ∧ Below w.heap.size w w' := by
  have T0 := Lib.hid (OneB.new w C)
  go_enter Try.func4, Try.ntmps4
  go_wp2_with fail
  refine (live31_any _).mono ?_
  rintro e w1 ⟨rfl, hb1⟩
  have T1 := Lib.hid (T0.out.keep hb1)
  clear hb1 T0
  obtain ⟨k0, k1, k2, k3, k4, k5, k6⟩ := T1.out.cells
  go_wp2_with fail
  refine (few31_no _ _ hs).mono ?_
  rintro e w2 ⟨rfl, hb2⟩
  have T2 := Lib.hid (T1.out.keep hb2)
  clear hb2
  go_wp2_with fail
  go_ret
  exact ⟨rfl, T2.out.below⟩

set_option maxRecDepth 100000 in
set_option maxHeartbeats 4000000 in
theorem bitfileBytes_b (C : Cfg) (A : Option Addr) (c : Nat) (l : List Nat) (w : World) (hs : few31 C) (g0 : 5000 < (l.length : Int)) :
    Calls Try.prog 4 #[.agg #[.int .i64 C.W, .int .i64 C.H, .int .i64 C.T, .slice C.AT C.tiles.length C.cT, .slice C.AO C.on.length C.cO, .slice C.AI C.ins.length C.cI, .slice C.AU C.outs.length C.cU], .slice A l.length c] w fun e w' => e = .returned (.bool true) ∧ Below w.heap.size w w' := by
  have T0 := Lib.hid (OneB.new w C)
  go_enter Try.func4, Try.ntmps4
  go_wp2_with fail
  refine (live31_any _).mono ?_
  rintro e w1 ⟨rfl, hb1⟩
  have T1 := Lib.hid (T0.out.keep hb1)
  clear hb1 T0
  obtain ⟨k0, k1, k2, k3, k4, k5, k6⟩ := T1.out.cells
  go_wp2_with fail
  refine (few31_yes _ _ hs).mono ?_
  rintro e w2 ⟨rfl, hb2⟩
  have T2 := Lib.hid (T1.out.keep hb2)
  clear hb2 T1 k0 k1 k2 k3 k4 k5 k6
  obtain ⟨k0, k1, k2, k3, k4, k5, k6⟩ := T2.out.cells
  go_wp2_with fail
  go_ret
  exact ⟨rfl, T2.out.below⟩

set_option maxRecDepth 100000 in
set_option maxHeartbeats 4000000 in
theorem bitfileBytes_c1 (C : Cfg) (a : Addr) (c : Nat) (l : List Nat) (w : World) (hs : few31 C) (hr : Rd w 1 (some a) l.length c (bys l)) (hl : ∀ x ∈ l, x < 256) (hc : c ≤ maxLen) (g0 : ¬ 5000 < (l.length : Int)) (g1 : 6 < (l.length : Int)) (x4 : 6 < ((l.getD 4 0 : Nat) : Int)) :
    Calls Try.prog 4 #[.agg #[.int .i64 C.W, .int .i64 C.H, .int .i64 C.T, .slice C.AT C.tiles.length C.cT, .slice C.AO C.on.length C.cO, .slice C.AI C.ins.length C.cI, .slice C.AU C.outs.length C.cU], .slice (some a) l.length c] w fun e w' => e = .returned (.bool true) ∧ Below w.heap.size w w' := by
  have T0 := Lib.hid (OneB.new w C)
  go_enter Try.func4, Try.ntmps4
  go_wp2_with fail
  refine (live31_any _).mono ?_
  rintro e w1 ⟨rfl, hb1⟩
  have T1 := Lib.hid (T0.out.keep hb1)
  clear hb1 T0
  obtain ⟨k0, k1, k2, k3, k4, k5, k6⟩ := T1.out.cells
  go_wp2_with fail
  refine (few31_yes _ _ hs).mono ?_
  rintro e w2 ⟨rfl, hb2⟩
  have T2 := Lib.hid (T1.out.keep hb2)
  clear hb2 T1 k0 k1 k2 k3 k4 k5 k6
  obtain ⟨k0, k1, k2, k3, k4, k5, k6⟩ := T2.out.cells
  have HR2 := Lib.hid (hr.later T2.out.below)
  have c4 := rd_byte HR2.out (k := 4) (by omega)
  have c5 := rd_byte HR2.out (k := 5) (by omega)
  have c6 := rd_byte HR2.out (k := 6) (by omega)
  rw [add_lit a (by omega)] at c4 c5 c6
  generalize l.getD 4 0 = b4 at c4 x4
  generalize l.getD 5 0 = b5 at c5
  generalize l.getD 6 0 = b6 at c6
  go_wp2_with fail
  go_ret
  exact ⟨rfl, T2.out.below⟩

set_option maxRecDepth 100000 in
set_option maxHeartbeats 4000000 in
theorem bitfileBytes_c2 (C : Cfg) (a : Addr) (c : Nat) (l : List Nat) (w : World) (hs : few31 C) (hr : Rd w 1 (some a) l.length c (bys l)) (hl : ∀ x ∈ l, x < 256) (hc : c ≤ maxLen) (g0 : ¬ 5000 < (l.length : Int)) (g1 : 6 < (l.length : Int)) (x4 : ¬ 6 < ((l.getD 4 0 : Nat) : Int)) (x5 : 6 < ((l.getD 5 0 : Nat) : Int)) :
    Calls Try.prog 4 #[.agg #[.int .i64 C.W, .int .i64 C.H, .int .i64 C.T, .slice C.AT C.tiles.length C.cT, .slice C.AO C.on.length C.cO, .slice C.AI C.ins.length C.cI, .slice C.AU C.outs.length C.cU], .slice (some a) l.length c] w fun e w' => e = .returned (.bool true) ∧ Below w.heap.size w w' := by
  have T0 := Lib.hid (OneB.new w C)
  go_enter Try.func4, Try.ntmps4
  go_wp2_with fail
  refine (live31_any _).mono ?_
  rintro e w1 ⟨rfl, hb1⟩
  have T1 := Lib.hid (T0.out.keep hb1)
  clear hb1 T0
  obtain ⟨k0, k1, k2, k3, k4, k5, k6⟩ := T1.out.cells
  go_wp2_with fail
  refine (few31_yes _ _ hs).mono ?_
  rintro e w2 ⟨rfl, hb2⟩
  have T2 := Lib.hid (T1.out.keep hb2)
  clear hb2 T1 k0 k1 k2 k3 k4 k5 k6
  obtain ⟨k0, k1, k2, k3, k4, k5, k6⟩ := T2.out.cells
  have HR2 := Lib.hid (hr.later T2.out.below)
  have c4 := rd_byte HR2.out (k := 4) (by omega)
  have c5 := rd_byte HR2.out (k := 5) (by omega)
  have c6 := rd_byte HR2.out (k := 6) (by omega)
  rw [add_lit a (by omega)] at c4 c5 c6
  generalize l.getD 4 0 = b4 at c4 x4
  generalize l.getD 5 0 = b5 at c5 x5
  generalize l.getD 6 0 = b6 at c6
  go_wp2_with fail
  go_ret
  exact ⟨rfl, T2.out.below⟩

set_option maxRecDepth 100000 in
set_option maxHeartbeats 4000000 in
theorem bitfileBytes_c3 (C : Cfg) (a : Addr) (c : Nat) (l : List Nat) (w : World) (hs : few31 C) (hr : Rd w 1 (some a) l.length c (bys l)) (hl : ∀ x ∈ l, x < 256) (hc : c ≤ maxLen) (g0 : ¬ 5000 < (l.length : Int)) (g1 : 6 < (l.length : Int)) (x4 : ¬ 6 < ((l.getD 4 0 : Nat) : Int)) (x5 : ¬ 6 < ((l.getD 5 0 : Nat) : Int)) (x6 : 8 < ((l.getD 6 0 : Nat) : Int)) :
    Calls Try.prog 4 #[.agg #[.int .i64 C.W, .int .i64 C.H, .int .i64 C.T, .slice C.AT C.tiles.length C.cT, .slice C.AO C.on.length C.cO, .slice C.AI C.ins.length C.cI, .slice C.AU C.outs.length C.cU], .slice (some a) l.length c] w fun e w' => e = .returned (.bool true) ∧ Below w.heap.size w w' := by
  have T0 := Lib.hid (OneB.new w C)
  go_enter Try.func4, Try.ntmps4
  go_wp2_with fail
  refine (live31_any _).mono ?_
  rintro e w1 ⟨rfl, hb1⟩
  have T1 := Lib.hid (T0.out.keep hb1)
  clear hb1 T0
  obtain ⟨k0, k1, k2, k3, k4, k5, k6⟩ := T1.out.cells
  go_wp2_with fail
  refine (few31_yes _ _ hs).mono ?_
  rintro e w2 ⟨rfl, hb2⟩
  have T2 := Lib.hid (T1.out.keep hb2)
  clear hb2 T1 k0 k1 k2 k3 k4 k5 k6
  obtain ⟨k0, k1, k2, k3, k4, k5, k6⟩ := T2.out.cells
  have HR2 := Lib.hid (hr.later T2.out.below)
  have c4 := rd_byte HR2.out (k := 4) (by omega)
  have c5 := rd_byte HR2.out (k := 5) (by omega)
  have c6 := rd_byte HR2.out (k := 6) (by omega)
  rw [add_lit a (by omega)] at c4 c5 c6
  generalize l.getD 4 0 = b4 at c4 x4
  generalize l.getD 5 0 = b5 at c5 x5
  generalize l.getD 6 0 = b6 at c6 x6
  go_wp2_with fail
  go_ret
  exact ⟨rfl, T2.out.below⟩

set_option maxRecDepth 100000 in
set_option maxHeartbeats 4000000 in
theorem bitfileBytes_d (C : Cfg) (A : Option Addr) (c : Nat) (l : List Nat) (w : World) (hC : C.In w) (hs : few31 C) (hr : Rd w 1 A l.length c (bys l)) (hl : ∀ x ∈ l, x < 256) (hc : c ≤ maxLen) (g0 : ¬ 5000 < (l.length : Int)) (g1 : ¬ 6 < (l.length : Int)) :
    Calls Try.prog 4 #[.agg #[.int .i64 C.W, .int .i64 C.H, .int .i64 C.T, .slice C.AT C.tiles.length C.cT, .slice C.AO C.on.length C.cO, .slice C.AI C.ins.length C.cI, .slice C.AU C.outs.length C.cU], .slice A l.length c] w fun e w' => e = .returned (.bool true) ∧ Below w.heap.size w w' := by
  have fC := few31_few hs
  have hp := fun (W : World) (hB : Below w.heap.size w W) => bput_pair C W (hC.later hB) fC
  have hq := fun (W : World) (hB : Below w.heap.size w W) => rput_pair C W (hC.later hB) fC
  simp only [BPUT] at hp
  simp only [RPUT] at hq
  have HP := Lib.hid hp
  have HQ := Lib.hid hq
  have HR := Lib.hid hr
  have HL := Lib.hid hl
  clear hp hq hC fC
  clear hr hl
  have T0 := Lib.hid (OneB.new w C)
  go_enter Try.func4, Try.ntmps4
  go_wp2_with fail
  refine (live31_any _).mono ?_
  rintro e w1 ⟨rfl, hb1⟩
  have T1 := Lib.hid (T0.out.keep hb1)
  clear hb1 T0
  obtain ⟨k0, k1, k2, k3, k4, k5, k6⟩ := T1.out.cells
  go_wp2_with fail
  refine (few31_yes _ _ hs).mono ?_
  rintro e w2 ⟨rfl, hb2⟩
  have T2 := Lib.hid (T1.out.keep hb2)
  clear hb2 T1 k0 k1 k2 k3 k4 k5 k6
  obtain ⟨k0, k1, k2, k3, k4, k5, k6⟩ := T2.out.cells
  go_wp2_with fail
  refine (HP.out _ T2.out.below).mono ?_
  rintro e w3 ⟨A3, c3, rfl, hb3, R3, hc3⟩
  have T3 := Lib.hid (T2.out.keep hb3)
  have R3 := Lib.hid R3
  clear hb3 T2 k0 k1 k2 k3 k4 k5 k6
  obtain ⟨k0, k1, k2, k3, k4, k5, k6⟩ := T3.out.cells
  go_wp2_with fail
  refine (HQ.out _ T3.out.below).mono ?_
  rintro e w4 ⟨A4, c4, rfl, hb4, R4, hc4⟩
  have T4 := Lib.hid (T3.out.keep hb4)
  have R3 := Lib.hid (R3.out.later hb4)
  have R4 := Lib.hid R4
  clear hb4 T3 k0 k1 k2 k3 k4 k5 k6
  go_wp2_with fail
  refine (bget_pair _ l.length c l _ (HR.out.later T4.out.below) HL.out (by omega) hc).mono ?_
  rintro e w5 ⟨D, rfl, hG, hb5, hD⟩
  have R3 := Lib.hid ((R3.out.later hb5).later (below_new w5 (.cells #[.int .i64 D.W, .int .i64 D.H, .int .i64 D.T, .slice D.AT D.tiles.length D.cT, .slice D.AO D.on.length D.cO, .slice D.AI D.ins.length D.cI, .slice D.AU D.outs.length D.cU] 28)))
  have R4 := Lib.hid ((R4.out.later hb5).later (below_new w5 (.cells #[.int .i64 D.W, .int .i64 D.H, .int .i64 D.T, .slice D.AT D.tiles.length D.cT, .slice D.AO D.on.length D.cO, .slice D.AI D.ins.length D.cI, .slice D.AU D.outs.length D.cU] 28)))
  have T5 := Lib.hid ((T4.out.keep hb5).below)
  have HGD := Lib.hid hG
  have HD := Lib.hid hD
  clear hb5 T4 hG hD
  have U5 := Lib.hid (OneB.new w5 D)
  have q5 := below_then T5.out (below_new w5 (.cells #[.int .i64 D.W, .int .i64 D.H, .int .i64 D.T, .slice D.AT D.tiles.length D.cT, .slice D.AO D.on.length D.cO, .slice D.AI D.ins.length D.cI, .slice D.AU D.outs.length D.cU] 28))
  go_wp2_with fail
  refine (rget_pair _ l.length c l _ (HR.out.later q5) HL.out (by omega) hc).mono ?_
  rintro e w6 ⟨K, rfl, hG, hb6, hK⟩
  have R3 := Lib.hid ((R3.out.later hb6).later (below_new w6 (.cells #[.int .i64 K.W, .int .i64 K.H, .int .i64 K.T, .slice K.AT K.tiles.length K.cT, .slice K.AO K.on.length K.cO, .slice K.AI K.ins.length K.cI, .slice K.AU K.outs.length K.cU] 28)))
  have R4 := Lib.hid ((R4.out.later hb6).later (below_new w6 (.cells #[.int .i64 K.W, .int .i64 K.H, .int .i64 K.T, .slice K.AT K.tiles.length K.cT, .slice K.AO K.on.length K.cO, .slice K.AI K.ins.length K.cI, .slice K.AU K.outs.length K.cU] 28)))
  have U6 := Lib.hid ((U5.out.keep hb6).keep (below_new w6 (.cells #[.int .i64 K.W, .int .i64 K.H, .int .i64 K.T, .slice K.AT K.tiles.length K.cT, .slice K.AO K.on.length K.cO, .slice K.AI K.ins.length K.cI, .slice K.AU K.outs.length K.cU] 28)))
  have T6 := Lib.hid (below_then (below_then q5 hb6) (below_new w6 (.cells #[.int .i64 K.W, .int .i64 K.H, .int .i64 K.T, .slice K.AT K.tiles.length K.cT, .slice K.AO K.on.length K.cO, .slice K.AI K.ins.length K.cI, .slice K.AU K.outs.length K.cU] 28)))
  have HGK := Lib.hid hG
  have HDK := Lib.hid (And.intro ((HD.out.later U6.out.below)) (hK.later (below_new w6 (.cells #[.int .i64 K.W, .int .i64 K.H, .int .i64 K.T, .slice K.AT K.tiles.length K.cT, .slice K.AO K.on.length K.cO, .slice K.AI K.ins.length K.cI, .slice K.AU K.outs.length K.cU] 28))))
  clear hb6 T5 hG hK q5 U5 HD
  have hcv3 := conv_bytes R3.out
  have hcv4 := conv_bytes R4.out
  generalize strB (pB C) = sB at hcv3 hcv4
  have hss : (sB.toList == sB.toList) = true := by simp
  generalize pE C = pe
  generalize hge : getE l = ge
  obtain ⟨k0, k1, k2, k3, k4, k5, k6⟩ := U6.out.cells
  go_wp2_with fail
  refine (rsame_any D K _ HDK.out.1 HDK.out.2 (got_few HGD.out (by omega)) (got_few HGK.out (by omega)) true (decide_eq_true (got_same HGD.out HGK.out))).mono ?_
  rintro e w7 ⟨rfl, hb7⟩
  have T7 := Lib.hid (below_then T6.out hb7)
  have R7 := Lib.hid (HR.out.later T7.out)
  clear hb7
  go_wp2_with fail
  refine (bsum_any _ _ _ _ l R7.out HL.out (by omega)).mono ?_
  rintro e w8 ⟨rfl, hw8⟩
  obtain rfl : w7 = w8 := hw8.symm
  clear hw8
  go_wp2_with fail
  refine (rsum_any _ _ _ _ l R7.out HL.out (by omega)).mono ?_
  rintro e w9 ⟨rfl, hw9⟩
  go_wp2_with fail
  go_ret
  exact ⟨rfl, T7.out⟩

set_option maxRecDepth 100000 in
set_option maxHeartbeats 4000000 in
theorem bitfileBytes_e (C : Cfg) (a : Addr) (c : Nat) (l : List Nat) (w : World) (hC : C.In w) (hs : few31 C) (hr : Rd w 1 (some a) l.length c (bys l)) (hl : ∀ x ∈ l, x < 256) (hc : c ≤ maxLen) (g0 : ¬ 5000 < (l.length : Int)) (g1 : 6 < (l.length : Int)) (x4 : ¬ 6 < ((l.getD 4 0 : Nat) : Int)) (x5 : ¬ 6 < ((l.getD 5 0 : Nat) : Int)) (x6 : ¬ 8 < ((l.getD 6 0 : Nat) : Int)) :
    Calls Try.prog 4 #[.agg #[.int .i64 C.W, .int .i64 C.H, .int .i64 C.T, .slice C.AT C.tiles.length C.cT, .slice C.AO C.on.length C.cO, .slice C.AI C.ins.length C.cI, .slice C.AU C.outs.length C.cU], .slice (some a) l.length c] w fun e w' => e = .returned (.bool true) ∧ Below w.heap.size w w' := by
  have fC := few31_few hs
  have hp := fun (W : World) (hB : Below w.heap.size w W) => bput_pair C W (hC.later hB) fC
  have hq := fun (W : World) (hB : Below w.heap.size w W) => rput_pair C W (hC.later hB) fC
  simp only [BPUT] at hp
  simp only [RPUT] at hq
  have HP := Lib.hid hp
  have HQ := Lib.hid hq
  have HR := Lib.hid hr
  have HL := Lib.hid hl
  clear hp hq hC fC
  have T0 := Lib.hid (OneB.new w C)
  go_enter Try.func4, Try.ntmps4
  go_wp2_with fail
  refine (live31_any _).mono ?_
  rintro e w1 ⟨rfl, hb1⟩
  have T1 := Lib.hid (T0.out.keep hb1)
  clear hb1 T0
  obtain ⟨k0, k1, k2, k3, k4, k5, k6⟩ := T1.out.cells
  go_wp2_with fail
  refine (few31_yes _ _ hs).mono ?_
  rintro e w2 ⟨rfl, hb2⟩
  have T2 := Lib.hid (T1.out.keep hb2)
  clear hb2 T1 k0 k1 k2 k3 k4 k5 k6
  obtain ⟨k0, k1, k2, k3, k4, k5, k6⟩ := T2.out.cells
  have HR2 := Lib.hid (hr.later T2.out.below)
  have c4 := rd_byte HR2.out (k := 4) (by omega)
  have c5 := rd_byte HR2.out (k := 5) (by omega)
  have c6 := rd_byte HR2.out (k := 6) (by omega)
  rw [add_lit a (by omega)] at c4 c5 c6
  generalize l.getD 4 0 = b4 at c4 x4
  generalize l.getD 5 0 = b5 at c5 x5
  generalize l.getD 6 0 = b6 at c6 x6
  clear hr hl
  go_wp2_with fail
  clear c4 c5 c6 HR2 x4 x5 x6
  refine (HP.out _ T2.out.below).mono ?_
  rintro e w3 ⟨A3, c3, rfl, hb3, R3, hc3⟩
  have T3 := Lib.hid (T2.out.keep hb3)
  have R3 := Lib.hid R3
  clear hb3 T2 k0 k1 k2 k3 k4 k5 k6
  obtain ⟨k0, k1, k2, k3, k4, k5, k6⟩ := T3.out.cells
  go_wp2_with fail
  refine (HQ.out _ T3.out.below).mono ?_
  rintro e w4 ⟨A4, c4, rfl, hb4, R4, hc4⟩
  have T4 := Lib.hid (T3.out.keep hb4)
  have R3 := Lib.hid (R3.out.later hb4)
  have R4 := Lib.hid R4
  clear hb4 T3 k0 k1 k2 k3 k4 k5 k6
  go_wp2_with fail
  refine (bget_pair _ l.length c l _ (HR.out.later T4.out.below) HL.out (by omega) hc).mono ?_
  rintro e w5 ⟨D, rfl, hG, hb5, hD⟩
  have R3 := Lib.hid ((R3.out.later hb5).later (below_new w5 (.cells #[.int .i64 D.W, .int .i64 D.H, .int .i64 D.T, .slice D.AT D.tiles.length D.cT, .slice D.AO D.on.length D.cO, .slice D.AI D.ins.length D.cI, .slice D.AU D.outs.length D.cU] 28)))
  have R4 := Lib.hid ((R4.out.later hb5).later (below_new w5 (.cells #[.int .i64 D.W, .int .i64 D.H, .int .i64 D.T, .slice D.AT D.tiles.length D.cT, .slice D.AO D.on.length D.cO, .slice D.AI D.ins.length D.cI, .slice D.AU D.outs.length D.cU] 28)))
  have T5 := Lib.hid ((T4.out.keep hb5).below)
  have HGD := Lib.hid hG
  have HD := Lib.hid hD
  clear hb5 T4 hG hD
  have U5 := Lib.hid (OneB.new w5 D)
  have q5 := below_then T5.out (below_new w5 (.cells #[.int .i64 D.W, .int .i64 D.H, .int .i64 D.T, .slice D.AT D.tiles.length D.cT, .slice D.AO D.on.length D.cO, .slice D.AI D.ins.length D.cI, .slice D.AU D.outs.length D.cU] 28))
  go_wp2_with fail
  refine (rget_pair _ l.length c l _ (HR.out.later q5) HL.out (by omega) hc).mono ?_
  rintro e w6 ⟨K, rfl, hG, hb6, hK⟩
  have R3 := Lib.hid ((R3.out.later hb6).later (below_new w6 (.cells #[.int .i64 K.W, .int .i64 K.H, .int .i64 K.T, .slice K.AT K.tiles.length K.cT, .slice K.AO K.on.length K.cO, .slice K.AI K.ins.length K.cI, .slice K.AU K.outs.length K.cU] 28)))
  have R4 := Lib.hid ((R4.out.later hb6).later (below_new w6 (.cells #[.int .i64 K.W, .int .i64 K.H, .int .i64 K.T, .slice K.AT K.tiles.length K.cT, .slice K.AO K.on.length K.cO, .slice K.AI K.ins.length K.cI, .slice K.AU K.outs.length K.cU] 28)))
  have U6 := Lib.hid ((U5.out.keep hb6).keep (below_new w6 (.cells #[.int .i64 K.W, .int .i64 K.H, .int .i64 K.T, .slice K.AT K.tiles.length K.cT, .slice K.AO K.on.length K.cO, .slice K.AI K.ins.length K.cI, .slice K.AU K.outs.length K.cU] 28)))
  have T6 := Lib.hid (below_then (below_then q5 hb6) (below_new w6 (.cells #[.int .i64 K.W, .int .i64 K.H, .int .i64 K.T, .slice K.AT K.tiles.length K.cT, .slice K.AO K.on.length K.cO, .slice K.AI K.ins.length K.cI, .slice K.AU K.outs.length K.cU] 28)))
  have HGK := Lib.hid hG
  have HDK := Lib.hid (And.intro ((HD.out.later U6.out.below)) (hK.later (below_new w6 (.cells #[.int .i64 K.W, .int .i64 K.H, .int .i64 K.T, .slice K.AT K.tiles.length K.cT, .slice K.AO K.on.length K.cO, .slice K.AI K.ins.length K.cI, .slice K.AU K.outs.length K.cU] 28))))
  clear hb6 T5 hG hK q5 U5 HD
  have hcv3 := conv_bytes R3.out
  have hcv4 := conv_bytes R4.out
  generalize strB (pB C) = sB at hcv3 hcv4
  have hss : (sB.toList == sB.toList) = true := by simp
  generalize pE C = pe
  generalize hge : getE l = ge
  obtain ⟨k0, k1, k2, k3, k4, k5, k6⟩ := U6.out.cells
  go_wp2_with fail
  refine (rsame_any D K _ HDK.out.1 HDK.out.2 (got_few HGD.out (by omega)) (got_few HGK.out (by omega)) true (decide_eq_true (got_same HGD.out HGK.out))).mono ?_
  rintro e w7 ⟨rfl, hb7⟩
  have T7 := Lib.hid (below_then T6.out hb7)
  have R7 := Lib.hid (HR.out.later T7.out)
  clear hb7
  go_wp2_with fail
  refine (bsum_any _ _ _ _ l R7.out HL.out (by omega)).mono ?_
  rintro e w8 ⟨rfl, hw8⟩
  obtain rfl : w7 = w8 := hw8.symm
  clear hw8
  go_wp2_with fail
  refine (rsum_any _ _ _ _ l R7.out HL.out (by omega)).mono ?_
  rintro e w9 ⟨rfl, hw9⟩
  go_wp2_with fail
  go_ret
  exact ⟨rfl, T7.out⟩

theorem bitfileBytes_walk (C : Cfg) (A : Option Addr) (c : Nat) (l : List Nat) (w : World) (hC : C.In w) (hwf : C.wf) (hr : Rd w 1 A l.length c (bys l)) (hl : ∀ x ∈ l, x < 256) (hc : c ≤ maxLen) :
    Calls Try.prog 4 #[.agg #[.int .i64 C.W, .int .i64 C.H, .int .i64 C.T, .slice C.AT C.tiles.length C.cT, .slice C.AO C.on.length C.cO, .slice C.AI C.ins.length C.cI, .slice C.AU C.outs.length C.cU], .slice A l.length c] w fun e w' => e = .returned (.bool true) ∧ Below w.heap.size w w' := by
  by_cases hs : few31 C
  case neg => exact bitfileBytes_a C A c l w hs
  by_cases g0 : 5000 < (l.length : Int)
  · exact bitfileBytes_b C A c l w hs g0
  by_cases g1 : 6 < (l.length : Int)
  case neg => exact bitfileBytes_d C A c l w hC hs hr hl hc g0 g1
  obtain ⟨a, rfl, -, -⟩ := hr.byte (k := 0) (by omega)
  by_cases x4 : 6 < ((l.getD 4 0 : Nat) : Int)
  · exact bitfileBytes_c1 C a c l w hs hr hl hc g0 g1 x4
  by_cases x5 : 6 < ((l.getD 5 0 : Nat) : Int)
  · exact bitfileBytes_c2 C a c l w hs hr hl hc g0 g1 x4 x5
  by_cases x6 : 8 < ((l.getD 6 0 : Nat) : Int)
  · exact bitfileBytes_c3 C a c l w hs hr hl hc g0 g1 x4 x5 x6
  exact bitfileBytes_e C a c l w hC hs hr hl hc g0 g1 x4 x5 x6
set_option maxRecDepth 100000 in
theorem bitfileBytes_lifted (os : Os) (started : os.Started) (H : Type) (enc : TypeId × Value → H) :
    ReturnsInHanded {} Try.checked os 4 .any (Rows.bitfileBytesSpec.pre6 enc Try.prog Try.f4 Rows.bitfileBytesRow.domain false) (Rows.bitfileBytesSpec.post enc Try.prog Try.f4 false true false false) := by
  have hr : ∀ t ∈ Try.f4.params.toList, Try.prog.readableRec t = true ∧ t < Try.prog.types.size := by
    have h : Try.f4.params.toList.all (fun t => Try.prog.readableRec t && decide (t < Try.prog.types.size)) = true := by kernel_rfl
    intro t ht
    simpa using List.all_eq_true.1 h t ht
  refine returnsInHanded_of_change (C := Try.checked) own started (by kernel_rfl) Try.func4
    (ChangeSpec.witness6 (enc := enc) (C := Try.checked) false ⟨#[], #[.agg #[.int .i64 0, .int .i64 0, .int .i64 0, .slice none 0 0, .slice none 0 0, .slice none 0 0, .slice none 0 0], .slice none 0 0], []⟩ 8 (by kernel_rfl) (by kernel_rfl) (by kernel_rfl) (by kernel_rfl)) ?_
  intro W base args ds gs before hval0 hW hcnd _
  have hval : ∀ (j : Nat) t v, Try.f4.params[j]? = some t → args[j]? = some v → Value.okWide Try.prog W .any base t v := hval0
  have hW' := hW
  obtain ⟨p, q, hA0, hV, rfl, hfz, hnd⟩ := hW
  have hA1 : DataW.TrodAll enc Try.prog W 0 (fun _ => true) true Try.f4.params.toList args.toList ds p := hA0
  have hA := hA1
  rw [Try.params4] at hA hval
  obtain ⟨v0, vs0, d0, ds0, p0, q0, hargs, rfl, rfl, h0, r0⟩ := trodAll_cons hA
  obtain ⟨v1, vs1, d1, ds1, p1, q1, rfl, rfl, rfl, h1, r1⟩ := trodAll_cons r0
  obtain ⟨rfl, rfl, rfl⟩ := trodAll_nil r1
  obtain rfl : args = #[v0, v1] := by cases args; simp_all
  obtain ⟨rfl, rfl⟩ := trodVars_none hV
  obtain ⟨C0, rfl, hin0, hwf0⟩ := open_cfg (hval 0 28 v0 rfl rfl) h0
  obtain ⟨A1, c1, l1, rfl, hr1, hl1, hc1⟩ := open_bytesB (hval 1 34 v1 rfl rfl) h1
  clear hA0 hval0
  simp only [List.append_nil] at hW'
  simp only [List.append_nil] at hA1
  refine (bitfileBytes_walk C0 A1 c1 l1 W hin0 hwf0 hr1 hl1 hc1).mono fun e W' ⟨he, hb⟩ => ?_
  subst he
  exact ⟨_, rfl, law_post laidOut hr rfl hW' hA1 rfl rfl Try.underlying4 hb⟩

theorem bitfileBytes_over : Rows.bitfileBytesRow.holds Try.pinned (OpenSpec.ofChange Rows.bitfileBytesSpec) :=
  OpenClaim.holds_of_wide 4 Try.f4 rfl rfl rfl rfl rfl rfl rfl ⟨rfl, rfl, rfl, rfl, rfl⟩ rfl rfl rfl rfl rfl (by kernel_rfl) Try.func4 (by kernel_rfl)
    (of_decide_eq_true (by kernel_rfl)) (by unfold Func.isWrapper; first | (rw [if_pos (by decide +kernel)]; kernel_rfl) | (rw [if_neg (by decide +kernel)]; exact ⟨rfl, rfl⟩))
    (fun os started H enc _ => bitfileBytes_lifted os started H enc)

theorem bitfileBytes_holds : Rows.BitfileBytesSaid := bitfileBytes_over
#print axioms bitfileBytes_holds
end Go.Proofs.Ytoloaecbfglaeaa
