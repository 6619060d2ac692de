/- Walks: are two configurations the same? is one small enough? -/
import Derived.Test.YtoloaecbfglaeaaEqT
import Derived.Test.YtoloaecbfglaeaaCfg
namespace Go.Proofs.Ytoloaecbfglaeaa
open Go.RowKit
set_option linter.unusedVariables false
set_option linter.unusedSimpArgs false

/-- the same in all that is told of them -/
def sameP (C D : Cfg) : Prop := (C.W = D.W ∧ C.H = D.H ∧ C.T = D.T) ∧ C.tiles = D.tiles ∧ C.on = D.on ∧ C.ins = D.ins ∧ C.outs = D.outs
instance (C D : Cfg) : Decidable (sameP C D) := by unfold sameP; infer_instance
theorem few_tiles {C : Cfg} (h : C.few) : C.tiles.length ≤ 100000000 := by have := h.1; omega
theorem few_on {C : Cfg} (h : C.few) : C.on.length ≤ 100000000 := by have := h.2.1; omega
theorem few_ins {C : Cfg} (h : C.few) : C.ins.length ≤ 100000000 := by have := h.2.2.1; omega
theorem few_outs {C : Cfg} (h : C.few) : C.outs.length ≤ 100000000 := by have := h.2.2.2; omega
/-- both lie in boxes -/
structure Two7 (w0 wx : World) (C D : Cfg) : Prop where
  below : Below w0.heap.size w0 wx
  c : Box7 wx w0.heap.size C
  d : Box7 wx (w0.heap.size + 1) D
theorem Two7.keep {w0 wx wy : World} {C D : Cfg} (h : Two7 w0 wx C D) (hb : Below wx.heap.size wx wy) : Two7 w0 wy C D := ⟨below_then h.below hb, h.c.below hb, h.d.below hb⟩
theorem Two7.new (w : World) (C D : Cfg) : Two7 w ((w.alloc (.cells #[.int .i64 C.W, .int .i64 C.H, .int .i64 C.T, .slice C.AT C.tiles.length C.cT, .slice C.AO C.on.length C.cO, .slice C.AI C.ins.length C.cI, .slice C.AU C.outs.length C.cU] 28)).alloc (.cells #[.int .i64 D.W, .int .i64 D.H, .int .i64 D.T, .slice D.AT D.tiles.length D.cT, .slice D.AO D.on.length D.cO, .slice D.AI D.ins.length D.cI, .slice D.AU D.outs.length D.cU] 28)) C D :=
  ⟨(below_new w _).alloc (by simp) _, (Box7.new w C 28).below (below_new _ _), by have := Box7.new (w.alloc (.cells #[.int .i64 C.W, .int .i64 C.H, .int .i64 C.T, .slice C.AT C.tiles.length C.cT, .slice C.AO C.on.length C.cO, .slice C.AI C.ins.length C.cI, .slice C.AU C.outs.length C.cU] 28)) D 28; rwa [World.size_alloc] at this⟩

set_option maxRecDepth 100000 in
set_option maxHeartbeats 2000000 in
theorem bsame_W (C D : Cfg) (w : World) (hC : C.In w) (hD : D.In w) (fC : C.few) (fD : D.few) (nW : ¬ C.W = D.W) :
    Calls Try.prog 15 #[.agg #[.int .i64 C.W, .int .i64 C.H, .int .i64 C.T, .slice C.AT C.tiles.length C.cT, .slice C.AO C.on.length C.cO, .slice C.AI C.ins.length C.cI, .slice C.AU C.outs.length C.cU], .agg #[.int .i64 D.W, .int .i64 D.H, .int .i64 D.T, .slice D.AT D.tiles.length D.cT, .slice D.AO D.on.length D.cO, .slice D.AI D.ins.length D.cI, .slice D.AU D.outs.length D.cU]] w fun e w' => e = .returned (.bool false) ∧ Below w.heap.size w w' := by
  have dW : (C.W == D.W) = false := beq_eq_false_iff_ne.2 nW
  clear nW
  have HC := Lib.hid hC
  have HD := Lib.hid hD
  have T0 := Lib.hid (Two7.new w C D)
  clear hC hD
  go_enter Try.func15, Try.ntmps15
  obtain ⟨z0, a00, a01, a02, a03, a04, a05, a06⟩ := T0.out.c
  obtain ⟨y0, b00, b01, b02, b03, b04, b05, b06⟩ := T0.out.d
  go_wp2_with fail
  go_ret
  exact ⟨rfl, T0.out.below⟩

set_option maxRecDepth 100000 in
set_option maxHeartbeats 2000000 in
theorem bsame_H (C D : Cfg) (w : World) (hC : C.In w) (hD : D.In w) (fC : C.few) (fD : D.few) (eW : C.W = D.W) (nH : ¬ C.H = D.H) :
    Calls Try.prog 15 #[.agg #[.int .i64 C.W, .int .i64 C.H, .int .i64 C.T, .slice C.AT C.tiles.length C.cT, .slice C.AO C.on.length C.cO, .slice C.AI C.ins.length C.cI, .slice C.AU C.outs.length C.cU], .agg #[.int .i64 D.W, .int .i64 D.H, .int .i64 D.T, .slice D.AT D.tiles.length D.cT, .slice D.AO D.on.length D.cO, .slice D.AI D.ins.length D.cI, .slice D.AU D.outs.length D.cU]] w fun e w' => e = .returned (.bool false) ∧ Below w.heap.size w w' := by
  have dW : (C.W == D.W) = true := beq_iff_eq.2 eW
  have dH : (C.H == D.H) = false := beq_eq_false_iff_ne.2 nH
  clear eW
  clear nH
  have HC := Lib.hid hC
  have HD := Lib.hid hD
  have T0 := Lib.hid (Two7.new w C D)
  clear hC hD
  go_enter Try.func15, Try.ntmps15
  obtain ⟨z0, a00, a01, a02, a03, a04, a05, a06⟩ := T0.out.c
  obtain ⟨y0, b00, b01, b02, b03, b04, b05, b06⟩ := T0.out.d
  go_wp2_with fail
  go_ret
  exact ⟨rfl, T0.out.below⟩

set_option maxRecDepth 100000 in
set_option maxHeartbeats 2000000 in
theorem bsame_T (C D : Cfg) (w : World) (hC : C.In w) (hD : D.In w) (fC : C.few) (fD : D.few) (eW : C.W = D.W) (eH : C.H = D.H) (nT : ¬ C.T = D.T) :
    Calls Try.prog 15 #[.agg #[.int .i64 C.W, .int .i64 C.H, .int .i64 C.T, .slice C.AT C.tiles.length C.cT, .slice C.AO C.on.length C.cO, .slice C.AI C.ins.length C.cI, .slice C.AU C.outs.length C.cU], .agg #[.int .i64 D.W, .int .i64 D.H, .int .i64 D.T, .slice D.AT D.tiles.length D.cT, .slice D.AO D.on.length D.cO, .slice D.AI D.ins.length D.cI, .slice D.AU D.outs.length D.cU]] w fun e w' => e = .returned (.bool false) ∧ Below w.heap.size w w' := by
  have dW : (C.W == D.W) = true := beq_iff_eq.2 eW
  have dH : (C.H == D.H) = true := beq_iff_eq.2 eH
  have dT : (C.T == D.T) = false := beq_eq_false_iff_ne.2 nT
  clear eW
  clear eH
  clear nT
  have HC := Lib.hid hC
  have HD := Lib.hid hD
  have T0 := Lib.hid (Two7.new w C D)
  clear hC hD
  go_enter Try.func15, Try.ntmps15
  obtain ⟨z0, a00, a01, a02, a03, a04, a05, a06⟩ := T0.out.c
  obtain ⟨y0, b00, b01, b02, b03, b04, b05, b06⟩ := T0.out.d
  go_wp2_with fail
  go_ret
  exact ⟨rfl, T0.out.below⟩

set_option maxRecDepth 100000 in
set_option maxHeartbeats 2000000 in
theorem bsame_tiles (C D : Cfg) (w : World) (hC : C.In w) (hD : D.In w) (fC : C.few) (fD : D.few) (eW : C.W = D.W) (eH : C.H = D.H) (eT : C.T = D.T) (ntiles : ¬ C.tiles = D.tiles) :
    Calls Try.prog 15 #[.agg #[.int .i64 C.W, .int .i64 C.H, .int .i64 C.T, .slice C.AT C.tiles.length C.cT, .slice C.AO C.on.length C.cO, .slice C.AI C.ins.length C.cI, .slice C.AU C.outs.length C.cU], .agg #[.int .i64 D.W, .int .i64 D.H, .int .i64 D.T, .slice D.AT D.tiles.length D.cT, .slice D.AO D.on.length D.cO, .slice D.AI D.ins.length D.cI, .slice D.AU D.outs.length D.cU]] w fun e w' => e = .returned (.bool false) ∧ Below w.heap.size w w' := by
  have dW : (C.W == D.W) = true := beq_iff_eq.2 eW
  have dH : (C.H == D.H) = true := beq_iff_eq.2 eH
  have dT : (C.T == D.T) = true := beq_iff_eq.2 eT
  clear eW
  clear eH
  clear eT
  have HC := Lib.hid hC
  have HD := Lib.hid hD
  have T0 := Lib.hid (Two7.new w C D)
  clear hC hD
  have Etiles := Lib.hid (show decide (C.tiles = D.tiles) = false from decide_eq_false ntiles)
  clear ntiles
  go_enter Try.func15, Try.ntmps15
  obtain ⟨z0, a00, a01, a02, a03, a04, a05, a06⟩ := T0.out.c
  obtain ⟨y0, b00, b01, b02, b03, b04, b05, b06⟩ := T0.out.d
  go_wp2_with fail
  refine (eqT_any _ _ _ _ _ _ _ _ _ (HC.out.later T0.out.below).tiles (HD.out.later T0.out.below).tiles (few_tiles fC) (few_tiles fD) false Etiles.out).mono ?_
  rintro e w1 ⟨rfl, hb⟩
  have T1 := Lib.hid (T0.out.keep hb)
  clear hb
  clear z0 a00 a01 a02 a03 a04 a05 a06 y0 b00 b01 b02 b03 b04 b05 b06
  obtain ⟨z1, a10, a11, a12, a13, a14, a15, a16⟩ := T1.out.c
  obtain ⟨y1, b10, b11, b12, b13, b14, b15, b16⟩ := T1.out.d
  go_wp2_with fail
  go_ret
  exact ⟨rfl, T1.out.below⟩

set_option maxRecDepth 100000 in
set_option maxHeartbeats 2000000 in
theorem bsame_on (C D : Cfg) (w : World) (hC : C.In w) (hD : D.In w) (fC : C.few) (fD : D.few) (eW : C.W = D.W) (eH : C.H = D.H) (eT : C.T = D.T) (etiles : C.tiles = D.tiles) (non : ¬ C.on = D.on) :
    Calls Try.prog 15 #[.agg #[.int .i64 C.W, .int .i64 C.H, .int .i64 C.T, .slice C.AT C.tiles.length C.cT, .slice C.AO C.on.length C.cO, .slice C.AI C.ins.length C.cI, .slice C.AU C.outs.length C.cU], .agg #[.int .i64 D.W, .int .i64 D.H, .int .i64 D.T, .slice D.AT D.tiles.length D.cT, .slice D.AO D.on.length D.cO, .slice D.AI D.ins.length D.cI, .slice D.AU D.outs.length D.cU]] w fun e w' => e = .returned (.bool false) ∧ Below w.heap.size w w' := by
  have dW : (C.W == D.W) = true := beq_iff_eq.2 eW
  have dH : (C.H == D.H) = true := beq_iff_eq.2 eH
  have dT : (C.T == D.T) = true := beq_iff_eq.2 eT
  clear eW
  clear eH
  clear eT
  have HC := Lib.hid hC
  have HD := Lib.hid hD
  have T0 := Lib.hid (Two7.new w C D)
  clear hC hD
  have Etiles := Lib.hid (show decide (C.tiles = D.tiles) = true from decide_eq_true etiles)
  clear etiles
  have Eon := Lib.hid (show decide (C.on = D.on) = false from decide_eq_false non)
  clear non
  go_enter Try.func15, Try.ntmps15
  obtain ⟨z0, a00, a01, a02, a03, a04, a05, a06⟩ := T0.out.c
  obtain ⟨y0, b00, b01, b02, b03, b04, b05, b06⟩ := T0.out.d
  go_wp2_with fail
  refine (eqT_any _ _ _ _ _ _ _ _ _ (HC.out.later T0.out.below).tiles (HD.out.later T0.out.below).tiles (few_tiles fC) (few_tiles fD) true Etiles.out).mono ?_
  rintro e w1 ⟨rfl, hb⟩
  have T1 := Lib.hid (T0.out.keep hb)
  clear hb
  clear z0 a00 a01 a02 a03 a04 a05 a06 y0 b00 b01 b02 b03 b04 b05 b06
  obtain ⟨z1, a10, a11, a12, a13, a14, a15, a16⟩ := T1.out.c
  obtain ⟨y1, b10, b11, b12, b13, b14, b15, b16⟩ := T1.out.d
  go_wp2_with fail
  refine (eqB_any _ _ _ _ _ _ _ _ _ (HC.out.later T1.out.below).on (HD.out.later T1.out.below).on (few_on fC) (few_on fD) false Eon.out).mono ?_
  rintro e w2 ⟨rfl, hb⟩
  have T2 := Lib.hid (T1.out.keep hb)
  clear hb
  clear z1 a10 a11 a12 a13 a14 a15 a16 y1 b10 b11 b12 b13 b14 b15 b16
  obtain ⟨z2, a20, a21, a22, a23, a24, a25, a26⟩ := T2.out.c
  obtain ⟨y2, b20, b21, b22, b23, b24, b25, b26⟩ := T2.out.d
  go_wp2_with fail
  go_ret
  exact ⟨rfl, T2.out.below⟩

set_option maxRecDepth 100000 in
set_option maxHeartbeats 2000000 in
theorem bsame_ins (C D : Cfg) (w : World) (hC : C.In w) (hD : D.In w) (fC : C.few) (fD : D.few) (eW : C.W = D.W) (eH : C.H = D.H) (eT : C.T = D.T) (etiles : C.tiles = D.tiles) (eon : C.on = D.on) (nins : ¬ C.ins = D.ins) :
    Calls Try.prog 15 #[.agg #[.int .i64 C.W, .int .i64 C.H, .int .i64 C.T, .slice C.AT C.tiles.length C.cT, .slice C.AO C.on.length C.cO, .slice C.AI C.ins.length C.cI, .slice C.AU C.outs.length C.cU], .agg #[.int .i64 D.W, .int .i64 D.H, .int .i64 D.T, .slice D.AT D.tiles.length D.cT, .slice D.AO D.on.length D.cO, .slice D.AI D.ins.length D.cI, .slice D.AU D.outs.length D.cU]] w fun e w' => e = .returned (.bool false) ∧ Below w.heap.size w w' := by
  have dW : (C.W == D.W) = true := beq_iff_eq.2 eW
  have dH : (C.H == D.H) = true := beq_iff_eq.2 eH
  have dT : (C.T == D.T) = true := beq_iff_eq.2 eT
  clear eW
  clear eH
  clear eT
  have HC := Lib.hid hC
  have HD := Lib.hid hD
  have T0 := Lib.hid (Two7.new w C D)
  clear hC hD
  have Etiles := Lib.hid (show decide (C.tiles = D.tiles) = true from decide_eq_true etiles)
  clear etiles
  have Eon := Lib.hid (show decide (C.on = D.on) = true from decide_eq_true eon)
  clear eon
  have Eins := Lib.hid (show decide (C.ins = D.ins) = false from decide_eq_false nins)
  clear nins
  go_enter Try.func15, Try.ntmps15
  obtain ⟨z0, a00, a01, a02, a03, a04, a05, a06⟩ := T0.out.c
  obtain ⟨y0, b00, b01, b02, b03, b04, b05, b06⟩ := T0.out.d
  go_wp2_with fail
  refine (eqT_any _ _ _ _ _ _ _ _ _ (HC.out.later T0.out.below).tiles (HD.out.later T0.out.below).tiles (few_tiles fC) (few_tiles fD) true Etiles.out).mono ?_
  rintro e w1 ⟨rfl, hb⟩
  have T1 := Lib.hid (T0.out.keep hb)
  clear hb
  clear z0 a00 a01 a02 a03 a04 a05 a06 y0 b00 b01 b02 b03 b04 b05 b06
  obtain ⟨z1, a10, a11, a12, a13, a14, a15, a16⟩ := T1.out.c
  obtain ⟨y1, b10, b11, b12, b13, b14, b15, b16⟩ := T1.out.d
  go_wp2_with fail
  refine (eqB_any _ _ _ _ _ _ _ _ _ (HC.out.later T1.out.below).on (HD.out.later T1.out.below).on (few_on fC) (few_on fD) true Eon.out).mono ?_
  rintro e w2 ⟨rfl, hb⟩
  have T2 := Lib.hid (T1.out.keep hb)
  clear hb
  clear z1 a10 a11 a12 a13 a14 a15 a16 y1 b10 b11 b12 b13 b14 b15 b16
  obtain ⟨z2, a20, a21, a22, a23, a24, a25, a26⟩ := T2.out.c
  obtain ⟨y2, b20, b21, b22, b23, b24, b25, b26⟩ := T2.out.d
  go_wp2_with fail
  refine (eqI_any _ _ _ _ _ _ _ _ _ (HC.out.later T2.out.below).ins (HD.out.later T2.out.below).ins (few_ins fC) (few_ins fD) false Eins.out).mono ?_
  rintro e w3 ⟨rfl, hb⟩
  have T3 := Lib.hid (T2.out.keep hb)
  clear hb
  clear z2 a20 a21 a22 a23 a24 a25 a26 y2 b20 b21 b22 b23 b24 b25 b26
  obtain ⟨z3, a30, a31, a32, a33, a34, a35, a36⟩ := T3.out.c
  obtain ⟨y3, b30, b31, b32, b33, b34, b35, b36⟩ := T3.out.d
  go_wp2_with fail
  go_ret
  exact ⟨rfl, T3.out.below⟩

set_option maxRecDepth 100000 in
set_option maxHeartbeats 2000000 in
theorem bsame_outs (C D : Cfg) (w : World) (hC : C.In w) (hD : D.In w) (fC : C.few) (fD : D.few) (eW : C.W = D.W) (eH : C.H = D.H) (eT : C.T = D.T) (etiles : C.tiles = D.tiles) (eon : C.on = D.on) (eins : C.ins = D.ins) (nouts : ¬ C.outs = D.outs) :
    Calls Try.prog 15 #[.agg #[.int .i64 C.W, .int .i64 C.H, .int .i64 C.T, .slice C.AT C.tiles.length C.cT, .slice C.AO C.on.length C.cO, .slice C.AI C.ins.length C.cI, .slice C.AU C.outs.length C.cU], .agg #[.int .i64 D.W, .int .i64 D.H, .int .i64 D.T, .slice D.AT D.tiles.length D.cT, .slice D.AO D.on.length D.cO, .slice D.AI D.ins.length D.cI, .slice D.AU D.outs.length D.cU]] w fun e w' => e = .returned (.bool false) ∧ Below w.heap.size w w' := by
  have dW : (C.W == D.W) = true := beq_iff_eq.2 eW
  have dH : (C.H == D.H) = true := beq_iff_eq.2 eH
  have dT : (C.T == D.T) = true := beq_iff_eq.2 eT
  clear eW
  clear eH
  clear eT
  have HC := Lib.hid hC
  have HD := Lib.hid hD
  have T0 := Lib.hid (Two7.new w C D)
  clear hC hD
  have Etiles := Lib.hid (show decide (C.tiles = D.tiles) = true from decide_eq_true etiles)
  clear etiles
  have Eon := Lib.hid (show decide (C.on = D.on) = true from decide_eq_true eon)
  clear eon
  have Eins := Lib.hid (show decide (C.ins = D.ins) = true from decide_eq_true eins)
  clear eins
  have Eouts := Lib.hid (show decide (C.outs = D.outs) = false from decide_eq_false nouts)
  clear nouts
  go_enter Try.func15, Try.ntmps15
  obtain ⟨z0, a00, a01, a02, a03, a04, a05, a06⟩ := T0.out.c
  obtain ⟨y0, b00, b01, b02, b03, b04, b05, b06⟩ := T0.out.d
  go_wp2_with fail
  refine (eqT_any _ _ _ _ _ _ _ _ _ (HC.out.later T0.out.below).tiles (HD.out.later T0.out.below).tiles (few_tiles fC) (few_tiles fD) true Etiles.out).mono ?_
  rintro e w1 ⟨rfl, hb⟩
  have T1 := Lib.hid (T0.out.keep hb)
  clear hb
  clear z0 a00 a01 a02 a03 a04 a05 a06 y0 b00 b01 b02 b03 b04 b05 b06
  obtain ⟨z1, a10, a11, a12, a13, a14, a15, a16⟩ := T1.out.c
  obtain ⟨y1, b10, b11, b12, b13, b14, b15, b16⟩ := T1.out.d
  go_wp2_with fail
  refine (eqB_any _ _ _ _ _ _ _ _ _ (HC.out.later T1.out.below).on (HD.out.later T1.out.below).on (few_on fC) (few_on fD) true Eon.out).mono ?_
  rintro e w2 ⟨rfl, hb⟩
  have T2 := Lib.hid (T1.out.keep hb)
  clear hb
  clear z1 a10 a11 a12 a13 a14 a15 a16 y1 b10 b11 b12 b13 b14 b15 b16
  obtain ⟨z2, a20, a21, a22, a23, a24, a25, a26⟩ := T2.out.c
  obtain ⟨y2, b20, b21, b22, b23, b24, b25, b26⟩ := T2.out.d
  go_wp2_with fail
  refine (eqI_any _ _ _ _ _ _ _ _ _ (HC.out.later T2.out.below).ins (HD.out.later T2.out.below).ins (few_ins fC) (few_ins fD) true Eins.out).mono ?_
  rintro e w3 ⟨rfl, hb⟩
  have T3 := Lib.hid (T2.out.keep hb)
  clear hb
  clear z2 a20 a21 a22 a23 a24 a25 a26 y2 b20 b21 b22 b23 b24 b25 b26
  obtain ⟨z3, a30, a31, a32, a33, a34, a35, a36⟩ := T3.out.c
  obtain ⟨y3, b30, b31, b32, b33, b34, b35, b36⟩ := T3.out.d
  go_wp2_with fail
  refine (eqI_any _ _ _ _ _ _ _ _ _ (HC.out.later T3.out.below).outs (HD.out.later T3.out.below).outs (few_outs fC) (few_outs fD) false Eouts.out).mono ?_
  rintro e w4 ⟨rfl, hb⟩
  have T4 := Lib.hid (T3.out.keep hb)
  clear hb
  clear z3 a30 a31 a32 a33 a34 a35 a36 y3 b30 b31 b32 b33 b34 b35 b36
  obtain ⟨z4, a40, a41, a42, a43, a44, a45, a46⟩ := T4.out.c
  obtain ⟨y4, b40, b41, b42, b43, b44, b45, b46⟩ := T4.out.d
  go_wp2_with fail
  go_ret
  exact ⟨rfl, T4.out.below⟩

set_option maxRecDepth 100000 in
set_option maxHeartbeats 2000000 in
theorem bsame_all (C D : Cfg) (w : World) (hC : C.In w) (hD : D.In w) (fC : C.few) (fD : D.few) (eW : C.W = D.W) (eH : C.H = D.H) (eT : C.T = D.T) (etiles : C.tiles = D.tiles) (eon : C.on = D.on) (eins : C.ins = D.ins) (eouts : C.outs = D.outs) :
    Calls Try.prog 15 #[.agg #[.int .i64 C.W, .int .i64 C.H, .int .i64 C.T, .slice C.AT C.tiles.length C.cT, .slice C.AO C.on.length C.cO, .slice C.AI C.ins.length C.cI, .slice C.AU C.outs.length C.cU], .agg #[.int .i64 D.W, .int .i64 D.H, .int .i64 D.T, .slice D.AT D.tiles.length D.cT, .slice D.AO D.on.length D.cO, .slice D.AI D.ins.length D.cI, .slice D.AU D.outs.length D.cU]] w fun e w' => e = .returned (.bool true) ∧ Below w.heap.size w w' := by
  have dW : (C.W == D.W) = true := beq_iff_eq.2 eW
  have dH : (C.H == D.H) = true := beq_iff_eq.2 eH
  have dT : (C.T == D.T) = true := beq_iff_eq.2 eT
  clear eW
  clear eH
  clear eT
  have HC := Lib.hid hC
  have HD := Lib.hid hD
  have T0 := Lib.hid (Two7.new w C D)
  clear hC hD
  have Etiles := Lib.hid (show decide (C.tiles = D.tiles) = true from decide_eq_true etiles)
  clear etiles
  have Eon := Lib.hid (show decide (C.on = D.on) = true from decide_eq_true eon)
  clear eon
  have Eins := Lib.hid (show decide (C.ins = D.ins) = true from decide_eq_true eins)
  clear eins
  have Eouts := Lib.hid (show decide (C.outs = D.outs) = true from decide_eq_true eouts)
  clear eouts
  go_enter Try.func15, Try.ntmps15
  obtain ⟨z0, a00, a01, a02, a03, a04, a05, a06⟩ := T0.out.c
  obtain ⟨y0, b00, b01, b02, b03, b04, b05, b06⟩ := T0.out.d
  go_wp2_with fail
  refine (eqT_any _ _ _ _ _ _ _ _ _ (HC.out.later T0.out.below).tiles (HD.out.later T0.out.below).tiles (few_tiles fC) (few_tiles fD) true Etiles.out).mono ?_
  rintro e w1 ⟨rfl, hb⟩
  have T1 := Lib.hid (T0.out.keep hb)
  clear hb
  clear z0 a00 a01 a02 a03 a04 a05 a06 y0 b00 b01 b02 b03 b04 b05 b06
  obtain ⟨z1, a10, a11, a12, a13, a14, a15, a16⟩ := T1.out.c
  obtain ⟨y1, b10, b11, b12, b13, b14, b15, b16⟩ := T1.out.d
  go_wp2_with fail
  refine (eqB_any _ _ _ _ _ _ _ _ _ (HC.out.later T1.out.below).on (HD.out.later T1.out.below).on (few_on fC) (few_on fD) true Eon.out).mono ?_
  rintro e w2 ⟨rfl, hb⟩
  have T2 := Lib.hid (T1.out.keep hb)
  clear hb
  clear z1 a10 a11 a12 a13 a14 a15 a16 y1 b10 b11 b12 b13 b14 b15 b16
  obtain ⟨z2, a20, a21, a22, a23, a24, a25, a26⟩ := T2.out.c
  obtain ⟨y2, b20, b21, b22, b23, b24, b25, b26⟩ := T2.out.d
  go_wp2_with fail
  refine (eqI_any _ _ _ _ _ _ _ _ _ (HC.out.later T2.out.below).ins (HD.out.later T2.out.below).ins (few_ins fC) (few_ins fD) true Eins.out).mono ?_
  rintro e w3 ⟨rfl, hb⟩
  have T3 := Lib.hid (T2.out.keep hb)
  clear hb
  clear z2 a20 a21 a22 a23 a24 a25 a26 y2 b20 b21 b22 b23 b24 b25 b26
  obtain ⟨z3, a30, a31, a32, a33, a34, a35, a36⟩ := T3.out.c
  obtain ⟨y3, b30, b31, b32, b33, b34, b35, b36⟩ := T3.out.d
  go_wp2_with fail
  refine (eqI_any _ _ _ _ _ _ _ _ _ (HC.out.later T3.out.below).outs (HD.out.later T3.out.below).outs (few_outs fC) (few_outs fD) true Eouts.out).mono ?_
  rintro e w4 ⟨rfl, hb⟩
  have T4 := Lib.hid (T3.out.keep hb)
  clear hb
  clear z3 a30 a31 a32 a33 a34 a35 a36 y3 b30 b31 b32 b33 b34 b35 b36
  obtain ⟨z4, a40, a41, a42, a43, a44, a45, a46⟩ := T4.out.c
  obtain ⟨y4, b40, b41, b42, b43, b44, b45, b46⟩ := T4.out.d
  go_wp2_with fail
  go_ret
  exact ⟨rfl, T4.out.below⟩

theorem bsame_any (C D : Cfg) (w : World) (hC : C.In w) (hD : D.In w) (fC : C.few) (fD : D.few) (r : Bool) (hr : decide (sameP C D) = r) :
    Calls Try.prog 15 #[.agg #[.int .i64 C.W, .int .i64 C.H, .int .i64 C.T, .slice C.AT C.tiles.length C.cT, .slice C.AO C.on.length C.cO, .slice C.AI C.ins.length C.cI, .slice C.AU C.outs.length C.cU], .agg #[.int .i64 D.W, .int .i64 D.H, .int .i64 D.T, .slice D.AT D.tiles.length D.cT, .slice D.AO D.on.length D.cO, .slice D.AI D.ins.length D.cI, .slice D.AU D.outs.length D.cU]] w fun e w' => e = .returned (.bool r) ∧ Below w.heap.size w w' := by
  by_cases eW : C.W = D.W
  case neg => obtain rfl : r = false := (by rw [← hr]; exact decide_eq_false (fun h => eW (by unfold sameP at h; simp [h]))); exact bsame_W C D w hC hD fC fD eW
  by_cases eH : C.H = D.H
  case neg => obtain rfl : r = false := (by rw [← hr]; exact decide_eq_false (fun h => eH (by unfold sameP at h; simp [h]))); exact bsame_H C D w hC hD fC fD eW eH
  by_cases eT : C.T = D.T
  case neg => obtain rfl : r = false := (by rw [← hr]; exact decide_eq_false (fun h => eT (by unfold sameP at h; simp [h]))); exact bsame_T C D w hC hD fC fD eW eH eT
  by_cases etiles : C.tiles = D.tiles
  case neg => obtain rfl : r = false := (by rw [← hr]; exact decide_eq_false (fun h => etiles (by unfold sameP at h; simp [h]))); exact bsame_tiles C D w hC hD fC fD eW eH eT etiles
  by_cases eon : C.on = D.on
  case neg => obtain rfl : r = false := (by rw [← hr]; exact decide_eq_false (fun h => eon (by unfold sameP at h; simp [h]))); exact bsame_on C D w hC hD fC fD eW eH eT etiles eon
  by_cases eins : C.ins = D.ins
  case neg => obtain rfl : r = false := (by rw [← hr]; exact decide_eq_false (fun h => eins (by unfold sameP at h; simp [h]))); exact bsame_ins C D w hC hD fC fD eW eH eT etiles eon eins
  by_cases eouts : C.outs = D.outs
  case neg => obtain rfl : r = false := (by rw [← hr]; exact decide_eq_false (fun h => eouts (by unfold sameP at h; simp [h]))); exact bsame_outs C D w hC hD fC fD eW eH eT etiles eon eins eouts
  obtain rfl : r = true := by rw [← hr]; exact decide_eq_true ⟨⟨eW, eH, eT⟩, etiles, eon, eins, eouts⟩
  exact bsame_all C D w hC hD fC fD eW eH eT etiles eon eins eouts

/-- few enough, as the reference tells -/
def few31 (C : Cfg) : Prop := C.W ≤ 6 ∧ C.H ≤ 6 ∧ C.T ≤ 8 ∧ C.tiles.length ≤ 100 ∧ C.on.length ≤ 10000 ∧ C.ins.length ≤ 100 ∧ C.outs.length ≤ 100
instance (C : Cfg) : Decidable (few31 C) := by unfold few31; infer_instance
theorem few31_few {C : Cfg} (h : few31 C) : C.few := by unfold few31 at h; unfold Cfg.few; omega
set_option maxRecDepth 100000 in
set_option maxHeartbeats 1000000 in
theorem few31_no0 (C : Cfg) (w : World) (g : ¬ C.W ≤ 6) :
    Calls Try.prog 12 #[.agg #[.int .i64 C.W, .int .i64 C.H, .int .i64 C.T, .slice C.AT C.tiles.length C.cT, .slice C.AO C.on.length C.cO, .slice C.AI C.ins.length C.cI, .slice C.AU C.outs.length C.cU]] w fun e w' => e = .returned (.bool false) ∧ Below w.heap.size w w' := by
  go_enter Try.func12, Try.ntmps12
  go_wp2_with fail
  go_ret
  exact ⟨rfl, below_new w _⟩
set_option maxRecDepth 100000 in
set_option maxHeartbeats 1000000 in
theorem few31_no1 (C : Cfg) (w : World) (h0 : C.W ≤ 6) (g : ¬ C.H ≤ 6) :
    Calls Try.prog 12 #[.agg #[.int .i64 C.W, .int .i64 C.H, .int .i64 C.T, .slice C.AT C.tiles.length C.cT, .slice C.AO C.on.length C.cO, .slice C.AI C.ins.length C.cI, .slice C.AU C.outs.length C.cU]] w fun e w' => e = .returned (.bool false) ∧ Below w.heap.size w w' := by
  go_enter Try.func12, Try.ntmps12
  go_wp2_with fail
  go_ret
  exact ⟨rfl, below_new w _⟩
set_option maxRecDepth 100000 in
set_option maxHeartbeats 1000000 in
theorem few31_no2 (C : Cfg) (w : World) (h0 : C.W ≤ 6) (h1 : C.H ≤ 6) (g : ¬ C.T ≤ 8) :
    Calls Try.prog 12 #[.agg #[.int .i64 C.W, .int .i64 C.H, .int .i64 C.T, .slice C.AT C.tiles.length C.cT, .slice C.AO C.on.length C.cO, .slice C.AI C.ins.length C.cI, .slice C.AU C.outs.length C.cU]] w fun e w' => e = .returned (.bool false) ∧ Below w.heap.size w w' := by
  go_enter Try.func12, Try.ntmps12
  go_wp2_with fail
  go_ret
  exact ⟨rfl, below_new w _⟩
set_option maxRecDepth 100000 in
set_option maxHeartbeats 1000000 in
theorem few31_no3 (C : Cfg) (w : World) (h0 : C.W ≤ 6) (h1 : C.H ≤ 6) (h2 : C.T ≤ 8) (g : ¬ C.tiles.length ≤ 100) :
    Calls Try.prog 12 #[.agg #[.int .i64 C.W, .int .i64 C.H, .int .i64 C.T, .slice C.AT C.tiles.length C.cT, .slice C.AO C.on.length C.cO, .slice C.AI C.ins.length C.cI, .slice C.AU C.outs.length C.cU]] w fun e w' => e = .returned (.bool false) ∧ Below w.heap.size w w' := by
  go_enter Try.func12, Try.ntmps12
  go_wp2_with fail
  go_ret
  exact ⟨rfl, below_new w _⟩
set_option maxRecDepth 100000 in
set_option maxHeartbeats 1000000 in
theorem few31_no4 (C : Cfg) (w : World) (h0 : C.W ≤ 6) (h1 : C.H ≤ 6) (h2 : C.T ≤ 8) (h3 : C.tiles.length ≤ 100) (g : ¬ C.on.length ≤ 10000) :
    Calls Try.prog 12 #[.agg #[.int .i64 C.W, .int .i64 C.H, .int .i64 C.T, .slice C.AT C.tiles.length C.cT, .slice C.AO C.on.length C.cO, .slice C.AI C.ins.length C.cI, .slice C.AU C.outs.length C.cU]] w fun e w' => e = .returned (.bool false) ∧ Below w.heap.size w w' := by
  go_enter Try.func12, Try.ntmps12
  go_wp2_with fail
  go_ret
  exact ⟨rfl, below_new w _⟩
set_option maxRecDepth 100000 in
set_option maxHeartbeats 1000000 in
theorem few31_no5 (C : Cfg) (w : World) (h0 : C.W ≤ 6) (h1 : C.H ≤ 6) (h2 : C.T ≤ 8) (h3 : C.tiles.length ≤ 100) (h4 : C.on.length ≤ 10000) (g : ¬ C.ins.length ≤ 100) :
    Calls Try.prog 12 #[.agg #[.int .i64 C.W, .int .i64 C.H, .int .i64 C.T, .slice C.AT C.tiles.length C.cT, .slice C.AO C.on.length C.cO, .slice C.AI C.ins.length C.cI, .slice C.AU C.outs.length C.cU]] w fun e w' => e = .returned (.bool false) ∧ Below w.heap.size w w' := by
  go_enter Try.func12, Try.ntmps12
  go_wp2_with fail
  go_ret
  exact ⟨rfl, below_new w _⟩
set_option maxRecDepth 100000 in
set_option maxHeartbeats 1000000 in
theorem few31_no6 (C : Cfg) (w : World) (h0 : C.W ≤ 6) (h1 : C.H ≤ 6) (h2 : C.T ≤ 8) (h3 : C.tiles.length ≤ 100) (h4 : C.on.length ≤ 10000) (h5 : C.ins.length ≤ 100) (g : ¬ C.outs.length ≤ 100) :
    Calls Try.prog 12 #[.agg #[.int .i64 C.W, .int .i64 C.H, .int .i64 C.T, .slice C.AT C.tiles.length C.cT, .slice C.AO C.on.length C.cO, .slice C.AI C.ins.length C.cI, .slice C.AU C.outs.length C.cU]] w fun e w' => e = .returned (.bool false) ∧ Below w.heap.size w w' := by
  have hd : decide ((C.outs.length : Int) ≤ 100) = false := decide_eq_false (by omega)
  go_enter Try.func12, Try.ntmps12
  go_wp2_with fail
  go_ret
  exact ⟨rfl, below_new w _⟩
set_option maxRecDepth 100000 in
set_option maxHeartbeats 1000000 in
theorem few31_all (C : Cfg) (w : World) (h0 : C.W ≤ 6) (h1 : C.H ≤ 6) (h2 : C.T ≤ 8) (h3 : C.tiles.length ≤ 100) (h4 : C.on.length ≤ 10000) (h5 : C.ins.length ≤ 100) (h6 : C.outs.length ≤ 100) :
    Calls Try.prog 12 #[.agg #[.int .i64 C.W, .int .i64 C.H, .int .i64 C.T, .slice C.AT C.tiles.length C.cT, .slice C.AO C.on.length C.cO, .slice C.AI C.ins.length C.cI, .slice C.AU C.outs.length C.cU]] w fun e w' => e = .returned (.bool true) ∧ Below w.heap.size w w' := by
  have hd : decide ((C.outs.length : Int) ≤ 100) = true := decide_eq_true (by omega)
  go_enter Try.func12, Try.ntmps12
  go_wp2_with fail
  go_ret
  exact ⟨rfl, below_new w _⟩
theorem few31_no (C : Cfg) (w : World) (h : ¬ few31 C) :
    Calls Try.prog 12 #[.agg #[.int .i64 C.W, .int .i64 C.H, .int .i64 C.T, .slice C.AT C.tiles.length C.cT, .slice C.AO C.on.length C.cO, .slice C.AI C.ins.length C.cI, .slice C.AU C.outs.length C.cU]] w fun e w' => e = .returned (.bool false) ∧ Below w.heap.size w w' := by
  unfold few31 at h
  by_cases h0 : C.W ≤ 6
  case neg => exact few31_no0 C w h0
  by_cases h1 : C.H ≤ 6
  case neg => exact few31_no1 C w h0 h1
  by_cases h2 : C.T ≤ 8
  case neg => exact few31_no2 C w h0 h1 h2
  by_cases h3 : C.tiles.length ≤ 100
  case neg => exact few31_no3 C w h0 h1 h2 h3
  by_cases h4 : C.on.length ≤ 10000
  case neg => exact few31_no4 C w h0 h1 h2 h3 h4
  by_cases h5 : C.ins.length ≤ 100
  case neg => exact few31_no5 C w h0 h1 h2 h3 h4 h5
  exact few31_no6 C w h0 h1 h2 h3 h4 h5 (fun g => h ⟨h0, h1, h2, h3, h4, h5, g⟩)
theorem few31_yes (C : Cfg) (w : World) (h : few31 C) :
    Calls Try.prog 12 #[.agg #[.int .i64 C.W, .int .i64 C.H, .int .i64 C.T, .slice C.AT C.tiles.length C.cT, .slice C.AO C.on.length C.cO, .slice C.AI C.ins.length C.cI, .slice C.AU C.outs.length C.cU]] w fun e w' => e = .returned (.bool true) ∧ Below w.heap.size w w' := by
  obtain ⟨h0, h1, h2, h3, h4, h5, h6⟩ := h
  exact few31_all C w h0 h1 h2 h3 h4 h5 h6

set_option maxRecDepth 100000 in
set_option maxHeartbeats 2000000 in
theorem rsame_W (C D : Cfg) (w : World) (hC : C.In w) (hD : D.In w) (fC : C.few) (fD : D.few) (nW : ¬ C.W = D.W) :
    Calls Try.prog 16 #[.agg #[.int .i64 C.W, .int .i64 C.H, .int .i64 C.T, .slice C.AT C.tiles.length C.cT, .slice C.AO C.on.length C.cO, .slice C.AI C.ins.length C.cI, .slice C.AU C.outs.length C.cU], .agg #[.int .i64 D.W, .int .i64 D.H, .int .i64 D.T, .slice D.AT D.tiles.length D.cT, .slice D.AO D.on.length D.cO, .slice D.AI D.ins.length D.cI, .slice D.AU D.outs.length D.cU]] w fun e w' => e = .returned (.bool false) ∧ Below w.heap.size w w' := by
  have dW : (C.W == D.W) = false := beq_eq_false_iff_ne.2 nW
  clear nW
  have HC := Lib.hid hC
  have HD := Lib.hid hD
  have T0 := Lib.hid (Two7.new w C D)
  have ft := few_tiles fC
  clear hC hD
  go_enter Try.func16, Try.ntmps16
  obtain ⟨z0, a00, a01, a02, a03, a04, a05, a06⟩ := T0.out.c
  obtain ⟨y0, b00, b01, b02, b03, b04, b05, b06⟩ := T0.out.d
  go_wp2_with fail
  go_ret
  exact ⟨rfl, T0.out.below⟩

set_option maxRecDepth 100000 in
set_option maxHeartbeats 2000000 in
theorem rsame_H (C D : Cfg) (w : World) (hC : C.In w) (hD : D.In w) (fC : C.few) (fD : D.few) (eW : C.W = D.W) (nH : ¬ C.H = D.H) :
    Calls Try.prog 16 #[.agg #[.int .i64 C.W, .int .i64 C.H, .int .i64 C.T, .slice C.AT C.tiles.length C.cT, .slice C.AO C.on.length C.cO, .slice C.AI C.ins.length C.cI, .slice C.AU C.outs.length C.cU], .agg #[.int .i64 D.W, .int .i64 D.H, .int .i64 D.T, .slice D.AT D.tiles.length D.cT, .slice D.AO D.on.length D.cO, .slice D.AI D.ins.length D.cI, .slice D.AU D.outs.length D.cU]] w fun e w' => e = .returned (.bool false) ∧ Below w.heap.size w w' := by
  have dW : (C.W == D.W) = true := beq_iff_eq.2 eW
  have dH : (C.H == D.H) = false := beq_eq_false_iff_ne.2 nH
  clear eW
  clear nH
  have HC := Lib.hid hC
  have HD := Lib.hid hD
  have T0 := Lib.hid (Two7.new w C D)
  have ft := few_tiles fC
  clear hC hD
  go_enter Try.func16, Try.ntmps16
  obtain ⟨z0, a00, a01, a02, a03, a04, a05, a06⟩ := T0.out.c
  obtain ⟨y0, b00, b01, b02, b03, b04, b05, b06⟩ := T0.out.d
  go_wp2_with fail
  go_ret
  exact ⟨rfl, T0.out.below⟩

set_option maxRecDepth 100000 in
set_option maxHeartbeats 2000000 in
theorem rsame_T (C D : Cfg) (w : World) (hC : C.In w) (hD : D.In w) (fC : C.few) (fD : D.few) (eW : C.W = D.W) (eH : C.H = D.H) (nT : ¬ C.T = D.T) :
    Calls Try.prog 16 #[.agg #[.int .i64 C.W, .int .i64 C.H, .int .i64 C.T, .slice C.AT C.tiles.length C.cT, .slice C.AO C.on.length C.cO, .slice C.AI C.ins.length C.cI, .slice C.AU C.outs.length C.cU], .agg #[.int .i64 D.W, .int .i64 D.H, .int .i64 D.T, .slice D.AT D.tiles.length D.cT, .slice D.AO D.on.length D.cO, .slice D.AI D.ins.length D.cI, .slice D.AU D.outs.length D.cU]] w fun e w' => e = .returned (.bool false) ∧ Below w.heap.size w w' := by
  have dW : (C.W == D.W) = true := beq_iff_eq.2 eW
  have dH : (C.H == D.H) = true := beq_iff_eq.2 eH
  have dT : (C.T == D.T) = false := beq_eq_false_iff_ne.2 nT
  clear eW
  clear eH
  clear nT
  have HC := Lib.hid hC
  have HD := Lib.hid hD
  have T0 := Lib.hid (Two7.new w C D)
  have ft := few_tiles fC
  clear hC hD
  go_enter Try.func16, Try.ntmps16
  obtain ⟨z0, a00, a01, a02, a03, a04, a05, a06⟩ := T0.out.c
  obtain ⟨y0, b00, b01, b02, b03, b04, b05, b06⟩ := T0.out.d
  go_wp2_with fail
  go_ret
  exact ⟨rfl, T0.out.below⟩

set_option maxRecDepth 100000 in
set_option maxHeartbeats 2000000 in
theorem rsame_len (C D : Cfg) (w : World) (hC : C.In w) (hD : D.In w) (fC : C.few) (fD : D.few) (eW : C.W = D.W) (eH : C.H = D.H) (eT : C.T = D.T) (nlen : ¬ C.tiles.length = D.tiles.length) :
    Calls Try.prog 16 #[.agg #[.int .i64 C.W, .int .i64 C.H, .int .i64 C.T, .slice C.AT C.tiles.length C.cT, .slice C.AO C.on.length C.cO, .slice C.AI C.ins.length C.cI, .slice C.AU C.outs.length C.cU], .agg #[.int .i64 D.W, .int .i64 D.H, .int .i64 D.T, .slice D.AT D.tiles.length D.cT, .slice D.AO D.on.length D.cO, .slice D.AI D.ins.length D.cI, .slice D.AU D.outs.length D.cU]] w fun e w' => e = .returned (.bool false) ∧ Below w.heap.size w w' := by
  have dW : (C.W == D.W) = true := beq_iff_eq.2 eW
  have dH : (C.H == D.H) = true := beq_iff_eq.2 eH
  have dT : (C.T == D.T) = true := beq_iff_eq.2 eT
  clear eW
  clear eH
  clear eT
  have dl : ((C.tiles.length : Int) != (D.tiles.length : Int)) = true := by rw [bne_iff_ne]; omega
  clear nlen
  have HC := Lib.hid hC
  have HD := Lib.hid hD
  have T0 := Lib.hid (Two7.new w C D)
  have ft := few_tiles fC
  clear hC hD
  go_enter Try.func16, Try.ntmps16
  obtain ⟨z0, a00, a01, a02, a03, a04, a05, a06⟩ := T0.out.c
  obtain ⟨y0, b00, b01, b02, b03, b04, b05, b06⟩ := T0.out.d
  go_wp2_with fail
  go_ret
  exact ⟨rfl, T0.out.below⟩

set_option maxRecDepth 100000 in
set_option maxHeartbeats 2000000 in
theorem rsame_on (C D : Cfg) (w : World) (hC : C.In w) (hD : D.In w) (fC : C.few) (fD : D.few) (eW : C.W = D.W) (eH : C.H = D.H) (eT : C.T = D.T) (non : ¬ C.on = D.on) (elen : C.tiles.length = D.tiles.length) :
    Calls Try.prog 16 #[.agg #[.int .i64 C.W, .int .i64 C.H, .int .i64 C.T, .slice C.AT C.tiles.length C.cT, .slice C.AO C.on.length C.cO, .slice C.AI C.ins.length C.cI, .slice C.AU C.outs.length C.cU], .agg #[.int .i64 D.W, .int .i64 D.H, .int .i64 D.T, .slice D.AT D.tiles.length D.cT, .slice D.AO D.on.length D.cO, .slice D.AI D.ins.length D.cI, .slice D.AU D.outs.length D.cU]] w fun e w' => e = .returned (.bool false) ∧ Below w.heap.size w w' := by
  have dW : (C.W == D.W) = true := beq_iff_eq.2 eW
  have dH : (C.H == D.H) = true := beq_iff_eq.2 eH
  have dT : (C.T == D.T) = true := beq_iff_eq.2 eT
  clear eW
  clear eH
  clear eT
  have dl : ((C.tiles.length : Int) != (D.tiles.length : Int)) = false := by rw [bne_eq_false_iff_eq]; omega
  have HC := Lib.hid hC
  have HD := Lib.hid hD
  have T0 := Lib.hid (Two7.new w C D)
  have ft := few_tiles fC
  clear hC hD
  have Eon := Lib.hid (show decide (C.on = D.on) = false from decide_eq_false non)
  clear non
  have EL := Lib.hid elen
  clear elen
  go_enter Try.func16, Try.ntmps16
  obtain ⟨z0, a00, a01, a02, a03, a04, a05, a06⟩ := T0.out.c
  obtain ⟨y0, b00, b01, b02, b03, b04, b05, b06⟩ := T0.out.d
  go_wp2_with fail
  refine (rBools_any _ _ _ _ _ _ _ _ _ (HC.out.later T0.out.below).on (HD.out.later T0.out.below).on (few_on fC) (few_on fD) false Eon.out).mono ?_
  rintro e w1 ⟨rfl, hb⟩
  have T1 := Lib.hid (T0.out.keep hb)
  clear hb
  clear z0 a00 a01 a02 a03 a04 a05 a06 y0 b00 b01 b02 b03 b04 b05 b06
  obtain ⟨z1, a10, a11, a12, a13, a14, a15, a16⟩ := T1.out.c
  obtain ⟨y1, b10, b11, b12, b13, b14, b15, b16⟩ := T1.out.d
  go_wp2_with fail
  go_ret
  exact ⟨rfl, T1.out.below⟩

set_option maxRecDepth 100000 in
set_option maxHeartbeats 2000000 in
theorem rsame_ins (C D : Cfg) (w : World) (hC : C.In w) (hD : D.In w) (fC : C.few) (fD : D.few) (eW : C.W = D.W) (eH : C.H = D.H) (eT : C.T = D.T) (eon : C.on = D.on) (nins : ¬ C.ins = D.ins) (elen : C.tiles.length = D.tiles.length) :
    Calls Try.prog 16 #[.agg #[.int .i64 C.W, .int .i64 C.H, .int .i64 C.T, .slice C.AT C.tiles.length C.cT, .slice C.AO C.on.length C.cO, .slice C.AI C.ins.length C.cI, .slice C.AU C.outs.length C.cU], .agg #[.int .i64 D.W, .int .i64 D.H, .int .i64 D.T, .slice D.AT D.tiles.length D.cT, .slice D.AO D.on.length D.cO, .slice D.AI D.ins.length D.cI, .slice D.AU D.outs.length D.cU]] w fun e w' => e = .returned (.bool false) ∧ Below w.heap.size w w' := by
  have dW : (C.W == D.W) = true := beq_iff_eq.2 eW
  have dH : (C.H == D.H) = true := beq_iff_eq.2 eH
  have dT : (C.T == D.T) = true := beq_iff_eq.2 eT
  clear eW
  clear eH
  clear eT
  have dl : ((C.tiles.length : Int) != (D.tiles.length : Int)) = false := by rw [bne_eq_false_iff_eq]; omega
  have HC := Lib.hid hC
  have HD := Lib.hid hD
  have T0 := Lib.hid (Two7.new w C D)
  have ft := few_tiles fC
  clear hC hD
  have Eon := Lib.hid (show decide (C.on = D.on) = true from decide_eq_true eon)
  clear eon
  have Eins := Lib.hid (show decide (C.ins = D.ins) = false from decide_eq_false nins)
  clear nins
  have EL := Lib.hid elen
  clear elen
  go_enter Try.func16, Try.ntmps16
  obtain ⟨z0, a00, a01, a02, a03, a04, a05, a06⟩ := T0.out.c
  obtain ⟨y0, b00, b01, b02, b03, b04, b05, b06⟩ := T0.out.d
  go_wp2_with fail
  refine (rBools_any _ _ _ _ _ _ _ _ _ (HC.out.later T0.out.below).on (HD.out.later T0.out.below).on (few_on fC) (few_on fD) true Eon.out).mono ?_
  rintro e w1 ⟨rfl, hb⟩
  have T1 := Lib.hid (T0.out.keep hb)
  clear hb
  clear z0 a00 a01 a02 a03 a04 a05 a06 y0 b00 b01 b02 b03 b04 b05 b06
  obtain ⟨z1, a10, a11, a12, a13, a14, a15, a16⟩ := T1.out.c
  obtain ⟨y1, b10, b11, b12, b13, b14, b15, b16⟩ := T1.out.d
  go_wp2_with fail
  refine (rInts_any _ _ _ _ _ _ _ _ _ (HC.out.later T1.out.below).ins (HD.out.later T1.out.below).ins (few_ins fC) (few_ins fD) false Eins.out).mono ?_
  rintro e w2 ⟨rfl, hb⟩
  have T2 := Lib.hid (T1.out.keep hb)
  clear hb
  clear z1 a10 a11 a12 a13 a14 a15 a16 y1 b10 b11 b12 b13 b14 b15 b16
  obtain ⟨z2, a20, a21, a22, a23, a24, a25, a26⟩ := T2.out.c
  obtain ⟨y2, b20, b21, b22, b23, b24, b25, b26⟩ := T2.out.d
  go_wp2_with fail
  go_ret
  exact ⟨rfl, T2.out.below⟩

set_option maxRecDepth 100000 in
set_option maxHeartbeats 2000000 in
theorem rsame_outs (C D : Cfg) (w : World) (hC : C.In w) (hD : D.In w) (fC : C.few) (fD : D.few) (eW : C.W = D.W) (eH : C.H = D.H) (eT : C.T = D.T) (eon : C.on = D.on) (eins : C.ins = D.ins) (nouts : ¬ C.outs = D.outs) (elen : C.tiles.length = D.tiles.length) :
    Calls Try.prog 16 #[.agg #[.int .i64 C.W, .int .i64 C.H, .int .i64 C.T, .slice C.AT C.tiles.length C.cT, .slice C.AO C.on.length C.cO, .slice C.AI C.ins.length C.cI, .slice C.AU C.outs.length C.cU], .agg #[.int .i64 D.W, .int .i64 D.H, .int .i64 D.T, .slice D.AT D.tiles.length D.cT, .slice D.AO D.on.length D.cO, .slice D.AI D.ins.length D.cI, .slice D.AU D.outs.length D.cU]] w fun e w' => e = .returned (.bool false) ∧ Below w.heap.size w w' := by
  have dW : (C.W == D.W) = true := beq_iff_eq.2 eW
  have dH : (C.H == D.H) = true := beq_iff_eq.2 eH
  have dT : (C.T == D.T) = true := beq_iff_eq.2 eT
  clear eW
  clear eH
  clear eT
  have dl : ((C.tiles.length : Int) != (D.tiles.length : Int)) = false := by rw [bne_eq_false_iff_eq]; omega
  have HC := Lib.hid hC
  have HD := Lib.hid hD
  have T0 := Lib.hid (Two7.new w C D)
  have ft := few_tiles fC
  clear hC hD
  have Eon := Lib.hid (show decide (C.on = D.on) = true from decide_eq_true eon)
  clear eon
  have Eins := Lib.hid (show decide (C.ins = D.ins) = true from decide_eq_true eins)
  clear eins
  have Eouts := Lib.hid (show decide (C.outs = D.outs) = false from decide_eq_false nouts)
  clear nouts
  have EL := Lib.hid elen
  clear elen
  go_enter Try.func16, Try.ntmps16
  obtain ⟨z0, a00, a01, a02, a03, a04, a05, a06⟩ := T0.out.c
  obtain ⟨y0, b00, b01, b02, b03, b04, b05, b06⟩ := T0.out.d
  go_wp2_with fail
  refine (rBools_any _ _ _ _ _ _ _ _ _ (HC.out.later T0.out.below).on (HD.out.later T0.out.below).on (few_on fC) (few_on fD) true Eon.out).mono ?_
  rintro e w1 ⟨rfl, hb⟩
  have T1 := Lib.hid (T0.out.keep hb)
  clear hb
  clear z0 a00 a01 a02 a03 a04 a05 a06 y0 b00 b01 b02 b03 b04 b05 b06
  obtain ⟨z1, a10, a11, a12, a13, a14, a15, a16⟩ := T1.out.c
  obtain ⟨y1, b10, b11, b12, b13, b14, b15, b16⟩ := T1.out.d
  go_wp2_with fail
  refine (rInts_any _ _ _ _ _ _ _ _ _ (HC.out.later T1.out.below).ins (HD.out.later T1.out.below).ins (few_ins fC) (few_ins fD) true Eins.out).mono ?_
  rintro e w2 ⟨rfl, hb⟩
  have T2 := Lib.hid (T1.out.keep hb)
  clear hb
  clear z1 a10 a11 a12 a13 a14 a15 a16 y1 b10 b11 b12 b13 b14 b15 b16
  obtain ⟨z2, a20, a21, a22, a23, a24, a25, a26⟩ := T2.out.c
  obtain ⟨y2, b20, b21, b22, b23, b24, b25, b26⟩ := T2.out.d
  go_wp2_with fail
  refine (rInts_any _ _ _ _ _ _ _ _ _ (HC.out.later T2.out.below).outs (HD.out.later T2.out.below).outs (few_outs fC) (few_outs fD) false Eouts.out).mono ?_
  rintro e w3 ⟨rfl, hb⟩
  have T3 := Lib.hid (T2.out.keep hb)
  clear hb
  clear z2 a20 a21 a22 a23 a24 a25 a26 y2 b20 b21 b22 b23 b24 b25 b26
  obtain ⟨z3, a30, a31, a32, a33, a34, a35, a36⟩ := T3.out.c
  obtain ⟨y3, b30, b31, b32, b33, b34, b35, b36⟩ := T3.out.d
  go_wp2_with fail
  go_ret
  exact ⟨rfl, T3.out.below⟩

set_option maxRecDepth 100000 in
set_option maxHeartbeats 2000000 in
theorem rsame_tiles (C D : Cfg) (w : World) (hC : C.In w) (hD : D.In w) (fC : C.few) (fD : D.few) (eW : C.W = D.W) (eH : C.H = D.H) (eT : C.T = D.T) (eon : C.on = D.on) (eins : C.ins = D.ins) (eouts : C.outs = D.outs) (ntiles : ¬ C.tiles = D.tiles) (elen : C.tiles.length = D.tiles.length) :
    Calls Try.prog 16 #[.agg #[.int .i64 C.W, .int .i64 C.H, .int .i64 C.T, .slice C.AT C.tiles.length C.cT, .slice C.AO C.on.length C.cO, .slice C.AI C.ins.length C.cI, .slice C.AU C.outs.length C.cU], .agg #[.int .i64 D.W, .int .i64 D.H, .int .i64 D.T, .slice D.AT D.tiles.length D.cT, .slice D.AO D.on.length D.cO, .slice D.AI D.ins.length D.cI, .slice D.AU D.outs.length D.cU]] w fun e w' => e = .returned (.bool false) ∧ Below w.heap.size w w' := by
  have dW : (C.W == D.W) = true := beq_iff_eq.2 eW
  have dH : (C.H == D.H) = true := beq_iff_eq.2 eH
  have dT : (C.T == D.T) = true := beq_iff_eq.2 eT
  clear eW
  clear eH
  clear eT
  have dl : ((C.tiles.length : Int) != (D.tiles.length : Int)) = false := by rw [bne_eq_false_iff_eq]; omega
  have HC := Lib.hid hC
  have HD := Lib.hid hD
  have T0 := Lib.hid (Two7.new w C D)
  have ft := few_tiles fC
  clear hC hD
  have Eon := Lib.hid (show decide (C.on = D.on) = true from decide_eq_true eon)
  clear eon
  have Eins := Lib.hid (show decide (C.ins = D.ins) = true from decide_eq_true eins)
  clear eins
  have Eouts := Lib.hid (show decide (C.outs = D.outs) = true from decide_eq_true eouts)
  clear eouts
  have NT := Lib.hid ntiles
  clear ntiles
  have EL := Lib.hid elen
  clear elen
  go_enter Try.func16, Try.ntmps16
  obtain ⟨z0, a00, a01, a02, a03, a04, a05, a06⟩ := T0.out.c
  obtain ⟨y0, b00, b01, b02, b03, b04, b05, b06⟩ := T0.out.d
  go_wp2_with fail
  refine (rBools_any _ _ _ _ _ _ _ _ _ (HC.out.later T0.out.below).on (HD.out.later T0.out.below).on (few_on fC) (few_on fD) true Eon.out).mono ?_
  rintro e w1 ⟨rfl, hb⟩
  have T1 := Lib.hid (T0.out.keep hb)
  clear hb
  clear z0 a00 a01 a02 a03 a04 a05 a06 y0 b00 b01 b02 b03 b04 b05 b06
  obtain ⟨z1, a10, a11, a12, a13, a14, a15, a16⟩ := T1.out.c
  obtain ⟨y1, b10, b11, b12, b13, b14, b15, b16⟩ := T1.out.d
  go_wp2_with fail
  refine (rInts_any _ _ _ _ _ _ _ _ _ (HC.out.later T1.out.below).ins (HD.out.later T1.out.below).ins (few_ins fC) (few_ins fD) true Eins.out).mono ?_
  rintro e w2 ⟨rfl, hb⟩
  have T2 := Lib.hid (T1.out.keep hb)
  clear hb
  clear z1 a10 a11 a12 a13 a14 a15 a16 y1 b10 b11 b12 b13 b14 b15 b16
  obtain ⟨z2, a20, a21, a22, a23, a24, a25, a26⟩ := T2.out.c
  obtain ⟨y2, b20, b21, b22, b23, b24, b25, b26⟩ := T2.out.d
  go_wp2_with fail
  refine (rInts_any _ _ _ _ _ _ _ _ _ (HC.out.later T2.out.below).outs (HD.out.later T2.out.below).outs (few_outs fC) (few_outs fD) true Eouts.out).mono ?_
  rintro e w3 ⟨rfl, hb⟩
  have T3 := Lib.hid (T2.out.keep hb)
  clear hb
  clear z2 a20 a21 a22 a23 a24 a25 a26 y2 b20 b21 b22 b23 b24 b25 b26
  obtain ⟨z3, a30, a31, a32, a33, a34, a35, a36⟩ := T3.out.c
  obtain ⟨y3, b30, b31, b32, b33, b34, b35, b36⟩ := T3.out.d
  go_wp2_with fail
  clear z3 a30 a31 a32 a33 a34 a35 a36 y3 b30 b31 b32 b33 b34 b35 b36
  go_loopw [5] (fun i wx => ∃ q : Nat, q ≤ C.tiles.length ∧ i = .int .i64 (q : Int) ∧ C.tiles.take q = D.tiles.take q ∧ Two7 w wx C D) (fun i _ => C.tiles.length - (intOf i).toNat)
  case atStart => exact ⟨0, by omega, rfl, by simp, T3.out⟩
  case round =>
    clear T3
    obtain ⟨q, hq, rfl, htk, ht⟩ := hrel
    have TQ := Lib.hid ht
    have HTK := Lib.hid htk
    clear ht htk
    obtain ⟨z9, a90, a91, a92, a93, a94, a95, a96⟩ := TQ.out.c
    obtain ⟨y9, b90, b91, b92, b93, b94, b95, b96⟩ := TQ.out.d
    by_cases hlt : q < C.tiles.length
    · have hlt2 : q < D.tiles.length := by have := EL.out; omega
      obtain ⟨a, ha, -, c0, c1, c2⟩ := (HC.out.later TQ.out.below).tiles.tile (k := q) hlt
      obtain ⟨b, hb, -, d0, d1, d2⟩ := (HD.out.later TQ.out.below).tiles.tile (k := q) hlt2
      rw [ha] at a93
      rw [hb] at b93
      clear ha hb
      have h0 : (0 : Int) ≤ (q : Int) := by omega
      have h1 : (q : Int) < (C.tiles.length : Int) := by omega
      have h2 : (q : Int) < (D.tiles.length : Int) := by omega
      by_cases he : C.tiles[q]! = D.tiles[q]!
      · have HNX := Lib.hid (take_eq_next (0, false, false) hlt hlt2 HTK.out (by rw [getT_eq hlt, getT_eq hlt2]; exact he))
        rw [he] at c0 c1 c2
        clear he
        generalize D.tiles[q]! = z at c0 c1 c2 d0 d1 d2
        obtain ⟨z0, z1, z2⟩ := z
        simp only at c0 c1 c2 d0 d1 d2
        go_wp2_with fail
        go_quiet (fail)
        go_wp2_with fail
        go_roundw
        case rel => exact ⟨q + 1, by omega, by go_num, HNX.out, TQ.out.keep (below_drewN (Below.refl _ _) _)⟩
        case measure => simp [intOf]; omega
      · generalize C.tiles[q]! = y at c0 c1 c2 he
        generalize D.tiles[q]! = z at d0 d1 d2 he
        obtain ⟨y0, y1, y2⟩ := y
        obtain ⟨z0, z1, z2⟩ := z
        simp only at c0 c1 c2 d0 d1 d2
        by_cases e0 : y0 = z0
        · subst e0
          by_cases e1 : y1 = z1
          · subst e1
            have e2 : y2 ≠ z2 := fun e => he (by rw [e])
            have hd : (y2 == z2) = false := beq_eq_false_iff_ne.2 e2
            clear he e2
            go_wp2_with fail
            go_quiet (fail)
            go_wp2_with fail
            go_ret
            exact ⟨rfl, below_drewN TQ.out.below _⟩
          · have hd : (y1 == z1) = false := beq_eq_false_iff_ne.2 e1
            clear he e1
            go_wp2_with fail
            go_quiet (fail)
            go_wp2_with fail
            go_ret
            exact ⟨rfl, below_drewN TQ.out.below _⟩
        · have hd : (y0 == z0) = false := beq_eq_false_iff_ne.2 e0
          clear he e0
          go_wp2_with fail
          go_quiet (fail)
          go_wp2_with fail
          go_ret
          exact ⟨rfl, below_drewN TQ.out.below _⟩
    · exfalso
      obtain rfl : q = C.tiles.length := by omega
      have := HTK.out
      rw [List.take_length, EL.out, List.take_length] at this
      exact NT.out this

set_option maxRecDepth 100000 in
set_option maxHeartbeats 2000000 in
theorem rsame_all (C D : Cfg) (w : World) (hC : C.In w) (hD : D.In w) (fC : C.few) (fD : D.few) (eW : C.W = D.W) (eH : C.H = D.H) (eT : C.T = D.T) (eon : C.on = D.on) (eins : C.ins = D.ins) (eouts : C.outs = D.outs) (etiles : C.tiles = D.tiles) (elen : C.tiles.length = D.tiles.length) :
    Calls Try.prog 16 #[.agg #[.int .i64 C.W, .int .i64 C.H, .int .i64 C.T, .slice C.AT C.tiles.length C.cT, .slice C.AO C.on.length C.cO, .slice C.AI C.ins.length C.cI, .slice C.AU C.outs.length C.cU], .agg #[.int .i64 D.W, .int .i64 D.H, .int .i64 D.T, .slice D.AT D.tiles.length D.cT, .slice D.AO D.on.length D.cO, .slice D.AI D.ins.length D.cI, .slice D.AU D.outs.length D.cU]] w fun e w' => e = .returned (.bool true) ∧ Below w.heap.size w w' := by
  have dW : (C.W == D.W) = true := beq_iff_eq.2 eW
  have dH : (C.H == D.H) = true := beq_iff_eq.2 eH
  have dT : (C.T == D.T) = true := beq_iff_eq.2 eT
  clear eW
  clear eH
  clear eT
  have dl : ((C.tiles.length : Int) != (D.tiles.length : Int)) = false := by rw [bne_eq_false_iff_eq]; omega
  have HC := Lib.hid hC
  have HD := Lib.hid hD
  have T0 := Lib.hid (Two7.new w C D)
  have ft := few_tiles fC
  clear hC hD
  have Eon := Lib.hid (show decide (C.on = D.on) = true from decide_eq_true eon)
  clear eon
  have Eins := Lib.hid (show decide (C.ins = D.ins) = true from decide_eq_true eins)
  clear eins
  have Eouts := Lib.hid (show decide (C.outs = D.outs) = true from decide_eq_true eouts)
  clear eouts
  have ET := Lib.hid etiles
  clear etiles
  have EL := Lib.hid elen
  clear elen
  go_enter Try.func16, Try.ntmps16
  obtain ⟨z0, a00, a01, a02, a03, a04, a05, a06⟩ := T0.out.c
  obtain ⟨y0, b00, b01, b02, b03, b04, b05, b06⟩ := T0.out.d
  go_wp2_with fail
  refine (rBools_any _ _ _ _ _ _ _ _ _ (HC.out.later T0.out.below).on (HD.out.later T0.out.below).on (few_on fC) (few_on fD) true Eon.out).mono ?_
  rintro e w1 ⟨rfl, hb⟩
  have T1 := Lib.hid (T0.out.keep hb)
  clear hb
  clear z0 a00 a01 a02 a03 a04 a05 a06 y0 b00 b01 b02 b03 b04 b05 b06
  obtain ⟨z1, a10, a11, a12, a13, a14, a15, a16⟩ := T1.out.c
  obtain ⟨y1, b10, b11, b12, b13, b14, b15, b16⟩ := T1.out.d
  go_wp2_with fail
  refine (rInts_any _ _ _ _ _ _ _ _ _ (HC.out.later T1.out.below).ins (HD.out.later T1.out.below).ins (few_ins fC) (few_ins fD) true Eins.out).mono ?_
  rintro e w2 ⟨rfl, hb⟩
  have T2 := Lib.hid (T1.out.keep hb)
  clear hb
  clear z1 a10 a11 a12 a13 a14 a15 a16 y1 b10 b11 b12 b13 b14 b15 b16
  obtain ⟨z2, a20, a21, a22, a23, a24, a25, a26⟩ := T2.out.c
  obtain ⟨y2, b20, b21, b22, b23, b24, b25, b26⟩ := T2.out.d
  go_wp2_with fail
  refine (rInts_any _ _ _ _ _ _ _ _ _ (HC.out.later T2.out.below).outs (HD.out.later T2.out.below).outs (few_outs fC) (few_outs fD) true Eouts.out).mono ?_
  rintro e w3 ⟨rfl, hb⟩
  have T3 := Lib.hid (T2.out.keep hb)
  clear hb
  clear z2 a20 a21 a22 a23 a24 a25 a26 y2 b20 b21 b22 b23 b24 b25 b26
  obtain ⟨z3, a30, a31, a32, a33, a34, a35, a36⟩ := T3.out.c
  obtain ⟨y3, b30, b31, b32, b33, b34, b35, b36⟩ := T3.out.d
  go_wp2_with fail
  clear z3 a30 a31 a32 a33 a34 a35 a36 y3 b30 b31 b32 b33 b34 b35 b36
  go_loopw [5] (fun i wx => ∃ q : Nat, q ≤ C.tiles.length ∧ i = .int .i64 (q : Int) ∧ C.tiles.take q = D.tiles.take q ∧ Two7 w wx C D) (fun i _ => C.tiles.length - (intOf i).toNat)
  case atStart => exact ⟨0, by omega, rfl, by simp, T3.out⟩
  case round =>
    clear T3
    obtain ⟨q, hq, rfl, htk, ht⟩ := hrel
    have TQ := Lib.hid ht
    have HTK := Lib.hid htk
    clear ht htk
    obtain ⟨z9, a90, a91, a92, a93, a94, a95, a96⟩ := TQ.out.c
    obtain ⟨y9, b90, b91, b92, b93, b94, b95, b96⟩ := TQ.out.d
    by_cases hlt : q < C.tiles.length
    · have hlt2 : q < D.tiles.length := by have := EL.out; omega
      obtain ⟨a, ha, -, c0, c1, c2⟩ := (HC.out.later TQ.out.below).tiles.tile (k := q) hlt
      obtain ⟨b, hb, -, d0, d1, d2⟩ := (HD.out.later TQ.out.below).tiles.tile (k := q) hlt2
      rw [ha] at a93
      rw [hb] at b93
      clear ha hb
      have h0 : (0 : Int) ≤ (q : Int) := by omega
      have h1 : (q : Int) < (C.tiles.length : Int) := by omega
      have h2 : (q : Int) < (D.tiles.length : Int) := by omega
      have he : C.tiles[q]! = D.tiles[q]! := by rw [ET.out]
      have HNX := Lib.hid (take_eq_next (0, false, false) hlt hlt2 HTK.out (by rw [getT_eq hlt, getT_eq hlt2]; exact he))
      rw [he] at c0 c1 c2
      clear he
      generalize D.tiles[q]! = z at c0 c1 c2 d0 d1 d2
      obtain ⟨z0, z1, z2⟩ := z
      simp only at c0 c1 c2 d0 d1 d2
      go_wp2_with fail
      go_quiet (fail)
      go_wp2_with fail
      go_roundw
      case rel => exact ⟨q + 1, by omega, by go_num, HNX.out, TQ.out.keep (below_drewN (Below.refl _ _) _)⟩
      case measure => simp [intOf]; omega
    · obtain rfl : q = C.tiles.length := by omega
      go_wp2_with fail
      go_ret
      exact ⟨rfl, TQ.out.below⟩

theorem rsame_any (C D : Cfg) (w : World) (hC : C.In w) (hD : D.In w) (fC : C.few) (fD : D.few) (r : Bool) (hr : decide (sameP C D) = r) :
    Calls Try.prog 16 #[.agg #[.int .i64 C.W, .int .i64 C.H, .int .i64 C.T, .slice C.AT C.tiles.length C.cT, .slice C.AO C.on.length C.cO, .slice C.AI C.ins.length C.cI, .slice C.AU C.outs.length C.cU], .agg #[.int .i64 D.W, .int .i64 D.H, .int .i64 D.T, .slice D.AT D.tiles.length D.cT, .slice D.AO D.on.length D.cO, .slice D.AI D.ins.length D.cI, .slice D.AU D.outs.length D.cU]] w fun e w' => e = .returned (.bool r) ∧ Below w.heap.size w w' := by
  by_cases eW : C.W = D.W
  case neg => obtain rfl : r = false := (by rw [← hr]; exact decide_eq_false (fun h => eW (by unfold sameP at h; simp [h]))); exact rsame_W C D w hC hD fC fD eW
  by_cases eH : C.H = D.H
  case neg => obtain rfl : r = false := (by rw [← hr]; exact decide_eq_false (fun h => eH (by unfold sameP at h; simp [h]))); exact rsame_H C D w hC hD fC fD eW eH
  by_cases eT : C.T = D.T
  case neg => obtain rfl : r = false := (by rw [← hr]; exact decide_eq_false (fun h => eT (by unfold sameP at h; simp [h]))); exact rsame_T C D w hC hD fC fD eW eH eT
  by_cases elen : C.tiles.length = D.tiles.length
  case neg => obtain rfl : r = false := (by rw [← hr]; exact decide_eq_false (fun h => elen (by rw [h.2.1]))); exact rsame_len C D w hC hD fC fD eW eH eT elen
  by_cases eon : C.on = D.on
  case neg => obtain rfl : r = false := (by rw [← hr]; exact decide_eq_false (fun h => eon (by unfold sameP at h; simp [h]))); exact rsame_on C D w hC hD fC fD eW eH eT eon elen
  by_cases eins : C.ins = D.ins
  case neg => obtain rfl : r = false := (by rw [← hr]; exact decide_eq_false (fun h => eins (by unfold sameP at h; simp [h]))); exact rsame_ins C D w hC hD fC fD eW eH eT eon eins elen
  by_cases eouts : C.outs = D.outs
  case neg => obtain rfl : r = false := (by rw [← hr]; exact decide_eq_false (fun h => eouts (by unfold sameP at h; simp [h]))); exact rsame_outs C D w hC hD fC fD eW eH eT eon eins eouts elen
  by_cases etiles : C.tiles = D.tiles
  case neg => obtain rfl : r = false := (by rw [← hr]; exact decide_eq_false (fun h => etiles h.2.1)); exact rsame_tiles C D w hC hD fC fD eW eH eT eon eins eouts etiles elen
  obtain rfl : r = true := by rw [← hr]; exact decide_eq_true ⟨⟨eW, eH, eT⟩, etiles, eon, eins, eouts⟩
  exact rsame_all C D w hC hD fC fD eW eH eT eon eins eouts etiles elen
end Go.Proofs.Ytoloaecbfglaeaa
