/- The law BitfileCheck. -/
import Derived.Test.YtoloaecbfglaeaaFrame
import Derived.Test.YtoloaecbfglaeaaOpenB
import Derived.Test.YtoloaecbfglaeaaLWhat
import Derived.Test.YtoloaecbfglaeaaOpen
namespace Go.Proofs.Ytoloaecbfglaeaa
open Go.ChangeShapes Go.WideShapes Go.ChangeAt Go.RowKit Go.Joins
set_option linter.unusedVariables false
set_option linter.unusedSimpArgs false

/-- two configurations in boxes -/
structure TwoB (w0 wx : World) (g h : Nat) (C D : Cfg) : Prop where
  below : Below w0.heap.size w0 wx
  c : Box7 wx g C
  d : Box7 wx h D
theorem TwoB.keep {w0 wx wy : World} {g h : Nat} {C D : Cfg} (t : TwoB w0 wx g h C D) (hb : Below wx.heap.size wx wy) : TwoB w0 wy g h C D := ⟨below_then t.below hb, t.c.below hb, t.d.below hb⟩
theorem TwoB.drew {w0 wx : World} {g h : Nat} {C D : Cfg} (t : TwoB w0 wx g h C D) : TwoB w0 wx.drew g h C D := t.keep (below_drewN (Below.refl _ _) 1)
theorem TwoB.cells {w0 wx : World} {g h : Nat} {C D : Cfg} (t : TwoB w0 wx g h C D) : (wx.cell? ⟨g, 0, none⟩ = some (.int .i64 C.W) ∧ wx.cell? ⟨g, 1, none⟩ = some (.int .i64 C.H) ∧ wx.cell? ⟨g, 2, none⟩ = some (.int .i64 C.T) ∧ wx.cell? ⟨g, 3, none⟩ = some (.slice C.AT C.tiles.length C.cT) ∧ wx.cell? ⟨g, 4, none⟩ = some (.slice C.AO C.on.length C.cO) ∧ wx.cell? ⟨g, 5, none⟩ = some (.slice C.AI C.ins.length C.cI) ∧ wx.cell? ⟨g, 6, none⟩ = some (.slice C.AU C.outs.length C.cU)) ∧ (wx.cell? ⟨h, 0, none⟩ = some (.int .i64 D.W) ∧ wx.cell? ⟨h, 1, none⟩ = some (.int .i64 D.H) ∧ wx.cell? ⟨h, 2, none⟩ = some (.int .i64 D.T) ∧ wx.cell? ⟨h, 3, none⟩ = some (.slice D.AT D.tiles.length D.cT) ∧ wx.cell? ⟨h, 4, none⟩ = some (.slice D.AO D.on.length D.cO) ∧ wx.cell? ⟨h, 5, none⟩ = some (.slice D.AI D.ins.length D.cI) ∧ wx.cell? ⟨h, 6, none⟩ = some (.slice D.AU D.outs.length D.cU)) :=
  ⟨⟨t.c.c0, t.c.c1, t.c.c2, t.c.c3, t.c.c4, t.c.c5, t.c.c6⟩, t.d.c0, t.d.c1, t.d.c2, t.d.c3, t.d.c4, t.d.c5, t.d.c6⟩
theorem TwoB.new (w : World) (C D : Cfg) : TwoB w ((w.alloc (.cells #[.int .i64 C.W, .int .i64 C.H, .int .i64 C.T, .slice C.AT C.tiles.length C.cT, .slice C.AO C.on.length C.cO, .slice C.AI C.ins.length C.cI, .slice C.AU C.outs.length C.cU] 28)).alloc (.cells #[.int .i64 D.W, .int .i64 D.H, .int .i64 D.T, .slice D.AT D.tiles.length D.cT, .slice D.AO D.on.length D.cO, .slice D.AI D.ins.length D.cI, .slice D.AU D.outs.length D.cU] 28)) w.heap.size (w.heap.size + 1) C D :=
  ⟨below_then (below_new _ _) (below_new _ _), (Box7.new w C _).below (below_new _ _), by have := Box7.new (w.alloc (.cells #[.int .i64 C.W, .int .i64 C.H, .int .i64 C.T, .slice C.AT C.tiles.length C.cT, .slice C.AO C.on.length C.cO, .slice C.AI C.ins.length C.cI, .slice C.AU C.outs.length C.cU] 28)) D 28; simpa using this⟩

set_option maxRecDepth 100000 in
set_option maxHeartbeats 4000000 in
theorem bitfileCheck_a (C D : Cfg) (w : World) (hs : ¬ few31 C) :
    Calls Try.prog 3 #[.agg #[.int .i64 C.W, .int .i64 C.H, .int .i64 C.T, .slice C.AT C.tiles.length C.cT, .slice C.AO C.on.length C.cO, .slice C.AI C.ins.length C.cI, .slice C.AU C.outs.length C.cU], .agg #[.int .i64 D.W, .int .i64 D.H, .int .i64 D.T, .slice D.AT D.tiles.length D.cT, .slice D.AO D.on.length D.cO, .slice D.AI D.ins.length D.cI, .slice D.AU D.outs.length D.cU]] w fun e w' => e = .returned (.bool true) ∧ Below w.heap.size w w' := by
  have T0 := Lib.hid (TwoB.new w C D)
  go_enter Try.func3, Try.ntmps3
  go_wp2_with fail
  refine (live31_any _).mono ?_
  rintro e w1 ⟨rfl, hb1⟩
  have T1 := Lib.hid (T0.out.keep hb1)
  clear hb1 T0
  obtain ⟨⟨k0, k1, k2, k3, k4, k5, k6⟩, j0, j1, j2, j3, j4, j5, j6⟩ := T1.out.cells
  go_wp2_with fail
  refine (few31_no _ _ hs).mono ?_
  rintro e w2 ⟨rfl, hb2⟩
  have T2 := Lib.hid (T1.out.keep hb2)
  clear hb2
  go_wp2_with fail
  go_ret
  exact ⟨rfl, T2.out.below⟩

set_option maxRecDepth 100000 in
set_option maxHeartbeats 4000000 in
theorem bitfileCheck_b (C D : Cfg) (w : World) (hs : few31 C) (hd : ¬ few31 D) :
    Calls Try.prog 3 #[.agg #[.int .i64 C.W, .int .i64 C.H, .int .i64 C.T, .slice C.AT C.tiles.length C.cT, .slice C.AO C.on.length C.cO, .slice C.AI C.ins.length C.cI, .slice C.AU C.outs.length C.cU], .agg #[.int .i64 D.W, .int .i64 D.H, .int .i64 D.T, .slice D.AT D.tiles.length D.cT, .slice D.AO D.on.length D.cO, .slice D.AI D.ins.length D.cI, .slice D.AU D.outs.length D.cU]] w fun e w' => e = .returned (.bool true) ∧ Below w.heap.size w w' := by
  have T0 := Lib.hid (TwoB.new w C D)
  go_enter Try.func3, Try.ntmps3
  go_wp2_with fail
  refine (live31_any _).mono ?_
  rintro e w1 ⟨rfl, hb1⟩
  have T1 := Lib.hid (T0.out.keep hb1)
  clear hb1 T0
  obtain ⟨⟨k0, k1, k2, k3, k4, k5, k6⟩, j0, j1, j2, j3, j4, j5, j6⟩ := T1.out.cells
  go_wp2_with fail
  refine (few31_yes _ _ hs).mono ?_
  rintro e w2 ⟨rfl, hb2⟩
  have T2 := Lib.hid (T1.out.keep hb2)
  clear hb2 T1 k0 k1 k2 k3 k4 k5 k6 j0 j1 j2 j3 j4 j5 j6
  obtain ⟨⟨k0, k1, k2, k3, k4, k5, k6⟩, j0, j1, j2, j3, j4, j5, j6⟩ := T2.out.cells
  go_wp2_with fail
  refine (few31_no _ _ hd).mono ?_
  rintro e w3 ⟨rfl, hb3⟩
  have T3 := Lib.hid (T2.out.keep hb3)
  clear hb3
  go_wp2_with fail
  go_ret
  exact ⟨rfl, T3.out.below⟩

set_option maxRecDepth 100000 in
set_option maxHeartbeats 4000000 in
theorem bitfileCheck_c (C D : Cfg) (w : World) (hC : C.In w) (hD : D.In w) (hs : few31 C) (hd : few31 D) :
    Calls Try.prog 3 #[.agg #[.int .i64 C.W, .int .i64 C.H, .int .i64 C.T, .slice C.AT C.tiles.length C.cT, .slice C.AO C.on.length C.cO, .slice C.AI C.ins.length C.cI, .slice C.AU C.outs.length C.cU], .agg #[.int .i64 D.W, .int .i64 D.H, .int .i64 D.T, .slice D.AT D.tiles.length D.cT, .slice D.AO D.on.length D.cO, .slice D.AI D.ins.length D.cI, .slice D.AU D.outs.length D.cU]] w fun e w' => e = .returned (.bool true) ∧ Below w.heap.size w w' := by
  have fC := few31_few hs
  have fD := few31_few hd
  have h3 := fun (W : World) (hB : Below w.heap.size w W) => bcheck_any C W (hC.later hB) fC
  have h5 := fun (W : World) (hB : Below w.heap.size w W) => rcheck31_any C W (hC.later hB) fC
  have h11 := fun (W : World) (hB : Below w.heap.size w W) => bsame_any C D W (hC.later hB) (hD.later hB) fC fD (decide (sameP C D)) rfl
  have h14 := fun (W : World) (hB : Below w.heap.size w W) => rsame_any C D W (hC.later hB) (hD.later hB) fC fD (decide (sameP C D)) rfl
  have h20 := fun (W : World) (hB : Below w.heap.size w W) => bsame_any C C W (hC.later hB) (hC.later hB) fC fC true (decide_eq_true ⟨⟨rfl, rfl, rfl⟩, rfl, rfl, rfl, rfl⟩)
  simp only [BCH] at h3
  simp only [RCH] at h5
  generalize C.E = ce at h3 h5
  generalize decide (sameP C D) = sb at h11 h14
  have H3 := Lib.hid h3
  have H5 := Lib.hid h5
  have H11 := Lib.hid h11
  have H14 := Lib.hid h14
  have H20 := Lib.hid h20
  clear h3 h5 h11 h14 h20 hC hD fC fD
  have T0 := Lib.hid (TwoB.new w C D)
  go_enter Try.func3, Try.ntmps3
  go_wp2_with fail
  refine (live31_any _).mono ?_
  rintro e w1 ⟨rfl, hb1⟩
  have T1 := Lib.hid (T0.out.keep hb1)
  clear hb1 T0
  obtain ⟨⟨k0, k1, k2, k3, k4, k5, k6⟩, j0, j1, j2, j3, j4, j5, j6⟩ := T1.out.cells
  go_wp2_with fail
  refine (few31_yes _ _ hs).mono ?_
  rintro e w2 ⟨rfl, hb2⟩
  have T2 := Lib.hid (T1.out.keep hb2)
  clear hb2 T1 k0 k1 k2 k3 k4 k5 k6 j0 j1 j2 j3 j4 j5 j6
  obtain ⟨⟨k0, k1, k2, k3, k4, k5, k6⟩, j0, j1, j2, j3, j4, j5, j6⟩ := T2.out.cells
  go_wp2_with fail
  refine (few31_yes _ _ hd).mono ?_
  rintro e w3 ⟨rfl, hb3⟩
  have T3 := Lib.hid (T2.out.keep hb3)
  clear hb3 T2 k0 k1 k2 k3 k4 k5 k6 j0 j1 j2 j3 j4 j5 j6
  go_upto_region 4 with (fail)
  refine wp_region_held_drew (S := (fun w' => TwoB w w' w.heap.size (w.heap.size + 1) C D)) (by kernel_rfl) ?_ (fun hHeld => ?_)
  · first | exact T3.out.drew | exact T4 | exact T5 | exact T6 | exact T7 | exact T8
  refine wpAnyH_take (i := 0) (oi := { dst := some 16, op := Op.move (Operand.tmp 5), type := 4, pos := _, after := #[], guard := none }) (v := ?_) rfl (by kernel_rfl) (by kernel_rfl) (by kernel_rfl) (fun _ _ _ h => h) (Or.inl ⟨by rfl, ?_⟩) (by assumption) ?_
  rotate_left
  · intro w hSw; obtain ⟨⟨k0, k1, k2, k3, k4, k5, k6⟩, j0, j1, j2, j3, j4, j5, j6⟩ := hSw.cells; go_simp; (try with_reducible rfl)
  try simp only [Act.put, List.setIfInBounds_toArray, List.set_cons_zero, List.set_cons_succ]
  refine wpAnyH_take (i := 1) (oi := { dst := some 17, op := Op.move (Operand.tmp 16), type := 4, pos := _, after := #[{ on := 0, ground := Ground.data }], guard := none }) (v := ?_) rfl (by kernel_rfl) (by kernel_rfl) (by kernel_rfl) (fun _ _ _ h => h) (Or.inl ⟨by rfl, ?_⟩) (by assumption) ?_
  rotate_left
  · intro w hSw; obtain ⟨⟨k0, k1, k2, k3, k4, k5, k6⟩, j0, j1, j2, j3, j4, j5, j6⟩ := hSw.cells; go_simp; (try with_reducible rfl)
  try simp only [Act.put, List.setIfInBounds_toArray, List.set_cons_zero, List.set_cons_succ]
  refine wpAnyH_take (i := 2) (oi := { dst := some 18, op := Op.load 28 (Operand.tmp 2), type := 28, pos := _, after := #[{ on := 1, ground := Ground.guard }], guard := some (1, true) }) (v := ?_) rfl (by kernel_rfl) (by kernel_rfl) (by kernel_rfl) (fun _ _ _ h => h) (Or.inl ⟨by rfl, ?_⟩) (by assumption) ?_
  rotate_left
  · intro w hSw; obtain ⟨⟨k0, k1, k2, k3, k4, k5, k6⟩, j0, j1, j2, j3, j4, j5, j6⟩ := hSw.cells; go_simp; (try with_reducible rfl)
  try simp only [Act.put, List.setIfInBounds_toArray, List.set_cons_zero, List.set_cons_succ]
  refine wpAnyH_take (i := 4) (oi := { dst := some 20, op := Op.load 28 (Operand.tmp 2), type := 28, pos := _, after := #[{ on := 1, ground := Ground.guard }], guard := some (1, true) }) (v := ?_) rfl (by kernel_rfl) (by kernel_rfl) (by kernel_rfl) (fun _ _ _ h => h) (Or.inl ⟨by rfl, ?_⟩) (by assumption) ?_
  rotate_left
  · intro w hSw; obtain ⟨⟨k0, k1, k2, k3, k4, k5, k6⟩, j0, j1, j2, j3, j4, j5, j6⟩ := hSw.cells; go_simp; (try with_reducible rfl)
  try simp only [Act.put, List.setIfInBounds_toArray, List.set_cons_zero, List.set_cons_succ]
  refine wpAnyH_ready (rs := [3]) (by kernel_rfl) (by simp) ?_
  refine AllReadyH.cons (o := { dst := some 19, op := Op.call { callee := Callee.value (Operand.func 13), args := #[Operand.tmp 18], argTypes := #[28] }, type := 31, pos := _, after := #[{ on := 2, ground := Ground.data }, { on := 1, ground := Ground.chain }, { on := 1, ground := Ground.guard }], guard := some (1, true) }) rfl (fun K hK => ?_) AllReadyH.nil
  go_simp
  have T := hHeld
  with_reducible refine (H3.out _ T.below).mono ?_
  rintro e4 w4 ⟨rfl, hb4⟩
  have T4 := T.keep hb4
  clear hb4 T
  refine hK.out _ _ ?_ (fun hHeld => ?_)
  · first | exact T3.out.drew | exact T4 | exact T5 | exact T6 | exact T7 | exact T8
  clear hK K
  try simp only [Act.put, List.setIfInBounds_toArray, List.set_cons_zero, List.set_cons_succ]
  refine wpAnyH_ready (rs := [5]) (by kernel_rfl) (by simp) ?_
  refine AllReadyH.cons (o := { dst := some 21, op := Op.call { callee := Callee.value (Operand.func 14), args := #[Operand.tmp 20], argTypes := #[28] }, type := 31, pos := _, after := #[{ on := 4, ground := Ground.data }, { on := 3, ground := Ground.chain }, { on := 1, ground := Ground.guard }], guard := some (1, true) }) rfl (fun K hK => ?_) AllReadyH.nil
  go_simp
  have T := hHeld
  with_reducible refine (H5.out _ T.below).mono ?_
  rintro e5 w5 ⟨rfl, hb5⟩
  have T5 := T.keep hb5
  clear hb5 T
  refine hK.out _ _ ?_ (fun hHeld => ?_)
  · first | exact T3.out.drew | exact T4 | exact T5 | exact T6 | exact T7 | exact T8
  clear hK K
  try simp only [Act.put, List.setIfInBounds_toArray, List.set_cons_zero, List.set_cons_succ]
  refine wpAnyH_take (i := 6) (oi := { dst := some 22, op := Op.binOp BinOp.eql 31 (Operand.tmp 19) (Operand.tmp 21) 31, type := 4, pos := _, after := #[{ on := 3, ground := Ground.data }, { on := 5, ground := Ground.data }, { on := 1, ground := Ground.guard }], guard := some (1, true) }) (v := ?_) rfl (by kernel_rfl) (by kernel_rfl) (by kernel_rfl) (fun _ _ _ h => h) (Or.inl ⟨by rfl, ?_⟩) (by assumption) ?_
  rotate_left
  · intro w hSw; obtain ⟨⟨k0, k1, k2, k3, k4, k5, k6⟩, j0, j1, j2, j3, j4, j5, j6⟩ := hSw.cells; go_simp; (try with_reducible rfl)
  try simp only [Act.put, List.setIfInBounds_toArray, List.set_cons_zero, List.set_cons_succ]
  refine wpAnyH_take (i := 7) (oi := { dst := some 23, op := Op.pick (Operand.tmp 17) (Operand.tmp 22) (Operand.const (Value.bool false)), type := 4, pos := _, after := #[{ on := 1, ground := Ground.data }, { on := 6, ground := Ground.data }], guard := none }) (v := ?_) rfl (by kernel_rfl) (by kernel_rfl) (by kernel_rfl) (fun _ _ _ h => h) (Or.inl ⟨by rfl, ?_⟩) (by assumption) ?_
  rotate_left
  · intro w hSw; obtain ⟨⟨k0, k1, k2, k3, k4, k5, k6⟩, j0, j1, j2, j3, j4, j5, j6⟩ := hSw.cells; go_simp; (try with_reducible rfl)
  try simp only [Act.put, List.setIfInBounds_toArray, List.set_cons_zero, List.set_cons_succ]
  refine wpAnyH_take (i := 8) (oi := { dst := some 24, op := Op.move (Operand.tmp 23), type := 4, pos := _, after := #[{ on := 7, ground := Ground.data }, { on := 5, ground := Ground.chain }], guard := none }) (v := ?_) rfl (by kernel_rfl) (by kernel_rfl) (by kernel_rfl) (fun _ _ _ h => h) (Or.inl ⟨by rfl, ?_⟩) (by assumption) ?_
  rotate_left
  · intro w hSw; obtain ⟨⟨k0, k1, k2, k3, k4, k5, k6⟩, j0, j1, j2, j3, j4, j5, j6⟩ := hSw.cells; go_simp; (try with_reducible rfl)
  try simp only [Act.put, List.setIfInBounds_toArray, List.set_cons_zero, List.set_cons_succ]
  refine wpAnyH_take (i := 9) (oi := { dst := some 25, op := Op.load 28 (Operand.tmp 2), type := 28, pos := _, after := #[{ on := 8, ground := Ground.guard }], guard := some (8, true) }) (v := ?_) rfl (by kernel_rfl) (by kernel_rfl) (by kernel_rfl) (fun _ _ _ h => h) (Or.inl ⟨by rfl, ?_⟩) (by assumption) ?_
  rotate_left
  · intro w hSw; obtain ⟨⟨k0, k1, k2, k3, k4, k5, k6⟩, j0, j1, j2, j3, j4, j5, j6⟩ := hSw.cells; go_simp; (try with_reducible rfl)
  try simp only [Act.put, List.setIfInBounds_toArray, List.set_cons_zero, List.set_cons_succ]
  refine wpAnyH_take (i := 10) (oi := { dst := some 26, op := Op.load 28 (Operand.tmp 3), type := 28, pos := _, after := #[{ on := 8, ground := Ground.guard }], guard := some (8, true) }) (v := ?_) rfl (by kernel_rfl) (by kernel_rfl) (by kernel_rfl) (fun _ _ _ h => h) (Or.inl ⟨by rfl, ?_⟩) (by assumption) ?_
  rotate_left
  · intro w hSw; obtain ⟨⟨k0, k1, k2, k3, k4, k5, k6⟩, j0, j1, j2, j3, j4, j5, j6⟩ := hSw.cells; go_simp; (try with_reducible rfl)
  try simp only [Act.put, List.setIfInBounds_toArray, List.set_cons_zero, List.set_cons_succ]
  refine wpAnyH_take (i := 12) (oi := { dst := some 28, op := Op.load 28 (Operand.tmp 2), type := 28, pos := _, after := #[{ on := 8, ground := Ground.guard }], guard := some (8, true) }) (v := ?_) rfl (by kernel_rfl) (by kernel_rfl) (by kernel_rfl) (fun _ _ _ h => h) (Or.inl ⟨by rfl, ?_⟩) (by assumption) ?_
  rotate_left
  · intro w hSw; obtain ⟨⟨k0, k1, k2, k3, k4, k5, k6⟩, j0, j1, j2, j3, j4, j5, j6⟩ := hSw.cells; go_simp; (try with_reducible rfl)
  try simp only [Act.put, List.setIfInBounds_toArray, List.set_cons_zero, List.set_cons_succ]
  refine wpAnyH_take (i := 13) (oi := { dst := some 29, op := Op.load 28 (Operand.tmp 3), type := 28, pos := _, after := #[{ on := 8, ground := Ground.guard }], guard := some (8, true) }) (v := ?_) rfl (by kernel_rfl) (by kernel_rfl) (by kernel_rfl) (fun _ _ _ h => h) (Or.inl ⟨by rfl, ?_⟩) (by assumption) ?_
  rotate_left
  · intro w hSw; obtain ⟨⟨k0, k1, k2, k3, k4, k5, k6⟩, j0, j1, j2, j3, j4, j5, j6⟩ := hSw.cells; go_simp; (try with_reducible rfl)
  try simp only [Act.put, List.setIfInBounds_toArray, List.set_cons_zero, List.set_cons_succ]
  refine wpAnyH_ready (rs := [11]) (by kernel_rfl) (by simp) ?_
  refine AllReadyH.cons (o := { dst := some 27, op := Op.call { callee := Callee.value (Operand.func 15), args := #[Operand.tmp 25, Operand.tmp 26], argTypes := #[28, 28] }, type := 4, pos := _, after := #[{ on := 9, ground := Ground.data }, { on := 10, ground := Ground.data }, { on := 8, ground := Ground.chain }, { on := 8, ground := Ground.guard }], guard := some (8, true) }) rfl (fun K hK => ?_) AllReadyH.nil
  go_simp
  have T := hHeld
  with_reducible refine (H11.out _ T.below).mono ?_
  rintro e6 w6 ⟨rfl, hb6⟩
  have T6 := T.keep hb6
  clear hb6 T
  refine hK.out _ _ ?_ (fun hHeld => ?_)
  · first | exact T3.out.drew | exact T4 | exact T5 | exact T6 | exact T7 | exact T8
  clear hK K
  try simp only [Act.put, List.setIfInBounds_toArray, List.set_cons_zero, List.set_cons_succ]
  refine wpAnyH_ready (rs := [14]) (by kernel_rfl) (by simp) ?_
  refine AllReadyH.cons (o := { dst := some 30, op := Op.call { callee := Callee.value (Operand.func 16), args := #[Operand.tmp 28, Operand.tmp 29], argTypes := #[28, 28] }, type := 4, pos := _, after := #[{ on := 12, ground := Ground.data }, { on := 13, ground := Ground.data }, { on := 11, ground := Ground.chain }, { on := 8, ground := Ground.guard }], guard := some (8, true) }) rfl (fun K hK => ?_) AllReadyH.nil
  go_simp
  have T := hHeld
  with_reducible refine (H14.out _ T.below).mono ?_
  rintro e7 w7 ⟨rfl, hb7⟩
  have T7 := T.keep hb7
  clear hb7 T
  refine hK.out _ _ ?_ (fun hHeld => ?_)
  · first | exact T3.out.drew | exact T4 | exact T5 | exact T6 | exact T7 | exact T8
  clear hK K
  try simp only [Act.put, List.setIfInBounds_toArray, List.set_cons_zero, List.set_cons_succ]
  refine wpAnyH_take (i := 15) (oi := { dst := some 31, op := Op.binOp BinOp.eql 4 (Operand.tmp 27) (Operand.tmp 30) 4, type := 4, pos := _, after := #[{ on := 11, ground := Ground.data }, { on := 14, ground := Ground.data }, { on := 8, ground := Ground.guard }], guard := some (8, true) }) (v := ?_) rfl (by kernel_rfl) (by kernel_rfl) (by kernel_rfl) (fun _ _ _ h => h) (Or.inl ⟨by rfl, ?_⟩) (by assumption) ?_
  rotate_left
  · intro w hSw; obtain ⟨⟨k0, k1, k2, k3, k4, k5, k6⟩, j0, j1, j2, j3, j4, j5, j6⟩ := hSw.cells; go_simp; (try with_reducible rfl)
  try simp only [Act.put, List.setIfInBounds_toArray, List.set_cons_zero, List.set_cons_succ]
  refine wpAnyH_take (i := 16) (oi := { dst := some 32, op := Op.pick (Operand.tmp 24) (Operand.tmp 31) (Operand.const (Value.bool false)), type := 4, pos := _, after := #[{ on := 8, ground := Ground.data }, { on := 15, ground := Ground.data }], guard := none }) (v := ?_) rfl (by kernel_rfl) (by kernel_rfl) (by kernel_rfl) (fun _ _ _ h => h) (Or.inl ⟨by rfl, ?_⟩) (by assumption) ?_
  rotate_left
  · intro w hSw; obtain ⟨⟨k0, k1, k2, k3, k4, k5, k6⟩, j0, j1, j2, j3, j4, j5, j6⟩ := hSw.cells; go_simp; (try with_reducible rfl)
  try simp only [Act.put, List.setIfInBounds_toArray, List.set_cons_zero, List.set_cons_succ]
  refine wpAnyH_take (i := 17) (oi := { dst := some 33, op := Op.move (Operand.tmp 32), type := 4, pos := _, after := #[{ on := 16, ground := Ground.data }, { on := 14, ground := Ground.chain }], guard := none }) (v := ?_) rfl (by kernel_rfl) (by kernel_rfl) (by kernel_rfl) (fun _ _ _ h => h) (Or.inl ⟨by rfl, ?_⟩) (by assumption) ?_
  rotate_left
  · intro w hSw; obtain ⟨⟨k0, k1, k2, k3, k4, k5, k6⟩, j0, j1, j2, j3, j4, j5, j6⟩ := hSw.cells; go_simp; (try with_reducible rfl)
  try simp only [Act.put, List.setIfInBounds_toArray, List.set_cons_zero, List.set_cons_succ]
  refine wpAnyH_take (i := 18) (oi := { dst := some 34, op := Op.load 28 (Operand.tmp 2), type := 28, pos := _, after := #[{ on := 17, ground := Ground.guard }], guard := some (17, true) }) (v := ?_) rfl (by kernel_rfl) (by kernel_rfl) (by kernel_rfl) (fun _ _ _ h => h) (Or.inl ⟨by rfl, ?_⟩) (by assumption) ?_
  rotate_left
  · intro w hSw; obtain ⟨⟨k0, k1, k2, k3, k4, k5, k6⟩, j0, j1, j2, j3, j4, j5, j6⟩ := hSw.cells; go_simp; (try with_reducible rfl)
  try simp only [Act.put, List.setIfInBounds_toArray, List.set_cons_zero, List.set_cons_succ]
  refine wpAnyH_take (i := 19) (oi := { dst := some 35, op := Op.load 28 (Operand.tmp 2), type := 28, pos := _, after := #[{ on := 17, ground := Ground.guard }], guard := some (17, true) }) (v := ?_) rfl (by kernel_rfl) (by kernel_rfl) (by kernel_rfl) (fun _ _ _ h => h) (Or.inl ⟨by rfl, ?_⟩) (by assumption) ?_
  rotate_left
  · intro w hSw; obtain ⟨⟨k0, k1, k2, k3, k4, k5, k6⟩, j0, j1, j2, j3, j4, j5, j6⟩ := hSw.cells; go_simp; (try with_reducible rfl)
  try simp only [Act.put, List.setIfInBounds_toArray, List.set_cons_zero, List.set_cons_succ]
  refine wpAnyH_ready (rs := [20]) (by kernel_rfl) (by simp) ?_
  refine AllReadyH.cons (o := { dst := some 36, op := Op.call { callee := Callee.value (Operand.func 15), args := #[Operand.tmp 34, Operand.tmp 35], argTypes := #[28, 28] }, type := 4, pos := _, after := #[{ on := 18, ground := Ground.data }, { on := 19, ground := Ground.data }, { on := 17, ground := Ground.chain }, { on := 17, ground := Ground.guard }], guard := some (17, true) }) rfl (fun K hK => ?_) AllReadyH.nil
  go_simp
  have T := hHeld
  with_reducible refine (H20.out _ T.below).mono ?_
  rintro e8 w8 ⟨rfl, hb8⟩
  have T8 := T.keep hb8
  clear hb8 T
  refine hK.out _ _ ?_ (fun hHeld => ?_)
  · first | exact T3.out.drew | exact T4 | exact T5 | exact T6 | exact T7 | exact T8
  clear hK K
  try simp only [Act.put, List.setIfInBounds_toArray, List.set_cons_zero, List.set_cons_succ]
  refine wpAnyH_take (i := 21) (oi := { dst := some 37, op := Op.pick (Operand.tmp 33) (Operand.tmp 36) (Operand.const (Value.bool false)), type := 4, pos := _, after := #[{ on := 17, ground := Ground.data }, { on := 20, ground := Ground.data }], guard := none }) (v := ?_) rfl (by kernel_rfl) (by kernel_rfl) (by kernel_rfl) (fun _ _ _ h => h) (Or.inl ⟨by rfl, ?_⟩) (by assumption) ?_
  rotate_left
  · intro w hSw; obtain ⟨⟨k0, k1, k2, k3, k4, k5, k6⟩, j0, j1, j2, j3, j4, j5, j6⟩ := hSw.cells; go_simp; (try with_reducible rfl)
  try simp only [Act.put, List.setIfInBounds_toArray, List.set_cons_zero, List.set_cons_succ]
  refine wpAnyH_take (i := 22) (oi := { dst := some 4, op := Op.assign (Operand.tmp 37), type := 4, pos := _, after := #[{ on := 21, ground := Ground.data }, { on := 20, ground := Ground.chain }, { on := 0, ground := Ground.phase }, { on := 1, ground := Ground.phase }, { on := 2, ground := Ground.phase }, { on := 3, ground := Ground.phase }, { on := 4, ground := Ground.phase }, { on := 5, ground := Ground.phase }, { on := 6, ground := Ground.phase }, { on := 7, ground := Ground.phase }, { on := 8, ground := Ground.phase }, { on := 9, ground := Ground.phase }, { on := 10, ground := Ground.phase }, { on := 11, ground := Ground.phase }, { on := 12, ground := Ground.phase }, { on := 13, ground := Ground.phase }, { on := 14, ground := Ground.phase }, { on := 15, ground := Ground.phase }, { on := 16, ground := Ground.phase }, { on := 17, ground := Ground.phase }, { on := 18, ground := Ground.phase }, { on := 19, ground := Ground.phase }, { on := 20, ground := Ground.phase }, { on := 21, ground := Ground.phase }], guard := none }) (v := ?_) rfl (by kernel_rfl) (by kernel_rfl) (by kernel_rfl) (fun _ _ _ h => h) (Or.inl ⟨by rfl, ?_⟩) (by assumption) ?_
  rotate_left
  · intro w hSw; obtain ⟨⟨k0, k1, k2, k3, k4, k5, k6⟩, j0, j1, j2, j3, j4, j5, j6⟩ := hSw.cells; go_simp; (try with_reducible rfl)
  try simp only [Act.put, List.setIfInBounds_toArray, List.set_cons_zero, List.set_cons_succ]
  refine wpAnyH_done (by kernel_rfl) ?_ _
  go_wp2_with fail
  go_ret
  exact ⟨rfl, T8.below⟩

theorem bitfileCheck_walk (C D : Cfg) (w : World) (hC : C.In w) (hc : C.wf) (hD : D.In w) (hd : D.wf) :
    Calls Try.prog 3 #[.agg #[.int .i64 C.W, .int .i64 C.H, .int .i64 C.T, .slice C.AT C.tiles.length C.cT, .slice C.AO C.on.length C.cO, .slice C.AI C.ins.length C.cI, .slice C.AU C.outs.length C.cU], .agg #[.int .i64 D.W, .int .i64 D.H, .int .i64 D.T, .slice D.AT D.tiles.length D.cT, .slice D.AO D.on.length D.cO, .slice D.AI D.ins.length D.cI, .slice D.AU D.outs.length D.cU]] w fun e w' => e = .returned (.bool true) ∧ Below w.heap.size w w' := by
  by_cases hs : few31 C
  case neg => exact bitfileCheck_a C D w hs
  by_cases hk : few31 D
  case neg => exact bitfileCheck_b C D w hs hk
  exact bitfileCheck_c C D w hC hD hs hk
set_option maxRecDepth 100000 in
theorem bitfileCheck_lifted (os : Os) (started : os.Started) (H : Type) (enc : TypeId × Value → H) :
    ReturnsInHanded {} Try.checked os 3 .any (Rows.bitfileCheckSpec.pre6 enc Try.prog Try.f3 Rows.bitfileCheckRow.domain false) (Rows.bitfileCheckSpec.post enc Try.prog Try.f3 false true false false) := by
  have hr : ∀ t ∈ Try.f3.params.toList, Try.prog.readableRec t = true ∧ t < Try.prog.types.size := by
    have h : Try.f3.params.toList.all (fun t => Try.prog.readableRec t && decide (t < Try.prog.types.size)) = true := by kernel_rfl
    intro t ht
    simpa using List.all_eq_true.1 h t ht
  refine returnsInHanded_of_change (C := Try.checked) own started (by kernel_rfl) Try.func3
    (ChangeSpec.witness6 (enc := enc) (C := Try.checked) false ⟨#[], #[.agg #[.int .i64 0, .int .i64 0, .int .i64 0, .slice none 0 0, .slice none 0 0, .slice none 0 0, .slice none 0 0], .agg #[.int .i64 0, .int .i64 0, .int .i64 0, .slice none 0 0, .slice none 0 0, .slice none 0 0, .slice none 0 0]], []⟩ 8 (by kernel_rfl) (by kernel_rfl) (by kernel_rfl) (by kernel_rfl)) ?_
  intro W base args ds gs before hval0 hW hcnd _
  have hval : ∀ (j : Nat) t v, Try.f3.params[j]? = some t → args[j]? = some v → Value.okWide Try.prog W .any base t v := hval0
  have hW' := hW
  obtain ⟨p, q, hA0, hV, rfl, hfz, hnd⟩ := hW
  have hA1 : DataW.TrodAll enc Try.prog W 0 (fun _ => true) true Try.f3.params.toList args.toList ds p := hA0
  have hA := hA1
  rw [Try.params3] at hA hval
  obtain ⟨v0, vs0, d0, ds0, p0, q0, hargs, rfl, rfl, h0, r0⟩ := trodAll_cons hA
  obtain ⟨v1, vs1, d1, ds1, p1, q1, rfl, rfl, rfl, h1, r1⟩ := trodAll_cons r0
  obtain ⟨rfl, rfl, rfl⟩ := trodAll_nil r1
  obtain rfl : args = #[v0, v1] := by cases args; simp_all
  obtain ⟨rfl, rfl⟩ := trodVars_none hV
  obtain ⟨C0, rfl, hin0, hwf0⟩ := open_cfg (hval 0 28 v0 rfl rfl) h0
  obtain ⟨C1, rfl, hin1, hwf1⟩ := open_cfg (hval 1 28 v1 rfl rfl) h1
  clear hA0 hval0
  simp only [List.append_nil] at hW'
  simp only [List.append_nil] at hA1
  refine (bitfileCheck_walk C0 C1 W hin0 hwf0 hin1 hwf1).mono fun e W' ⟨he, hb⟩ => ?_
  subst he
  exact ⟨_, rfl, law_post laidOut hr rfl hW' hA1 rfl rfl Try.underlying4 hb⟩

theorem bitfileCheck_over : Rows.bitfileCheckRow.holds Try.pinned (OpenSpec.ofChange Rows.bitfileCheckSpec) :=
  OpenClaim.holds_of_wide 3 Try.f3 rfl rfl rfl rfl rfl rfl rfl ⟨rfl, rfl, rfl, rfl, rfl⟩ rfl rfl rfl rfl rfl (by kernel_rfl) Try.func3 (by kernel_rfl)
    (of_decide_eq_true (by kernel_rfl)) (by unfold Func.isWrapper; first | (rw [if_pos (by decide +kernel)]; kernel_rfl) | (rw [if_neg (by decide +kernel)]; exact ⟨rfl, rfl⟩))
    (fun os started H enc _ => bitfileCheck_lifted os started H enc)

theorem bitfileCheck_holds : Rows.BitfileCheckSaid := bitfileCheck_over
#print axioms bitfileCheck_holds
end Go.Proofs.Ytoloaecbfglaeaa
