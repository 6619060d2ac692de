/- The law FabricCounts: a fabric has as many switches as its tiles, pads and corners tell. For every fabric; no condition. -/
import Derived.Test.YtfeogkiemjmocaaFrame
import Derived.Test.YtfeogkiemjmocaaLWhat
import Derived.Test.YtfeogkiemjmocaaBox
import Derived.Test.YtfeogkiemjmocaaFabN
import Derived.Test.YtfeogkiemjmocaaEdE
import Derived.Test.YtfeogkiemjmocaaSmall
import Derived.Deep.RegionHeld3
namespace Go.Proofs.Ytfeogkiemjmocaa
open Go.ChangeShapes Go.WideShapes Go.ChangeAt Go.RowKit Go.Joins
set_option linter.unusedVariables false
set_option linter.unusedSimpArgs false

set_option maxRecDepth 100000 in
set_option maxHeartbeats 2000000 in
theorem counts_large (W H T : Int) (w : World) (hs : smallB W H T = false) :
    Calls Try.prog 8 #[.agg #[.int .i64 W, .int .i64 H, .int .i64 T]] w fun e w' => e = .returned (.bool true) ∧ Below w.heap.size w w' := by
  have Q0 := below_new w (.cells #[.int .i64 W, .int .i64 H, .int .i64 T] 23)
  have B0 := Box3.new w (.int .i64 W) (.int .i64 H) (.int .i64 T) 23
  go_enter Try.func8, Try.ntmps8
  go_wp2_with fail
  refine (live_any _).mono ?_
  rintro e w1 ⟨rfl, hb1⟩
  have Q1 := below_then Q0 hb1
  have B1 := Box3.below B0 hb1
  clear hb1
  obtain ⟨z1, k10, k11, k12⟩ := id B1
  go_wp2_with fail
  refine (small_any _ _ _ _).mono ?_
  rintro e w2 ⟨rfl, hb2⟩
  have Q2 := below_then Q1 hb2
  have B2 := Box3.below B1 hb2
  clear hb2
  obtain ⟨z2, k20, k21, k22⟩ := id B2
  go_wp2_with fail
  go_ret
  exact ⟨rfl, Q2⟩

set_option maxRecDepth 100000 in
set_option maxHeartbeats 2000000 in
theorem counts_no (W H T : Int) (w : World) (hs : smallB W H T = true) (h : ¬ okA W H T) :
    Calls Try.prog 8 #[.agg #[.int .i64 W, .int .i64 H, .int .i64 T]] w fun e w' => e = .returned (.bool true) ∧ Below w.heap.size w w' := by
  have Q0 := below_new w (.cells #[.int .i64 W, .int .i64 H, .int .i64 T] 23)
  have B0 := Box3.new w (.int .i64 W) (.int .i64 H) (.int .i64 T) 23
  go_enter Try.func8, Try.ntmps8
  go_wp2_with fail
  refine (live_any _).mono ?_
  rintro e w1 ⟨rfl, hb1⟩
  have Q1 := below_then Q0 hb1
  have B1 := Box3.below B0 hb1
  clear hb1
  obtain ⟨z1, k10, k11, k12⟩ := id B1
  go_wp2_with fail
  refine (small_any _ _ _ _).mono ?_
  rintro e w2 ⟨rfl, hb2⟩
  have Q2 := below_then Q1 hb2
  have B2 := Box3.below B1 hb2
  clear hb2
  obtain ⟨z2, k20, k21, k22⟩ := id B2
  go_wp2_with fail
  refine (edges_no _ _ _ _ h).mono ?_
  rintro e w3 ⟨rfl, hb3⟩
  have Q3 := below_then Q2 hb3
  have B3 := Box3.below B2 hb3
  clear hb3
  obtain ⟨z3, k30, k31, k32⟩ := id B3
  go_wp2_with fail
  refine (check_no _ _ _ _ h).mono ?_
  rintro e w4 ⟨rfl, hb4⟩
  have Q4 := below_then Q3 hb4
  have B4 := Box3.below B3 hb4
  clear hb4
  obtain ⟨z4, k40, k41, k42⟩ := id B4
  go_wp2_with fail
  go_ret
  exact ⟨rfl, Q4⟩

set_option maxRecDepth 100000 in
set_option maxHeartbeats 2000000 in
theorem counts_yes (W H T : Int) (w : World) (hs : smallB W H T = true) (h : okA W H T) :
    Calls Try.prog 8 #[.agg #[.int .i64 W, .int .i64 H, .int .i64 T]] w fun e w' => e = .returned (.bool true) ∧ Below w.heap.size w w' := by
  have hh := h
  unfold okA at hh
  have hcnt := rawL_count h
  have hlen : ((edgesL W H T).length : Int) = ((rawL W H T).length : Int) := by unfold edgesL; rw [sortP_length]
  have hml := rawL_len h
  have hR : ((edgesL W H T).length : Int) ≤ 6000000 := by omega
  obtain ⟨L, hL⟩ : ∃ L : Nat, (edgesL W H T).length = L := ⟨_, rfl⟩
  rw [hL, hcnt] at hlen
  rw [hL] at hR
  have m1 := mul_bd (a := W) (b := H) (A := 16) (B := 16) (by omega) (by omega) (by omega) (by omega)
  have m2 := mul_bd (a := W - 1) (b := H - 1) (A := 16) (B := 16) (by omega) (by omega) (by omega) (by omega)
  have f2 : 8 * W * H = 8 * (W * H) := Int.mul_assoc 8 W H
  have f3 : 6 * (W - 1) * (H - 1) = 6 * ((W - 1) * (H - 1)) := Int.mul_assoc 6 _ _
  have m3 := mul_bd (a := T) (b := 8 * W * H + (2 * W + 2 * H) + 6 * (W - 1) * (H - 1) + 3 * (2 * (W - 1) + 2 * (H - 1)) + 4) (A := 16) (B := 10000) (by omega) (by omega) (by omega) (by omega)
  have g1 : 0 ≤ 8 * W * H ∧ 8 * W * H ≤ 2048 := by omega
  have g2 : 0 ≤ 6 * (W - 1) * (H - 1) ∧ 6 * (W - 1) * (H - 1) ≤ 1536 := by omega
  have x1 : IntKind.i64.wrap (8 * W * H + (2 * W + 2 * H)) = 8 * W * H + (2 * W + 2 * H) := IntWalk.i64_in _ (by omega)
  have x2 : IntKind.i64.wrap (8 * W * H + (2 * W + 2 * H) + 6 * (W - 1) * (H - 1)) = 8 * W * H + (2 * W + 2 * H) + 6 * (W - 1) * (H - 1) := IntWalk.i64_in _ (by omega)
  have x3 : IntKind.i64.wrap (8 * W * H + (2 * W + 2 * H) + 6 * (W - 1) * (H - 1) + 3 * (2 * (W - 1) + 2 * (H - 1))) = 8 * W * H + (2 * W + 2 * H) + 6 * (W - 1) * (H - 1) + 3 * (2 * (W - 1) + 2 * (H - 1)) := IntWalk.i64_in _ (by omega)
  have x4 : IntKind.i64.wrap (8 * W * H + (2 * W + 2 * H) + 6 * (W - 1) * (H - 1) + 3 * (2 * (W - 1) + 2 * (H - 1)) + 4) = 8 * W * H + (2 * W + 2 * H) + 6 * (W - 1) * (H - 1) + 3 * (2 * (W - 1) + 2 * (H - 1)) + 4 := IntWalk.i64_in _ (by omega)
  have x5 : IntKind.i64.wrap (T * (8 * W * H + (2 * W + 2 * H) + 6 * (W - 1) * (H - 1) + 3 * (2 * (W - 1) + 2 * (H - 1)) + 4)) = T * (8 * W * H + (2 * W + 2 * H) + 6 * (W - 1) * (H - 1) + 3 * (2 * (W - 1) + 2 * (H - 1)) + 4) := IntWalk.i64_in _ (by omega)
  have x6 : IntKind.i64.wrap (W + H) = W + H := IntWalk.i64_in _ (by omega)
  have x7 : IntKind.i64.wrap (2 * (W + H)) = 2 * (W + H) := IntWalk.i64_in _ (by omega)
  have y1 : ((L : Int) == T * (8 * W * H + (2 * W + 2 * H) + 6 * (W - 1) * (H - 1) + 3 * (2 * (W - 1) + 2 * (H - 1)) + 4)) = true := by rw [hlen]; simp
  have y2 : (2 * W + 2 * H == 2 * (W + H)) = true := by simp; omega
  have HL := Lib.hid hL
  clear hL hlen hcnt hml m1 m2 m3 f2 f3 hR
  have Q0 := below_new w (.cells #[.int .i64 W, .int .i64 H, .int .i64 T] 23)
  have B0 := Box3.new w (.int .i64 W) (.int .i64 H) (.int .i64 T) 23
  go_enter Try.func8, Try.ntmps8
  go_wp2_with fail
  refine (live_any _).mono ?_
  rintro e w1 ⟨rfl, hb1⟩
  have Q1 := below_then Q0 hb1
  have B1 := Box3.below B0 hb1
  clear hb1
  obtain ⟨z1, k10, k11, k12⟩ := id B1
  go_wp2_with fail
  refine (small_any _ _ _ _).mono ?_
  rintro e w2 ⟨rfl, hb2⟩
  have Q2 := below_then Q1 hb2
  have B2 := Box3.below B1 hb2
  clear hb2
  obtain ⟨z2, k20, k21, k22⟩ := id B2
  go_wp2_with fail
  refine (edges_yes _ _ _ _ h).mono ?_
  rintro e w3 ⟨v, rfl, hb3, hown⟩
  have Q3 := below_then Q2 hb3
  have B3 := Box3.below B2 hb3
  clear hb3
  obtain ⟨z3, k30, k31, k32⟩ := id B3
  rw [HL.out] at hown
  obtain ⟨AA, c, hv⟩ := own_slice hown
  subst hv
  have HO := Lib.hid hown
  clear hown
  go_wp2_with fail
  clear k10 k11 k12 z1 k20 k21 k22 z2 B1 B2 Q1 Q2
  go_region_held3 (fun w' => w'.cell? ⟨w.heap.size, 0, none⟩ = some (.int .i64 W) ∧ w'.cell? ⟨w.heap.size, 1, none⟩ = some (.int .i64 H) ∧ w'.cell? ⟨w.heap.size, 2, none⟩ = some (.int .i64 T)) (go_keep) ((first | (go_at_call 29; refine (pads_yes _ _ _ _ h).mono ?_; rintro e w4 ⟨rfl, hb4⟩; have hb4 := below_of_drew hb4; have Q4 := below_then Q3 hb4; have B4 := Box3.below B3 hb4; clear hb4; obtain ⟨z4, k40, k41, k42⟩ := id B4) | (go_at_call 29; refine (pads_yes _ _ _ _ h).mono ?_; rintro e w5 ⟨rfl, hb5⟩; have Q5 := below_then Q4 hb5; have B5 := Box3.below B4 hb5; clear hb5; obtain ⟨z5, k50, k51, k52⟩ := id B5)))
  go_wp2
  go_ret
  exact ⟨rfl, Q5⟩

theorem fabricCounts_walk (W H T : Int) (w : World) :
    Calls Try.prog 8 #[.agg #[.int .i64 W, .int .i64 H, .int .i64 T]] w fun e w' => e = .returned (.bool true) ∧ Below w.heap.size w w' := by
  cases hs : smallB W H T
  · exact counts_large W H T w hs
  · by_cases h : okA W H T
    · exact counts_yes W H T w hs h
    · exact counts_no W H T w hs h

set_option maxRecDepth 100000 in
theorem fabricCounts_lifted (os : Os) (started : os.Started) (H : Type) (enc : TypeId × Value → H) :
    ReturnsInHanded {} Try.checked os 8 .any (Rows.fabricCountsSpec.pre6 enc Try.prog Try.f8 Rows.fabricCountsRow.domain false) (Rows.fabricCountsSpec.post enc Try.prog Try.f8 false true false false) := by
  have hr : ∀ t ∈ Try.f8.params.toList, Try.prog.readableRec t = true ∧ t < Try.prog.types.size := by
    have h : Try.f8.params.toList.all (fun t => Try.prog.readableRec t && decide (t < Try.prog.types.size)) = true := by kernel_rfl
    intro t ht
    simpa using List.all_eq_true.1 h t ht
  refine returnsInHanded_of_change (C := Try.checked) own started (by kernel_rfl) Try.func8
    (ChangeSpec.witness6 (enc := enc) (C := Try.checked) false ⟨#[], #[.agg #[.int .i64 0, .int .i64 0, .int .i64 0]], []⟩ 8 (by kernel_rfl) (by kernel_rfl) (by kernel_rfl) (by kernel_rfl)) ?_
  intro W base args ds gs before hval0 hW hcnd _
  have hval : ∀ (j : Nat) t v, Try.f8.params[j]? = some t → args[j]? = some v → Value.okWide Try.prog W .any base t v := hval0
  have hW' := hW
  obtain ⟨p, q, hA0, hV, rfl, hfz, hnd⟩ := hW
  have hA1 : DataW.TrodAll enc Try.prog W 0 (fun _ => true) true Try.f8.params.toList args.toList ds p := hA0
  have hA := hA1
  rw [Try.params8] at hA hval
  obtain ⟨v0, vs0, d0, ds0, p0, q0, hargs, rfl, rfl, h0, r0⟩ := trodAll_cons hA
  obtain ⟨rfl, rfl, rfl⟩ := trodAll_nil r0
  obtain rfl : args = #[v0] := by cases args; simp_all
  obtain ⟨rfl, rfl⟩ := trodVars_none hV
  obtain ⟨c0, c1, c2, y0, y1, y2, m, rfl, rfl, rfl, hy0, hy1, hy2⟩ := open_agg3 Try.underlying23 (by kernel_rfl) (by kernel_rfl : Try.prog.cellsOf 23 = 3) (hval 0 23 v0 rfl rfl) h0
  obtain ⟨a0_0, e0, rfl, wa0_0⟩ := DataW.trod_int Try.underlying3 hy0
  obtain ⟨a0_1, e1, rfl, wa0_1⟩ := DataW.trod_int Try.underlying3 hy1
  obtain ⟨a0_2, e2, rfl, wa0_2⟩ := DataW.trod_int Try.underlying3 hy2
  simp at e0 e1 e2
  subst e0 e1 e2
  clear hA0 hval0
  simp only [List.append_nil] at hW'
  refine (fabricCounts_walk a0_0 a0_1 a0_2 W).mono fun e W' ⟨he, hb⟩ => ?_
  subst he
  exact ⟨_, rfl, law_post laidOut hr rfl hW' hA1 rfl rfl Try.underlying4 hb⟩

theorem fabricCounts_over : Rows.fabricCountsRow.holds Try.pinned (OpenSpec.ofChange Rows.fabricCountsSpec) :=
  OpenClaim.holds_of_wide 8 Try.f8 rfl rfl rfl rfl rfl rfl rfl ⟨rfl, rfl, rfl, rfl, rfl⟩ rfl rfl rfl rfl rfl (by kernel_rfl) Try.func8 (by kernel_rfl)
    (of_decide_eq_true (by kernel_rfl)) (by unfold Func.isWrapper; first | (rw [if_pos (by decide +kernel)]; kernel_rfl) | (rw [if_neg (by decide +kernel)]; exact ⟨rfl, rfl⟩))
    (fun os started H enc _ => fabricCounts_lifted os started H enc)

theorem fabricCounts_holds : Rows.FabricCountsSaid := fabricCounts_over
#print axioms fabricCounts_holds
end Go.Proofs.Ytfeogkiemjmocaa
