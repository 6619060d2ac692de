/- The law FabricTells: whether any fabric may be, how many nodes and pads it has, and which node anything is, is just what the document tells. For every fabric and all numbers; no condition. -/
import Derived.Test.YtfeogkiemjmocaaFrame
import Derived.Test.YtfeogkiemjmocaaLWhat
import Derived.Test.YtfeogkiemjmocaaBox
import Derived.Deep.RegionHeld3
namespace Go.Proofs.Ytfeogkiemjmocaa
open Go.ChangeShapes Go.WideShapes Go.ChangeAt Go.RowKit Go.Joins
set_option linter.unusedVariables false
set_option linter.unusedSimpArgs false
set_option maxRecDepth 100000 in
set_option maxHeartbeats 2000000 in
theorem fabricTells_walk (W H T x y t : Int) (w : World) :
    Calls Try.prog 4 #[.agg #[.int .i64 W, .int .i64 H, .int .i64 T], .int .i64 x, .int .i64 y, .int .i64 t] w fun e w' => e = .returned (.bool true) ∧ Below w.heap.size w w' := by
  have Q0 := below_new w (.cells #[.int .i64 W, .int .i64 H, .int .i64 T] 23)
  have B0 := Box3.new w (.int .i64 W) (.int .i64 H) (.int .i64 T) 23
  go_enter Try.func4, Try.ntmps4
  go_wp2_with (first
    | (go_at_call 12; refine (live_any _).mono ?_; rintro e w1 ⟨rfl, hb1⟩; have Q1 := below_then Q0 hb1; have B1 := Box3.below B0 hb1; clear hb1; obtain ⟨z1, k10, k11, k12⟩ := id B1)
    | (go_at_call 15; refine (out_any _ _ _ _ _ _).mono ?_; rintro e w2 ⟨rfl, hb2⟩; have Q2 := below_then Q1 hb2; have B2 := Box3.below B1 hb2; clear hb2; obtain ⟨z2, k20, k21, k22⟩ := id B2)
    | (go_at_call 16; refine (rout_any _ _ _ _ _ _).mono ?_; rintro e w3 ⟨rfl, hb3⟩; have Q3 := below_then Q2 hb3; have B3 := Box3.below B2 hb3; clear hb3; obtain ⟨z3, k30, k31, k32⟩ := id B3)
    | (go_at_call 17; refine (inn_any _ _ _ _ _ _ _).mono ?_; rintro e w4 ⟨rfl, hb4⟩; have Q4 := below_then Q3 hb4; have B4 := Box3.below B3 hb4; clear hb4; obtain ⟨z4, k40, k41, k42⟩ := id B4)
    | (go_at_call 18; refine (rin_any _ _ _ _ _ _ _).mono ?_; rintro e w5 ⟨rfl, hb5⟩; have Q5 := below_then Q4 hb5; have B5 := Box3.below B4 hb5; clear hb5; obtain ⟨z5, k50, k51, k52⟩ := id B5)
    | (go_at_call 19; refine (pad_any _ _ _ _ _).mono ?_; rintro e w6 ⟨rfl, hb6⟩; have Q6 := below_then Q5 hb6; have B6 := Box3.below B5 hb6; clear hb6; obtain ⟨z6, k60, k61, k62⟩ := id B6)
    | (go_at_call 20; refine (rpad_any _ _ _ _ _).mono ?_; rintro e w7 ⟨rfl, hb7⟩; have Q7 := below_then Q6 hb7; have B7 := Box3.below B6 hb7; clear hb7; obtain ⟨z7, k70, k71, k72⟩ := id B7)
    | (go_at_call 21; refine (hor_any _ _ _ _ _ _ _).mono ?_; rintro e w8 ⟨rfl, hb8⟩; have Q8 := below_then Q7 hb8; have B8 := Box3.below B7 hb8; clear hb8; obtain ⟨z8, k80, k81, k82⟩ := id B8)
    | (go_at_call 22; refine (rhor_any _ _ _ _ _ _ _).mono ?_; rintro e w9 ⟨rfl, hb9⟩; have Q9 := below_then Q8 hb9; have B9 := Box3.below B8 hb9; clear hb9; obtain ⟨z9, k90, k91, k92⟩ := id B9)
    | (go_at_call 23; refine (ver_any _ _ _ _ _ _ _).mono ?_; rintro e w10 ⟨rfl, hb10⟩; have Q10 := below_then Q9 hb10; have B10 := Box3.below B9 hb10; clear hb10; obtain ⟨z10, k100, k101, k102⟩ := id B10)
    | (go_at_call 24; refine (rver_any _ _ _ _ _ _ _).mono ?_; rintro e w11 ⟨rfl, hb11⟩; have Q11 := below_then Q10 hb11; have B11 := Box3.below B10 hb11; clear hb11; obtain ⟨z11, k110, k111, k112⟩ := id B11))
  clear k10 k11 k12 z1 B1 Q1 k20 k21 k22 z2 B2 Q2 k30 k31 k32 z3 B3 Q3 k40 k41 k42 z4 B4 Q4 k50 k51 k52 z5 B5 Q5 k60 k61 k62 z6 B6 Q6 k70 k71 k72 z7 B7 Q7 k80 k81 k82 z8 B8 Q8 k90 k91 k92 z9 B9 Q9 k100 k101 k102 z10 B10 Q10 B0 Q0
  go_region_held3 (fun w' => w'.cell? ⟨w.heap.size, 0, none⟩ = some (.int .i64 W) ∧ w'.cell? ⟨w.heap.size, 1, none⟩ = some (.int .i64 H) ∧ w'.cell? ⟨w.heap.size, 2, none⟩ = some (.int .i64 T)) (go_keep) ((first | (go_at_call 25; refine (check_any _ _ _ _).mono ?_; rintro e w12 ⟨rfl, hb12⟩; have hb12 := below_of_drew hb12; have Q12 := below_then Q11 hb12; have B12 := Box3.below B11 hb12; clear hb12; obtain ⟨z12, k120, k121, k122⟩ := id B12) | (go_at_call 26; refine (rcheck_any _ _ _ _).mono ?_; rintro e w13 ⟨rfl, hb13⟩; have Q13 := below_then Q12 hb13; have B13 := Box3.below B12 hb13; clear hb13; obtain ⟨z13, k130, k131, k132⟩ := id B13) | (go_at_call 27; refine (nodes_any _ _ _ _).mono ?_; rintro e w14 ⟨rfl, hb14⟩; have Q14 := below_then Q13 hb14; have B14 := Box3.below B13 hb14; clear hb14; obtain ⟨z14, k140, k141, k142⟩ := id B14) | (go_at_call 28; refine (rnodes_any _ _ _ _).mono ?_; rintro e w15 ⟨rfl, hb15⟩; have Q15 := below_then Q14 hb15; have B15 := Box3.below B14 hb15; clear hb15; obtain ⟨z15, k150, k151, k152⟩ := id B15) | (go_at_call 29; refine (pads_any _ _ _ _).mono ?_; rintro e w16 ⟨rfl, hb16⟩; have Q16 := below_then Q15 hb16; have B16 := Box3.below B15 hb16; clear hb16; obtain ⟨z16, k160, k161, k162⟩ := id B16) | (go_at_call 30; refine (rpads_any _ _ _ _).mono ?_; rintro e w17 ⟨rfl, hb17⟩; have Q17 := below_then Q16 hb17; have B17 := Box3.below B16 hb17; clear hb17; obtain ⟨z17, k170, k171, k172⟩ := id B17)))
  go_wp2
  go_ret
  exact ⟨rfl, Q17⟩

set_option maxRecDepth 100000 in
theorem fabricTells_lifted (os : Os) (started : os.Started) (H : Type) (enc : TypeId × Value → H) :
    ReturnsInHanded {} Try.checked os 4 .any (Rows.fabricTellsSpec.pre6 enc Try.prog Try.f4 Rows.fabricTellsRow.domain false) (Rows.fabricTellsSpec.post enc Try.prog Try.f4 false true false false) := by
  have hr : ∀ t ∈ Try.f4.params.toList, Try.prog.readableRec t = true ∧ t < Try.prog.types.size := by
    have h : Try.f4.params.toList.all (fun t => Try.prog.readableRec t && decide (t < Try.prog.types.size)) = true := by kernel_rfl
    intro t ht
    simpa using List.all_eq_true.1 h t ht
  refine returnsInHanded_of_change (C := Try.checked) own started (by kernel_rfl) Try.func4
    (ChangeSpec.witness6 (enc := enc) (C := Try.checked) false ⟨#[], #[.agg #[.int .i64 0, .int .i64 0, .int .i64 0], .int .i64 0, .int .i64 0, .int .i64 0], []⟩ 8 (by kernel_rfl) (by kernel_rfl) (by kernel_rfl) (by kernel_rfl)) ?_
  intro W base args ds gs before hval0 hW hcnd _
  have hval : ∀ (j : Nat) t v, Try.f4.params[j]? = some t → args[j]? = some v → Value.okWide Try.prog W .any base t v := hval0
  have hW' := hW
  obtain ⟨p, q, hA0, hV, rfl, hfz, hnd⟩ := hW
  have hA1 : DataW.TrodAll enc Try.prog W 0 (fun _ => true) true Try.f4.params.toList args.toList ds p := hA0
  have hA := hA1
  rw [Try.params4] at hA hval
  obtain ⟨v0, vs0, d0, ds0, p0, q0, hargs, rfl, rfl, h0, r0⟩ := trodAll_cons hA
  obtain ⟨v1, vs1, d1, ds1, p1, q1, rfl, rfl, rfl, h1, r1⟩ := trodAll_cons r0
  obtain ⟨v2, vs2, d2, ds2, p2, q2, rfl, rfl, rfl, h2, r2⟩ := trodAll_cons r1
  obtain ⟨v3, vs3, d3, ds3, p3, q3, rfl, rfl, rfl, h3, r3⟩ := trodAll_cons r2
  obtain ⟨rfl, rfl, rfl⟩ := trodAll_nil r3
  obtain rfl : args = #[v0, v1, v2, v3] := by cases args; simp_all
  obtain ⟨rfl, rfl⟩ := trodVars_none hV
  obtain ⟨c0, c1, c2, y0, y1, y2, m, rfl, rfl, rfl, hy0, hy1, hy2⟩ := open_agg3 Try.underlying23 (by kernel_rfl) (by kernel_rfl : Try.prog.cellsOf 23 = 3) (hval 0 23 v0 rfl rfl) h0
  obtain ⟨a0_0, e0, rfl, wa0_0⟩ := DataW.trod_int Try.underlying3 hy0
  obtain ⟨a0_1, e1, rfl, wa0_1⟩ := DataW.trod_int Try.underlying3 hy1
  obtain ⟨a0_2, e2, rfl, wa0_2⟩ := DataW.trod_int Try.underlying3 hy2
  simp at e0 e1 e2
  subst e0 e1 e2
  obtain ⟨a1, rfl, rfl, rfl, w1⟩ := open_int Try.underlying3 (hval 1 3 v1 rfl rfl) h1
  obtain ⟨a2, rfl, rfl, rfl, w2⟩ := open_int Try.underlying3 (hval 2 3 v2 rfl rfl) h2
  obtain ⟨a3, rfl, rfl, rfl, w3⟩ := open_int Try.underlying3 (hval 3 3 v3 rfl rfl) h3
  clear hA0 hval0
  simp only [List.append_nil] at hW'
  refine (fabricTells_walk a0_0 a0_1 a0_2 a1 a2 a3 W).mono fun e W' ⟨he, hb⟩ => ?_
  subst he
  exact ⟨_, rfl, law_post laidOut hr rfl hW' hA1 rfl rfl Try.underlying4 hb⟩

theorem fabricTells_over : Rows.fabricTellsRow.holds Try.pinned (OpenSpec.ofChange Rows.fabricTellsSpec) :=
  OpenClaim.holds_of_wide 4 Try.f4 rfl rfl rfl rfl rfl rfl rfl ⟨rfl, rfl, rfl, rfl, rfl⟩ rfl rfl rfl rfl rfl (by kernel_rfl) Try.func4 (by kernel_rfl)
    (of_decide_eq_true (by kernel_rfl)) (by unfold Func.isWrapper; first | (rw [if_pos (by decide +kernel)]; kernel_rfl) | (rw [if_neg (by decide +kernel)]; exact ⟨rfl, rfl⟩))
    (fun os started H enc _ => fabricTells_lifted os started H enc)

theorem fabricTells_holds : Rows.FabricTellsSaid := fabricTells_over
#print axioms fabricTells_holds
end Go.Proofs.Ytfeogkiemjmocaa
