/- The law ChipEvals: what any configuration tells of any inputs, and keeps. -/
import Derived.Test.YtoloaecbfglaeaaGreatFrame
import Derived.Test.YtoloaecbfglaeaaGreatLWhat
import Derived.Test.YtoloaecbfglaeaaGreatLive32
import Derived.Test.YtoloaecbfglaeaaGreatDetP

namespace Go.Proofs.YtoloaecbfglaeaaGreat
open Go.ChangeShapes Go.WideShapes Go.ChangeAt Go.RowKit Go.Joins Go.Deep Topo
set_option linter.unusedVariables false
set_option linter.unusedSimpArgs false

set_option maxRecDepth 100000 in
set_option maxHeartbeats 8000000 in
theorem chipEvals_walk (C : Cfg) (IA : Option Addr) (cI : Nat) (li : List Bool) (SA : Option Addr) (cS : Nat) (ls : List Bool) (w : World) (hin : C.In w) (hwf : C.wf) (hri : Rd w 1 IA li.length cI (bools li)) (hrs : Rd w 1 SA ls.length cS (bools ls)) :
    Calls Tryz.prog 4 #[.agg #[.int .i64 C.W, .int .i64 C.H, .int .i64 C.T, .slice C.AT C.tiles.length C.cT, .slice C.AO C.on.length C.cO, .slice C.AI C.ins.length C.cI, .slice C.AU C.outs.length C.cU], .slice IA li.length cI, .slice SA ls.length cS] w fun e w' => e = .returned (.bool true) ∧ Below w.heap.size w w' := by
  have X0 := Lib.hid (Blk.made w 28 C.cells)
  have Q0 := Lib.hid (below_new w (.cells #[.int .i64 C.W, .int .i64 C.H, .int .i64 C.T, .slice C.AT C.tiles.length C.cT, .slice C.AO C.on.length C.cO, .slice C.AI C.ins.length C.cI, .slice C.AU C.outs.length C.cU] 28))
  have HIN := Lib.hid hin
  have HRI := Lib.hid hri
  have HRS := Lib.hid hrs
  clear hin hri hrs
  go_enter Tryz.func4, Tryz.ntmps4
  go_wp2_with fail
  refine (live32_any _).mono ?_
  rintro e w1 ⟨rfl, hb1⟩
  have Q1 := Lib.hid (below_then Q0.out hb1)
  have X1 := Lib.hid (X0.out.keep hb1)
  clear hb1
  have k0 := X1.out.cell 0
  have k1 := X1.out.cell 1
  have k2 := X1.out.cell 2
  have k3 := X1.out.cell 3
  have k4 := X1.out.cell 4
  have k5 := X1.out.cell 5
  have k6 := X1.out.cell 6
  by_cases hs : few32 C
  case neg =>
    go_wp2_with fail
    refine (few32_no _ _ hs).mono ?_
    rintro e w2 ⟨rfl, hb2⟩
    have Q2 := Lib.hid (below_then Q1.out hb2)
    clear hb2
    go_wp2_with fail
    go_ret
    exact ⟨rfl, Q2.out⟩
  have HS := Lib.hid hs
  go_wp2_with fail
  refine (few32_yes _ _ HS.out).mono ?_
  rintro e w2 ⟨rfl, hb2⟩
  have Q2 := Lib.hid (below_then Q1.out hb2)
  have X2 := Lib.hid (X1.out.keep hb2)
  clear hb2 k0 k1 k2 k3 k4 k5 k6 hs X1 Q1 X0 Q0
  by_cases g1 : 100 < (li.length : Int)
  case pos =>
    go_wp2_with fail
    go_ret
    exact ⟨rfl, Q2.out⟩
  by_cases g2 : 100 < (ls.length : Int)
  case pos =>
    go_wp2_with fail
    go_ret
    exact ⟨rfl, Q2.out⟩
  have k0 := X2.out.cell 0
  have k1 := X2.out.cell 1
  have k2 := X2.out.cell 2
  have k3 := X2.out.cell 3
  have k4 := X2.out.cell 4
  have k5 := X2.out.cell 5
  have k6 := X2.out.cell 6
  have hno := HS.out.2.2.2.2.2.2
  have hnt := HS.out.2.2.2.1
  go_wp2_with fail
  refine (chipEval_any C IA cI li SA cS ls _ (HIN.out.later Q2.out) (few32_few HS.out) (HRI.out.later Q2.out) (HRS.out.later Q2.out) (by omega) (by omega)).mono ?_
  rintro e w3 ⟨A1, c1, o1, A2, c2, n1, x, rfl, hb3, hO1, hN1, hE1⟩
  have Q3 := Lib.hid (below_then Q2.out hb3)
  have X3 := Lib.hid (X2.out.keep hb3)
  have O3 := Lib.hid hO1
  have N3 := Lib.hid hN1
  have E3 := Lib.hid hE1
  clear hb3 hO1 hN1 hE1 k0 k1 k2 k3 k4 k5 k6
  have k0 := X3.out.cell 0
  have k1 := X3.out.cell 1
  have k2 := X3.out.cell 2
  have k3 := X3.out.cell 3
  have k4 := X3.out.cell 4
  have k5 := X3.out.cell 5
  have k6 := X3.out.cell 6
  go_wp2_with fail
  refine (rchipEval_any C IA cI li SA cS ls _ (HIN.out.later Q3.out) (few32_few HS.out) (HRI.out.later Q3.out) (HRS.out.later Q3.out) (by omega) (by omega)).mono ?_
  rintro e w4 ⟨B1, d1, o2, B2, d2, n2, y, rfl, hb4, hO2, hN2, hE2⟩
  obtain ⟨rfl, rfl, rfl⟩ := ceval_det E3.out hE2
  obtain ⟨hl1, hl2⟩ := ceval_len E3.out
  have hl3 : o1.length ≤ 100000000 := by omega
  have hl4 : n1.length ≤ 100000000 := by omega
  have Q4 := Lib.hid (below_then Q3.out hb4)
  have O4 := Lib.hid (O3.out.later hb4)
  have N4 := Lib.hid (N3.out.later hb4)
  have U4 := Lib.hid hO2
  have V4 := Lib.hid hN2
  clear hb4 hO2 hN2 hE2 k0 k1 k2 k3 k4 k5 k6
  go_wp2_with fail
  refine (sameBools_yes _ A1 B1 o1.length c1 d1 o1 O4.out U4.out hl3).mono ?_
  rintro e w5 ⟨rfl, hb5⟩
  have Q5 := Lib.hid (below_then Q4.out hb5)
  have N5 := Lib.hid (N4.out.later hb5)
  have V5 := Lib.hid (V4.out.later hb5)
  clear hb5
  go_wp2_with fail
  refine (sameBools_yes _ A2 B2 n1.length c2 d2 n1 N5.out V5.out hl4).mono ?_
  rintro e w6 ⟨rfl, hb6⟩
  have Q6 := Lib.hid (below_then Q5.out hb6)
  clear hb6
  have hxx : (x == x) = true := by simp
  go_wp2_with fail
  go_ret
  exact ⟨rfl, Q6.out⟩
set_option maxRecDepth 100000 in
theorem chipEvals_lifted (os : Os) (started : os.Started) (H : Type) (enc : TypeId × Value → H) :
    ReturnsInHanded {} Tryz.checked os 4 .any (Rows.chipEvalsSpec.pre6 enc Tryz.prog Tryz.f4 Rows.chipEvalsRow.domain false) (Rows.chipEvalsSpec.post enc Tryz.prog Tryz.f4 false true false false) := by
  have hr : ∀ t ∈ Tryz.f4.params.toList, Tryz.prog.readableRec t = true ∧ t < Tryz.prog.types.size := by
    have h : Tryz.f4.params.toList.all (fun t => Tryz.prog.readableRec t && decide (t < Tryz.prog.types.size)) = true := by kernel_rfl
    intro t ht
    simpa using List.all_eq_true.1 h t ht
  refine returnsInHanded_of_change (C := Tryz.checked) own started (by kernel_rfl) Tryz.func4
    (ChangeSpec.witness6 (enc := enc) (C := Tryz.checked) false ⟨#[], #[.agg #[.int .i64 0, .int .i64 0, .int .i64 0, .slice none 0 0, .slice none 0 0, .slice none 0 0, .slice none 0 0], .slice none 0 0, .slice none 0 0], []⟩ 8 (by kernel_rfl) (by kernel_rfl) (by kernel_rfl) (by kernel_rfl)) ?_
  intro W base args ds gs before hval0 hW hcnd _
  have hval : ∀ (j : Nat) t v, Tryz.f4.params[j]? = some t → args[j]? = some v → Value.okWide Tryz.prog W .any base t v := hval0
  have hW' := hW
  obtain ⟨p, q, hA0, hV, rfl, hfz, hnd⟩ := hW
  have hA1 : DataW.TrodAll enc Tryz.prog W 0 (fun _ => true) true Tryz.f4.params.toList args.toList ds p := hA0
  have hA := hA1
  rw [Tryz.params4] at hA hval
  obtain ⟨v0, vs0, d0, ds0, p0, q0, hargs, rfl, rfl, h0, r0⟩ := trodAll_cons hA
  obtain ⟨v1, vs1, d1, ds1, p1, q1, rfl, rfl, rfl, h1, r1⟩ := trodAll_cons r0
  obtain ⟨v2, vs2, d2, ds2, p2, q2, rfl, rfl, rfl, h2, r2⟩ := trodAll_cons r1
  obtain ⟨rfl, rfl, rfl⟩ := trodAll_nil r2
  obtain rfl : args = #[v0, v1, v2] := by cases args; simp_all
  obtain ⟨rfl, rfl⟩ := trodVars_none hV
  obtain ⟨C0, rfl, hin0, hwf0⟩ := open_cfg (hval 0 28 v0 rfl rfl) h0
  obtain ⟨A1, c1, l1, rfl, hr1⟩ := open_bits (hval 1 25 v1 rfl rfl) h1
  obtain ⟨A2, c2, l2, rfl, hr2⟩ := open_bits (hval 2 25 v2 rfl rfl) h2
  clear hA0 hval0
  simp only [List.append_nil] at hW'
  simp only [List.append_nil] at hA1
  refine (chipEvals_walk C0 A1 c1 l1 A2 c2 l2 W hin0 hwf0 hr1 hr2).mono fun e W' ⟨he, hb⟩ => ?_
  subst he
  exact ⟨_, rfl, law_post laidOut hr rfl hW' hA1 rfl rfl Tryz.underlying4 hb⟩

theorem chipEvals_over : Rows.chipEvalsRow.holds Tryz.pinned (OpenSpec.ofChange Rows.chipEvalsSpec) :=
  OpenClaim.holds_of_wide 4 Tryz.f4 rfl rfl rfl rfl rfl rfl rfl ⟨rfl, rfl, rfl, rfl, rfl⟩ rfl rfl rfl rfl rfl (by kernel_rfl) Tryz.func4 (by kernel_rfl)
    (of_decide_eq_true (by kernel_rfl)) (by unfold Func.isWrapper; first | (rw [if_pos (by decide +kernel)]; kernel_rfl) | (rw [if_neg (by decide +kernel)]; exact ⟨rfl, rfl⟩))
    (fun os started H enc _ => chipEvals_lifted os started H enc)

theorem chipEvals_holds : Rows.ChipEvalsSaid := chipEvals_over
#print axioms chipEvals_holds
end Go.Proofs.YtoloaecbfglaeaaGreat
