/- The law ChipReads: the blocks that any configuration is. -/
import Derived.Test.YtoloaecbfglaeaaGreatFrame
import Derived.Test.YtoloaecbfglaeaaGreatLWhat
import Derived.Test.YtoloaecbfglaeaaGreatLive32
import Derived.Test.YtoloaecbfglaeaaGreatDetP
import Derived.Test.YtoloaecbfglaeaaGreatRSame

namespace Go.Proofs.YtoloaecbfglaeaaGreat
open Go.ChangeShapes Go.WideShapes Go.ChangeAt Go.RowKit Go.Joins Go.Deep Topo
set_option linter.unusedVariables false
set_option linter.unusedSimpArgs false

set_option maxRecDepth 100000 in
set_option maxHeartbeats 8000000 in
theorem chipReads_walk (C : Cfg) (w : World) (hin : C.In w) (hwf : C.wf) :
    Calls Tryz.prog 3 #[.agg #[.int .i64 C.W, .int .i64 C.H, .int .i64 C.T, .slice C.AT C.tiles.length C.cT, .slice C.AO C.on.length C.cO, .slice C.AI C.ins.length C.cI, .slice C.AU C.outs.length C.cU]] w fun e w' => e = .returned (.bool true) ∧ Below w.heap.size w w' := by
  have X0 := Lib.hid (Blk.made w 28 C.cells)
  have Q0 := Lib.hid (below_new w (.cells #[.int .i64 C.W, .int .i64 C.H, .int .i64 C.T, .slice C.AT C.tiles.length C.cT, .slice C.AO C.on.length C.cO, .slice C.AI C.ins.length C.cI, .slice C.AU C.outs.length C.cU] 28))
  have HIN := Lib.hid hin
  clear hin
  go_enter Tryz.func3, Tryz.ntmps3
  go_wp2_with fail
  refine (live32_any _).mono ?_
  rintro e w1 ⟨rfl, hb1⟩
  have Q1 := Lib.hid (below_then Q0.out hb1)
  have X1 := Lib.hid (X0.out.keep hb1)
  clear hb1
  have k0 := X1.out.cell 0
  have k1 := X1.out.cell 1
  have k2 := X1.out.cell 2
  have k3 := X1.out.cell 3
  have k4 := X1.out.cell 4
  have k5 := X1.out.cell 5
  have k6 := X1.out.cell 6
  by_cases hs : few32 C
  case neg =>
    go_wp2_with fail
    refine (few32_no _ _ hs).mono ?_
    rintro e w2 ⟨rfl, hb2⟩
    have Q2 := Lib.hid (below_then Q1.out hb2)
    clear hb2
    go_wp2_with fail
    go_ret
    exact ⟨rfl, Q2.out⟩
  have HS := Lib.hid hs
  go_wp2_with fail
  refine (few32_yes _ _ HS.out).mono ?_
  rintro e w2 ⟨rfl, hb2⟩
  have Q2 := Lib.hid (below_then Q1.out hb2)
  have X2 := Lib.hid (X1.out.keep hb2)
  clear hb2 k0 k1 k2 k3 k4 k5 k6 hs X1 Q1 X0 Q0
  have k0 := X2.out.cell 0
  have k1 := X2.out.cell 1
  have k2 := X2.out.cell 2
  have k3 := X2.out.cell 3
  have k4 := X2.out.cell 4
  have k5 := X2.out.cell 5
  have k6 := X2.out.cell 6
  have hre := read_any C w2 (HIN.out.later Q2.out) (few32_few HS.out)
  unfold READ at hre
  have HRE := Lib.hid hre
  clear hre
  go_wp2_with fail
  refine HRE.out.mono ?_
  rintro e w3 ⟨P, x, rfl, hb3, hP, hPf, hR, hPz⟩
  have hb4 := below_then hb3 (below_new w3 (.cells #[.int .i64 P.I, .slice P.AB P.bs.length P.cB, .slice P.AO P.outs.length P.cO] 33))
  have Q4 := Lib.hid (below_then Q2.out hb4)
  have X4 := Lib.hid (X2.out.keep hb4)
  have P4 := Lib.hid (hP.later (below_new w3 (.cells #[.int .i64 P.I, .slice P.AB P.bs.length P.cB, .slice P.AO P.outs.length P.cO] 33)))
  have Y4 := Lib.hid (Blk.made w3 33 #[.int .i64 P.I, .slice P.AB P.bs.length P.cB, .slice P.AO P.outs.length P.cO])
  have PF := Lib.hid hPf
  have PR := Lib.hid hR
  have PZ := Lib.hid hPz
  clear hb3 hb4 hP hPf hR hPz k0 k1 k2 k3 k4 k5 k6
  have k0 := X4.out.cell 0
  have k1 := X4.out.cell 1
  have k2 := X4.out.cell 2
  have k3 := X4.out.cell 3
  have k4 := X4.out.cell 4
  have k5 := X4.out.cell 5
  have k6 := X4.out.cell 6
  have hre := rread_any C _ (HIN.out.later Q4.out) (few32_few HS.out)
  unfold RREAD at hre
  have HRE := Lib.hid hre
  clear hre
  go_wp2_with fail
  refine HRE.out.mono ?_
  rintro e w5 ⟨Q, y, rfl, hb5, hQ, hQf, hR, hQz⟩
  have hbq := below_new w5 (.cells #[.int .i64 Q.I, .slice Q.AB Q.bs.length Q.cB, .slice Q.AO Q.outs.length Q.cO] 33)
  have hb6 := below_then hb5 hbq
  have Q6 := Lib.hid (below_then Q4.out hb6)
  have Y6 := Lib.hid (Y4.out.keep hb6)
  have Z6 := Lib.hid (Blk.made w5 33 #[.int .i64 Q.I, .slice Q.AB Q.bs.length Q.cB, .slice Q.AO Q.outs.length Q.cO])
  have P6 := P4.out.later hb6
  have Q6i := hQ.later hbq
  obtain ⟨rfl, hpl⟩ := read_one PR.out hR
  have hplain : P.plain = Q.plain := by
    by_cases hx : x = 0
    · exact hpl hx
    · rw [PZ.out hx, hQz hx]
  have hsame := rsamePack_yes P Q _ P6 Q6i PF.out hplain
  have HSAME := Lib.hid hsame
  have y0 := Y6.out.cell 0
  have y1 := Y6.out.cell 1
  have y2 := Y6.out.cell 2
  have z0 := Z6.out.cell 0
  have z1 := Z6.out.cell 1
  have z2 := Z6.out.cell 2
  clear hb5 hbq hb6 hQ hQf hR hQz P6 Q6i hpl hplain hsame k0 k1 k2 k3 k4 k5 k6
  go_wp2_with fail
  refine HSAME.out.mono ?_
  rintro e w7 ⟨rfl, hb7⟩
  have Q7 := Lib.hid (below_then Q6.out hb7)
  clear hb7 y0 y1 y2 z0 z1 z2
  have hxx : (x == x) = true := by simp
  go_wp2_with fail
  go_ret
  exact ⟨rfl, Q7.out⟩
set_option maxRecDepth 100000 in
theorem chipReads_lifted (os : Os) (started : os.Started) (H : Type) (enc : TypeId × Value → H) :
    ReturnsInHanded {} Tryz.checked os 3 .any (Rows.chipReadsSpec.pre6 enc Tryz.prog Tryz.f3 Rows.chipReadsRow.domain false) (Rows.chipReadsSpec.post enc Tryz.prog Tryz.f3 false true false false) := by
  have hr : ∀ t ∈ Tryz.f3.params.toList, Tryz.prog.readableRec t = true ∧ t < Tryz.prog.types.size := by
    have h : Tryz.f3.params.toList.all (fun t => Tryz.prog.readableRec t && decide (t < Tryz.prog.types.size)) = true := by kernel_rfl
    intro t ht
    simpa using List.all_eq_true.1 h t ht
  refine returnsInHanded_of_change (C := Tryz.checked) own started (by kernel_rfl) Tryz.func3
    (ChangeSpec.witness6 (enc := enc) (C := Tryz.checked) false ⟨#[], #[.agg #[.int .i64 0, .int .i64 0, .int .i64 0, .slice none 0 0, .slice none 0 0, .slice none 0 0, .slice none 0 0]], []⟩ 8 (by kernel_rfl) (by kernel_rfl) (by kernel_rfl) (by kernel_rfl)) ?_
  intro W base args ds gs before hval0 hW hcnd _
  have hval : ∀ (j : Nat) t v, Tryz.f3.params[j]? = some t → args[j]? = some v → Value.okWide Tryz.prog W .any base t v := hval0
  have hW' := hW
  obtain ⟨p, q, hA0, hV, rfl, hfz, hnd⟩ := hW
  have hA1 : DataW.TrodAll enc Tryz.prog W 0 (fun _ => true) true Tryz.f3.params.toList args.toList ds p := hA0
  have hA := hA1
  rw [Tryz.params3] at hA hval
  obtain ⟨v0, vs0, d0, ds0, p0, q0, hargs, rfl, rfl, h0, r0⟩ := trodAll_cons hA
  obtain ⟨rfl, rfl, rfl⟩ := trodAll_nil r0
  obtain rfl : args = #[v0] := by cases args; simp_all
  obtain ⟨rfl, rfl⟩ := trodVars_none hV
  obtain ⟨C0, rfl, hin0, hwf0⟩ := open_cfg (hval 0 28 v0 rfl rfl) h0
  clear hA0 hval0
  simp only [List.append_nil] at hW'
  simp only [List.append_nil] at hA1
  refine (chipReads_walk C0 W hin0 hwf0).mono fun e W' ⟨he, hb⟩ => ?_
  subst he
  exact ⟨_, rfl, law_post laidOut hr rfl hW' hA1 rfl rfl Tryz.underlying4 hb⟩

theorem chipReads_over : Rows.chipReadsRow.holds Tryz.pinned (OpenSpec.ofChange Rows.chipReadsSpec) :=
  OpenClaim.holds_of_wide 3 Tryz.f3 rfl rfl rfl rfl rfl rfl rfl ⟨rfl, rfl, rfl, rfl, rfl⟩ rfl rfl rfl rfl rfl (by kernel_rfl) Tryz.func3 (by kernel_rfl)
    (of_decide_eq_true (by kernel_rfl)) (by unfold Func.isWrapper; first | (rw [if_pos (by decide +kernel)]; kernel_rfl) | (rw [if_neg (by decide +kernel)]; exact ⟨rfl, rfl⟩))
    (fun os started H enc _ => chipReads_lifted os started H enc)

theorem chipReads_holds : Rows.ChipReadsSaid := chipReads_over
#print axioms chipReads_holds
end Go.Proofs.YtoloaecbfglaeaaGreat
