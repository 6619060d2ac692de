/- The law ChipPlays: what any configuration tells, tick by tick. -/
import Derived.Test.YtoloaecbfglaeaaGreatFrame
import Derived.Test.YtoloaecbfglaeaaGreatLWhat
import Derived.Test.YtoloaecbfglaeaaGreatLive32
import Derived.Test.YtoloaecbfglaeaaGreatDetP

namespace Go.Proofs.YtoloaecbfglaeaaGreat
open Go.ChangeShapes Go.WideShapes Go.ChangeAt Go.RowKit Go.Joins Go.Deep Topo
set_option linter.unusedVariables false
set_option linter.unusedSimpArgs false

set_option maxRecDepth 100000 in
set_option maxHeartbeats 8000000 in
theorem chipPlays_walk (C : Cfg) (RA : Option Addr) (rc : Nat) (L : List BR) (w : World) (hin : C.In w) (hwf : C.wf) (hL : RowsIn RA rc L w) (hn : L.length ≤ maxLen) (hb : ∀ b ∈ L, b.l.length ≤ maxLen) :
    Calls Tryz.prog 5 #[.agg #[.int .i64 C.W, .int .i64 C.H, .int .i64 C.T, .slice C.AT C.tiles.length C.cT, .slice C.AO C.on.length C.cO, .slice C.AI C.ins.length C.cI, .slice C.AU C.outs.length C.cU], .slice RA L.length rc] w fun e w' => e = .returned (.bool true) ∧ Below w.heap.size w w' := by
  have X0 := Lib.hid (Blk.made w 28 C.cells)
  have Q0 := Lib.hid (below_new w (.cells #[.int .i64 C.W, .int .i64 C.H, .int .i64 C.T, .slice C.AT C.tiles.length C.cT, .slice C.AO C.on.length C.cO, .slice C.AI C.ins.length C.cI, .slice C.AU C.outs.length C.cU] 28))
  have HIN := Lib.hid hin
  have HL := Lib.hid hL
  have HB := Lib.hid hb
  have HN := Lib.hid hn
  clear hin hL hb hn
  go_enter Tryz.func5, Tryz.ntmps5
  go_wp2_with fail
  refine (live32_any _).mono ?_
  rintro e w1 ⟨rfl, hb1⟩
  have Q1 := Lib.hid (below_then Q0.out hb1)
  have X1 := Lib.hid (X0.out.keep hb1)
  clear hb1
  have k0 := X1.out.cell 0
  have k1 := X1.out.cell 1
  have k2 := X1.out.cell 2
  have k3 := X1.out.cell 3
  have k4 := X1.out.cell 4
  have k5 := X1.out.cell 5
  have k6 := X1.out.cell 6
  by_cases hs : few32 C
  case neg =>
    go_wp2_with fail
    refine (few32_no _ _ hs).mono ?_
    rintro e w2 ⟨rfl, hb2⟩
    have Q2 := Lib.hid (below_then Q1.out hb2)
    clear hb2
    go_wp2_with fail
    go_ret
    exact ⟨rfl, Q2.out⟩
  have HS := Lib.hid hs
  go_wp2_with fail
  refine (few32_yes _ _ HS.out).mono ?_
  rintro e w2 ⟨rfl, hb2⟩
  have Q2 := Lib.hid (below_then Q1.out hb2)
  have X2 := Lib.hid (X1.out.keep hb2)
  clear hb2 k0 k1 k2 k3 k4 k5 k6 hs X1 Q1 X0 Q0
  have hfr := fewRows_any w2 RA rc L 20 (HL.out.later Q2.out) HN.out (by decide) HB.out
  have HFR := Lib.hid hfr
  clear hfr
  by_cases hr : fewR L 20
  case neg =>
    have hfr := HFR.out
    rw [decide_eq_false hr] at hfr
    have HFR2 := Lib.hid hfr
    clear hfr hr
    go_wp2_with fail
    refine HFR2.out.mono ?_
    rintro e w3 ⟨rfl, rfl⟩
    go_wp2_with fail
    go_ret
    exact ⟨rfl, Q2.out⟩
  have hfr := HFR.out
  rw [decide_eq_true hr] at hfr
  have HFR2 := Lib.hid hfr
  obtain ⟨hr1, hr2⟩ := hr
  have hr3 : L.length ≤ 1000 := by omega
  have hr4 : ∀ b ∈ L, b.l.length ≤ 100000 := fun b hb => by have := hr1 b hb; omega
  have HR3 := Lib.hid hr3
  have HR4 := Lib.hid hr4
  clear hfr hr1 hr2 hr3 hr4
  have k0 := X2.out.cell 0
  have k1 := X2.out.cell 1
  have k2 := X2.out.cell 2
  have k3 := X2.out.cell 3
  have k4 := X2.out.cell 4
  have k5 := X2.out.cell 5
  have k6 := X2.out.cell 6
  go_wp2_with fail
  refine HFR2.out.mono ?_
  rintro e w3 ⟨rfl, rfl⟩
  go_wp2_with fail
  refine (chipRun_any C RA rc L _ (HIN.out.later Q2.out) (few32_few HS.out) (HL.out.later Q2.out) HR3.out HR4.out).mono ?_
  rintro e w6 ⟨A1, c1, R1, x1, rfl, hb6, hR1, -, hC1⟩
  have Q6 := Lib.hid (below_then Q2.out hb6)
  have X6 := Lib.hid (X2.out.keep hb6)
  have R61 := Lib.hid hR1
  have C61 := Lib.hid hC1
  clear hb6 hR1 hC1 k0 k1 k2 k3 k4 k5 k6
  have k0 := X6.out.cell 0
  have k1 := X6.out.cell 1
  have k2 := X6.out.cell 2
  have k3 := X6.out.cell 3
  have k4 := X6.out.cell 4
  have k5 := X6.out.cell 5
  have k6 := X6.out.cell 6
  go_wp2_with fail
  refine (rchipRun_any C RA rc L _ (HIN.out.later Q6.out) (few32_few HS.out) (HL.out.later Q6.out) HR3.out HR4.out).mono ?_
  rintro e w7 ⟨A2, c2, R2, x2, rfl, hb7, hR2, -, hC2⟩
  have Q7 := Lib.hid (below_then Q6.out hb7)
  have R71 := Lib.hid (R61.out.later hb7)
  have S7 := Lib.hid hR2
  obtain ⟨rfl, hrows⟩ := same_run (same_refl C) C61.out hC2
  have hlen : R1.length = R2.length := by have := congrArg List.length hrows; simpa using this
  have hsame := fun (h1 : R1.length ≤ 100000000) (h2 : ∀ b ∈ R1, b.l.length ≤ 100000000) => sameRows_yes w7 A1 c1 R1 A2 c2 R2 R71.out S7.out hrows h1 h2
  have HSAME := Lib.hid hsame
  clear hb7 hR2 hC2 hrows hlen hsame k0 k1 k2 k3 k4 k5 k6
  go_wp2_with fail
  have hcl := crun_len C61.out
  have hno := HS.out.2.2.2.2.2.2
  refine (HSAME.out (by have := hcl.1; have := HR3.out; simp at *; omega) (fun b hb => by have := hcl.2 b.l (List.mem_map.2 ⟨b, hb, rfl⟩); omega)).mono ?_
  rintro e w12 ⟨rfl, hb12⟩
  have Q12 := Lib.hid (below_then Q7.out hb12)
  clear hb12 hcl
  go_wp2_with fail
  go_ret
  exact ⟨rfl, Q12.out⟩
set_option maxRecDepth 100000 in
theorem chipPlays_lifted (os : Os) (started : os.Started) (H : Type) (enc : TypeId × Value → H) :
    ReturnsInHanded {} Tryz.checked os 5 .any (Rows.chipPlaysSpec.pre6 enc Tryz.prog Tryz.f5 Rows.chipPlaysRow.domain false) (Rows.chipPlaysSpec.post enc Tryz.prog Tryz.f5 false true false false) := by
  have hr : ∀ t ∈ Tryz.f5.params.toList, Tryz.prog.readableRec t = true ∧ t < Tryz.prog.types.size := by
    have h : Tryz.f5.params.toList.all (fun t => Tryz.prog.readableRec t && decide (t < Tryz.prog.types.size)) = true := by kernel_rfl
    intro t ht
    simpa using List.all_eq_true.1 h t ht
  refine returnsInHanded_of_change (C := Tryz.checked) own started (by kernel_rfl) Tryz.func5
    (ChangeSpec.witness6 (enc := enc) (C := Tryz.checked) false ⟨#[], #[.agg #[.int .i64 0, .int .i64 0, .int .i64 0, .slice none 0 0, .slice none 0 0, .slice none 0 0, .slice none 0 0], .slice none 0 0], []⟩ 8 (by kernel_rfl) (by kernel_rfl) (by kernel_rfl) (by kernel_rfl)) ?_
  intro W base args ds gs before hval0 hW hcnd _
  have hval : ∀ (j : Nat) t v, Tryz.f5.params[j]? = some t → args[j]? = some v → Value.okWide Tryz.prog W .any base t v := hval0
  have hW' := hW
  obtain ⟨p, q, hA0, hV, rfl, hfz, hnd⟩ := hW
  have hA1 : DataW.TrodAll enc Tryz.prog W 0 (fun _ => true) true Tryz.f5.params.toList args.toList ds p := hA0
  have hA := hA1
  rw [Tryz.params5] at hA hval
  obtain ⟨v0, vs0, d0, ds0, p0, q0, hargs, rfl, rfl, h0, r0⟩ := trodAll_cons hA
  obtain ⟨v1, vs1, d1, ds1, p1, q1, rfl, rfl, rfl, h1, r1⟩ := trodAll_cons r0
  obtain ⟨rfl, rfl, rfl⟩ := trodAll_nil r1
  obtain rfl : args = #[v0, v1] := by cases args; simp_all
  obtain ⟨rfl, rfl⟩ := trodVars_none hV
  obtain ⟨C0, rfl, hin0, hwf0⟩ := open_cfg (hval 0 28 v0 rfl rfl) h0
  obtain ⟨A1, c1, L1, rfl, hr1, hn1, hb1⟩ := open_rows (hval 1 42 v1 rfl rfl) h1
  clear hA0 hval0
  simp only [List.append_nil] at hW'
  simp only [List.append_nil] at hA1
  refine (chipPlays_walk C0 A1 c1 L1 W hin0 hwf0 hr1 hn1 hb1).mono fun e W' ⟨he, hb⟩ => ?_
  subst he
  exact ⟨_, rfl, law_post laidOut hr rfl hW' hA1 rfl rfl Tryz.underlying4 hb⟩

theorem chipPlays_over : Rows.chipPlaysRow.holds Tryz.pinned (OpenSpec.ofChange Rows.chipPlaysSpec) :=
  OpenClaim.holds_of_wide 5 Tryz.f5 rfl rfl rfl rfl rfl rfl rfl ⟨rfl, rfl, rfl, rfl, rfl⟩ rfl rfl rfl rfl rfl (by kernel_rfl) Tryz.func5 (by kernel_rfl)
    (of_decide_eq_true (by kernel_rfl)) (by unfold Func.isWrapper; first | (rw [if_pos (by decide +kernel)]; kernel_rfl) | (rw [if_neg (by decide +kernel)]; exact ⟨rfl, rfl⟩))
    (fun os started H enc _ => chipPlays_lifted os started H enc)

theorem chipPlays_holds : Rows.ChipPlaysSaid := chipPlays_over
#print axioms chipPlays_holds
end Go.Proofs.YtoloaecbfglaeaaGreat
