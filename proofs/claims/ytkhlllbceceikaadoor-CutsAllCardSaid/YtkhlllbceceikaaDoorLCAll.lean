/- The law CutsAll: of any gates and number the cuts of each node, and its depth, are what the document says. · The card ties the row of columns. -/
import Derived.Test.YtkhlllbceceikaaDoorOpenG
import Derived.Test.YtkhlllbceceikaaDoorFew24
import Derived.Test.YtkhlllbceceikaaDoorLive24
namespace Go.Proofs.YtkhlllbceceikaaDoor
open Go.ChangeShapes Go.WideShapes Go.ChangeAt Go.RowKit Go.Joins
set_option linter.unusedVariables false
set_option linter.unusedSimpArgs false

set_option maxRecDepth 100000 in
set_option maxHeartbeats 4000000 in
theorem cutsAll_walk (G : AG) (k : Int) (w : World) (hin : G.In w) (hwf : G.wf) (hcols : COLS w) :
    Calls Tryd.prog 4 #[.agg #[.int .i64 G.I, .slice G.AF G.fl.length G.cF, .slice G.AA G.an.length G.cA, .slice G.AO G.ou.length G.cO], .int .i64 k] w fun e w' => e = .returned (.bool true) ∧ Below w.heap.size w w' := by
  have X0 := Lib.hid (Blk.made w 26 #[.int .i64 G.I, .slice G.AF G.fl.length G.cF, .slice G.AA G.an.length G.cA, .slice G.AO G.ou.length G.cO])
  have Q0 := Lib.hid (below_new w (.cells #[.int .i64 G.I, .slice G.AF G.fl.length G.cF, .slice G.AA G.an.length G.cA, .slice G.AO G.ou.length G.cO] 26))
  have HIN := Lib.hid hin
  have HWF := Lib.hid hwf
  have HC := Lib.hid hcols
  clear hin hwf hcols
  have hf0 := few24_any G
  have HF := Lib.hid hf0
  clear hf0
  go_enter Tryd.func4, Tryd.ntmps4
  go_wp2_with fail
  refine (live24_any _ (HC.out.below Q0.out)).mono ?_
  rintro e1 w1 ⟨rfl, hb1⟩
  have Q1 := Lib.hid (below_then Q0.out hb1)
  have X1 := Lib.hid (X0.out.keep hb1)
  clear hb1
  have k0 := X1.out.cell 0
  have k1 := X1.out.cell 1
  have k2 := X1.out.cell 2
  have k3 := X1.out.cell 3
  go_wp2_with fail
  refine (HF.out _).mono ?_
  rintro e1 w2 ⟨rfl, hb2⟩
  have Q2 := Lib.hid (below_then Q1.out hb2)
  have X2 := Lib.hid (X1.out.keep hb2)
  clear hb2 k0 k1 k2 k3 X1
  by_cases hs : few24 G
  case neg =>
    rw [show decide (few24 G) = false from decide_eq_false hs]
    go_wp2_with fail
    go_ret
    exact ⟨rfl, Q2.out⟩
  rw [show decide (few24 G) = true from decide_eq_true hs]
  have HS := Lib.hid hs
  clear hs
  have k0 := X2.out.cell 0
  have k1 := X2.out.cell 1
  have k2 := X2.out.cell 2
  have k3 := X2.out.cell 3
  by_cases hm : G.may k
  case neg =>
    go_wp2_with fail
    refine (call_any G k w2 (HIN.out.later Q2.out) (few24_fit HS.out) HWF.out (HC.out.below Q2.out)).mono ?_
    rintro e1 w3 ⟨-, h3⟩
    obtain ⟨rfl, hb3⟩ := h3 hm
    have Q3 := Lib.hid (below_then Q2.out hb3)
    have X3 := Lib.hid (X2.out.keep hb3)
    clear hb3 h3 k0 k1 k2 k3 X2
    have k0 := X3.out.cell 0
    have k1 := X3.out.cell 1
    have k2 := X3.out.cell 2
    have k3 := X3.out.cell 3
    go_wp2_with fail
    refine (rall24_any G k w3 (HIN.out.later Q3.out) (few24_fit HS.out)).mono ?_
    rintro e1 w4 ⟨-, h4⟩
    obtain ⟨rfl, hb4⟩ := h4 hm
    have Q4 := Lib.hid (below_then Q3.out hb4)
    have X4 := Lib.hid (X3.out.keep hb4)
    clear hb4 h4 k0 k1 k2 k3 X3
    have k0 := X4.out.cell 0
    have k1 := X4.out.cell 1
    have k2 := X4.out.cell 2
    have k3 := X4.out.cell 3
    go_wp2_with fail
    refine (cdepths_any G k w4 (HIN.out.later Q4.out) (few24_fit HS.out) HWF.out (HC.out.below Q4.out)).mono ?_
    rintro e1 w5 ⟨-, h5⟩
    obtain ⟨rfl, hb5⟩ := h5 hm
    have Q5 := Lib.hid (below_then Q4.out hb5)
    have X5 := Lib.hid (X4.out.keep hb5)
    clear hb5 h5 k0 k1 k2 k3 X4
    have k0 := X5.out.cell 0
    have k1 := X5.out.cell 1
    have k2 := X5.out.cell 2
    have k3 := X5.out.cell 3
    go_wp2_with fail
    refine (rdepths24_any G k w5 (HIN.out.later Q5.out) (few24_fit HS.out)).mono ?_
    rintro e1 w6 ⟨-, h6⟩
    obtain ⟨rfl, hb6⟩ := h6 hm
    have Q6 := Lib.hid (below_then Q5.out hb6)
    clear hb6 h6 k0 k1 k2 k3 X5
    go_wp2_with fail
    refine (rsame24_yes none none 0 0 [] [] w6 ⟨Rd.none0 _ _ _ _ (fun _ => rfl), fun r hr => by cases hr⟩ ⟨Rd.none0 _ _ _ _ (fun _ => rfl), fun r hr => by cases hr⟩ rfl (by decide) (fun r hr => by cases hr)).mono ?_
    rintro e1 w7 ⟨rfl, hb7⟩
    have Q7 := Lib.hid (below_then Q6.out hb7)
    clear hb7
    go_wp2_with fail
    refine (rints_any w7 none none 0 0 [] [] (Rd.none0 _ _ _ _ (fun _ => rfl)) (Rd.none0 _ _ _ _ (fun _ => rfl)) (by decide)).mono ?_
    rintro e1 w8 ⟨rfl, hb8⟩
    have Q8 := Lib.hid (below_then Q7.out hb8)
    clear hb8
    go_wp2_with fail
    go_ret
    exact ⟨rfl, Q8.out⟩
  have HM := Lib.hid hm
  have hok := AG.bothTo_ok hm.2 hm.1 (G.cn - 1) (by have : 0 < G.cn := by unfold AG.cn AG.fst; omega
                                                    omega)
  have HOK := Lib.hid hok
  have hcn : G.cn ≤ 1000 := by have h1 := HS.out.1; have h2 := HS.out.2.1; have h3 := HS.out.2.2.1; unfold AG.cn AG.fst; omega
  have HCN := Lib.hid hcn
  clear hm hok hcn
  generalize hst : G.bothTo k (G.cn - 1) = st at HOK
  go_wp2_with fail
  refine (call_any G k w2 (HIN.out.later Q2.out) (few24_fit HS.out) HWF.out (HC.out.below Q2.out)).mono ?_
  rintro e1 w3 ⟨h3, -⟩
  replace h3 := h3 HM.out
  rw [hst] at h3
  obtain ⟨AO, cO, rs, AX, cX, rfl, hst3⟩ := h3
  have Q3 := Lib.hid (below_then Q2.out hst3.1)
  have X3 := Lib.hid (X2.out.keep hst3.1)
  have R3 := Lib.hid hst3.2.1.rows
  have P3 := Lib.hid hst3.2.2
  clear hst3 k0 k1 k2 k3 X2
  have k0 := X3.out.cell 0
  have k1 := X3.out.cell 1
  have k2 := X3.out.cell 2
  have k3 := X3.out.cell 3
  go_wp2_with fail
  refine (rall24_any G k w3 (HIN.out.later Q3.out) (few24_fit HS.out)).mono ?_
  rintro e1 w4 ⟨h4, -⟩
  replace h4 := h4 HM.out
  rw [hst] at h4
  obtain ⟨AP, cP, qs, AY, cY, rfl, hst4⟩ := h4
  have Q4 := Lib.hid (below_then Q3.out hst4.1)
  have X4 := Lib.hid (X3.out.keep hst4.1)
  have R4 := Lib.hid (R3.out.later hst4.1)
  have S4 := Lib.hid hst4.2.1.rows
  have P4 := Lib.hid hst4.2.2
  clear hst4 k0 k1 k2 k3 X3 R3
  have k0 := X4.out.cell 0
  have k1 := X4.out.cell 1
  have k2 := X4.out.cell 2
  have k3 := X4.out.cell 3
  go_wp2_with fail
  refine (cdepths_any G k w4 (HIN.out.later Q4.out) (few24_fit HS.out) HWF.out (HC.out.below Q4.out)).mono ?_
  rintro e1 w5 ⟨h5, -⟩
  replace h5 := h5 HM.out
  rw [hst] at h5
  obtain ⟨AQ, cQ, us, AD, cD, rfl, hst5⟩ := h5
  have Q5 := Lib.hid (below_then Q4.out hst5.1)
  have X5 := Lib.hid (X4.out.keep hst5.1)
  have R5 := Lib.hid (R4.out.later hst5.1)
  have S5 := Lib.hid (S4.out.later hst5.1)
  have D5 := Lib.hid (Rd.of_own hst5.2.1.dep)
  clear hst5 k0 k1 k2 k3 X4 R4 S4
  have k0 := X5.out.cell 0
  have k1 := X5.out.cell 1
  have k2 := X5.out.cell 2
  have k3 := X5.out.cell 3
  go_wp2_with fail
  refine (rdepths24_any G k w5 (HIN.out.later Q5.out) (few24_fit HS.out)).mono ?_
  rintro e1 w6 ⟨h6, -⟩
  replace h6 := h6 HM.out
  rw [hst] at h6
  obtain ⟨AR, cR, vs, AE, cE, rfl, hst6⟩ := h6
  have Q6 := Lib.hid (below_then Q5.out hst6.1)
  have R6 := Lib.hid (R5.out.later hst6.1)
  have S6 := Lib.hid (S5.out.later hst6.1)
  have D6 := Lib.hid (D5.out.later hst6.1)
  have E6 := Lib.hid (Rd.of_own hst6.2.1.dep)
  clear hst6 k0 k1 k2 k3 X5 R5 S5 D5
  have hl1 : rs.length = st.1.length := by rw [← P3.out, plainR_len]
  have hrow : ∀ r ∈ rs, r.2.2.length ≤ 1000000 ∧ ∀ c ∈ r.2.2, c.1.2.2.length ≤ 1000000 := fun r hr => by
    obtain ⟨j, hj, rfl⟩ := List.getElem_of_mem hr
    have h1 := HOK.out.row j (by have := HOK.out.len.1; omega)
    rw [← P3.out, plainR_at hj] at h1
    refine ⟨by have := h1.len.2; unfold pcs at this; rw [List.length_map] at this; omega, fun c hc => ?_⟩
    have := (h1.lv (c.1.2.2, c.2) (List.mem_map.2 ⟨c, hc, rfl⟩)).2.2.1
    simp only at this
    omega
  have HROW := Lib.hid hrow
  have HL1 := Lib.hid (show rs.length ≤ 1000000 by have := HOK.out.len.1; have := HCN.out; omega)
  have HL2 := Lib.hid (show st.2.length ≤ 100000000 by have := HOK.out.len.2; have := HCN.out; omega)
  clear hl1 hrow
  go_wp2_with fail
  refine (rsame24_yes AO AP cO cP rs qs w6 R6.out S6.out (P3.out.trans P4.out.symm) HL1.out HROW.out).mono ?_
  rintro e1 w7 ⟨rfl, hb7⟩
  have Q7 := Lib.hid (below_then Q6.out hb7)
  have D7 := Lib.hid (D6.out.later hb7)
  have E7 := Lib.hid (E6.out.later hb7)
  clear hb7
  go_wp2_with fail
  refine (rints_any w7 AD AE cD cE st.2 st.2 D7.out E7.out HL2.out).mono ?_
  rintro e1 w8 ⟨rfl, hb8⟩
  have Q8 := Lib.hid (below_then Q7.out hb8)
  clear hb8
  rw [show decide (st.2 = st.2) = true from decide_eq_true rfl]
  go_wp2_with fail
  go_ret
  exact ⟨rfl, Q8.out⟩

set_option maxRecDepth 100000 in
theorem cutsAll_lifted (os : Os) (started : os.Started) (H : Type) (enc : TypeId × Value → H) :
    ReturnsInHanded {} Tryd.checked os 4 .any (fun w args => (Rows.cutsAllSpec.pre enc Tryd.prog Tryd.f4 [] false w args ∧ laidMetH Tryd.prog laidC w) ∧ sizedMet enc Tryd.prog Tryd.f4 (OpenSpec.ofChange Rows.cutsAllSpec) false w args)
      (Rows.cutsAllSpec.post enc Tryd.prog Tryd.f4 false true false false) := by
  have hr : ∀ t ∈ Tryd.f4.params.toList, Tryd.prog.readableRec t = true ∧ t < Tryd.prog.types.size := by
    have h : Tryd.f4.params.toList.all (fun t => Tryd.prog.readableRec t && decide (t < Tryd.prog.types.size)) = true := by kernel_rfl
    intro t ht
    simpa using List.all_eq_true.1 h t ht
  refine returnsInHanded_of_change_and (C := Tryd.checked) (X := fun w _ => laidMetH Tryd.prog laidC w) (fun _ _ _ hh h => h.of_heap hh) own started (by kernel_rfl) Tryd.func4
    (ChangeSpec.witness_shaped (enc := enc) (C := Tryd.checked) (os := os) (X := fun w _ => laidMetH Tryd.prog laidC w) false (World.doorLaid Tryd.prog 400 os) #[.agg #[.int .i64 0, .slice none 0 0, .slice none 0 0, .slice none 0 0], .int .i64 0] 8 rfl (World.shaped_of_RefB (by kernel_rfl) (by kernel_rfl)) (by kernel_rfl) (by kernel_rfl) (by kernel_rfl) (door_met os _)) ?_
  intro W base args ds gs before hval0 hW _ _ hL _
  have hcols := cols_of_laid hL
  have hval : ∀ (j : Nat) t v, Tryd.f4.params[j]? = some t → args[j]? = some v → Value.okWide Tryd.prog W .any base t v := hval0
  have hW' := hW
  obtain ⟨p, q, hA0, hV, rfl, hfz, hnd⟩ := hW
  have hA1 : DataW.TrodAll enc Tryd.prog W 0 (fun _ => true) true Tryd.f4.params.toList args.toList ds p := hA0
  have hA := hA1
  rw [Tryd.params4] at hA hval
  obtain ⟨v0, vs0, d0, ds0, p0, q0, hargs, rfl, rfl, h0, r0⟩ := trodAll_cons hA
  obtain ⟨v1, vs1, d1, ds1, p1, q1, rfl, rfl, rfl, h1, r1⟩ := trodAll_cons r0
  obtain ⟨rfl, rfl, rfl⟩ := trodAll_nil r1
  obtain rfl : args = #[v0, v1] := by cases args; simp_all
  obtain ⟨rfl, rfl⟩ := trodVars_none hV
  obtain ⟨G0, rfl, hin0, hwf0⟩ := open_aig (hval 0 26 v0 rfl rfl) h0
  obtain ⟨a1, rfl, rfl, rfl, w1⟩ := open_int Tryd.underlying3 (hval 1 3 v1 rfl rfl) h1
  clear hA0 hval0
  simp only [List.append_nil] at hW' hA1
  refine (cutsAll_walk G0 a1 W hin0 hwf0 hcols).mono fun e W' ⟨he, hb⟩ => ?_
  subst he
  exact ⟨_, rfl, law_post laidOut hr rfl hW' hA1 rfl rfl Tryd.underlying4 hb⟩

theorem cutsAll_over : Rows.cutsAllRow.holds Tryd.pinned (OpenSpec.ofChange Rows.cutsAllSpec) :=
  OpenClaim.holds_of_wide 4 Tryd.f4 rfl rfl rfl rfl rfl rfl rfl ⟨rfl, rfl, rfl, rfl, rfl⟩ rfl rfl rfl rfl rfl (by kernel_rfl) Tryd.func4 (by kernel_rfl)
    (of_decide_eq_true (by kernel_rfl)) (by unfold Func.isWrapper; first | (rw [if_pos (by decide +kernel)]; kernel_rfl) | (rw [if_neg (by decide +kernel)]; exact ⟨rfl, rfl⟩))
    (fun os started H enc _ => cutsAll_lifted os started H enc)

/-- the card -/
theorem cutsAllCard_holds : Rows.CutsAllCardSaid :=
  Claim7.holds_tied_plain_at .later [] [.data] true Rows.cutsAllCard.stood.harness false
    cutsAll_over (fun _ h => by cases h) (by kernel_rfl) (fun _ h => by cases h) cutsAll_row_tie rfl ⟨rfl, rfl⟩ (by kernel_rfl) rfl
    (fun f fn hf hfn => by
      obtain rfl : f = 4 := Option.some.inj ((show Tryd.prog.funcNamed "filigree/filigreelaw24.CutsAll" = some 4 by kernel_rfl).symm.trans hf) |>.symm
      obtain rfl : fn = Tryd.f4 := (Option.some.inj (Tryd.func4.symm.trans hfn)).symm
      exact ⟨by kernel_rfl, fun j t ht => by
        have hall : (Tryd.f4.params.toList.all fun u => !Tryd.prog.wantsStandIn u) = true := by kernel_rfl
        have hm : t ∈ Tryd.f4.params.toList := by
          have := Array.mem_of_getElem? ht
          simpa using this
        exact (show Tryd.prog.wantsStandIn t = false by simpa using List.all_eq_true.1 hall t hm)⟩)
    (by kernel_rfl)
#print axioms cutsAllCard_holds
end Go.Proofs.YtkhlllbceceikaaDoor
