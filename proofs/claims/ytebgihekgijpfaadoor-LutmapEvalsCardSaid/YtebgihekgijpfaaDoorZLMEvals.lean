/- The law LutmapEvals: tables tell of any inputs, and whatever is kept, what the gates tell of which they are made. · The card ties the row of columns. -/
import Derived.Test.YtebgihekgijpfaaDoorZOpenG
import Derived.Test.YtebgihekgijpfaaDoorZLive25
import Derived.Test.YtebgihekgijpfaaDoorZMapB
import Derived.Test.YtebgihekgijpfaaDoorZAEval
import Derived.Test.YtebgihekgijpfaaDoorZR25M
namespace Go.Proofs.YtebgihekgijpfaaDoor
open Go.ChangeShapes Go.WideShapes Go.ChangeAt Go.RowKit Go.Joins
set_option linter.unusedVariables false
set_option linter.unusedSimpArgs false
set_option maxRecDepth 100000 in
set_option maxHeartbeats 4000000 in
theorem lutmapEvals_walk (G : AG) (k : Int) (A : Option Addr) (c : Nat) (ins : List Bool) (B : Option Addr) (d : Nat) (st : List Bool) (w : World) (hin : G.In w) (hwf : G.wf) (hra : Rd w 1 A ins.length c (bools ins)) (hrb : Rd w 1 B st.length d (bools st)) (hcols : COLS w) :
    Calls Tryd.prog 7 #[.agg #[.int .i64 G.I, .slice G.AF G.fl.length G.cF, .slice G.AA G.an.length G.cA, .slice G.AO G.ou.length G.cO], .int .i64 k, .slice A ins.length c, .slice B st.length d] w fun e w' => e = .returned (.bool true) ∧ Below w.heap.size w w' := by
  have HA := Lib.hid hra
  have HB := Lib.hid hrb
  obtain ⟨n1, hn1⟩ : ∃ n, ins.length = n := ⟨_, rfl⟩
  obtain ⟨n2, hn2⟩ : ∃ n, st.length = n := ⟨_, rfl⟩
  have HN1 := Lib.hid hn1
  have HN2 := Lib.hid hn2
  rw [hn1, hn2]
  clear hra hrb hn1 hn2
  have X0 := Lib.hid (Blk.made w 26 #[.int .i64 G.I, .slice G.AF G.fl.length G.cF, .slice G.AA G.an.length G.cA, .slice G.AO G.ou.length G.cO])
  have Q0 := Lib.hid (below_new w (.cells #[.int .i64 G.I, .slice G.AF G.fl.length G.cF, .slice G.AA G.an.length G.cA, .slice G.AO G.ou.length G.cO] 26))
  have HIN := Lib.hid hin
  have HWF := Lib.hid hwf
  have HC := Lib.hid hcols
  clear hin hwf hcols
  have HF := Lib.hid (fewGates25_any G)
  go_enter Tryd.func7, Tryd.ntmps7
  go_wp2_with fail
  refine (live25_any _ (HC.out.below Q0.out)).mono ?_
  rintro e1 w1 ⟨rfl, hb1⟩
  have Q1 := Lib.hid (below_then Q0.out hb1)
  have X1 := Lib.hid (X0.out.keep hb1)
  clear hb1
  have k0 := X1.out.cell 0
  have k1 := X1.out.cell 1
  have k2 := X1.out.cell 2
  have k3 := X1.out.cell 3
  go_wp2_with fail
  refine (HF.out _).mono ?_
  rintro e1 w2 ⟨rfl, hb2⟩
  have Q2 := Lib.hid (below_then Q1.out hb2)
  have X2 := Lib.hid (X1.out.keep hb2)
  clear hb2 k0 k1 k2 k3 X1 HF
  by_cases hs : fewG25 G
  case neg =>
    rw [show decide (fewG25 G) = false from decide_eq_false hs]
    go_wp2_with fail
    go_ret
    exact ⟨rfl, Q2.out⟩
  rw [show decide (fewG25 G) = true from decide_eq_true hs]
  have HS := Lib.hid hs
  clear hs
  by_cases h1 : n1 ≤ 400
  case neg =>
    have h1' : (400 : Int) < (n1 : Int) := by omega
    go_wp2_with fail
    go_ret
    exact ⟨rfl, Q2.out⟩
  have h1' : ¬ (400 : Int) < (n1 : Int) := by omega
  by_cases h2 : n2 ≤ 400
  case neg =>
    have h2' : (400 : Int) < (n2 : Int) := by omega
    go_wp2_with fail
    go_ret
    exact ⟨rfl, Q2.out⟩
  have h2' : ¬ (400 : Int) < (n2 : Int) := by omega
  have k0 := X2.out.cell 0
  have k1 := X2.out.cell 1
  have k2 := X2.out.cell 2
  have k3 := X2.out.cell 3
  go_wp2_with fail
  refine (lmap25_any G k w2 (HIN.out.later Q2.out) HS.out HWF.out (HC.out.below Q2.out)).mono ?_
  rintro e1 w4 ⟨hy, hn⟩
  by_cases he : G.errM k = 0
  case neg =>
    obtain ⟨rfl, hb4⟩ := hn he
    have B4 := Lib.hid (below_then (below_then Q2.out hb4) (below_new w4 (.cells #[.int .i64 0, .slice none 0 0, .slice none 0 0, .slice none 0 0] 32)))
    generalize G.errM k = e6 at he ⊢
    have hd : (e6 != 0) = true := by rw [bne_iff_ne]; exact he
    clear hy hn hb4 k0 k1 k2 k3
    go_wp2_with fail
    go_ret
    exact ⟨rfl, B4.out⟩
  obtain ⟨N, rfl, hb4, hNin, hmap⟩ := hy he
  obtain ⟨hmm, hfit⟩ := errM_zero HS.out he
  have Q4 := Lib.hid (below_then Q2.out hb4)
  have X4 := Lib.hid (X2.out.keep hb4)
  have b5 := below_new w4 (.cells #[.int .i64 N.I, .slice N.AH N.hs.length N.cH, .slice N.AL N.ls.length N.cL, .slice N.AO N.ou.length N.cO] 32)
  have Q5 := Lib.hid (below_then Q4.out b5)
  have X5 := Lib.hid (X4.out.keep b5)
  have N5 := Lib.hid (Blk.made w4 32 #[.int .i64 N.I, .slice N.AH N.hs.length N.cH, .slice N.AL N.ls.length N.cL, .slice N.AO N.ou.length N.cO])
  have HN5 := Lib.hid (hNin.later b5)
  have HMAP := Lib.hid hmap
  have HMM := Lib.hid hmm
  have HFIT := Lib.hid hfit
  clear hy hn hb4 hNin hmap hmm hfit b5 k0 k1 k2 k3 he
  by_cases hg : (ins.length : Int) = G.I ∧ st.length = G.fl.length
  case neg =>
    have K1 := aeval_no G A B c d ins st _ (HIN.out.later Q5.out) HFIT.out HWF.out (fun h => hg h.2)
    rw [HN1.out, HN2.out] at K1
    have HK1 := Lib.hid K1
    have hE : N.nodesE ins st = 1 := by
      unfold NT.nodesE
      rw [NT.chk_may.2 (HMAP.out.may HMM.out HFIT.out).six, if_neg (by simp), if_neg (fun h => hg (by rw [HMAP.out.i, HMAP.out.len.1] at h; exact h))]
    have K2 := fun (W : World) (h : Below w.heap.size w W) (hN : N.In W) => leval_any N A B c d ins st W hN (HMAP.out.fit HMM.out HS.out HFIT.out) (HMAP.out.wf HMM.out HS.out HFIT.out) (HA.out.later h) (HB.out.later h)
    unfold EvalOut at K2
    obtain ⟨hv1, hv2, hv3⟩ := nodesV_no (N := N) (ins := ins) (st := st) (by rw [hE]; decide)
    rw [hE, hv2, hv3, HN1.out, HN2.out] at K2
    have HK2 := Lib.hid K2
    clear K1 K2 hE hv1 hv2 hv3 hg
    have k0 := X5.out.cell 0
    have k1 := X5.out.cell 1
    have k2 := X5.out.cell 2
    have k3 := X5.out.cell 3
    go_wp2_with fail
    refine HK1.out.mono ?_
    rintro e1 w6 ⟨rfl, hb6⟩
    have Q6 := Lib.hid (below_then Q5.out hb6)
    have N6 := Lib.hid (N5.out.keep hb6)
    have HN6 := Lib.hid (HN5.out.later hb6)
    clear hb6 k0 k1 k2 k3
    have j0 := N6.out.cell 0
    have j1 := N6.out.cell 1
    have j2 := N6.out.cell 2
    have j3 := N6.out.cell 3
    go_wp2_with fail
    refine (HK2.out w6 Q6.out HN6.out).mono ?_
    rintro e1 w7 ⟨A7, c7, B7, d7, rfl, hb7, hr7, hs7⟩
    have Q7 := Lib.hid (below_then Q6.out hb7)
    have J := Lib.hid (bools25_yes none A7 0 0 c7 [] w7 (Rd.none0 _ _ _ _ (fun _ => rfl)) hr7 (by omega))
    have S7 := Lib.hid hs7
    clear hb7 hr7 hs7 j0 j1 j2 j3
    go_wp2_with fail
    refine J.out.mono ?_
    rintro e1 w8 ⟨rfl, hb8⟩
    have Q8 := Lib.hid (below_then Q7.out hb8)
    have J2 := Lib.hid (bools25_yes none B7 0 0 d7 [] w8 (Rd.none0 _ _ _ _ (fun _ => rfl)) (Rd.later S7.out hb8) (by omega))
    clear hb8 J
    go_wp2_with fail
    refine J2.out.mono ?_
    rintro e1 w9 ⟨rfl, hb9⟩
    have Q9 := Lib.hid (below_then Q8.out hb9)
    clear hb9 J2
    go_wp2_with fail
    go_ret
    exact ⟨rfl, Q9.out⟩
  obtain ⟨hi, hs⟩ := hg
  have K1 := aeval_yes G A B c d ins st _ (HIN.out.later Q5.out) HFIT.out HWF.out HMM.out.1 (HA.out.later Q5.out) (HB.out.later Q5.out) hi hs
  rw [HN1.out, HN2.out] at K1
  have HK1 := Lib.hid K1
  have hE : N.nodesE ins st = 0 := by
    unfold NT.nodesE
    rw [NT.chk_may.2 (HMAP.out.may HMM.out HFIT.out).six, if_neg (by simp), if_pos (by rw [HMAP.out.i, HMAP.out.len.1]; exact ⟨hi, hs⟩)]
  have K2 := fun (W : World) (h : Below w.heap.size w W) (hN : N.In W) => leval_any N A B c d ins st W hN (HMAP.out.fit HMM.out HS.out HFIT.out) (HMAP.out.wf HMM.out HS.out HFIT.out) (HA.out.later h) (HB.out.later h)
  unfold EvalOut at K2
  obtain ⟨hv1, hv2, hv3⟩ := nodesV_yes hE
  obtain ⟨hm1, hm2⟩ := HMAP.out.evs HMM.out hi hs
  have hl1 : (G.evO ins st).length = G.ou.length := by unfold AG.evO; rw [List.length_map]
  have hl2 : (G.evN ins st).length = G.fl.length := by unfold AG.evN; rw [List.length_map]
  rw [hE, hv2, hv3, hm1, hm2, hl1, hl2, HN1.out, HN2.out] at K2
  have HK2 := Lib.hid K2
  have ho3 := HFIT.out.o
  have hf3 := HFIT.out.f
  clear K1 K2 hE hv1 hv2 hv3 hm1 hm2 hl1 hl2 hi hs
  have k0 := X5.out.cell 0
  have k1 := X5.out.cell 1
  have k2 := X5.out.cell 2
  have k3 := X5.out.cell 3
  go_wp2_with fail
  refine HK1.out.mono ?_
  rintro e1 w6 ⟨A6, c6, B6, d6, rfl, hb6, hr6, hs6⟩
  have Q6 := Lib.hid (below_then Q5.out hb6)
  have N6 := Lib.hid (N5.out.keep hb6)
  have HN6 := Lib.hid (HN5.out.later hb6)
  have R6 := Lib.hid (Rd.of_own hr6)
  have S6 := Lib.hid (Rd.of_own hs6)
  clear hb6 hr6 hs6 k0 k1 k2 k3
  have j0 := N6.out.cell 0
  have j1 := N6.out.cell 1
  have j2 := N6.out.cell 2
  have j3 := N6.out.cell 3
  go_wp2_with fail
  refine (HK2.out w6 Q6.out HN6.out).mono ?_
  rintro e1 w7 ⟨A7, c7, B7, d7, rfl, hb7, hr7, hs7⟩
  have Q7 := Lib.hid (below_then Q6.out hb7)
  have J := Lib.hid (bools25_yes A6 A7 G.ou.length c6 c7 _ w7 (R6.out.later hb7) hr7 (by omega))
  have S7 := Lib.hid (S6.out.later hb7)
  have T7 := Lib.hid hs7
  clear hb7 hr7 hs7 j0 j1 j2 j3
  go_wp2_with fail
  refine J.out.mono ?_
  rintro e1 w8 ⟨rfl, hb8⟩
  have Q8 := Lib.hid (below_then Q7.out hb8)
  have J2 := Lib.hid (bools25_yes B6 B7 G.fl.length d6 d7 _ w8 (S7.out.later hb8) (T7.out.later hb8) (by omega))
  clear hb8 J
  go_wp2_with fail
  refine J2.out.mono ?_
  rintro e1 w9 ⟨rfl, hb9⟩
  have Q9 := Lib.hid (below_then Q8.out hb9)
  clear hb9 J2
  go_wp2_with fail
  go_ret
  exact ⟨rfl, Q9.out⟩

set_option maxRecDepth 100000 in
theorem lutmapEvals_lifted (os : Os) (started : os.Started) (H : Type) (enc : TypeId × Value → H) :
    ReturnsInHanded {} Tryd.checked os 7 .any (fun w args => (Rows.lutmapEvalsSpec.pre enc Tryd.prog Tryd.f7 [] false w args ∧ laidMetH Tryd.prog laidC w) ∧ sizedMet enc Tryd.prog Tryd.f7 (OpenSpec.ofChange Rows.lutmapEvalsSpec) false w args)
      (Rows.lutmapEvalsSpec.post enc Tryd.prog Tryd.f7 false true false false) := by
  have hr : ∀ t ∈ Tryd.f7.params.toList, Tryd.prog.readableRec t = true ∧ t < Tryd.prog.types.size := by
    have h : Tryd.f7.params.toList.all (fun t => Tryd.prog.readableRec t && decide (t < Tryd.prog.types.size)) = true := by kernel_rfl
    intro t ht
    simpa using List.all_eq_true.1 h t ht
  refine returnsInHanded_of_change_and (C := Tryd.checked) (X := fun w _ => laidMetH Tryd.prog laidC w) (fun _ _ _ hh h => h.of_heap hh) own started (by kernel_rfl) Tryd.func7
    (ChangeSpec.witness_shaped (enc := enc) (C := Tryd.checked) (os := os) (X := fun w _ => laidMetH Tryd.prog laidC w) false (World.doorLaid Tryd.prog 400 os) #[.agg #[.int .i64 0, .slice none 0 0, .slice none 0 0, .slice none 0 0], .int .i64 0, .slice none 0 0, .slice none 0 0] 8 rfl (World.shaped_of_RefB (by kernel_rfl) (by kernel_rfl)) (by kernel_rfl) (by kernel_rfl) (by kernel_rfl) (door_met os _)) ?_
  intro W base args ds gs before hval0 hW _ _ hL _
  have hcols := cols_of_laid hL
  have hval : ∀ (j : Nat) t v, Tryd.f7.params[j]? = some t → args[j]? = some v → Value.okWide Tryd.prog W .any base t v := hval0
  have hW' := hW
  obtain ⟨p, q, hA0, hV, rfl, hfz, hnd⟩ := hW
  have hA1 : DataW.TrodAll enc Tryd.prog W 0 (fun _ => true) true Tryd.f7.params.toList args.toList ds p := hA0
  have hA := hA1
  rw [Tryd.params7] at hA hval
  obtain ⟨v0, vs0, d0, ds0, p0, q0, hargs, rfl, rfl, h0, r0⟩ := trodAll_cons hA
  obtain ⟨v1, vs1, d1, ds1, p1, q1, rfl, rfl, rfl, h1, r1⟩ := trodAll_cons r0
  obtain ⟨v2, vs2, d2, ds2, p2, q2, rfl, rfl, rfl, h2, r2⟩ := trodAll_cons r1
  obtain ⟨v3, vs3, d3, ds3, p3, q3, rfl, rfl, rfl, h3, r3⟩ := trodAll_cons r2
  obtain ⟨rfl, rfl, rfl⟩ := trodAll_nil r3
  obtain rfl : args = #[v0, v1, v2, v3] := by cases args; simp_all
  obtain ⟨rfl, rfl⟩ := trodVars_none hV
  obtain ⟨G0, rfl, hin0, hwf0⟩ := open_aig (hval 0 26 v0 rfl rfl) h0
  obtain ⟨a1, rfl, rfl, rfl, w1⟩ := open_int Tryd.underlying3 (hval 1 3 v1 rfl rfl) h1
  obtain ⟨A2, c2, l2, rfl, hr2⟩ := open_bits (hval 2 42 v2 rfl rfl) h2
  obtain ⟨A3, c3, l3, rfl, hr3⟩ := open_bits (hval 3 42 v3 rfl rfl) h3
  clear hA0 hval0
  simp only [List.append_nil] at hW' hA1
  refine (lutmapEvals_walk G0 a1 A2 c2 l2 A3 c3 l3 W hin0 hwf0 hr2 hr3 hcols).mono fun e W' ⟨he, hb⟩ => ?_
  subst he
  exact ⟨_, rfl, law_post laidOut hr rfl hW' hA1 rfl rfl Tryd.underlying4 hb⟩

theorem lutmapEvals_over : Rows.lutmapEvalsRow.holds Tryd.pinned (OpenSpec.ofChange Rows.lutmapEvalsSpec) :=
  OpenClaim.holds_of_wide 7 Tryd.f7 rfl rfl rfl rfl rfl rfl rfl ⟨rfl, rfl, rfl, rfl, rfl⟩ rfl rfl rfl rfl rfl (by kernel_rfl) Tryd.func7 (by kernel_rfl)
    (of_decide_eq_true (by kernel_rfl)) (by unfold Func.isWrapper; first | (rw [if_pos (by decide +kernel)]; kernel_rfl) | (rw [if_neg (by decide +kernel)]; exact ⟨rfl, rfl⟩))
    (fun os started H enc _ => lutmapEvals_lifted os started H enc)

/-- the card -/
theorem lutmapEvalsCard_holds : Rows.LutmapEvalsCardSaid :=
  Claim7.holds_tied_plain_at .later [] [.data] true Rows.lutmapEvalsCard.stood.harness false
    lutmapEvals_over (fun _ h => by cases h) (by kernel_rfl) (fun _ h => by cases h) lutmapEvals_row_tie rfl ⟨rfl, rfl⟩ (by kernel_rfl) rfl
    (fun f fn hf hfn => by
      obtain rfl : f = 7 := Option.some.inj ((show Tryd.prog.funcNamed "filigree/filigreelaw25.LutmapEvals" = some 7 by kernel_rfl).symm.trans hf) |>.symm
      obtain rfl : fn = Tryd.f7 := (Option.some.inj (Tryd.func7.symm.trans hfn)).symm
      exact ⟨by kernel_rfl, fun j t ht => by
        have hall : (Tryd.f7.params.toList.all fun u => !Tryd.prog.wantsStandIn u) = true := by kernel_rfl
        have hm : t ∈ Tryd.f7.params.toList := by
          have := Array.mem_of_getElem? ht
          simpa using this
        exact (show Tryd.prog.wantsStandIn t = false by simpa using List.all_eq_true.1 hall t hm)⟩)
    (by kernel_rfl)
#print axioms lutmapEvalsCard_holds
end Go.Proofs.YtebgihekgijpfaaDoor
