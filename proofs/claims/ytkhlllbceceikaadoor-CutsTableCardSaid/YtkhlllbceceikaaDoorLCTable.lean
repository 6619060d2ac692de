/- The law CutsTable: of any gates, node, leaves, table and lists: by which table it hangs on them, whether that is one, both lists made one: as the document says. · The card ties the row of columns. -/
import Derived.Test.YtkhlllbceceikaaDoorOpenG
import Derived.Test.YtkhlllbceceikaaDoorFew24
import Derived.Test.YtkhlllbceceikaaDoorLive24
namespace Go.Proofs.YtkhlllbceceikaaDoor
open Go.ChangeShapes Go.WideShapes Go.ChangeAt Go.RowKit Go.Joins
set_option linter.unusedVariables false
set_option linter.unusedSimpArgs false

set_option maxRecDepth 100000 in
set_option maxHeartbeats 4000000 in
theorem cutsTable_walk (G : AG) (node : Int) (A : Option Addr) (c : Nat) (l : List Int) (t : Nat) (B : Option Addr) (d : Nat) (a : List Int) (D : Option Addr) (e : Nat) (b : List Int) (k : Int) (w : World)
    (hin : G.In w) (hwf : G.wf) (hrl : Rd w 1 A l.length c (ints l)) (hbl : ∀ x ∈ l, -9223372036854775808 ≤ x ∧ x ≤ 9223372036854775807) (ht : t < 18446744073709551616)
    (hra : Rd w 1 B a.length d (ints a)) (hba : ∀ x ∈ a, -9223372036854775808 ≤ x ∧ x ≤ 9223372036854775807) (hrb : Rd w 1 D b.length e (ints b)) (hbb : ∀ x ∈ b, -9223372036854775808 ≤ x ∧ x ≤ 9223372036854775807) (hcols : COLS w) :
    Calls Tryd.prog 3 #[.agg #[.int .i64 G.I, .slice G.AF G.fl.length G.cF, .slice G.AA G.an.length G.cA, .slice G.AO G.ou.length G.cO], .int .i64 node, .slice A l.length c, .int .u64 (t : Int), .slice B a.length d, .slice D b.length e, .int .i64 k] w fun e w' => e = .returned (.bool true) ∧ Below w.heap.size w w' := by
  have X0 := Lib.hid (Blk.made w 26 #[.int .i64 G.I, .slice G.AF G.fl.length G.cF, .slice G.AA G.an.length G.cA, .slice G.AO G.ou.length G.cO])
  have Q0 := Lib.hid (below_new w (.cells #[.int .i64 G.I, .slice G.AF G.fl.length G.cF, .slice G.AA G.an.length G.cA, .slice G.AO G.ou.length G.cO] 26))
  have HIN := Lib.hid hin
  have HWF := Lib.hid hwf
  have HRL := Lib.hid hrl
  have HRA := Lib.hid hra
  have HRB := Lib.hid hrb
  have HC := Lib.hid hcols
  clear hin hwf hrl hra hrb hcols hbl hba hbb
  have hf0 := few24_any G
  have HF := Lib.hid hf0
  clear hf0
  go_enter Tryd.func3, Tryd.ntmps3
  go_wp2_with fail
  refine (live24_any _ (HC.out.below Q0.out)).mono ?_
  rintro e1 w1 ⟨rfl, hb1⟩
  have Q1 := Lib.hid (below_then Q0.out hb1)
  have X1 := Lib.hid (X0.out.keep hb1)
  clear hb1
  have k0 := X1.out.cell 0
  have k1 := X1.out.cell 1
  have k2 := X1.out.cell 2
  have k3 := X1.out.cell 3
  go_wp2_with fail
  refine (HF.out _).mono ?_
  rintro e1 w2 ⟨rfl, hb2⟩
  have Q2 := Lib.hid (below_then Q1.out hb2)
  have X2 := Lib.hid (X1.out.keep hb2)
  clear hb2 k0 k1 k2 k3 X1
  by_cases hs : few24 G
  case neg =>
    rw [show decide (few24 G) = false from decide_eq_false hs]
    go_wp2_with fail
    go_ret
    exact ⟨rfl, Q2.out⟩
  rw [show decide (few24 G) = true from decide_eq_true hs]
  have HS := Lib.hid hs
  clear hs
  by_cases h1 : (l.length : Int) ≤ 20
  case neg =>
    have h1' : (20 : Int) < (l.length : Int) := by omega
    go_wp2_with fail
    go_ret
    exact ⟨rfl, Q2.out⟩
  by_cases h2 : (a.length : Int) ≤ 50
  case neg =>
    have h2' : (50 : Int) < (a.length : Int) := by omega
    go_wp2_with fail
    go_ret
    exact ⟨rfl, Q2.out⟩
  by_cases h3 : (b.length : Int) ≤ 50
  case neg =>
    have h3' : decide ((50 : Int) < (b.length : Int)) = true := decide_eq_true (by omega)
    go_wp2_with fail
    go_ret
    exact ⟨rfl, Q2.out⟩
  have h3' : decide ((50 : Int) < (b.length : Int)) = false := decide_eq_false (by omega)
  have N1 := Lib.hid (show l.length ≤ 1000000 by omega)
  have N2 := Lib.hid (show a.length ≤ 400000 by omega)
  have N3 := Lib.hid (show b.length ≤ 400000 by omega)
  have k0 := X2.out.cell 0
  have k1 := X2.out.cell 1
  have k2 := X2.out.cell 2
  have k3 := X2.out.cell 3
  go_wp2_with fail
  refine (ctbl_any G A c l node w2 (HIN.out.later Q2.out) (few24_fit HS.out) HWF.out (HRL.out.later Q2.out) N1.out (HC.out.below Q2.out)).mono ?_
  rintro e1 w3 ⟨rfl, hb3⟩
  have Q3 := Lib.hid (below_then Q2.out hb3)
  have X3 := Lib.hid (X2.out.keep hb3)
  clear hb3 k0 k1 k2 k3 X2
  have k0 := X3.out.cell 0
  have k1 := X3.out.cell 1
  have k2 := X3.out.cell 2
  have k3 := X3.out.cell 3
  go_wp2_with fail
  refine (rtable_any G A c l node w3 (HIN.out.later Q3.out) (few24_fit HS.out) (HRL.out.later Q3.out) N1.out).mono ?_
  rintro e1 w4 ⟨rfl, hb4⟩
  have Q4 := Lib.hid (below_then Q3.out hb4)
  have X4 := Lib.hid (X3.out.keep hb4)
  clear hb4 k0 k1 k2 k3 X3
  go_wp2_with fail
  refine (cmerge_any B D d e a b k _ (HRA.out.later (below_then Q4.out (below_new _ _))) (HRB.out.later (below_then Q4.out (below_new _ _))) N2.out N3.out).mono ?_
  rintro e1 w5 ⟨AM, cM, rfl, hb5, hown5⟩
  have QC := Lib.hid (below_new w4 (.cells #[.slice A l.length c, .int .u64 (t : Int)] 34))
  have Y5 := Lib.hid ((Blk.made w4 34 #[.slice A l.length c, .int .u64 (t : Int)]).keep hb5)
  have Q5 := Lib.hid (below_then Q4.out (below_then QC.out hb5))
  have X5 := Lib.hid ((X4.out.keep QC.out).keep hb5)
  have M5 := Lib.hid (Rd.of_own hown5)
  clear hb5 hown5 X4
  go_wp2_with fail
  refine (rmerge_any B D d e a b k _ (HRA.out.later Q5.out) (HRB.out.later Q5.out) (by have := N2.out; omega) (by have := N3.out; omega)).mono ?_
  rintro e1 w6 ⟨AN, cN, rfl, hb6, hown6⟩
  have Q6 := Lib.hid (below_then Q5.out hb6)
  have X6 := Lib.hid (X5.out.keep hb6)
  have Y6 := Lib.hid (Y5.out.keep hb6)
  have M6 := Lib.hid (M5.out.later hb6)
  have R6 := Lib.hid (Rd.of_own hown6)
  clear hb6 hown6 X5 Y5
  go_upto_region 9 with (fail)
  have hl7 : ((Cut.merge a b k).getD []).length ≤ 100000000 := by
    unfold Cut.merge
    split
    · rename_i h; simp only [Option.getD_some]; omega
    · simp
  have CK := Lib.hid (fun (W : World) (h : Below w6.heap.size w6 W) => ccheck24_any G A c l node t W ((HIN.out.later Q6.out).later h) (few24_fit HS.out) HWF.out ((HRL.out.later Q6.out).later h) N1.out ((HC.out.below Q6.out).below h))
  have RK := Lib.hid (fun (W : World) (h : Below w6.heap.size w6 W) => rcheck24_any G A c l node t W ((HIN.out.later Q6.out).later h) (few24_fit HS.out) ((HRL.out.later Q6.out).later h) N1.out)
  have HI := Lib.hid (fun (W : World) (h : Below w6.heap.size w6 W) => rints_any W AM AN cM cN _ _ (M6.out.later h) (R6.out.later h) hl7)
  rw [show decide ((Cut.merge a b k).getD [] = (Cut.merge a b k).getD []) = true from decide_eq_true rfl] at HI
  have k0 := X6.out.cell 0
  have k1 := X6.out.cell 1
  have k2 := X6.out.cell 2
  have k3 := X6.out.cell 3
  have k4 := Y6.out.cell 0
  have k5 := Y6.out.cell 1
  clear hl7
  generalize ((Cut.merge a b k).getD []).length = nm at HI M6 R6 ⊢
  generalize (Cut.merge a b k).isSome = ok
  generalize hov : optV (G.good l node) = ov
  generalize hoe : optE (G.good l node) = oe
  generalize hce : cutE (G.good l node) t = ce at CK RK
  have e1 : ((ov : Int) == (ov : Int)) = true := by simp
  have e2 : (oe == oe) = true := by simp
  have e3 : (ce == ce) = true := by simp
  have e4 : (ok == ok) = true := by simp
  refine wp_region_still_in (by kernel_rfl) (by kernel_rfl) fun St9 ne9 V9 hV9 hS9 => ?_
  have qk0 := still_cell hV9 k0
  have qk1 := still_cell hV9 k1
  have qk2 := still_cell hV9 k2
  have qk3 := still_cell hV9 k3
  have qk4 := still_cell hV9 k4
  have qk5 := still_cell hV9 k5
  repeat (first | go_big_quiet_step (first | (go_at_call 17; exact Calls.still hV9 hS9 (CK.out _ (hV9 _))) | (go_at_call 18; exact Calls.still hV9 hS9 (RK.out _ (hV9 _))) | (go_at_call 19; exact Calls.still hV9 hS9 (HI.out _ (hV9 _)))) | quiet_step (first | (go_at_call 17; exact Calls.still hV9 hS9 (CK.out _ (hV9 _))) | (go_at_call 18; exact Calls.still hV9 hS9 (RK.out _ (hV9 _))) | (go_at_call 19; exact Calls.still hV9 hS9 (HI.out _ (hV9 _)))))
  refine wpQuiet_nil ?_
  intro _ hw9
  obtain ⟨s9, rfl⟩ := hw9
  have hb9 := hV9 s9
  clear qk0 qk1 qk2 qk3 qk4 qk5 hS9
  generalize V9 s9 = w9 at hb9 ⊢
  clear hV9 s9 V9 ne9 St9
  go_wp2_with fail
  go_ret
  exact ⟨by simp, below_then Q6.out hb9⟩

set_option maxRecDepth 100000 in
theorem cutsTable_lifted (os : Os) (started : os.Started) (H : Type) (enc : TypeId × Value → H) :
    ReturnsInHanded {} Tryd.checked os 3 .any (fun w args => (Rows.cutsTableSpec.pre enc Tryd.prog Tryd.f3 [] false w args ∧ laidMetH Tryd.prog laidC w) ∧ sizedMet enc Tryd.prog Tryd.f3 (OpenSpec.ofChange Rows.cutsTableSpec) false w args)
      (Rows.cutsTableSpec.post enc Tryd.prog Tryd.f3 false true false false) := by
  have hr : ∀ t ∈ Tryd.f3.params.toList, Tryd.prog.readableRec t = true ∧ t < Tryd.prog.types.size := by
    have h : Tryd.f3.params.toList.all (fun t => Tryd.prog.readableRec t && decide (t < Tryd.prog.types.size)) = true := by kernel_rfl
    intro t ht
    simpa using List.all_eq_true.1 h t ht
  refine returnsInHanded_of_change_and (C := Tryd.checked) (X := fun w _ => laidMetH Tryd.prog laidC w) (fun _ _ _ hh h => h.of_heap hh) own started (by kernel_rfl) Tryd.func3
    (ChangeSpec.witness_shaped (enc := enc) (C := Tryd.checked) (os := os) (X := fun w _ => laidMetH Tryd.prog laidC w) false (World.doorLaid Tryd.prog 400 os) #[.agg #[.int .i64 0, .slice none 0 0, .slice none 0 0, .slice none 0 0], .int .i64 0, .slice none 0 0, .int .u64 0, .slice none 0 0, .slice none 0 0, .int .i64 0] 8 rfl (World.shaped_of_RefB (by kernel_rfl) (by kernel_rfl)) (by kernel_rfl) (by kernel_rfl) (by kernel_rfl) (door_met os _)) ?_
  intro W base args ds gs before hval0 hW _ _ hL _
  have hcols := cols_of_laid hL
  have hval : ∀ (j : Nat) t v, Tryd.f3.params[j]? = some t → args[j]? = some v → Value.okWide Tryd.prog W .any base t v := hval0
  have hW' := hW
  obtain ⟨p, q, hA0, hV, rfl, hfz, hnd⟩ := hW
  have hA1 : DataW.TrodAll enc Tryd.prog W 0 (fun _ => true) true Tryd.f3.params.toList args.toList ds p := hA0
  have hA := hA1
  rw [Tryd.params3] at hA hval
  obtain ⟨v0, vs0, d0, ds0, p0, q0, hargs, rfl, rfl, h0, r0⟩ := trodAll_cons hA
  obtain ⟨v1, vs1, d1, ds1, p1, q1, rfl, rfl, rfl, h1, r1⟩ := trodAll_cons r0
  obtain ⟨v2, vs2, d2, ds2, p2, q2, rfl, rfl, rfl, h2, r2⟩ := trodAll_cons r1
  obtain ⟨v3, vs3, d3, ds3, p3, q3, rfl, rfl, rfl, h3, r3⟩ := trodAll_cons r2
  obtain ⟨v4, vs4, d4, ds4, p4, q4, rfl, rfl, rfl, h4, r4⟩ := trodAll_cons r3
  obtain ⟨v5, vs5, d5, ds5, p5, q5, rfl, rfl, rfl, h5, r5⟩ := trodAll_cons r4
  obtain ⟨v6, vs6, d6, ds6, p6, q6, rfl, rfl, rfl, h6, r6⟩ := trodAll_cons r5
  obtain ⟨rfl, rfl, rfl⟩ := trodAll_nil r6
  obtain rfl : args = #[v0, v1, v2, v3, v4, v5, v6] := by cases args; simp_all
  obtain ⟨rfl, rfl⟩ := trodVars_none hV
  obtain ⟨G0, rfl, hin0, hwf0⟩ := open_aig (hval 0 26 v0 rfl rfl) h0
  obtain ⟨a1, rfl, rfl, rfl, w1⟩ := open_int Tryd.underlying3 (hval 1 3 v1 rfl rfl) h1
  obtain ⟨A2, c2, l2, rfl, hr2, hb2⟩ := open_list (hval 2 24 v2 rfl rfl) h2
  obtain ⟨a3, rfl, rfl, rfl, w3⟩ := open_int Tryd.underlying27 (hval 3 27 v3 rfl rfl) h3
  obtain ⟨m3, rfl, hm3⟩ := lit_u64 w3
  obtain ⟨A4, c4, l4, rfl, hr4, hb4⟩ := open_list (hval 4 24 v4 rfl rfl) h4
  obtain ⟨A5, c5, l5, rfl, hr5, hb5⟩ := open_list (hval 5 24 v5 rfl rfl) h5
  obtain ⟨a6, rfl, rfl, rfl, w6⟩ := open_int Tryd.underlying3 (hval 6 3 v6 rfl rfl) h6
  clear hA0 hval0
  simp only [List.append_nil] at hW' hA1
  refine (cutsTable_walk G0 a1 A2 c2 l2 m3 A4 c4 l4 A5 c5 l5 a6 W hin0 hwf0 hr2 hb2 hm3 hr4 hb4 hr5 hb5 hcols).mono fun e W' ⟨he, hb⟩ => ?_
  subst he
  exact ⟨_, rfl, law_post laidOut hr rfl hW' hA1 rfl rfl Tryd.underlying4 hb⟩

theorem cutsTable_over : Rows.cutsTableRow.holds Tryd.pinned (OpenSpec.ofChange Rows.cutsTableSpec) :=
  OpenClaim.holds_of_wide 3 Tryd.f3 rfl rfl rfl rfl rfl rfl rfl ⟨rfl, rfl, rfl, rfl, rfl⟩ rfl rfl rfl rfl rfl (by kernel_rfl) Tryd.func3 (by kernel_rfl)
    (of_decide_eq_true (by kernel_rfl)) (by unfold Func.isWrapper; first | (rw [if_pos (by decide +kernel)]; kernel_rfl) | (rw [if_neg (by decide +kernel)]; exact ⟨rfl, rfl⟩))
    (fun os started H enc _ => cutsTable_lifted os started H enc)

/-- the card -/
theorem cutsTableCard_holds : Rows.CutsTableCardSaid :=
  Claim7.holds_tied_plain_at .later [] [.data] true Rows.cutsTableCard.stood.harness false
    cutsTable_over (fun _ h => by cases h) (by kernel_rfl) (fun _ h => by cases h) cutsTable_row_tie rfl ⟨rfl, rfl⟩ (by kernel_rfl) rfl
    (fun f fn hf hfn => by
      obtain rfl : f = 3 := Option.some.inj ((show Tryd.prog.funcNamed "filigree/filigreelaw24.CutsTable" = some 3 by kernel_rfl).symm.trans hf) |>.symm
      obtain rfl : fn = Tryd.f3 := (Option.some.inj (Tryd.func3.symm.trans hfn)).symm
      exact ⟨by kernel_rfl, fun j t ht => by
        have hall : (Tryd.f3.params.toList.all fun u => !Tryd.prog.wantsStandIn u) = true := by kernel_rfl
        have hm : t ∈ Tryd.f3.params.toList := by
          have := Array.mem_of_getElem? ht
          simpa using this
        exact (show Tryd.prog.wantsStandIn t = false by simpa using List.all_eq_true.1 hall t hm)⟩)
    (by kernel_rfl)
#print axioms cutsTableCard_holds
end Go.Proofs.YtkhlllbceceikaaDoor
