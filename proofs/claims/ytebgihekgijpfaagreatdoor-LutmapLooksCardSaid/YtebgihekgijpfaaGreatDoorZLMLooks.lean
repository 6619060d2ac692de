/- The law LutmapLooks: whether a net may be, and how deep its tables are, is just what the document says. · The card ties the row of columns. -/
import Derived.Test.YtebgihekgijpfaaGreatDoorZOpenN
import Derived.Test.YtebgihekgijpfaaGreatDoorZLive25
import Derived.Test.YtebgihekgijpfaaGreatDoorZR25W
import Derived.Test.YtebgihekgijpfaaGreatDoorZR25L
namespace Go.Proofs.YtebgihekgijpfaaGreatDoor
open Go.ChangeShapes Go.WideShapes Go.ChangeAt Go.RowKit Go.Joins
set_option linter.unusedVariables false
set_option linter.unusedSimpArgs false
theorem levV_len {N : NT} (hf : N.fit) : N.levV.length ≤ 1000000 := by
  unfold NT.levV
  split
  · rename_i h
    have hm := (NT.chk_may.1 h).small hf
    have := hf.hs
    have := hf.ls
    rw [nlTo_len]
    omega
  · simp
set_option maxRecDepth 100000 in
set_option maxHeartbeats 4000000 in
theorem lutmapLooks_walk (N : NT) (k : Int) (w : World) (hin : N.In w) (hwf : N.wf) (hcols : COLS w) :
    Calls Tryz.prog 4 #[.agg #[.int .i64 N.I, .slice N.AH N.hs.length N.cH, .slice N.AL N.ls.length N.cL, .slice N.AO N.ou.length N.cO], .int .i64 k] w fun e w' => e = .returned (.bool true) ∧ Below w.heap.size w w' := by
  have X0 := Lib.hid (Blk.made w 32 #[.int .i64 N.I, .slice N.AH N.hs.length N.cH, .slice N.AL N.ls.length N.cL, .slice N.AO N.ou.length N.cO])
  have Q0 := Lib.hid (below_new w (.cells #[.int .i64 N.I, .slice N.AH N.hs.length N.cH, .slice N.AL N.ls.length N.cL, .slice N.AO N.ou.length N.cO] 32))
  have HIN := Lib.hid hin
  have HWF := Lib.hid hwf
  have HC := Lib.hid hcols
  clear hin hwf hcols
  go_enter Tryz.func4, Tryz.ntmps4
  go_wp2_with fail
  refine (live25_any _ (HC.out.below Q0.out)).mono ?_
  rintro e1 w1 ⟨rfl, hb1⟩
  have Q1 := Lib.hid (below_then Q0.out hb1)
  have X1 := Lib.hid (X0.out.keep hb1)
  clear hb1
  have k0 := X1.out.cell 0
  have k1 := X1.out.cell 1
  have k2 := X1.out.cell 2
  have k3 := X1.out.cell 3
  go_wp2_with fail
  refine (few25_any N w1 (HIN.out.later Q1.out)).mono ?_
  rintro e1 w2 ⟨b, rfl, hfew, hb2⟩
  have Q2 := Lib.hid (below_then Q1.out hb2)
  have X2 := Lib.hid (X1.out.keep hb2)
  clear hb2 k0 k1 k2 k3
  cases b
  case false =>
    clear hfew
    go_wp2_with fail
    go_ret
    exact ⟨rfl, Q2.out⟩
  have HS := Lib.hid (fewN_fit (hfew rfl))
  clear hfew
  have k0 := X2.out.cell 0
  have k1 := X2.out.cell 1
  have k2 := X2.out.cell 2
  have k3 := X2.out.cell 3
  go_wp2_with fail
  refine (llevels_any N w2 (HIN.out.later Q2.out) HS.out HWF.out).mono ?_
  rintro e1 w3 ⟨A3, c3, rfl, hb3, hr3⟩
  have Q3 := Lib.hid (below_then Q2.out hb3)
  have X3 := Lib.hid (X2.out.keep hb3)
  have V3 := Lib.hid hr3
  clear hb3 hr3 k0 k1 k2 k3
  have k0 := X3.out.cell 0
  have k1 := X3.out.cell 1
  have k2 := X3.out.cell 2
  have k3 := X3.out.cell 3
  go_wp2_with fail
  refine (rlevels25_any N w3 (HIN.out.later Q3.out) HS.out HWF.out).mono ?_
  rintro e1 w4 ⟨A4, c4, rfl, hb4, hr4⟩
  have Q4 := Lib.hid (below_then Q3.out hb4)
  have X4 := Lib.hid (X3.out.keep hb4)
  have V4 := Lib.hid (V3.out.later hb4)
  have U4 := Lib.hid hr4
  clear hb4 hr4 k0 k1 k2 k3
  have hvl := levV_len HS.out
  have HK1 := Lib.hid (fun (W : World) (h : Below w.heap.size w W) => lcheck_any N k W (HIN.out.later h) HS.out HWF.out)
  have HK2 := Lib.hid (fun (W : World) (h : Below w.heap.size w W) => rcheck25_any N k W (HIN.out.later h) HS.out HWF.out)
  generalize N.chk 6 = e6
  generalize N.chk k = ek at HK1 HK2
  generalize N.levV = V at V4 U4 hvl ⊢
  obtain ⟨n, hn⟩ : ∃ n, V.length = n := ⟨_, rfl⟩
  rw [hn] at V4 U4 hvl ⊢
  have K := Lib.hid (ints25_yes A3 A4 n c3 c4 V w4 V4.out U4.out hvl)
  clear hn
  go_wp2_with fail
  refine K.out.mono ?_
  rintro e1 w5 ⟨rfl, hb5⟩
  have Q5 := Lib.hid (below_then Q4.out hb5)
  have X5 := Lib.hid (X4.out.keep hb5)
  clear hb5 K
  have k0 := X5.out.cell 0
  have k1 := X5.out.cell 1
  have k2 := X5.out.cell 2
  have k3 := X5.out.cell 3
  have hek : (ek == ek) = true := beq_self_eq_true _
  have he6 : (e6 == e6) = true := beq_self_eq_true _
  go_wp2_with fail
  refine wp_region_still_in (by kernel_rfl) (by kernel_rfl) fun St9 ne9 V9 hV9 hS9 => ?_
  have qk0 := still_cell hV9 k0
  have qk1 := still_cell hV9 k1
  have qk2 := still_cell hV9 k2
  have qk3 := still_cell hV9 k3
  repeat (first | go_big_quiet_step ((first | (go_at_call 17; exact Calls.still hV9 hS9 (HK1.out _ (below_then Q5.out (hV9 _)))) | (go_at_call 18; exact Calls.still hV9 hS9 (HK2.out _ (below_then Q5.out (hV9 _)))))) | quiet_step ((first | (go_at_call 17; exact Calls.still hV9 hS9 (HK1.out _ (below_then Q5.out (hV9 _)))) | (go_at_call 18; exact Calls.still hV9 hS9 (HK2.out _ (below_then Q5.out (hV9 _)))))))
  refine wpQuiet_nil ?_
  intro _ hw9
  obtain ⟨s9, rfl⟩ := hw9
  have hb9 := hV9 s9
  clear qk0 qk1 qk2 qk3 hS9
  generalize V9 s9 = w9 at hb9 ⊢
  clear hV9 s9 V9 ne9 St9
  have B9 := Lib.hid (below_then Q5.out hb9)
  clear hb9
  go_wp2_with fail
  go_ret
  exact ⟨rfl, B9.out⟩

set_option maxRecDepth 100000 in
theorem lutmapLooks_lifted (os : Os) (started : os.Started) (H : Type) (enc : TypeId × Value → H) :
    ReturnsInHanded {} Tryz.checked os 4 .any (fun w args => (Rows.lutmapLooksSpec.pre enc Tryz.prog Tryz.f4 [] false w args ∧ laidMetH Tryz.prog laidC w) ∧ sizedMet enc Tryz.prog Tryz.f4 (OpenSpec.ofChange Rows.lutmapLooksSpec) false w args)
      (Rows.lutmapLooksSpec.post enc Tryz.prog Tryz.f4 false true false false) := by
  have hr : ∀ t ∈ Tryz.f4.params.toList, Tryz.prog.readableRec t = true ∧ t < Tryz.prog.types.size := by
    have h : Tryz.f4.params.toList.all (fun t => Tryz.prog.readableRec t && decide (t < Tryz.prog.types.size)) = true := by kernel_rfl
    intro t ht
    simpa using List.all_eq_true.1 h t ht
  refine returnsInHanded_of_change_and (C := Tryz.checked) (X := fun w _ => laidMetH Tryz.prog laidC w) (fun _ _ _ hh h => h.of_heap hh) own started (by kernel_rfl) Tryz.func4
    (ChangeSpec.witness_shaped (enc := enc) (C := Tryz.checked) (os := os) (X := fun w _ => laidMetH Tryz.prog laidC w) false (World.doorLaid Tryz.prog 400 os) #[.agg #[.int .i64 0, .slice none 0 0, .slice none 0 0, .slice none 0 0], .int .i64 0] 8 rfl (World.shaped_of_RefB (by kernel_rfl) (by kernel_rfl)) (by kernel_rfl) (by kernel_rfl) (by kernel_rfl) (door_met os _)) ?_
  intro W base args ds gs before hval0 hW _ _ hL _
  have hcols := cols_of_laid hL
  have hval : ∀ (j : Nat) t v, Tryz.f4.params[j]? = some t → args[j]? = some v → Value.okWide Tryz.prog W .any base t v := hval0
  have hW' := hW
  obtain ⟨p, q, hA0, hV, rfl, hfz, hnd⟩ := hW
  have hA1 : DataW.TrodAll enc Tryz.prog W 0 (fun _ => true) true Tryz.f4.params.toList args.toList ds p := hA0
  have hA := hA1
  rw [Tryz.params4] at hA hval
  obtain ⟨v0, vs0, d0, ds0, p0, q0, hargs, rfl, rfl, h0, r0⟩ := trodAll_cons hA
  obtain ⟨v1, vs1, d1, ds1, p1, q1, rfl, rfl, rfl, h1, r1⟩ := trodAll_cons r0
  obtain ⟨rfl, rfl, rfl⟩ := trodAll_nil r1
  obtain rfl : args = #[v0, v1] := by cases args; simp_all
  obtain ⟨rfl, rfl⟩ := trodVars_none hV
  obtain ⟨N0, rfl, hin0, hwf0⟩ := open_net (hval 0 32 v0 rfl rfl) h0
  obtain ⟨a1, rfl, rfl, rfl, w1⟩ := open_int Tryz.underlying3 (hval 1 3 v1 rfl rfl) h1
  clear hA0 hval0
  simp only [List.append_nil] at hW' hA1
  refine (lutmapLooks_walk N0 a1 W hin0 hwf0 hcols).mono fun e W' ⟨he, hb⟩ => ?_
  subst he
  exact ⟨_, rfl, law_post laidOut hr rfl hW' hA1 rfl rfl Tryz.underlying4 hb⟩

theorem lutmapLooks_over : Rows.lutmapLooksRow.holds Tryz.pinned (OpenSpec.ofChange Rows.lutmapLooksSpec) :=
  OpenClaim.holds_of_wide 4 Tryz.f4 rfl rfl rfl rfl rfl rfl rfl ⟨rfl, rfl, rfl, rfl, rfl⟩ rfl rfl rfl rfl rfl (by kernel_rfl) Tryz.func4 (by kernel_rfl)
    (of_decide_eq_true (by kernel_rfl)) (by unfold Func.isWrapper; first | (rw [if_pos (by decide +kernel)]; kernel_rfl) | (rw [if_neg (by decide +kernel)]; exact ⟨rfl, rfl⟩))
    (fun os started H enc _ => lutmapLooks_lifted os started H enc)

/-- the card -/
theorem lutmapLooksCard_holds : Rows.LutmapLooksCardSaid :=
  Claim7.holds_tied_plain_at .later [] [.data] true Rows.lutmapLooksCard.stood.harness false
    lutmapLooks_over (fun _ h => by cases h) (by kernel_rfl) (fun _ h => by cases h) lutmapLooks_row_tie rfl ⟨rfl, rfl⟩ (by kernel_rfl) rfl
    (fun f fn hf hfn => by
      obtain rfl : f = 4 := Option.some.inj ((show Tryz.prog.funcNamed "filigree/filigreelaw25.LutmapLooks" = some 4 by kernel_rfl).symm.trans hf) |>.symm
      obtain rfl : fn = Tryz.f4 := (Option.some.inj (Tryz.func4.symm.trans hfn)).symm
      exact ⟨by kernel_rfl, fun j t ht => by
        have hall : (Tryz.f4.params.toList.all fun u => !Tryz.prog.wantsStandIn u) = true := by kernel_rfl
        have hm : t ∈ Tryz.f4.params.toList := by
          have := Array.mem_of_getElem? ht
          simpa using this
        exact (show Tryz.prog.wantsStandIn t = false by simpa using List.all_eq_true.1 hall t hm)⟩)
    (by kernel_rfl)
#print axioms lutmapLooksCard_holds
end Go.Proofs.YtebgihekgijpfaaGreatDoor
