/- The law LutmapRuns: what a net tells, tick by tick, is just what the document says. · The card ties the row of columns. -/
import Derived.Test.YtebgihekgijpfaaGreatDoorZOpenN
import Derived.Test.YtebgihekgijpfaaGreatDoorZLive25
import Derived.Test.YtebgihekgijpfaaGreatDoorZR25W
import Derived.Test.YtebgihekgijpfaaGreatDoorZR25R
import Derived.Test.YtebgihekgijpfaaGreatDoorZR25F
namespace Go.Proofs.YtebgihekgijpfaaGreatDoor
open Go.ChangeShapes Go.WideShapes Go.ChangeAt Go.RowKit Go.Joins
set_option linter.unusedVariables false
set_option linter.unusedSimpArgs false
theorem runV_len {N : NT} (hf : N.fit) (rows : List (List Bool)) (hr : rows.length ≤ 1000) : (N.runV rows).length ≤ 1000000 ∧ ∀ r ∈ N.runV rows, r.length ≤ 1000000 := by
  unfold NT.runV
  split
  · unfold NT.outA
    refine ⟨by rw [List.length_map, List.length_range]; omega, fun r hr => ?_⟩
    obtain ⟨j, -, rfl⟩ := List.mem_map.1 hr
    unfold pickB
    rw [List.length_map]
    have := hf.ou
    omega
  · simp
set_option maxRecDepth 100000 in
set_option maxHeartbeats 4000000 in
theorem lutmapRuns_walk (N : NT) (A : Option Addr) (c : Nat) (rs : List SB) (w : World) (hin : N.In w) (hwf : N.wf) (hr : RowsB w A c rs) (hcols : COLS w) :
    Calls Tryz.prog 6 #[.agg #[.int .i64 N.I, .slice N.AH N.hs.length N.cH, .slice N.AL N.ls.length N.cL, .slice N.AO N.ou.length N.cO], .slice A rs.length c] w fun e w' => e = .returned (.bool true) ∧ Below w.heap.size w w' := by
  have HR := Lib.hid hr
  clear hr
  have X0 := Lib.hid (Blk.made w 32 #[.int .i64 N.I, .slice N.AH N.hs.length N.cH, .slice N.AL N.ls.length N.cL, .slice N.AO N.ou.length N.cO])
  have Q0 := Lib.hid (below_new w (.cells #[.int .i64 N.I, .slice N.AH N.hs.length N.cH, .slice N.AL N.ls.length N.cL, .slice N.AO N.ou.length N.cO] 32))
  have HIN := Lib.hid hin
  have HWF := Lib.hid hwf
  have HC := Lib.hid hcols
  clear hin hwf hcols
  go_enter Tryz.func6, Tryz.ntmps6
  go_wp2_with fail
  refine (live25_any _ (HC.out.below Q0.out)).mono ?_
  rintro e1 w1 ⟨rfl, hb1⟩
  have Q1 := Lib.hid (below_then Q0.out hb1)
  have X1 := Lib.hid (X0.out.keep hb1)
  clear hb1
  have k0 := X1.out.cell 0
  have k1 := X1.out.cell 1
  have k2 := X1.out.cell 2
  have k3 := X1.out.cell 3
  go_wp2_with fail
  refine (few25_any N w1 (HIN.out.later Q1.out)).mono ?_
  rintro e1 w2 ⟨b, rfl, hfew, hb2⟩
  have Q2 := Lib.hid (below_then Q1.out hb2)
  have X2 := Lib.hid (X1.out.keep hb2)
  clear hb2 k0 k1 k2 k3
  obtain ⟨m, hm⟩ : ∃ m, rs.length = m := ⟨_, rfl⟩
  have HM := Lib.hid hm
  have K0 := fewRows25_any A c rs w2 (HR.out.later Q2.out)
  rw [hm] at K0
  have K := Lib.hid K0
  rw [hm]
  clear K0 hm
  cases b
  case false =>
    clear hfew K
    go_wp2_with fail
    go_ret
    exact ⟨rfl, Q2.out⟩
  have HS := Lib.hid (fewN_fit (hfew rfl))
  clear hfew
  by_cases hfr : fewR (rowsP rs)
  case neg =>
    rw [show decide (fewR (rowsP rs)) = false from decide_eq_false hfr] at K
    go_wp2_with fail
    refine K.out.mono ?_
    rintro e1 w3 ⟨rfl, hb3⟩
    have Q3 := Lib.hid (below_then Q2.out hb3)
    clear hb3 K
    go_wp2_with fail
    go_ret
    exact ⟨rfl, Q3.out⟩
  rw [show decide (fewR (rowsP rs)) = true from decide_eq_true hfr] at K
  have HFR := Lib.hid hfr
  clear hfr
  go_wp2_with fail
  refine K.out.mono ?_
  rintro e1 w3 ⟨rfl, hb3⟩
  have Q3 := Lib.hid (below_then Q2.out hb3)
  have X3 := Lib.hid (X2.out.keep hb3)
  clear hb3 K
  have hrl : rs.length ≤ 1000 := by have h := HFR.out.1; rw [rowsP_len] at h; omega
  have hrr : ∀ l ∈ rs, l.2.2.length ≤ 100000 := fun l hl => by have := HFR.out.2 _ (List.mem_map.2 ⟨l, hl, rfl⟩); omega
  have K1 := fun (W : World) (h : Below w.heap.size w W) => lrun_any N A c rs W (HIN.out.later h) HS.out HWF.out (HR.out.later h) hrl hrr
  have K2 := fun (W : World) (h : Below w.heap.size w W) => rrun25_any N A c rs W (HIN.out.later h) HS.out HWF.out (HR.out.later h) hrl hrr
  unfold RunOut at K1 K2
  obtain ⟨hv1, hv2⟩ := runV_len HS.out (rowsP rs) (by rw [rowsP_len]; exact hrl)
  rw [HM.out] at K1 K2
  have HK1 := Lib.hid K1
  have HK2 := Lib.hid K2
  clear K1 K2 hrl hrr
  generalize N.runE (rowsP rs) = e6 at HK1 HK2
  generalize N.runV (rowsP rs) = V at HK1 HK2 hv1 hv2
  have k0 := X3.out.cell 0
  have k1 := X3.out.cell 1
  have k2 := X3.out.cell 2
  have k3 := X3.out.cell 3
  go_wp2_with fail
  refine (HK1.out w3 Q3.out).mono ?_
  rintro e1 w4 ⟨A4, c4, l4, rfl, hb4, hr4, hp4⟩
  have Q4 := Lib.hid (below_then Q3.out hb4)
  have X4 := Lib.hid (X3.out.keep hb4)
  have V4 := Lib.hid hr4
  have P4 := Lib.hid hp4
  clear hb4 hr4 hp4 k0 k1 k2 k3
  have k0 := X4.out.cell 0
  have k1 := X4.out.cell 1
  have k2 := X4.out.cell 2
  have k3 := X4.out.cell 3
  go_wp2_with fail
  refine (HK2.out w4 Q4.out).mono ?_
  rintro e1 w5 ⟨A5, c5, l5, rfl, hb5, hr5, hp5⟩
  have Q5 := Lib.hid (below_then Q4.out hb5)
  have J := Lib.hid (rows25_yes A4 A5 c4 c5 l4 l5 w5 (V4.out.later hb5) hr5 (P4.out.trans hp5.symm) (by rw [← rowsP_len, P4.out]; exact hv1) (fun x hx => hv2 _ (by rw [← P4.out]; exact List.mem_map.2 ⟨x, hx, rfl⟩)))
  clear hb5 hr5 hp5 k0 k1 k2 k3
  go_wp2_with fail
  refine J.out.mono ?_
  rintro e1 w6 ⟨rfl, hb6⟩
  have Q6 := Lib.hid (below_then Q5.out hb6)
  clear hb6 J
  have he6 : (e6 == e6) = true := beq_self_eq_true _
  go_wp2_with fail
  go_ret
  exact ⟨rfl, Q6.out⟩

set_option maxRecDepth 100000 in
theorem lutmapRuns_lifted (os : Os) (started : os.Started) (H : Type) (enc : TypeId × Value → H) :
    ReturnsInHanded {} Tryz.checked os 6 .any (fun w args => (Rows.lutmapRunsSpec.pre enc Tryz.prog Tryz.f6 [] false w args ∧ laidMetH Tryz.prog laidC w) ∧ sizedMet enc Tryz.prog Tryz.f6 (OpenSpec.ofChange Rows.lutmapRunsSpec) false w args)
      (Rows.lutmapRunsSpec.post enc Tryz.prog Tryz.f6 false true false false) := by
  have hr : ∀ t ∈ Tryz.f6.params.toList, Tryz.prog.readableRec t = true ∧ t < Tryz.prog.types.size := by
    have h : Tryz.f6.params.toList.all (fun t => Tryz.prog.readableRec t && decide (t < Tryz.prog.types.size)) = true := by kernel_rfl
    intro t ht
    simpa using List.all_eq_true.1 h t ht
  refine returnsInHanded_of_change_and (C := Tryz.checked) (X := fun w _ => laidMetH Tryz.prog laidC w) (fun _ _ _ hh h => h.of_heap hh) own started (by kernel_rfl) Tryz.func6
    (ChangeSpec.witness_shaped (enc := enc) (C := Tryz.checked) (os := os) (X := fun w _ => laidMetH Tryz.prog laidC w) false (World.doorLaid Tryz.prog 400 os) #[.agg #[.int .i64 0, .slice none 0 0, .slice none 0 0, .slice none 0 0], .slice none 0 0] 8 rfl (World.shaped_of_RefB (by kernel_rfl) (by kernel_rfl)) (by kernel_rfl) (by kernel_rfl) (by kernel_rfl) (door_met os _)) ?_
  intro W base args ds gs before hval0 hW _ _ hL _
  have hcols := cols_of_laid hL
  have hval : ∀ (j : Nat) t v, Tryz.f6.params[j]? = some t → args[j]? = some v → Value.okWide Tryz.prog W .any base t v := hval0
  have hW' := hW
  obtain ⟨p, q, hA0, hV, rfl, hfz, hnd⟩ := hW
  have hA1 : DataW.TrodAll enc Tryz.prog W 0 (fun _ => true) true Tryz.f6.params.toList args.toList ds p := hA0
  have hA := hA1
  rw [Tryz.params6] at hA hval
  obtain ⟨v0, vs0, d0, ds0, p0, q0, hargs, rfl, rfl, h0, r0⟩ := trodAll_cons hA
  obtain ⟨v1, vs1, d1, ds1, p1, q1, rfl, rfl, rfl, h1, r1⟩ := trodAll_cons r0
  obtain ⟨rfl, rfl, rfl⟩ := trodAll_nil r1
  obtain rfl : args = #[v0, v1] := by cases args; simp_all
  obtain ⟨rfl, rfl⟩ := trodVars_none hV
  obtain ⟨N0, rfl, hin0, hwf0⟩ := open_net (hval 0 32 v0 rfl rfl) h0
  obtain ⟨A1, c1, l1, rfl, hr1⟩ := open_rowsB (hval 1 51 v1 rfl rfl) h1
  clear hA0 hval0
  simp only [List.append_nil] at hW' hA1
  refine (lutmapRuns_walk N0 A1 c1 l1 W hin0 hwf0 hr1 hcols).mono fun e W' ⟨he, hb⟩ => ?_
  subst he
  exact ⟨_, rfl, law_post laidOut hr rfl hW' hA1 rfl rfl Tryz.underlying4 hb⟩

theorem lutmapRuns_over : Rows.lutmapRunsRow.holds Tryz.pinned (OpenSpec.ofChange Rows.lutmapRunsSpec) :=
  OpenClaim.holds_of_wide 6 Tryz.f6 rfl rfl rfl rfl rfl rfl rfl ⟨rfl, rfl, rfl, rfl, rfl⟩ rfl rfl rfl rfl rfl (by kernel_rfl) Tryz.func6 (by kernel_rfl)
    (of_decide_eq_true (by kernel_rfl)) (by unfold Func.isWrapper; first | (rw [if_pos (by decide +kernel)]; kernel_rfl) | (rw [if_neg (by decide +kernel)]; exact ⟨rfl, rfl⟩))
    (fun os started H enc _ => lutmapRuns_lifted os started H enc)

/-- the card -/
theorem lutmapRunsCard_holds : Rows.LutmapRunsCardSaid :=
  Claim7.holds_tied_plain_at .later [] [.data] true Rows.lutmapRunsCard.stood.harness false
    lutmapRuns_over (fun _ h => by cases h) (by kernel_rfl) (fun _ h => by cases h) lutmapRuns_row_tie rfl ⟨rfl, rfl⟩ (by kernel_rfl) rfl
    (fun f fn hf hfn => by
      obtain rfl : f = 6 := Option.some.inj ((show Tryz.prog.funcNamed "filigree/filigreelaw25.LutmapRuns" = some 6 by kernel_rfl).symm.trans hf) |>.symm
      obtain rfl : fn = Tryz.f6 := (Option.some.inj (Tryz.func6.symm.trans hfn)).symm
      exact ⟨by kernel_rfl, fun j t ht => by
        have hall : (Tryz.f6.params.toList.all fun u => !Tryz.prog.wantsStandIn u) = true := by kernel_rfl
        have hm : t ∈ Tryz.f6.params.toList := by
          have := Array.mem_of_getElem? ht
          simpa using this
        exact (show Tryz.prog.wantsStandIn t = false by simpa using List.all_eq_true.1 hall t hm)⟩)
    (by kernel_rfl)
#print axioms lutmapRunsCard_holds
end Go.Proofs.YtebgihekgijpfaaGreatDoor
