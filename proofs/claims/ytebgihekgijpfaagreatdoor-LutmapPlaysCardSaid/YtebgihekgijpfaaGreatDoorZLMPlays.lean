/- The law LutmapPlays: what a net tells of any inputs, and keeps, is just what the document says. · The card ties the row of columns. -/
import Derived.Test.YtebgihekgijpfaaGreatDoorZOpenN
import Derived.Test.YtebgihekgijpfaaGreatDoorZLive25
import Derived.Test.YtebgihekgijpfaaGreatDoorZR25W
import Derived.Test.YtebgihekgijpfaaGreatDoorZR25E
namespace Go.Proofs.YtebgihekgijpfaaGreatDoor
open Go.ChangeShapes Go.WideShapes Go.ChangeAt Go.RowKit Go.Joins
set_option linter.unusedVariables false
set_option linter.unusedSimpArgs false
theorem nodesV_len {N : NT} (hf : N.fit) (ins st : List Bool) : (N.nodesV ins st).length ≤ 1000000 ∧ (N.evO ins st).length ≤ 1000000 ∧ (N.evN ins st).length ≤ 1000000 := by
  by_cases h : N.nodesE ins st = 0
  · obtain ⟨h1, h2, h3⟩ := nodesV_yes h
    obtain ⟨hm, hi, hs⟩ := NT.nodes_yes h
    have hsm := hm.small hf
    have := hf.hs
    have := hf.ls
    have := hf.ou
    rw [h1, h2, h3, nvTo_len]
    unfold pickB
    rw [List.length_map, List.length_map, List.length_map]
    omega
  · obtain ⟨h1, h2, h3⟩ := nodesV_no h
    rw [h1, h2, h3]
    simp
set_option maxRecDepth 100000 in
set_option maxHeartbeats 4000000 in
theorem lutmapPlays_walk (N : NT) (A : Option Addr) (c : Nat) (ins : List Bool) (B : Option Addr) (d : Nat) (st : List Bool) (w : World) (hin : N.In w) (hwf : N.wf) (ha : Rd w 1 A ins.length c (bools ins)) (hb : Rd w 1 B st.length d (bools st)) (hcols : COLS w) :
    Calls Tryz.prog 5 #[.agg #[.int .i64 N.I, .slice N.AH N.hs.length N.cH, .slice N.AL N.ls.length N.cL, .slice N.AO N.ou.length N.cO], .slice A ins.length c, .slice B st.length d] w fun e w' => e = .returned (.bool true) ∧ Below w.heap.size w w' := by
  have HA := Lib.hid ha
  have HB := Lib.hid hb
  clear ha hb
  have X0 := Lib.hid (Blk.made w 32 #[.int .i64 N.I, .slice N.AH N.hs.length N.cH, .slice N.AL N.ls.length N.cL, .slice N.AO N.ou.length N.cO])
  have Q0 := Lib.hid (below_new w (.cells #[.int .i64 N.I, .slice N.AH N.hs.length N.cH, .slice N.AL N.ls.length N.cL, .slice N.AO N.ou.length N.cO] 32))
  have HIN := Lib.hid hin
  have HWF := Lib.hid hwf
  have HC := Lib.hid hcols
  clear hin hwf hcols
  go_enter Tryz.func5, Tryz.ntmps5
  go_wp2_with fail
  refine (live25_any _ (HC.out.below Q0.out)).mono ?_
  rintro e1 w1 ⟨rfl, hb1⟩
  have Q1 := Lib.hid (below_then Q0.out hb1)
  have X1 := Lib.hid (X0.out.keep hb1)
  clear hb1
  have k0 := X1.out.cell 0
  have k1 := X1.out.cell 1
  have k2 := X1.out.cell 2
  have k3 := X1.out.cell 3
  go_wp2_with fail
  refine (few25_any N w1 (HIN.out.later Q1.out)).mono ?_
  rintro e1 w2 ⟨b, rfl, hfew, hb2⟩
  have Q2 := Lib.hid (below_then Q1.out hb2)
  have X2 := Lib.hid (X1.out.keep hb2)
  clear hb2 k0 k1 k2 k3
  cases b
  case false =>
    clear hfew
    go_wp2_with fail
    go_ret
    exact ⟨rfl, Q2.out⟩
  have HS := Lib.hid (fewN_fit (hfew rfl))
  clear hfew
  by_cases h1 : ins.length ≤ 400
  case neg =>
    have h1' : (400 : Int) < (ins.length : Int) := by omega
    generalize ins.length = n1 at *
    generalize st.length = n2 at *
    go_wp2_with fail
    go_ret
    exact ⟨rfl, Q2.out⟩
  have h1' : ¬ (400 : Int) < (ins.length : Int) := by omega
  by_cases h2 : st.length ≤ 400
  case neg =>
    have h2' : (400 : Int) < (st.length : Int) := by omega
    generalize ins.length = n1 at *
    generalize st.length = n2 at *
    go_wp2_with fail
    go_ret
    exact ⟨rfl, Q2.out⟩
  have h2' : ¬ (400 : Int) < (st.length : Int) := by omega
  obtain ⟨n1, hn1⟩ : ∃ n, ins.length = n := ⟨_, rfl⟩
  obtain ⟨n2, hn2⟩ : ∃ n, st.length = n := ⟨_, rfl⟩
  have K1 := Lib.hid (fun (W : World) (h : Below w.heap.size w W) => lnodes_any N A B c d ins st W (HIN.out.later h) HS.out HWF.out (HA.out.later h) (HB.out.later h))
  have K2 := Lib.hid (fun (W : World) (h : Below w.heap.size w W) => rnodes25_any N A B c d ins st W (HIN.out.later h) HS.out HWF.out (HA.out.later h) (HB.out.later h))
  have K3 := Lib.hid (fun (W : World) (h : Below w.heap.size w W) => leval_any N A B c d ins st W (HIN.out.later h) HS.out HWF.out (HA.out.later h) (HB.out.later h))
  have K4 := Lib.hid (fun (W : World) (h : Below w.heap.size w W) => reval25_any N A B c d ins st W (HIN.out.later h) HS.out HWF.out (HA.out.later h) (HB.out.later h))
  unfold NodesOut at K1 K2
  unfold EvalOut at K3 K4
  obtain ⟨hv1, hv2, hv3⟩ := nodesV_len HS.out ins st
  rw [hn1, hn2] at K1 K2 K3 K4
  rw [hn1] at h1' ⊢
  rw [hn2] at h2' ⊢
  generalize N.nodesE ins st = e6 at K1 K2 K3 K4
  generalize N.nodesV ins st = V at K1 K2 hv1
  generalize N.evO ins st = O at K3 K4 hv2
  generalize N.evN ins st = M at K3 K4 hv3
  obtain ⟨v, hv⟩ : ∃ n, V.length = n := ⟨_, rfl⟩
  obtain ⟨o, ho⟩ : ∃ n, O.length = n := ⟨_, rfl⟩
  obtain ⟨m, hm⟩ : ∃ n, M.length = n := ⟨_, rfl⟩
  rw [hv] at K1 K2 hv1
  rw [ho] at K3 K4 hv2
  rw [hm] at K3 K4 hv3
  clear h1 h2 hn1 hn2 hv ho hm HA HB
  have k0 := X2.out.cell 0
  have k1 := X2.out.cell 1
  have k2 := X2.out.cell 2
  have k3 := X2.out.cell 3
  go_wp2_with fail
  refine (K1.out w2 Q2.out).mono ?_
  rintro e1 w3 ⟨A3, c3, rfl, hb3, hr3⟩
  have Q3 := Lib.hid (below_then Q2.out hb3)
  have X3 := Lib.hid (X2.out.keep hb3)
  have V3 := Lib.hid hr3
  clear hb3 hr3 k0 k1 k2 k3
  have k0 := X3.out.cell 0
  have k1 := X3.out.cell 1
  have k2 := X3.out.cell 2
  have k3 := X3.out.cell 3
  go_wp2_with fail
  refine (K2.out w3 Q3.out).mono ?_
  rintro e1 w4 ⟨A4, c4, rfl, hb4, hr4⟩
  have Q4 := Lib.hid (below_then Q3.out hb4)
  have X4 := Lib.hid (X3.out.keep hb4)
  have V4 := Lib.hid (V3.out.later hb4)
  have U4 := Lib.hid hr4
  clear hb4 hr4 k0 k1 k2 k3
  have k0 := X4.out.cell 0
  have k1 := X4.out.cell 1
  have k2 := X4.out.cell 2
  have k3 := X4.out.cell 3
  go_wp2_with fail
  refine (K3.out w4 Q4.out).mono ?_
  rintro e1 w5 ⟨A5, c5, B5, d5, rfl, hb5, hr5, hs5⟩
  have Q5 := Lib.hid (below_then Q4.out hb5)
  have X5 := Lib.hid (X4.out.keep hb5)
  have V5 := Lib.hid (V4.out.later hb5)
  have U5 := Lib.hid (U4.out.later hb5)
  have R5 := Lib.hid hr5
  have S5 := Lib.hid hs5
  clear hb5 hr5 hs5 k0 k1 k2 k3
  have k0 := X5.out.cell 0
  have k1 := X5.out.cell 1
  have k2 := X5.out.cell 2
  have k3 := X5.out.cell 3
  go_wp2_with fail
  refine (K4.out w5 Q5.out).mono ?_
  rintro e1 w6 ⟨A6, c6, B6, d6, rfl, hb6, hr6, hs6⟩
  have Q6 := Lib.hid (below_then Q5.out hb6)
  have V6 := Lib.hid (V5.out.later hb6)
  have U6 := Lib.hid (U5.out.later hb6)
  have R6 := Lib.hid (R5.out.later hb6)
  have S6 := Lib.hid (S5.out.later hb6)
  have T6 := Lib.hid hr6
  have Y6 := Lib.hid hs6
  clear hb6 hr6 hs6 k0 k1 k2 k3
  have J := Lib.hid (bools25_yes A3 A4 v c3 c4 V w6 V6.out U6.out hv1)
  go_wp2_with fail
  refine J.out.mono ?_
  rintro e1 w7 ⟨rfl, hb7⟩
  have Q7 := Lib.hid (below_then Q6.out hb7)
  have S7 := Lib.hid (S6.out.later hb7)
  have Y7 := Lib.hid (Y6.out.later hb7)
  have J2 := Lib.hid (bools25_yes A5 A6 o c5 c6 O w7 (R6.out.later hb7) (T6.out.later hb7) hv2)
  clear hb7 J
  go_wp2_with fail
  refine J2.out.mono ?_
  rintro e1 w8 ⟨rfl, hb8⟩
  have Q8 := Lib.hid (below_then Q7.out hb8)
  have J3 := Lib.hid (bools25_yes B5 B6 m d5 d6 M w8 (S7.out.later hb8) (Y7.out.later hb8) hv3)
  clear hb8 J2
  go_wp2_with fail
  refine J3.out.mono ?_
  rintro e1 w9 ⟨rfl, hb9⟩
  have Q9 := Lib.hid (below_then Q8.out hb9)
  clear hb9 J3
  have he6 : (e6 == e6) = true := beq_self_eq_true _
  go_wp2_with fail
  go_ret
  exact ⟨rfl, Q9.out⟩

set_option maxRecDepth 100000 in
theorem lutmapPlays_lifted (os : Os) (started : os.Started) (H : Type) (enc : TypeId × Value → H) :
    ReturnsInHanded {} Tryz.checked os 5 .any (fun w args => (Rows.lutmapPlaysSpec.pre enc Tryz.prog Tryz.f5 [] false w args ∧ laidMetH Tryz.prog laidC w) ∧ sizedMet enc Tryz.prog Tryz.f5 (OpenSpec.ofChange Rows.lutmapPlaysSpec) false w args)
      (Rows.lutmapPlaysSpec.post enc Tryz.prog Tryz.f5 false true false false) := by
  have hr : ∀ t ∈ Tryz.f5.params.toList, Tryz.prog.readableRec t = true ∧ t < Tryz.prog.types.size := by
    have h : Tryz.f5.params.toList.all (fun t => Tryz.prog.readableRec t && decide (t < Tryz.prog.types.size)) = true := by kernel_rfl
    intro t ht
    simpa using List.all_eq_true.1 h t ht
  refine returnsInHanded_of_change_and (C := Tryz.checked) (X := fun w _ => laidMetH Tryz.prog laidC w) (fun _ _ _ hh h => h.of_heap hh) own started (by kernel_rfl) Tryz.func5
    (ChangeSpec.witness_shaped (enc := enc) (C := Tryz.checked) (os := os) (X := fun w _ => laidMetH Tryz.prog laidC w) false (World.doorLaid Tryz.prog 400 os) #[.agg #[.int .i64 0, .slice none 0 0, .slice none 0 0, .slice none 0 0], .slice none 0 0, .slice none 0 0] 8 rfl (World.shaped_of_RefB (by kernel_rfl) (by kernel_rfl)) (by kernel_rfl) (by kernel_rfl) (by kernel_rfl) (door_met os _)) ?_
  intro W base args ds gs before hval0 hW _ _ hL _
  have hcols := cols_of_laid hL
  have hval : ∀ (j : Nat) t v, Tryz.f5.params[j]? = some t → args[j]? = some v → Value.okWide Tryz.prog W .any base t v := hval0
  have hW' := hW
  obtain ⟨p, q, hA0, hV, rfl, hfz, hnd⟩ := hW
  have hA1 : DataW.TrodAll enc Tryz.prog W 0 (fun _ => true) true Tryz.f5.params.toList args.toList ds p := hA0
  have hA := hA1
  rw [Tryz.params5] at hA hval
  obtain ⟨v0, vs0, d0, ds0, p0, q0, hargs, rfl, rfl, h0, r0⟩ := trodAll_cons hA
  obtain ⟨v1, vs1, d1, ds1, p1, q1, rfl, rfl, rfl, h1, r1⟩ := trodAll_cons r0
  obtain ⟨v2, vs2, d2, ds2, p2, q2, rfl, rfl, rfl, h2, r2⟩ := trodAll_cons r1
  obtain ⟨rfl, rfl, rfl⟩ := trodAll_nil r2
  obtain rfl : args = #[v0, v1, v2] := by cases args; simp_all
  obtain ⟨rfl, rfl⟩ := trodVars_none hV
  obtain ⟨N0, rfl, hin0, hwf0⟩ := open_net (hval 0 32 v0 rfl rfl) h0
  obtain ⟨A1, c1, l1, rfl, hr1⟩ := open_bits (hval 1 44 v1 rfl rfl) h1
  obtain ⟨A2, c2, l2, rfl, hr2⟩ := open_bits (hval 2 44 v2 rfl rfl) h2
  clear hA0 hval0
  simp only [List.append_nil] at hW' hA1
  refine (lutmapPlays_walk N0 A1 c1 l1 A2 c2 l2 W hin0 hwf0 hr1 hr2 hcols).mono fun e W' ⟨he, hb⟩ => ?_
  subst he
  exact ⟨_, rfl, law_post laidOut hr rfl hW' hA1 rfl rfl Tryz.underlying4 hb⟩

theorem lutmapPlays_over : Rows.lutmapPlaysRow.holds Tryz.pinned (OpenSpec.ofChange Rows.lutmapPlaysSpec) :=
  OpenClaim.holds_of_wide 5 Tryz.f5 rfl rfl rfl rfl rfl rfl rfl ⟨rfl, rfl, rfl, rfl, rfl⟩ rfl rfl rfl rfl rfl (by kernel_rfl) Tryz.func5 (by kernel_rfl)
    (of_decide_eq_true (by kernel_rfl)) (by unfold Func.isWrapper; first | (rw [if_pos (by decide +kernel)]; kernel_rfl) | (rw [if_neg (by decide +kernel)]; exact ⟨rfl, rfl⟩))
    (fun os started H enc _ => lutmapPlays_lifted os started H enc)

/-- the card -/
theorem lutmapPlaysCard_holds : Rows.LutmapPlaysCardSaid :=
  Claim7.holds_tied_plain_at .later [] [.data] true Rows.lutmapPlaysCard.stood.harness false
    lutmapPlays_over (fun _ h => by cases h) (by kernel_rfl) (fun _ h => by cases h) lutmapPlays_row_tie rfl ⟨rfl, rfl⟩ (by kernel_rfl) rfl
    (fun f fn hf hfn => by
      obtain rfl : f = 5 := Option.some.inj ((show Tryz.prog.funcNamed "filigree/filigreelaw25.LutmapPlays" = some 5 by kernel_rfl).symm.trans hf) |>.symm
      obtain rfl : fn = Tryz.f5 := (Option.some.inj (Tryz.func5.symm.trans hfn)).symm
      exact ⟨by kernel_rfl, fun j t ht => by
        have hall : (Tryz.f5.params.toList.all fun u => !Tryz.prog.wantsStandIn u) = true := by kernel_rfl
        have hm : t ∈ Tryz.f5.params.toList := by
          have := Array.mem_of_getElem? ht
          simpa using this
        exact (show Tryz.prog.wantsStandIn t = false by simpa using List.all_eq_true.1 hall t hm)⟩)
    (by kernel_rfl)
#print axioms lutmapPlaysCard_holds
end Go.Proofs.YtebgihekgijpfaaGreatDoor
