/- The law ChipJoins: which nodes are joined, and who drives them, of any configuration, is what the document says. For every configuration; no condition. -/
import Derived.Test.YtfclfhgnfjmofaaFrame
import Derived.Test.YtfclfhgnfjmofaaLWhat
import Derived.Test.YtfclfhgnfjmofaaOpen
import Derived.Test.YtfclfhgnfjmofaaLive32
import Derived.Test.YtfclfhgnfjmofaaR32J
import Derived.Test.YtfclfhgnfjmofaaSame
namespace Go.Proofs.Ytfclfhgnfjmofaa
open Go.ChangeShapes Go.WideShapes Go.ChangeAt Go.RowKit Go.Joins
set_option linter.unusedVariables false
set_option linter.unusedSimpArgs false

/-- a list, an error, as answers -/
def PairOut (L : List Int) (x : Int) (w : World) (e : Ending) (w' : World) : Prop :=
  ∃ A c, e = .returned (.tuple #[.slice A L.length c, .int .i64 x]) ∧ Below w.heap.size w w' ∧ Rd w' 1 A L.length c (ints L)
noncomputable def jL (C : Cfg) : List Int := if C.ok then labI C else []
def jE (C : Cfg) : Int := if C.ok then 0 else 1
noncomputable def dL (C : Cfg) : List Int := if C.ok ∧ (labs C).Nodup then driversL C else []
def dE (C : Cfg) : Int := if C.ok then (if (labs C).Nodup then 0 else 320) else 1
theorem pair_none {x : Int} {w w' : World} (hb : Below w.heap.size w w') : PairOut [] x w (.returned (.tuple #[.slice none 0 0, .int .i64 x])) w' := ⟨none, 0, rfl, hb, Rd.empty⟩
theorem joined_pair (C : Cfg) (w : World) (hin : C.In w) (hf : C.few) : JND C w (PairOut (jL C) (jE C) w) := by
  unfold jL jE
  by_cases h : C.ok
  · rw [if_pos h, if_pos h]
    refine Calls.mono (joined_yes C w hin hf h) fun e w' hd => ?_
    obtain ⟨g, N, rfl, hN, hg, hb, ho⟩ := hd
    rw [← labI_ints] at ho
    have hl : (labI C).length = N := by have := ho.1; rw [ints_length] at this; omega
    exact ⟨_, N, by rw [hl], hb, by rw [hl]; exact Rd.of_own ho⟩
  · rw [if_neg h, if_neg h]
    refine Calls.mono (joined_no C w hin hf h) fun e w' hd => ?_
    obtain ⟨rfl, hb⟩ := hd
    exact pair_none hb
theorem rjoined_pair (C : Cfg) (w : World) (hin : C.In w) (hf : C.few) : RJND C w (PairOut (jL C) (jE C) w) := by
  unfold jL jE
  by_cases h : C.ok
  · rw [if_pos h, if_pos h]
    refine Calls.mono (rjoined_yes C w hin hf h) fun e w' hd => ?_
    obtain ⟨g, N, rfl, hN, hg, hb, ho⟩ := hd
    rw [← labI_ints] at ho
    have hl : (labI C).length = N := by have := ho.1; rw [ints_length] at this; omega
    exact ⟨_, N, by rw [hl], hb, by rw [hl]; exact Rd.of_own ho⟩
  · rw [if_neg h, if_neg h]
    refine Calls.mono (rjoined_no C w hin hf h) fun e w' hd => ?_
    obtain ⟨rfl, hb⟩ := hd
    exact pair_none hb
theorem drivers_pair (C : Cfg) (w : World) (hin : C.In w) (hf : C.few) : DRV C w (PairOut (dL C) (dE C) w) := by
  unfold dL dE
  by_cases h : C.ok
  · rw [if_pos h]
    refine Calls.mono (drivers_yes C w hin hf h) fun e w' hd => ?_
    obtain ⟨hb, h1, h2⟩ := hd
    by_cases hn : (labs C).Nodup
    · rw [if_pos ⟨h, hn⟩, if_pos hn]
      obtain ⟨g, N, rfl, -, -, ho⟩ := h2 hn
      have hl : (driversL C).length = N := by have := ho.1; rw [ints_length] at this; omega
      exact ⟨_, N, by rw [hl], hb, by rw [hl]; exact Rd.of_own ho⟩
    · rw [if_neg (fun x => hn x.2), if_neg hn]
      obtain rfl := h1 hn
      exact pair_none hb
  · rw [if_neg (fun x => h x.1), if_neg h]
    refine Calls.mono (drivers_no C w hin hf h) fun e w' hd => ?_
    obtain ⟨rfl, hb⟩ := hd
    exact pair_none hb
theorem rdrivers_pair (C : Cfg) (w : World) (hin : C.In w) (hf : C.few) : RDRV C w (PairOut (dL C) (dE C) w) := by
  unfold dL dE
  by_cases h : C.ok
  · rw [if_pos h]
    refine Calls.mono (rdrivers_yes C w hin hf h) fun e w' hd => ?_
    obtain ⟨hb, h1, h2⟩ := hd
    by_cases hn : (labs C).Nodup
    · rw [if_pos ⟨h, hn⟩, if_pos hn]
      obtain ⟨A, c, rfl, ho⟩ := h2 hn
      exact ⟨A, c, rfl, hb, Rd.of_own ho⟩
    · rw [if_neg (fun x => hn x.2), if_neg hn]
      obtain rfl := h1 hn
      exact pair_none hb
  · rw [if_neg (fun x => h x.1), if_neg h]
    refine Calls.mono (rdrivers_no C w hin hf h) fun e w' hd => ?_
    obtain ⟨rfl, hb⟩ := hd
    exact pair_none hb
theorem jL_len (C : Cfg) : (jL C).length ≤ 100000000 := by
  unfold jL
  by_cases h : C.ok
  · rw [if_pos h]
    have := nodes_bd h.1
    simp only [labI, List.length_map, joinedL, List.length_range]
    omega
  · rw [if_neg h]; simp
theorem dL_len (C : Cfg) : (dL C).length ≤ 100000000 := by
  unfold dL
  by_cases h : C.ok ∧ (labs C).Nodup
  · rw [if_pos h]
    have := nodes_bd h.1.1
    simp only [driversL, List.length_map, joinedL, List.length_range]
    omega
  · rw [if_neg h]; simp

set_option maxRecDepth 100000 in
set_option maxHeartbeats 1000000 in
theorem chipJoins_large (C : Cfg) (w : World) (hin : C.In w) (hs : ¬ few32 C) :
    Calls Try.prog 3 #[.agg #[.int .i64 C.W, .int .i64 C.H, .int .i64 C.T, .slice C.AT C.tiles.length C.cT, .slice C.AO C.on.length C.cO, .slice C.AI C.ins.length C.cI, .slice C.AU C.outs.length C.cU]] w fun e w' => e = .returned (.bool true) ∧ Below w.heap.size w w' := by
  have Q0 := below_new w (.cells #[.int .i64 C.W, .int .i64 C.H, .int .i64 C.T, .slice C.AT C.tiles.length C.cT, .slice C.AO C.on.length C.cO, .slice C.AI C.ins.length C.cI, .slice C.AU C.outs.length C.cU] 28)
  have B0 := Box7.new w C 28
  go_enter Try.func3, Try.ntmps3
  go_wp2_with fail
  refine (live32_any _).mono ?_
  rintro e w1 ⟨rfl, hb1⟩
  have Q1 := below_then Q0 hb1
  have B1 := Box7.below B0 hb1
  clear hb1
  obtain ⟨z1, k10, k11, k12, k13, k14, k15, k16⟩ := id B1
  go_wp2_with fail
  refine (few32_no _ _ hs).mono ?_
  rintro e w2 ⟨rfl, hb2⟩
  have Q2 := below_then Q1 hb2
  clear hb2
  go_wp2_with fail
  go_ret
  exact ⟨rfl, Q2⟩

set_option maxRecDepth 100000 in
set_option maxHeartbeats 4000000 in
theorem chipJoins_few (C : Cfg) (w : World) (hin : C.In w) (hs : few32 C) :
    Calls Try.prog 3 #[.agg #[.int .i64 C.W, .int .i64 C.H, .int .i64 C.T, .slice C.AT C.tiles.length C.cT, .slice C.AO C.on.length C.cO, .slice C.AI C.ins.length C.cI, .slice C.AU C.outs.length C.cU]] w fun e w' => e = .returned (.bool true) ∧ Below w.heap.size w w' := by
  have hf := few32_few hs
  have h1 := fun (w' : World) (hb : Below w.heap.size w w') => joined_pair C w' (hin.later hb) hf
  have h2 := fun (w' : World) (hb : Below w.heap.size w w') => rjoined_pair C w' (hin.later hb) hf
  have h3 := fun (w' : World) (hb : Below w.heap.size w w') => drivers_pair C w' (hin.later hb) hf
  have h4 := fun (w' : World) (hb : Below w.heap.size w w') => rdrivers_pair C w' (hin.later hb) hf
  simp only [JND] at h1
  simp only [RJND] at h2
  simp only [DRV] at h3
  simp only [RDRV] at h4
  have H1 := Lib.hid h1
  have H2 := Lib.hid h2
  have H3 := Lib.hid h3
  have H4 := Lib.hid h4
  have hjl := jL_len C
  have hdl := dL_len C
  have Q0 := below_new w (.cells #[.int .i64 C.W, .int .i64 C.H, .int .i64 C.T, .slice C.AT C.tiles.length C.cT, .slice C.AO C.on.length C.cO, .slice C.AI C.ins.length C.cI, .slice C.AU C.outs.length C.cU] 28)
  have B0 := Box7.new w C 28
  clear h1 h2 h3 h4 hin hf
  go_enter Try.func3, Try.ntmps3
  go_wp2_with fail
  refine (live32_any _).mono ?_
  rintro e w1 ⟨rfl, hb1⟩
  have Q1 := below_then Q0 hb1
  have B1 := Box7.below B0 hb1
  clear hb1
  obtain ⟨z1, k10, k11, k12, k13, k14, k15, k16⟩ := id B1
  go_wp2_with fail
  refine (few32_yes _ _ hs).mono ?_
  rintro e w2 ⟨rfl, hb2⟩
  have Q2 := below_then Q1 hb2
  have B2 := Box7.below B1 hb2
  clear hb2 z1 k10 k11 k12 k13 k14 k15 k16
  obtain ⟨z2, k20, k21, k22, k23, k24, k25, k26⟩ := id B2
  go_wp2_with fail
  refine (H1.out _ Q2).mono ?_
  rintro e w3 ⟨A3, c3, rfl, hb3, R3⟩
  have Q3 := below_then Q2 hb3
  have B3 := Box7.below B2 hb3
  clear hb3 z2 k20 k21 k22 k23 k24 k25 k26 H1
  obtain ⟨z3, k30, k31, k32, k33, k34, k35, k36⟩ := id B3
  go_wp2_with fail
  refine (H2.out _ Q3).mono ?_
  rintro e w4 ⟨A4, c4, rfl, hb4, R4⟩
  have Q4 := below_then Q3 hb4
  have B4 := Box7.below B3 hb4
  have R3 := R3.later hb4
  clear hb4 z3 k30 k31 k32 k33 k34 k35 k36 H2
  obtain ⟨z4, k40, k41, k42, k43, k44, k45, k46⟩ := id B4
  go_wp2_with fail
  refine (H3.out _ Q4).mono ?_
  rintro e w5 ⟨A5, c5, rfl, hb5, R5⟩
  have Q5 := below_then Q4 hb5
  have B5 := Box7.below B4 hb5
  have R3 := R3.later hb5
  have R4 := R4.later hb5
  clear hb5 z4 k40 k41 k42 k43 k44 k45 k46 H3
  obtain ⟨z5, k50, k51, k52, k53, k54, k55, k56⟩ := id B5
  go_wp2_with fail
  refine (H4.out _ Q5).mono ?_
  rintro e w6 ⟨A6, c6, rfl, hb6, R6⟩
  have Q6 := Lib.hid (below_then Q5 hb6)
  have R3 := Lib.hid (R3.later hb6)
  have R4 := Lib.hid (R4.later hb6)
  have R5 := Lib.hid (R5.later hb6)
  have R6 := Lib.hid R6
  clear hb6 z5 k50 k51 k52 k53 k54 k55 k56 H4 B0 B1 B2 B3 B4 B5 Q0 Q1 Q2 Q3 Q4 Q5
  generalize jL C = X at R3 R4 hjl ⊢
  generalize dL C = Y at R5 R6 hdl ⊢
  generalize jE C = xe
  generalize dE C = ye
  go_wp2_with fail
  refine (sameInts_yes _ _ _ _ _ _ _ R3.out R4.out hjl).mono ?_
  rintro e w7 ⟨rfl, hb7⟩
  have Q7 := Lib.hid (below_then Q6.out hb7)
  have R5 := Lib.hid (R5.out.later hb7)
  have R6 := Lib.hid (R6.out.later hb7)
  clear hb7
  go_wp2_with fail
  refine (sameInts_yes _ _ _ _ _ _ _ R5.out R6.out hdl).mono ?_
  rintro e w8 ⟨rfl, hb8⟩
  have Q8 := Lib.hid (below_then Q7.out hb8)
  clear hb8
  go_wp2_with fail
  go_ret
  exact ⟨rfl, Q8.out⟩

theorem chipJoins_walk (C : Cfg) (w : World) (hin : C.In w) (hwf : C.wf) :
    Calls Try.prog 3 #[.agg #[.int .i64 C.W, .int .i64 C.H, .int .i64 C.T, .slice C.AT C.tiles.length C.cT, .slice C.AO C.on.length C.cO, .slice C.AI C.ins.length C.cI, .slice C.AU C.outs.length C.cU]] w fun e w' => e = .returned (.bool true) ∧ Below w.heap.size w w' := by
  by_cases hs : few32 C
  · exact chipJoins_few C w hin hs
  · exact chipJoins_large C w hin hs

set_option maxRecDepth 100000 in
theorem chipJoins_lifted (os : Os) (started : os.Started) (H : Type) (enc : TypeId × Value → H) :
    ReturnsInHanded {} Try.checked os 3 .any (Rows.chipJoinsSpec.pre6 enc Try.prog Try.f3 Rows.chipJoinsRow.domain false) (Rows.chipJoinsSpec.post enc Try.prog Try.f3 false true false false) := by
  have hr : ∀ t ∈ Try.f3.params.toList, Try.prog.readableRec t = true ∧ t < Try.prog.types.size := by
    have h : Try.f3.params.toList.all (fun t => Try.prog.readableRec t && decide (t < Try.prog.types.size)) = true := by kernel_rfl
    intro t ht
    simpa using List.all_eq_true.1 h t ht
  refine returnsInHanded_of_change (C := Try.checked) own started (by kernel_rfl) Try.func3
    (ChangeSpec.witness6 (enc := enc) (C := Try.checked) false ⟨#[], #[.agg #[.int .i64 0, .int .i64 0, .int .i64 0, .slice none 0 0, .slice none 0 0, .slice none 0 0, .slice none 0 0]], []⟩ 8 (by kernel_rfl) (by kernel_rfl) (by kernel_rfl) (by kernel_rfl)) ?_
  intro W base args ds gs before hval0 hW hcnd _
  have hval : ∀ (j : Nat) t v, Try.f3.params[j]? = some t → args[j]? = some v → Value.okWide Try.prog W .any base t v := hval0
  have hW' := hW
  obtain ⟨p, q, hA0, hV, rfl, hfz, hnd⟩ := hW
  have hA1 : DataW.TrodAll enc Try.prog W 0 (fun _ => true) true Try.f3.params.toList args.toList ds p := hA0
  have hA := hA1
  rw [Try.params3] at hA hval
  obtain ⟨v0, vs0, d0, ds0, p0, q0, hargs, rfl, rfl, h0, r0⟩ := trodAll_cons hA
  obtain ⟨rfl, rfl, rfl⟩ := trodAll_nil r0
  obtain rfl : args = #[v0] := by cases args; simp_all
  obtain ⟨rfl, rfl⟩ := trodVars_none hV
  obtain ⟨C0, rfl, hin0, hwf0⟩ := open_cfg (hval 0 28 v0 rfl rfl) h0
  clear hA0 hval0
  simp only [List.append_nil] at hW'
  simp only [List.append_nil] at hA1
  refine (chipJoins_walk C0 W hin0 hwf0).mono fun e W' ⟨he, hb⟩ => ?_
  subst he
  exact ⟨_, rfl, law_post laidOut hr rfl hW' hA1 rfl rfl Try.underlying4 hb⟩

theorem chipJoins_over : Rows.chipJoinsRow.holds Try.pinned (OpenSpec.ofChange Rows.chipJoinsSpec) :=
  OpenClaim.holds_of_wide 3 Try.f3 rfl rfl rfl rfl rfl rfl rfl ⟨rfl, rfl, rfl, rfl, rfl⟩ rfl rfl rfl rfl rfl (by kernel_rfl) Try.func3 (by kernel_rfl)
    (of_decide_eq_true (by kernel_rfl)) (by unfold Func.isWrapper; first | (rw [if_pos (by decide +kernel)]; kernel_rfl) | (rw [if_neg (by decide +kernel)]; exact ⟨rfl, rfl⟩))
    (fun os started H enc _ => chipJoins_lifted os started H enc)

theorem chipJoins_holds : Rows.ChipJoinsSaid := chipJoins_over
#print axioms chipJoins_holds
end Go.Proofs.Ytfclfhgnfjmofaa
