/- The law LutmapMakes: the tables that gates are made are just what the document says, of any gates. · The card ties the row of columns. -/
import Derived.Test.YtaajnmggbhnndaaGreatDoorZOpenN
import Derived.Test.YtaajnmggbhnndaaGreatDoorZLive25
import Derived.Test.YtaajnmggbhnndaaGreatDoorZR25Y
import Derived.Test.YtaajnmggbhnndaaGreatDoorZR25M
import Derived.Test.YtaajnmggbhnndaaGreatDoorZR25F
namespace Go.Proofs.YtaajnmggbhnndaaGreatDoor
open Go.ChangeShapes Go.WideShapes Go.ChangeAt Go.RowKit Go.Joins
set_option linter.unusedVariables false
set_option linter.unusedSimpArgs false
/-- the net without anything -/
def NT.zero : NT := ⟨0, none, 0, [], none, 0, [], none, 0, []⟩
theorem NT.zero_in (w : World) : NT.zero.In w := ⟨by exact Rd.empty, ⟨by exact Rd.empty, fun l hl => by cases hl⟩, by exact Rd.empty⟩
set_option maxRecDepth 100000 in
set_option maxHeartbeats 4000000 in
theorem lutmapMakes_walk (G : AG) (k : Int) (w : World) (hin : G.In w) (hwf : G.wf) (hcols : COLS w) :
    Calls Tryz.prog 3 #[.agg #[.int .i64 G.I, .slice G.AF G.fl.length G.cF, .slice G.AA G.an.length G.cA, .slice G.AO G.ou.length G.cO], .int .i64 k] w fun e w' => e = .returned (.bool true) ∧ Below w.heap.size w w' := by
  have X0 := Lib.hid (Blk.made w 26 #[.int .i64 G.I, .slice G.AF G.fl.length G.cF, .slice G.AA G.an.length G.cA, .slice G.AO G.ou.length G.cO])
  have Q0 := Lib.hid (below_new w (.cells #[.int .i64 G.I, .slice G.AF G.fl.length G.cF, .slice G.AA G.an.length G.cA, .slice G.AO G.ou.length G.cO] 26))
  have HIN := Lib.hid hin
  have HWF := Lib.hid hwf
  have HC := Lib.hid hcols
  clear hin hwf hcols
  have HF := Lib.hid (fewGates25_any G)
  go_enter Tryz.func3, Tryz.ntmps3
  go_wp2_with fail
  refine (live25_any _ (HC.out.below Q0.out)).mono ?_
  rintro e1 w1 ⟨rfl, hb1⟩
  have Q1 := Lib.hid (below_then Q0.out hb1)
  have X1 := Lib.hid (X0.out.keep hb1)
  clear hb1
  have k0 := X1.out.cell 0
  have k1 := X1.out.cell 1
  have k2 := X1.out.cell 2
  have k3 := X1.out.cell 3
  go_wp2_with fail
  refine (HF.out _).mono ?_
  rintro e1 w2 ⟨rfl, hb2⟩
  have Q2 := Lib.hid (below_then Q1.out hb2)
  have X2 := Lib.hid (X1.out.keep hb2)
  clear hb2 k0 k1 k2 k3 X1 HF
  by_cases hs : fewG25 G
  case neg =>
    rw [show decide (fewG25 G) = false from decide_eq_false hs]
    go_wp2_with fail
    go_ret
    exact ⟨rfl, Q2.out⟩
  rw [show decide (fewG25 G) = true from decide_eq_true hs]
  have HS := Lib.hid hs
  clear hs
  have k0 := X2.out.cell 0
  have k1 := X2.out.cell 1
  have k2 := X2.out.cell 2
  have k3 := X2.out.cell 3
  go_wp2_with fail
  refine (lmap25_any G k w2 (HIN.out.later Q2.out) HS.out HWF.out (HC.out.below Q2.out)).mono ?_
  rintro e1 w4 ⟨hy, hn⟩
  have hnet : ∃ N : NT, e1 = .returned (.tuple #[.agg #[.int .i64 N.I, .slice N.AH N.hs.length N.cH, .slice N.AL N.ls.length N.cL, .slice N.AO N.ou.length N.cO], .int .i64 (G.errM k)]) ∧ Below w2.heap.size w2 w4 ∧ N.In w4 ∧ (G.errM k = 0 → N.IsMap G k) ∧ (G.errM k ≠ 0 → N = NT.zero) := by
    by_cases he : G.errM k = 0
    · obtain ⟨N, h1, h2, h3, h4⟩ := hy he
      exact ⟨N, by rw [he]; exact h1, h2, h3, fun _ => h4, fun h => absurd he h⟩
    · obtain ⟨h1, h2⟩ := hn he
      exact ⟨NT.zero, h1, h2, NT.zero_in _, fun h => absurd h he, fun _ => rfl⟩
  obtain ⟨N, rfl, hb4, hNin, hmap, hz⟩ := hnet
  have Q4 := Lib.hid (below_then Q2.out hb4)
  have X4 := Lib.hid (X2.out.keep hb4)
  have b5 := below_new w4 (.cells #[.int .i64 N.I, .slice N.AH N.hs.length N.cH, .slice N.AL N.ls.length N.cL, .slice N.AO N.ou.length N.cO] 32)
  have Q5 := Lib.hid (below_then Q4.out b5)
  have X5 := Lib.hid (X4.out.keep b5)
  have N5 := Lib.hid (Blk.made w4 32 #[.int .i64 N.I, .slice N.AH N.hs.length N.cH, .slice N.AL N.ls.length N.cL, .slice N.AO N.ou.length N.cO])
  have HN5 := Lib.hid (hNin.later b5)
  have KM := Lib.hid (rmap25_any G k _ (HIN.out.later Q5.out) HS.out)
  have HZ := Lib.hid hz
  have HMAP := Lib.hid hmap
  clear hy hn hb4 hNin hmap hz b5 k0 k1 k2 k3
  have k0 := X5.out.cell 0
  have k1 := X5.out.cell 1
  have k2 := X5.out.cell 2
  have k3 := X5.out.cell 3
  go_wp2_with fail
  refine KM.out.mono ?_
  rintro e1 w6 ⟨hy, hn⟩
  generalize w4.alloc (.cells #[.int .i64 N.I, .slice N.AH N.hs.length N.cH, .slice N.AL N.ls.length N.cL, .slice N.AO N.ou.length N.cO] 32) = w5 at Q5 X5 N5 HN5 KM hy hn k0 k1 k2 k3 ⊢
  have hnet : ∃ K : NT, e1 = .returned (.tuple #[.agg #[.int .i64 K.I, .slice K.AH K.hs.length K.cH, .slice K.AL K.ls.length K.cL, .slice K.AO K.ou.length K.cO], .int .i64 (G.errM k)]) ∧ Below w5.heap.size w5 w6 ∧ K.In w6 ∧ (G.errM k = 0 → K.IsMap G k) ∧ (G.errM k ≠ 0 → K = NT.zero) := by
    by_cases he : G.errM k = 0
    · obtain ⟨N, h1, h2, h3, h4⟩ := hy he
      exact ⟨N, by rw [he]; exact h1, h2, h3, fun _ => h4, fun h => absurd he h⟩
    · obtain ⟨h1, h2⟩ := hn he
      exact ⟨NT.zero, h1, h2, NT.zero_in _, fun h => absurd h he, fun _ => rfl⟩
  obtain ⟨K, rfl, hb6, hKin, hmapK, hzK⟩ := hnet
  have b7 := below_new w6 (.cells #[.int .i64 K.I, .slice K.AH K.hs.length K.cH, .slice K.AL K.ls.length K.cL, .slice K.AO K.ou.length K.cO] 32)
  have Q7 := Lib.hid (below_then (below_then Q5.out hb6) b7)
  have N7 := Lib.hid ((N5.out.keep hb6).keep b7)
  have M7 := Lib.hid (Blk.made w6 32 #[.int .i64 K.I, .slice K.AH K.hs.length K.cH, .slice K.AL K.ls.length K.cL, .slice K.AO K.ou.length K.cO])
  have hsame : K.I = N.I ∧ K.hs = N.hs ∧ N.luts = K.luts ∧ K.ou = N.ou ∧ N.hs.length ≤ 1000000 ∧ N.ls.length ≤ 1000000 ∧ N.ou.length ≤ 1000000 ∧ ∀ c ∈ N.ls, c.1.2.2.length ≤ 1000000 := by
    by_cases he : G.errM k = 0
    · have h1 := HMAP.out he
      have h2 := hmapK he
      obtain ⟨hmm, hfit⟩ := errM_zero HS.out he
      have hf := h1.fit hmm HS.out hfit
      exact ⟨h2.i.trans h1.i.symm, h2.hs.trans h1.hs.symm, h1.ls.trans h2.ls.symm, h2.ou.trans h1.ou.symm, by have := hf.hs; omega, by have := hf.ls; omega, by have := hf.ou; omega, fun c hc => by have := hf.li c hc; omega⟩
    · rw [HZ.out he, hzK he]
      exact ⟨rfl, rfl, rfl, rfl, by decide, by decide, by decide, fun c hc => by cases hc⟩
  obtain ⟨s1, s2, s3, s4, s5, s6, s7, s8⟩ := hsame
  have KS := Lib.hid (rsame25_yes N K _ ((HN5.out.later hb6).later b7) (hKin.later b7) s1 s2 s3 s4 s5 s6 s7 s8)
  clear s1 s2 s3 s4 s5 s6 s7 s8 hy hn hb6 hKin hmapK hzK b7 k0 k1 k2 k3 KM
  have k0 := N7.out.cell 0
  have k1 := N7.out.cell 1
  have k2 := N7.out.cell 2
  have k3 := N7.out.cell 3
  generalize G.errM k = e6 at HZ HMAP ⊢
  go_wp2_with fail
  refine KS.out.mono ?_
  rintro e1 w8 ⟨rfl, hb8⟩
  have Q8 := Lib.hid (below_then Q7.out hb8)
  clear hb8 KS k0 k1 k2 k3
  have he6 : (e6 == e6) = true := beq_self_eq_true _
  go_wp2_with fail
  go_ret
  exact ⟨rfl, Q8.out⟩

set_option maxRecDepth 100000 in
theorem lutmapMakes_lifted (os : Os) (started : os.Started) (H : Type) (enc : TypeId × Value → H) :
    ReturnsInHanded {} Tryz.checked os 3 .any (fun w args => (Rows.lutmapMakesSpec.pre enc Tryz.prog Tryz.f3 [] false w args ∧ laidMetH Tryz.prog laidC w) ∧ sizedMet enc Tryz.prog Tryz.f3 (OpenSpec.ofChange Rows.lutmapMakesSpec) false w args)
      (Rows.lutmapMakesSpec.post enc Tryz.prog Tryz.f3 false true false false) := by
  have hr : ∀ t ∈ Tryz.f3.params.toList, Tryz.prog.readableRec t = true ∧ t < Tryz.prog.types.size := by
    have h : Tryz.f3.params.toList.all (fun t => Tryz.prog.readableRec t && decide (t < Tryz.prog.types.size)) = true := by kernel_rfl
    intro t ht
    simpa using List.all_eq_true.1 h t ht
  refine returnsInHanded_of_change_and (C := Tryz.checked) (X := fun w _ => laidMetH Tryz.prog laidC w) (fun _ _ _ hh h => h.of_heap hh) own started (by kernel_rfl) Tryz.func3
    (ChangeSpec.witness_shaped (enc := enc) (C := Tryz.checked) (os := os) (X := fun w _ => laidMetH Tryz.prog laidC w) false (World.doorLaid Tryz.prog 400 os) #[.agg #[.int .i64 0, .slice none 0 0, .slice none 0 0, .slice none 0 0], .int .i64 0] 8 rfl (World.shaped_of_RefB (by kernel_rfl) (by kernel_rfl)) (by kernel_rfl) (by kernel_rfl) (by kernel_rfl) (door_met os _)) ?_
  intro W base args ds gs before hval0 hW _ _ hL _
  have hcols := cols_of_laid hL
  have hval : ∀ (j : Nat) t v, Tryz.f3.params[j]? = some t → args[j]? = some v → Value.okWide Tryz.prog W .any base t v := hval0
  have hW' := hW
  obtain ⟨p, q, hA0, hV, rfl, hfz, hnd⟩ := hW
  have hA1 : DataW.TrodAll enc Tryz.prog W 0 (fun _ => true) true Tryz.f3.params.toList args.toList ds p := hA0
  have hA := hA1
  rw [Tryz.params3] at hA hval
  obtain ⟨v0, vs0, d0, ds0, p0, q0, hargs, rfl, rfl, h0, r0⟩ := trodAll_cons hA
  obtain ⟨v1, vs1, d1, ds1, p1, q1, rfl, rfl, rfl, h1, r1⟩ := trodAll_cons r0
  obtain ⟨rfl, rfl, rfl⟩ := trodAll_nil r1
  obtain rfl : args = #[v0, v1] := by cases args; simp_all
  obtain ⟨rfl, rfl⟩ := trodVars_none hV
  obtain ⟨G0, rfl, hin0, hwf0⟩ := open_aig (hval 0 26 v0 rfl rfl) h0
  obtain ⟨a1, rfl, rfl, rfl, w1⟩ := open_int Tryz.underlying3 (hval 1 3 v1 rfl rfl) h1
  clear hA0 hval0
  simp only [List.append_nil] at hW' hA1
  refine (lutmapMakes_walk G0 a1 W hin0 hwf0 hcols).mono fun e W' ⟨he, hb⟩ => ?_
  subst he
  exact ⟨_, rfl, law_post laidOut hr rfl hW' hA1 rfl rfl Tryz.underlying4 hb⟩

theorem lutmapMakes_over : Rows.lutmapMakesRow.holds Tryz.pinned (OpenSpec.ofChange Rows.lutmapMakesSpec) :=
  OpenClaim.holds_of_wide 3 Tryz.f3 rfl rfl rfl rfl rfl rfl rfl ⟨rfl, rfl, rfl, rfl, rfl⟩ rfl rfl rfl rfl rfl (by kernel_rfl) Tryz.func3 (by kernel_rfl)
    (of_decide_eq_true (by kernel_rfl)) (by unfold Func.isWrapper; first | (rw [if_pos (by decide +kernel)]; kernel_rfl) | (rw [if_neg (by decide +kernel)]; exact ⟨rfl, rfl⟩))
    (fun os started H enc _ => lutmapMakes_lifted os started H enc)

/-- the card -/
theorem lutmapMakesCard_holds : Rows.LutmapMakesCardSaid :=
  Claim7.holds_tied_plain_at .later [] [.data] true Rows.lutmapMakesCard.stood.harness false
    lutmapMakes_over (fun _ h => by cases h) (by kernel_rfl) (fun _ h => by cases h) lutmapMakes_row_tie rfl ⟨rfl, rfl⟩ (by kernel_rfl) rfl
    (fun f fn hf hfn => by
      obtain rfl : f = 3 := Option.some.inj ((show Tryz.prog.funcNamed "filigree/filigreelaw25.LutmapMakes" = some 3 by kernel_rfl).symm.trans hf) |>.symm
      obtain rfl : fn = Tryz.f3 := (Option.some.inj (Tryz.func3.symm.trans hfn)).symm
      exact ⟨by kernel_rfl, fun j t ht => by
        have hall : (Tryz.f3.params.toList.all fun u => !Tryz.prog.wantsStandIn u) = true := by kernel_rfl
        have hm : t ∈ Tryz.f3.params.toList := by
          have := Array.mem_of_getElem? ht
          simpa using this
        exact (show Tryz.prog.wantsStandIn t = false by simpa using List.all_eq_true.1 hall t hm)⟩)
    (by kernel_rfl)
#print axioms lutmapMakesCard_holds
end Go.Proofs.YtaajnmggbhnndaaGreatDoor
