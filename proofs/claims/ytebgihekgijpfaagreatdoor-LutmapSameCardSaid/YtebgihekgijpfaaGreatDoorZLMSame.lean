/- The law LutmapSame: tables tell, tick by tick, what the gates tell of which they are made. · The card ties the row of columns. -/
import Derived.Test.YtebgihekgijpfaaGreatDoorZOpenN
import Derived.Test.YtebgihekgijpfaaGreatDoorZLive25
import Derived.Test.YtebgihekgijpfaaGreatDoorZMapB
import Derived.Test.YtebgihekgijpfaaGreatDoorZARun
import Derived.Test.YtebgihekgijpfaaGreatDoorZR25M
namespace Go.Proofs.YtebgihekgijpfaaGreatDoor
open Go.ChangeShapes Go.WideShapes Go.ChangeAt Go.RowKit Go.Joins
set_option linter.unusedVariables false
set_option linter.unusedSimpArgs false
theorem arunV_len {G : AG} (hf : G.fit) (rows : List (List Bool)) (hr : rows.length ≤ 1000) : (G.runV rows).length ≤ 1000000 ∧ ∀ r ∈ G.runV rows, r.length ≤ 1000000 := by
  unfold AG.runV
  split
  · unfold AG.outA
    refine ⟨by rw [List.length_map, List.length_range]; omega, fun r hr => ?_⟩
    obtain ⟨j, -, rfl⟩ := List.mem_map.1 hr
    unfold AG.evO
    rw [List.length_map]
    have := hf.o
    omega
  · simp
set_option maxRecDepth 100000 in
set_option maxHeartbeats 4000000 in
theorem lutmapSame_walk (G : AG) (k : Int) (A : Option Addr) (c : Nat) (rs : List SB) (w : World) (hin : G.In w) (hwf : G.wf) (hr : RowsB w A c rs) (hcols : COLS w) :
    Calls Tryz.prog 7 #[.agg #[.int .i64 G.I, .slice G.AF G.fl.length G.cF, .slice G.AA G.an.length G.cA, .slice G.AO G.ou.length G.cO], .int .i64 k, .slice A rs.length c] w fun e w' => e = .returned (.bool true) ∧ Below w.heap.size w w' := by
  have HR := Lib.hid hr
  obtain ⟨m, hm⟩ : ∃ m, rs.length = m := ⟨_, rfl⟩
  have HM := Lib.hid hm
  rw [hm]
  clear hr hm
  have X0 := Lib.hid (Blk.made w 26 #[.int .i64 G.I, .slice G.AF G.fl.length G.cF, .slice G.AA G.an.length G.cA, .slice G.AO G.ou.length G.cO])
  have Q0 := Lib.hid (below_new w (.cells #[.int .i64 G.I, .slice G.AF G.fl.length G.cF, .slice G.AA G.an.length G.cA, .slice G.AO G.ou.length G.cO] 26))
  have HIN := Lib.hid hin
  have HWF := Lib.hid hwf
  have HC := Lib.hid hcols
  clear hin hwf hcols
  have HF := Lib.hid (fewGates25_any G)
  go_enter Tryz.func7, Tryz.ntmps7
  go_wp2_with fail
  refine (live25_any _ (HC.out.below Q0.out)).mono ?_
  rintro e1 w1 ⟨rfl, hb1⟩
  have Q1 := Lib.hid (below_then Q0.out hb1)
  have X1 := Lib.hid (X0.out.keep hb1)
  clear hb1
  have k0 := X1.out.cell 0
  have k1 := X1.out.cell 1
  have k2 := X1.out.cell 2
  have k3 := X1.out.cell 3
  go_wp2_with fail
  refine (HF.out _).mono ?_
  rintro e1 w2 ⟨rfl, hb2⟩
  have Q2 := Lib.hid (below_then Q1.out hb2)
  have X2 := Lib.hid (X1.out.keep hb2)
  clear hb2 k0 k1 k2 k3 X1 HF
  by_cases hs : fewG25 G
  case neg =>
    rw [show decide (fewG25 G) = false from decide_eq_false hs]
    go_wp2_with fail
    go_ret
    exact ⟨rfl, Q2.out⟩
  rw [show decide (fewG25 G) = true from decide_eq_true hs]
  have HS := Lib.hid hs
  clear hs
  have K0 := fewRows25_any A c rs w2 (HR.out.later Q2.out)
  rw [HM.out] at K0
  have K := Lib.hid K0
  clear K0
  by_cases hfr : fewR (rowsP rs)
  case neg =>
    rw [show decide (fewR (rowsP rs)) = false from decide_eq_false hfr] at K
    go_wp2_with fail
    refine K.out.mono ?_
    rintro e1 w3 ⟨rfl, hb3⟩
    have Q3 := Lib.hid (below_then Q2.out hb3)
    clear hb3 K
    go_wp2_with fail
    go_ret
    exact ⟨rfl, Q3.out⟩
  rw [show decide (fewR (rowsP rs)) = true from decide_eq_true hfr] at K
  have HFR := Lib.hid hfr
  clear hfr
  go_wp2_with fail
  refine K.out.mono ?_
  rintro e1 w3 ⟨rfl, hb3⟩
  have Q3 := Lib.hid (below_then Q2.out hb3)
  have X3 := Lib.hid (X2.out.keep hb3)
  clear hb3 K
  have k0 := X3.out.cell 0
  have k1 := X3.out.cell 1
  have k2 := X3.out.cell 2
  have k3 := X3.out.cell 3
  go_wp2_with fail
  refine (lmap25_any G k w3 (HIN.out.later Q3.out) HS.out HWF.out (HC.out.below Q3.out)).mono ?_
  rintro e1 w4 ⟨hy, hn⟩
  by_cases he : G.errM k = 0
  case neg =>
    obtain ⟨rfl, hb4⟩ := hn he
    have Q4 := Lib.hid (below_then Q3.out hb4)
    have X4 := Lib.hid (X3.out.keep hb4)
    have KC := Lib.hid (call25_no G k (w4.alloc (.cells #[.int .i64 0, .slice none 0 0, .slice none 0 0, .slice none 0 0] 32)) (HIN.out.later (below_then Q4.out (below_new _ _))) HS.out HWF.out (HC.out.below (below_then Q4.out (below_new _ _))) he)
    generalize G.errM k = e6 at he KC ⊢
    have hd : (e6 != 0) = true := by rw [bne_iff_ne]; exact he
    clear hy hn hb4 k0 k1 k2 k3
    have X5 := Lib.hid (X4.out.alloc (.cells #[.int .i64 0, .slice none 0 0, .slice none 0 0, .slice none 0 0] 32))
    have k0 := X5.out.cell 0
    have k1 := X5.out.cell 1
    have k2 := X5.out.cell 2
    have k3 := X5.out.cell 3
    have N4 := Lib.hid (Blk.made w4 32 #[.int .i64 0, .slice none 0 0, .slice none 0 0, .slice none 0 0])
    have B4 := Lib.hid (below_then Q4.out (below_new w4 (.cells #[.int .i64 0, .slice none 0 0, .slice none 0 0, .slice none 0 0] 32)))
    go_wp2_with fail
    refine KC.out.mono ?_
    rintro e1 w5 ⟨rfl, hb5⟩
    have Q5 := Lib.hid (below_then B4.out hb5)
    have N5 := Lib.hid (N4.out.keep hb5)
    have j2 := N5.out.cell 2
    have j3 := N5.out.cell 3
    have he6 : (e6 == e6) = true := beq_self_eq_true _
    clear hb5 k0 k1 k2 k3 KC he hd
    go_wp2_with fail
    go_ret
    exact ⟨rfl, Q5.out⟩
  obtain ⟨N, rfl, hb4, hNin, hmap⟩ := hy he
  obtain ⟨hmm, hfit⟩ := errM_zero HS.out he
  have Q4 := Lib.hid (below_then Q3.out hb4)
  have X4 := Lib.hid (X3.out.keep hb4)
  have b5 := below_new w4 (.cells #[.int .i64 N.I, .slice N.AH N.hs.length N.cH, .slice N.AL N.ls.length N.cL, .slice N.AO N.ou.length N.cO] 32)
  have Q5 := Lib.hid (below_then Q4.out b5)
  have X5 := Lib.hid (X4.out.keep b5)
  have N5 := Lib.hid (Blk.made w4 32 #[.int .i64 N.I, .slice N.AH N.hs.length N.cH, .slice N.AL N.ls.length N.cL, .slice N.AO N.ou.length N.cO])
  have HN5 := Lib.hid (hNin.later b5)
  have hrl : rs.length ≤ 1000 := by have h := HFR.out.1; rw [rowsP_len] at h; omega
  have hrr : ∀ l ∈ rs, l.2.2.length ≤ 100000 := fun l hl => by have := HFR.out.2 _ (List.mem_map.2 ⟨l, hl, rfl⟩); omega
  obtain ⟨hE, hV⟩ := hmap.runs hmm hfit (rowsP rs)
  obtain ⟨hv1, hv2⟩ := arunV_len hfit (rowsP rs) (by rw [rowsP_len]; exact hrl)
  have K1 := fun (W : World) (h : Below w.heap.size w W) => arun_any G A c rs W (HIN.out.later h) hfit HWF.out hmm.1 (HR.out.later h) hrl
  have K2 := fun (W : World) (h : Below w.heap.size w W) (hN : N.In W) => lrun_any N A c rs W hN (hmap.fit hmm HS.out hfit) (hmap.wf hmm HS.out hfit) (HR.out.later h) hrl hrr
  unfold ARunOut at K1
  unfold RunOut at K2
  rw [HM.out] at K1 K2
  rw [hE, hV] at K2
  have HK1 := Lib.hid K1
  have HK2 := Lib.hid K2
  clear K1 K2 hrl hrr hE hV hy hn hb4 hNin hmap hmm hfit b5 k0 k1 k2 k3 he
  generalize G.runE (rowsP rs) = e6 at HK1 HK2
  generalize G.runV (rowsP rs) = V at HK1 HK2 hv1 hv2
  have k0 := X5.out.cell 0
  have k1 := X5.out.cell 1
  have k2 := X5.out.cell 2
  have k3 := X5.out.cell 3
  go_wp2_with fail
  refine (HK1.out _ Q5.out).mono ?_
  rintro e1 w6 ⟨A6, c6, l6, rfl, hb6, hr6, hp6⟩
  have Q6 := Lib.hid (below_then Q5.out hb6)
  have N6 := Lib.hid (N5.out.keep hb6)
  have HN6 := Lib.hid (HN5.out.later hb6)
  have V6 := Lib.hid hr6
  have P6 := Lib.hid hp6
  clear hb6 hr6 hp6 k0 k1 k2 k3
  have j0 := N6.out.cell 0
  have j1 := N6.out.cell 1
  have j2 := N6.out.cell 2
  have j3 := N6.out.cell 3
  go_wp2_with fail
  refine (HK2.out w6 Q6.out HN6.out).mono ?_
  rintro e1 w7 ⟨A7, c7, l7, rfl, hb7, hr7, hp7⟩
  have Q7 := Lib.hid (below_then Q6.out hb7)
  have J := Lib.hid (rows25_yes A6 A7 c6 c7 l6 l7 w7 (V6.out.later hb7) hr7 (P6.out.trans hp7.symm) (by rw [← rowsP_len, P6.out]; exact hv1) (fun x hx => hv2 _ (by rw [← P6.out]; exact List.mem_map.2 ⟨x, hx, rfl⟩)))
  clear hb7 hr7 hp7 j0 j1 j2 j3
  go_wp2_with fail
  refine J.out.mono ?_
  rintro e1 w8 ⟨rfl, hb8⟩
  have Q8 := Lib.hid (below_then Q7.out hb8)
  clear hb8 J
  have he6 : (e6 == e6) = true := beq_self_eq_true _
  go_wp2_with fail
  go_ret
  exact ⟨rfl, Q8.out⟩

set_option maxRecDepth 100000 in
theorem lutmapSame_lifted (os : Os) (started : os.Started) (H : Type) (enc : TypeId × Value → H) :
    ReturnsInHanded {} Tryz.checked os 7 .any (fun w args => (Rows.lutmapSameSpec.pre enc Tryz.prog Tryz.f7 [] false w args ∧ laidMetH Tryz.prog laidC w) ∧ sizedMet enc Tryz.prog Tryz.f7 (OpenSpec.ofChange Rows.lutmapSameSpec) false w args)
      (Rows.lutmapSameSpec.post enc Tryz.prog Tryz.f7 false true false false) := by
  have hr : ∀ t ∈ Tryz.f7.params.toList, Tryz.prog.readableRec t = true ∧ t < Tryz.prog.types.size := by
    have h : Tryz.f7.params.toList.all (fun t => Tryz.prog.readableRec t && decide (t < Tryz.prog.types.size)) = true := by kernel_rfl
    intro t ht
    simpa using List.all_eq_true.1 h t ht
  refine returnsInHanded_of_change_and (C := Tryz.checked) (X := fun w _ => laidMetH Tryz.prog laidC w) (fun _ _ _ hh h => h.of_heap hh) own started (by kernel_rfl) Tryz.func7
    (ChangeSpec.witness_shaped (enc := enc) (C := Tryz.checked) (os := os) (X := fun w _ => laidMetH Tryz.prog laidC w) false (World.doorLaid Tryz.prog 400 os) #[.agg #[.int .i64 0, .slice none 0 0, .slice none 0 0, .slice none 0 0], .int .i64 0, .slice none 0 0] 8 rfl (World.shaped_of_RefB (by kernel_rfl) (by kernel_rfl)) (by kernel_rfl) (by kernel_rfl) (by kernel_rfl) (door_met os _)) ?_
  intro W base args ds gs before hval0 hW _ _ hL _
  have hcols := cols_of_laid hL
  have hval : ∀ (j : Nat) t v, Tryz.f7.params[j]? = some t → args[j]? = some v → Value.okWide Tryz.prog W .any base t v := hval0
  have hW' := hW
  obtain ⟨p, q, hA0, hV, rfl, hfz, hnd⟩ := hW
  have hA1 : DataW.TrodAll enc Tryz.prog W 0 (fun _ => true) true Tryz.f7.params.toList args.toList ds p := hA0
  have hA := hA1
  rw [Tryz.params7] at hA hval
  obtain ⟨v0, vs0, d0, ds0, p0, q0, hargs, rfl, rfl, h0, r0⟩ := trodAll_cons hA
  obtain ⟨v1, vs1, d1, ds1, p1, q1, rfl, rfl, rfl, h1, r1⟩ := trodAll_cons r0
  obtain ⟨v2, vs2, d2, ds2, p2, q2, rfl, rfl, rfl, h2, r2⟩ := trodAll_cons r1
  obtain ⟨rfl, rfl, rfl⟩ := trodAll_nil r2
  obtain rfl : args = #[v0, v1, v2] := by cases args; simp_all
  obtain ⟨rfl, rfl⟩ := trodVars_none hV
  obtain ⟨G0, rfl, hin0, hwf0⟩ := open_aig (hval 0 26 v0 rfl rfl) h0
  obtain ⟨a1, rfl, rfl, rfl, w1⟩ := open_int Tryz.underlying3 (hval 1 3 v1 rfl rfl) h1
  obtain ⟨A2, c2, l2, rfl, hr2⟩ := open_rowsB (hval 2 51 v2 rfl rfl) h2
  clear hA0 hval0
  simp only [List.append_nil] at hW' hA1
  refine (lutmapSame_walk G0 a1 A2 c2 l2 W hin0 hwf0 hr2 hcols).mono fun e W' ⟨he, hb⟩ => ?_
  subst he
  exact ⟨_, rfl, law_post laidOut hr rfl hW' hA1 rfl rfl Tryz.underlying4 hb⟩

theorem lutmapSame_over : Rows.lutmapSameRow.holds Tryz.pinned (OpenSpec.ofChange Rows.lutmapSameSpec) :=
  OpenClaim.holds_of_wide 7 Tryz.f7 rfl rfl rfl rfl rfl rfl rfl ⟨rfl, rfl, rfl, rfl, rfl⟩ rfl rfl rfl rfl rfl (by kernel_rfl) Tryz.func7 (by kernel_rfl)
    (of_decide_eq_true (by kernel_rfl)) (by unfold Func.isWrapper; first | (rw [if_pos (by decide +kernel)]; kernel_rfl) | (rw [if_neg (by decide +kernel)]; exact ⟨rfl, rfl⟩))
    (fun os started H enc _ => lutmapSame_lifted os started H enc)

/-- the card -/
theorem lutmapSameCard_holds : Rows.LutmapSameCardSaid :=
  Claim7.holds_tied_plain_at .later [] [.data] true Rows.lutmapSameCard.stood.harness false
    lutmapSame_over (fun _ h => by cases h) (by kernel_rfl) (fun _ h => by cases h) lutmapSame_row_tie rfl ⟨rfl, rfl⟩ (by kernel_rfl) rfl
    (fun f fn hf hfn => by
      obtain rfl : f = 7 := Option.some.inj ((show Tryz.prog.funcNamed "filigree/filigreelaw25.LutmapSame" = some 7 by kernel_rfl).symm.trans hf) |>.symm
      obtain rfl : fn = Tryz.f7 := (Option.some.inj (Tryz.func7.symm.trans hfn)).symm
      exact ⟨by kernel_rfl, fun j t ht => by
        have hall : (Tryz.f7.params.toList.all fun u => !Tryz.prog.wantsStandIn u) = true := by kernel_rfl
        have hm : t ∈ Tryz.f7.params.toList := by
          have := Array.mem_of_getElem? ht
          simpa using this
        exact (show Tryz.prog.wantsStandIn t = false by simpa using List.all_eq_true.1 hall t hm)⟩)
    (by kernel_rfl)
#print axioms lutmapSameCard_holds
end Go.Proofs.YtebgihekgijpfaaGreatDoor
