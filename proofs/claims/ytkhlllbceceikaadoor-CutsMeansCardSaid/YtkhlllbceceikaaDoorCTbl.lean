/- cuts.Table, cuts.Check. -/
import Derived.Test.YtkhlllbceceikaaDoorCTab
namespace Go.Proofs.YtkhlllbceceikaaDoor
open Go.RowKit
set_option linter.unusedVariables false
set_option linter.unusedSimpArgs false

set_option maxRecDepth 100000 in
set_option maxHeartbeats 4000000 in
theorem ctbl_any (G : AG) (A : Option Addr) (c : Nat) (l : List Int) (node : Int) (w : World) (hin : G.In w) (hf : G.fit) (hw : G.wf) (hr : Rd w 1 A l.length c (ints l)) (hl : l.length ≤ 1000000) (hcols : COLS w) :
    Calls Tryd.prog 13 #[.agg #[.int .i64 G.I, .slice G.AF G.fl.length G.cF, .slice G.AA G.an.length G.cA, .slice G.AO G.ou.length G.cO], .int .i64 node, .slice A l.length c] w (TblOut (G.good l node) w) := by
  unfold TblOut
  obtain ⟨o, ho⟩ : ∃ o, G.good l node = o := ⟨_, rfl⟩
  rw [ho]
  have HCH := fun (W : World) (hB : Below w.heap.size w W) => acheck_any G W (hin.later hB) hf hw
  have X0 := Lib.hid (Blk.made w 26 #[.int .i64 G.I, .slice G.AF G.fl.length G.cF, .slice G.AA G.an.length G.cA, .slice G.AO G.ou.length G.cO])
  have B0 := Lib.hid (below_new w (.cells #[.int .i64 G.I, .slice G.AF G.fl.length G.cF, .slice G.AA G.an.length G.cA, .slice G.AO G.ou.length G.cO] 26))
  have HR := Lib.hid hr
  have HO := Lib.hid ho
  clear ho
  by_cases hok : G.ok
  case neg =>
    have ho1 : o = none := by rw [← HO.out]; exact AG.good_no fun h => hok h.1
    subst ho1
    have hE : G.E = 1 := if_neg hok
    rw [hE] at HCH
    have HCH := Lib.hid HCH
    clear hE
    go_enter Tryd.func13, Tryd.ntmps13
    have c0 := X0.out.cell 0
    have c1 := X0.out.cell 1
    have c2 := X0.out.cell 2
    have c3 := X0.out.cell 3
    go_wp2_with fail
    refine (HCH.out _ B0.out).mono ?_
    rintro e w1 ⟨rfl, hb1⟩
    have B1 := Lib.hid (below_then B0.out hb1)
    have X1 := Lib.hid (X0.out.keep hb1)
    clear hb1 c0 c1 c2 c3
    go_wp2_with fail
    go_ret2
    exact ⟨rfl, B1.out⟩
  have hE : G.E = 0 := if_pos hok
  rw [hE] at HCH
  have HCH := Lib.hid HCH
  have HRI := Lib.hid (fun (W : World) (hB : Below w.heap.size w W) => crises_any A c l W (hr.later hB) hl)
  have hct : G.I + (G.fl.length : Int) + (G.an.length : Int) = G.cnt := rfl
  have hcn := hok.cnt
  have hi0 := hok.1
  have hi1 := hf.i
  have hi2 := hf.f
  have hi3 := hf.a
  obtain ⟨ct, hctt⟩ : ∃ c, G.cnt = c := ⟨_, rfl⟩
  rw [hctt] at hct hcn
  have HCT := Lib.hid hctt
  have hok' := Lib.hid hok
  clear hctt hE hok
  by_cases hn0 : node < 0
  · have ho1 : o = none := by rw [← HO.out]; exact AG.good_no fun h => by have := h.2.1; omega
    subst ho1
    go_enter Tryd.func13, Tryd.ntmps13
    have c0 := X0.out.cell 0
    have c1 := X0.out.cell 1
    have c2 := X0.out.cell 2
    have c3 := X0.out.cell 3
    go_wp2_with fail
    refine (HCH.out _ B0.out).mono ?_
    rintro e w1 ⟨rfl, hb1⟩
    have B1 := Lib.hid (below_then B0.out hb1)
    have X1 := Lib.hid (X0.out.keep hb1)
    clear hb1 c0 c1 c2 c3
    have c0 := X1.out.cell 0
    have c1 := X1.out.cell 1
    have c2 := X1.out.cell 2
    have c3 := X1.out.cell 3
    go_wp2_with fail
    go_ret2
    exact ⟨rfl, B1.out⟩
  by_cases hnc : ct < node
  · have ho1 : o = none := by rw [← HO.out]; exact AG.good_no fun h => by have := h.2.2.1; rw [HCT.out] at this; omega
    subst ho1
    go_enter Tryd.func13, Tryd.ntmps13
    have c0 := X0.out.cell 0
    have c1 := X0.out.cell 1
    have c2 := X0.out.cell 2
    have c3 := X0.out.cell 3
    go_wp2_with fail
    refine (HCH.out _ B0.out).mono ?_
    rintro e w1 ⟨rfl, hb1⟩
    have B1 := Lib.hid (below_then B0.out hb1)
    have X1 := Lib.hid (X0.out.keep hb1)
    clear hb1 c0 c1 c2 c3
    have c0 := X1.out.cell 0
    have c1 := X1.out.cell 1
    have c2 := X1.out.cell 2
    have c3 := X1.out.cell 3
    go_wp2_with fail
    go_ret2
    exact ⟨rfl, B1.out⟩
  have hbad : leavesB ct l = false → o = none := fun h => by rw [← HO.out]; exact AG.good_no fun h2 => by have := h2.2.2.2; rw [HCT.out, h] at this; cases this
  have HBAD := Lib.hid hbad
  obtain ⟨n, hnn⟩ : ∃ n, l.length = n := ⟨_, rfl⟩
  have HN := Lib.hid hnn
  rw [hnn] at HR HRI hl ⊢
  clear hbad hnn
  by_cases hl6 : 6 < n
  · have ho1 : o = none := HBAD.out (by unfold leavesB; rw [HN.out]; simp; omega)
    subst ho1
    have hl6' : 6 < (n : Int) := by omega
    go_enter Tryd.func13, Tryd.ntmps13
    have c0 := X0.out.cell 0
    have c1 := X0.out.cell 1
    have c2 := X0.out.cell 2
    have c3 := X0.out.cell 3
    go_wp2_with fail
    refine (HCH.out _ B0.out).mono ?_
    rintro e w1 ⟨rfl, hb1⟩
    have B1 := Lib.hid (below_then B0.out hb1)
    have X1 := Lib.hid (X0.out.keep hb1)
    clear hb1 c0 c1 c2 c3
    have c0 := X1.out.cell 0
    have c1 := X1.out.cell 1
    have c2 := X1.out.cell 2
    have c3 := X1.out.cell 3
    go_wp2_with fail
    go_ret2
    exact ⟨rfl, B1.out⟩
  have hl6' : ¬ 6 < (n : Int) := by omega
  cases hri : decide (Cut.Rises l) with
  | false =>
    have ho1 : o = none := HBAD.out (by unfold leavesB; rw [hri]; simp)
    subst ho1
    rw [hri] at HRI
    go_enter Tryd.func13, Tryd.ntmps13
    have c0 := X0.out.cell 0
    have c1 := X0.out.cell 1
    have c2 := X0.out.cell 2
    have c3 := X0.out.cell 3
    go_wp2_with fail
    refine (HCH.out _ B0.out).mono ?_
    rintro e w1 ⟨rfl, hb1⟩
    have B1 := Lib.hid (below_then B0.out hb1)
    have X1 := Lib.hid (X0.out.keep hb1)
    clear hb1 c0 c1 c2 c3
    have c0 := X1.out.cell 0
    have c1 := X1.out.cell 1
    have c2 := X1.out.cell 2
    have c3 := X1.out.cell 3
    go_wp2_with fail
    refine (HRI.out _ B1.out).mono ?_
    rintro e w2 ⟨rfl, hb2⟩
    have B2 := Lib.hid (below_then B1.out hb2)
    have X2 := Lib.hid (X1.out.keep hb2)
    go_wp2_with fail
    go_ret2
    exact ⟨rfl, B2.out⟩
  | true =>
    rw [hri] at HRI
    have hyes : leavesB ct l = true → Calls Tryd.prog 13 #[.agg #[.int .i64 G.I, .slice G.AF G.fl.length G.cF, .slice G.AA G.an.length G.cA, .slice G.AO G.ou.length G.cO], .int .i64 node, .slice A n c] w fun r w' => r = .returned (.tuple #[.int .u64 (optV o : Int), .int .i64 (optE o)]) ∧ Below w.heap.size w w' := fun hle => by
      obtain ⟨nd, hnd⟩ : ∃ nd : Nat, node = (nd : Int) := ⟨node.toNat, by omega⟩
      subst hnd
      have hot : o = G.table l nd := by rw [← HO.out]; exact (AG.good_yes ⟨hok'.out, by omega, by rw [HCT.out]; omega, by rw [HCT.out]; exact hle⟩)
      have hndN : nd < G.cn := by omega
      have htb := fun (W : World) (hB : Below w.heap.size w W) => ctable_any G A c l nd W (hin.later hB) hf hok'.out (hr.later hB) (by rw [HCT.out]; exact hle) hndN (hcols.below hB)
      rw [← hot, HN.out] at htb
      unfold CTabOut at htb
      have HTB := Lib.hid htb
      clear htb hot hri hin hcols hr hw hf
      by_cases hn1 : n = 0
      · subst hn1
        go_enter Tryd.func13, Tryd.ntmps13
        have c0 := X0.out.cell 0
        have c1 := X0.out.cell 1
        have c2 := X0.out.cell 2
        have c3 := X0.out.cell 3
        go_wp2_with fail
        refine (HCH.out _ B0.out).mono ?_
        rintro e w1 ⟨rfl, hb1⟩
        have B1 := Lib.hid (below_then B0.out hb1)
        have X1 := Lib.hid (X0.out.keep hb1)
        clear hb1 c0 c1 c2 c3
        have c0 := X1.out.cell 0
        have c1 := X1.out.cell 1
        have c2 := X1.out.cell 2
        have c3 := X1.out.cell 3
        go_wp2_with fail
        refine (HRI.out _ B1.out).mono ?_
        rintro e w2 ⟨rfl, hb2⟩
        have B2 := Lib.hid (below_then B1.out hb2)
        have X2 := Lib.hid (X1.out.keep hb2)
        clear hb2 c0 c1 c2 c3
        have c0 := X2.out.cell 0
        have c1 := X2.out.cell 1
        have c2 := X2.out.cell 2
        have c3 := X2.out.cell 3
        go_wp2_with fail
        refine (HTB.out _ B2.out).mono ?_
        rintro e w4 ⟨rfl, hb4⟩
        have B4 := Lib.hid (below_then B2.out hb4)
        clear hb4 c0 c1 c2 c3
        cases o with
        | none =>
          have e1 : Option.isSome (none : Option Nat) = false := rfl
          simp only [e1]
          go_wp2_with fail
          go_ret2
          exact ⟨rfl, B4.out⟩
        | some v =>
          have e1 : Option.isSome (some v) = true := rfl
          simp only [e1]
          go_wp2_with fail
          go_ret2
          exact ⟨rfl, B4.out⟩
      have hge : leavesB ct l = true := hle
      unfold leavesB at hge
      rw [HN.out] at hge
      simp only [hn1, decide_false, Bool.false_or, Bool.and_eq_true, decide_eq_true_eq] at hge
      obtain ⟨-, hg1, hg2⟩ := hge
      obtain ⟨pa, hA, hab, d0⟩ := HR.out.int (k := 0) (by omega)
      obtain ⟨pb, hB, hbb, d1⟩ := HR.out.int (k := n - 1) (by omega)
      obtain rfl := Option.some.inj (hA.symm.trans hB)
      subst hA
      clear hB hbb
      generalize l.getD 0 0 = x at d0 hg1
      generalize l.getD (n - 1) 0 = y at d1 hg2
      obtain ⟨k1, hk1⟩ : ∃ k, n - 1 = k := ⟨_, rfl⟩
      have hk2 : (n : Int) - 1 = (k1 : Int) := by omega
      rw [hk1] at d1
      have hn2 : 0 < (n : Int) := by omega
      have hk3 : (k1 : Int) < (n : Int) := by omega
      have hkw : IntKind.i64.wrap (k1 : Int) = (k1 : Int) := IntWalk.i64_in _ (by omega)
      rw [show pa.add 0 = pa from rfl] at d0
      have hg1' : ¬ x < 1 := by omega
      have hg2' : ¬ ct < y := by omega
      go_enter Tryd.func13, Tryd.ntmps13
      have c0 := X0.out.cell 0
      have c1 := X0.out.cell 1
      have c2 := X0.out.cell 2
      have c3 := X0.out.cell 3
      go_wp2_with fail
      refine (HCH.out _ B0.out).mono ?_
      rintro e w1 ⟨rfl, hb1⟩
      have B1 := Lib.hid (below_then B0.out hb1)
      have X1 := Lib.hid (X0.out.keep hb1)
      clear hb1 c0 c1 c2 c3
      have c0 := X1.out.cell 0
      have c1 := X1.out.cell 1
      have c2 := X1.out.cell 2
      have c3 := X1.out.cell 3
      have d0' := (B1.out.cell hab).trans d0
      have d1' := (B1.out.cell (p := pa.add k1) (by rw [add_block]; exact hab)).trans d1
      go_wp2_with fail
      refine (HRI.out _ B1.out).mono ?_
      rintro e w2 ⟨rfl, hb2⟩
      have B2 := Lib.hid (below_then B1.out hb2)
      have X2 := Lib.hid (X1.out.keep hb2)
      clear c0 c1 c2 c3 d0' d1'
      have d0' := (B2.out.cell hab).trans d0
      have d1' := (B2.out.cell (p := pa.add k1) (by rw [add_block]; exact hab)).trans d1
      have c0 := X2.out.cell 0
      have c1 := X2.out.cell 1
      have c2 := X2.out.cell 2
      have c3 := X2.out.cell 3
      go_wp2_with fail
      refine (HTB.out _ B2.out).mono ?_
      rintro e w4 ⟨rfl, hb4⟩
      have B4 := Lib.hid (below_then B2.out hb4)
      clear hb4 c0 c1 c2 c3
      cases o with
      | none =>
        have e1 : Option.isSome (none : Option Nat) = false := rfl
        simp only [e1]
        go_wp2_with fail
        go_ret2
        exact ⟨rfl, B4.out⟩
      | some v =>
        have e1 : Option.isSome (some v) = true := rfl
        simp only [e1]
        go_wp2_with fail
        go_ret2
        exact ⟨rfl, B4.out⟩
    cases hle : leavesB ct l with
    | true => exact hyes hle
    | false =>
      have ho1 : o = none := HBAD.out hle
      subst ho1
      clear hyes
      have hge : leavesB ct l = false := hle
      unfold leavesB at hge
      rw [hri, HN.out] at hge
      simp only [show n ≤ 6 by omega, decide_true, Bool.true_and, Bool.or_eq_false_iff, Bool.and_eq_false_iff, decide_eq_false_iff_not] at hge
      obtain ⟨hn1, hge⟩ := hge
      obtain ⟨pa, hA, hab, d0⟩ := HR.out.int (k := 0) (by omega)
      obtain ⟨pb, hB, hbb, d1⟩ := HR.out.int (k := n - 1) (by omega)
      obtain rfl := Option.some.inj (hA.symm.trans hB)
      subst hA
      clear hB hbb hle
      generalize l.getD 0 0 = x at d0 hge
      generalize l.getD (n - 1) 0 = y at d1 hge
      obtain ⟨k1, hk1⟩ : ∃ k, n - 1 = k := ⟨_, rfl⟩
      have hk2 : (n : Int) - 1 = (k1 : Int) := by omega
      rw [hk1] at d1
      have hn2 : 0 < (n : Int) := by omega
      have hk3 : (k1 : Int) < (n : Int) := by omega
      have hkw : IntKind.i64.wrap (k1 : Int) = (k1 : Int) := IntWalk.i64_in _ (by omega)
      rw [show pa.add 0 = pa from rfl] at d0
      by_cases hx1 : x < 1
      · clear hge
        go_enter Tryd.func13, Tryd.ntmps13
        have c0 := X0.out.cell 0
        have c1 := X0.out.cell 1
        have c2 := X0.out.cell 2
        have c3 := X0.out.cell 3
        go_wp2_with fail
        refine (HCH.out _ B0.out).mono ?_
        rintro e w1 ⟨rfl, hb1⟩
        have B1 := Lib.hid (below_then B0.out hb1)
        have X1 := Lib.hid (X0.out.keep hb1)
        clear hb1 c0 c1 c2 c3
        have c0 := X1.out.cell 0
        have c1 := X1.out.cell 1
        have c2 := X1.out.cell 2
        have c3 := X1.out.cell 3
        have d0' := (B1.out.cell hab).trans d0
        have d1' := (B1.out.cell (p := pa.add k1) (by rw [add_block]; exact hab)).trans d1
        go_wp2_with fail
        refine (HRI.out _ B1.out).mono ?_
        rintro e w2 ⟨rfl, hb2⟩
        have B2 := Lib.hid (below_then B1.out hb2)
        have X2 := Lib.hid (X1.out.keep hb2)
        clear d0' d1'
        have d0' := (B2.out.cell hab).trans d0
        have d1' := (B2.out.cell (p := pa.add k1) (by rw [add_block]; exact hab)).trans d1
        go_wp2_with fail
        go_ret2
        exact ⟨rfl, B2.out⟩
      · have hy1 : ct < y := by omega
        clear hge
        go_enter Tryd.func13, Tryd.ntmps13
        have c0 := X0.out.cell 0
        have c1 := X0.out.cell 1
        have c2 := X0.out.cell 2
        have c3 := X0.out.cell 3
        go_wp2_with fail
        refine (HCH.out _ B0.out).mono ?_
        rintro e w1 ⟨rfl, hb1⟩
        have B1 := Lib.hid (below_then B0.out hb1)
        have X1 := Lib.hid (X0.out.keep hb1)
        clear hb1 c0 c1 c2 c3
        have c0 := X1.out.cell 0
        have c1 := X1.out.cell 1
        have c2 := X1.out.cell 2
        have c3 := X1.out.cell 3
        have d0' := (B1.out.cell hab).trans d0
        have d1' := (B1.out.cell (p := pa.add k1) (by rw [add_block]; exact hab)).trans d1
        go_wp2_with fail
        refine (HRI.out _ B1.out).mono ?_
        rintro e w2 ⟨rfl, hb2⟩
        have B2 := Lib.hid (below_then B1.out hb2)
        have X2 := Lib.hid (X1.out.keep hb2)
        clear d0' d1'
        have d0' := (B2.out.cell hab).trans d0
        have d1' := (B2.out.cell (p := pa.add k1) (by rw [add_block]; exact hab)).trans d1
        go_wp2_with fail
        go_ret2
        exact ⟨rfl, B2.out⟩
end Go.Proofs.YtkhlllbceceikaaDoor
