/- The law LutmapTurns: with one table turned round that table's value is, and none ahead of it. · The card ties the row of columns. -/
import Derived.Test.YtebgihekgijpfaaDoorZOpenN
import Derived.Test.YtebgihekgijpfaaDoorZLive25
import Derived.Test.YtebgihekgijpfaaDoorZR25W
import Derived.Test.YtebgihekgijpfaaDoorZMapT
import Derived.Test.YtebgihekgijpfaaDoorZRGate
import Derived.Laws.BitsAllLaws
namespace Go.Proofs.YtebgihekgijpfaaDoor
open Go.ChangeShapes Go.WideShapes Go.ChangeAt Go.RowKit Go.Joins
set_option linter.unusedVariables false
set_option linter.unusedSimpArgs false
theorem lut_infoT : (Tryd.prog.info? 45).map (fun i => (i.zero, i.size, i.bytes)) = some (some (.agg #[.slice none 0 0, .int .u64 0]), 2, 32) := by kernel_rfl
theorem cutC_oneT (ls : List CT) : ∀ u ∈ cutC ls, u.oneCell' = true := by
  intro u hu
  obtain ⟨c, hc, hu⟩ := List.mem_flatMap.1 hu
  simp at hu
  rcases hu with rfl | rfl <;> rfl
set_option maxRecDepth 100000 in
set_option maxHeartbeats 4000000 in
theorem lutmapTurns_walk (N : NT) (a : Int) (A : Option Addr) (c : Nat) (ins : List Bool) (B : Option Addr) (d : Nat) (st : List Bool) (w : World) (hin : N.In w) (hwf : N.wf) (ha : Rd w 1 A ins.length c (bools ins)) (hb : Rd w 1 B st.length d (bools st)) (hcols : COLS w) :
    Calls Tryd.prog 5 #[.agg #[.int .i64 N.I, .slice N.AH N.hs.length N.cH, .slice N.AL N.ls.length N.cL, .slice N.AO N.ou.length N.cO], .int .i64 a, .slice A ins.length c, .slice B st.length d] w fun e w' => e = .returned (.bool true) ∧ Below w.heap.size w w' := by
  have HA := Lib.hid ha
  have HB := Lib.hid hb
  obtain ⟨n1, hn1⟩ : ∃ n, ins.length = n := ⟨_, rfl⟩
  obtain ⟨n2, hn2⟩ : ∃ n, st.length = n := ⟨_, rfl⟩
  have HN1 := Lib.hid hn1
  have HN2 := Lib.hid hn2
  rw [hn1, hn2]
  clear ha hb hn1 hn2
  have X0 := Lib.hid (Blk.made w 32 #[.int .i64 N.I, .slice N.AH N.hs.length N.cH, .slice N.AL N.ls.length N.cL, .slice N.AO N.ou.length N.cO])
  have Q0 := Lib.hid (below_new w (.cells #[.int .i64 N.I, .slice N.AH N.hs.length N.cH, .slice N.AL N.ls.length N.cL, .slice N.AO N.ou.length N.cO] 32))
  have HIN := Lib.hid hin
  have HWF := Lib.hid hwf
  have HC := Lib.hid hcols
  clear hin hwf hcols
  go_enter Tryd.func5, Tryd.ntmps5
  go_wp2_with fail
  refine (live25_any _ (HC.out.below Q0.out)).mono ?_
  rintro e1 w1 ⟨rfl, hb1⟩
  have Q1 := Lib.hid (below_then Q0.out hb1)
  have X1 := Lib.hid (X0.out.keep hb1)
  clear hb1
  have k0 := X1.out.cell 0
  have k1 := X1.out.cell 1
  have k2 := X1.out.cell 2
  have k3 := X1.out.cell 3
  go_wp2_with fail
  refine (few25_any N w1 (HIN.out.later Q1.out)).mono ?_
  rintro e1 w2 ⟨b, rfl, hfew, hb2⟩
  have Q2 := Lib.hid (below_then Q1.out hb2)
  have X2 := Lib.hid (X1.out.keep hb2)
  clear hb2 k0 k1 k2 k3
  cases b
  case false =>
    clear hfew
    go_wp2_with fail
    go_ret
    exact ⟨rfl, Q2.out⟩
  have HS := Lib.hid (fewN_fit (hfew rfl))
  clear hfew
  by_cases h1 : n1 ≤ 400
  case neg =>
    have h1' : (400 : Int) < (n1 : Int) := by omega
    go_wp2_with fail
    go_ret
    exact ⟨rfl, Q2.out⟩
  have h1' : ¬ (400 : Int) < (n1 : Int) := by omega
  by_cases h2 : n2 ≤ 400
  case neg =>
    have h2' : (400 : Int) < (n2 : Int) := by omega
    go_wp2_with fail
    go_ret
    exact ⟨rfl, Q2.out⟩
  have h2' : ¬ (400 : Int) < (n2 : Int) := by omega
  have K1 := fun (M : NT) (W : World) (hM : M.In W) (hf : M.fit) (hw : M.wf) (h : Below w.heap.size w W) => lnodes_any M A B c d ins st W hM hf hw (HA.out.later h) (HB.out.later h)
  unfold NodesOut at K1
  rw [HN1.out, HN2.out] at K1
  have HK := Lib.hid K1
  clear K1
  have k0 := X2.out.cell 0
  have k1 := X2.out.cell 1
  have k2 := X2.out.cell 2
  have k3 := X2.out.cell 3
  go_wp2_with fail
  refine (HK.out N w2 (HIN.out.later Q2.out) HS.out HWF.out Q2.out).mono ?_
  rintro e1 w3 ⟨A3, c3, rfl, hb3, hr3⟩
  have Q3 := Lib.hid (below_then Q2.out hb3)
  have X3 := Lib.hid (X2.out.keep hb3)
  have V3 := Lib.hid hr3
  clear hb3 hr3 k0 k1 k2 k3
  by_cases he : N.nodesE ins st = 0
  case neg =>
    have hv := (nodesV_no he).1
    rw [hv]
    clear hv V3
    generalize N.nodesE ins st = e6 at he ⊢
    have hd : (e6 != 0) = true := by rw [bne_iff_ne]; exact he
    go_wp2_with fail
    go_ret
    exact ⟨rfl, Q3.out⟩
  obtain ⟨hmay, hi, hs⟩ := NT.nodes_yes he
  have hv := (nodesV_yes he).1
  rw [he]
  rw [hv] at V3 ⊢
  have hsm := hmay.small HS.out
  obtain ⟨I, hI⟩ : ∃ I : Nat, N.I = (I : Int) := ⟨N.I.toNat, by omega⟩
  obtain ⟨h, hh⟩ : ∃ h, N.hs.length = h := ⟨_, rfl⟩
  obtain ⟨nl, hnl⟩ : ∃ nl, N.ls.length = nl := ⟨_, rfl⟩
  obtain ⟨F, hF⟩ : ∃ F : Nat, 1 + n1 + n2 = F := ⟨_, rfl⟩
  have hh3 : h ≤ 1000 := by rw [← hh]; exact HS.out.hs
  have hnl3 : nl ≤ 1000 := by rw [← hnl]; exact HS.out.ls
  have hI1 : I = n1 := by have := HN1.out; omega
  have hh1 : h = n2 := by have := HN2.out; omega
  have hFI : 1 + (I : Int) + (h : Int) = (F : Int) := by omega
  have hVl : (nvTo N.luts ins st N.ls.length).length = F + nl := by rw [nvTo_len, HN1.out, HN2.out, hF, hnl]
  have HVL := Lib.hid hVl
  rw [hVl] at V3 ⊢
  obtain ⟨vl, hvl⟩ : ∃ q, F + nl = q := ⟨_, rfl⟩
  rw [hvl] at V3 ⊢
  have hvli : (F : Int) + (nl : Int) = (vl : Int) := by omega
  by_cases hal : 0 ≤ a ∧ a < (nl : Int)
  case neg =>
    rw [hnl] at X3
    have k2 := X3.out.cell 2
    clear hv he hmay hi hs hsm hVl
    by_cases ha0 : a < 0
    · go_wp2_with fail
      go_ret
      exact ⟨rfl, Q3.out⟩
    · have ha1 : (nl : Int) ≤ a := by omega
      go_wp2_with fail
      go_ret
      exact ⟨rfl, Q3.out⟩
  obtain ⟨p, rfl⟩ : ∃ p : Nat, a = (p : Int) := ⟨a.toNat, by omega⟩
  have hpl : (p : Int) < (nl : Int) := hal.2
  have hpa : p < N.ls.length := by omega
  have hp0 : ¬ (p : Int) < 0 := by omega
  have HNL := Lib.hid hnl
  have HMAY := Lib.hid hmay
  obtain ⟨BL, hBL⟩ : ∃ A, N.AL = A := ⟨_, rfl⟩
  have HBL := Lib.hid hBL
  rw [hI, hh, hnl, hBL] at X3
  have HIH := Lib.hid hI
  have HI1 := Lib.hid hI1
  have HH1 := Lib.hid hh1
  have HHH := Lib.hid hh
  have k0 := X3.out.cell 0
  have k1 := X3.out.cell 1
  have k2 := X3.out.cell 2
  have k3 := X3.out.cell 3
  clear hv he hmay hi hs hsm hVl hal hI hh hnl hBL hI1 hh1 hvl
  go_upto_region 11 with (fail)
  have P4 := Lib.hid (below_new w3 (.cells #[.int .i64 (I : Int), .slice N.AH h N.cH, .slice BL nl N.cL, .slice N.AO N.ou.length N.cO] 32))
  have X4 := Lib.hid (X3.out.keep P4.out)
  have M4 := Lib.hid (Blk.made w3 32 #[.int .i64 (I : Int), .slice N.AH h N.cH, .slice BL nl N.cL, .slice N.AO N.ou.length N.cO])
  clear k0 k1 k2 k3
  generalize w3.alloc (.cells #[.int .i64 (I : Int), .slice N.AH h N.cH, .slice BL nl N.cL, .slice N.AO N.ou.length N.cO] 32) = w4 at P4 X4 M4 ⊢
  have OE := Lib.hid (show (w4.alloc (.cells #[] 45)).ownsRow w4.heap.size 45 2 (.slice (some ⟨w4.heap.size, 0, none⟩) 0 0) 0 [] from World.ownsRow_made (base := w4.heap.size) (e := 45) (size := 2) w4 #[] 0 (by simp) (by unfold maxLen; omega) (by simp))
  have hrl : Rd (w4.alloc (.cells #[] 45)) 2 BL nl N.cL (cutC N.ls) := by
    have h := (HIN.out.ls.row.later (below_then Q3.out P4.out)).later (below_new w4 (.cells #[] 45))
    rw [HNL.out, HBL.out] at h
    exact h
  have RL := Lib.hid hrl
  have k2 := (X4.out.alloc (.cells #[] 45)).cell 2
  have hnl0 : 0 < nl := by omega
  clear hrl
  go_wp2_with (at_builtin; refine wpList_app_row rfl (.tmp 69) (.tmp 71) 30 45 rfl Tryd.underlying30 _ 2 32 lut_infoT rfl (by decide) (by decide) w4.heap.size (some ⟨w4.heap.size, 0, none⟩) 0 0 [] rfl OE.out BL nl N.cL (cutC N.ls) rfl RL.out (cutC_oneT _) (by omega) (by simp) ?_)
  intro A5 c5 w5 hown5' hgr5
  have hown5 : w5.ownsRow w4.heap.size 45 2 (.slice A5 nl c5) nl (cutC N.ls) := by
    have h := hown5'
    first | exact h | (rw [Nat.zero_add, List.nil_append] at h; exact h)
  obtain ⟨g5, rfl, hg51, hg52⟩ := own_some hown5 hnl0
  have hb5 := (below_new w4 (.cells #[] 45)).grown hgr5 (below_new w4 (.cells #[] 45)).size (fun k hk => own_base OE.out hk)
  have M5 := Lib.hid (M4.out.keep hb5)
  have P5 := Lib.hid (below_then P4.out hb5)
  have O5 := Lib.hid hown5
  have m2 := M5.out.cell 2
  have f2 := M5.out.free 2
  have hz34 := P4.out.size
  clear hown5 hown5' hgr5 hb5 k2
  go_upto_region 12 with (fail)
  have hS := Chg.set w5 w3.heap.size 2 (.slice (some ⟨g5, 0, none⟩) nl c5)
  have M6 := Lib.hid (M5.out.put 2 (.slice (some ⟨g5, 0, none⟩) nl c5))
  have P6 := Lib.hid (P5.out.setCell (p := ⟨w3.heap.size, 2, none⟩) (Nat.le_refl _) (.slice (some ⟨g5, 0, none⟩) nl c5))
  have O6 := Lib.hid (hS.own O5.out (fun g e hk => own_other O5.out M5.out (by decide) (by rw [e, hk])))
  clear hS m2 f2
  generalize w5.setCell ⟨w3.heap.size, 2, none⟩ (.slice (some ⟨g5, 0, none⟩) nl c5) = w6 at M6 P6 O6 ⊢
  have hget := cutC_get N.ls p hpa
  have hadd : ∀ i, (⟨g5, 0, none⟩ : Addr).add i = ⟨g5, i, none⟩ := fun i => by rw [Addr.add_lit]; simp
  have e0 := O6.out.cells (g := g5) rfl (p * 2) _ hget.1
  have e1 := O6.out.cells (g := g5) rfl (p * 2 + 1) _ hget.2
  rw [hadd] at e0 e1
  obtain ⟨ha1, hb1, hc1, d0, d1, hsl⟩ := HIN.out.ls.at_ hpa
  have hlut := lutB_len (HMAY.out.ok.1 p hpa)
  have HSET := Lib.hid (fun T => cutC_set N.ls p T hpa)
  obtain ⟨l, hl⟩ : ∃ l, N.ls[p].1 = l := ⟨_, rfl⟩
  obtain ⟨T, hT⟩ : ∃ T, N.ls[p].2 = T := ⟨_, rfl⟩
  have HL := Lib.hid hl
  have HT := Lib.hid hT
  have HSLI := Lib.hid (show SLIn w l by rw [← hl]; exact hsl)
  rw [hl] at e0 hlut HSET
  rw [hT] at e1 hlut
  obtain ⟨q1, q2, q3⟩ := l
  obtain ⟨ql, hql⟩ : ∃ q, q3.length = q := ⟨_, rfl⟩
  have HQL := Lib.hid hql
  simp only [slv] at e0 hlut
  rw [hql] at e0 hlut
  have hq6 : ql ≤ 6 := by omega
  have hT1 : T < 2 ^ 2 ^ ql := hlut.2.1
  have hT64 : T < 18446744073709551616 := by
    have h1 : 2 ^ ql ≤ 2 ^ 6 := Nat.pow_le_pow_right (by decide) hq6
    have h2 : 2 ^ 2 ^ ql ≤ 2 ^ 2 ^ 6 := Nat.pow_le_pow_right (by decide) h1
    have h4 : (2 : Nat) ^ 2 ^ 6 = 18446744073709551616 := by decide
    omega
  have m2 := M6.out.cell 2
  clear ha1 hb1 hc1 d0 d1 hsl hlut hget hl hT hql
  go_upto_if 86 with (fail)
  have P7 := Lib.hid (below_then P6.out (below_new w6 (.cells #[.slice q1 ql q2, .int .u64 (T : Int)] 45)))
  have M7 := Lib.hid (M6.out.alloc (.cells #[.slice q1 ql q2, .int .u64 (T : Int)] 45))
  have O7 := Lib.hid (O6.out.alloc (.cells #[.slice q1 ql q2, .int .u64 (T : Int)] 45))
  have T7 := Lib.hid (Blk.made w6 45 #[.slice q1 ql q2, .int .u64 (T : Int)])
  have t0 := T7.out.cell 0
  clear e0 e1 m2
  generalize w6.alloc (.cells #[.slice q1 ql q2, .int .u64 (T : Int)] 45) = w7 at P7 M7 O7 T7 t0 ⊢
  generalize w6.heap.size = gt at T7 t0 ⊢
  go_cut [15] (fun v15 wx => v15 = .int .u64 (Cut.rows ql : Int) ∧ wx = w7)
  case first =>
    have hq7 : ql = 0 ∨ ql = 1 ∨ ql = 2 ∨ ql = 3 ∨ ql = 4 ∨ ql = 5 ∨ ql = 6 := by omega
    clear hq6 hT1
    rcases hq7 with e | e | e | e | e | e | e
    all_goals
      rw [e] at t0
      clear HQL HSLI HSET
      subst e
      go_wp2_with fail
      go_meet
      case rel => exact ⟨congrArg (Value.int .u64) (by decide), rfl⟩
  case rest =>
    obtain ⟨rfl, rfl⟩ := hcut
    have hand : bits .andNot .u64 (Cut.rows ql : Int) (T : Int) = ((Cut.rows ql ^^^ T : Nat) : Int) := by rw [Go.u64_andNot_nat _ _ (rows_lt ql hq6).1 hT64, rows_andNot hq6 hT1]
    have hT2 : Cut.rows ql ^^^ T < 2 ^ 2 ^ ql := Nat.xor_lt_two_pow (rows_lt ql hq6).2 hT1
    obtain ⟨T2, hTT⟩ : ∃ x, Cut.rows ql ^^^ T = x := ⟨_, rfl⟩
    rw [hTT] at hand hT2
    have HTT := Lib.hid hTT
    have hT264 : T2 < 18446744073709551616 := by
      have h1 : 2 ^ ql ≤ 2 ^ 6 := Nat.pow_le_pow_right (by decide) hq6
      have h2 : 2 ^ 2 ^ ql ≤ 2 ^ 2 ^ 6 := Nat.pow_le_pow_right (by decide) h1
      have h4 : (2 : Nat) ^ 2 ^ 6 = 18446744073709551616 := by decide
      omega
    generalize Cut.rows ql = rw_ at hand ⊢
    have t1 := T7.out.cell 1
    have m2 := M7.out.cell 2
    have hget := cutC_get N.ls p hpa
    have e1 := O7.out.cells (g := g5) rfl (p * 2 + 1) _ hget.2
    rw [hadd] at e1
    have f1 := O7.out.frozenAt (p * 2 + 1)
    have hg5 : w3.heap.size ≠ g5 := by have := M4.out.lt; omega
    have hg5' : w3.heap.size ≤ g5 := by omega
    clear hTT hget t0
    go_upto_region 19 with (fail)
    have ho8 := (O7.out.stored (p * 2 + 1) (.int .u64 (T2 : Int))).1
    rw [HSET.out T2] at ho8
    have O8 := Lib.hid ho8
    have M8 := Lib.hid (M7.out.apart (p := ⟨g5, p * 2 + 1, none⟩) hg5 (.int .u64 (T2 : Int)))
    have P8 := Lib.hid (P7.out.setCell (p := ⟨g5, p * 2 + 1, none⟩) hg5' (.int .u64 (T2 : Int)))
    clear ho8 e1 f1 t1 m2 hand
    generalize wc.setCell ⟨g5, p * 2 + 1, none⟩ (.int .u64 (T2 : Int)) = w8 at O8 M8 P8 ⊢
    have Q8 := Lib.hid (below_then Q3.out P8.out)
    have hl : ((q1, q2, q3) : SL) = N.ls[p].1 := HL.out.symm
    have hlen3 : ((q1, q2, q3) : SL).2.2.length = ql := HQL.out
    have hin' : (N.turn p (q1, q2, q3) T2 (some ⟨g5, 0, none⟩) c5).In w8 := by
      refine ⟨HIN.out.hs.later Q8.out, ⟨?_, fun x hx => ?_⟩, HIN.out.ou.later Q8.out⟩
      · show Rd w8 2 (some ⟨g5, 0, none⟩) (N.ls.set p ((q1, q2, q3), T2)).length c5 _
        rw [List.length_set, HNL.out]
        exact Rd.of_own O8.out
      · rcases List.mem_or_eq_of_mem_set hx with hx | hx
        · exact SLIn.later (HIN.out.ls.all x hx) Q8.out
        · subst hx; exact SLIn.later HSLI.out Q8.out
    have hmay' := NT.turn_may (A := some ⟨g5, 0, none⟩) (c := c5) (T := T2) HMAY.out hpa hl (by rw [hlen3]; exact hT2)
    have hE' : (N.turn p (q1, q2, q3) T2 (some ⟨g5, 0, none⟩) c5).nodesE ins st = 0 := by
      unfold NT.nodesE
      rw [NT.chk_may.2 hmay', if_neg (by simp), if_pos]
      refine ⟨?_, ?_⟩
      · show (ins.length : Int) = N.I
        rw [HN1.out, HIH.out, HI1.out]
      · show st.length = N.hs.length
        rw [HN2.out, HHH.out, HH1.out]
    have K0 := HK.out (N.turn p (q1, q2, q3) T2 (some ⟨g5, 0, none⟩) c5) w8 hin' (NT.turn_fit HS.out hpa hl) (NT.turn_wf HWF.out hpa hl hT264) Q8.out
    rw [(nodesV_yes hE').1, hE', nvTo_len, NT.turn_len, HNL.out, HN1.out, HN2.out] at K0
    have hvals := NT.turn_vals (A := some ⟨g5, 0, none⟩) (c := c5) (ins := ins) (st := st) (F := F) (by rw [HN1.out, HN2.out]; omega) hpa hl (T := T2) (by rw [hlen3, HT.out]; exact HTT.out.symm)
    rw [HNL.out] at hvals
    rw [HNL.out] at V3
    rw [show 1 + n1 + n2 + nl = vl by omega] at K0
    generalize nvTo (N.turn p (q1, q2, q3) T2 (some ⟨g5, 0, none⟩) c5).luts ins st nl = W' at K0 hvals
    generalize nvTo N.luts ins st nl = V at V3 hvals
    have K : Calls Tryd.prog 14 #[.agg #[.int .i64 N.I, .slice N.AH N.hs.length N.cH, .slice (some ⟨g5, 0, none⟩) nl c5, .slice N.AO N.ou.length N.cO], .slice A n1 c, .slice B n2 d] w8 _ := K0
    rw [HIH.out, HHH.out] at K
    have HKK := Lib.hid K
    have HVALS := Lib.hid hvals
    have m0 := M8.out.cell 0
    have m1 := M8.out.cell 1
    have m2 := M8.out.cell 2
    have m3 := M8.out.cell 3
    clear K K0 hvals hE' hmay' hin' hl hlen3
    go_wp2_with fail
    refine HKK.out.mono ?_
    rintro e1 w9 ⟨A9, c9, rfl, hb9, hr9⟩
    have X9 := Lib.hid (X3.out.keep (below_then P8.out hb9))
    have V9 := Lib.hid (V3.out.later (below_then P8.out hb9))
    have Q9 := Lib.hid (below_then Q8.out hb9)
    have R9 := Lib.hid hr9
    have k0 := X9.out.cell 0
    have k1 := X9.out.cell 1
    have k2 := X9.out.cell 2
    have hxv : ((vl : Int) != (vl : Int)) = false := bne_self_eq_false' _
    clear hb9 hr9 m0 m1 m2 m3 HKK
    go_wp2_with fail
    clear k0 k1 k2 hxv
    obtain ⟨fp, hfp⟩ : ∃ q, F + p = q := ⟨_, rfl⟩
    have hfpi : (F : Int) + (p : Int) = (fp : Int) := by omega
    have hfpv : fp < vl := by omega
    go_loopw [19] (fun v19 wx => ∃ i : Nat, i ≤ fp ∧ v19 = .int .i64 (i : Int) ∧ Below w9.heap.size w9 wx) (fun v19 _ => fp - (intOf v19).toNat)
    case atStart => exact ⟨0, by omega, rfl, Below.refl _ _⟩
    case round =>
      obtain ⟨i, hi, rfl, hB⟩ := hrel
      have B1 := Lib.hid hB
      clear hB
      by_cases hin : i < fp
      case pos =>
        have hin' : (i : Int) < (fp : Int) := by omega
        have hiv : (i : Int) < (vl : Int) := by omega
        obtain ⟨pv, hPV, hpvb, d0⟩ := (V9.out.later B1.out).bool (k := i) (by omega)
        obtain ⟨pw, hPW, hpwb, d1⟩ := (R9.out.later B1.out).bool (k := i) (by omega)
        rw [HVALS.out.1 i (by omega)] at d1
        subst hPV
        subst hPW
        generalize V.getD i false = x at d0 d1
        have hxx : (x != x) = false := bne_self_eq_false' _
        go_wp2_with fail
        refine wp_region_still_in (by kernel_rfl) (by kernel_rfl) fun St10 ne10 V10 hV10 hS10 => ?_
        have qd0 := still_cell hV10 d0
        have qd1 := still_cell hV10 d1
        repeat (first | go_big_quiet_step (fail) | quiet_step (fail))
        refine wpQuiet_nil ?_
        intro _ hw10
        obtain ⟨s10, rfl⟩ := hw10
        have hb10 := hV10 s10
        clear qd0 qd1 hS10
        generalize V10 s10 = w10 at hb10 ⊢
        clear hV10 s10 V10 ne10 St10
        have B2 := Lib.hid (below_then B1.out hb10)
        clear hb10 d0 d1
        go_wp2_with fail
        go_roundw
        case rel => exact ⟨i + 1, by omega, by go_num, B2.out⟩
        case measure => simp [intOf]; omega
      obtain rfl : i = fp := by omega
      have hlt : ¬ (i : Int) < (i : Int) := by omega
      have hiv : (i : Int) < (vl : Int) := by omega
      obtain ⟨pv, hPV, hpvb, d0⟩ := (V9.out.later B1.out).bool (k := i) hfpv
      obtain ⟨pw, hPW, hpwb, d1⟩ := (R9.out.later B1.out).bool (k := i) hfpv
      have hv2 := HVALS.out.2
      rw [hfp] at hv2
      rw [hv2] at d1
      subst hPV
      subst hPW
      have QF := Lib.hid (below_then Q9.out B1.out)
      clear hfp hv2
      generalize V.getD i false = x at d0 d1
      cases x
      all_goals
        simp only [Bool.not_true, Bool.not_false] at d1
        go_wp2_with fail
        refine wp_region_still_in (by kernel_rfl) (by kernel_rfl) fun St10 ne10 V10 hV10 hS10 => ?_
        have qd0 := still_cell hV10 d0
        have qd1 := still_cell hV10 d1
        repeat (first | go_big_quiet_step (fail) | quiet_step (fail))
        refine wpQuiet_nil ?_
        intro _ hw10
        obtain ⟨s10, rfl⟩ := hw10
        have hb10 := hV10 s10
        clear qd0 qd1 hS10
        generalize V10 s10 = w10 at hb10 ⊢
        clear hV10 s10 V10 ne10 St10
        have QG := Lib.hid (below_then QF.out hb10)
        clear hb10
        go_wp2_with fail
        go_ret
        exact ⟨rfl, QG.out⟩

set_option maxRecDepth 100000 in
theorem lutmapTurns_lifted (os : Os) (started : os.Started) (H : Type) (enc : TypeId × Value → H) :
    ReturnsInHanded {} Tryd.checked os 5 .any (fun w args => (Rows.lutmapTurnsSpec.pre enc Tryd.prog Tryd.f5 [] false w args ∧ laidMetH Tryd.prog laidC w) ∧ sizedMet enc Tryd.prog Tryd.f5 (OpenSpec.ofChange Rows.lutmapTurnsSpec) false w args)
      (Rows.lutmapTurnsSpec.post enc Tryd.prog Tryd.f5 false true false false) := by
  have hr : ∀ t ∈ Tryd.f5.params.toList, Tryd.prog.readableRec t = true ∧ t < Tryd.prog.types.size := by
    have h : Tryd.f5.params.toList.all (fun t => Tryd.prog.readableRec t && decide (t < Tryd.prog.types.size)) = true := by kernel_rfl
    intro t ht
    simpa using List.all_eq_true.1 h t ht
  refine returnsInHanded_of_change_and (C := Tryd.checked) (X := fun w _ => laidMetH Tryd.prog laidC w) (fun _ _ _ hh h => h.of_heap hh) own started (by kernel_rfl) Tryd.func5
    (ChangeSpec.witness_shaped (enc := enc) (C := Tryd.checked) (os := os) (X := fun w _ => laidMetH Tryd.prog laidC w) false (World.doorLaid Tryd.prog 400 os) #[.agg #[.int .i64 0, .slice none 0 0, .slice none 0 0, .slice none 0 0], .int .i64 0, .slice none 0 0, .slice none 0 0] 8 rfl (World.shaped_of_RefB (by kernel_rfl) (by kernel_rfl)) (by kernel_rfl) (by kernel_rfl) (by kernel_rfl) (door_met os _)) ?_
  intro W base args ds gs before hval0 hW _ _ hL _
  have hcols := cols_of_laid hL
  have hval : ∀ (j : Nat) t v, Tryd.f5.params[j]? = some t → args[j]? = some v → Value.okWide Tryd.prog W .any base t v := hval0
  have hW' := hW
  obtain ⟨p, q, hA0, hV, rfl, hfz, hnd⟩ := hW
  have hA1 : DataW.TrodAll enc Tryd.prog W 0 (fun _ => true) true Tryd.f5.params.toList args.toList ds p := hA0
  have hA := hA1
  rw [Tryd.params5] at hA hval
  obtain ⟨v0, vs0, d0, ds0, p0, q0, hargs, rfl, rfl, h0, r0⟩ := trodAll_cons hA
  obtain ⟨v1, vs1, d1, ds1, p1, q1, rfl, rfl, rfl, h1, r1⟩ := trodAll_cons r0
  obtain ⟨v2, vs2, d2, ds2, p2, q2, rfl, rfl, rfl, h2, r2⟩ := trodAll_cons r1
  obtain ⟨v3, vs3, d3, ds3, p3, q3, rfl, rfl, rfl, h3, r3⟩ := trodAll_cons r2
  obtain ⟨rfl, rfl, rfl⟩ := trodAll_nil r3
  obtain rfl : args = #[v0, v1, v2, v3] := by cases args; simp_all
  obtain ⟨rfl, rfl⟩ := trodVars_none hV
  obtain ⟨N0, rfl, hin0, hwf0⟩ := open_net (hval 0 32 v0 rfl rfl) h0
  obtain ⟨a1, rfl, rfl, rfl, w1⟩ := open_int Tryd.underlying3 (hval 1 3 v1 rfl rfl) h1
  obtain ⟨A2, c2, l2, rfl, hr2⟩ := open_bits (hval 2 42 v2 rfl rfl) h2
  obtain ⟨A3, c3, l3, rfl, hr3⟩ := open_bits (hval 3 42 v3 rfl rfl) h3
  clear hA0 hval0
  simp only [List.append_nil] at hW' hA1
  refine (lutmapTurns_walk N0 a1 A2 c2 l2 A3 c3 l3 W hin0 hwf0 hr2 hr3 hcols).mono fun e W' ⟨he, hb⟩ => ?_
  subst he
  exact ⟨_, rfl, law_post laidOut hr rfl hW' hA1 rfl rfl Tryd.underlying4 hb⟩

theorem lutmapTurns_over : Rows.lutmapTurnsRow.holds Tryd.pinned (OpenSpec.ofChange Rows.lutmapTurnsSpec) :=
  OpenClaim.holds_of_wide 5 Tryd.f5 rfl rfl rfl rfl rfl rfl rfl ⟨rfl, rfl, rfl, rfl, rfl⟩ rfl rfl rfl rfl rfl (by kernel_rfl) Tryd.func5 (by kernel_rfl)
    (of_decide_eq_true (by kernel_rfl)) (by unfold Func.isWrapper; first | (rw [if_pos (by decide +kernel)]; kernel_rfl) | (rw [if_neg (by decide +kernel)]; exact ⟨rfl, rfl⟩))
    (fun os started H enc _ => lutmapTurns_lifted os started H enc)

/-- the card -/
theorem lutmapTurnsCard_holds : Rows.LutmapTurnsCardSaid :=
  Claim7.holds_tied_plain_at .later [] [.data] true Rows.lutmapTurnsCard.stood.harness false
    lutmapTurns_over (fun _ h => by cases h) (by kernel_rfl) (fun _ h => by cases h) lutmapTurns_row_tie rfl ⟨rfl, rfl⟩ (by kernel_rfl) rfl
    (fun f fn hf hfn => by
      obtain rfl : f = 5 := Option.some.inj ((show Tryd.prog.funcNamed "filigree/filigreelaw25.LutmapTurns" = some 5 by kernel_rfl).symm.trans hf) |>.symm
      obtain rfl : fn = Tryd.f5 := (Option.some.inj (Tryd.func5.symm.trans hfn)).symm
      exact ⟨by kernel_rfl, fun j t ht => by
        have hall : (Tryd.f5.params.toList.all fun u => !Tryd.prog.wantsStandIn u) = true := by kernel_rfl
        have hm : t ∈ Tryd.f5.params.toList := by
          have := Array.mem_of_getElem? ht
          simpa using this
        exact (show Tryd.prog.wantsStandIn t = false by simpa using List.all_eq_true.1 hall t hm)⟩)
    (by kernel_rfl)
#print axioms lutmapTurnsCard_holds
end Go.Proofs.YtebgihekgijpfaaDoor
