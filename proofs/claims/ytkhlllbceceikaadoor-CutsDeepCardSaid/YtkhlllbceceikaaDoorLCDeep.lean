/- The law CutsDeep: as deep as the first cut: each gate is one deeper than the deepest leaf of its first cut, no cut of it (but itself alone) is less deep, and it is no deeper than by its gates. · The card ties the row of columns. -/
import Derived.Test.YtkhlllbceceikaaDoorOpenG
import Derived.Test.YtkhlllbceceikaaDoorFew24
import Derived.Test.YtkhlllbceceikaaDoorHelp24
import Derived.Test.YtkhlllbceceikaaDoorPlain24
import Derived.Test.YtkhlllbceceikaaDoorALev
import Derived.Test.YtkhlllbceceikaaDoorLive24
namespace Go.Proofs.YtkhlllbceceikaaDoor
open Go.ChangeShapes Go.WideShapes Go.ChangeAt Go.RowKit Go.Joins
set_option linter.unusedVariables false
set_option linter.unusedSimpArgs false
/-- what the law asks of a node: its row, its depth, its level -/
structure DeepOk (G : AG) (d : List Int) (x : Nat) (r : List PC) (v : Int) : Prop where
  low : x < G.fst → d.getD x 0 = 0
  len : G.fst ≤ x → 2 ≤ r.length ∧ 1 ≤ d.getD x 0 ∧ d.getD x 0 ≤ v ∧ r.length ≤ 9
  cut : G.fst ≤ x → ∀ i (h : i + 1 < r.length), NodesIn d.length (r[i]'(by omega)).1 ∧ (r[i]'(by omega)).1.length ≤ 6 ∧ d.getD x 0 ≤ Cut.deepTo d (r[i]'(by omega)).1 (r[i]'(by omega)).1.length + 1 ∧ (i = 0 → Cut.deepTo d (r[i]'(by omega)).1 (r[i]'(by omega)).1.length + 1 = d.getD x 0)
theorem deepOk {G : AG} {k : Int} (hm : G.ok ∧ 2 ≤ k ∧ k ≤ 6) {x : Nat} (hx : x < G.cn) : DeepOk G (G.bothTo k (G.cn - 1)).2 x (G.rowAt k x) (G.lev x) := by
  have hd : ∀ z, z < G.cn → (G.bothTo k (G.cn - 1)).2.getD z 0 = G.depAt k z := fun z hz => G.depAt_eq k (by omega)
  have hlen : (G.bothTo k (G.cn - 1)).2.length = G.cn := by rw [(G.bothTo_len k _).2]; omega
  refine ⟨fun h => ?_, fun h => ?_, fun h i hi => ?_⟩
  · rw [hd x hx]; exact AG.dep_low h
  · have h1 := AG.row_deep hm hx h (d := (G.bothTo k (G.cn - 1)).2) (fun z hz => hd z (by omega))
    rw [hd x hx]
    exact ⟨h1.1, h1.2.1, AG.depAt_lev hm (fun j => (G.levTo_bound _ j).1) (fun i a b hg => AG.lev_gate hm.1 i a b hg) x hx, (AG.rowOk hm hx).len.2⟩
  · have h1 := (AG.row_deep hm hx h (d := (G.bothTo k (G.cn - 1)).2) (fun z hz => hd z (by omega))).2.2 i hi
    have e : (G.rowAt k x).getD i ([], 0) = (G.rowAt k x)[i]'(by omega) := by rw [List.getD_eq_getElem?_getD, List.getElem?_eq_getElem (by omega)]; rfl
    rw [e] at h1
    have h2 := (AG.rowOk hm hx).lv _ (List.getElem_mem (show i < (G.rowAt k x).length by omega))
    rw [hd x hx, hlen]
    exact ⟨h2.1.mono (by omega), h2.2.2.1, h1.1, h1.2⟩

set_option maxRecDepth 100000 in
set_option maxHeartbeats 4000000 in
theorem cutsDeep_walk (G : AG) (k : Int) (w : World) (hin : G.In w) (hwf : G.wf) (hcols : COLS w) :
    Calls Tryd.prog 9 #[.agg #[.int .i64 G.I, .slice G.AF G.fl.length G.cF, .slice G.AA G.an.length G.cA, .slice G.AO G.ou.length G.cO], .int .i64 k] w fun e w' => e = .returned (.bool true) ∧ Below w.heap.size w w' := by
  have X0 := Lib.hid (Blk.made w 26 #[.int .i64 G.I, .slice G.AF G.fl.length G.cF, .slice G.AA G.an.length G.cA, .slice G.AO G.ou.length G.cO])
  have Q0 := Lib.hid (below_new w (.cells #[.int .i64 G.I, .slice G.AF G.fl.length G.cF, .slice G.AA G.an.length G.cA, .slice G.AO G.ou.length G.cO] 26))
  have HIN := Lib.hid hin
  have HWF := Lib.hid hwf
  have HC := Lib.hid hcols
  clear hin hwf hcols
  have hf0 := few24_any G
  have HF := Lib.hid hf0
  clear hf0
  go_enter Tryd.func9, Tryd.ntmps9
  go_wp2_with fail
  refine (live24_any _ (HC.out.below Q0.out)).mono ?_
  rintro e1 w1 ⟨rfl, hb1⟩
  have Q1 := Lib.hid (below_then Q0.out hb1)
  have X1 := Lib.hid (X0.out.keep hb1)
  clear hb1
  have k0 := X1.out.cell 0
  have k1 := X1.out.cell 1
  have k2 := X1.out.cell 2
  have k3 := X1.out.cell 3
  go_wp2_with fail
  refine (HF.out _).mono ?_
  rintro e1 w2 ⟨rfl, hb2⟩
  have Q2 := Lib.hid (below_then Q1.out hb2)
  have X2 := Lib.hid (X1.out.keep hb2)
  clear hb2 k0 k1 k2 k3 X1
  by_cases hs : few24 G
  case neg =>
    rw [show decide (few24 G) = false from decide_eq_false hs]
    go_wp2_with fail
    go_ret
    exact ⟨rfl, Q2.out⟩
  rw [show decide (few24 G) = true from decide_eq_true hs]
  have HS := Lib.hid hs
  clear hs
  have k0 := X2.out.cell 0
  have k1 := X2.out.cell 1
  have k2 := X2.out.cell 2
  have k3 := X2.out.cell 3
  by_cases hm : G.may k
  case neg =>
    go_wp2_with fail
    refine (call_any G k w2 (HIN.out.later Q2.out) (few24_fit HS.out) HWF.out (HC.out.below Q2.out)).mono ?_
    rintro e1 w3 ⟨-, h3⟩
    obtain ⟨rfl, hb3⟩ := h3 hm
    have Q3 := Lib.hid (below_then Q2.out hb3)
    have X3 := Lib.hid (X2.out.keep hb3)
    clear hb3 h3 k0 k1 k2 k3 X2
    have k0 := X3.out.cell 0
    have k1 := X3.out.cell 1
    have k2 := X3.out.cell 2
    have k3 := X3.out.cell 3
    go_wp2_with fail
    refine (cdepths_any G k w3 (HIN.out.later Q3.out) (few24_fit HS.out) HWF.out (HC.out.below Q3.out)).mono ?_
    rintro e1 w4 ⟨-, h4⟩
    obtain ⟨rfl, hb4⟩ := h4 hm
    have Q4 := Lib.hid (below_then Q3.out hb4)
    have X4 := Lib.hid (X3.out.keep hb4)
    clear hb4 h4 k0 k1 k2 k3 X3
    have k0 := X4.out.cell 0
    have k1 := X4.out.cell 1
    have k2 := X4.out.cell 2
    have k3 := X4.out.cell 3
    have HL : Hid (Calls Tryd.prog 30 #[.agg #[.int .i64 G.I, .slice G.AF G.fl.length G.cF, .slice G.AA G.an.length G.cA, .slice G.AO G.ou.length G.cO]] w4 fun r w' => (∃ A n c e, r = .returned (.tuple #[.slice A n c, .int .i64 e])) ∧ Below w4.heap.size w4 w') := Lib.hid (by
      by_cases hok : G.ok
      · exact (alevels_yes G w4 (HIN.out.later Q4.out) (few24_fit HS.out) HWF.out hok).mono fun e w' ⟨A, c, he, hb, _⟩ => ⟨⟨A, _, c, 0, he⟩, hb⟩
      · exact (alevels_no G w4 (HIN.out.later Q4.out) (few24_fit HS.out) HWF.out hok).mono fun e w' ⟨he, hb⟩ => ⟨⟨none, 0, 0, 1, he⟩, hb⟩)
    go_wp2_with fail
    refine HL.out.mono ?_
    rintro e1 w5 ⟨⟨AL, nL, cL, eL, rfl⟩, hb5⟩
    have Q5 := Lib.hid (below_then Q4.out hb5)
    clear hb5 k0 k1 k2 k3 HL
    go_wp2_with fail
    go_ret
    exact ⟨rfl, Q5.out⟩
  have HM := Lib.hid hm
  have hcn : G.cn ≤ 1000 := by have h1 := HS.out.1; have h2 := HS.out.2.1; have h3 := HS.out.2.2.1; unfold AG.cn AG.fst; omega
  have HCN := Lib.hid hcn
  have hcp : 0 < G.cn := by unfold AG.cn AG.fst; omega
  have hdeep : ∀ x, x < G.cn → DeepOk G (G.bothTo k (G.cn - 1)).2 x (G.rowAt k x) (G.lev x) := fun x hx => deepOk HM.out hx
  have hbo := AG.bothTo_ok hm.2 hm.1 (G.cn - 1) (by omega)
  have hdl : (G.bothTo k (G.cn - 1)).2.length = G.cn := by rw [(G.bothTo_len k _).2]; omega
  have hsm : ∀ z ∈ (G.bothTo k (G.cn - 1)).2, 0 ≤ z ∧ z ≤ 1000000 := fun z hz => by
    obtain ⟨j, hj, rfl⟩ := List.getElem_of_mem hz
    have := hbo.dep j (by omega)
    rw [List.getD_eq_getElem?_getD, List.getElem?_eq_getElem hj] at this
    simp only [Option.getD_some] at this
    omega
  have HDEEP := Lib.hid hdeep
  have HDL := Lib.hid hdl
  have HSM := Lib.hid hsm
  have hfst : 1 + G.I + (G.fl.length : Int) = (G.fst : Int) := hm.1.firstN
  have hI := hm.1.1
  have hI2 := HS.out.1
  have hI3 := HS.out.2.1
  clear hm hcn hdeep hbo hdl hsm hcp
  go_wp2_with fail
  refine (call_any G k w2 (HIN.out.later Q2.out) (few24_fit HS.out) HWF.out (HC.out.below Q2.out)).mono ?_
  rintro e1 w3 ⟨h3, -⟩
  obtain ⟨AO, cO, rs, AX, cX, rfl, hst3⟩ := h3 HM.out
  have Q3 := Lib.hid (below_then Q2.out hst3.1)
  have X3 := Lib.hid (X2.out.keep hst3.1)
  have R3 := Lib.hid hst3.2.1.rows
  have P3 := hst3.2.2
  have hn : rs.length = G.cn := by
    have := (G.bothTo_len k (G.cn - 1)).1
    rw [← P3, plainR_len] at this
    have : 0 < G.cn := by unfold AG.cn AG.fst; omega
    omega
  have hrow : ∀ x (h : x < rs.length), pcs rs[x].2.2 = G.rowAt k x := fun x h => by
    rw [← plainR_at h, P3, G.rowAt_eq k (show x ≤ G.cn - 1 by omega)]
  have HROW := Lib.hid hrow
  have HRN := Lib.hid hn
  rw [hn]
  clear hst3 hrow hn P3 k0 k1 k2 k3 X2 h3
  have k0 := X3.out.cell 0
  have k1 := X3.out.cell 1
  have k2 := X3.out.cell 2
  have k3 := X3.out.cell 3
  generalize hds : (G.bothTo k (G.cn - 1)).2 = ds at HDEEP HDL HSM
  go_wp2_with fail
  refine (cdepths_any G k w3 (HIN.out.later Q3.out) (few24_fit HS.out) HWF.out (HC.out.below Q3.out)).mono ?_
  rintro e1 w4 ⟨h4, -⟩
  obtain ⟨AQ, cQ, us, AD, cD, rfl, hst4⟩ := h4 HM.out
  have Q4 := Lib.hid (below_then Q3.out hst4.1)
  have X4 := Lib.hid (X3.out.keep hst4.1)
  have R4 := Lib.hid (R3.out.later hst4.1)
  have D4 := Lib.hid (Rd.of_own hst4.2.1.dep)
  rw [hds, HDL.out]
  rw [hds, HDL.out] at D4
  clear hst4 h4 k0 k1 k2 k3 X3 R3 hds
  have k0 := X4.out.cell 0
  have k1 := X4.out.cell 1
  have k2 := X4.out.cell 2
  have k3 := X4.out.cell 3
  go_wp2_with fail
  refine (alevels_yes G w4 (HIN.out.later Q4.out) (few24_fit HS.out) HWF.out HM.out.1).mono ?_
  rintro e1 w5 ⟨AL, cL, rfl, hb5, hL5⟩
  have Q5 := Lib.hid (below_then Q4.out hb5)
  have X5 := Lib.hid (X4.out.keep hb5)
  have R5 := Lib.hid (R4.out.later hb5)
  have D5 := Lib.hid (D4.out.later hb5)
  have L5 := Lib.hid hL5
  obtain ⟨n, hnn⟩ : ∃ n, G.cn = n := ⟨_, rfl⟩
  have HN := Lib.hid hnn
  rw [hnn] at D5 L5 HCN HRN HDL ⊢
  obtain ⟨F, hFF⟩ : ∃ F, G.fst = F := ⟨_, rfl⟩
  have HFF := Lib.hid hFF
  rw [hFF] at hfst
  clear hb5 hL5 k0 k1 k2 k3 X4 R4 D4 hnn hFF
  have k0 := X5.out.cell 0
  have k1 := X5.out.cell 1
  have hF1 : F ≤ 61 := by omega
  go_wp2_with fail
  go_loopw [13] (fun v13 wx => ∃ x : Nat, x ≤ n ∧ v13 = .int .i64 (x : Int) ∧ Below w5.heap.size w5 wx) (fun v13 _ => n - (intOf v13).toNat)
  case atStart => exact ⟨0, by omega, rfl, Below.refl _ _⟩
  case round =>
    obtain ⟨x, hx, rfl, hB⟩ := hrel
    have B1 := Lib.hid hB
    clear hB
    have hn1000 : n ≤ 1000 := HCN.out
    by_cases hxn : x < n
    case neg =>
      have hlt : ¬ (x : Int) < (n : Int) := by omega
      go_wp2_with fail
      go_ret
      exact ⟨rfl, below_then Q5.out B1.out⟩
    have hxn' : (x : Int) < (n : Int) := by omega
    have hdo := HDEEP.out x (by rw [HN.out]; exact hxn)
    obtain ⟨pd, hPD, hpdb, d0⟩ := D5.out.int hxn
    obtain ⟨pl, hPL, hplb, l0⟩ := L5.out.int hxn
    subst hPD
    subst hPL
    have HPD := Lib.hid (show (pd.add x).block < w5.heap.size by rw [add_block]; exact hpdb)
    have HPL := Lib.hid (show (pl.add x).block < w5.heap.size by rw [add_block]; exact hplb)
    have d1 := (B1.out.cell HPD.out).trans d0
    have l1 := (B1.out.cell HPL.out).trans l0
    by_cases hxF : x < F
    case pos =>
      have hz := hdo.low (by rw [HFF.out]; exact hxF)
      rw [hz] at d1
      have hxF' : (x : Int) < (F : Int) := by omega
      clear hdo hz d0 l0 l1
      go_wp2_with fail
      go_roundw
      case rel => exact ⟨x + 1, by omega, by go_num, B1.out⟩
      case measure => simp [intOf]; omega
    have hxF' : ¬ (x : Int) < (F : Int) := by omega
    have hlen := hdo.len (by rw [HFF.out]; omega)
    have hcut := hdo.cut (by rw [HFF.out]; omega)
    have h1 : x < rs.length := by rw [HRN.out]; exact hxn
    obtain ⟨po, hAO, hpb, o0, hca⟩ := R5.out.at_ h1
    have hrw := HROW.out x h1
    subst hAO
    rw [← hrw] at hlen hcut
    have hlv : G.lev x = (G.levTo G.an.length).getD x 0 := rfl
    rw [hlv] at hlen
    generalize rs[x] = ra at o0 hca hlen hcut
    generalize ds.getD x 0 = dx at d0 d1 hlen hcut
    generalize (G.levTo G.an.length).getD x 0 = lx at l0 l1 hlen
    obtain ⟨a1, a2, a3⟩ := ra
    simp only [crv] at o0 hca hlen hcut
    obtain ⟨m, hm⟩ : ∃ m, a3.length = m := ⟨_, rfl⟩
    have HM3 := Lib.hid hm
    have HPM := Lib.hid (show (pcs a3).length = m by unfold pcs; rw [List.length_map]; exact hm)
    rw [HPM.out] at hlen
    have HCA := Lib.hid hca
    have HCUT := Lib.hid hcut
    have HD0 := Lib.hid d0
    have HL0 := Lib.hid l0
    rw [hm] at o0
    have HPB := Lib.hid (show (po.add x).block < w5.heap.size by rw [add_block]; exact hpb)
    have O0 := Lib.hid o0
    have o1 := (B1.out.cell HPB.out).trans o0
    obtain ⟨hlen1, hlen2, hlen3, hlen4⟩ := hlen
    clear hca hcut hm o0 hpb d0 l0 hrw hdo hlv hpdb hplb
    go_wp2_with fail
    go_loopw [14] (fun v14 wx => ∃ i : Nat, i + 1 ≤ m ∧ v14 = .int .i64 (i : Int) ∧ Below w5.heap.size w5 wx) (fun v14 _ => m - (intOf v14).toNat)
    case atStart => exact ⟨0, by omega, rfl, B1.out⟩
    case round =>
      obtain ⟨i, hi, rfl, hB⟩ := hrel
      have B2 := Lib.hid hB
      clear hB d1 l1 o1
      have d2 := (B2.out.cell HPD.out).trans HD0.out
      have l2 := (B2.out.cell HPL.out).trans HL0.out
      have o2 := (B2.out.cell HPB.out).trans O0.out
      have hm50 : m ≤ 1000000 := by omega
      by_cases him : i + 1 < m
      case neg =>
        have hlt : ¬ (i : Int) + 1 < (m : Int) := by omega
        have g1 : decide (lx < dx) = false := decide_eq_false (by omega)
        have g2 : decide (dx < 1) = false := decide_eq_false (by omega)
        have g3 : decide ((m : Int) < 2) = false := decide_eq_false (by omega)
        clear hlen1 hlen2 hlen3 hlen4
        go_wp2_with fail
        refine wp_region_still_in (by kernel_rfl) (by kernel_rfl) fun St9 ne9 V9 hV9 hS9 => ?_
        have qd2 := still_cell hV9 d2
        have ql2 := still_cell hV9 l2
        have qo2 := still_cell hV9 o2
        repeat (first | go_big_quiet_step (fail) | quiet_step (fail))
        refine wpQuiet_nil ?_
        intro _ hw9
        obtain ⟨s9, rfl⟩ := hw9
        have hb9 := hV9 s9
        clear qd2 ql2 qo2 hS9
        generalize V9 s9 = w9 at hb9 ⊢
        clear hV9 s9 V9 ne9 St9
        have B9 := Lib.hid (below_then B2.out hb9)
        clear hb9
        go_wp2_with fail
        go_roundw
        case rel => exact ⟨x + 1, by omega, by go_num, B9.out⟩
        case measure => simp [intOf]; omega
      have him' : (i : Int) + 1 < (m : Int) := by omega
      have hi3 : i < a3.length := by rw [HM3.out]; omega
      obtain ⟨pa, hA, hpa, f0, -, hsl⟩ := HCA.out.at_ hi3
      have hct := HCUT.out i (by rw [HPM.out]; exact him)
      simp only [pcs, List.getElem_map] at hct
      subst hA
      generalize a3[i] = ci at f0 hsl hct
      obtain ⟨⟨e1, e2, e3⟩, et⟩ := ci
      simp only [slv] at f0 hsl hct
      have hpa1 : (pa.add (i * 2)).block < w5.heap.size := by rw [add_block]; exact hpa
      have f1 := (B2.out.cell hpa1).trans f0
      obtain ⟨hc1, hc2, hc3, hc4⟩ := hct
      rw [HDL.out] at hc1
      have HDP := Lib.hid (deepest_any (some pd) e1 cD e2 n ds e3 wr ⟨D5.out.later B2.out, fun z hz => (HSM.out z hz).2⟩ (Rd.later hsl B2.out) hc1 (by omega))
      have hzb := Cut.deepTo_bound (d := ds) (l := e3) (M := 1000000) (by omega) (fun z hz => (HSM.out z hz).2) e3.length
      obtain ⟨z, hz⟩ : ∃ z, Cut.deepTo ds e3 e3.length = z := ⟨_, rfl⟩
      rw [hz] at HDP hc3 hc4 hzb
      obtain ⟨hz0, hz1⟩ := hzb
      generalize e3.length = q at f1 HDP
      have him2 : (i : Int) < (m : Int) := by omega
      clear f0 hsl hc1 hc2 hz l2
      go_wp2_with fail
      refine HDP.out.mono ?_
      rintro e w6 ⟨rfl, hb6⟩
      have B6 := Lib.hid (below_then B2.out hb6)
      clear hb6 d2 o2 f1 HDP
      have d3 := (B6.out.cell HPD.out).trans HD0.out
      have g1 : ¬ z + 1 < dx := by omega
      by_cases hi0 : i = 0
      · have g2 : ((i : Int) == 0) = true := by simp [hi0]
        have g3 : ((z + 1 : Int) != dx) = false := by rw [hc4 hi0]; simp
        clear hc3 hc4 hi0
        go_wp2_with fail
        go_roundw
        case rel => exact ⟨i + 1, by omega, by go_num, B6.out⟩
        case measure => simp [intOf]; omega
      · have g2 : ((i : Int) == 0) = false := by simp; omega
        clear hc3 hc4
        go_wp2_with fail
        go_roundw
        case rel => exact ⟨i + 1, by omega, by go_num, B6.out⟩
        case measure => simp [intOf]; omega

set_option maxRecDepth 100000 in
theorem cutsDeep_lifted (os : Os) (started : os.Started) (H : Type) (enc : TypeId × Value → H) :
    ReturnsInHanded {} Tryd.checked os 9 .any (fun w args => (Rows.cutsDeepSpec.pre enc Tryd.prog Tryd.f9 [] false w args ∧ laidMetH Tryd.prog laidC w) ∧ sizedMet enc Tryd.prog Tryd.f9 (OpenSpec.ofChange Rows.cutsDeepSpec) false w args)
      (Rows.cutsDeepSpec.post enc Tryd.prog Tryd.f9 false true false false) := by
  have hr : ∀ t ∈ Tryd.f9.params.toList, Tryd.prog.readableRec t = true ∧ t < Tryd.prog.types.size := by
    have h : Tryd.f9.params.toList.all (fun t => Tryd.prog.readableRec t && decide (t < Tryd.prog.types.size)) = true := by kernel_rfl
    intro t ht
    simpa using List.all_eq_true.1 h t ht
  refine returnsInHanded_of_change_and (C := Tryd.checked) (X := fun w _ => laidMetH Tryd.prog laidC w) (fun _ _ _ hh h => h.of_heap hh) own started (by kernel_rfl) Tryd.func9
    (ChangeSpec.witness_shaped (enc := enc) (C := Tryd.checked) (os := os) (X := fun w _ => laidMetH Tryd.prog laidC w) false (World.doorLaid Tryd.prog 400 os) #[.agg #[.int .i64 0, .slice none 0 0, .slice none 0 0, .slice none 0 0], .int .i64 0] 8 rfl (World.shaped_of_RefB (by kernel_rfl) (by kernel_rfl)) (by kernel_rfl) (by kernel_rfl) (by kernel_rfl) (door_met os _)) ?_
  intro W base args ds gs before hval0 hW _ _ hL _
  have hcols := cols_of_laid hL
  have hval : ∀ (j : Nat) t v, Tryd.f9.params[j]? = some t → args[j]? = some v → Value.okWide Tryd.prog W .any base t v := hval0
  have hW' := hW
  obtain ⟨p, q, hA0, hV, rfl, hfz, hnd⟩ := hW
  have hA1 : DataW.TrodAll enc Tryd.prog W 0 (fun _ => true) true Tryd.f9.params.toList args.toList ds p := hA0
  have hA := hA1
  rw [Tryd.params9] at hA hval
  obtain ⟨v0, vs0, d0, ds0, p0, q0, hargs, rfl, rfl, h0, r0⟩ := trodAll_cons hA
  obtain ⟨v1, vs1, d1, ds1, p1, q1, rfl, rfl, rfl, h1, r1⟩ := trodAll_cons r0
  obtain ⟨rfl, rfl, rfl⟩ := trodAll_nil r1
  obtain rfl : args = #[v0, v1] := by cases args; simp_all
  obtain ⟨rfl, rfl⟩ := trodVars_none hV
  obtain ⟨G0, rfl, hin0, hwf0⟩ := open_aig (hval 0 26 v0 rfl rfl) h0
  obtain ⟨a1, rfl, rfl, rfl, w1⟩ := open_int Tryd.underlying3 (hval 1 3 v1 rfl rfl) h1
  clear hA0 hval0
  simp only [List.append_nil] at hW' hA1
  refine (cutsDeep_walk G0 a1 W hin0 hwf0 hcols).mono fun e W' ⟨he, hb⟩ => ?_
  subst he
  exact ⟨_, rfl, law_post laidOut hr rfl hW' hA1 rfl rfl Tryd.underlying4 hb⟩

theorem cutsDeep_over : Rows.cutsDeepRow.holds Tryd.pinned (OpenSpec.ofChange Rows.cutsDeepSpec) :=
  OpenClaim.holds_of_wide 9 Tryd.f9 rfl rfl rfl rfl rfl rfl rfl ⟨rfl, rfl, rfl, rfl, rfl⟩ rfl rfl rfl rfl rfl (by kernel_rfl) Tryd.func9 (by kernel_rfl)
    (of_decide_eq_true (by kernel_rfl)) (by unfold Func.isWrapper; first | (rw [if_pos (by decide +kernel)]; kernel_rfl) | (rw [if_neg (by decide +kernel)]; exact ⟨rfl, rfl⟩))
    (fun os started H enc _ => cutsDeep_lifted os started H enc)

/-- the card -/
theorem cutsDeepCard_holds : Rows.CutsDeepCardSaid :=
  Claim7.holds_tied_plain_at .later [] [.data] true Rows.cutsDeepCard.stood.harness false
    cutsDeep_over (fun _ h => by cases h) (by kernel_rfl) (fun _ h => by cases h) cutsDeep_row_tie rfl ⟨rfl, rfl⟩ (by kernel_rfl) rfl
    (fun f fn hf hfn => by
      obtain rfl : f = 9 := Option.some.inj ((show Tryd.prog.funcNamed "filigree/filigreelaw24.CutsDeep" = some 9 by kernel_rfl).symm.trans hf) |>.symm
      obtain rfl : fn = Tryd.f9 := (Option.some.inj (Tryd.func9.symm.trans hfn)).symm
      exact ⟨by kernel_rfl, fun j t ht => by
        have hall : (Tryd.f9.params.toList.all fun u => !Tryd.prog.wantsStandIn u) = true := by kernel_rfl
        have hm : t ∈ Tryd.f9.params.toList := by
          have := Array.mem_of_getElem? ht
          simpa using this
        exact (show Tryd.prog.wantsStandIn t = false by simpa using List.all_eq_true.1 hall t hm)⟩)
    (by kernel_rfl)
#print axioms cutsDeepCard_holds
end Go.Proofs.YtkhlllbceceikaaDoor
