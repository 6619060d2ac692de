/- The law CutsMeans: each cut tells what the node is: of any gates, number and values: in the row that its leaves' values are, each cut's table tells the node's value. · The card ties the row of columns. -/
import Derived.Test.YtkhlllbceceikaaDoorOpenG
import Derived.Test.YtkhlllbceceikaaDoorFew24
import Derived.Test.YtkhlllbceceikaaDoorHelp24
import Derived.Test.YtkhlllbceceikaaDoorPlain24
import Derived.Test.YtkhlllbceceikaaDoorANod
import Derived.Test.YtkhlllbceceikaaDoorLive24
namespace Go.Proofs.YtkhlllbceceikaaDoor
open Go.ChangeShapes Go.WideShapes Go.ChangeAt Go.RowKit Go.Joins
set_option linter.unusedVariables false
set_option linter.unusedSimpArgs false
theorem AG.valTo_val {G : AG} (hok : G.ok) {ins st : List Bool} (hi : (ins.length : Int) = G.I) (hs : st.length = G.fl.length) : G.Val fun j => (G.valTo ins st G.an.length).getD j false := by
  have hF : G.fst = 1 + ins.length + st.length := by unfold AG.fst; omega
  refine ⟨?_, fun i a b hg => ?_⟩
  · rw [G.valTo_pre ins st (Nat.zero_le _) 0 (by omega)]; rfl
  · have hia : i < G.an.length := by
      have := (List.getElem?_eq_some_iff.1 hg).1
      simpa [AG.ands] using this
    obtain ⟨a', b', -, hgs, ha, hb, -, -⟩ := hok.gate hia
    rw [hg] at hgs
    obtain ⟨rfl, rfl⟩ := Prod.mk.inj (Option.some.inj hgs)
    rw [G.valTo_pre ins st (show i + 1 ≤ G.an.length by omega) _ (by omega), G.valTo_pre ins st (show i ≤ G.an.length by omega) _ (show a / 2 < _ by omega), G.valTo_pre ins st (show i ≤ G.an.length by omega) _ (show b / 2 < _ by omega)]
    have e : G.ands.getD i (0, 0) = (a, b) := by rw [List.getD_eq_getElem?_getD, hg]; rfl
    rw [AG.valTo, e, show G.fst + i = (G.valTo ins st i).length by rw [G.valTo_len]; omega, set_aux]
    rfl
/-- what the law asks of a row -/
structure MeansOk (v : List Bool) (x : Nat) (r : List PC) : Prop where
  len : 1 ≤ r.length ∧ r.length ≤ 9
  cut : ∀ i (h : i < r.length), NodesIn v.length r[i].1 ∧ r[i].1.length ≤ 6 ∧ r[i].2 < 18446744073709551616 ∧ decide (r[i].2 / 2 ^ rowTo v r[i].1 r[i].1.length % 2 = 1) = v.getD x false
theorem meansOk {G : AG} {k : Int} (hm : G.ok ∧ 2 ≤ k ∧ k ≤ 6) {v : List Bool} (hv : G.Val fun j => v.getD j false) (hl : v.length = G.cn) {x : Nat} (hx : x < G.cn) : MeansOk v x (G.rowAt k x) := by
  have hr := AG.rowOk hm hx
  refine ⟨hr.len, fun i h => ?_⟩
  have h1 := hr.lv _ (List.getElem_mem h)
  have h2 := AG.cut_is hm x hx _ (List.getElem_mem h)
  have h3 := hr.tab _ (List.getElem_mem h)
  rw [AG.good_of hm.1 hx h1.1 h1.2.1 h1.2.2.1 h1.2.2.2.2] at h2
  have h4 := AG.table_means hv h1.2.2.1 (rowTo_lt v _ _) (fun i hi => rowTo_bit v _ _ i hi) h2.2
  rw [Nat.testBit_eq_decide_div_mod_eq] at h4
  exact ⟨h1.1.mono (by omega), h1.2.2.1, h3, h4⟩

set_option maxRecDepth 100000 in
set_option maxHeartbeats 4000000 in
theorem cutsMeans_walk (G : AG) (k : Int) (A : Option Addr) (c : Nat) (ins : List Bool) (B : Option Addr) (d : Nat) (st : List Bool) (w : World) (hin : G.In w) (hwf : G.wf) (hra : Rd w 1 A ins.length c (bools ins)) (hrb : Rd w 1 B st.length d (bools st)) (hcols : COLS w) :
    Calls Tryd.prog 10 #[.agg #[.int .i64 G.I, .slice G.AF G.fl.length G.cF, .slice G.AA G.an.length G.cA, .slice G.AO G.ou.length G.cO], .int .i64 k, .slice A ins.length c, .slice B st.length d] w fun e w' => e = .returned (.bool true) ∧ Below w.heap.size w w' := by
  have X0 := Lib.hid (Blk.made w 26 #[.int .i64 G.I, .slice G.AF G.fl.length G.cF, .slice G.AA G.an.length G.cA, .slice G.AO G.ou.length G.cO])
  have Q0 := Lib.hid (below_new w (.cells #[.int .i64 G.I, .slice G.AF G.fl.length G.cF, .slice G.AA G.an.length G.cA, .slice G.AO G.ou.length G.cO] 26))
  have HIN := Lib.hid hin
  have HWF := Lib.hid hwf
  have HRA := Lib.hid hra
  have HRB := Lib.hid hrb
  have HC := Lib.hid hcols
  clear hin hwf hcols hra hrb
  have hf0 := few24_any G
  have HF := Lib.hid hf0
  clear hf0
  go_enter Tryd.func10, Tryd.ntmps10
  go_wp2_with fail
  refine (live24_any _ (HC.out.below Q0.out)).mono ?_
  rintro e1 w1 ⟨rfl, hb1⟩
  have Q1 := Lib.hid (below_then Q0.out hb1)
  have X1 := Lib.hid (X0.out.keep hb1)
  clear hb1
  have k0 := X1.out.cell 0
  have k1 := X1.out.cell 1
  have k2 := X1.out.cell 2
  have k3 := X1.out.cell 3
  go_wp2_with fail
  refine (HF.out _).mono ?_
  rintro e1 w2 ⟨rfl, hb2⟩
  have Q2 := Lib.hid (below_then Q1.out hb2)
  have X2 := Lib.hid (X1.out.keep hb2)
  clear hb2 k0 k1 k2 k3 X1
  by_cases hs : few24 G
  case neg =>
    rw [show decide (few24 G) = false from decide_eq_false hs]
    go_wp2_with fail
    go_ret
    exact ⟨rfl, Q2.out⟩
  rw [show decide (few24 G) = true from decide_eq_true hs]
  have HS := Lib.hid hs
  clear hs
  have k0 := X2.out.cell 0
  have k1 := X2.out.cell 1
  have k2 := X2.out.cell 2
  have k3 := X2.out.cell 3
  by_cases hno : G.ok ∧ (ins.length : Int) = G.I ∧ st.length = G.fl.length
  case neg =>
    have HNO := Lib.hid (anodes_no G A B c d ins st w2 (HIN.out.later Q2.out) (few24_fit HS.out) HWF.out hno)
    clear hno
    go_wp2_with fail
    refine HNO.out.mono ?_
    rintro e1 w3 ⟨rfl, hb3⟩
    have Q3 := Lib.hid (below_then Q2.out hb3)
    have X3 := Lib.hid (X2.out.keep hb3)
    clear hb3 k0 k1 k2 k3 X2 HNO
    have k0 := X3.out.cell 0
    have k1 := X3.out.cell 1
    have k2 := X3.out.cell 2
    have k3 := X3.out.cell 3
    have HL : Hid (Calls Tryd.prog 20 #[.agg #[.int .i64 G.I, .slice G.AF G.fl.length G.cF, .slice G.AA G.an.length G.cA, .slice G.AO G.ou.length G.cO], .int .i64 k] w3 fun r w' => (∃ A n c e, r = .returned (.tuple #[.slice A n c, .int .i64 e])) ∧ Below w3.heap.size w3 w') := Lib.hid (by
      refine (call_any G k w3 (HIN.out.later Q3.out) (few24_fit HS.out) HWF.out (HC.out.below Q3.out)).mono fun e w' h => ?_
      by_cases hm : G.may k
      · obtain ⟨AO, cO, rs, AX, cX, he, hst⟩ := h.1 hm
        exact ⟨⟨_, _, _, _, he⟩, hst.1⟩
      · obtain ⟨he, hb⟩ := h.2 hm
        exact ⟨⟨_, _, _, _, he⟩, hb⟩)
    go_wp2_with fail
    refine HL.out.mono ?_
    rintro e1 w5 ⟨⟨AL, nL, cL, eL, rfl⟩, hb5⟩
    have Q5 := Lib.hid (below_then Q3.out hb5)
    clear hb5 k0 k1 k2 k3 HL
    go_wp2_with fail
    go_ret
    exact ⟨rfl, Q5.out⟩
  have HNO := Lib.hid hno
  clear hno
  go_wp2_with fail
  refine (anodes_yes G A B c d ins st w2 (HIN.out.later Q2.out) (few24_fit HS.out) HWF.out HNO.out.1 (HRA.out.later Q2.out) (HRB.out.later Q2.out) HNO.out.2.1 HNO.out.2.2).mono ?_
  rintro e1 w3 ⟨AV, cV, rfl, hb3, hv3⟩
  have Q3 := Lib.hid (below_then Q2.out hb3)
  have X3 := Lib.hid (X2.out.keep hb3)
  have V3 := Lib.hid hv3
  clear hb3 hv3 k0 k1 k2 k3 X2
  have k0 := X3.out.cell 0
  have k1 := X3.out.cell 1
  have k2 := X3.out.cell 2
  have k3 := X3.out.cell 3
  by_cases hm : G.may k
  case neg =>
    go_wp2_with fail
    refine (call_any G k w3 (HIN.out.later Q3.out) (few24_fit HS.out) HWF.out (HC.out.below Q3.out)).mono ?_
    rintro e1 w4 ⟨-, h4⟩
    obtain ⟨rfl, hb4⟩ := h4 hm
    have Q4 := Lib.hid (below_then Q3.out hb4)
    clear hb4 h4 k0 k1 k2 k3 X3
    go_wp2_with fail
    go_ret
    exact ⟨rfl, Q4.out⟩
  have HM := Lib.hid hm
  have hcn : G.cn ≤ 1000 := by have h1 := HS.out.1; have h2 := HS.out.2.1; have h3 := HS.out.2.2.1; unfold AG.cn AG.fst; omega
  have HCN := Lib.hid hcn
  have hvl : (G.valTo ins st G.an.length).length = G.cn := by
    rw [G.valTo_len]; have h1 := HNO.out.2.1; have h2 := HNO.out.2.2; unfold AG.cn AG.fst; omega
  have hmeans : ∀ x, x < G.cn → MeansOk (G.valTo ins st G.an.length) x (G.rowAt k x) := fun x hx => meansOk HM.out (AG.valTo_val HNO.out.1 HNO.out.2.1 HNO.out.2.2) hvl hx
  have HVL := Lib.hid hvl
  have HME := Lib.hid hmeans
  clear hm hcn hvl hmeans
  generalize G.valTo ins st G.an.length = v at V3 HVL HME
  go_wp2_with fail
  refine (call_any G k w3 (HIN.out.later Q3.out) (few24_fit HS.out) HWF.out (HC.out.below Q3.out)).mono ?_
  rintro e1 w4 ⟨h4, -⟩
  obtain ⟨AO, cO, rs, AX, cX, rfl, hst4⟩ := h4 HM.out
  have Q4 := Lib.hid (below_then Q3.out hst4.1)
  have R4 := Lib.hid hst4.2.1.rows
  have V4 := Lib.hid (V3.out.later hst4.1)
  have P4 := hst4.2.2
  have hn : rs.length = G.cn := by
    have := (G.bothTo_len k (G.cn - 1)).1
    rw [← P4, plainR_len] at this
    have : 0 < G.cn := by unfold AG.cn AG.fst; omega
    omega
  have hrow : ∀ x (h : x < rs.length), MeansOk v x (pcs rs[x].2.2) := fun x h => by
    rw [← plainR_at h, P4, G.rowAt_eq k (show x ≤ G.cn - 1 by omega)]
    exact HME.out x (by omega)
  have HROW := Lib.hid hrow
  have HRN := Lib.hid hn
  rw [hn]
  obtain ⟨n, hnn⟩ : ∃ n, G.cn = n := ⟨_, rfl⟩
  rw [hnn] at V4 HVL HRN HCN ⊢
  clear hst4 hrow hn P4 k0 k1 k2 k3 X3 V3 HME h4 hnn
  go_wp2_with fail
  go_loopw [14] (fun v14 wx => ∃ x : Nat, x ≤ n ∧ v14 = .int .i64 (x : Int) ∧ Below w4.heap.size w4 wx) (fun v14 _ => n - (intOf v14).toNat)
  case atStart => exact ⟨0, by omega, rfl, Below.refl _ _⟩
  case round =>
    obtain ⟨x, hx, rfl, hB⟩ := hrel
    have B1 := Lib.hid hB
    clear hB
    have hn1000 : n ≤ 1000 := HCN.out
    by_cases hxn : x < n
    case neg =>
      have hlt : ¬ (x : Int) < (n : Int) := by omega
      have hee : ((n : Int) == (n : Int)) = true := by simp
      go_wp2_with fail
      go_ret
      exact ⟨rfl, below_then Q4.out B1.out⟩
    have hxn' : (x : Int) < (n : Int) := by omega
    have hxg : ¬ (n : Int) ≤ (x : Int) := by omega
    have h1 : x < rs.length := by rw [HRN.out]; exact hxn
    obtain ⟨po, hAO, hpb, d0, hca⟩ := R4.out.at_ h1
    obtain ⟨pv, hPV, hpvb, v0⟩ := V4.out.bool hxn
    have hrw := HROW.out x h1
    subst hAO
    subst hPV
    generalize rs[x] = ra at d0 hca hrw
    obtain ⟨a1, a2, a3⟩ := ra
    simp only [crv] at d0 hca hrw
    obtain ⟨m, hm⟩ : ∃ m, a3.length = m := ⟨_, rfl⟩
    have HM3 := Lib.hid hm
    have HPM := Lib.hid (show (pcs a3).length = m by unfold pcs; rw [List.length_map]; exact hm)
    have HCA := Lib.hid hca
    have HRW := Lib.hid hrw
    rw [hm] at d0
    have HPB := Lib.hid (show (po.add x).block < w4.heap.size by rw [add_block]; exact hpb)
    have HPV := Lib.hid (show (pv.add x).block < w4.heap.size by rw [add_block]; exact hpvb)
    have D0 := Lib.hid d0
    have V0 := Lib.hid v0
    have hm9 : 1 ≤ m ∧ m ≤ 9 := by rw [← HPM.out]; exact HRW.out.len
    have hm0 : ((m : Int) == 0) = false := by simp; omega
    clear hca hrw hm d0 hpb v0 hpvb
    have d1 := (B1.out.cell HPB.out).trans D0.out
    go_wp2_with fail
    go_loopw [15] (fun v15 wx => ∃ i : Nat, i ≤ m ∧ v15 = .int .i64 (i : Int) ∧ Below w4.heap.size w4 wx) (fun v15 _ => m - (intOf v15).toNat)
    case atStart => exact ⟨0, by omega, rfl, B1.out⟩
    case round =>
      obtain ⟨i, hi, rfl, hB⟩ := hrel
      have B2 := Lib.hid hB
      clear hB
      have d2 := (B2.out.cell HPB.out).trans D0.out
      by_cases him : i < m
      case neg =>
        have hlt : ¬ (i : Int) < (m : Int) := by omega
        go_wp2_with fail
        go_roundw
        case rel => exact ⟨x + 1, by omega, by go_num, B2.out⟩
        case measure => simp [intOf]; omega
      have him' : (i : Int) < (m : Int) := by omega
      have hi3 : i < a3.length := by rw [HM3.out]; exact him
      obtain ⟨pa, hA, hpa, f0, f1, hsl⟩ := HCA.out.at_ hi3
      have hct := HRW.out.cut i (by rw [HPM.out]; exact him)
      simp only [pcs, List.getElem_map] at hct
      subst hA
      generalize a3[i] = ci at f0 f1 hsl hct
      obtain ⟨⟨l1, l2, l3⟩, lt⟩ := ci
      simp only [slv] at f0 f1 hsl hct
      have hpa1 : (pa.add (i * 2)).block < w4.heap.size := by rw [add_block]; exact hpa
      have f0 := (B2.out.cell hpa1).trans f0
      have hpa2 : (⟨(pa.add (i * 2)).block, (pa.add (i * 2)).off + 1, none⟩ : Addr).block < w4.heap.size := hpa1
      have f1 := (B2.out.cell hpa2).trans f1
      have hl3 : l3.length ≤ 6 := hct.2.1
      have HR := Lib.hid (fun (W : World) (h : Below w4.heap.size w4 W) => row_any (some pv) l1 cV l2 v l3 W (by rw [HVL.out]; exact V4.out.later h) (Rd.later hsl h) (by rw [HVL.out]; omega) hct.2.1 hct.1)
      rw [HVL.out] at HR
      have hrl := rowTo_lt v l3 l3.length
      obtain ⟨r, hr⟩ : ∃ r, rowTo v l3 l3.length = r := ⟨_, rfl⟩
      rw [hr] at hct HR hrl
      have hr64 : r < 64 := by
        have : 2 ^ l3.length ≤ 2 ^ 6 := Nat.pow_le_pow_right (by omega) hl3
        omega
      obtain ⟨p, hp⟩ : ∃ p, 2 ^ r = p := ⟨_, rfl⟩
      obtain ⟨s, hs⟩ : ∃ s, lt / p = s := ⟨_, rfl⟩
      have hval := hct.2.2.2
      have hlt64 := hct.2.2.1
      rw [hp, hs] at hval
      have hpi : (2 : Int) ^ r = (p : Int) := pow_nat hp
      have hsi : (lt : Int) / (p : Int) = (s : Int) := by rw [← hs]; exact (Int.natCast_ediv _ _).symm
      have hs64 : s < 18446744073709551616 := by rw [← hs]; exact Nat.lt_of_le_of_lt (Nat.div_le_self _ _) hlt64
      obtain ⟨q, hq⟩ : ∃ q, l3.length = q := ⟨_, rfl⟩
      rw [hq] at f0 hl3 HR
      have hp0 : 0 < p := by rw [← hp]; exact Nat.pow_pos (by omega)
      clear hsl hct hr hrl hs hp hq
      have v1 := (B2.out.cell HPV.out).trans V0.out
      have Y0 := Lib.hid (Blk.made wr 34 #[.slice l1 q l2, .int .u64 (lt : Int)])
      have B3 := Lib.hid (below_then B2.out (below_new wr (.cells #[.slice l1 q l2, .int .u64 (lt : Int)] 34)))
      go_wp2_with fail
      have y0 := Y0.out.cell 0
      have y1 := Y0.out.cell 1
      have v1 := (B3.out.cell HPV.out).trans V0.out
      generalize wr.alloc (.cells #[.slice l1 q l2, .int .u64 (lt : Int)] 34) = wc at B3 y0 y1 v1 ⊢
      have HR2 := Lib.hid (fun (W : World) (h : Below wc.heap.size wc W) => HR.out W (below_then B3.out h))
      have hsb : bits .and .u64 (s : Int) 1 = ((s % 2 : Nat) : Int) := by
        have h := u64_and_nat s 1 hs64 (by decide)
        rw [Nat.and_one_is_mod] at h
        exact h
      have hl6 : decide (6 < (q : Int)) = false := decide_eq_false (by omega)
      cases hvx : v.getD x false with
      | true =>
        rw [hvx] at v1 hval
        rw [show s % 2 = 1 from of_decide_eq_true hval] at hsb
        clear hval hvx
        refine wp_region_still_in (by kernel_rfl) (by kernel_rfl) fun St9 ne9 V9 hV9 hS9 => ?_
        have qy0 := still_cell hV9 y0
        have qy1 := still_cell hV9 y1
        have qv1 := still_cell hV9 v1
        repeat (first | go_big_quiet_step ((go_at_call 33; exact Calls.still hV9 hS9 (HR2.out _ (hV9 _)))) | quiet_step ((go_at_call 33; exact Calls.still hV9 hS9 (HR2.out _ (hV9 _)))))
        refine wpQuiet_nil ?_
        intro _ hw9
        obtain ⟨s9, rfl⟩ := hw9
        have hb9 := hV9 s9
        clear qy0 qy1 qv1 hS9
        generalize V9 s9 = w9 at hb9 ⊢
        clear hV9 s9 V9 ne9 St9
        have B9 := Lib.hid (below_then B3.out hb9)
        clear hb9 y0 y1 v1
        go_wp2_with fail
        go_roundw
        case rel => exact ⟨i + 1, by omega, by go_num, B9.out⟩
        case measure => simp [intOf]; omega
      | false =>
        rw [hvx] at v1 hval
        rw [show s % 2 = 0 by have := of_decide_eq_false hval; omega] at hsb
        clear hval hvx
        refine wp_region_still_in (by kernel_rfl) (by kernel_rfl) fun St9 ne9 V9 hV9 hS9 => ?_
        have qy0 := still_cell hV9 y0
        have qy1 := still_cell hV9 y1
        have qv1 := still_cell hV9 v1
        repeat (first | go_big_quiet_step ((go_at_call 33; exact Calls.still hV9 hS9 (HR2.out _ (hV9 _)))) | quiet_step ((go_at_call 33; exact Calls.still hV9 hS9 (HR2.out _ (hV9 _)))))
        refine wpQuiet_nil ?_
        intro _ hw9
        obtain ⟨s9, rfl⟩ := hw9
        have hb9 := hV9 s9
        clear qy0 qy1 qv1 hS9
        generalize V9 s9 = w9 at hb9 ⊢
        clear hV9 s9 V9 ne9 St9
        have B9 := Lib.hid (below_then B3.out hb9)
        clear hb9 y0 y1 v1
        go_wp2_with fail
        go_roundw
        case rel => exact ⟨i + 1, by omega, by go_num, B9.out⟩
        case measure => simp [intOf]; omega

set_option maxRecDepth 100000 in
theorem cutsMeans_lifted (os : Os) (started : os.Started) (H : Type) (enc : TypeId × Value → H) :
    ReturnsInHanded {} Tryd.checked os 10 .any (fun w args => (Rows.cutsMeansSpec.pre enc Tryd.prog Tryd.f10 [] false w args ∧ laidMetH Tryd.prog laidC w) ∧ sizedMet enc Tryd.prog Tryd.f10 (OpenSpec.ofChange Rows.cutsMeansSpec) false w args)
      (Rows.cutsMeansSpec.post enc Tryd.prog Tryd.f10 false true false false) := by
  have hr : ∀ t ∈ Tryd.f10.params.toList, Tryd.prog.readableRec t = true ∧ t < Tryd.prog.types.size := by
    have h : Tryd.f10.params.toList.all (fun t => Tryd.prog.readableRec t && decide (t < Tryd.prog.types.size)) = true := by kernel_rfl
    intro t ht
    simpa using List.all_eq_true.1 h t ht
  refine returnsInHanded_of_change_and (C := Tryd.checked) (X := fun w _ => laidMetH Tryd.prog laidC w) (fun _ _ _ hh h => h.of_heap hh) own started (by kernel_rfl) Tryd.func10
    (ChangeSpec.witness_shaped (enc := enc) (C := Tryd.checked) (os := os) (X := fun w _ => laidMetH Tryd.prog laidC w) false (World.doorLaid Tryd.prog 400 os) #[.agg #[.int .i64 0, .slice none 0 0, .slice none 0 0, .slice none 0 0], .int .i64 0, .slice none 0 0, .slice none 0 0] 8 rfl (World.shaped_of_RefB (by kernel_rfl) (by kernel_rfl)) (by kernel_rfl) (by kernel_rfl) (by kernel_rfl) (door_met os _)) ?_
  intro W base args ds gs before hval0 hW _ _ hL _
  have hcols := cols_of_laid hL
  have hval : ∀ (j : Nat) t v, Tryd.f10.params[j]? = some t → args[j]? = some v → Value.okWide Tryd.prog W .any base t v := hval0
  have hW' := hW
  obtain ⟨p, q, hA0, hV, rfl, hfz, hnd⟩ := hW
  have hA1 : DataW.TrodAll enc Tryd.prog W 0 (fun _ => true) true Tryd.f10.params.toList args.toList ds p := hA0
  have hA := hA1
  rw [Tryd.params10] at hA hval
  obtain ⟨v0, vs0, d0, ds0, p0, q0, hargs, rfl, rfl, h0, r0⟩ := trodAll_cons hA
  obtain ⟨v1, vs1, d1, ds1, p1, q1, rfl, rfl, rfl, h1, r1⟩ := trodAll_cons r0
  obtain ⟨v2, vs2, d2, ds2, p2, q2, rfl, rfl, rfl, h2, r2⟩ := trodAll_cons r1
  obtain ⟨v3, vs3, d3, ds3, p3, q3, rfl, rfl, rfl, h3, r3⟩ := trodAll_cons r2
  obtain ⟨rfl, rfl, rfl⟩ := trodAll_nil r3
  obtain rfl : args = #[v0, v1, v2, v3] := by cases args; simp_all
  obtain ⟨rfl, rfl⟩ := trodVars_none hV
  obtain ⟨G0, rfl, hin0, hwf0⟩ := open_aig (hval 0 26 v0 rfl rfl) h0
  obtain ⟨a1, rfl, rfl, rfl, w1⟩ := open_int Tryd.underlying3 (hval 1 3 v1 rfl rfl) h1
  obtain ⟨A2, c2, l2, rfl, hr2⟩ := open_bits (hval 2 57 v2 rfl rfl) h2
  obtain ⟨A3, c3, l3, rfl, hr3⟩ := open_bits (hval 3 57 v3 rfl rfl) h3
  clear hA0 hval0
  simp only [List.append_nil] at hW' hA1
  refine (cutsMeans_walk G0 a1 A2 c2 l2 A3 c3 l3 W hin0 hwf0 hr2 hr3 hcols).mono fun e W' ⟨he, hb⟩ => ?_
  subst he
  exact ⟨_, rfl, law_post laidOut hr rfl hW' hA1 rfl rfl Tryd.underlying4 hb⟩

theorem cutsMeans_over : Rows.cutsMeansRow.holds Tryd.pinned (OpenSpec.ofChange Rows.cutsMeansSpec) :=
  OpenClaim.holds_of_wide 10 Tryd.f10 rfl rfl rfl rfl rfl rfl rfl ⟨rfl, rfl, rfl, rfl, rfl⟩ rfl rfl rfl rfl rfl (by kernel_rfl) Tryd.func10 (by kernel_rfl)
    (of_decide_eq_true (by kernel_rfl)) (by unfold Func.isWrapper; first | (rw [if_pos (by decide +kernel)]; kernel_rfl) | (rw [if_neg (by decide +kernel)]; exact ⟨rfl, rfl⟩))
    (fun os started H enc _ => cutsMeans_lifted os started H enc)

/-- the card -/
theorem cutsMeansCard_holds : Rows.CutsMeansCardSaid :=
  Claim7.holds_tied_plain_at .later [] [.data] true Rows.cutsMeansCard.stood.harness false
    cutsMeans_over (fun _ h => by cases h) (by kernel_rfl) (fun _ h => by cases h) cutsMeans_row_tie rfl ⟨rfl, rfl⟩ (by kernel_rfl) rfl
    (fun f fn hf hfn => by
      obtain rfl : f = 10 := Option.some.inj ((show Tryd.prog.funcNamed "filigree/filigreelaw24.CutsMeans" = some 10 by kernel_rfl).symm.trans hf) |>.symm
      obtain rfl : fn = Tryd.f10 := (Option.some.inj (Tryd.func10.symm.trans hfn)).symm
      exact ⟨by kernel_rfl, fun j t ht => by
        have hall : (Tryd.f10.params.toList.all fun u => !Tryd.prog.wantsStandIn u) = true := by kernel_rfl
        have hm : t ∈ Tryd.f10.params.toList := by
          have := Array.mem_of_getElem? ht
          simpa using this
        exact (show Tryd.prog.wantsStandIn t = false by simpa using List.all_eq_true.1 hall t hm)⟩)
    (by kernel_rfl)
#print axioms cutsMeansCard_holds
end Go.Proofs.YtkhlllbceceikaaDoor
