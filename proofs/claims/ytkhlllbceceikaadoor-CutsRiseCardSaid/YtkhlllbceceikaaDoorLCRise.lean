/- The law CutsRise: no more leaves than told: of any gates and number each node has nine cuts at most, no two of the same leaves, that rise, each is one. · The card ties the row of columns. -/
import Derived.Test.YtkhlllbceceikaaDoorOpenG
import Derived.Test.YtkhlllbceceikaaDoorFew24
import Derived.Test.YtkhlllbceceikaaDoorHelp24
import Derived.Test.YtkhlllbceceikaaDoorPlain24
import Derived.Test.YtkhlllbceceikaaDoorLive24
namespace Go.Proofs.YtkhlllbceceikaaDoor
open Go.ChangeShapes Go.WideShapes Go.ChangeAt Go.RowKit Go.Joins
set_option linter.unusedVariables false
set_option linter.unusedSimpArgs false
/-- what the law asks of a row -/
structure RiseOk (G : AG) (k : Int) (x : Nat) (r : List PC) : Prop where
  cut : ∀ i (h : i < r.length), Cut.Rises r[i].1 ∧ (∀ z ∈ r[i].1, 1 ≤ z ∧ z ≤ (x : Int)) ∧ r[i].1.length ≤ 6 ∧ (r[i].1.length : Int) ≤ k ∧ G.good r[i].1 (x : Int) = some r[i].2
  one : ∀ i j (h : i < r.length) (hj : j < i), r[j].1 ≠ r[i].1
  len : 1 ≤ r.length ∧ r.length ≤ 9
  last : 0 < x → ∀ h : r.length - 1 < r.length, r[r.length - 1].1 = [(x : Int)]
theorem riseOk {G : AG} {k : Int} (hm : G.ok ∧ 2 ≤ k ∧ k ≤ 6) {x : Nat} (hx : x < G.cn) : RiseOk G k x (G.rowAt k x) := by
  have hr := AG.rowOk hm hx
  refine ⟨fun i h => ?_, fun i j h hj he => ?_, hr.len, fun hp h => ?_⟩
  · have h1 := hr.lv _ (List.getElem_mem h)
    have h2 := AG.cut_is hm x hx _ (List.getElem_mem h)
    exact ⟨h1.2.1, fun z hz => ⟨h1.2.2.2.2 z hz, by have := (h1.1 z hz).2; omega⟩, h1.2.2.1, by have := h1.2.2.2.1; omega, h2.2⟩
  · have hn := AG.row_nodup hm hx
    have := List.pairwise_iff_getElem.1 hn j i (by simp; omega) (by simp; exact h) hj
    exact this (by simpa using he)
  · have h1 := hr.last hp
    rw [List.getElem?_eq_getElem h] at h1
    rw [Option.some.inj h1]

set_option maxRecDepth 100000 in
set_option maxHeartbeats 4000000 in
theorem cutsRise_walk (G : AG) (k : Int) (w : World) (hin : G.In w) (hwf : G.wf) (hcols : COLS w) :
    Calls Tryd.prog 5 #[.agg #[.int .i64 G.I, .slice G.AF G.fl.length G.cF, .slice G.AA G.an.length G.cA, .slice G.AO G.ou.length G.cO], .int .i64 k] w fun e w' => e = .returned (.bool true) ∧ Below w.heap.size w w' := by
  have X0 := Lib.hid (Blk.made w 26 #[.int .i64 G.I, .slice G.AF G.fl.length G.cF, .slice G.AA G.an.length G.cA, .slice G.AO G.ou.length G.cO])
  have Q0 := Lib.hid (below_new w (.cells #[.int .i64 G.I, .slice G.AF G.fl.length G.cF, .slice G.AA G.an.length G.cA, .slice G.AO G.ou.length G.cO] 26))
  have HIN := Lib.hid hin
  have HWF := Lib.hid hwf
  have HC := Lib.hid hcols
  clear hin hwf hcols
  have hf0 := few24_any G
  have HF := Lib.hid hf0
  clear hf0
  go_enter Tryd.func5, Tryd.ntmps5
  go_wp2_with fail
  refine (live24_any _ (HC.out.below Q0.out)).mono ?_
  rintro e1 w1 ⟨rfl, hb1⟩
  have Q1 := Lib.hid (below_then Q0.out hb1)
  have X1 := Lib.hid (X0.out.keep hb1)
  clear hb1
  have k0 := X1.out.cell 0
  have k1 := X1.out.cell 1
  have k2 := X1.out.cell 2
  have k3 := X1.out.cell 3
  go_wp2_with fail
  refine (HF.out _).mono ?_
  rintro e1 w2 ⟨rfl, hb2⟩
  have Q2 := Lib.hid (below_then Q1.out hb2)
  have X2 := Lib.hid (X1.out.keep hb2)
  clear hb2 k0 k1 k2 k3 X1
  by_cases hs : few24 G
  case neg =>
    rw [show decide (few24 G) = false from decide_eq_false hs]
    go_wp2_with fail
    go_ret
    exact ⟨rfl, Q2.out⟩
  rw [show decide (few24 G) = true from decide_eq_true hs]
  have HS := Lib.hid hs
  clear hs
  have k0 := X2.out.cell 0
  have k1 := X2.out.cell 1
  have k2 := X2.out.cell 2
  have k3 := X2.out.cell 3
  by_cases hm : G.may k
  case neg =>
    go_wp2_with fail
    refine (call_any G k w2 (HIN.out.later Q2.out) (few24_fit HS.out) HWF.out (HC.out.below Q2.out)).mono ?_
    rintro e1 w3 ⟨-, h3⟩
    obtain ⟨rfl, hb3⟩ := h3 hm
    have Q3 := Lib.hid (below_then Q2.out hb3)
    clear hb3 h3 k0 k1 k2 k3 X2
    go_wp2_with fail
    go_ret
    exact ⟨rfl, Q3.out⟩
  have HM := Lib.hid hm
  have hcn : G.cn ≤ 1000 := by have h1 := HS.out.1; have h2 := HS.out.2.1; have h3 := HS.out.2.2.1; unfold AG.cn AG.fst; omega
  have HCN := Lib.hid hcn
  clear hm hcn
  go_wp2_with fail
  refine (call_any G k w2 (HIN.out.later Q2.out) (few24_fit HS.out) HWF.out (HC.out.below Q2.out)).mono ?_
  rintro e1 w3 ⟨h3, -⟩
  obtain ⟨AO, cO, rs, AX, cX, rfl, hst3⟩ := h3 HM.out
  have Q3 := Lib.hid (below_then Q2.out hst3.1)
  have X3 := Lib.hid (X2.out.keep hst3.1)
  have R3 := Lib.hid hst3.2.1.rows
  have P3 := hst3.2.2
  have hn : rs.length = G.cn := by
    have := (G.bothTo_len k (G.cn - 1)).1
    rw [← P3, plainR_len] at this
    have : 0 < G.cn := by unfold AG.cn AG.fst; omega
    omega
  have hrow : ∀ x (h : x < rs.length), RiseOk G k x (pcs rs[x].2.2) := fun x h => by
    rw [← plainR_at h, P3, G.rowAt_eq k (show x ≤ G.cn - 1 by omega)]
    exact riseOk HM.out (by omega)
  have HROW := Lib.hid hrow
  have HNN := Lib.hid (show rs.length ≤ 1000 by have := HCN.out; omega)
  obtain ⟨n, hnn⟩ : ∃ n, rs.length = n := ⟨_, rfl⟩
  have HN := Lib.hid hnn
  rw [hnn]
  clear hst3 hrow hn hnn P3 k0 k1 k2 k3 X2
  go_wp2_with fail
  go_loopw [8] (fun v8 wx => ∃ x : Nat, x ≤ n ∧ v8 = .int .i64 (x : Int) ∧ Below w3.heap.size w3 wx) (fun v8 _ => n - (intOf v8).toNat)
  case atStart => exact ⟨0, by omega, rfl, Below.refl _ _⟩
  case round =>
    obtain ⟨x, hx, rfl, hB⟩ := hrel
    have B1 := Lib.hid hB
    clear hB
    by_cases hxn : x < n
    case neg =>
      have hlt : ¬ (x : Int) < (n : Int) := by omega
      go_wp2_with fail
      go_ret
      exact ⟨rfl, below_then Q3.out B1.out⟩
    have hxn' : (x : Int) < (n : Int) := by omega
    have hn1000 : n ≤ 1000 := by rw [← HN.out]; exact HNN.out
    have h1 : x < rs.length := by rw [HN.out]; exact hxn
    obtain ⟨po, hAO, hpb, d0, hca⟩ := R3.out.at_ h1
    have hrw := HROW.out x h1
    subst hAO
    generalize rs[x] = ra at d0 hca hrw
    obtain ⟨a1, a2, a3⟩ := ra
    simp only [crv] at d0 hca hrw
    obtain ⟨m, hm⟩ : ∃ m, a3.length = m := ⟨_, rfl⟩
    have HM3 := Lib.hid hm
    have HPM := Lib.hid (show (pcs a3).length = m by unfold pcs; rw [List.length_map]; exact hm)
    have HCA := Lib.hid hca
    have HRW := Lib.hid hrw
    rw [hm] at d0
    have HPB := Lib.hid (show (po.add x).block < w3.heap.size by rw [add_block]; exact hpb)
    have D0 := Lib.hid d0
    have hm9 : 1 ≤ m ∧ m ≤ 9 := by rw [← HPM.out]; exact HRW.out.len
    clear hca hrw hm d0 hpb
    have d1 := (B1.out.cell HPB.out).trans D0.out
    go_wp2_with fail
    go_loopw [9] (fun v9 wx => ∃ i : Nat, i ≤ m ∧ v9 = .int .i64 (i : Int) ∧ Below w3.heap.size w3 wx) (fun v9 _ => m - (intOf v9).toNat)
    case atStart => exact ⟨0, by omega, rfl, B1.out⟩
    case round =>
      obtain ⟨i, hi, rfl, hB⟩ := hrel
      have B2 := Lib.hid hB
      clear hB
      have d2 := (B2.out.cell HPB.out).trans D0.out
      by_cases him : i < m
      case neg =>
        obtain rfl : i = m := by omega
        have hlt : ¬ (i : Int) < (i : Int) := by omega
        have g1 : ¬ (i : Int) < 1 := by omega
        have g2 : decide (9 < (i : Int)) = false := decide_eq_false (by omega)
        have g3 : ¬ (9 : Int) < (i : Int) := by omega
        by_cases hx0 : 0 < x
        case neg =>
          have g4 : decide (0 < x) = false := decide_eq_false hx0
          go_wp2_with fail
          go_roundw
          case rel => exact ⟨x + 1, by omega, by go_num, B2.out⟩
          case measure => simp [intOf]; omega
        have g4 : decide (0 < x) = true := decide_eq_true hx0
        obtain ⟨j, hj⟩ : ∃ j, i = j + 1 := ⟨i - 1, by omega⟩
        have hj3 : j < a3.length := by rw [HM3.out]; omega
        obtain ⟨pa, hA, hpa, f0, -, hsl⟩ := HCA.out.at_ hj3
        have hct := HRW.out.last hx0 (by rw [HPM.out]; omega)
        have hidx : (pcs a3).length - 1 = j := by rw [HPM.out]; omega
        have hct2 : a3[j].1.2.2 = [(x : Int)] := by
          simp only [hidx] at hct
          simpa [pcs] using hct
        subst hA
        generalize a3[j] = ci at f0 hsl hct2
        obtain ⟨⟨l1, l2, l3⟩, lt⟩ := ci
        simp only [slv] at f0 hsl hct2
        subst hct2
        simp only [List.length_singleton] at f0
        have hpa1 : (pa.add (j * 2)).block < w3.heap.size := by rw [add_block]; exact hpa
        have f0 := (B2.out.cell hpa1).trans f0
        have g5 : (i : Int) - 1 = (j : Int) := by omega
        have g6 : (j : Int) < (i : Int) := by omega
        have HSL := Lib.hid (fun (W : World) (h : Below w3.heap.size w3 W) => Rd.later hsl h)
        clear hsl hct hidx hj
        go_wp2_with fail
        refine (rints_any _ l1 (some ⟨wr.heap.size, 0, none⟩) l2 1 [(x : Int)] [(x : Int)] (HSL.out _ (below_then B2.out (below_new wr _))) (rd_new wr 3 [.int .i64 (x : Int)]) (by simp)).mono ?_
        rintro e1 w5 ⟨rfl, hb5⟩
        rw [show decide ([(x : Int)] = [(x : Int)]) = true from decide_eq_true rfl]
        have B5 := Lib.hid (below_then (below_then B2.out (below_new wr _)) hb5)
        clear hb5
        go_wp2_with fail
        go_roundw
        case rel => exact ⟨x + 1, by omega, by go_num, B5.out⟩
        case measure => simp [intOf]; omega
      have him' : (i : Int) < (m : Int) := by omega
      have hi3 : i < a3.length := by rw [HM3.out]; exact him
      obtain ⟨pa, hA, hpa, f0, f1, hsl⟩ := HCA.out.at_ hi3
      have hct := HRW.out.cut i (by rw [HPM.out]; exact him)
      simp only [pcs, List.getElem_map] at hct
      subst hA
      obtain ⟨ci, hci⟩ : ∃ c, a3[i] = c := ⟨_, rfl⟩
      have HCI := Lib.hid hci
      rw [hci] at f0 f1 hsl hct
      obtain ⟨⟨l1, l2, l3⟩, lt⟩ := ci
      simp only [slv] at f0 f1 hsl hct
      have hpa1 : (pa.add (i * 2)).block < w3.heap.size := by rw [add_block]; exact hpa
      have f0 := (B2.out.cell hpa1).trans f0
      have hpa2 : (⟨(pa.add (i * 2)).block, (pa.add (i * 2)).off + 1, none⟩ : Addr).block < w3.heap.size := hpa1
      have f1 := (B2.out.cell hpa2).trans f1
      have hl3 : l3.length ≤ 6 := hct.2.2.1
      have HSL := Lib.hid (fun (W : World) (h : Below w3.heap.size w3 W) => Rd.later hsl h)
      have HCT := Lib.hid hct
      obtain ⟨q, hq⟩ : ∃ q, l3.length = q := ⟨_, rfl⟩
      have HQL := Lib.hid hq
      have hqk : ¬ k < (q : Int) := by have := hct.2.2.2.1; rw [hq] at this; omega
      rw [hq] at f0 hl3
      clear hsl hct hci hq
      have HR := Lib.hid (fun (W : World) (h : Below w3.heap.size w3 W) => lrises_yes l1 l2 l3 (x : Int) W (HSL.out W h) (by have := HCT.out.2.2.1; omega) HCT.out.1 HCT.out.2.1)
      have CK := Lib.hid (fun (W : World) (h : Below w3.heap.size w3 W) => ccheck24_any G l1 l2 l3 (x : Int) lt W ((HIN.out.later Q3.out).later h) (few24_fit HS.out) HWF.out (HSL.out W h) (by have := HCT.out.2.2.1; omega) ((HC.out.below Q3.out).below h))
      rw [HCT.out.2.2.2.2, show cutE (some lt) lt = 0 by simp [cutE]] at CK
      rw [HQL.out] at HR CK
      have Y0 := Lib.hid (Blk.made wr 34 #[.slice l1 q l2, .int .u64 (lt : Int)])
      have B3 := Lib.hid (below_then B2.out (below_new wr (.cells #[.slice l1 q l2, .int .u64 (lt : Int)] 34)))
      go_wp2_with fail
      refine (HR.out _ B3.out).mono ?_
      rintro e1 w5 ⟨rfl, hb5⟩
      have Y5 := Lib.hid (Y0.out.keep hb5)
      have B5 := Lib.hid (below_then B3.out hb5)
      have X5 := Lib.hid (X3.out.keep B5.out)
      clear hb5 Y0 B3 f0 f1 d1 d2
      have k0 := X5.out.cell 0
      have k1 := X5.out.cell 1
      have k2 := X5.out.cell 2
      have k3 := X5.out.cell 3
      have y0 := Y5.out.cell 0
      have y1 := Y5.out.cell 1
      go_wp2_with fail
      refine (CK.out _ B5.out).mono ?_
      rintro e1 w6 ⟨rfl, hb6⟩
      have Y6 := Lib.hid (Y5.out.keep hb6)
      have B6 := Lib.hid (below_then B5.out hb6)
      clear hb6 k0 k1 k2 k3 y0 y1 X5 Y5
      go_wp2_with fail
      go_loopw [11] (fun v11 wx => ∃ j : Nat, j ≤ i ∧ v11 = .int .i64 (j : Int) ∧ Below w6.heap.size w6 wx) (fun v11 _ => i - (intOf v11).toNat)
      case atStart => exact ⟨0, by omega, rfl, Below.refl _ _⟩
      case round =>
        obtain ⟨j, hj, rfl, hB⟩ := hrel
        have B7 := Lib.hid hB
        clear hB
        by_cases hji : j < i
        case neg =>
          have hlt : ¬ (j : Int) < (i : Int) := by omega
          have B8 := Lib.hid (below_then B6.out B7.out)
          go_wp2_with fail
          go_roundw
          case rel => exact ⟨i + 1, by omega, by go_num, B8.out⟩
          case measure => simp [intOf]; omega
        have hji' : (j : Int) < (i : Int) := by omega
        have hjm' : (j : Int) < (m : Int) := by omega
        have B8 := Lib.hid (below_then B6.out B7.out)
        have Y7 := Lib.hid (Y6.out.keep B7.out)
        have d3 := (B8.out.cell HPB.out).trans D0.out
        have hj3 : j < a3.length := by rw [HM3.out]; omega
        have hon := HRW.out.one i j (by rw [HPM.out]; exact him) hji
        simp only [pcs, List.getElem_map] at hon
        rw [HCI.out] at hon
        have hcj := HRW.out.cut j (by rw [HPM.out]; omega)
        simp only [pcs, List.getElem_map] at hcj
        have hcl := hcj.2.2.1
        clear hcj
        obtain ⟨pb, hB, hpb, g0, -, hsl⟩ := HCA.out.at_ hj3
        obtain rfl := Option.some.inj hB
        generalize a3[j] = cj at g0 hsl hon hcl
        obtain ⟨⟨m1, m2, m3⟩, mt⟩ := cj
        simp only [slv] at g0 hsl hon hcl
        have hpb1 : (pa.add (j * 2)).block < w3.heap.size := by rw [add_block]; exact hpb
        have g0 := (B8.out.cell hpb1).trans g0
        have y0 := Y7.out.cell 0
        have HSJ := Lib.hid hsl
        have HI := Lib.hid (fun (W : World) (h : Below wr.heap.size wr W) => rints_any W m1 l1 m2 l2 m3 l3 (Rd.later HSJ.out (below_then B8.out h)) (HSL.out W (below_then B8.out h)) (by omega))
        rw [show decide (m3 = l3) = false from decide_eq_false hon, HQL.out] at HI
        clear hsl hon hB hcl
        go_wp2_with fail
        refine wp_region_still_in (by kernel_rfl) (by kernel_rfl) fun St9 ne9 V9 hV9 hS9 => ?_
        have qd3 := still_cell hV9 d3
        have qg0 := still_cell hV9 g0
        have qy0 := still_cell hV9 y0
        repeat (first | go_big_quiet_step ((go_at_call 19; exact Calls.still hV9 hS9 (HI.out _ (hV9 _)))) | quiet_step ((go_at_call 19; exact Calls.still hV9 hS9 (HI.out _ (hV9 _)))))
        refine wpQuiet_nil ?_
        intro _ hw9
        obtain ⟨s9, rfl⟩ := hw9
        have hb9 := hV9 s9
        clear qd3 qg0 qy0 hS9
        generalize V9 s9 = w9 at hb9 ⊢
        clear hV9 s9 V9 ne9 St9
        have B9 := Lib.hid (below_then B7.out hb9)
        clear hb9 g0 y0
        go_wp2_with fail
        go_roundw
        case rel => exact ⟨j + 1, by omega, by go_num, B9.out⟩
        case measure => simp [intOf]; omega

set_option maxRecDepth 100000 in
theorem cutsRise_lifted (os : Os) (started : os.Started) (H : Type) (enc : TypeId × Value → H) :
    ReturnsInHanded {} Tryd.checked os 5 .any (fun w args => (Rows.cutsRiseSpec.pre enc Tryd.prog Tryd.f5 [] false w args ∧ laidMetH Tryd.prog laidC w) ∧ sizedMet enc Tryd.prog Tryd.f5 (OpenSpec.ofChange Rows.cutsRiseSpec) false w args)
      (Rows.cutsRiseSpec.post enc Tryd.prog Tryd.f5 false true false false) := by
  have hr : ∀ t ∈ Tryd.f5.params.toList, Tryd.prog.readableRec t = true ∧ t < Tryd.prog.types.size := by
    have h : Tryd.f5.params.toList.all (fun t => Tryd.prog.readableRec t && decide (t < Tryd.prog.types.size)) = true := by kernel_rfl
    intro t ht
    simpa using List.all_eq_true.1 h t ht
  refine returnsInHanded_of_change_and (C := Tryd.checked) (X := fun w _ => laidMetH Tryd.prog laidC w) (fun _ _ _ hh h => h.of_heap hh) own started (by kernel_rfl) Tryd.func5
    (ChangeSpec.witness_shaped (enc := enc) (C := Tryd.checked) (os := os) (X := fun w _ => laidMetH Tryd.prog laidC w) false (World.doorLaid Tryd.prog 400 os) #[.agg #[.int .i64 0, .slice none 0 0, .slice none 0 0, .slice none 0 0], .int .i64 0] 8 rfl (World.shaped_of_RefB (by kernel_rfl) (by kernel_rfl)) (by kernel_rfl) (by kernel_rfl) (by kernel_rfl) (door_met os _)) ?_
  intro W base args ds gs before hval0 hW _ _ hL _
  have hcols := cols_of_laid hL
  have hval : ∀ (j : Nat) t v, Tryd.f5.params[j]? = some t → args[j]? = some v → Value.okWide Tryd.prog W .any base t v := hval0
  have hW' := hW
  obtain ⟨p, q, hA0, hV, rfl, hfz, hnd⟩ := hW
  have hA1 : DataW.TrodAll enc Tryd.prog W 0 (fun _ => true) true Tryd.f5.params.toList args.toList ds p := hA0
  have hA := hA1
  rw [Tryd.params5] at hA hval
  obtain ⟨v0, vs0, d0, ds0, p0, q0, hargs, rfl, rfl, h0, r0⟩ := trodAll_cons hA
  obtain ⟨v1, vs1, d1, ds1, p1, q1, rfl, rfl, rfl, h1, r1⟩ := trodAll_cons r0
  obtain ⟨rfl, rfl, rfl⟩ := trodAll_nil r1
  obtain rfl : args = #[v0, v1] := by cases args; simp_all
  obtain ⟨rfl, rfl⟩ := trodVars_none hV
  obtain ⟨G0, rfl, hin0, hwf0⟩ := open_aig (hval 0 26 v0 rfl rfl) h0
  obtain ⟨a1, rfl, rfl, rfl, w1⟩ := open_int Tryd.underlying3 (hval 1 3 v1 rfl rfl) h1
  clear hA0 hval0
  simp only [List.append_nil] at hW' hA1
  refine (cutsRise_walk G0 a1 W hin0 hwf0 hcols).mono fun e W' ⟨he, hb⟩ => ?_
  subst he
  exact ⟨_, rfl, law_post laidOut hr rfl hW' hA1 rfl rfl Tryd.underlying4 hb⟩

theorem cutsRise_over : Rows.cutsRiseRow.holds Tryd.pinned (OpenSpec.ofChange Rows.cutsRiseSpec) :=
  OpenClaim.holds_of_wide 5 Tryd.f5 rfl rfl rfl rfl rfl rfl rfl ⟨rfl, rfl, rfl, rfl, rfl⟩ rfl rfl rfl rfl rfl (by kernel_rfl) Tryd.func5 (by kernel_rfl)
    (of_decide_eq_true (by kernel_rfl)) (by unfold Func.isWrapper; first | (rw [if_pos (by decide +kernel)]; kernel_rfl) | (rw [if_neg (by decide +kernel)]; exact ⟨rfl, rfl⟩))
    (fun os started H enc _ => cutsRise_lifted os started H enc)

/-- the card -/
theorem cutsRiseCard_holds : Rows.CutsRiseCardSaid :=
  Claim7.holds_tied_plain_at .later [] [.data] true Rows.cutsRiseCard.stood.harness false
    cutsRise_over (fun _ h => by cases h) (by kernel_rfl) (fun _ h => by cases h) cutsRise_row_tie rfl ⟨rfl, rfl⟩ (by kernel_rfl) rfl
    (fun f fn hf hfn => by
      obtain rfl : f = 5 := Option.some.inj ((show Tryd.prog.funcNamed "filigree/filigreelaw24.CutsRise" = some 5 by kernel_rfl).symm.trans hf) |>.symm
      obtain rfl : fn = Tryd.f5 := (Option.some.inj (Tryd.func5.symm.trans hfn)).symm
      exact ⟨by kernel_rfl, fun j t ht => by
        have hall : (Tryd.f5.params.toList.all fun u => !Tryd.prog.wantsStandIn u) = true := by kernel_rfl
        have hm : t ∈ Tryd.f5.params.toList := by
          have := Array.mem_of_getElem? ht
          simpa using this
        exact (show Tryd.prog.wantsStandIn t = false by simpa using List.all_eq_true.1 hall t hm)⟩)
    (by kernel_rfl)
#print axioms cutsRiseCard_holds
end Go.Proofs.YtkhlllbceceikaaDoor
