/- The law FabricPads: a pad is near all tracks of one place at the border, and near nothing else. For every fabric and all numbers; no condition. -/
import Derived.Test.YtfclfhgnfjmofaaLNear
import Derived.Deep.RegionHeld3
namespace Go.Proofs.Ytfclfhgnfjmofaa
open Go.ChangeShapes Go.WideShapes Go.ChangeAt Go.RowKit Go.Joins
set_option linter.unusedVariables false
set_option linter.unusedSimpArgs false

theorem fabricPads_large (W H T p : Int) (w : World) (hs : smallB W H T = false) :
    Calls Try.prog 12 #[.agg #[.int .i64 W, .int .i64 H, .int .i64 T], .int .i64 p] w fun e w' => e = .returned (.bool true) ∧ Below w.heap.size w w' := by
  have Q0 := below_new w (.cells #[.int .i64 W, .int .i64 H, .int .i64 T] 23)
  have B0 := Box3.new w (.int .i64 W) (.int .i64 H) (.int .i64 T) 23
  go_enter Try.func12, Try.ntmps12
  go_wp2_with fail
  refine (live_any _).mono ?_
  rintro e w1 ⟨rfl, hb1⟩
  have Q1 := below_then Q0 hb1
  have B1 := Box3.below B0 hb1
  obtain ⟨z1, k0, k1, k2⟩ := id B1
  clear hb1
  go_wp2_with fail
  refine (small_any _ _ _ _).mono ?_
  rintro e w2 ⟨rfl, hb2⟩
  have Q2 := below_then Q1 hb2
  clear hb2
  go_wp2_with fail
  go_ret
  exact ⟨rfl, Q2⟩

theorem fabricPads_no (W H T p : Int) (w : World) (hs : smallB W H T = true) (hE : nodeE W H T 2 p 0 0 = 1) (hN : nodeN W H T 2 p 0 0 = 0) :
    Calls Try.prog 12 #[.agg #[.int .i64 W, .int .i64 H, .int .i64 T], .int .i64 p] w fun e w' => e = .returned (.bool true) ∧ Below w.heap.size w w' := by
  have Q0 := below_new w (.cells #[.int .i64 W, .int .i64 H, .int .i64 T] 23)
  have B0 := Box3.new w (.int .i64 W) (.int .i64 H) (.int .i64 T) 23
  go_enter Try.func12, Try.ntmps12
  go_wp2_with fail
  refine (live_any _).mono ?_
  rintro e w1 ⟨rfl, hb1⟩
  have Q1 := below_then Q0 hb1
  have B1 := Box3.below B0 hb1
  obtain ⟨z1, k0, k1, k2⟩ := id B1
  clear hb1
  go_wp2_with fail
  refine (small_any _ _ _ _).mono ?_
  rintro e w2 ⟨rfl, hb2⟩
  have Q2 := below_then Q1 hb2
  have B2 := Box3.below B1 hb2
  clear hb2 z1 k0 k1 k2
  obtain ⟨z2, k0, k1, k2⟩ := id B2
  go_wp2_with fail
  refine (pad_any _ _ _ _ _).mono ?_
  rintro e w3 ⟨rfl, hb3⟩
  have Q3 := below_then Q2 hb3
  clear hb3 z2 k0 k1 k2
  rw [hE, hN]
  clear hE hN
  go_wp2_with fail
  go_ret
  exact ⟨rfl, Q3⟩

set_option maxRecDepth 100000 in
set_option maxHeartbeats 8000000 in
theorem fabricPads_yes (W H : Int) (n : Nat) (p : Int) (w : World) (hs : smallB W H n = true) (h : okA W H n) (hp : 0 ≤ p ∧ p < 2 * W + 2 * H) (K X Y : Int) (hor : (K = 4 ∧ (Y = 0 ∨ Y = H)) ∨ (K = 5 ∧ (X = 0 ∨ X = W)))
    (hK : ((brC W H p : Nat) : Int) + 1 = K) (hX : brX W H p = X) (hY : brY W H p = Y) :
    Calls Try.prog 12 #[.agg #[.int .i64 W, .int .i64 H, .int .i64 n], .int .i64 p] w fun e w' => e = .returned (.bool true) ∧ Below w.heap.size w w' := by
  have hh := h
  unfold okA at hh
  obtain ⟨hN, hg, hx, hE⟩ := pad_at h hp
  obtain ⟨hc, ho⟩ := br_ok h hp
  have hnear := pad_near h hp
  have hall : ∀ k, k < n → whK W H n ((trk W H n (brC W H p) (brX W H p) (brY W H p) n).getD k 0) = K ∧ whX W H n ((trk W H n (brC W H p) (brX W H p) (brY W H p) n).getD k 0) = X ∧ whY W H n ((trk W H n (brC W H p) (brX W H p) (brY W H p) n).getD k 0) = Y ∧ whT W H n ((trk W H n (brC W H p) (brX W H p) (brY W H p) n).getD k 0) = (k : Int) ∧ whE W H n ((trk W H n (brC W H p) (brX W H p) (brY W H p) n).getD k 0) = 0 := by
    intro k hk
    have e : (trk W H n (brC W H p) (brX W H p) (brY W H p) n).getD k 0 = nodeN W H n (brC W H p) (brX W H p) (brY W H p) (k : Int) := by
      rw [List.getD_eq_getElem?_getD, List.getElem?_eq_getElem (by rw [trk_length]; exact hk)]
      simp [trk]
    rw [e]
    obtain ⟨a1, a2, a3, a4, a5, -⟩ := track_at h hc ho (t := (k : Int)) ⟨by omega, by omega⟩
    obtain ⟨v1, v2, v3, v4, v5⟩ := wh_yes a1
    rw [v1, v2, v3, v4, v5, a2, a3, a4, a5]
    exact ⟨hK, hX, hY, rfl, rfl⟩
  have hnm : nearL W H n (nodeN W H n 2 p 0 0) = trk W H n (brC W H p) (brX W H p) (brY W H p) n := hnear
  obtain ⟨M, hM⟩ : ∃ M, trk W H n (brC W H p) (brX W H p) (brY W H p) n = M := ⟨_, rfl⟩
  have hMl : M.length = n := by rw [← hM, trk_length]
  rw [hM] at hall hnm
  obtain ⟨nd, hnd⟩ : ∃ nd, nodeN W H n 2 p 0 0 = nd := ⟨_, rfl⟩
  rw [hnd] at hnm hN
  have HALL := Lib.hid hall
  have HNM := Lib.hid hnm
  have HML := Lib.hid hMl
  have HN := Lib.hid hN
  have HOR := Lib.hid hor
  have hHW : (H != 0) = true ∧ (W != 0) = true := ⟨by simp; omega, by simp; omega⟩
  obtain ⟨hH0, hW0⟩ := hHW
  have hn0 : 0 < n := by omega
  have hn1 : (n : Int) ≤ 64 := by omega
  clear hall hnm hMl hM hnear hor hh hN hg hx hc ho
  have Q0 := below_new w (.cells #[.int .i64 W, .int .i64 H, .int .i64 n] 23)
  have B0 := Box3.new w (.int .i64 W) (.int .i64 H) (.int .i64 n) 23
  go_enter Try.func12, Try.ntmps12
  go_wp2_with fail
  refine (live_any _).mono ?_
  rintro e w1 ⟨rfl, hb1⟩
  have Q1 := below_then Q0 hb1
  have B1 := Box3.below B0 hb1
  obtain ⟨z1, k0, k1, k2⟩ := id B1
  clear hb1
  go_wp2_with fail
  refine (small_any _ _ _ _).mono ?_
  rintro e w2 ⟨rfl, hb2⟩
  have Q2 := below_then Q1 hb2
  have B2 := Box3.below B1 hb2
  clear hb2 z1 k0 k1 k2
  obtain ⟨z2, k0, k1, k2⟩ := id B2
  go_wp2_with fail
  refine (pad_any _ _ _ _ _).mono ?_
  rintro e w3 ⟨rfl, hb3⟩
  have Q3 := below_then Q2 hb3
  have B3 := Box3.below B2 hb3
  clear hb3 z2 k0 k1 k2
  obtain ⟨z3, k0, k1, k2⟩ := id B3
  rw [hE, hnd]
  clear hE hnd
  go_wp2_with fail
  refine (pnear_any _ _ _ _ _).mono ?_
  rintro e w4 ⟨A4, c4, rfl, hb4, ho4⟩
  have Q4 := Lib.hid (below_then Q3 hb4)
  have B4 := Lib.hid (Box3.below B3 hb4)
  rw [show nearE W H n nd = 0 from if_pos HN.out]
  rw [show nearO W H n nd = nearL W H n nd from if_pos HN.out, HNM.out, HML.out] at ho4 ⊢
  obtain ⟨g, c, hv, hbase, hlt⟩ := ho4.form hn0
  have hA : A4 = some ⟨g, 0, none⟩ := by injection hv
  subst hA
  have R4 := Lib.hid (Rd.of_own ho4)
  obtain ⟨a0, ha0, -, c0⟩ := (Rd.of_own ho4).int (k := 0) hn0
  obtain rfl := Option.some.inj ha0
  rw [show (Addr.add ⟨g, 0, none⟩ 0) = ⟨g, 0, none⟩ from rfl] at c0
  obtain ⟨v1, v2, v3, -, -⟩ := HALL.out 0 hn0
  generalize M.getD 0 0 = m0 at c0 v1 v2 v3
  clear hb4 z3 k0 k1 k2 ho4 hv B0 B1 B2 B3 Q0 Q1 Q2 Q3 ha0
  obtain ⟨z4, k0, k1, k2⟩ := B4.out
  have V1 := Lib.hid v1
  have V2 := Lib.hid v2
  have V3 := Lib.hid v3
  clear v1 v2 v3
  go_wp2_with fail
  go_region_held3 (fun w' => w'.cell? ⟨w.heap.size, 0, none⟩ = some (.int .i64 W) ∧ w'.cell? ⟨w.heap.size, 1, none⟩ = some (.int .i64 H) ∧ w'.cell? ⟨w.heap.size, 2, none⟩ = some (.int .i64 n) ∧ w'.cell? ⟨g, 0, none⟩ = some (.int .i64 m0)) (go_keep) ((first | (go_at_call 40; refine (what_any _ _ _ _ _).mono ?_; rintro e w5 ⟨rfl, hb5⟩; have hb5 := below_of_drew hb5; have Q5 := Lib.hid (below_then Q4.out hb5); have B5 := Lib.hid (Box3.below B4.out hb5); have R5 := Lib.hid (R4.out.later hb5); have c5 := (hb5.cell (p := ⟨g, 0, none⟩) hlt).trans c0; have P5 := Lib.hid hb5; clear hb5; obtain ⟨z5, k50, k51, k52⟩ := B5.out)))
  rw [V1.out, V2.out, V3.out]
  rcases HOR.out with ⟨rfl, rfl | rfl⟩ | ⟨rfl, rfl | rfl⟩
  all_goals
    clear HOR
    go_wp2_with fail
    go_loopw [98] (fun i wx => ∃ k : Nat, k ≤ n ∧ i = .int .i64 (k : Int) ∧ Below w.heap.size w wx ∧ Below w4.heap.size w4 wx) (fun i _ => n - (intOf i).toNat)
    case atStart => exact ⟨0, by omega, rfl, Q5.out, P5.out⟩
    case round =>
      obtain ⟨k, hk, rfl, hb, hb4⟩ := hrel
      have HB := Lib.hid hb
      have HB4 := Lib.hid hb4
      have BX := Lib.hid (Box3.below B4.out hb4)
      obtain ⟨zr, r0, r1, r2⟩ := BX.out
      clear k50 k51 k52 c5 z5 k0 k1 k2 z4 hb hb4 c0
      by_cases hlt2 : k < n
      · obtain ⟨a, ha, -, c0⟩ := (R4.out.later HB4.out).int hlt2
        obtain rfl := Option.some.inj ha
        rw [show Addr.add ⟨g, 0, none⟩ k = ⟨g, k, none⟩ by simp [Addr.add]; exact fun h => h.symm] at c0
        obtain ⟨v1, v2, v3, v4, v5⟩ := HALL.out k hlt2
        generalize M.getD k 0 = mk at c0 v1 v2 v3 v4 v5
        have W1 := Lib.hid v1
        have W2 := Lib.hid v2
        have W3 := Lib.hid v3
        have W4 := Lib.hid v4
        have W5 := Lib.hid v5
        clear v1 v2 v3 v4 v5 ha
        go_wp2_with fail
        refine (what_any _ _ _ _ _).mono ?_
        rintro e w6 ⟨rfl, hb6⟩
        rw [W1.out, W2.out, W3.out, W4.out, W5.out]
        have Q6 := Lib.hid (HB.out.trans (hb6.mono HB.out.size))
        have P6 := Lib.hid (HB4.out.trans (hb6.mono HB4.out.size))
        clear hb6 r0 r1 r2 zr c0
        go_wp2_with fail
        go_roundw
        case rel => exact ⟨k + 1, by omega, by go_num, Q6.out, P6.out⟩
        case measure => simp [intOf]; omega
      · obtain rfl : k = n := by omega
        go_wp2_with fail
        go_ret
        exact ⟨rfl, HB.out⟩

theorem fabricPads_walk (W H T p : Int) (w : World) :
    Calls Try.prog 12 #[.agg #[.int .i64 W, .int .i64 H, .int .i64 T], .int .i64 p] w fun e w' => e = .returned (.bool true) ∧ Below w.heap.size w w' := by
  cases hs : smallB W H T with
  | false => exact fabricPads_large W H T p w hs
  | true =>
    by_cases h : okA W H T
    · by_cases hp : 0 ≤ p ∧ p < 2 * W + 2 * H
      · have hh := h
        unfold okA at hh
        obtain ⟨n, rfl⟩ : ∃ n : Nat, T = (n : Int) := ⟨T.toNat, by omega⟩
        refine fabricPads_yes W H n p w hs h hp _ _ _ ?_ rfl rfl rfl
        unfold brC brX brY
        by_cases c : p < 2 * W
        · simp only [if_pos c]
          refine .inl ⟨rfl, ?_⟩
          by_cases d : p < W
          · simp only [if_pos d]; exact .inl trivial
          · simp only [if_neg d]; exact .inr trivial
        · have d : ¬ p < W := by omega
          simp only [if_neg c, if_neg d]
          refine .inr ⟨rfl, ?_⟩
          by_cases f : p < 2 * W + H
          · simp only [if_pos f]; exact .inl trivial
          · simp only [if_neg f]; exact .inr trivial
      · have hng : ¬ inG W H T 2 p 0 0 := by
          unfold inG
          simp only [gw, gh, gd]
          omega
        exact fabricPads_no W H T p w hs (by unfold nodeE; rw [if_neg fun x => hng x.2]) (by unfold nodeN; rw [if_neg fun x => hng x.2])
    · exact fabricPads_no W H T p w hs (by unfold nodeE; rw [if_neg fun x => h x.1]) (by unfold nodeN; rw [if_neg fun x => h x.1])

set_option maxRecDepth 100000 in
theorem fabricPads_lifted (os : Os) (started : os.Started) (H : Type) (enc : TypeId × Value → H) :
    ReturnsInHanded {} Try.checked os 12 .any (Rows.fabricPadsSpec.pre6 enc Try.prog Try.f12 Rows.fabricPadsRow.domain false) (Rows.fabricPadsSpec.post enc Try.prog Try.f12 false true false false) := by
  have hr : ∀ t ∈ Try.f12.params.toList, Try.prog.readableRec t = true ∧ t < Try.prog.types.size := by
    have h : Try.f12.params.toList.all (fun t => Try.prog.readableRec t && decide (t < Try.prog.types.size)) = true := by kernel_rfl
    intro t ht
    simpa using List.all_eq_true.1 h t ht
  refine returnsInHanded_of_change (C := Try.checked) own started (by kernel_rfl) Try.func12
    (ChangeSpec.witness6 (enc := enc) (C := Try.checked) false ⟨#[], #[.agg #[.int .i64 0, .int .i64 0, .int .i64 0], .int .i64 0], []⟩ 8 (by kernel_rfl) (by kernel_rfl) (by kernel_rfl) (by kernel_rfl)) ?_
  intro W base args ds gs before hval0 hW hcnd _
  have hval : ∀ (j : Nat) t v, Try.f12.params[j]? = some t → args[j]? = some v → Value.okWide Try.prog W .any base t v := hval0
  have hW' := hW
  obtain ⟨p, q, hA0, hV, rfl, hfz, hnd⟩ := hW
  have hA1 : DataW.TrodAll enc Try.prog W 0 (fun _ => true) true Try.f12.params.toList args.toList ds p := hA0
  have hA := hA1
  rw [Try.params12] at hA hval
  obtain ⟨v0, vs0, d0, ds0, p0, q0, hargs, rfl, rfl, h0, r0⟩ := trodAll_cons hA
  obtain ⟨v1, vs1, d1, ds1, p1, q1, rfl, rfl, rfl, h1, r1⟩ := trodAll_cons r0
  obtain ⟨rfl, rfl, rfl⟩ := trodAll_nil r1
  obtain rfl : args = #[v0, v1] := by cases args; simp_all
  obtain ⟨rfl, rfl⟩ := trodVars_none hV
  obtain ⟨c0, c1, c2, y0, y1, y2, m, rfl, rfl, rfl, hy0, hy1, hy2⟩ := open_agg3 Try.underlying23 (by kernel_rfl) (by kernel_rfl : Try.prog.cellsOf 23 = 3) (hval 0 23 v0 rfl rfl) h0
  obtain ⟨a0_0, e0, rfl, wa0_0⟩ := DataW.trod_int Try.underlying3 hy0
  obtain ⟨a0_1, e1, rfl, wa0_1⟩ := DataW.trod_int Try.underlying3 hy1
  obtain ⟨a0_2, e2, rfl, wa0_2⟩ := DataW.trod_int Try.underlying3 hy2
  simp at e0 e1 e2
  subst e0 e1 e2
  obtain ⟨a1, rfl, rfl, rfl, w1⟩ := open_int Try.underlying3 (hval 1 3 v1 rfl rfl) h1
  clear hA0 hval0
  simp only [List.append_nil] at hW'
  refine (fabricPads_walk a0_0 a0_1 a0_2 a1 W).mono fun e W' ⟨he, hb⟩ => ?_
  subst he
  exact ⟨_, rfl, law_post laidOut hr rfl hW' hA1 rfl rfl Try.underlying4 hb⟩

theorem fabricPads_over : Rows.fabricPadsRow.holds Try.pinned (OpenSpec.ofChange Rows.fabricPadsSpec) :=
  OpenClaim.holds_of_wide 12 Try.f12 rfl rfl rfl rfl rfl rfl rfl ⟨rfl, rfl, rfl, rfl, rfl⟩ rfl rfl rfl rfl rfl (by kernel_rfl) Try.func12 (by kernel_rfl)
    (of_decide_eq_true (by kernel_rfl)) (by unfold Func.isWrapper; first | (rw [if_pos (by decide +kernel)]; kernel_rfl) | (rw [if_neg (by decide +kernel)]; exact ⟨rfl, rfl⟩))
    (fun os started H enc _ => fabricPads_lifted os started H enc)

theorem fabricPads_holds : Rows.FabricPadsSaid := fabricPads_over
#print axioms fabricPads_holds
end Go.Proofs.Ytfclfhgnfjmofaa
