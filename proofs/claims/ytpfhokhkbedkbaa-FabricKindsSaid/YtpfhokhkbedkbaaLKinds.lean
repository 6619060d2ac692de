/- The law FabricKinds: a switch stands between a track and something that is none, or between two tracks of the same t; all switches stand in order, each once. For every fabric; no condition. -/
import Derived.Test.YtpfhokhkbedkbaaFrame
import Derived.Test.YtpfhokhkbedkbaaLWhat
import Derived.Test.YtpfhokhkbedkbaaBox
import Derived.Test.YtpfhokhkbedkbaaFabS
import Derived.Test.YtpfhokhkbedkbaaSmall
import Derived.Test.YtpfhokhkbedkbaaLKindsA
import Derived.BigQuiet
import Derived.Deep.QuietTactic
namespace Go.Proofs.Ytpfhokhkbedkbaa
open Go.ChangeShapes Go.WideShapes Go.ChangeAt Go.RowKit Go.Joins
set_option linter.unusedVariables false
set_option linter.unusedSimpArgs false

set_option maxRecDepth 100000 in
set_option maxHeartbeats 20000000 in
theorem kinds_large (W H T : Int) (w : World) (hs : smallB W H T = false) :
    Calls Try.prog 6 #[.agg #[.int .i64 W, .int .i64 H, .int .i64 T]] w fun e w' => e = .returned (.bool true) ∧ Below w.heap.size w w' := by
  have Q0 := below_new w (.cells #[.int .i64 W, .int .i64 H, .int .i64 T] 23)
  have B0 := Box3.new w (.int .i64 W) (.int .i64 H) (.int .i64 T) 23
  go_enter Try.func6, Try.ntmps6
  go_wp2_with fail
  refine (live_any _).mono ?_
  rintro e w1 ⟨rfl, hb1⟩
  have Q1 := below_then Q0 hb1
  have B1 := Box3.below B0 hb1
  clear hb1
  obtain ⟨z1, k10, k11, k12⟩ := id B1
  go_wp2_with fail
  refine (small_any _ _ _ _).mono ?_
  rintro e w2 ⟨rfl, hb2⟩
  have Q2 := below_then Q1 hb2
  have B2 := Box3.below B1 hb2
  clear hb2
  obtain ⟨z2, k20, k21, k22⟩ := id B2
  go_wp2_with fail
  go_ret
  exact ⟨rfl, Q2⟩

set_option maxRecDepth 100000 in
set_option maxHeartbeats 20000000 in
theorem kinds_no (W H T : Int) (w : World) (hs : smallB W H T = true) (h : ¬ okA W H T) :
    Calls Try.prog 6 #[.agg #[.int .i64 W, .int .i64 H, .int .i64 T]] w fun e w' => e = .returned (.bool true) ∧ Below w.heap.size w w' := by
  have Q0 := below_new w (.cells #[.int .i64 W, .int .i64 H, .int .i64 T] 23)
  have B0 := Box3.new w (.int .i64 W) (.int .i64 H) (.int .i64 T) 23
  go_enter Try.func6, Try.ntmps6
  go_wp2_with fail
  refine (live_any _).mono ?_
  rintro e w1 ⟨rfl, hb1⟩
  have Q1 := below_then Q0 hb1
  have B1 := Box3.below B0 hb1
  clear hb1
  obtain ⟨z1, k10, k11, k12⟩ := id B1
  go_wp2_with fail
  refine (small_any _ _ _ _).mono ?_
  rintro e w2 ⟨rfl, hb2⟩
  have Q2 := below_then Q1 hb2
  have B2 := Box3.below B1 hb2
  clear hb2
  obtain ⟨z2, k20, k21, k22⟩ := id B2
  go_wp2_with fail
  refine (edges_no _ _ _ _ h).mono ?_
  rintro e w3 ⟨rfl, hb3⟩
  have Q3 := below_then Q2 hb3
  have B3 := Box3.below B2 hb3
  clear hb3
  obtain ⟨z3, k30, k31, k32⟩ := id B3
  go_wp2_with fail
  refine (nodes_no _ _ _ _ h).mono ?_
  rintro e w4 ⟨rfl, hb4⟩
  have Q4 := below_then Q3 hb4
  have B4 := Box3.below B3 hb4
  clear hb4
  obtain ⟨z4, k40, k41, k42⟩ := id B4
  go_wp2_with fail
  go_ret
  exact ⟨rfl, Q4⟩

set_option maxRecDepth 100000 in
set_option maxHeartbeats 20000000 in
theorem kinds_yes (W H T : Int) (w : World) (hs : smallB W H T = true) (h : okA W H T) :
    Calls Try.prog 6 #[.agg #[.int .i64 W, .int .i64 H, .int .i64 T]] w fun e w' => e = .returned (.bool true) ∧ Below w.heap.size w w' := by
  obtain ⟨L, hL⟩ : ∃ L, edgesL W H T = L := ⟨_, rfl⟩
  have HL := Lib.hid hL
  have hlen : L.length ≤ 6000000 := by have := rawL_len h; rw [← hL]; unfold edgesL; rw [sortP_length]; exact this
  clear hL
  have Q0 := below_new w (.cells #[.int .i64 W, .int .i64 H, .int .i64 T] 23)
  have B0 := Box3.new w (.int .i64 W) (.int .i64 H) (.int .i64 T) 23
  go_enter Try.func6, Try.ntmps6
  go_wp2_with fail
  refine (live_any _).mono ?_
  rintro e w1 ⟨rfl, hb1⟩
  have Q1 := below_then Q0 hb1
  have B1 := Box3.below B0 hb1
  clear hb1
  obtain ⟨z1, k10, k11, k12⟩ := id B1
  go_wp2_with fail
  refine (small_any _ _ _ _).mono ?_
  rintro e w2 ⟨rfl, hb2⟩
  have Q2 := below_then Q1 hb2
  have B2 := Box3.below B1 hb2
  clear hb2
  obtain ⟨z2, k20, k21, k22⟩ := id B2
  go_wp2_with fail
  refine (edges_yes _ _ _ _ h).mono ?_
  rintro e w3 ⟨v, rfl, hb3, hown⟩
  have Q3 := below_then Q2 hb3
  have B3 := Box3.below B2 hb3
  clear hb3 z1 k10 k11 k12 z2 k20 k21 k22 B0 B1 B2 Q0 Q1 Q2
  rw [HL.out] at hown
  obtain ⟨AA, c, hv⟩ := own_slice hown
  subst hv
  have HO := Lib.hid hown
  have HH := Lib.hid h
  clear hown h
  go_wp2_with fail
  go_loopw [33] (fun i wx => ∃ k : Nat, k ≤ L.length ∧ i = .int .i64 (k : Int) ∧ Below w.heap.size w wx ∧ Box3 wx w.heap.size (.int .i64 W) (.int .i64 H) (.int .i64 T) ∧ wx.ownsRow w2.heap.size 43 2 (.slice AA L.length c) L.length (pc L)) (fun i _ => L.length - (intOf i).toNat)
  case atStart => exact ⟨0, by omega, rfl, Q3, B3, HO.out⟩
  case round =>
    clear HO B3 Q3
    obtain ⟨k, hk, rfl, hbr, hbx, hown⟩ := hrel
    obtain ⟨z, k0, k1, k2⟩ := id hbx
    have HB := Lib.hid hbr
    have HX := Lib.hid hbx
    have HO := Lib.hid hown
    clear hbr hbx hown
    by_cases hlt : k < L.length
    · obtain ⟨g, rfl, hcl⟩ := own_pair HO.out (by omega)
      have hgl : g < wr.heap.size := by
        have := (hcl k hlt).1
        exact block_lt_of_cell this
      obtain ⟨c0, c1⟩ := hcl k hlt
      have hmem : L[k]! ∈ edgesL W H T := by rw [HL.out, getElem!_pos L k hlt]; exact List.getElem_mem hlt
      obtain ⟨q1, q2, q3⟩ := edges_kinds HH.out hmem
      have hprev : 0 < k → before L[k - 1]! L[k]! := by
        intro h0
        have hp := edgesL_lt HH.out
        rw [HL.out] at hp
        rw [getElem!_pos L k hlt, getElem!_pos L (k - 1) (by omega)]
        exact List.pairwise_iff_getElem.1 hp (k - 1) k (by omega) hlt (by omega)
      have HCL := Lib.hid hcl
      have HPV := Lib.hid hprev
      clear hcl hprev hmem
      generalize hab : L[k]! = ab at c0 c1 q1 q2 q3
      obtain ⟨a, b⟩ := ab
      have HAB := Lib.hid hab
      clear hab
      simp only at c0 c1 q1 q2 q3
      have htt : trackB W H T a = true → whT W H T a = whT W H T b := q3
      have HT := Lib.hid htt
      clear htt q3
      go_wp2_with fail
      refine (track_c _ _ _ _ _).mono ?_
      rintro e w4 ⟨rfl, hb4⟩
      have x0 : w4.cell? ⟨wr.heap.size, 0, none⟩ = some (.int .i64 a) := (hb4.cell (p := ⟨wr.heap.size, 0, none⟩) (by simp)).trans (World.cell?_alloc_at _ _ _ _ rfl)
      have x1 : w4.cell? ⟨wr.heap.size, 1, none⟩ = some (.int .i64 b) := (hb4.cell (p := ⟨wr.heap.size, 1, none⟩) (by simp)).trans (World.cell?_alloc_at _ _ _ _ rfl)
      have hw4 : Below wr.heap.size wr w4 := below_then (below_new wr _) hb4
      have hs4 : wr.heap.size < w4.heap.size := by have := hb4.size; simp at this; omega
      have X4 := Lib.hid (HX.out.below hw4)
      obtain ⟨z4, k40, k41, k42⟩ := X4.out
      clear hb4 k0 k1 k2 z
      go_wp2_with fail
      refine (track_c _ _ _ _ _).mono ?_
      rintro e w5 ⟨rfl, hb5⟩
      have y0 := (hb5.cell (p := ⟨wr.heap.size, 0, none⟩) hs4).trans x0
      have y1 := (hb5.cell (p := ⟨wr.heap.size, 1, none⟩) hs4).trans x1
      have hw5 : Below wr.heap.size wr w5 := below_then hw4 hb5
      have X5 := Lib.hid (HX.out.below hw5)
      have O5 := Lib.hid (own_keep HO.out hw5)
      have B5 := Lib.hid (below_then HB.out hw5)
      have HW5 := Lib.hid hw5
      clear hb5 x0 x1 hw4 X4 z4 k40 k41 k42 c0 c1 hw5
      cases hta : trackB W H T a with
      | false =>
        rcases Nat.eq_zero_or_pos k with h0 | h0
        · subst h0
          go_wp2_with fail
          go_quiet (fail)
          go_wp2_with fail
          go_roundw
          case rel => exact ⟨1, by omega, rfl, below_drewN B5.out _, box_drewN X5.out _, own_drewN O5.out _⟩
          case measure => simp [intOf]; omega
        · have hpv := HPV.out h0
          rw [HAB.out] at hpv
          obtain ⟨j, rfl⟩ : ∃ j, k = j + 1 := ⟨k - 1, by omega⟩
          rw [Nat.add_sub_cancel] at hpv
          have hj0 : (0 : Int) ≤ (j : Int) := by omega
          have hj1 : (j : Int) < (L.length : Int) := by omega
          have hj2 : j < L.length := by omega
          obtain ⟨d0, d1⟩ := HCL.out j (by omega)
          generalize L[j]! = pq at hpv d0 d1
          obtain ⟨p, q⟩ := pq
          simp only [before] at hpv d0 d1
          have e0 := (HW5.out.cell (p := ⟨g, j * 2, none⟩) hgl).trans d0
          have e1 := (HW5.out.cell (p := ⟨g, j * 2 + 1, none⟩) hgl).trans d1
          clear d0 d1
          have hh1 : decide (a < p) = false := decide_eq_false (by omega)
          have hk1 : decide (0 < (j : Int) + 1) = true := decide_eq_true (by omega)
          by_cases hpa : p < a
          · have hne : (a == p) = false := by simp; omega
            clear hpv
            go_wp2_with fail
            have hwr : IntKind.i64.wrap (j : Int) = (j : Int) := IntWalk.i64_in _ (by omega)
            have hwr2 : IntKind.i64.wrap ((j : Int) + 1 - 1) = (j : Int) := by rw [Int.add_sub_cancel]; exact hwr
            go_quiet (fail)
            clear hwr hwr2
            go_wp2_with fail
            go_roundw
            case rel => exact ⟨j + 1 + 1, by omega, by go_num, below_drewN B5.out _, box_drewN X5.out _, own_drewN O5.out _⟩
            case measure => simp [intOf]; omega
          · have heq : (a == p) = true := by simp; omega
            have hbq : decide (b ≤ q) = false := decide_eq_false (by omega)
            clear hpv
            go_wp2_with fail
            have hwr : IntKind.i64.wrap (j : Int) = (j : Int) := IntWalk.i64_in _ (by omega)
            have hwr2 : IntKind.i64.wrap ((j : Int) + 1 - 1) = (j : Int) := by rw [Int.add_sub_cancel]; exact hwr
            go_quiet (fail)
            clear hwr hwr2
            go_wp2_with fail
            go_roundw
            case rel => exact ⟨j + 1 + 1, by omega, by go_num, below_drewN B5.out _, box_drewN X5.out _, own_drewN O5.out _⟩
            case measure => simp [intOf]; omega
      | true =>
        have hT := HT.out hta
        rcases Nat.eq_zero_or_pos k with h0 | h0
        · subst h0
          go_wp2_with fail
          go_quiet (fail)
          go_wp2_with fail
          go_roundw
          case rel => exact ⟨1, by omega, rfl, below_drewN B5.out _, box_drewN X5.out _, own_drewN O5.out _⟩
          case measure => simp [intOf]; omega
        · have hpv := HPV.out h0
          rw [HAB.out] at hpv
          obtain ⟨j, rfl⟩ : ∃ j, k = j + 1 := ⟨k - 1, by omega⟩
          rw [Nat.add_sub_cancel] at hpv
          have hj0 : (0 : Int) ≤ (j : Int) := by omega
          have hj1 : (j : Int) < (L.length : Int) := by omega
          have hj2 : j < L.length := by omega
          obtain ⟨d0, d1⟩ := HCL.out j (by omega)
          generalize L[j]! = pq at hpv d0 d1
          obtain ⟨p, q⟩ := pq
          simp only [before] at hpv d0 d1
          have e0 := (HW5.out.cell (p := ⟨g, j * 2, none⟩) hgl).trans d0
          have e1 := (HW5.out.cell (p := ⟨g, j * 2 + 1, none⟩) hgl).trans d1
          clear d0 d1
          have hh1 : decide (a < p) = false := decide_eq_false (by omega)
          have hk1 : decide (0 < (j : Int) + 1) = true := decide_eq_true (by omega)
          by_cases hpa : p < a
          · have hne : (a == p) = false := by simp; omega
            clear hpv
            go_wp2_with fail
            have hwr : IntKind.i64.wrap (j : Int) = (j : Int) := IntWalk.i64_in _ (by omega)
            have hwr2 : IntKind.i64.wrap ((j : Int) + 1 - 1) = (j : Int) := by rw [Int.add_sub_cancel]; exact hwr
            go_quiet (fail)
            clear hwr hwr2
            go_wp2_with fail
            go_roundw
            case rel => exact ⟨j + 1 + 1, by omega, by go_num, below_drewN B5.out _, box_drewN X5.out _, own_drewN O5.out _⟩
            case measure => simp [intOf]; omega
          · have heq : (a == p) = true := by simp; omega
            have hbq : decide (b ≤ q) = false := decide_eq_false (by omega)
            clear hpv
            go_wp2_with fail
            have hwr : IntKind.i64.wrap (j : Int) = (j : Int) := IntWalk.i64_in _ (by omega)
            have hwr2 : IntKind.i64.wrap ((j : Int) + 1 - 1) = (j : Int) := by rw [Int.add_sub_cancel]; exact hwr
            go_quiet (fail)
            clear hwr hwr2
            go_wp2_with fail
            go_roundw
            case rel => exact ⟨j + 1 + 1, by omega, by go_num, below_drewN B5.out _, box_drewN X5.out _, own_drewN O5.out _⟩
            case measure => simp [intOf]; omega
    · go_wp2_with fail
      go_ret
      exact ⟨rfl, HB.out⟩

theorem fabricKinds_walk (W H T : Int) (w : World) :
    Calls Try.prog 6 #[.agg #[.int .i64 W, .int .i64 H, .int .i64 T]] w fun e w' => e = .returned (.bool true) ∧ Below w.heap.size w w' := by
  cases hs : smallB W H T
  · exact kinds_large W H T w hs
  · by_cases h : okA W H T
    · exact kinds_yes W H T w hs h
    · exact kinds_no W H T w hs h

set_option maxRecDepth 100000 in
theorem fabricKinds_lifted (os : Os) (started : os.Started) (H : Type) (enc : TypeId × Value → H) :
    ReturnsInHanded {} Try.checked os 6 .any (Rows.fabricKindsSpec.pre6 enc Try.prog Try.f6 Rows.fabricKindsRow.domain false) (Rows.fabricKindsSpec.post enc Try.prog Try.f6 false true false false) := by
  have hr : ∀ t ∈ Try.f6.params.toList, Try.prog.readableRec t = true ∧ t < Try.prog.types.size := by
    have h : Try.f6.params.toList.all (fun t => Try.prog.readableRec t && decide (t < Try.prog.types.size)) = true := by kernel_rfl
    intro t ht
    simpa using List.all_eq_true.1 h t ht
  refine returnsInHanded_of_change (C := Try.checked) own started (by kernel_rfl) Try.func6
    (ChangeSpec.witness6 (enc := enc) (C := Try.checked) false ⟨#[], #[.agg #[.int .i64 0, .int .i64 0, .int .i64 0]], []⟩ 8 (by kernel_rfl) (by kernel_rfl) (by kernel_rfl) (by kernel_rfl)) ?_
  intro W base args ds gs before hval0 hW hcnd _
  have hval : ∀ (j : Nat) t v, Try.f6.params[j]? = some t → args[j]? = some v → Value.okWide Try.prog W .any base t v := hval0
  have hW' := hW
  obtain ⟨p, q, hA0, hV, rfl, hfz, hnd⟩ := hW
  have hA1 : DataW.TrodAll enc Try.prog W 0 (fun _ => true) true Try.f6.params.toList args.toList ds p := hA0
  have hA := hA1
  rw [Try.params6] at hA hval
  obtain ⟨v0, vs0, d0, ds0, p0, q0, hargs, rfl, rfl, h0, r0⟩ := trodAll_cons hA
  obtain ⟨rfl, rfl, rfl⟩ := trodAll_nil r0
  obtain rfl : args = #[v0] := by cases args; simp_all
  obtain ⟨rfl, rfl⟩ := trodVars_none hV
  obtain ⟨c0, c1, c2, y0, y1, y2, m, rfl, rfl, rfl, hy0, hy1, hy2⟩ := open_agg3 Try.underlying23 (by kernel_rfl) (by kernel_rfl : Try.prog.cellsOf 23 = 3) (hval 0 23 v0 rfl rfl) h0
  obtain ⟨a0_0, e0, rfl, wa0_0⟩ := DataW.trod_int Try.underlying3 hy0
  obtain ⟨a0_1, e1, rfl, wa0_1⟩ := DataW.trod_int Try.underlying3 hy1
  obtain ⟨a0_2, e2, rfl, wa0_2⟩ := DataW.trod_int Try.underlying3 hy2
  simp at e0 e1 e2
  subst e0 e1 e2
  clear hA0 hval0
  simp only [List.append_nil] at hW'
  refine (fabricKinds_walk a0_0 a0_1 a0_2 W).mono fun e W' ⟨he, hb⟩ => ?_
  subst he
  exact ⟨_, rfl, law_post laidOut hr rfl hW' hA1 rfl rfl Try.underlying4 hb⟩

theorem fabricKinds_over : Rows.fabricKindsRow.holds Try.pinned (OpenSpec.ofChange Rows.fabricKindsSpec) :=
  OpenClaim.holds_of_wide 6 Try.f6 rfl rfl rfl rfl rfl rfl rfl ⟨rfl, rfl, rfl, rfl, rfl⟩ rfl rfl rfl rfl rfl (by kernel_rfl) Try.func6 (by kernel_rfl)
    (of_decide_eq_true (by kernel_rfl)) (by unfold Func.isWrapper; first | (rw [if_pos (by decide +kernel)]; kernel_rfl) | (rw [if_neg (by decide +kernel)]; exact ⟨rfl, rfl⟩))
    (fun os started H enc _ => fabricKinds_lifted os started H enc)

theorem fabricKinds_holds : Rows.FabricKindsSaid := fabricKinds_over
#print axioms fabricKinds_holds
end Go.Proofs.Ytpfhokhkbedkbaa
