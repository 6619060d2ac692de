/- The law FabricEdges: the switches of any fabric, and those of any node, are what the document says. For every fabric and number; no condition. -/
import Derived.Test.YtfclfhgnfjmofaaLNear
import Derived.Test.YtfclfhgnfjmofaaRefE
import Derived.Test.YtfclfhgnfjmofaaSame
import Derived.Deep.RegionHeld3
import Derived.Laws.StructEq
import Derived.BigQuiet
import Derived.Deep.QuietTactic
namespace Go.Proofs.Ytfclfhgnfjmofaa
open Go.ChangeShapes Go.WideShapes Go.ChangeAt Go.RowKit Go.Joins
set_option linter.unusedVariables false
set_option linter.unusedSimpArgs false

/-- what the document's Near answers -/
def RNearP (W H T n : Int) (w : World) (e : Ending) (w' : World) : Prop :=
  ∃ A c, e = .returned (.tuple #[.slice A (nearO W H T n).length c, .int .i64 (nearE W H T n)]) ∧ Below w.heap.size w w' ∧ Rd w' 1 A (nearO W H T n).length c (ints (nearO W H T n))
theorem rnearP_no {W H T n : Int} {w w' : World} (h : ¬ isN W H T n) (hb : Below w.heap.size w w') : RNearP W H T n w (.returned (.tuple #[.slice none 0 0, .int .i64 1])) w' := by
  refine ⟨none, 0, ?_, hb, ?_⟩
  · rw [show nearO W H T n = [] from if_neg h, show nearE W H T n = 1 from if_neg h]; rfl
  · rw [show nearO W H T n = [] from if_neg h]; exact Rd.empty

theorem rnear_bad (W H T n : Int) (w : World) (h : ¬ okA W H T) :
    Calls Try.prog 38 #[.agg #[.int .i64 W, .int .i64 H, .int .i64 T], .int .i64 n] w (RNearP W H T n w) := by
  have hN : ¬ isN W H T n := fun hx => h hx.1
  obtain ⟨R, hR⟩ : ∃ R, RNearP W H T n w = R := ⟨_, rfl⟩
  rw [hR]
  have HR := Lib.hid hR
  clear hR
  have Q0 := below_new w (.cells #[.int .i64 W, .int .i64 H, .int .i64 T] 23)
  go_enter Try.func38, Try.ntmps38
  go_wp2_with fail
  refine (rcheck_no _ _ _ _ h).mono ?_
  rintro e w1 ⟨rfl, hb1⟩
  have Q1 := below_then Q0 hb1
  clear hb1
  go_wp2_with fail
  rw [← HR.out]
  exact rnearP_no hN Q1
set_option maxHeartbeats 1000000 in
theorem rnear_out (W H T n : Int) (w : World) (h : okA W H T) (hN : ¬ isN W H T n) :
    Calls Try.prog 38 #[.agg #[.int .i64 W, .int .i64 H, .int .i64 T], .int .i64 n] w (RNearP W H T n w) := by
  have hin : inB n (nodesO W H T) = false := by
    unfold inB
    by_cases c : 0 ≤ n ∧ n < nodesO W H T
    · exact absurd ⟨h, c.1, by have := c.2; unfold nodesO at this; rw [if_pos h] at this; exact this⟩ hN
    · simpa using fun a => by omega
  obtain ⟨R, hR⟩ : ∃ R, RNearP W H T n w = R := ⟨_, rfl⟩
  rw [hR]
  have HR := Lib.hid hR
  have HIN := Lib.hid hin
  clear hR hin
  have Q0 := below_new w (.cells #[.int .i64 W, .int .i64 H, .int .i64 T] 23)
  have B0 := Box3.new w (.int .i64 W) (.int .i64 H) (.int .i64 T) 23
  go_enter Try.func38, Try.ntmps38
  go_wp2_with fail
  refine (rcheck_yes _ _ _ _ h).mono ?_
  rintro e w1 ⟨rfl, hb1⟩
  have Q1 := below_then Q0 hb1
  have B1 := Box3.below B0 hb1
  obtain ⟨z1, k0, k1, k2⟩ := id B1
  clear hb1
  go_wp2_with fail
  refine (rnodes_any _ _ _ _).mono ?_
  rintro e w2 ⟨rfl, hb2⟩
  have Q2 := below_then Q1 hb2
  clear hb2
  go_wp2_with fail
  refine (in_any _ _ _).mono ?_
  rintro e w3 ⟨rfl, rfl⟩
  rw [HIN.out]
  go_wp2_with fail
  rw [← HR.out]
  exact rnearP_no hN Q2
set_option maxHeartbeats 1000000 in
theorem rnear_in (W H T : Int) (k : Nat) (w : World) (hN : isN W H T (k : Int)) :
    Calls Try.prog 38 #[.agg #[.int .i64 W, .int .i64 H, .int .i64 T], .int .i64 (k : Int)] w (RNearP W H T k w) := by
  have h := hN.1
  have hin : inB (k : Int) (nodesO W H T) = true := by
    have := hN.2.2
    unfold inB nodesO
    rw [if_pos h]
    simpa using this
  obtain ⟨R, hR⟩ : ∃ R, RNearP W H T (k : Int) w = R := ⟨_, rfl⟩
  rw [hR]
  have HR := Lib.hid hR
  have HIN := Lib.hid hin
  have HN := Lib.hid hN
  clear hR hin hN
  have Q0 := below_new w (.cells #[.int .i64 W, .int .i64 H, .int .i64 T] 23)
  have B0 := Box3.new w (.int .i64 W) (.int .i64 H) (.int .i64 T) 23
  go_enter Try.func38, Try.ntmps38
  go_wp2_with fail
  refine (rcheck_yes _ _ _ _ h).mono ?_
  rintro e w1 ⟨rfl, hb1⟩
  have Q1 := below_then Q0 hb1
  have B1 := Box3.below B0 hb1
  obtain ⟨z1, k0, k1, k2⟩ := id B1
  clear hb1
  go_wp2_with fail
  refine (rnodes_any _ _ _ _).mono ?_
  rintro e w2 ⟨rfl, hb2⟩
  have Q2 := below_then Q1 hb2
  have B2 := Box3.below B1 hb2
  clear hb2 z1 k0 k1 k2
  obtain ⟨z2, k0, k1, k2⟩ := id B2
  go_wp2_with fail
  refine (in_any _ _ _).mono ?_
  rintro e w3 ⟨rfl, rfl⟩
  rw [HIN.out]
  go_wp2_with fail
  refine (near_yes _ _ _ _ h).mono ?_
  rintro e w4 ⟨g, N, cs, rfl, hNN, hw⟩
  have Q4 := below_then Q2 hw.below
  have hlt : k < N := by have := HN.out.2.2; omega
  obtain ⟨A3, c3, d0, -, rg3⟩ := hw.cell hlt
  have hl := hw.good.len k
  have hnb := nodes_bd h
  have hnear := nearTo_nearL h hNN hlt
  rw [hnear] at d0 rg3 hl
  have hO : nearO W H T (k : Int) = nearL W H T (k : Int) := if_pos HN.out
  have hE : nearE W H T (k : Int) = 0 := if_pos HN.out
  have HO := Lib.hid hO
  have HE := Lib.hid hE
  have RG := Lib.hid rg3
  clear hw z2 k0 k1 k2 hnear rg3 hO hE B0 B1 B2 Q0 Q1 Q2
  go_wp2_with fail
  rw [← HR.out]
  refine ⟨A3, c3, ?_, Q4, ?_⟩
  · rw [HO.out, HE.out]; rfl
  · rw [HO.out]; exact RG.out.rd
theorem rnear_any (W H T n : Int) (w : World) :
    Calls Try.prog 38 #[.agg #[.int .i64 W, .int .i64 H, .int .i64 T], .int .i64 n] w (RNearP W H T n w) := by
  by_cases h : okA W H T
  · by_cases hN : isN W H T n
    · obtain ⟨k, rfl⟩ : ∃ k : Nat, n = (k : Int) := ⟨n.toNat, by have := hN.2.1; omega⟩
      exact rnear_in W H T k w hN
    · exact rnear_out W H T n w h hN
  · exact rnear_bad W H T n w h

theorem fabricEdges_large (W H T n : Int) (w : World) (hs : smallB W H T = false) :
    Calls Try.prog 10 #[.agg #[.int .i64 W, .int .i64 H, .int .i64 T], .int .i64 n] w fun e w' => e = .returned (.bool true) ∧ Below w.heap.size w w' := by
  have Q0 := below_new w (.cells #[.int .i64 W, .int .i64 H, .int .i64 T] 23)
  have B0 := Box3.new w (.int .i64 W) (.int .i64 H) (.int .i64 T) 23
  go_enter Try.func10, Try.ntmps10
  go_wp2_with fail
  refine (live_any _).mono ?_
  rintro e w1 ⟨rfl, hb1⟩
  have Q1 := below_then Q0 hb1
  have B1 := Box3.below B0 hb1
  obtain ⟨z1, k0, k1, k2⟩ := id B1
  clear hb1
  go_wp2_with fail
  refine (small_any _ _ _ _).mono ?_
  rintro e w2 ⟨rfl, hb2⟩
  have Q2 := below_then Q1 hb2
  clear hb2
  go_wp2_with fail
  go_ret
  exact ⟨rfl, Q2⟩

set_option maxRecDepth 100000 in
set_option maxHeartbeats 4000000 in
theorem fabricEdges_no (W H T n : Int) (w : World) (hs : smallB W H T = true) (h : ¬ okA W H T) :
    Calls Try.prog 10 #[.agg #[.int .i64 W, .int .i64 H, .int .i64 T], .int .i64 n] w fun e w' => e = .returned (.bool true) ∧ Below w.heap.size w w' := by
  have Q0 := below_new w (.cells #[.int .i64 W, .int .i64 H, .int .i64 T] 23)
  have B0 := Box3.new w (.int .i64 W) (.int .i64 H) (.int .i64 T) 23
  go_enter Try.func10, Try.ntmps10
  go_wp2_with fail
  refine (live_any _).mono ?_
  rintro e w1 ⟨rfl, hb1⟩
  have Q1 := below_then Q0 hb1
  have B1 := Box3.below B0 hb1
  obtain ⟨z1, k0, k1, k2⟩ := id B1
  clear hb1
  go_wp2_with fail
  refine (small_any _ _ _ _).mono ?_
  rintro e w2 ⟨rfl, hb2⟩
  have Q2 := below_then Q1 hb2
  have B2 := Box3.below B1 hb2
  clear hb2 z1 k0 k1 k2
  obtain ⟨z2, k0, k1, k2⟩ := id B2
  go_wp2_with fail
  refine (edges_no _ _ _ _ h).mono ?_
  rintro e w3 ⟨rfl, hb3⟩
  have Q3 := below_then Q2 hb3
  have B3 := Box3.below B2 hb3
  clear hb3 z2 k0 k1 k2
  obtain ⟨z3, k0, k1, k2⟩ := id B3
  go_wp2_with fail
  refine (redges_no _ _ _ _ h).mono ?_
  rintro e w4 ⟨rfl, hb4⟩
  have Q4 := below_then Q3 hb4
  have B4 := Box3.below B3 hb4
  clear hb4 z3 k0 k1 k2
  obtain ⟨z4, k0, k1, k2⟩ := id B4
  go_wp2_with fail
  refine (pnear_any _ _ _ _ _).mono ?_
  rintro e w5 ⟨A5, c5, rfl, hb5, ho5⟩
  have Q5 := below_then Q4 hb5
  have B5 := Box3.below B4 hb5
  have R5 := Rd.of_own ho5
  clear hb5 z4 k0 k1 k2 ho5
  obtain ⟨z5, k0, k1, k2⟩ := id B5
  go_wp2_with fail
  refine (rnear_any _ _ _ _ _).mono ?_
  rintro e w6 ⟨A6, c6, rfl, hb6, R6⟩
  have Q6 := Lib.hid (below_then Q5 hb6)
  have R5 := Lib.hid (R5.later hb6)
  have R6 := Lib.hid R6
  have hN : ¬ isN W H T n := fun hx => h hx.1
  have hO : nearO W H T n = [] := if_neg hN
  rw [hO] at R5 R6 ⊢
  clear hb6 z5 k0 k1 k2 B0 B1 B2 B3 B4 B5 Q0 Q1 Q2 Q3 Q4 Q5 hO
  go_wp2_with fail
  refine (sameInts_yes _ _ _ _ _ _ _ R5.out R6.out (by simp)).mono ?_
  rintro e w7 ⟨rfl, hb7⟩
  have Q7 := Lib.hid (below_then Q6.out hb7)
  clear hb7
  go_wp2_with fail
  go_loop [64] (fun i => i = .int .i64 0) (fun i => 0)
  case atStart => rfl
  case round =>
    subst hrel
    go_wp2_with fail
    go_ret
    exact ⟨rfl, Q7.out⟩

set_option maxRecDepth 100000 in
set_option maxHeartbeats 8000000 in
theorem fabricEdges_yes (W H T n : Int) (w : World) (hs : smallB W H T = true) (h : okA W H T) :
    Calls Try.prog 10 #[.agg #[.int .i64 W, .int .i64 H, .int .i64 T], .int .i64 n] w fun e w' => e = .returned (.bool true) ∧ Below w.heap.size w w' := by
  have HH := Lib.hid h
  have Q0 := below_new w (.cells #[.int .i64 W, .int .i64 H, .int .i64 T] 23)
  have B0 := Box3.new w (.int .i64 W) (.int .i64 H) (.int .i64 T) 23
  go_enter Try.func10, Try.ntmps10
  go_wp2_with fail
  refine (live_any _).mono ?_
  rintro e w1 ⟨rfl, hb1⟩
  have Q1 := below_then Q0 hb1
  have B1 := Box3.below B0 hb1
  obtain ⟨z1, k0, k1, k2⟩ := id B1
  clear hb1
  go_wp2_with fail
  refine (small_any _ _ _ _).mono ?_
  rintro e w2 ⟨rfl, hb2⟩
  have Q2 := below_then Q1 hb2
  have B2 := Box3.below B1 hb2
  clear hb2 z1 k0 k1 k2
  obtain ⟨z2, k0, k1, k2⟩ := id B2
  go_wp2_with fail
  refine (edges_yes _ _ _ _ h).mono ?_
  rintro e w3 ⟨v3, rfl, hb3, ho3⟩
  have Q3 := below_then Q2 hb3
  have B3 := Box3.below B2 hb3
  obtain ⟨A3, c3, rfl⟩ := own_slice ho3
  clear hb3 z2 k0 k1 k2
  obtain ⟨z3, k0, k1, k2⟩ := id B3
  go_wp2_with fail
  refine (redges_yes _ _ _ _ h).mono ?_
  rintro e w4 ⟨v4, rfl, hb4, ho4⟩
  have Q4 := below_then Q3 hb4
  have B4 := Box3.below B3 hb4
  obtain ⟨A4, c4, rfl⟩ := own_slice ho4
  have O3 := own_keep ho3 hb4
  clear hb4 z3 k0 k1 k2 ho3
  obtain ⟨z4, k0, k1, k2⟩ := id B4
  go_wp2_with fail
  refine (pnear_any _ _ _ _ _).mono ?_
  rintro e w5 ⟨A5, c5, rfl, hb5, ho5⟩
  have Q5 := below_then Q4 hb5
  have B5 := Box3.below B4 hb5
  have R5 := Rd.of_own ho5
  have O3 := own_keep O3 hb5
  have O4 := own_keep ho4 hb5
  clear hb5 z4 k0 k1 k2 ho5 ho4
  obtain ⟨z5, k0, k1, k2⟩ := id B5
  go_wp2_with fail
  refine (rnear_any _ _ _ _ _).mono ?_
  rintro e w6 ⟨A6, c6, rfl, hb6, R6⟩
  have Q6 := Lib.hid (below_then Q5 hb6)
  have R5 := Lib.hid (R5.later hb6)
  have R6 := Lib.hid R6
  have O3 := Lib.hid (own_keep O3 hb6)
  have O4 := Lib.hid (own_keep O4 hb6)
  clear hb6 z5 k0 k1 k2 B0 B1 B2 B3 B4 B5 Q0 Q1 Q2 Q3 Q4 Q5
  have hlen : (edgesL W H T).length ≤ 6000000 := by have := rawL_len h; unfold edgesL; rw [sortP_length]; exact this
  have hly := nbrs_len n (edgesL W H T)
  change (nearL W H T n).length ≤ _ at hly
  have hlo : (nearO W H T n).length ≤ (edgesL W H T).length := by
    unfold nearO
    by_cases c : isN W H T n
    · rw [if_pos c]; exact hly
    · rw [if_neg c]; simp
  clear hly h
  generalize nearO W H T n = X at R5 R6 hlo ⊢
  generalize edgesL W H T = L at O3 O4 hlen hlo ⊢
  obtain ⟨m, hm⟩ : ∃ m, L.length = m := ⟨_, rfl⟩
  have HM := Lib.hid hm
  rw [hm] at O3 O4 hlen hlo ⊢
  clear hm
  go_wp2_with fail
  refine (sameInts_yes _ _ _ _ _ _ _ R5.out R6.out (by omega)).mono ?_
  rintro e w7 ⟨rfl, hb7⟩
  have Q7 := Lib.hid (below_then Q6.out hb7)
  have O3 := Lib.hid (own_keep O3.out hb7)
  have O4 := Lib.hid (own_keep O4.out hb7)
  clear hb7 R5 R6
  go_wp2_with fail
  go_loopw [64] (fun i wx => ∃ k : Nat, k ≤ m ∧ i = .int .i64 (k : Int) ∧ Below w7.heap.size w7 wx) (fun i _ => m - (intOf i).toNat)
  case atStart => exact ⟨0, by omega, rfl, Below.refl _ _⟩
  case round =>
    obtain ⟨k, hk, rfl, hb⟩ := hrel
    have HB := Lib.hid hb
    clear hb
    by_cases hlt : k < m
    · have hkl : k < L.length := by rw [HM.out]; exact hlt
      obtain ⟨g3, rfl, hc3⟩ := own_pair (own_keep O3.out HB.out) (by omega)
      obtain ⟨g4, rfl, hc4⟩ := own_pair (own_keep O4.out HB.out) (by omega)
      obtain ⟨d0, d1⟩ := hc3 k hlt
      obtain ⟨e0, e1⟩ := hc4 k hlt
      clear hc3 hc4
      generalize L[k]! = p at d0 d1 e0 e1
      obtain ⟨a, b⟩ := p
      simp only at d0 d1 e0 e1
      have hk0 : (0 : Int) ≤ (k : Int) := by omega
      have hk1 : (k : Int) < (m : Int) := by omega
      have hpe := pair_eq a b a b
      rw [beq_self_eq_true, beq_self_eq_true, Bool.true_and] at hpe
      go_wp2_with fail
      go_quiet (fail)
      go_wp2_with fail
      go_roundw
      case rel => exact ⟨k + 1, by omega, by go_num, below_drewN HB.out _⟩
      case measure => simp [intOf]; omega
    · obtain rfl : k = m := by omega
      go_wp2_with fail
      go_ret
      exact ⟨rfl, Q7.out.trans (HB.out.mono Q7.out.size)⟩

theorem fabricEdges_walk (W H T n : Int) (w : World) :
    Calls Try.prog 10 #[.agg #[.int .i64 W, .int .i64 H, .int .i64 T], .int .i64 n] w fun e w' => e = .returned (.bool true) ∧ Below w.heap.size w w' := by
  cases hs : smallB W H T with
  | false => exact fabricEdges_large W H T n w hs
  | true =>
    by_cases h : okA W H T
    · exact fabricEdges_yes W H T n w hs h
    · exact fabricEdges_no W H T n w hs h

set_option maxRecDepth 100000 in
theorem fabricEdges_lifted (os : Os) (started : os.Started) (H : Type) (enc : TypeId × Value → H) :
    ReturnsInHanded {} Try.checked os 10 .any (Rows.fabricEdgesSpec.pre6 enc Try.prog Try.f10 Rows.fabricEdgesRow.domain false) (Rows.fabricEdgesSpec.post enc Try.prog Try.f10 false true false false) := by
  have hr : ∀ t ∈ Try.f10.params.toList, Try.prog.readableRec t = true ∧ t < Try.prog.types.size := by
    have h : Try.f10.params.toList.all (fun t => Try.prog.readableRec t && decide (t < Try.prog.types.size)) = true := by kernel_rfl
    intro t ht
    simpa using List.all_eq_true.1 h t ht
  refine returnsInHanded_of_change (C := Try.checked) own started (by kernel_rfl) Try.func10
    (ChangeSpec.witness6 (enc := enc) (C := Try.checked) false ⟨#[], #[.agg #[.int .i64 0, .int .i64 0, .int .i64 0], .int .i64 0], []⟩ 8 (by kernel_rfl) (by kernel_rfl) (by kernel_rfl) (by kernel_rfl)) ?_
  intro W base args ds gs before hval0 hW hcnd _
  have hval : ∀ (j : Nat) t v, Try.f10.params[j]? = some t → args[j]? = some v → Value.okWide Try.prog W .any base t v := hval0
  have hW' := hW
  obtain ⟨p, q, hA0, hV, rfl, hfz, hnd⟩ := hW
  have hA1 : DataW.TrodAll enc Try.prog W 0 (fun _ => true) true Try.f10.params.toList args.toList ds p := hA0
  have hA := hA1
  rw [Try.params10] at hA hval
  obtain ⟨v0, vs0, d0, ds0, p0, q0, hargs, rfl, rfl, h0, r0⟩ := trodAll_cons hA
  obtain ⟨v1, vs1, d1, ds1, p1, q1, rfl, rfl, rfl, h1, r1⟩ := trodAll_cons r0
  obtain ⟨rfl, rfl, rfl⟩ := trodAll_nil r1
  obtain rfl : args = #[v0, v1] := by cases args; simp_all
  obtain ⟨rfl, rfl⟩ := trodVars_none hV
  obtain ⟨c0, c1, c2, y0, y1, y2, m, rfl, rfl, rfl, hy0, hy1, hy2⟩ := open_agg3 Try.underlying23 (by kernel_rfl) (by kernel_rfl : Try.prog.cellsOf 23 = 3) (hval 0 23 v0 rfl rfl) h0
  obtain ⟨a0_0, e0, rfl, wa0_0⟩ := DataW.trod_int Try.underlying3 hy0
  obtain ⟨a0_1, e1, rfl, wa0_1⟩ := DataW.trod_int Try.underlying3 hy1
  obtain ⟨a0_2, e2, rfl, wa0_2⟩ := DataW.trod_int Try.underlying3 hy2
  simp at e0 e1 e2
  subst e0 e1 e2
  obtain ⟨a1, rfl, rfl, rfl, w1⟩ := open_int Try.underlying3 (hval 1 3 v1 rfl rfl) h1
  clear hA0 hval0
  simp only [List.append_nil] at hW'
  refine (fabricEdges_walk a0_0 a0_1 a0_2 a1 W).mono fun e W' ⟨he, hb⟩ => ?_
  subst he
  exact ⟨_, rfl, law_post laidOut hr rfl hW' hA1 rfl rfl Try.underlying4 hb⟩

theorem fabricEdges_over : Rows.fabricEdgesRow.holds Try.pinned (OpenSpec.ofChange Rows.fabricEdgesSpec) :=
  OpenClaim.holds_of_wide 10 Try.f10 rfl rfl rfl rfl rfl rfl rfl ⟨rfl, rfl, rfl, rfl, rfl⟩ rfl rfl rfl rfl rfl (by kernel_rfl) Try.func10 (by kernel_rfl)
    (of_decide_eq_true (by kernel_rfl)) (by unfold Func.isWrapper; first | (rw [if_pos (by decide +kernel)]; kernel_rfl) | (rw [if_neg (by decide +kernel)]; exact ⟨rfl, rfl⟩))
    (fun os started H enc _ => fabricEdges_lifted os started H enc)

theorem fabricEdges_holds : Rows.FabricEdgesSaid := fabricEdges_over
#print axioms fabricEdges_holds
end Go.Proofs.Ytfclfhgnfjmofaa
