/- The law FabricNear: a node is near another one just if there is a switch between them. For every fabric and all numbers; no condition. -/
import Derived.Test.YtfclfhgnfjmofaaNear
import Derived.Test.YtfclfhgnfjmofaaLWhat
namespace Go.Proofs.Ytfclfhgnfjmofaa
open Go.ChangeShapes Go.WideShapes Go.ChangeAt Go.RowKit Go.Joins
set_option linter.unusedVariables false
set_option linter.unusedSimpArgs false

/-- whatever Edges answers: a slice, an error -/
theorem edges_some (W H T : Int) (w : World) :
    Calls Try.prog 35 #[.agg #[.int .i64 W, .int .i64 H, .int .i64 T]] w fun e w' => ∃ A n c x, e = .returned (.tuple #[.slice A n c, .int .i64 x]) ∧ Below w.heap.size w w' := by
  by_cases h : okA W H T
  · refine (edges_yes W H T w h).mono ?_
    rintro e w' ⟨v, rfl, hb, ho⟩
    obtain ⟨A, c, rfl⟩ := own_slice ho
    exact ⟨A, _, c, 0, rfl, hb⟩
  · refine (edges_no W H T w h).mono ?_
    rintro e w' ⟨rfl, hb⟩
    exact ⟨none, 0, 0, 1, rfl, hb⟩

theorem fabricNear_large (W H T m n : Int) (w : World) (hs : smallB W H T = false) :
    Calls Try.prog 11 #[.agg #[.int .i64 W, .int .i64 H, .int .i64 T], .int .i64 m, .int .i64 n] w fun e w' => e = .returned (.bool true) ∧ Below w.heap.size w w' := by
  have Q0 := below_new w (.cells #[.int .i64 W, .int .i64 H, .int .i64 T] 23)
  have B0 := Box3.new w (.int .i64 W) (.int .i64 H) (.int .i64 T) 23
  go_enter Try.func11, Try.ntmps11
  go_wp2_with fail
  refine (live_any _).mono ?_
  rintro e w1 ⟨rfl, hb1⟩
  have Q1 := below_then Q0 hb1
  have B1 := Box3.below B0 hb1
  obtain ⟨z1, k0, k1, k2⟩ := id B1
  clear hb1
  go_wp2_with fail
  refine (small_any _ _ _ _).mono ?_
  rintro e w2 ⟨rfl, hb2⟩
  have Q2 := below_then Q1 hb2
  clear hb2
  go_wp2_with fail
  go_ret
  exact ⟨rfl, Q2⟩

set_option maxRecDepth 100000 in
set_option maxHeartbeats 2000000 in
theorem fabricNear_no (W H T m n : Int) (w : World) (hs : smallB W H T = true) (hN : ¬ (isN W H T m ∧ isN W H T n)) :
    Calls Try.prog 11 #[.agg #[.int .i64 W, .int .i64 H, .int .i64 T], .int .i64 m, .int .i64 n] w fun e w' => e = .returned (.bool true) ∧ Below w.heap.size w w' := by
  have Q0 := below_new w (.cells #[.int .i64 W, .int .i64 H, .int .i64 T] 23)
  have B0 := Box3.new w (.int .i64 W) (.int .i64 H) (.int .i64 T) 23
  go_enter Try.func11, Try.ntmps11
  go_wp2_with fail
  refine (live_any _).mono ?_
  rintro e w1 ⟨rfl, hb1⟩
  have Q1 := below_then Q0 hb1
  have B1 := Box3.below B0 hb1
  obtain ⟨z1, k0, k1, k2⟩ := id B1
  clear hb1
  go_wp2_with fail
  refine (small_any _ _ _ _).mono ?_
  rintro e w2 ⟨rfl, hb2⟩
  have Q2 := below_then Q1 hb2
  have B2 := Box3.below B1 hb2
  clear hb2 z1 k0 k1 k2
  obtain ⟨z2, k0, k1, k2⟩ := id B2
  go_wp2_with fail
  refine (pnear_any _ _ _ _ _).mono ?_
  rintro e w3 ⟨A3, c3, rfl, hb3, -⟩
  have Q3 := below_then Q2 hb3
  have B3 := Box3.below B2 hb3
  clear hb3 z2 k0 k1 k2
  obtain ⟨z3, k0, k1, k2⟩ := id B3
  go_wp2_with fail
  refine (pnear_any _ _ _ _ _).mono ?_
  rintro e w4 ⟨A4, c4, rfl, hb4, -⟩
  have Q4 := below_then Q3 hb4
  have B4 := Box3.below B3 hb4
  clear hb4 z3 k0 k1 k2
  obtain ⟨z4, k0, k1, k2⟩ := id B4
  go_wp2_with fail
  refine (edges_some _ _ _ _).mono ?_
  rintro e w5 ⟨A5, l5, c5, x5, rfl, hb5⟩
  have Q5 := below_then Q4 hb5
  clear hb5 z4 k0 k1 k2
  by_cases hm : isN W H T m
  · have hn : ¬ isN W H T n := fun hn => hN ⟨hm, hn⟩
    rw [show nearE W H T m = 0 from if_pos hm, show nearE W H T n = 1 from if_neg hn, show nearO W H T n = [] from if_neg hn]
    go_wp2_with fail
    go_ret
    exact ⟨rfl, Q5⟩
  · rw [show nearE W H T m = 1 from if_neg hm, show nearO W H T m = [] from if_neg hm]
    go_wp2_with fail
    go_ret
    exact ⟨rfl, Q5⟩

/-- is a number among the first k of a list? -/
def memTo (n : Int) (L : List Int) (k : Nat) : Bool := decide (n ∈ L.take k)
theorem memTo_zero (n : Int) (L : List Int) : memTo n L 0 = false := by simp [memTo]
theorem memTo_succ {n : Int} {L : List Int} {k : Nat} (hk : k < L.length) : memTo n L (k + 1) = (memTo n L k || L.getD k 0 == n) := by
  unfold memTo
  rw [List.take_succ_eq_append_getElem hk, List.getD_eq_getElem?_getD, List.getElem?_eq_getElem hk]
  simp only [List.mem_append, List.mem_singleton, Option.getD_some, Bool.decide_or]
  congr 1
  by_cases e : n = L[k]
  · simp [e]
  · have : ¬ L[k] = n := fun h => e h.symm
    simp [e, this]
def cntTo (p : Int × Int) (L : List (Int × Int)) (k : Nat) : Nat := (L.take k).count p
theorem cntTo_zero (p : Int × Int) (L : List (Int × Int)) : cntTo p L 0 = 0 := by simp [cntTo]
theorem cntTo_succ {p : Int × Int} {L : List (Int × Int)} {k : Nat} (hk : k < L.length) : cntTo p L (k + 1) = cntTo p L k + (if L[k] = p then 1 else 0) := by
  unfold cntTo
  rw [List.take_succ_eq_append_getElem hk, List.count_append, List.count_singleton]
  simp only [beq_iff_eq]
theorem cntTo_le (p : Int × Int) (L : List (Int × Int)) (k : Nat) : cntTo p L k ≤ k := by
  unfold cntTo
  have h1 := List.count_le_length (a := p) (l := L.take k)
  simp at h1
  omega
theorem cntTo_all {p : Int × Int} {L : List (Int × Int)} (h : L.Nodup) : cntTo p L L.length = if p ∈ L then 1 else 0 := by
  unfold cntTo
  rw [List.take_length]
  exact h.count

set_option maxRecDepth 100000 in
set_option maxHeartbeats 4000000 in
theorem fabricNear_yes (W H T m n : Int) (w : World) (hs : smallB W H T = true) (hm : isN W H T m) (hn : isN W H T n) :
    Calls Try.prog 11 #[.agg #[.int .i64 W, .int .i64 H, .int .i64 T], .int .i64 m, .int .i64 n] w fun e w' => e = .returned (.bool true) ∧ Below w.heap.size w w' := by
  have Q0 := below_new w (.cells #[.int .i64 W, .int .i64 H, .int .i64 T] 23)
  have B0 := Box3.new w (.int .i64 W) (.int .i64 H) (.int .i64 T) 23
  go_enter Try.func11, Try.ntmps11
  go_wp2_with fail
  refine (live_any _).mono ?_
  rintro e w1 ⟨rfl, hb1⟩
  have Q1 := below_then Q0 hb1
  have B1 := Box3.below B0 hb1
  obtain ⟨z1, k0, k1, k2⟩ := id B1
  clear hb1
  go_wp2_with fail
  refine (small_any _ _ _ _).mono ?_
  rintro e w2 ⟨rfl, hb2⟩
  have Q2 := below_then Q1 hb2
  have B2 := Box3.below B1 hb2
  clear hb2 z1 k0 k1 k2
  obtain ⟨z2, k0, k1, k2⟩ := id B2
  go_wp2_with fail
  refine (pnear_any _ _ _ _ _).mono ?_
  rintro e w3 ⟨A3, c3, rfl, hb3, ho3⟩
  have Q3 := below_then Q2 hb3
  have B3 := Box3.below B2 hb3
  clear hb3 z2 k0 k1 k2
  obtain ⟨z3, k0, k1, k2⟩ := id B3
  rw [show nearE W H T m = 0 from if_pos hm]
  rw [show nearO W H T m = nearL W H T m from if_pos hm] at ho3 ⊢
  go_wp2_with fail
  refine (pnear_any _ _ _ _ _).mono ?_
  rintro e w4 ⟨A4, c4, rfl, hb4, ho4⟩
  have Q4 := below_then Q3 hb4
  have B4 := Box3.below B3 hb4
  have R3 := (Rd.of_own ho3).later hb4
  clear hb4 z3 k0 k1 k2 ho3
  obtain ⟨z4, k0, k1, k2⟩ := id B4
  rw [show nearE W H T n = 0 from if_pos hn]
  rw [show nearO W H T n = nearL W H T n from if_pos hn] at ho4 ⊢
  go_wp2_with fail
  refine (edges_yes _ _ _ _ hm.1).mono ?_
  rintro e w5 ⟨v5, rfl, hb5, ho5⟩
  have Q5 := Lib.hid (below_then Q4 hb5)
  have R3 := Lib.hid (R3.later hb5)
  have R4 := Lib.hid ((Rd.of_own ho4).later hb5)
  obtain ⟨A5, c5, rfl⟩ := own_slice ho5
  have HM := Lib.hid hm
  have HN := Lib.hid hn
  have hlen : (edgesL W H T).length ≤ 6000000 := by have := rawL_len hm.1; unfold edgesL; rw [sortP_length]; exact this
  have hlx := nbrs_len m (edgesL W H T)
  have hly := nbrs_len n (edgesL W H T)
  change (nearL W H T m).length ≤ _ at hlx
  change (nearL W H T n).length ≤ _ at hly
  obtain ⟨X, hX⟩ : ∃ X, nearL W H T m = X := ⟨_, rfl⟩
  obtain ⟨Y, hY⟩ : ∃ Y, nearL W H T n = Y := ⟨_, rfl⟩
  obtain ⟨L, hL⟩ : ∃ L, edgesL W H T = L := ⟨_, rfl⟩
  rw [hX] at R3 hlx ⊢
  rw [hY] at R4 hly ⊢
  rw [hL] at ho5 hlen hlx hly ⊢
  have HX := Lib.hid hX
  have HY := Lib.hid hY
  have HL := Lib.hid hL
  have O5 := Lib.hid ho5
  clear hb5 z4 k0 k1 k2 ho4 ho5 hm hn hX hY hL B0 B1 B2 B3 B4 Q0 Q1 Q2 Q3 Q4
  obtain ⟨lx, hlx'⟩ : ∃ lx, X.length = lx := ⟨_, rfl⟩
  have HLX := Lib.hid hlx'
  rw [hlx'] at R3 hlx ⊢
  obtain ⟨ly, hly'⟩ : ∃ ly, Y.length = ly := ⟨_, rfl⟩
  have HLY := Lib.hid hly'
  rw [hly'] at R4 hly ⊢
  obtain ⟨ll, hll⟩ : ∃ ll, L.length = ll := ⟨_, rfl⟩
  have HLL := Lib.hid hll
  rw [hll] at O5 hlen hlx hly ⊢
  clear hlx' hly' hll
  go_wp2_with fail
  go_loop [13, 72] (fun v i => ∃ k : Nat, k ≤ lx ∧ i = .int .i64 (k : Int) ∧ v = .bool (memTo n X k)) (fun _ i => lx - (intOf i).toNat)
  case atStart => exact ⟨0, by omega, rfl, by rw [memTo_zero]⟩
  case round =>
    obtain ⟨k, hk, rfl, rfl⟩ := hrel
    by_cases hlt : k < lx
    · obtain ⟨a, rfl, -, c0⟩ := R3.out.int hlt
      have hms := memTo_succ (n := n) (L := X) (k := k) (by rw [HLX.out]; exact hlt)
      have HMS := Lib.hid hms
      clear hms
      generalize X.getD k 0 = z at c0 HMS
      generalize memTo n X k = b at HMS
      cases b with
      | true =>
        go_wp2_with fail
        go_round
        case rel => exact ⟨k + 1, by omega, by go_num, by rw [HMS.out]; rfl⟩
        case measure => simp [intOf]; omega
      | false =>
        go_wp2_with fail
        go_round
        case rel => exact ⟨k + 1, by omega, by go_num, by rw [HMS.out]; rfl⟩
        case measure => simp [intOf]; omega
    · obtain rfl : k = lx := by omega
      go_wp2_with fail
      go_loop [14, 85] (fun v i => ∃ j : Nat, j ≤ ly ∧ i = .int .i64 (j : Int) ∧ v = .bool (memTo m Y j)) (fun _ i => ly - (intOf i).toNat)
      case atStart => exact ⟨0, by omega, rfl, by rw [memTo_zero]⟩
      case round =>
        obtain ⟨j, hj, rfl, rfl⟩ := hrel
        by_cases hlt2 : j < ly
        · obtain ⟨a, rfl, -, c0⟩ := R4.out.int hlt2
          have hms := memTo_succ (n := m) (L := Y) (k := j) (by rw [HLY.out]; exact hlt2)
          have HMS := Lib.hid hms
          clear hms
          generalize Y.getD j 0 = z at c0 HMS
          generalize memTo m Y j = b at HMS
          cases b with
          | true =>
            go_wp2_with fail
            go_round
            case rel => exact ⟨j + 1, by omega, by go_num, by rw [HMS.out]; rfl⟩
            case measure => simp [intOf]; omega
          | false =>
            go_wp2_with fail
            go_round
            case rel => exact ⟨j + 1, by omega, by go_num, by rw [HMS.out]; rfl⟩
            case measure => simp [intOf]; omega
        · obtain rfl : j = ly := by omega
          clear R3 R4
          have hmx : memTo n X k = decide (n ∈ nearL W H T m) := by unfold memTo; rw [List.take_of_length_le (by rw [HLX.out]; exact Nat.le_refl _), HX.out]
          have hmy : memTo m Y j = decide (m ∈ nearL W H T n) := by unfold memTo; rw [List.take_of_length_le (by rw [HLY.out]; exact Nat.le_refl _), HY.out]
          have hsym : decide (m ∈ nearL W H T n) = decide (n ∈ nearL W H T m) := by
            by_cases c : m ∈ nearL W H T n
            · rw [decide_eq_true c, decide_eq_true (nearL_sym.1 c)]
            · rw [decide_eq_false c, decide_eq_false (fun h => c (nearL_sym.1 h))]
          have hcn : cntTo (mnI m n, mxI m n) L ll = if n ∈ nearL W H T m then 1 else 0 := by
            rw [← HLL.out, cntTo_all (by rw [← HL.out]; exact edgesL_nodup HM.out.1), ← HL.out]
            by_cases c : n ∈ nearL W H T m
            · rw [if_pos c, if_pos ((nearL_pair HM.out.1).1 c)]
            · rw [if_neg c, if_neg fun h => c ((nearL_pair HM.out.1).2 h)]
          rw [hmy, hsym, hmx]
          have HCN := Lib.hid hcn
          clear hmx hmy hsym hcn
          have hmn : ∀ a b : Int, mnI a b = min a b := fun a b => by unfold mnI; split <;> omega
          have hmx : ∀ a b : Int, mxI a b = max a b := fun a b => by unfold mxI; split <;> omega
          rw [hmn, hmx] at HCN
          clear hmn hmx
          go_wp2_with fail
          go_loopw [15, 98] (fun v i wx => ∃ q : Nat, q ≤ ll ∧ i = .int .i64 (q : Int) ∧ v = .int .i64 (cntTo (min m n, max m n) L q : Int) ∧ Below w5.heap.size w5 wx) (fun _ i _ => ll - (intOf i).toNat)
          case atStart => exact ⟨0, by omega, rfl, by rw [cntTo_zero]; rfl, Below.refl _ _⟩
          case round =>
            obtain ⟨q, hq, rfl, rfl, hb⟩ := hrel
            have HB := Lib.hid hb
            clear hb
            by_cases hlt3 : q < ll
            · have hql : q < L.length := by rw [HLL.out]; exact hlt3
              obtain ⟨g, rfl, hcl⟩ := own_pair (own_keep O5.out HB.out) (by omega)
              obtain ⟨d0, d1⟩ := hcl q hlt3
              have hcs := cntTo_succ (p := (min m n, max m n)) hql
              have hcb := cntTo_le (min m n, max m n) L q
              rw [getElem!_pos L q hql] at d0 d1
              have HCS := Lib.hid hcs
              clear hcl hcs
              generalize L[q] = p at d0 d1 HCS
              obtain ⟨a, b⟩ := p
              simp only at d0 d1
              generalize cntTo (min m n, max m n) L q = cc at hcb HCS
              by_cases e1 : a = min m n ∧ b = max m n
              · obtain ⟨rfl, rfl⟩ := e1
                have hpe := pair_eq (min m n) (max m n) (min m n) (max m n)
                rw [beq_self_eq_true, beq_self_eq_true, Bool.true_and] at hpe
                go_wp2_with fail
                go_roundw
                case rel => exact ⟨q + 1, by omega, by go_num, by rw [HCS.out, if_pos rfl]; go_num, HB.out.alloc HB.out.size _⟩
                case measure => simp [intOf]; omega
              · have hne : ¬ (a, b) = (min m n, max m n) := fun h => e1 (by injection h with h1 h2; exact ⟨h1, h2⟩)
                have HNE := Lib.hid hne
                clear hne
                have hpe := pair_eq a b (min m n) (max m n)
                rw [show (a == min m n && b == max m n) = false by simpa using fun h => (fun h2 => e1 ⟨h, h2⟩)] at hpe
                go_wp2_with fail
                go_roundw
                case rel => exact ⟨q + 1, by omega, by go_num, by rw [HCS.out, if_neg HNE.out]; go_num, HB.out.alloc HB.out.size _⟩
                case measure => simp [intOf]; omega
            · obtain rfl : q = ll := by omega
              rw [HCN.out]
              by_cases c : n ∈ nearL W H T m
              · rw [if_pos c, decide_eq_true c]
                go_wp2_with fail
                go_ret
                exact ⟨rfl, Q5.out.trans (HB.out.mono Q5.out.size)⟩
              · rw [if_neg c, decide_eq_false c]
                go_wp2_with fail
                go_ret
                exact ⟨rfl, Q5.out.trans (HB.out.mono Q5.out.size)⟩

theorem fabricNear_walk (W H T m n : Int) (w : World) :
    Calls Try.prog 11 #[.agg #[.int .i64 W, .int .i64 H, .int .i64 T], .int .i64 m, .int .i64 n] w fun e w' => e = .returned (.bool true) ∧ Below w.heap.size w w' := by
  cases hs : smallB W H T with
  | false => exact fabricNear_large W H T m n w hs
  | true =>
    by_cases h : isN W H T m ∧ isN W H T n
    · exact fabricNear_yes W H T m n w hs h.1 h.2
    · exact fabricNear_no W H T m n w hs h

set_option maxRecDepth 100000 in
theorem fabricNear_lifted (os : Os) (started : os.Started) (H : Type) (enc : TypeId × Value → H) :
    ReturnsInHanded {} Try.checked os 11 .any (Rows.fabricNearSpec.pre6 enc Try.prog Try.f11 Rows.fabricNearRow.domain false) (Rows.fabricNearSpec.post enc Try.prog Try.f11 false true false false) := by
  have hr : ∀ t ∈ Try.f11.params.toList, Try.prog.readableRec t = true ∧ t < Try.prog.types.size := by
    have h : Try.f11.params.toList.all (fun t => Try.prog.readableRec t && decide (t < Try.prog.types.size)) = true := by kernel_rfl
    intro t ht
    simpa using List.all_eq_true.1 h t ht
  refine returnsInHanded_of_change (C := Try.checked) own started (by kernel_rfl) Try.func11
    (ChangeSpec.witness6 (enc := enc) (C := Try.checked) false ⟨#[], #[.agg #[.int .i64 0, .int .i64 0, .int .i64 0], .int .i64 0, .int .i64 0], []⟩ 8 (by kernel_rfl) (by kernel_rfl) (by kernel_rfl) (by kernel_rfl)) ?_
  intro W base args ds gs before hval0 hW hcnd _
  have hval : ∀ (j : Nat) t v, Try.f11.params[j]? = some t → args[j]? = some v → Value.okWide Try.prog W .any base t v := hval0
  have hW' := hW
  obtain ⟨p, q, hA0, hV, rfl, hfz, hnd⟩ := hW
  have hA1 : DataW.TrodAll enc Try.prog W 0 (fun _ => true) true Try.f11.params.toList args.toList ds p := hA0
  have hA := hA1
  rw [Try.params11] at hA hval
  obtain ⟨v0, vs0, d0, ds0, p0, q0, hargs, rfl, rfl, h0, r0⟩ := trodAll_cons hA
  obtain ⟨v1, vs1, d1, ds1, p1, q1, rfl, rfl, rfl, h1, r1⟩ := trodAll_cons r0
  obtain ⟨v2, vs2, d2, ds2, p2, q2, rfl, rfl, rfl, h2, r2⟩ := trodAll_cons r1
  obtain ⟨rfl, rfl, rfl⟩ := trodAll_nil r2
  obtain rfl : args = #[v0, v1, v2] := by cases args; simp_all
  obtain ⟨rfl, rfl⟩ := trodVars_none hV
  obtain ⟨c0, c1, c2, y0, y1, y2, m, rfl, rfl, rfl, hy0, hy1, hy2⟩ := open_agg3 Try.underlying23 (by kernel_rfl) (by kernel_rfl : Try.prog.cellsOf 23 = 3) (hval 0 23 v0 rfl rfl) h0
  obtain ⟨a0_0, e0, rfl, wa0_0⟩ := DataW.trod_int Try.underlying3 hy0
  obtain ⟨a0_1, e1, rfl, wa0_1⟩ := DataW.trod_int Try.underlying3 hy1
  obtain ⟨a0_2, e2, rfl, wa0_2⟩ := DataW.trod_int Try.underlying3 hy2
  simp at e0 e1 e2
  subst e0 e1 e2
  obtain ⟨a1, rfl, rfl, rfl, w1⟩ := open_int Try.underlying3 (hval 1 3 v1 rfl rfl) h1
  obtain ⟨a2, rfl, rfl, rfl, w2⟩ := open_int Try.underlying3 (hval 2 3 v2 rfl rfl) h2
  clear hA0 hval0
  simp only [List.append_nil] at hW'
  refine (fabricNear_walk a0_0 a0_1 a0_2 a1 a2 W).mono fun e W' ⟨he, hb⟩ => ?_
  subst he
  exact ⟨_, rfl, law_post laidOut hr rfl hW' hA1 rfl rfl Try.underlying4 hb⟩

theorem fabricNear_over : Rows.fabricNearRow.holds Try.pinned (OpenSpec.ofChange Rows.fabricNearSpec) :=
  OpenClaim.holds_of_wide 11 Try.f11 rfl rfl rfl rfl rfl rfl rfl ⟨rfl, rfl, rfl, rfl, rfl⟩ rfl rfl rfl rfl rfl (by kernel_rfl) Try.func11 (by kernel_rfl)
    (of_decide_eq_true (by kernel_rfl)) (by unfold Func.isWrapper; first | (rw [if_pos (by decide +kernel)]; kernel_rfl) | (rw [if_neg (by decide +kernel)]; exact ⟨rfl, rfl⟩))
    (fun os started H enc _ => fabricNear_lifted os started H enc)

theorem fabricNear_holds : Rows.FabricNearSaid := fabricNear_over
#print axioms fabricNear_holds
end Go.Proofs.Ytfclfhgnfjmofaa
