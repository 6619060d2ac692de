/- The law ChipShort: two wires that are joined are told as such: so it is of any switch that is turned on between two nodes that have one each. For every configuration and number; no condition. -/
import Derived.Test.YtakccepilbmmlaaFrame
import Derived.Test.YtakccepilbmmlaaLShortA
import Derived.Test.YtakccepilbmmlaaShortD
namespace Go.Proofs.Ytakccepilbmmlaa
open Go.ChangeShapes Go.WideShapes Go.ChangeAt Go.RowKit Go.Joins
set_option linter.unusedVariables false
set_option linter.unusedSimpArgs false

set_option maxRecDepth 100000 in
set_option maxHeartbeats 8000000 in
theorem chipShort_yes (C : Cfg) (at_ : Int) (w : World) (hin : C.In w) (hs : few32 C) (ha : 0 ≤ at_) (hb : at_ < (C.on.length : Int)) (h : C.ok) (hn : (labs C).Nodup) :
    Calls Try.prog 4 #[.agg #[.int .i64 C.W, .int .i64 C.H, .int .i64 C.T, .slice C.AT C.tiles.length C.cT, .slice C.AO C.on.length C.cO, .slice C.AI C.ins.length C.cI, .slice C.AU C.outs.length C.cU], .int .i64 at_] w fun e w' => e = .returned (.bool true) ∧ Below w.heap.size w w' := by
  obtain ⟨q, rfl⟩ : ∃ q : Nat, at_ = (q : Int) := ⟨at_.toNat, by omega⟩
  have hql : q < C.on.length := by omega
  have hok := h.1
  obtain ⟨L, hL⟩ : ∃ L, edgesL C.W C.H C.T = L := ⟨_, rfl⟩
  have HL := Lib.hid hL
  have hlen : L.length ≤ 6000000 := by have := rawL_len hok; rw [← hL]; unfold edgesL; rw [sortP_length]; exact this
  have hon : C.on.length = L.length := by rw [← hL]; exact h.2.2.2.1
  have HON := Lib.hid hon
  have hqL : q < L.length := by omega
  have HH := Lib.hid hok
  have HOK := Lib.hid h
  have HFE := Lib.hid (few32_few hs)
  have HNN := Lib.hid hn
  have hd : decide (C.on.length ≤ q) = false := decide_eq_false (by omega)
  clear hL hok hon h hn ha hb
  have Q0 := below_new w (.cells #[.int .i64 C.W, .int .i64 C.H, .int .i64 C.T, .slice C.AT C.tiles.length C.cT, .slice C.AO C.on.length C.cO, .slice C.AI C.ins.length C.cI, .slice C.AU C.outs.length C.cU] 28)
  have B0 := Box7.new w C 28
  have HI := Lib.hid hin
  clear hin
  have K0 : Blk (w.alloc (.cells #[.int .i64 C.W, .int .i64 C.H, .int .i64 C.T, .slice C.AT C.tiles.length C.cT, .slice C.AO C.on.length C.cO, .slice C.AI C.ins.length C.cI, .slice C.AU C.outs.length C.cU] 28)) w.heap.size 28 _ := Blk.made w _ _
  go_enter Try.func4, Try.ntmps4
  go_wp2_with fail
  refine (live32_any _).mono ?_
  rintro e w1 ⟨rfl, hb1⟩
  have Q1 := below_then Q0 hb1
  have B1 := Box7.below B0 hb1
  have K1 := K0.keep hb1
  clear hb1
  obtain ⟨z1, k10, k11, k12, k13, k14, k15, k16⟩ := id B1
  go_wp2_with fail
  refine (few32_yes _ _ hs).mono ?_
  rintro e w2 ⟨rfl, hb2⟩
  have Q2 := below_then Q1 hb2
  have B2 := Box7.below B1 hb2
  have K2 := K1.keep hb2
  clear hb2
  obtain ⟨z2, k20, k21, k22, k23, k24, k25, k26⟩ := id B2
  clear z1 k10 k11 k12 k13 k14 k15 k16
  clear Q0 B0 Q1 B1 K0 K1
  go_wp2_with fail
  refine (drv_y _ _ (HI.out.later Q2) HFE.out HOK.out HNN.out).mono ?_
  rintro e w3 ⟨g, N, rfl, hN, hg, hb3, hown⟩
  have HN := Lib.hid hN
  have hN2 : N ≤ 87040 := by have := nodes_bd HH.out; omega
  have O3 := Lib.hid hown
  have K3 := K2.keep hb3
  have Q3 := below_then Q2 hb3
  have B3 := Box7.below B2 hb3
  clear hb3 hown hN B2 Q2 hg K2
  clear z2 k20 k21 k22 k23 k24 k25 k26
  obtain ⟨z3, k30, k31, k32, k33, k34, k35, k36⟩ := id B3
  go_wp2_with fail
  refine (edges_yes _ _ _ _ HH.out).mono ?_
  rintro e w4 ⟨v, rfl, hb4, hown⟩
  rw [HL.out] at hown
  obtain ⟨AA, c, hv⟩ := own_slice hown
  subst hv
  have E4 := Lib.hid hown
  have O4 := Lib.hid (own_keep O3.out hb4)
  have K4 := K3.keep hb4
  have Q4 := below_then Q3 hb4
  have B4 := Box7.below B3 hb4
  clear hb4 hown B3 Q3 K3
  clear z3 k30 k31 k32 k33 k34 k35 k36
  obtain ⟨z4, k40, k41, k42, k43, k44, k45, k46⟩ := id B4
  have hd1 : ((L.length : Int) != (C.on.length : Int)) = false := by rw [HON.out]; simp
  go_wp2_with fail
  refine (nodes_yes _ _ _ _ HH.out).mono ?_
  rintro e w5 ⟨rfl, hb5⟩
  rw [HN.out]
  have Q5 := Lib.hid (below_then Q4 hb5)
  have B5 := Lib.hid (B4.below hb5)
  have K5 := Lib.hid (K4.keep hb5)
  have E5 := Lib.hid (own_keep E4.out hb5)
  have O5 := Lib.hid (own_keep O4.out hb5)
  clear hb5 B4 Q4 E4 O4 K4
  clear z4 k40 k41 k42 k43 k44 k45 k46
  obtain ⟨ge, rfl, hcl⟩ := own_pair E5.out (by omega)
  obtain ⟨c0, c1⟩ := hcl q hqL
  clear hcl
  have hmem : L[q]! ∈ edgesL C.W C.H C.T := by rw [HL.out, getElem!_pos L q hqL]; exact List.getElem_mem hqL
  obtain ⟨r1, r2⟩ := edges_nodes HH.out hmem
  obtain ⟨x, hx⟩ : ∃ x : Nat, (L[q]!).1 = (x : Int) := ⟨(L[q]!).1.toNat, by have := r1.2.1; omega⟩
  obtain ⟨y, hy⟩ : ∃ y : Nat, (L[q]!).2 = (y : Int) := ⟨(L[q]!).2.toNat, by have := r2.2.1; omega⟩
  have hxN : x < N := by have := r1.2.2; rw [HN.out, hx] at this; omega
  have hyN : y < N := by have := r2.2.2; rw [HN.out, hy] at this; omega
  rw [hx] at c0
  rw [hy] at c1
  have HX := Lib.hid hx
  have HY := Lib.hid hy
  have hjl : (driversL C).length = N := by rw [drv_length]; simp only [labI, List.length_map, joinedL, List.length_range]; rw [HN.out]; simp
  have dcell : ∀ k, k < N → w5.cell? ⟨g, k, none⟩ = some (.int .i64 ((driversL C).getD k 0)) := fun k hk => by
    rw [O5.out.cellAt k (by omega)]
    simp [ints, List.getD_eq_getElem?_getD, List.getElem?_eq_getElem (show k < (driversL C).length by omega)]
  have d0 := dcell x hxN
  have d1 := dcell y hyN
  clear hmem r1 r2 hx hy dcell
  obtain ⟨a, ha⟩ : ∃ a, (driversL C).getD x 0 = a := ⟨_, rfl⟩
  obtain ⟨b, hb⟩ : ∃ b, (driversL C).getD y 0 = b := ⟨_, rfl⟩
  rw [ha] at d0
  rw [hb] at d1
  have HA := Lib.hid ha
  have HB := Lib.hid hb
  clear ha hb
  obtain ⟨lo, hlo⟩ : ∃ lo : Nat, min (x : Int) (y : Int) = (lo : Int) := ⟨min x y, by omega⟩
  obtain ⟨hi, hhi⟩ : ∃ hi : Nat, max (x : Int) (y : Int) = (hi : Int) := ⟨max x y, by omega⟩
  have hd2 : decide (N ≤ hi) = false := decide_eq_false (by omega)
  have hq0 : (0 : Int) ≤ (q : Int) := by omega
  have hq1 : (q : Int) < (L.length : Int) := by omega
  have hx0 : (0 : Int) ≤ (x : Int) := by omega
  have hx1 : (x : Int) < (N : Int) := by omega
  have hy0 : (0 : Int) ≤ (y : Int) := by omega
  have hy1 : (y : Int) < (N : Int) := by omega
  go_wp2_with fail
  refine wp_region_quiet_lit (by kernel_rfl) (by kernel_rfl) ?_
  iterate 28 (any_goals (first | go_big_quiet_step (fail) | quiet_step (fail)))
  refine wpQuiet_nil ?_
  intro _ hw'
  obtain ⟨nq, hw''⟩ := hw'
  subst hw''
  go_wp2_with fail
  refine wp_region_quiet_lit (by kernel_rfl) (by kernel_rfl) ?_
  iterate 18 (any_goals (first | go_big_quiet_step (fail) | quiet_step (fail)))
  refine wpQuiet_nil ?_
  intro _ hw'
  obtain ⟨nq, hw''⟩ := hw'
  subst hw''
  obtain ⟨z5, k50, k51, k52, k53, k54, k55, k56⟩ := B5.out
  have hz5 : w.heap.size < w5.heap.size := B5.out.lt
  have hcl : C.on.length ≤ 6000000 := by rw [HON.out]; exact hlen
  go_wp2_with (at_builtin; refine wpList_app_bools rfl (.const (.slice none 0 0)) (.tmp 109) rfl w5.heap.size none 0 0 [] rfl (World.ownsRow_nil _ _ _ _) C.AO C.on.length C.cO C.on rfl ((HI.out.on).later (below_drewN Q5.out _)) (by omega) (Nat.le_refl _) ?_)
  intro A6 c6 w6 hown6 hg6
  have b6 : Below w5.heap.size w5 w6 := (below_drewN (Below.refl _ _) _).grown hg6 (Nat.le_refl _) (by simp [Value.ownBlock])
  obtain ⟨g6, cap6, hv6, hb6, hl6⟩ := hown6.form (by omega)
  obtain rfl : A6 = some ⟨g6, 0, none⟩ := by injection hv6
  obtain rfl : c6 = cap6 := by injection hv6
  have d6 : w6.cell? ⟨g6, q, none⟩ = some (.bool (C.on.getD q false)) := by
    rw [hown6.cellAt q (by omega)]
    simp [bools, List.getD_eq_getElem?_getD, List.getElem?_eq_getElem hql]
  have f6 : w6.frozen? ⟨g6, q, none⟩ = false := hown6.frozenAt q
  have K6 : Blk (w6.setCell ⟨g6, q, none⟩ (.bool true)) w.heap.size 28 (cfgV C) := (K5.out.keep b6).apart (by simp; omega) _
  have k64 : (w6.setCell ⟨g6, q, none⟩ (.bool true)).cell? ⟨w.heap.size, 4, none⟩ = some (.slice C.AO C.on.length C.cO) := K6.cell 4
  have f64 : (w6.setCell ⟨g6, q, none⟩ (.bool true)).frozen? ⟨w.heap.size, 4, none⟩ = false := K6.free 4
  have K8 := Lib.hid (turn_box (q := q) (c6 := c6) hz5 K5.out b6 hb6)
  have i8 := turn_in (q := q) HI.out Q5.out hz5 b6 hown6 hb6
  have q8 := turn_below (q := q) (c6 := c6) Q5.out hz5 b6 hb6 C.on.length
  have e8 := turn_own (q := q) (c6 := c6) hz5 K5.out b6 hb6 C.on.length E5.out (by decide)
  unfold turnW at i8 q8 e8
  have I8 := Lib.hid i8
  have Q8 := Lib.hid q8
  have E8 := Lib.hid e8
  clear i8 q8 e8
  have k80 := K8.out.cell 0
  have k81 := K8.out.cell 1
  have k82 := K8.out.cell 2
  have k83 := K8.out.cell 3
  have k84 := K8.out.cell 4
  have k85 := K8.out.cell 5
  have k86 := K8.out.cell 6
  simp only [turnW] at k80 k81 k82 k83 k84 k85 k86
  clear hv6 hown6 hg6 K6 O5 d0 d1 c0 c1 z5 k50 k51 k52 k53 k54 k55 k56
  go_wp2_with fail
  have ht := turned_tells HOK.out (some ⟨g6, 0, none⟩) c6 hql (by rw [HL.out]; exact HX.out) (by rw [HL.out]; exact HY.out) HNN.out HA.out HB.out (by rw [HN.out]; exact hx1) (by rw [HN.out]; exact hy1)
  have HT := Lib.hid ht
  clear ht k80 k81 k82 k83 k84 k85 k86 d6 f6 k64 f64 b6
  by_cases hs3 : 0 ≤ a ∧ 0 ≤ b ∧ a ≠ b
  · obtain ⟨g1, g2, g3⟩ := hs3
    have hne : (a != b) = true := by simpa using g3
    refine (drv_s (turned C (some ⟨g6, 0, none⟩) c6 q) _ I8.out (turned_few HFE.out _ _ _) (turned_ok HOK.out _ _ _) (HT.out.1 g1 g2 g3)).mono ?_
    rintro e w9 ⟨rfl, hb9⟩
    have Q9 := Lib.hid (below_then Q8.out hb9)
    clear hb9
    go_wp2_with fail
    go_ret
    exact ⟨rfl, Q9.out⟩
  · obtain ⟨n1, n2, n3⟩ := HT.out.2 hs3
    have HM2 := Lib.hid n2
    have HM3 := Lib.hid n3
    refine (drv_y (turned C (some ⟨g6, 0, none⟩) c6 q) _ I8.out (turned_few HFE.out _ _ _) (turned_ok HOK.out _ _ _) n1).mono ?_
    rintro e w9 ⟨g9, N9, rfl, hN9, hg9, hb9, hown9⟩
    have hNN : N9 = N := by
      have h1 : nodesI C.W C.H C.T = (N9 : Int) := hN9
      rw [HN.out] at h1
      omega
    subst hNN
    have hjl9 : (driversL (turned C (some ⟨g6, 0, none⟩) c6 q)).length = N9 := by have := hown9.1; rw [ints_length] at this; omega
    have Q9 := Lib.hid (below_then Q8.out hb9)
    have E9 := own_keep E8.out hb9
    obtain ⟨ge9, he9, hcl⟩ := own_pair E9 (by omega)
    obtain rfl : ge = ge9 := by injection he9 with h1; injection h1
    obtain ⟨c0, c1⟩ := hcl q hqL
    rw [HX.out] at c0
    rw [HY.out] at c1
    have m0 : w9.cell? ⟨g9, x, none⟩ = some (.int .i64 (max a b)) := by
      rw [hown9.cellAt x (by omega), ← HM2.out]
      simp [ints, List.getD_eq_getElem?_getD, List.getElem?_eq_getElem (show x < (driversL (turned C (some ⟨g6, 0, none⟩) c6 q)).length by omega)]
    have m1 : w9.cell? ⟨g9, y, none⟩ = some (.int .i64 (max a b)) := by
      rw [hown9.cellAt y (by omega), ← HM3.out]
      simp [ints, List.getD_eq_getElem?_getD, List.getElem?_eq_getElem (show y < (driversL (turned C (some ⟨g6, 0, none⟩) c6 q)).length by omega)]
    clear hcl hown9 hb9 E9 hN9 hg9 n1 n2 n3 he9 hjl9
    by_cases g1 : 0 ≤ a
    · by_cases g2 : 0 ≤ b
      · have g3 : a = b := by
          by_cases e : a = b
          · exact e
          · exact absurd ⟨g1, g2, e⟩ hs3
        have hne : (a != b) = false := by simp [g3]
        have HG3 := Lib.hid g3
        clear g3 hs3
        go_wp2_with fail
        go_ret
        exact ⟨rfl, Q9.out⟩
      · have g2' : decide (0 ≤ b) = false := decide_eq_false g2
        clear hs3
        go_wp2_with fail
        go_ret
        exact ⟨rfl, Q9.out⟩
    · have g1' : decide (0 ≤ a) = false := decide_eq_false g1
      clear hs3
      go_wp2_with fail
      go_ret
      exact ⟨rfl, Q9.out⟩

theorem chipShort_walk (C : Cfg) (at_ : Int) (w : World) (hin : C.In w) (hwf : C.wf) :
    Calls Try.prog 4 #[.agg #[.int .i64 C.W, .int .i64 C.H, .int .i64 C.T, .slice C.AT C.tiles.length C.cT, .slice C.AO C.on.length C.cO, .slice C.AI C.ins.length C.cI, .slice C.AU C.outs.length C.cU], .int .i64 at_] w fun e w' => e = .returned (.bool true) ∧ Below w.heap.size w w' := by
  by_cases hs : few32 C
  · by_cases ha : 0 ≤ at_
    · by_cases hb : at_ < (C.on.length : Int)
      · by_cases h : C.ok
        · by_cases hn : (labs C).Nodup
          · exact chipShort_yes C at_ w hin hs ha hb h hn
          · exact chipShort_short C at_ w hin hs ha hb h hn
        · exact chipShort_no C at_ w hin hs ha hb h
      · exact chipShort_high C at_ w hin hs ha (by omega)
    · exact chipShort_low C at_ w hin hs (by omega)
  · exact chipShort_large C at_ w hin hs
end Go.Proofs.Ytakccepilbmmlaa
