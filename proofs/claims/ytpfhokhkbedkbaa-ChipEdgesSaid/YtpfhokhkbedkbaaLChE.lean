/- The law ChipEdges: nodes with a switch that is on are joined to the same node, which is joined to itself, and is no greater than any of them. For every configuration; no condition. -/
import Derived.Test.YtpfhokhkbedkbaaFrame
import Derived.Test.YtpfhokhkbedkbaaLWhat
import Derived.Test.YtpfhokhkbedkbaaOpenC
import Derived.Test.YtpfhokhkbedkbaaFew32
import Derived.Test.YtpfhokhkbedkbaaLive32
import Derived.BigQuiet
import Derived.Deep.QuietTactic
namespace Go.Proofs.Ytpfhokhkbedkbaa
open Go.ChangeShapes Go.WideShapes Go.ChangeAt Go.RowKit Go.Joins
set_option linter.unusedVariables false
set_option linter.unusedSimpArgs false

theorem joined_c (C : Cfg) (w : World) (hin : C.In w) (hf : C.few) (h : C.ok) : Calls Try.prog 37 #[.agg #[.int .i64 C.W, .int .i64 C.H, .int .i64 C.T, .slice C.AT C.tiles.length C.cT, .slice C.AO C.on.length C.cO, .slice C.AI C.ins.length C.cI, .slice C.AU C.outs.length C.cU]] w (JoinedOut C w) := joined_yes C w hin hf h
theorem joined_n (C : Cfg) (w : World) (hin : C.In w) (hf : C.few) (h : ¬ C.ok) : Calls Try.prog 37 #[.agg #[.int .i64 C.W, .int .i64 C.H, .int .i64 C.T, .slice C.AT C.tiles.length C.cT, .slice C.AO C.on.length C.cO, .slice C.AI C.ins.length C.cI, .slice C.AU C.outs.length C.cU]] w fun e w' => e = .returned (.tuple #[.slice none 0 0, .int .i64 1]) ∧ Below w.heap.size w w' := joined_no C w hin hf h
theorem bcheck_n (C : Cfg) (w : World) (hin : C.In w) (hf : C.few) (h : ¬ C.ok) : Calls Try.prog 38 #[.agg #[.int .i64 C.W, .int .i64 C.H, .int .i64 C.T, .slice C.AT C.tiles.length C.cT, .slice C.AO C.on.length C.cO, .slice C.AI C.ins.length C.cI, .slice C.AU C.outs.length C.cU]] w fun e w' => e = .returned (.int .i64 1) ∧ Below w.heap.size w w' := by
  have := bcheck_any C w hin hf
  unfold BCH at this
  rwa [show C.E = 1 from if_neg h] at this
/-- WHAT THE LAW HOLDS within its loops: the configuration, the switches, the nodes' ends -/
structure XW (w0 wx : World) (C : Cfg) (AA : Option Addr) (L : List (Int × Int)) (c base g N : Nat) : Prop where
  below : Below w0.heap.size w0 wx
  box : Box7 wx w0.heap.size C
  edges : wx.ownsRow base 43 2 (.slice AA L.length c) L.length (pc L)
  ends : wx.ownsRow g 3 1 (.slice (some ⟨g, 0, none⟩) N N) N (nats (joinedL C))
section
variable {w0 wx wy : World} {C : Cfg} {AA : Option Addr} {L : List (Int × Int)} {c base g N : Nat}
theorem XW.keep (h : XW w0 wx C AA L c base g N) (hb : Below wx.heap.size wx wy) : XW w0 wy C AA L c base g N :=
  ⟨below_then h.below hb, h.box.below hb, own_keep h.edges hb, own_keep h.ends hb⟩
theorem XW.drewN (h : XW w0 wx C AA L c base g N) (k : Nat) : XW w0 (wx.drewN k) C AA L c base g N :=
  ⟨below_drewN h.below k, ⟨h.box.lt, h.box.c0, h.box.c1, h.box.c2, h.box.c3, h.box.c4, h.box.c5, h.box.c6⟩, own_drewN h.edges k, own_drewN h.ends k⟩
theorem XW.node (h : XW w0 wx C AA L c base g N) (hl : (joinedL C).length = N) {k : Nat} (hk : k < N) : wx.cell? ⟨g, k, none⟩ = some (.int .i64 ((joinedL C).getD k 0 : Int)) :=
  (h.ends.cellAt k (by omega)).trans (nats_get _ (by omega))
theorem XW.glt (h : XW w0 wx C AA L c base g N) : g < wx.heap.size := (h.ends.lt g rfl).2
end
theorem joinedL_length (C : Cfg) : (joinedL C).length = (nodesI C.W C.H C.T).toNat := by simp [joinedL]
theorem joinedL_get (C : Cfg) {i : Nat} (h : i < (nodesI C.W C.H C.T).toNat) : (joinedL C).getD i 0 = joinedR C i := by
  simp [joinedL, List.getD_eq_getElem?_getD, List.getElem?_range h]

set_option maxRecDepth 100000 in
set_option maxHeartbeats 4000000 in
theorem chipEdges_large (C : Cfg) (w : World) (hin : C.In w) (hs : ¬ few32 C) :
    Calls Try.prog 9 #[.agg #[.int .i64 C.W, .int .i64 C.H, .int .i64 C.T, .slice C.AT C.tiles.length C.cT, .slice C.AO C.on.length C.cO, .slice C.AI C.ins.length C.cI, .slice C.AU C.outs.length C.cU]] w fun e w' => e = .returned (.bool true) ∧ Below w.heap.size w w' := by
  have Q0 := below_new w (.cells #[.int .i64 C.W, .int .i64 C.H, .int .i64 C.T, .slice C.AT C.tiles.length C.cT, .slice C.AO C.on.length C.cO, .slice C.AI C.ins.length C.cI, .slice C.AU C.outs.length C.cU] 49)
  have B0 := Box7.new w C 49
  have HI := Lib.hid hin
  clear hin
  go_enter Try.func9, Try.ntmps9
  go_wp2_with fail
  refine (live32_any _).mono ?_
  rintro e w1 ⟨rfl, hb1⟩
  have Q1 := below_then Q0 hb1
  have B1 := Box7.below B0 hb1
  clear hb1
  obtain ⟨z1, k10, k11, k12, k13, k14, k15, k16⟩ := id B1
  go_wp2_with fail
  refine (few32_no _ _ hs).mono ?_
  rintro e w2 ⟨rfl, hb2⟩
  have Q2 := below_then Q1 hb2
  have B2 := Box7.below B1 hb2
  clear hb2
  obtain ⟨z2, k20, k21, k22, k23, k24, k25, k26⟩ := id B2
  go_wp2_with fail
  go_ret
  exact ⟨rfl, Q2⟩

set_option maxRecDepth 100000 in
set_option maxHeartbeats 4000000 in
theorem chipEdges_no (C : Cfg) (w : World) (hin : C.In w) (hs : few32 C) (h : ¬ C.ok) :
    Calls Try.prog 9 #[.agg #[.int .i64 C.W, .int .i64 C.H, .int .i64 C.T, .slice C.AT C.tiles.length C.cT, .slice C.AO C.on.length C.cO, .slice C.AI C.ins.length C.cI, .slice C.AU C.outs.length C.cU]] w fun e w' => e = .returned (.bool true) ∧ Below w.heap.size w w' := by
  have Q0 := below_new w (.cells #[.int .i64 C.W, .int .i64 C.H, .int .i64 C.T, .slice C.AT C.tiles.length C.cT, .slice C.AO C.on.length C.cO, .slice C.AI C.ins.length C.cI, .slice C.AU C.outs.length C.cU] 49)
  have B0 := Box7.new w C 49
  have HI := Lib.hid hin
  clear hin
  go_enter Try.func9, Try.ntmps9
  go_wp2_with fail
  refine (live32_any _).mono ?_
  rintro e w1 ⟨rfl, hb1⟩
  have Q1 := below_then Q0 hb1
  have B1 := Box7.below B0 hb1
  clear hb1
  obtain ⟨z1, k10, k11, k12, k13, k14, k15, k16⟩ := id B1
  go_wp2_with fail
  refine (few32_yes _ _ hs).mono ?_
  rintro e w2 ⟨rfl, hb2⟩
  have Q2 := below_then Q1 hb2
  have B2 := Box7.below B1 hb2
  clear hb2
  obtain ⟨z2, k20, k21, k22, k23, k24, k25, k26⟩ := id B2
  go_wp2_with fail
  refine (joined_n _ _ (HI.out.later Q2) (few32_few hs) h).mono ?_
  rintro e w3 ⟨rfl, hb3⟩
  have Q3 := below_then Q2 hb3
  have B3 := Box7.below B2 hb3
  clear hb3
  obtain ⟨z3, k30, k31, k32, k33, k34, k35, k36⟩ := id B3
  go_wp2_with fail
  refine (bcheck_n _ _ (HI.out.later Q3) (few32_few hs) h).mono ?_
  rintro e w4 ⟨rfl, hb4⟩
  have Q4 := below_then Q3 hb4
  have B4 := Box7.below B3 hb4
  clear hb4
  obtain ⟨z4, k40, k41, k42, k43, k44, k45, k46⟩ := id B4
  go_wp2_with fail
  go_ret
  exact ⟨rfl, Q4⟩

set_option maxRecDepth 100000 in
set_option maxHeartbeats 4000000 in
theorem chipEdges_yes (C : Cfg) (w : World) (hin : C.In w) (hs : few32 C) (h : C.ok) :
    Calls Try.prog 9 #[.agg #[.int .i64 C.W, .int .i64 C.H, .int .i64 C.T, .slice C.AT C.tiles.length C.cT, .slice C.AO C.on.length C.cO, .slice C.AI C.ins.length C.cI, .slice C.AU C.outs.length C.cU]] w fun e w' => e = .returned (.bool true) ∧ Below w.heap.size w w' := by
  have hok := h.1
  obtain ⟨L, hL⟩ : ∃ L, edgesL C.W C.H C.T = L := ⟨_, rfl⟩
  have HL := Lib.hid hL
  have hlen : L.length ≤ 6000000 := by have := rawL_len hok; rw [← hL]; unfold edgesL; rw [sortP_length]; exact this
  have hon : C.on.length = L.length := by rw [← hL]; exact h.2.2.2.1
  have HON := Lib.hid hon
  have HH := Lib.hid hok
  have HOK := Lib.hid h
  have HFE := Lib.hid (few32_few hs)
  clear hL hok hon h
  have Q0 := below_new w (.cells #[.int .i64 C.W, .int .i64 C.H, .int .i64 C.T, .slice C.AT C.tiles.length C.cT, .slice C.AO C.on.length C.cO, .slice C.AI C.ins.length C.cI, .slice C.AU C.outs.length C.cU] 49)
  have B0 := Box7.new w C 49
  have HI := Lib.hid hin
  clear hin
  go_enter Try.func9, Try.ntmps9
  go_wp2_with fail
  refine (live32_any _).mono ?_
  rintro e w1 ⟨rfl, hb1⟩
  have Q1 := below_then Q0 hb1
  have B1 := Box7.below B0 hb1
  clear hb1
  obtain ⟨z1, k10, k11, k12, k13, k14, k15, k16⟩ := id B1
  go_wp2_with fail
  refine (few32_yes _ _ hs).mono ?_
  rintro e w2 ⟨rfl, hb2⟩
  have Q2 := below_then Q1 hb2
  have B2 := Box7.below B1 hb2
  clear hb2
  obtain ⟨z2, k20, k21, k22, k23, k24, k25, k26⟩ := id B2
  clear z1 k10 k11 k12 k13 k14 k15 k16
  clear Q0 B0 Q1 B1
  go_wp2_with fail
  refine (joined_c _ _ (HI.out.later Q2) HFE.out HOK.out).mono ?_
  rintro e w3 ⟨g, N, rfl, hN, hg, hb3, hown⟩
  have HN := Lib.hid hN
  have hN2 : N ≤ 87040 := by have := nodes_bd HH.out; omega
  have O3 := Lib.hid hown
  have Q3 := below_then Q2 hb3
  have B3 := Box7.below B2 hb3
  clear hb3 hown hN B2 Q2 hg
  clear z2 k20 k21 k22 k23 k24 k25 k26
  obtain ⟨z3, k30, k31, k32, k33, k34, k35, k36⟩ := id B3
  go_wp2_with fail
  refine (edges_yes _ _ _ _ HH.out).mono ?_
  rintro e w4 ⟨v, rfl, hb4, hown⟩
  rw [HL.out] at hown
  obtain ⟨AA, c, hv⟩ := own_slice hown
  subst hv
  have E4 := Lib.hid hown
  have O4 := Lib.hid (own_keep O3.out hb4)
  have Q4 := below_then Q3 hb4
  have B4 := Box7.below B3 hb4
  clear hb4 hown B3 Q3
  clear z3 k30 k31 k32 k33 k34 k35 k36
  obtain ⟨z4, k40, k41, k42, k43, k44, k45, k46⟩ := id B4
  have hd1 : ((L.length : Int) != (C.on.length : Int)) = false := by rw [HON.out]; simp
  go_wp2_with fail
  refine (nodes_yes _ _ _ _ HH.out).mono ?_
  rintro e w5 ⟨rfl, hb5⟩
  rw [HN.out]
  have X5 := Lib.hid (XW.mk (below_then Q4 hb5) (B4.below hb5) (own_keep E4.out hb5) (own_keep O4.out hb5))
  have hrl : ∀ k, k < N → (joinedL C).getD k 0 ≤ k ∧ (joinedL C).getD ((joinedL C).getD k 0) 0 = (joinedL C).getD k 0 := by
    intro k hk
    have hk2 : k < (nodesI C.W C.H C.T).toNat := by rw [HN.out]; simpa using hk
    have he := joinAll_ends (edgesL C.W C.H C.T) C.on (edgesL C.W C.H C.T).length
    have h1 : joinedR C k ≤ k := he.le k
    rw [joinedL_get C hk2, joinedL_get C (by omega)]
    exact ⟨h1, he.same k⟩
  have hjl : (joinedL C).length = N := by rw [joinedL_length, HN.out]; simp
  have HRL := Lib.hid hrl
  have HJL := Lib.hid hjl
  clear hb5 B4 Q4 E4 O4 hrl hjl
  clear z4 k40 k41 k42 k43 k44 k45 k46
  go_wp2_with fail
  go_loop [57] (fun i => ∃ k : Nat, k ≤ N ∧ i = .int .i64 (k : Int)) (fun i => N - (intOf i).toNat)
  case atStart => exact ⟨0, by omega, rfl⟩
  case round =>
    obtain ⟨k, hk, rfl⟩ := hrel
    by_cases hlt : k < N
    · have c0 := X5.out.node HJL.out hlt
      obtain ⟨r1, r2⟩ := HRL.out k hlt
      have c1 := X5.out.node HJL.out (k := (joinedL C).getD k 0) (by omega)
      rw [r2] at c1
      clear r2
      generalize (joinedL C).getD k 0 = u at c0 c1 r1
      have hun : u < N := by omega
      go_wp2_with fail
      go_round
      case rel => exact ⟨k + 1, by omega, by go_num⟩
      case measure => simp [intOf]; omega
    · obtain rfl : k = N := by omega
      go_wp2_with fail
      go_loopw [80] (fun i wx => ∃ q : Nat, q ≤ L.length ∧ i = .int .i64 (q : Int) ∧ XW w wx C AA L c w3.heap.size g k) (fun i _ => L.length - (intOf i).toNat)
      case atStart => exact ⟨0, by omega, rfl, X5.out⟩
      case round =>
        clear X5
        obtain ⟨q, hq, rfl, hx⟩ := hrel
        have HX := Lib.hid hx
        clear hx
        by_cases hql : q < L.length
        · obtain ⟨ge, rfl, hcl⟩ := own_pair HX.out.edges (by omega)
          obtain ⟨z, k0, k1, k2, k3, k4, k5, k6⟩ := HX.out.box
          obtain ⟨c0, c1⟩ := hcl q hql
          clear hcl
          obtain ⟨ao, hao, hab, hoc⟩ := (HI.out.on).bool (k := q) (by rw [HON.out]; exact hql)
          rw [hao] at k4
          have hql2 : q < C.on.length := by rw [HON.out]; exact hql
          have hmem : L[q]! ∈ edgesL C.W C.H C.T := by rw [HL.out, getElem!_pos L q hql]; exact List.getElem_mem hql
          obtain ⟨r1, r2⟩ := edges_nodes HH.out hmem
          have e1 : 0 ≤ (L[q]!).1 := r1.2.1
          have e2 : (L[q]!).1 < (k : Int) := by have := r1.2.2; rw [HN.out] at this; exact this
          have e3 : 0 ≤ (L[q]!).2 := r2.2.1
          have e4 : (L[q]!).2 < (k : Int) := by have := r2.2.2; rw [HN.out] at this; exact this
          have hja : C.on.getD q false = true → joinedR C (L[q]!).1.toNat = joinedR C (L[q]!).2.toNat := by
            intro ho
            unfold joinedR
            rw [HL.out]
            exact joinAll_on L C.on L.length q hql ho
          have HJA := Lib.hid hja
          have HAO := Lib.hid hao
          clear hja hmem r1 r2 hao
          generalize L[q]! = ab at c0 c1 e1 e2 e3 e4 HJA
          obtain ⟨a, b⟩ := ab
          simp only at c0 c1 e1 e2 e3 e4 HJA
          obtain ⟨m, rfl⟩ : ∃ m : Nat, a = (m : Int) := ⟨a.toNat, by omega⟩
          obtain ⟨n, rfl⟩ : ∃ n : Nat, b = (n : Int) := ⟨b.toNat, by omega⟩
          have hm : m < k := by omega
          have hn : n < k := by omega
          clear e1 e2 e3 e4
          have X1 := Lib.hid (HX.out.keep (below_new wr (.cells #[.int .i64 (m : Int), .int .i64 (n : Int)] 43)))
          have hoc2 := (X1.out.below.cell (p := ao.add q) (by rw [add_block]; exact hab)).trans hoc
          have d0 := X1.out.node HJL.out hm
          have d1 := X1.out.node HJL.out hn
          have hgl : g < wr.heap.size := HX.out.glt
          obtain ⟨lo, hlo⟩ : ∃ lo : Nat, min (m : Int) (n : Int) = (lo : Int) := ⟨min m n, by omega⟩
          obtain ⟨hi, hhi⟩ : ∃ hi : Nat, max (m : Int) (n : Int) = (hi : Int) := ⟨max m n, by omega⟩
          have hd2 : decide (k ≤ hi) = false := decide_eq_false (by omega)
          have hq0 : (0 : Int) ≤ (q : Int) := by omega
          have hq1 : (q : Int) < (C.on.length : Int) := by omega
          have hm0 : (0 : Int) ≤ (m : Int) := by omega
          have hm1 : (m : Int) < (k : Int) := by omega
          have hn0 : (0 : Int) ≤ (n : Int) := by omega
          have hn1 : (n : Int) < (k : Int) := by omega
          clear hoc
          cases ho : C.on.getD q false with
          | false =>
            rw [ho] at hoc2
            clear ho
            go_wp2_with fail
            refine wp_region_quiet_lit (by kernel_rfl) (by kernel_rfl) ?_
            iterate 36 (any_goals (first | go_big_quiet_step (fail) | quiet_step (fail)))
            refine wpQuiet_nil ?_
            intro _ hw'
            obtain ⟨nq, hw''⟩ := hw'
            subst hw''
            go_wp2_with fail
            go_roundw
            case rel => exact ⟨q + 1, by omega, by go_num, X1.out.drewN _⟩
            case measure => simp [intOf]; omega
          | true =>
            rw [ho] at hoc2
            have he := HJA.out ho
            simp only [Int.toNat_natCast] at he
            rw [joinedL_get C (by rw [HN.out]; simpa using hm), he] at d0
            rw [joinedL_get C (by rw [HN.out]; simpa using hn)] at d1
            clear ho he
            generalize joinedR C n = u at d0 d1
            go_wp2_with fail
            refine wp_region_quiet_lit (by kernel_rfl) (by kernel_rfl) ?_
            iterate 36 (any_goals (first | go_big_quiet_step (fail) | quiet_step (fail)))
            refine wpQuiet_nil ?_
            intro _ hw'
            obtain ⟨nq, hw''⟩ := hw'
            subst hw''
            go_wp2_with fail
            go_roundw
            case rel => exact ⟨q + 1, by omega, by go_num, X1.out.drewN _⟩
            case measure => simp [intOf]; omega
        · go_wp2_with fail
          go_ret
          exact ⟨rfl, HX.out.below⟩

theorem chipEdges_walk (C : Cfg) (w : World) (hin : C.In w) (hwf : C.wf) :
    Calls Try.prog 9 #[.agg #[.int .i64 C.W, .int .i64 C.H, .int .i64 C.T, .slice C.AT C.tiles.length C.cT, .slice C.AO C.on.length C.cO, .slice C.AI C.ins.length C.cI, .slice C.AU C.outs.length C.cU]] w fun e w' => e = .returned (.bool true) ∧ Below w.heap.size w w' := by
  by_cases hs : few32 C
  · by_cases h : C.ok
    · exact chipEdges_yes C w hin hs h
    · exact chipEdges_no C w hin hs h
  · exact chipEdges_large C w hin hs

set_option maxRecDepth 100000 in
theorem chipEdges_lifted (os : Os) (started : os.Started) (H : Type) (enc : TypeId × Value → H) :
    ReturnsInHanded {} Try.checked os 9 .any (Rows.chipEdgesSpec.pre6 enc Try.prog Try.f9 Rows.chipEdgesRow.domain false) (Rows.chipEdgesSpec.post enc Try.prog Try.f9 false true false false) := by
  have hr : ∀ t ∈ Try.f9.params.toList, Try.prog.readableRec t = true ∧ t < Try.prog.types.size := by
    have h : Try.f9.params.toList.all (fun t => Try.prog.readableRec t && decide (t < Try.prog.types.size)) = true := by kernel_rfl
    intro t ht
    simpa using List.all_eq_true.1 h t ht
  refine returnsInHanded_of_change (C := Try.checked) own started (by kernel_rfl) Try.func9
    (ChangeSpec.witness6 (enc := enc) (C := Try.checked) false ⟨#[], #[.agg #[.int .i64 0, .int .i64 0, .int .i64 0, .slice none 0 0, .slice none 0 0, .slice none 0 0, .slice none 0 0]], []⟩ 8 (by kernel_rfl) (by kernel_rfl) (by kernel_rfl) (by kernel_rfl)) ?_
  intro W base args ds gs before hval0 hW hcnd _
  have hval : ∀ (j : Nat) t v, Try.f9.params[j]? = some t → args[j]? = some v → Value.okWide Try.prog W .any base t v := hval0
  have hW' := hW
  obtain ⟨p, q, hA0, hV, rfl, hfz, hnd⟩ := hW
  have hA1 : DataW.TrodAll enc Try.prog W 0 (fun _ => true) true Try.f9.params.toList args.toList ds p := hA0
  have hA := hA1
  rw [Try.params9] at hA hval
  obtain ⟨v0, vs0, d0, ds0, p0, q0, hargs, rfl, rfl, h0, r0⟩ := trodAll_cons hA
  obtain ⟨rfl, rfl, rfl⟩ := trodAll_nil r0
  obtain rfl : args = #[v0] := by cases args; simp_all
  obtain ⟨rfl, rfl⟩ := trodVars_none hV
  obtain ⟨C0, rfl, hin0, hwf0⟩ := open_cfg (hval 0 49 v0 rfl rfl) h0
  clear hA0 hval0
  simp only [List.append_nil] at hW'
  simp only [List.append_nil] at hA1
  refine (chipEdges_walk C0 W hin0 hwf0).mono fun e W' ⟨he, hb⟩ => ?_
  subst he
  exact ⟨_, rfl, law_post laidOut hr rfl hW' hA1 rfl rfl Try.underlying4 hb⟩

theorem chipEdges_over : Rows.chipEdgesRow.holds Try.pinned (OpenSpec.ofChange Rows.chipEdgesSpec) :=
  OpenClaim.holds_of_wide 9 Try.f9 rfl rfl rfl rfl rfl rfl rfl ⟨rfl, rfl, rfl, rfl, rfl⟩ rfl rfl rfl rfl rfl (by kernel_rfl) Try.func9 (by kernel_rfl)
    (of_decide_eq_true (by kernel_rfl)) (by unfold Func.isWrapper; first | (rw [if_pos (by decide +kernel)]; kernel_rfl) | (rw [if_neg (by decide +kernel)]; exact ⟨rfl, rfl⟩))
    (fun os started H enc _ => chipEdges_lifted os started H enc)

theorem chipEdges_holds : Rows.ChipEdgesSaid := chipEdges_over
#print axioms chipEdges_holds
end Go.Proofs.Ytpfhokhkbedkbaa
