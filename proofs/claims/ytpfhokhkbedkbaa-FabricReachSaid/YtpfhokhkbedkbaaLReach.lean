/- The law FabricReach: from each track all tracks of the same t are reached, over tracks alone. For every fabric and all numbers; no condition. -/
import Derived.Test.YtpfhokhkbedkbaaFrame
import Derived.Test.YtpfhokhkbedkbaaLReachA
namespace Go.Proofs.Ytpfhokhkbedkbaa
open Go.ChangeShapes Go.WideShapes Go.ChangeAt Go.RowKit Go.Joins
set_option linter.unusedVariables false
set_option linter.unusedSimpArgs false

set_option maxRecDepth 100000 in
set_option maxHeartbeats 4000000 in
theorem reach_yes (W H T f : Int) (w : World) (hs : smallB W H T = true) (h : okA W H T) (hf : trackB W H T f = true) :
    Calls Try.prog 7 #[.agg #[.int .i64 W, .int .i64 H, .int .i64 T], .int .i64 f] w fun e w' => e = .returned (.bool true) ∧ Below w.heap.size w w' := by
  obtain ⟨L, hL⟩ : ∃ L, edgesL W H T = L := ⟨_, rfl⟩
  have HL := Lib.hid hL
  have hlen : L.length ≤ 6000000 := by have := rawL_len h; rw [← hL]; unfold edgesL; rw [sortP_length]; exact this
  have hfN : 0 ≤ f ∧ f < nodesI W H T := by unfold trackB at hf; simp only [decide_eq_true_eq] at hf; exact hf.1.2
  obtain ⟨f, rfl⟩ : ∃ k : Nat, f = (k : Int) := ⟨f.toNat, by omega⟩
  have hnb := nodes_bd h
  obtain ⟨N, hN⟩ : ∃ N : Nat, nodesI W H T = (N : Int) := ⟨(nodesI W H T).toNat, by omega⟩
  have HN := Lib.hid hN
  have hN2 : N ≤ 87040 := by omega
  have hfl : f < N := by omega
  obtain ⟨tt, htt⟩ : ∃ tt, whT W H T (f : Int) = tt := ⟨_, rfl⟩
  have HTT := Lib.hid htt
  clear hL hnb hN hfN
  have Q0 := below_new w (.cells #[.int .i64 W, .int .i64 H, .int .i64 T] 23)
  have B0 := Box3.new w (.int .i64 W) (.int .i64 H) (.int .i64 T) 23
  go_enter Try.func7, Try.ntmps7
  go_wp2_with fail
  refine (live_any _).mono ?_
  rintro e w1 ⟨rfl, hb1⟩
  have Q1 := below_then Q0 hb1
  have B1 := Box3.below B0 hb1
  clear hb1
  obtain ⟨z1, k10, k11, k12⟩ := id B1
  go_wp2_with fail
  refine (small_any _ _ _ _).mono ?_
  rintro e w2 ⟨rfl, hb2⟩
  have Q2 := below_then Q1 hb2
  have B2 := Box3.below B1 hb2
  clear hb2
  obtain ⟨z2, k20, k21, k22⟩ := id B2
  go_wp2_with fail
  refine (track_c _ _ _ _ _).mono ?_
  rintro e w3 ⟨rfl, hb3⟩
  have Q3 := below_then Q2 hb3
  have B3 := Box3.below B2 hb3
  clear hb3
  obtain ⟨z3, k30, k31, k32⟩ := id B3
  rw [htt]
  clear htt
  go_wp2_with fail
  refine (edges_yes _ _ _ _ h).mono ?_
  rintro e w4 ⟨v, rfl, hb4, hown⟩
  have Q4 := below_then Q3 hb4
  have B4 := Box3.below B3 hb4
  clear hb4 z1 k10 k11 k12 z2 k20 k21 k22 z3 k30 k31 k32 B0 B1 B2 B3 Q0 Q1 Q2
  obtain ⟨z4, k40, k41, k42⟩ := id B4
  rw [HL.out] at hown
  obtain ⟨AA, c, hv⟩ := own_slice hown
  subst hv
  have HO := Lib.hid hown
  clear hown
  go_wp2_with fail
  refine (nodes_yes _ _ _ _ h).mono ?_
  rintro e w5 ⟨rfl, hb5⟩
  have Q5 := below_then Q4 hb5
  have B5 := Box3.below B4 hb5
  have O5 := Lib.hid (own_keep HO.out hb5)
  have HH := Lib.hid h
  have HF := Lib.hid hf
  have hd : (Value.slice AA L.length c).ownBlock ≠ some w5.heap.size := fun e => by have := (O5.out.lt _ e).2; omega
  have hgt : w.heap.size < w5.heap.size := B5.lt
  clear hb5 B4 z4 k40 k41 k42 h hf HO
  obtain ⟨i0, hi0, hz0, hz1, hz2⟩ := info_parts bool_info
  have HI := Lib.hid hi0
  have HZ0 := Lib.hid hz0
  have HZ1 := Lib.hid hz1
  have HZ2 := Lib.hid hz2
  clear hi0 hz0 hz1 hz2
  go_wp2_with ((with_reducible refine wpList_make_full _ rfl (.tmp 43) (.tmp 43) 45 rfl w5.heap.size 4 i0 (.bool false) 1 Try.underlying45 HI.out HZ0.out HZ1.out .i64 .i64 (nodesI W H T) (nodesI W H T) N rfl rfl HN.out HN.out ?c1 ?c2 (Nat.le_refl _) ?_))
  case c1 => rw [HZ2.out]; omega
  case c2 => unfold maxLen; omega
  intro w6 hm6 hg6
  have Q6 : Below w.heap.size w w6 := Q5.grown hg6 (by have := Q5.size; omega) (fun _ h => by cases h)
  have hb6 : Below w5.heap.size w5 w6 := (Below.refl _ _).grown hg6 (Nat.le_refl _) (fun _ h => by cases h)
  have B6 := Box3.below B5 hb6
  have O6 := Lib.hid (own_keep O5.out hb6)
  rw [show (madeCells #[Value.bool false] N).toList = bc (List.replicate N false) by rw [← bc_replicate]; exact toList_madeCells_one _ _] at hm6
  have hgl6 : w5.heap.size < w6.heap.size := by
    have := (hm6.lt w5.heap.size rfl).2
    exact this
  have hfr := hm6.frozenAt f
  have hcl := (hm6.cellAt f (by omega)).trans (bc_get _ (by simpa using hfl))
  have HM6 := Lib.hid hm6
  have hdf : decide (N ≤ f) = false := by simp; omega
  clear hm6 hg6 hb6 O5 B5 Q5 Q4 Q3
  go_wp2_with fail
  have R7 := Lib.hid (RW.store (RW.mk Q6 B6 O6.out HM6.out hgt hd) f true)
  have hm0 : Marks W H T N f tt ((List.replicate N false).set f true) := by
    refine ⟨by simp, by rw [getD_set _ _ _ (by simpa using hfl), if_pos rfl], fun n hn => ?_⟩
    rw [getD_set _ _ _ (by simpa using hfl)] at hn
    by_cases e : f = n
    · subst e; exact ⟨HF.out, HTT.out⟩
    · rw [if_neg e] at hn; simp only [List.getD_eq_getElem?_getD, List.getElem?_replicate] at hn; split at hn <;> simp at hn
  obtain ⟨M0, hM0⟩ : ∃ M0, (List.replicate N false).set f true = M0 := ⟨_, rfl⟩
  rw [hM0] at hm0 R7
  have HM0 := Lib.hid hm0
  clear hm0 hM0 Q6 B6 O6 HM6 hfr hcl hgl6
  go_loopg [10] (falses M0 + 1) (fun n ch wx => ∃ M c', ch = .bool c' ∧ RW w wx W H T AA L c w3.heap.size w5.heap.size N M ∧ Marks W H T N f tt M ∧ (c' = true → falses M < n) ∧ (c' = false → ∀ n : Nat, trackB W H T n = true → M.getD n false = decide (whT W H T n = tt)))
  case atStart => exact ⟨M0, true, rfl, R7.out, HM0.out, fun _ => by omega, fun h => by cases h⟩
  case round =>
    clear R7 HM0
    obtain ⟨M, c', rfl, hw, hma, hms, hall⟩ := hrel
    obtain ⟨z, k0, k1, k2⟩ := hw.box
    have HW := Lib.hid hw
    have HMA := Lib.hid hma
    clear hw hma
    cases c' with
    | true =>
      have hml := hms rfl
      clear hms hall
      have HG := Lib.hid (Going.start (L := L) HMA.out)
      go_wp2_with fail
      go_loopw [10, 55] (fun ch i wx => ∃ (k : Nat) (M' : List Bool) (cc : Bool), k ≤ L.length ∧ i = .int .i64 (k : Int) ∧ ch = .bool cc ∧ RW w wx W H T AA L c w3.heap.size w5.heap.size N M' ∧ Going W H T N f tt L (falses M) M' cc k) (fun _ i _ => L.length - (intOf i).toNat)
      case atStart => exact ⟨0, M, false, by omega, rfl, rfl, HW.out, HG.out⟩
      case round =>
        clear HW HG HMA z k0 k1 k2
        obtain ⟨k, M', cc, hk, rfl, rfl, hw, hg⟩ := hrel
        by_cases hlt : k < L.length
        · obtain ⟨g, rfl, hcl⟩ := own_pair hw.edges (by omega)
          obtain ⟨z, k0, k1, k2⟩ := hw.box
          have hgg : w5.heap.size < wr.heap.size := hw.glt
          have HW := Lib.hid hw
          have HG := Lib.hid hg
          clear hw hg
          obtain ⟨c0, c1⟩ := hcl k hlt
          clear hcl
          have hmem : L[k]! ∈ edgesL W H T := by rw [HL.out, getElem!_pos L k hlt]; exact List.getElem_mem hlt
          obtain ⟨q1, q2, q3⟩ := edges_kinds HH.out hmem
          obtain ⟨r1, r2⟩ := edges_nodes HH.out hmem
          have r3 : (L[k]!).2 < (N : Int) := by have := r2.2.2; rw [HN.out] at this; exact this
          have r4 : 0 ≤ (L[k]!).1 := r1.2.1
          clear hmem r1 r2
          generalize hab : L[k]! = ab at c0 c1 q1 q2 q3 r3 r4
          obtain ⟨a, b⟩ := ab
          have HAB := Lib.hid hab
          clear hab
          simp only at c0 c1 q1 q2 q3 r3 r4
          obtain ⟨m, rfl⟩ : ∃ m : Nat, a = (m : Int) := ⟨a.toNat, by omega⟩
          obtain ⟨n, rfl⟩ : ∃ n : Nat, b = (n : Int) := ⟨b.toNat, by omega⟩
          have htt : trackB W H T m = true → whT W H T m = whT W H T n := q3
          have HT := Lib.hid htt
          have HQ2 := Lib.hid q2
          clear htt q3 q2
          have hmN : m < N := by omega
          have hnN : n < N := by omega
          go_wp2_with fail
          refine (track_c _ _ _ _ _).mono ?_
          rintro e w7 ⟨rfl, hb7⟩
          have x0 : w7.cell? ⟨wr.heap.size, 0, none⟩ = some (.int .i64 (m : Int)) := (hb7.cell (p := ⟨wr.heap.size, 0, none⟩) (by simp)).trans (World.cell?_alloc_at _ _ _ _ rfl)
          have x1 : w7.cell? ⟨wr.heap.size, 1, none⟩ = some (.int .i64 (n : Int)) := (hb7.cell (p := ⟨wr.heap.size, 1, none⟩) (by simp)).trans (World.cell?_alloc_at _ _ _ _ rfl)
          have hw7 : Below wr.heap.size wr w7 := below_then (below_new wr _) hb7
          have hs7 : wr.heap.size < w7.heap.size := by have := hb7.size; simp at this; omega
          have R7 := Lib.hid (HW.out.keep hw7)
          obtain ⟨z7, k70, k71, k72⟩ := R7.out.box
          clear hb7 k0 k1 k2 z
          go_wp2_with fail
          refine (track_c _ _ _ _ _).mono ?_
          rintro e w8 ⟨rfl, hb8⟩
          have y0 := (hb8.cell (p := ⟨wr.heap.size, 0, none⟩) hs7).trans x0
          have y1 := (hb8.cell (p := ⟨wr.heap.size, 1, none⟩) hs7).trans x1
          have hw8 : Below wr.heap.size wr w8 := below_then hw7 hb8
          have R8 := Lib.hid (HW.out.keep hw8)
          have hg8 : wr.heap.size < w8.heap.size := by have := hb8.size; omega
          clear hb8 x0 x1 hw7 R7 z7 k70 k71 k72 c0 c1 hw8 HW
          rw [HQ2.out]
          cases hta : trackB W H T m with
          | false =>
            go_wp2_with fail
            go_quiet (fail)
            go_wp2_with fail
            go_roundw
            case rel => exact ⟨k + 1, M', cc, by omega, by go_num, rfl, R8.out.drewN _, HG.out.skip (by rw [HAB.out]; intro h1; rw [hta] at h1; cases h1)⟩
            case measure => simp [intOf]; omega
          | true =>
            obtain ⟨v0, f0⟩ := R8.out.cell hmN
            obtain ⟨v1, f1⟩ := R8.out.cell hnN
            have hm0 : (0 : Int) ≤ (m : Int) := by omega
            have hn0 : (n : Int) < (N : Int) := by omega
            by_cases huv : M'.getD m false = M'.getD n false
            · have HE : Hid (Even W H T M' ((m : Int), (n : Int))) := fun _ _ => by simpa using huv
              generalize M'.getD m false = u at v0 huv
              generalize M'.getD n false = v at v1 huv
              subst huv
              go_wp2_with fail
              go_quiet (fail)
              go_wp2_with fail
              go_roundw
              case rel => exact ⟨k + 1, M', cc, by omega, by go_num, rfl, R8.out.drewN _, HG.out.skip (by rw [HAB.out]; exact HE.out)⟩
              case measure => simp [intOf]; omega
            · have HS := Lib.hid (HG.out.step hmN hnN hta HQ2.out (HT.out hta) huv)
              have hne : (!(M'.getD m false == M'.getD n false)) = true := bne_mk huv
              generalize M'.getD m false = u at v0 hne
              generalize M'.getD n false = v at v1 hne
              clear huv
              have hgne : w5.heap.size ≠ wr.heap.size := by omega
              go_wp2_with fail
              go_quiet (fail)
              go_wp2_with fail
              go_roundw
              case rel => exact ⟨k + 1, _, true, by omega, by go_num, rfl, ((R8.out.drewN _).store m true).store n true, HS.out⟩
              case measure => simp [intOf]; omega
        · have hke : k = L.length := by omega
          have HK := Lib.hid hke
          have HW := Lib.hid hw
          have HG := Lib.hid hg
          clear hke hw hg
          go_wp2_with fail
          go_roundg (if cc then falses M else 0)
          case measure => split <;> omega
          case rel =>
            refine ⟨M', cc, rfl, HW.out, HG.out.marks, ?_, ?_⟩
            · intro h; subst h; exact HG.out.lt rfl
            · intro h
              subst h
              intro n hn
              exact HG.out.all HK.out (fun p hp => by rw [← HL.out]; exact edgesL_mem.2 hp) HH.out HN.out HF.out HTT.out hn
    | false =>
      have HALL := Lib.hid (hall rfl)
      clear hall hms
      go_wp2_with fail
      clear z k0 k1 k2
      go_loopw [113] (fun i wx => ∃ k : Nat, k ≤ N ∧ i = .int .i64 (k : Int) ∧ RW w wx W H T AA L c w3.heap.size w5.heap.size N M) (fun i _ => N - (intOf i).toNat)
      case atStart => exact ⟨0, by omega, rfl, HW.out⟩
      case round =>
        clear HW
        obtain ⟨k, hk, rfl, hw⟩ := hrel
        have HW := Lib.hid hw
        by_cases hlt : k < N
        · obtain ⟨z, k0, k1, k2⟩ := hw.box
          clear hw
          go_wp2_with fail
          refine (track_c _ _ _ _ _).mono ?_
          rintro e w7 ⟨rfl, hb7⟩
          have R7 := Lib.hid (HW.out.keep hb7)
          obtain ⟨v0, f0⟩ := R7.out.cell hlt
          clear hb7 k0 k1 k2 z
          cases hta : trackB W H T k with
          | false =>
            go_wp2_with fail
            go_roundw
            case rel => exact ⟨k + 1, by omega, by go_num, R7.out⟩
            case measure => simp [intOf]; omega
          | true =>
            have hv := HALL.out k hta
            rw [hv] at v0
            have heq : (!(decide (whT W H T k = tt) == (whT W H T k == tt))) = false := marks_eq _ _
            generalize decide (whT W H T k = tt) = u at v0 heq
            clear hv
            go_wp2_with fail
            go_roundw
            case rel => exact ⟨k + 1, by omega, by go_num, R7.out⟩
            case measure => simp [intOf]; omega
        · go_wp2_with fail
          go_ret
          exact ⟨rfl, HW.out.below⟩

theorem fabricReach_walk (W H T f : Int) (w : World) :
    Calls Try.prog 7 #[.agg #[.int .i64 W, .int .i64 H, .int .i64 T], .int .i64 f] w fun e w' => e = .returned (.bool true) ∧ Below w.heap.size w w' := by
  cases hs : smallB W H T
  · exact reach_large W H T f w hs
  · by_cases h : okA W H T
    · cases hf : trackB W H T f
      · exact reach_off W H T f w hs h hf
      · exact reach_yes W H T f w hs h hf
    · exact reach_no W H T f w hs h

set_option maxRecDepth 100000 in
theorem fabricReach_lifted (os : Os) (started : os.Started) (H : Type) (enc : TypeId × Value → H) :
    ReturnsInHanded {} Try.checked os 7 .any (Rows.fabricReachSpec.pre6 enc Try.prog Try.f7 Rows.fabricReachRow.domain false) (Rows.fabricReachSpec.post enc Try.prog Try.f7 false true false false) := by
  have hr : ∀ t ∈ Try.f7.params.toList, Try.prog.readableRec t = true ∧ t < Try.prog.types.size := by
    have h : Try.f7.params.toList.all (fun t => Try.prog.readableRec t && decide (t < Try.prog.types.size)) = true := by kernel_rfl
    intro t ht
    simpa using List.all_eq_true.1 h t ht
  refine returnsInHanded_of_change (C := Try.checked) own started (by kernel_rfl) Try.func7
    (ChangeSpec.witness6 (enc := enc) (C := Try.checked) false ⟨#[], #[.agg #[.int .i64 0, .int .i64 0, .int .i64 0], .int .i64 0], []⟩ 8 (by kernel_rfl) (by kernel_rfl) (by kernel_rfl) (by kernel_rfl)) ?_
  intro W base args ds gs before hval0 hW hcnd _
  have hval : ∀ (j : Nat) t v, Try.f7.params[j]? = some t → args[j]? = some v → Value.okWide Try.prog W .any base t v := hval0
  have hW' := hW
  obtain ⟨p, q, hA0, hV, rfl, hfz, hnd⟩ := hW
  have hA1 : DataW.TrodAll enc Try.prog W 0 (fun _ => true) true Try.f7.params.toList args.toList ds p := hA0
  have hA := hA1
  rw [Try.params7] at hA hval
  obtain ⟨v0, vs0, d0, ds0, p0, q0, hargs, rfl, rfl, h0, r0⟩ := trodAll_cons hA
  obtain ⟨v1, vs1, d1, ds1, p1, q1, rfl, rfl, rfl, h1, r1⟩ := trodAll_cons r0
  obtain ⟨rfl, rfl, rfl⟩ := trodAll_nil r1
  obtain rfl : args = #[v0, v1] := by cases args; simp_all
  obtain ⟨rfl, rfl⟩ := trodVars_none hV
  obtain ⟨c0, c1, c2, y0, y1, y2, m, rfl, rfl, rfl, hy0, hy1, hy2⟩ := open_agg3 Try.underlying23 (by kernel_rfl) (by kernel_rfl : Try.prog.cellsOf 23 = 3) (hval 0 23 v0 rfl rfl) h0
  obtain ⟨a0_0, e0, rfl, wa0_0⟩ := DataW.trod_int Try.underlying3 hy0
  obtain ⟨a0_1, e1, rfl, wa0_1⟩ := DataW.trod_int Try.underlying3 hy1
  obtain ⟨a0_2, e2, rfl, wa0_2⟩ := DataW.trod_int Try.underlying3 hy2
  simp at e0 e1 e2
  subst e0 e1 e2
  obtain ⟨a1, rfl, rfl, rfl, w1⟩ := open_int Try.underlying3 (hval 1 3 v1 rfl rfl) h1
  clear hA0 hval0
  simp only [List.append_nil] at hW'
  refine (fabricReach_walk a0_0 a0_1 a0_2 a1 W).mono fun e W' ⟨he, hb⟩ => ?_
  subst he
  exact ⟨_, rfl, law_post laidOut hr rfl hW' hA1 rfl rfl Try.underlying4 hb⟩

theorem fabricReach_over : Rows.fabricReachRow.holds Try.pinned (OpenSpec.ofChange Rows.fabricReachSpec) :=
  OpenClaim.holds_of_wide 7 Try.f7 rfl rfl rfl rfl rfl rfl rfl ⟨rfl, rfl, rfl, rfl, rfl⟩ rfl rfl rfl rfl rfl (by kernel_rfl) Try.func7 (by kernel_rfl)
    (of_decide_eq_true (by kernel_rfl)) (by unfold Func.isWrapper; first | (rw [if_pos (by decide +kernel)]; kernel_rfl) | (rw [if_neg (by decide +kernel)]; exact ⟨rfl, rfl⟩))
    (fun os started H enc _ => fabricReach_lifted os started H enc)

theorem fabricReach_holds : Rows.FabricReachSaid := fabricReach_over
#print axioms fabricReach_holds
end Go.Proofs.Ytpfhokhkbedkbaa
