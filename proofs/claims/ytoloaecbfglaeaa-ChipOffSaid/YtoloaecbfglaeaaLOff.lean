/- The law ChipOff: with no switch on each wire drives its own node alone, and an output has none. For every configuration; no condition. -/
import Derived.Test.YtoloaecbfglaeaaFrame
import Derived.Test.YtoloaecbfglaeaaLWhat
import Derived.Test.YtoloaecbfglaeaaOffP
import Derived.Test.YtoloaecbfglaeaaRead
import Derived.Laws.MakeOwn
namespace Go.Proofs.Ytoloaecbfglaeaa
open Go.ChangeShapes Go.WideShapes Go.ChangeAt Go.RowKit Go.Joins
set_option linter.unusedVariables false
set_option linter.unusedSimpArgs false

theorem off_drivers {C : Cfg} (h : C.ok) (hf : C.few) (A : Option Addr) (c : Nat) (W : World) (hin : (offC C A c).In W) :
    Calls Try.prog 25 #[.agg #[.int .i64 C.W, .int .i64 C.H, .int .i64 C.T, .slice C.AT C.tiles.length C.cT, .slice A C.on.length c, .slice C.AI C.ins.length C.cI, .slice C.AU C.outs.length C.cU]] W (PairOut (dL (offC C A c)) 0 W) := by
  have k := drivers_pair (offC C A c) W hin (off_few hf A c)
  rw [off_dE h] at k
  unfold DRV at k
  rw [show (offC C A c).on.length = C.on.length by simp [offC]] at k
  exact k
theorem off_readc {C : Cfg} (hf : C.few) (A : Option Addr) (c : Nat) (W : World) (hin : (offC C A c).In W) :
    Calls Try.prog 26 #[.agg #[.int .i64 C.W, .int .i64 C.H, .int .i64 C.T, .slice C.AT C.tiles.length C.cT, .slice A C.on.length c, .slice C.AI C.ins.length C.cI, .slice C.AU C.outs.length C.cU]] W (ReadOut (offC C A c) W) := by
  have k := read_any (offC C A c) W hin (off_few hf A c)
  unfold READ at k
  rw [show (offC C A c).on.length = C.on.length by simp [offC]] at k
  exact k
theorem bools_made (n : Nat) : List.replicate n (Value.bool false) = bools (List.replicate n false) := by simp [bools]

set_option maxRecDepth 100000 in
set_option maxHeartbeats 2000000 in
theorem chipOff_a (C : Cfg) (w : World) (hs : ¬ few32 C) :
    Calls Try.prog 9 #[.agg #[.int .i64 C.W, .int .i64 C.H, .int .i64 C.T, .slice C.AT C.tiles.length C.cT, .slice C.AO C.on.length C.cO, .slice C.AI C.ins.length C.cI, .slice C.AU C.outs.length C.cU]] w fun e w' => e = .returned (.bool true) ∧ Below w.heap.size w w' := by
  have B0 := Lib.hid (Box7.new w C 28)
  have Q0 := Lib.hid (below_new w (.cells #[.int .i64 C.W, .int .i64 C.H, .int .i64 C.T, .slice C.AT C.tiles.length C.cT, .slice C.AO C.on.length C.cO, .slice C.AI C.ins.length C.cI, .slice C.AU C.outs.length C.cU] 28))
  go_enter Try.func9, Try.ntmps9
  go_wp2_with fail
  refine (live32_any _).mono ?_
  rintro e w1 ⟨rfl, hb1⟩
  have Q1 := Lib.hid (below_then Q0.out hb1)
  obtain ⟨z1, k10, k11, k12, k13, k14, k15, k16⟩ := Box7.below B0.out hb1
  clear hb1
  go_wp2_with fail
  refine (few32_no _ _ hs).mono ?_
  rintro e w2 ⟨rfl, hb2⟩
  have Q2 := Lib.hid (below_then Q1.out hb2)
  clear hb2
  go_wp2_with fail
  go_ret
  exact ⟨rfl, Q2.out⟩

set_option maxRecDepth 100000 in
set_option maxHeartbeats 2000000 in
theorem chipOff_b (C : Cfg) (w : World) (hin : C.In w) (hs : few32 C) (hok : ¬ C.ok) :
    Calls Try.prog 9 #[.agg #[.int .i64 C.W, .int .i64 C.H, .int .i64 C.T, .slice C.AT C.tiles.length C.cT, .slice C.AO C.on.length C.cO, .slice C.AI C.ins.length C.cI, .slice C.AU C.outs.length C.cU]] w fun e w' => e = .returned (.bool true) ∧ Below w.heap.size w w' := by
  have B0 := Lib.hid (Box7.new w C 28)
  have Q0 := Lib.hid (below_new w (.cells #[.int .i64 C.W, .int .i64 C.H, .int .i64 C.T, .slice C.AT C.tiles.length C.cT, .slice C.AO C.on.length C.cO, .slice C.AI C.ins.length C.cI, .slice C.AU C.outs.length C.cU] 28))
  have hk := fun (W : World) (hB : Below w.heap.size w W) => bcheck_any C W (hin.later hB) (few32_few hs)
  rw [show C.E = 1 from if_neg hok] at hk
  simp only [BCH] at hk
  have HK := Lib.hid hk
  clear hk hin
  go_enter Try.func9, Try.ntmps9
  go_wp2_with fail
  refine (live32_any _).mono ?_
  rintro e w1 ⟨rfl, hb1⟩
  have Q1 := Lib.hid (below_then Q0.out hb1)
  have B1 := Lib.hid (Box7.below B0.out hb1)
  obtain ⟨z1, k10, k11, k12, k13, k14, k15, k16⟩ := B1.out
  clear hb1
  go_wp2_with fail
  refine (few32_yes _ _ hs).mono ?_
  rintro e w2 ⟨rfl, hb2⟩
  have Q2 := Lib.hid (below_then Q1.out hb2)
  obtain ⟨z2, k20, k21, k22, k23, k24, k25, k26⟩ := Box7.below B1.out hb2
  clear hb2 k10 k11 k12 k13 k14 k15 k16 z1
  go_wp2_with fail
  refine (HK.out _ Q2.out).mono ?_
  rintro e w3 ⟨rfl, hb3⟩
  have Q3 := Lib.hid (below_then Q2.out hb3)
  clear hb3
  go_wp2_with fail
  go_ret
  exact ⟨rfl, Q3.out⟩

set_option maxRecDepth 100000 in
set_option maxHeartbeats 4000000 in
theorem chipOff_c (C : Cfg) (w : World) (hin : C.In w) (hs : few32 C) (hok : C.ok) :
    Calls Try.prog 9 #[.agg #[.int .i64 C.W, .int .i64 C.H, .int .i64 C.T, .slice C.AT C.tiles.length C.cT, .slice C.AO C.on.length C.cO, .slice C.AI C.ins.length C.cI, .slice C.AU C.outs.length C.cU]] w fun e w' => e = .returned (.bool true) ∧ Below w.heap.size w w' := by
  have X0 := Lib.hid (Blk.made w 28 C.cells)
  have Q0 := Lib.hid (below_new w (.cells #[.int .i64 C.W, .int .i64 C.H, .int .i64 C.T, .slice C.AT C.tiles.length C.cT, .slice C.AO C.on.length C.cO, .slice C.AI C.ins.length C.cI, .slice C.AU C.outs.length C.cU] 28))
  have hk := fun (W : World) (hB : Below w.heap.size w W) => bcheck_any C W (hin.later hB) (few32_few hs)
  rw [show C.E = 0 from if_pos hok] at hk
  simp only [BCH] at hk
  have HK := Lib.hid hk
  have HIN := Lib.hid hin
  have HS := Lib.hid hs
  have HOK := Lib.hid hok
  have hon := hs.2.2.2.2.1
  have hni := hs.2.2.2.2.2.1
  have hnt := hs.2.2.2.1
  have hno := hs.2.2.2.2.2.2
  have hcb : (Try.prog.info? 4).map (fun i => (i.zero, i.size, i.bytes)) = some (some (.bool false), 1, 1) := by kernel_rfl
  obtain ⟨i0, hi0, hz0, hz1, hz2⟩ := info_parts hcb
  have hmk : ∀ w : World, (Instr.makeSlice 25 (.int .i64 (C.on.length : Int)) (.int .i64 (C.on.length : Int))).run Try.prog w = .ok (.slice (some ⟨w.heap.size, 0, none⟩) C.on.length C.on.length) (w.alloc (.cells (List.replicate C.on.length (.bool false)).toArray 4)) := fun w => by
    have := run_make (P := Try.prog) w 25 4 i0 (.bool false) Try.underlying25 hi0 hz0 .i64 .i64 (C.on.length : Int) (C.on.length : Int) (by omega) (Int.le_refl _) (by rw [hz2]; omega) (by omega)
    rw [this, hz1]
    simp [Value.cells, made_eq]
  have HMK := Lib.hid hmk
  clear hk hin hok hs hi0 hz0 hz1 hz2 hmk hcb
  go_enter Try.func9, Try.ntmps9
  go_wp2_with fail
  refine (live32_any _).mono ?_
  rintro e w1 ⟨rfl, hb1⟩
  have Q1 := Lib.hid (below_then Q0.out hb1)
  have X1 := Lib.hid (X0.out.keep hb1)
  have k0 := X1.out.cell 0
  have k1 := X1.out.cell 1
  have k2 := X1.out.cell 2
  have k3 := X1.out.cell 3
  have k4 := X1.out.cell 4
  have k5 := X1.out.cell 5
  have k6 := X1.out.cell 6
  clear hb1
  go_wp2_with fail
  refine (few32_yes _ _ HS.out).mono ?_
  rintro e w2 ⟨rfl, hb2⟩
  have Q2 := Lib.hid (below_then Q1.out hb2)
  have X2 := Lib.hid (X1.out.keep hb2)
  have k0 := X2.out.cell 0
  have k1 := X2.out.cell 1
  have k2 := X2.out.cell 2
  have k3 := X2.out.cell 3
  have k4 := X2.out.cell 4
  have k5 := X2.out.cell 5
  have k6 := X2.out.cell 6
  clear hb2 X1 Q1
  go_wp2_with fail
  refine (HK.out _ Q2.out).mono ?_
  rintro e w3 ⟨rfl, hb3⟩
  have Q3 := Lib.hid (below_then Q2.out hb3)
  have X3 := Lib.hid (X2.out.keep hb3)
  clear hb3 X2 Q2 k0 k1 k2 k3 k4 k5 k6
  have k4 := X3.out.cell 4
  have f4 := X3.out.free 4
  have hz3 := X3.out.lt
  have hmk := HMK.out
  go_upto_region 6 with (fail)
  obtain ⟨g, hg⟩ : ∃ g, w3.heap.size = g := ⟨_, rfl⟩
  have hb4 : Below w.heap.size w ((w3.setCell ⟨w.heap.size, 4, none⟩ (.slice (some ⟨w3.heap.size, 0, none⟩) C.on.length C.on.length)).alloc (.cells (Array.replicate C.on.length (.bool false)) 4)) :=
    below_then (Q3.out.setCell (p := ⟨w.heap.size, 4, none⟩) (Nat.le_refl _) _) (below_new _ _)
  have hx4 := (X3.out.put 4 (.slice (some ⟨w3.heap.size, 0, none⟩) C.on.length C.on.length)).alloc (.cells (Array.replicate C.on.length (.bool false)) 4)
  have ho4 := own_laid (w3.setCell ⟨w.heap.size, 4, none⟩ (.slice (some ⟨w3.heap.size, 0, none⟩) C.on.length C.on.length)) 4 (List.replicate C.on.length (.bool false)) C.on.length 0 (by simp) (Nat.zero_le _) (by omega)
  rw [show (w3.setCell ⟨w.heap.size, 4, none⟩ (.slice (some ⟨w3.heap.size, 0, none⟩) C.on.length C.on.length)).heap.size = w3.heap.size by simp, show (List.replicate C.on.length (Value.bool false)).toArray = Array.replicate C.on.length (.bool false) by simp] at ho4
  generalize ((w3.setCell ⟨w.heap.size, 4, none⟩ (.slice (some ⟨w3.heap.size, 0, none⟩) C.on.length C.on.length)).alloc (.cells (Array.replicate C.on.length (.bool false)) 4)) = w4 at hb4 hx4 ho4 ⊢
  rw [hg] at hx4 ho4 ⊢
  have X4 := Lib.hid (show Blk w4 w.heap.size 28 #[.int .i64 C.W, .int .i64 C.H, .int .i64 C.T, .slice C.AT C.tiles.length C.cT, .slice (some ⟨g, 0, none⟩) C.on.length C.on.length, .slice C.AI C.ins.length C.cI, .slice C.AU C.outs.length C.cU] from by simpa using hx4)
  have B4 := Lib.hid hb4
  have hin4 : (offC C (some ⟨g, 0, none⟩) C.on.length).In w4 := by
    obtain ⟨a1, a2, a3, a4⟩ := HIN.out.later hb4
    refine ⟨a1, ?_, a3, a4⟩
    have := Rd.of_own ho4
    rw [bools_made] at this
    simpa [offC] using this
  have H4 := Lib.hid hin4
  have hcnt := off_count HOK.out (some ⟨g, 0, none⟩) C.on.length
  have hdl := dL_len (offC C (some ⟨g, 0, none⟩) C.on.length)
  have hdr := fun (W : World) (hB : Below w4.heap.size w4 W) => off_drivers HOK.out (few32_few HS.out) (some ⟨g, 0, none⟩) C.on.length W (hin4.later hB)
  have hre := fun (W : World) (hB : Below w4.heap.size w4 W) => off_readc (few32_few HS.out) (some ⟨g, 0, none⟩) C.on.length W (hin4.later hB)
  generalize dL (offC C (some ⟨g, 0, none⟩) C.on.length) = L at hcnt hdl hdr
  have HDR := Lib.hid hdr
  have HRE := Lib.hid hre
  have HCNT := Lib.hid hcnt
  have k0 := X4.out.cell 0
  have k1 := X4.out.cell 1
  have k2 := X4.out.cell 2
  have k3 := X4.out.cell 3
  have k4 := X4.out.cell 4
  have k5 := X4.out.cell 5
  have k6 := X4.out.cell 6
  clear hg hb4 hx4 ho4 hin4 hcnt hdr hre X3 Q3 HMK HK f4 hz3 hmk
  go_wp2_with fail
  refine (HDR.out _ (Below.refl _ _)).mono ?_
  rintro e w5 ⟨A5, c5, rfl, hb5, hr5⟩
  have X5 := Lib.hid (X4.out.keep hb5)
  have B5 := Lib.hid (below_then B4.out hb5)
  have D5 := Lib.hid hb5
  have R5 := Lib.hid hr5
  have k0 := X5.out.cell 0
  have k1 := X5.out.cell 1
  have k2 := X5.out.cell 2
  have k3 := X5.out.cell 3
  have k4 := X5.out.cell 4
  have k5 := X5.out.cell 5
  have k6 := X5.out.cell 6
  clear hb5 hr5 HDR
  go_wp2_with fail
  refine (HRE.out _ D5.out).mono ?_
  rintro e w6 ⟨P, x, rfl, hb6, -, -, hrr, -⟩
  obtain ⟨hx1, hx2⟩ := off_read HOK.out HS.out _ _ hrr
  have hb6' := below_then hb6 (below_new w6 (.cells #[.int .i64 P.I, .slice P.AB P.bs.length P.cB, .slice P.AO P.outs.length P.cO] 49))
  have X6 := Lib.hid (X5.out.keep hb6')
  have B6 := Lib.hid (below_then B5.out hb6')
  have R6 := Lib.hid (R5.out.later hb6')
  have X6a := Lib.hid (X5.out.keep hb6)
  have k1 := X6a.out.cell 3
  have k3 := X6a.out.cell 5
  have k4 := X6a.out.cell 6
  have hz6 := X6a.out.lt
  clear hb6 hb6' hrr HRE X4 X5 B4 B5 D5 R5 k0 k2 k5 k6
  have hL5 := hdl
  rcases Nat.eq_zero_or_pos C.outs.length with h0 | h0
  · have hx := hx2 (List.eq_nil_of_length_eq_zero h0)
    subst hx
    clear hx1 hx2
    go_wp2_with fail
    go_loop [7, 58] (fun v7 v58 => ∃ k : Nat, k ≤ L.length ∧ v58 = .int .i64 (k : Int) ∧ v7 = .int .i64 ((L.take k).countP (fun d => decide (0 ≤ d)) : Int)) (fun _ v58 => L.length - (intOf v58).toNat)
    case atStart => exact ⟨0, by omega, rfl, rfl⟩
    case round =>
      obtain ⟨k, hk, rfl, rfl⟩ := hrel
      have hcl : (L.take k).countP (fun d => decide (0 ≤ d)) ≤ k := Nat.le_trans List.countP_le_length (by rw [List.length_take]; omega)
      by_cases hlt : k < L.length
      · obtain ⟨a, ha, hab, cd⟩ := R6.out.int hlt
        subst ha
        have hg : L.getD k 0 = L[k] := by rw [List.getD_eq_getElem?_getD, List.getElem?_eq_getElem hlt]; rfl
        rw [hg] at cd
        have htk : (L.take (k + 1)).countP (fun d => decide (0 ≤ d)) = (L.take k).countP (fun d => decide (0 ≤ d)) + if 0 ≤ L[k] then 1 else 0 := by
          rw [List.take_succ_eq_append_getElem hlt, List.countP_append]
          simp [List.countP_cons]
        have HTK := Lib.hid htk
        clear hg htk
        generalize L[k] = d at cd HTK
        generalize (L.take k).countP (fun d => decide (0 ≤ d)) = m at hcl HTK
        by_cases hd : 0 ≤ d
        · have h1 := HTK.out
          rw [if_pos hd] at h1
          have H1 := Lib.hid h1
          clear h1
          go_wp2_with fail
          go_round
          case rel => exact ⟨k + 1, by omega, by go_num, by rw [H1.out]; go_num⟩
          case measure => simp [intOf]; omega
        · have h1 := HTK.out
          rw [if_neg hd] at h1
          have H1 := Lib.hid h1
          clear h1
          go_wp2_with fail
          go_round
          case rel => exact ⟨k + 1, by omega, by go_num, by rw [H1.out]; go_num⟩
          case measure => simp [intOf]; omega
      · obtain rfl : k = L.length := by omega
        rw [List.take_length, HCNT.out] at *
        go_wp2_with fail
        go_ret
        exact ⟨rfl, B6.out⟩
  · have hx := hx1 (fun e => by rw [e] at h0; simp at h0)
    subst hx
    have q1 : 0 < (C.outs.length : Int) := by omega
    have q2 : ((C.outs.length : Int) == 0) = false := by rw [beq_eq_false_iff_ne]; omega
    clear hx1 hx2 h0
    go_wp2_with fail
    go_loop [7, 58] (fun v7 v58 => ∃ k : Nat, k ≤ L.length ∧ v58 = .int .i64 (k : Int) ∧ v7 = .int .i64 ((L.take k).countP (fun d => decide (0 ≤ d)) : Int)) (fun _ v58 => L.length - (intOf v58).toNat)
    case atStart => exact ⟨0, by omega, rfl, rfl⟩
    case round =>
      obtain ⟨k, hk, rfl, rfl⟩ := hrel
      have hcl : (L.take k).countP (fun d => decide (0 ≤ d)) ≤ k := Nat.le_trans List.countP_le_length (by rw [List.length_take]; omega)
      by_cases hlt : k < L.length
      · obtain ⟨a, ha, hab, cd⟩ := R6.out.int hlt
        subst ha
        have hg : L.getD k 0 = L[k] := by rw [List.getD_eq_getElem?_getD, List.getElem?_eq_getElem hlt]; rfl
        rw [hg] at cd
        have htk : (L.take (k + 1)).countP (fun d => decide (0 ≤ d)) = (L.take k).countP (fun d => decide (0 ≤ d)) + if 0 ≤ L[k] then 1 else 0 := by
          rw [List.take_succ_eq_append_getElem hlt, List.countP_append]
          simp [List.countP_cons]
        have HTK := Lib.hid htk
        clear hg htk
        generalize L[k] = d at cd HTK
        generalize (L.take k).countP (fun d => decide (0 ≤ d)) = m at hcl HTK
        by_cases hd : 0 ≤ d
        · have h1 := HTK.out
          rw [if_pos hd] at h1
          have H1 := Lib.hid h1
          clear h1
          go_wp2_with fail
          go_round
          case rel => exact ⟨k + 1, by omega, by go_num, by rw [H1.out]; go_num⟩
          case measure => simp [intOf]; omega
        · have h1 := HTK.out
          rw [if_neg hd] at h1
          have H1 := Lib.hid h1
          clear h1
          go_wp2_with fail
          go_round
          case rel => exact ⟨k + 1, by omega, by go_num, by rw [H1.out]; go_num⟩
          case measure => simp [intOf]; omega
      · obtain rfl : k = L.length := by omega
        rw [List.take_length, HCNT.out] at *
        go_wp2_with fail
        go_ret
        exact ⟨rfl, B6.out⟩

theorem chipOff_walk (C : Cfg) (w : World) (hin : C.In w) (hwf : C.wf) :
    Calls Try.prog 9 #[.agg #[.int .i64 C.W, .int .i64 C.H, .int .i64 C.T, .slice C.AT C.tiles.length C.cT, .slice C.AO C.on.length C.cO, .slice C.AI C.ins.length C.cI, .slice C.AU C.outs.length C.cU]] w fun e w' => e = .returned (.bool true) ∧ Below w.heap.size w w' := by
  by_cases hs : few32 C
  case neg => exact chipOff_a C w hs
  by_cases hok : C.ok
  case neg => exact chipOff_b C w hin hs hok
  exact chipOff_c C w hin hs hok
set_option maxRecDepth 100000 in
theorem chipOff_lifted (os : Os) (started : os.Started) (H : Type) (enc : TypeId × Value → H) :
    ReturnsInHanded {} Try.checked os 9 .any (Rows.chipOffSpec.pre6 enc Try.prog Try.f9 Rows.chipOffRow.domain false) (Rows.chipOffSpec.post enc Try.prog Try.f9 false true false false) := by
  have hr : ∀ t ∈ Try.f9.params.toList, Try.prog.readableRec t = true ∧ t < Try.prog.types.size := by
    have h : Try.f9.params.toList.all (fun t => Try.prog.readableRec t && decide (t < Try.prog.types.size)) = true := by kernel_rfl
    intro t ht
    simpa using List.all_eq_true.1 h t ht
  refine returnsInHanded_of_change (C := Try.checked) own started (by kernel_rfl) Try.func9
    (ChangeSpec.witness6 (enc := enc) (C := Try.checked) false ⟨#[], #[.agg #[.int .i64 0, .int .i64 0, .int .i64 0, .slice none 0 0, .slice none 0 0, .slice none 0 0, .slice none 0 0]], []⟩ 8 (by kernel_rfl) (by kernel_rfl) (by kernel_rfl) (by kernel_rfl)) ?_
  intro W base args ds gs before hval0 hW hcnd _
  have hval : ∀ (j : Nat) t v, Try.f9.params[j]? = some t → args[j]? = some v → Value.okWide Try.prog W .any base t v := hval0
  have hW' := hW
  obtain ⟨p, q, hA0, hV, rfl, hfz, hnd⟩ := hW
  have hA1 : DataW.TrodAll enc Try.prog W 0 (fun _ => true) true Try.f9.params.toList args.toList ds p := hA0
  have hA := hA1
  rw [Try.params9] at hA hval
  obtain ⟨v0, vs0, d0, ds0, p0, q0, hargs, rfl, rfl, h0, r0⟩ := trodAll_cons hA
  obtain ⟨rfl, rfl, rfl⟩ := trodAll_nil r0
  obtain rfl : args = #[v0] := by cases args; simp_all
  obtain ⟨rfl, rfl⟩ := trodVars_none hV
  obtain ⟨C0, rfl, hin0, hwf0⟩ := open_cfg (hval 0 28 v0 rfl rfl) h0
  clear hA0 hval0
  simp only [List.append_nil] at hW'
  simp only [List.append_nil] at hA1
  refine (chipOff_walk C0 W hin0 hwf0).mono fun e W' ⟨he, hb⟩ => ?_
  subst he
  exact ⟨_, rfl, law_post laidOut hr rfl hW' hA1 rfl rfl Try.underlying4 hb⟩

theorem chipOff_over : Rows.chipOffRow.holds Try.pinned (OpenSpec.ofChange Rows.chipOffSpec) :=
  OpenClaim.holds_of_wide 9 Try.f9 rfl rfl rfl rfl rfl rfl rfl ⟨rfl, rfl, rfl, rfl, rfl⟩ rfl rfl rfl rfl rfl (by kernel_rfl) Try.func9 (by kernel_rfl)
    (of_decide_eq_true (by kernel_rfl)) (by unfold Func.isWrapper; first | (rw [if_pos (by decide +kernel)]; kernel_rfl) | (rw [if_neg (by decide +kernel)]; exact ⟨rfl, rfl⟩))
    (fun os started H enc _ => chipOff_lifted os started H enc)

theorem chipOff_holds : Rows.ChipOffSaid := chipOff_over
#print axioms chipOff_holds
end Go.Proofs.Ytoloaecbfglaeaa
