/- filigreeref25.Ints, Bools, Rows, of rows that are alike. · filigreeref25.Same, of nets that are alike. -/
import Derived.Test.YtaajnmggbhnndaaGreatDoorZLRun
namespace Go.Proofs.YtaajnmggbhnndaaGreatDoor
open Go.RowKit Go.Shelf
set_option linter.unusedVariables false
set_option linter.unusedSimpArgs false
set_option maxRecDepth 100000 in
set_option maxHeartbeats 1000000 in
theorem ints25_yes (A B : Option Addr) (n c d : Nat) (l : List Int) (w : World) (ha : Rd w 1 A n c (ints l)) (hb : Rd w 1 B n d (ints l)) (hn : n ≤ 1000000) :
    Calls Tryz.prog 15 #[.slice A n c, .slice B n d] w fun r w' => r = .returned (.bool true) ∧ Below w.heap.size w w' := by
  have HA := Lib.hid ha
  have HB := Lib.hid hb
  clear ha hb
  go_enter Tryz.func15, Tryz.ntmps15
  go_wp2_with fail
  go_loopw [5] (fun v5 wx => ∃ i : Nat, i ≤ n ∧ v5 = .int .i64 (i : Int) ∧ Below w.heap.size w wx) (fun v5 _ => n - (intOf v5).toNat)
  case atStart => exact ⟨0, by omega, rfl, Below.refl _ _⟩
  case round =>
    obtain ⟨i, hi, rfl, hB⟩ := hrel
    have B1 := Lib.hid hB
    clear hB
    by_cases hin : i < n
    case neg =>
      have hlt : ¬ (i : Int) < (n : Int) := by omega
      go_wp2_with fail
      go_ret
      exact ⟨rfl, B1.out⟩
    have hin' : (i : Int) < (n : Int) := by omega
    obtain ⟨a, hA, hab, d0⟩ := (HA.out.later B1.out).int (k := i) hin
    obtain ⟨b, hB, hbb, d1⟩ := (HB.out.later B1.out).int (k := i) hin
    subst hA
    subst hB
    generalize l.getD i 0 = x at d0 d1
    have hx : (x != x) = false := bne_self_eq_false' _
    go_wp2_with fail
    refine wp_region_still_in (by kernel_rfl) (by kernel_rfl) fun St9 ne9 V9 hV9 hS9 => ?_
    have qd0 := still_cell hV9 d0
    have qd1 := still_cell hV9 d1
    repeat (first | go_big_quiet_step (fail) | quiet_step (fail))
    refine wpQuiet_nil ?_
    intro _ hw9
    obtain ⟨s9, rfl⟩ := hw9
    have hb9 := hV9 s9
    clear qd0 qd1 hS9
    generalize V9 s9 = w9 at hb9 ⊢
    clear hV9 s9 V9 ne9 St9
    have B9 := Lib.hid (below_then B1.out hb9)
    clear hb9 d0 d1
    go_wp2_with fail
    go_roundw
    case rel => exact ⟨i + 1, by omega, by go_num, B9.out⟩
    case measure => simp [intOf]; omega
set_option maxRecDepth 100000 in
set_option maxHeartbeats 1000000 in
theorem bools25_yes (A B : Option Addr) (n c d : Nat) (l : List Bool) (w : World) (ha : Rd w 1 A n c (bools l)) (hb : Rd w 1 B n d (bools l)) (hn : n ≤ 1000000) :
    Calls Tryz.prog 13 #[.slice A n c, .slice B n d] w fun r w' => r = .returned (.bool true) ∧ Below w.heap.size w w' := by
  have HA := Lib.hid ha
  have HB := Lib.hid hb
  clear ha hb
  go_enter Tryz.func13, Tryz.ntmps13
  go_wp2_with fail
  go_loopw [5] (fun v5 wx => ∃ i : Nat, i ≤ n ∧ v5 = .int .i64 (i : Int) ∧ Below w.heap.size w wx) (fun v5 _ => n - (intOf v5).toNat)
  case atStart => exact ⟨0, by omega, rfl, Below.refl _ _⟩
  case round =>
    obtain ⟨i, hi, rfl, hB⟩ := hrel
    have B1 := Lib.hid hB
    clear hB
    by_cases hin : i < n
    case neg =>
      have hlt : ¬ (i : Int) < (n : Int) := by omega
      go_wp2_with fail
      go_ret
      exact ⟨rfl, B1.out⟩
    have hin' : (i : Int) < (n : Int) := by omega
    obtain ⟨a, hA, hab, d0⟩ := (HA.out.later B1.out).bool (k := i) hin
    obtain ⟨b, hB, hbb, d1⟩ := (HB.out.later B1.out).bool (k := i) hin
    subst hA
    subst hB
    generalize l.getD i false = x at d0 d1
    have hx : (x != x) = false := bne_self_eq_false' _
    go_wp2_with fail
    refine wp_region_still_in (by kernel_rfl) (by kernel_rfl) fun St9 ne9 V9 hV9 hS9 => ?_
    have qd0 := still_cell hV9 d0
    have qd1 := still_cell hV9 d1
    repeat (first | go_big_quiet_step (fail) | quiet_step (fail))
    refine wpQuiet_nil ?_
    intro _ hw9
    obtain ⟨s9, rfl⟩ := hw9
    have hb9 := hV9 s9
    clear qd0 qd1 hS9
    generalize V9 s9 = w9 at hb9 ⊢
    clear hV9 s9 V9 ne9 St9
    have B9 := Lib.hid (below_then B1.out hb9)
    clear hb9 d0 d1
    go_wp2_with fail
    go_roundw
    case rel => exact ⟨i + 1, by omega, by go_num, B9.out⟩
    case measure => simp [intOf]; omega
set_option maxRecDepth 100000 in
set_option maxHeartbeats 1000000 in
theorem rows25_yes (A B : Option Addr) (c d : Nat) (l m : List SB) (w : World) (ha : RowsB w A c l) (hb : RowsB w B d m) (hlm : rowsP l = rowsP m) (hnn : l.length ≤ 1000000) (hnl : ∀ x ∈ l, x.2.2.length ≤ 1000000) :
    Calls Tryz.prog 14 #[.slice A l.length c, .slice B m.length d] w fun r w' => r = .returned (.bool true) ∧ Below w.heap.size w w' := by
  have HA := Lib.hid ha
  have HB := Lib.hid hb
  have hml : m.length = l.length := by rw [← rowsP_len m, ← rowsP_len l, hlm]
  have HLM := Lib.hid hlm
  obtain ⟨n, hn⟩ : ∃ n, l.length = n := ⟨_, rfl⟩
  rw [hml, hn]
  rw [hn] at hnn
  have HNL := Lib.hid hnl
  have HL := Lib.hid hn
  have HM := Lib.hid (hml.trans hn)
  clear ha hb hlm hml hn hnl
  go_enter Tryz.func14, Tryz.ntmps14
  go_wp2_with fail
  go_loopw [5] (fun v5 wx => ∃ i : Nat, i ≤ n ∧ v5 = .int .i64 (i : Int) ∧ Below w.heap.size w wx) (fun v5 _ => n - (intOf v5).toNat)
  case atStart => exact ⟨0, by omega, rfl, Below.refl _ _⟩
  case round =>
    obtain ⟨i, hi, rfl, hB⟩ := hrel
    have B1 := Lib.hid hB
    clear hB
    by_cases hin : i < n
    case neg =>
      have hlt : ¬ (i : Int) < (n : Int) := by omega
      go_wp2_with fail
      go_ret
      exact ⟨rfl, B1.out⟩
    have hin' : (i : Int) < (n : Int) := by omega
    have hil : i < l.length := by rw [HL.out]; exact hin
    have him : i < m.length := by rw [HM.out]; exact hin
    obtain ⟨a, hA, hab, d0, r0⟩ := (HA.out.later B1.out).at_ hil
    obtain ⟨b, hB, hbb, d1, r1⟩ := (HB.out.later B1.out).at_ him
    have he : l[i].2.2 = m[i].2.2 := by rw [← rowsP_at hil, ← rowsP_at him, HLM.out]
    have hq6 := HNL.out _ (List.getElem_mem hil)
    subst hA
    subst hB
    generalize l[i] = x at d0 r0 he hq6
    generalize m[i] = y at d1 r1 he
    obtain ⟨x1, x2, x3⟩ := x
    obtain ⟨y1, y2, y3⟩ := y
    simp only [slvB] at d0 d1 r0 r1 he hq6
    subst he
    have HBO := Lib.hid (fun (W : World) (h : Below wr.heap.size wr W) => bools25_yes x1 y1 x3.length x2 y2 x3 W (r0.later h) (r1.later h) hq6)
    clear hq6
    generalize x3.length = q at d0 d1 HBO
    clear r0 r1 hil him
    go_wp2_with fail
    refine wp_region_still_in (by kernel_rfl) (by kernel_rfl) fun St9 ne9 V9 hV9 hS9 => ?_
    have qd0 := still_cell hV9 d0
    have qd1 := still_cell hV9 d1
    repeat (first | go_big_quiet_step (first | (go_at_call 13; with_reducible exact Calls.still hV9 hS9 (HBO.out _ (hV9 _)))) | quiet_step (first | (go_at_call 13; with_reducible exact Calls.still hV9 hS9 (HBO.out _ (hV9 _)))))
    refine wpQuiet_nil ?_
    intro _ hw9
    obtain ⟨s9, rfl⟩ := hw9
    have hb9 := hV9 s9
    clear qd0 qd1 hS9
    generalize V9 s9 = w9 at hb9 ⊢
    clear hV9 s9 V9 ne9 St9
    have B9 := Lib.hid (below_then B1.out hb9)
    clear hb9
    go_wp2_with fail
    go_roundw
    case rel => exact ⟨i + 1, by omega, by go_num, B9.out⟩
    case measure => simp [intOf]; omega
end Go.Proofs.YtaajnmggbhnndaaGreatDoor

namespace Go.Proofs.YtaajnmggbhnndaaGreatDoor
open Go.RowKit Go.Shelf
set_option linter.unusedVariables false
set_option linter.unusedSimpArgs false
theorem luts_cut {a b : List CT} (h : pcs a = pcs b) {i : Nat} (h1 : i < a.length) (h2 : i < b.length) : a[i].1.2.2 = b[i].1.2.2 ∧ a[i].2 = b[i].2 := by
  have e : (pcs a)[i]'(by simpa [pcs] using h1) = (pcs b)[i]'(by simpa [pcs] using h2) := by simp only [h]
  simp only [pcs, List.getElem_map, Prod.mk.injEq] at e
  exact e
set_option maxRecDepth 100000 in
set_option maxHeartbeats 2000000 in
theorem rsame25_yes (N K : NT) (w : World) (hn : N.In w) (hk : K.In w) (hI : K.I = N.I) (hh : K.hs = N.hs) (hl : N.luts = K.luts) (ho : K.ou = N.ou) (hN1 : N.hs.length ≤ 1000000) (hN2 : N.ls.length ≤ 1000000) (hN3 : N.ou.length ≤ 1000000) (hN4 : ∀ c ∈ N.ls, c.1.2.2.length ≤ 1000000) :
    Calls Tryz.prog 8 #[.agg #[.int .i64 N.I, .slice N.AH N.hs.length N.cH, .slice N.AL N.ls.length N.cL, .slice N.AO N.ou.length N.cO], .agg #[.int .i64 K.I, .slice K.AH K.hs.length K.cH, .slice K.AL K.ls.length K.cL, .slice K.AO K.ou.length K.cO]] w fun r w' => r = .returned (.bool true) ∧ Below w.heap.size w w' := by
  have hll : K.ls.length = N.ls.length := by have e := congrArg List.length hl; rw [N.luts_len, K.luts_len] at e; exact e.symm
  have hkh := hk.hs
  have hko := hk.ou
  rw [hI, hh, ho, hll]
  rw [hh] at hkh
  rw [ho] at hko
  have HKL := Lib.hid hk.ls
  have HKH := Lib.hid hkh
  have HKO := Lib.hid hko
  have HNN := Lib.hid hn
  have HL := Lib.hid (show pcs N.ls = pcs K.ls from hl)
  have HLL := Lib.hid hll
  have HN4 := Lib.hid hN4
  obtain ⟨h, hhh⟩ : ∃ h, N.hs.length = h := ⟨_, rfl⟩
  obtain ⟨l, hlll⟩ : ∃ l, N.ls.length = l := ⟨_, rfl⟩
  obtain ⟨o, hoo⟩ : ∃ o, N.ou.length = o := ⟨_, rfl⟩
  have HH := Lib.hid hhh
  have HLN := Lib.hid hlll
  have HO := Lib.hid hoo
  rw [hhh, hlll, hoo]
  rw [hhh] at hN1
  rw [hlll] at hN2
  rw [hoo] at hN3
  obtain ⟨I, hII⟩ : ∃ I, N.I = I := ⟨_, rfl⟩
  rw [hII]
  obtain ⟨AH, hAH⟩ : ∃ A, N.AH = A := ⟨_, rfl⟩
  obtain ⟨BH, hBH⟩ : ∃ A, K.AH = A := ⟨_, rfl⟩
  obtain ⟨AL, hAL⟩ : ∃ A, N.AL = A := ⟨_, rfl⟩
  obtain ⟨BL, hBL⟩ : ∃ A, K.AL = A := ⟨_, rfl⟩
  have HAH := Lib.hid hAH
  have HBH := Lib.hid hBH
  have HAL := Lib.hid hAL
  have HBL := Lib.hid hBL
  rw [hAH, hBH, hAL, hBL]
  have B0 := Lib.hid (below_then (below_new w (.cells #[.int .i64 I, .slice AH h N.cH, .slice AL l N.cL, .slice N.AO o N.cO] 32)) (below_new _ (.cells #[.int .i64 I, .slice BH h K.cH, .slice BL l K.cL, .slice K.AO o K.cO] 32)))
  have X0 := Lib.hid ((Blk.made w 32 #[.int .i64 I, .slice AH h N.cH, .slice AL l N.cL, .slice N.AO o N.cO]).alloc (.cells #[.int .i64 I, .slice BH h K.cH, .slice BL l K.cL, .slice K.AO o K.cO] 32))
  have Y0 := Lib.hid (blk_made1 w (.cells #[.int .i64 I, .slice AH h N.cH, .slice AL l N.cL, .slice N.AO o N.cO] 32) 32 #[.int .i64 I, .slice BH h K.cH, .slice BL l K.cL, .slice K.AO o K.cO])
  have hno' : Rd w 1 N.AO o N.cO (ints N.ou) := by rw [← hoo]; exact hn.ou
  have hko' : Rd w 1 K.AO o K.cO (ints N.ou) := by rw [← hoo]; exact hko
  have HINT := Lib.hid (ints25_yes N.AO K.AO o N.cO K.cO N.ou _ (hno'.later B0.out) (hko'.later B0.out) hN3)
  clear hn hk hI hh hl ho hN4 hll hkh hko hno' hko' hhh hlll hoo hII hAH hBH hAL hBL
  have k0 := X0.out.cell 0
  have k1 := X0.out.cell 1
  have k2 := X0.out.cell 2
  have k3 := X0.out.cell 3
  have j0 := Y0.out.cell 0
  have j1 := Y0.out.cell 1
  have j2 := Y0.out.cell 2
  have j3 := Y0.out.cell 3
  have hx0 : (I != I) = false := bne_self_eq_false' _
  have hx1 : ((h : Int) != (h : Int)) = false := bne_self_eq_false' _
  have hx2 : ((l : Int) != (l : Int)) = false := bne_self_eq_false' _
  go_enter Tryz.func8, Tryz.ntmps8
  go_wp2_with fail
  refine HINT.out.mono ?_
  rintro e w2 ⟨rfl, hb2⟩
  have B2 := Lib.hid (below_then B0.out hb2)
  have X2 := Lib.hid (X0.out.keep hb2)
  have Y2 := Lib.hid (Y0.out.keep hb2)
  clear hb2 k0 k1 k2 k3 j0 j1 j2 j3 hx0 hx1 hx2 HINT
  go_wp2_with fail
  go_loopw [5] (fun v5 wx => ∃ i : Nat, i ≤ h ∧ v5 = .int .i64 (i : Int) ∧ Below w2.heap.size w2 wx) (fun v5 _ => h - (intOf v5).toNat)
  case atStart => exact ⟨0, by omega, rfl, Below.refl _ _⟩
  case round =>
    obtain ⟨i, hi, rfl, hB⟩ := hrel
    have B3 := Lib.hid hB
    have X3 := Lib.hid (X2.out.keep hB)
    have Y3 := Lib.hid (Y2.out.keep hB)
    clear hB
    have k1 := X3.out.cell 1
    have j1 := Y3.out.cell 1
    by_cases hin : i < h
    case pos =>
      have hin' : (i : Int) < (h : Int) := by omega
      have hia : i < N.hs.length := by rw [HH.out]; exact hin
      obtain ⟨g1, g2⟩ := fc_get N.hs i hia
      obtain ⟨pa, hPA, hpb, e0, e1⟩ := HNN.out.hs.two g1 g2
      obtain ⟨pb, hPB, hpb2, f0, f1⟩ := HKH.out.two g1 g2
      have QB := below_then B2.out B3.out
      have e2 := (QB.cell (p := pa.add (i * 2)) (by rw [add_block]; exact hpb)).trans e0
      have e3 := (QB.cell (p := ⟨(pa.add (i * 2)).block, (pa.add (i * 2)).off + 1, none⟩) (by rw [add_block]; exact hpb)).trans e1
      have f2 := (QB.cell (p := pb.add (i * 2)) (by rw [add_block]; exact hpb2)).trans f0
      have f3 := (QB.cell (p := ⟨(pb.add (i * 2)).block, (pb.add (i * 2)).off + 1, none⟩) (by rw [add_block]; exact hpb2)).trans f1
      rw [HAH.out] at hPA
      rw [HBH.out] at hPB
      subst hPA
      subst hPB
      clear e0 e1 f0 f1 g1 g2 QB
      generalize N.hs[i] = hh at e2 e3 f2 f3
      obtain ⟨x, y⟩ := hh
      simp only at e2 e3 f2 f3
      obtain ⟨ga, hga⟩ : ∃ p, pa.add (i * 2) = p := ⟨_, rfl⟩
      obtain ⟨gb, hgb⟩ : ∃ p, pb.add (i * 2) = p := ⟨_, rfl⟩
      rw [hga] at e2 e3
      rw [hgb] at f2 f3
      have hx : (x != x) = false := bne_self_eq_false' _
      have hxy : (y != y) = false := bne_self_eq_false' _
      go_wp2_with fail
      refine wp_region_still_in (by kernel_rfl) (by kernel_rfl) fun St9 ne9 V9 hV9 hS9 => ?_
      have qk1 := still_cell hV9 k1
      have qj1 := still_cell hV9 j1
      have qe2 := still_cell hV9 e2
      have qe3 := still_cell hV9 e3
      have qf2 := still_cell hV9 f2
      have qf3 := still_cell hV9 f3
      repeat (first | go_big_quiet_step (fail) | quiet_step (fail))
      refine wpQuiet_nil ?_
      intro _ hw9
      obtain ⟨s9, rfl⟩ := hw9
      have hb9 := hV9 s9
      clear qk1 qj1 qe2 qe3 qf2 qf3 hS9
      generalize V9 s9 = w9 at hb9 ⊢
      clear hV9 s9 V9 ne9 St9
      have B9 := Lib.hid (below_then B3.out hb9)
      clear hb9 e2 e3 f2 f3 k1 j1 hx hxy
      go_wp2_with fail
      go_roundw
      case rel => exact ⟨i + 1, by omega, by go_num, B9.out⟩
      case measure => simp [intOf]; omega
    obtain rfl : i = h := by omega
    have hlt : ¬ (i : Int) < (i : Int) := by omega
    go_wp2_with fail
    clear k1 j1 hlt
    go_loopw [6] (fun v6 wx => ∃ j : Nat, j ≤ l ∧ v6 = .int .i64 (j : Int) ∧ Below w2.heap.size w2 wx) (fun v6 _ => l - (intOf v6).toNat)
    case atStart => exact ⟨0, by omega, rfl, B3.out⟩
    case round =>
      obtain ⟨j, hj, rfl, hB⟩ := hrel
      have B4 := Lib.hid hB
      have X4 := Lib.hid (X2.out.keep hB)
      have Y4 := Lib.hid (Y2.out.keep hB)
      have QB := Lib.hid (below_then B2.out hB)
      clear hB
      have k2 := X4.out.cell 2
      have j2 := Y4.out.cell 2
      by_cases hjl : j < l
      case neg =>
        have hlt : ¬ (j : Int) < (l : Int) := by omega
        go_wp2_with fail
        go_ret
        exact ⟨rfl, QB.out⟩
      have hjl' : (j : Int) < (l : Int) := by omega
      have q1 : j < N.ls.length := by rw [HLN.out]; exact hjl
      have q2 : j < K.ls.length := by rw [HLL.out]; exact q1
      obtain ⟨ua, hua, hub, f0, f1, hs1⟩ := (HNN.out.ls.later QB.out).at_ q1
      obtain ⟨ub, hua2, hub2, g0, g1, hs2⟩ := (HKL.out.later QB.out).at_ q2
      obtain ⟨c1, c2⟩ := luts_cut HL.out q1 q2
      have hq4 := HN4.out _ (List.getElem_mem q1)
      rw [HAL.out] at hua
      rw [HBL.out] at hua2
      subst hua
      subst hua2
      generalize N.ls[j] = ca at f0 f1 hs1 c1 c2 hq4
      generalize K.ls[j] = cb at g0 g1 hs2 c1 c2
      obtain ⟨⟨x1, x2, x3⟩, xt⟩ := ca
      obtain ⟨⟨y1, y2, y3⟩, yt⟩ := cb
      simp only [slv] at f0 f1 g0 g1 hs1 hs2 c1 c2 hq4
      subst c1
      subst c2
      obtain ⟨m, hm⟩ : ∃ m, x3.length = m := ⟨_, rfl⟩
      have hint := fun (W : World) (hW : Below wr.heap.size wr W) => ints25_yes x1 y1 x3.length x2 y2 x3 W (Rd.later hs1 hW) (Rd.later hs2 hW) hq4
      rw [hm] at f0 g0 hint
      have HI := Lib.hid hint
      have hx : ((xt : Int) != (xt : Int)) = false := bne_self_eq_false' _
      clear hint hs1 hs2 hq4 hm
      go_wp2_with fail
      refine wp_region_still_in (by kernel_rfl) (by kernel_rfl) fun St9 ne9 V9 hV9 hS9 => ?_
      have qk2 := still_cell hV9 k2
      have qj2 := still_cell hV9 j2
      have qf0 := still_cell hV9 f0
      have qf1 := still_cell hV9 f1
      have qg0 := still_cell hV9 g0
      have qg1 := still_cell hV9 g1
      repeat (first | go_big_quiet_step ((go_at_call 15; exact Calls.still hV9 hS9 (HI.out _ (hV9 _)))) | quiet_step ((go_at_call 15; exact Calls.still hV9 hS9 (HI.out _ (hV9 _)))))
      refine wpQuiet_nil ?_
      intro _ hw9
      obtain ⟨s9, rfl⟩ := hw9
      have hb9 := hV9 s9
      clear qk2 qj2 qf0 qf1 qg0 qg1 hS9
      generalize V9 s9 = w9 at hb9 ⊢
      clear hV9 s9 V9 ne9 St9
      have B9 := Lib.hid (below_then B4.out hb9)
      clear hb9 f0 f1 g0 g1 k2 j2 hx
      go_wp2_with fail
      go_roundw
      case rel => exact ⟨j + 1, by omega, by go_num, B9.out⟩
      case measure => simp [intOf]; omega
end Go.Proofs.YtaajnmggbhnndaaGreatDoor
