/- Walk of filigreeref27.Same, of blocks that are alike. -/
import Derived.Test.YtoloaecbfglaeaaGreatSame
import Derived.Test.YtoloaecbfglaeaaGreatRun
namespace Go.Proofs.YtoloaecbfglaeaaGreat
open Go.RowKit Topo
set_option linter.unusedVariables false
set_option linter.unusedSimpArgs false

def TwoBox (wr : World) (b c : Array Value) (v6 v7 : Value) (wx : World) : Prop :=
  ∃ g h : Nat, v6 = .pointer (some ⟨g, 0, none⟩) ∧ v7 = .pointer (some ⟨h, 0, none⟩) ∧ Below wr.heap.size wr wx ∧ Blk wx g 67 b ∧ Blk wx h 67 c
theorem twoBox_a (wr : World) (b c : Array Value) : TwoBox wr b c (.pointer (some ⟨wr.heap.size, 0, none⟩)) (.pointer (some ⟨wr.heap.size + 1, 0, none⟩)) ((wr.alloc (.cells b 67)).alloc (.cells c 67)).drew := by
  have h1 := Blk.made (wr.alloc (.cells b 67)) 67 c
  rw [World.size_alloc] at h1
  exact ⟨_, _, rfl, rfl, below_drewN ((below_new wr _).trans ((below_new _ _).mono (by simp))) 1, ((Blk.made wr 67 b).alloc _).keep (below_drewN (Below.refl _ _) 1), h1.keep (below_drewN (Below.refl _ _) 1)⟩
theorem twoBox_b (wr : World) (b c : Array Value) : TwoBox wr b c (.pointer (some ⟨wr.heap.size + 1, 0, none⟩)) (.pointer (some ⟨wr.heap.size, 0, none⟩)) ((wr.alloc (.cells c 67)).alloc (.cells b 67)).drew := by
  have h1 := Blk.made (wr.alloc (.cells c 67)) 67 b
  rw [World.size_alloc] at h1
  exact ⟨_, _, rfl, rfl, below_drewN ((below_new wr _).trans ((below_new _ _).mono (by simp))) 1, h1.keep (below_drewN (Below.refl _ _) 1), ((Blk.made wr 67 c).alloc _).keep (below_drewN (Below.refl _ _) 1)⟩
set_option maxRecDepth 100000 in
set_option maxHeartbeats 4000000 in
theorem rsamePack_yes (P Q : PK) (w : World) (hp : P.In w) (hq : Q.In w) (hf : P.fit) (h : P.plain = Q.plain) :
    Calls Tryz.prog 11 #[.agg #[.int .i64 P.I, .slice P.AB P.bs.length P.cB, .slice P.AO P.outs.length P.cO], .agg #[.int .i64 Q.I, .slice Q.AB Q.bs.length Q.cB, .slice Q.AO Q.outs.length Q.cO]] w fun e w' => e = .returned (.bool true) ∧ Below w.heap.size w w' := by
  have h' := h
  simp only [PK.plain, Prod.mk.injEq] at h'
  obtain ⟨hI, hb, ho⟩ := h'
  have hn : Q.bs.length = P.bs.length := by have := congrArg List.length hb; simp at this; exact this.symm
  have hk : ∀ k (h1 : k < P.bs.length) (h2 : k < Q.bs.length), P.bs[k].plain = Q.bs[k].plain := fun k h1 h2 => by
    have := congrArg (fun l => l[k]?) hb
    simp only [List.getElem?_map, List.getElem?_eq_getElem h1, List.getElem?_eq_getElem h2, Option.map_some, Option.some.injEq] at this
    exact this
  have HK := Lib.hid hk
  have HP := Lib.hid hp
  have HQ := Lib.hid hq
  have HF := Lib.hid hf
  have HO := Lib.hid ho
  have HN := Lib.hid hn
  have hon := hf.o
  have hnb := hf.n
  rw [hn, ← hI, ← ho]
  have b1 := below_new w (.cells #[.int .i64 P.I, .slice P.AB P.bs.length P.cB, .slice P.AO P.outs.length P.cO] 33)
  have b2 := below_then b1 (below_new _ (.cells #[.int .i64 P.I, .slice Q.AB P.bs.length Q.cB, .slice Q.AO P.outs.length Q.cO] 33))
  have X0 := (Blk.made w 33 #[.int .i64 P.I, .slice P.AB P.bs.length P.cB, .slice P.AO P.outs.length P.cO]).alloc (.cells #[.int .i64 P.I, .slice Q.AB P.bs.length Q.cB, .slice Q.AO P.outs.length Q.cO] 33)
  have Y0 := Blk.made (w.alloc (.cells #[.int .i64 P.I, .slice P.AB P.bs.length P.cB, .slice P.AO P.outs.length P.cO] 33)) 33 #[.int .i64 P.I, .slice Q.AB P.bs.length Q.cB, .slice Q.AO P.outs.length Q.cO]
  rw [World.size_alloc] at Y0
  have hsi := fun W (hB : Below w.heap.size w W) => sameInts_yes W P.AO Q.AO P.outs.length P.cO Q.cO P.outs (hp.outs.later hB) (by have := hq.outs.later hB; rw [← ho] at this; exact this) hf.o
  have HSI := Lib.hid hsi
  have B2 := Lib.hid b2
  have X2 := Lib.hid X0
  have Y2 := Lib.hid Y0
  obtain ⟨AB, hAB⟩ : ∃ A, P.AB = A := ⟨_, rfl⟩
  obtain ⟨AB', hAB'⟩ : ∃ A, Q.AB = A := ⟨_, rfl⟩
  have HAB := Lib.hid hAB
  have HAB' := Lib.hid hAB'
  obtain ⟨n, hnn⟩ : ∃ n, P.bs.length = n := ⟨_, rfl⟩
  have HNN := Lib.hid hnn
  rw [hnn] at hnb ⊢
  rw [hAB, hAB', hnn] at X2 Y2
  rw [hAB, hAB', hnn] at B2
  rw [hAB, hAB']
  clear hp hq hf hI hb ho hn hk h b1 b2 X0 Y0 hsi hAB hAB' hnn
  go_enter Tryz.func11, Tryz.ntmps11
  go_wp2_with fail
  refine (HSI.out _ B2.out).mono ?_
  rintro e w2 ⟨rfl, hb2⟩
  have B3 := Lib.hid (below_then B2.out hb2)
  have X3 := Lib.hid (X2.out.keep hb2)
  have Y3 := Lib.hid (Y2.out.keep hb2)
  have k1 := X3.out.cell 1
  clear hb2 HSI B2 X2 Y2
  go_wp2_with fail
  go_loopw [33] (fun i wx => ∃ k : Nat, k ≤ n ∧ i = .int .i64 (k : Int) ∧ Below w2.heap.size w2 wx) (fun i _ => n - (intOf i).toNat)
  case atStart => exact ⟨0, by omega, rfl, Below.refl _ _⟩
  case round =>
    obtain ⟨k, hk, rfl, hB⟩ := hrel
    have B4 := Lib.hid (below_then B3.out hB)
    have C4 := Lib.hid hB
    have X4 := Lib.hid (X3.out.keep hB)
    have Y4 := Lib.hid (Y3.out.keep hB)
    clear hB k1
    by_cases hlt : k < n
    case neg =>
      obtain rfl : k = n := by omega
      go_wp2_with fail
      go_ret
      exact ⟨rfl, B4.out⟩
    have h1 : k < P.bs.length := by rw [HNN.out]; exact hlt
    have h2 : k < Q.bs.length := by rw [HN.out]; exact h1
    obtain ⟨a, hA, hab, c0, c1, c2, c3⟩ := (HP.out.blocks.later B4.out).block h1
    obtain ⟨a', hA', hab', d0, d1, d2, d3⟩ := (HQ.out.blocks.later B4.out).block h2
    have hpl := HK.out k h1 h2
    have hRa := (HP.out.each _ (List.getElem_mem h1)).later B4.out
    have hRb := (HQ.out.each _ (List.getElem_mem h2)).later B4.out
    have hl8 := HF.out.l _ (List.getElem_mem h1)
    rw [HAB.out] at hA
    rw [HAB'.out] at hA'
    subst hA hA'
    generalize P.bs[k] = b at c0 c1 c2 c3 hpl hRa hl8
    generalize Q.bs[k] = b' at d0 d1 d2 d3 hpl hRb
    obtain ⟨bA, bc, bl, bt, bff, bit⟩ := b
    obtain ⟨bA', bc', bl', bt', bff', bit'⟩ := b'
    simp only [BL.plain, Prod.mk.injEq] at hpl
    obtain ⟨rfl, rfl, rfl, rfl⟩ := hpl
    simp only at c0 c1 c2 c3 d0 d1 d2 d3 hRa hRb hl8
    have HRA := Lib.hid hRa
    have HRB := Lib.hid hRb
    have k1 := X4.out.cell 1
    have l1 := Y4.out.cell 1
    have hzx := X4.out.lt
    have hzy := Y4.out.lt
    have hbk : (a.add (k * 4)).block < wr.heap.size := by rw [add_block]; exact hab
    have hbk' : (a'.add (k * 4)).block < wr.heap.size := by rw [add_block]; exact hab'
    clear hRa hRb h1 h2
    go_upto_region 6 with (fail)
    go_cut [6, 7] (fun v6 v7 wx => TwoBox wr #[.slice bA bl.length bc, .int .i64 bt, .bool bff, .bool bit] #[.slice bA' bl.length bc', .int .i64 bt, .bool bff, .bool bit] v6 v7 wx)
    case first =>
      go_region
      all_goals
        go_wp2_with fail
        go_meet
        first | exact twoBox_a wr _ _ | exact twoBox_b wr _ _
    case rest =>
      obtain ⟨g, g', rfl, rfl, hb5, hG, hG'⟩ := hcut
      have C5 := Lib.hid (below_then C4.out hb5)
      have B5 := Lib.hid (below_then B4.out hb5)
      have j0 := hG.cell 0
      have j1 := hG.cell 1
      have j2 := hG.cell 2
      have j3 := hG.cell 3
      have i0 := hG'.cell 0
      have i1 := hG'.cell 1
      have i2 := hG'.cell 2
      have i3 := hG'.cell 3
      have G5 := Lib.hid hG
      have G6 := Lib.hid hG'
      have hsi := sameInts_yes wc bA bA' bl.length bc bc' bl (HRA.out.later hb5) (HRB.out.later hb5) hl8
      have HSI := Lib.hid hsi
      clear hb5 hG hG' hsi k1 l1 c0 c1 c2 c3 d0 d1 d2 d3
      go_wp2_with fail
      refine HSI.out.mono ?_
      rintro e w6 ⟨rfl, hb6⟩
      have C6 := Lib.hid (below_then C5.out hb6)
      have H5 := G5.out.keep hb6
      have H6 := G6.out.keep hb6
      have m1 := H5.cell 1
      have m2 := H5.cell 2
      have m3 := H5.cell 3
      have n1 := H6.cell 1
      have n2 := H6.cell 2
      have n3 := H6.cell 3
      clear hb6 H5 H6 j0 j1 j2 j3 i0 i1 i2 i3
      have e1 : (bt != bt) = false := by simp
      have e2 : (bff != bff) = false := by simp
      have e3 : (bit != bit) = false := by simp
      go_wp2_with fail
      go_roundw
      case rel => exact ⟨k + 1, by omega, by go_num, C6.out⟩
      case measure => simp [intOf]; omega
end Go.Proofs.YtoloaecbfglaeaaGreat
