/- Walk of filigreeref32.Read: which blocks a configuration is. -/
import Derived.Test.YtoloaecbfglaeaaGreatRead
import Derived.Outline
import Derived.Test.YtoloaecbfglaeaaGreatRPair
import Derived.Test.YtoloaecbfglaeaaGreatRWo
import Derived.Test.YtoloaecbfglaeaaGreatROrdC
namespace Go.Proofs.YtoloaecbfglaeaaGreat
open Go.RowKit Topo
set_option linter.unusedVariables false
set_option linter.unusedSimpArgs false

def RREAD (C : Cfg) (w : World) (R : Ending → World → Prop) : Prop :=
  Calls Tryz.prog 10 #[.agg #[.int .i64 C.W, .int .i64 C.H, .int .i64 C.T, .slice C.AT C.tiles.length C.cT, .slice C.AO C.on.length C.cO, .slice C.AI C.ins.length C.cI, .slice C.AU C.outs.length C.cU]] w R
theorem ip_filter (a b c d : Int) : natI (ipL [a, b, c, d] 4) = [a, b, c, d].filter (fun x => decide (0 ≤ x)) := by
  have e : ∀ x : Int, (decide (0 ≤ x) = true ∧ ((x.toNat : Nat) : Int) = x) ∨ decide (0 ≤ x) = false := fun x => by
    by_cases h : 0 ≤ x
    · exact .inl ⟨by simpa using h, by omega⟩
    · exact .inr (by simpa using h)
  unfold ipL kpL natI
  rcases e a with ⟨a1, a2⟩ | a1 <;> rcases e b with ⟨b1, b2⟩ | b1 <;> rcases e c with ⟨c1, c2⟩ | c1 <;> rcases e d with ⟨d1, d2⟩ | d1 <;>
    simp [show List.range 4 = [0, 1, 2, 3] from rfl, List.filter_cons, *]
/-- what lies below a place stays as it is, though what is from there on turns -/
theorem Blk.low {B g : Nat} {t : TypeId} {cs : Array Value} {wx wy : World} (h : Blk wx g t cs) (hb : Below B wx wy) (hg : g < B) : Blk wy g t cs := h.below hb hg
/-- with one more, each -/
def up1 (l : List Int) : List Int := l.map (· + 1)
theorem up1_length (l : List Int) : (up1 l).length = l.length := by simp [up1]

set_option maxRecDepth 100000 in
set_option maxHeartbeats 2000000 in
theorem rread_no (C : Cfg) (w : World) (hin : C.In w) (hf : C.few) (h : dE C ≠ 0) : RREAD C w (ReadOut C w) := by
  have T0 := Lib.hid (Box7.new w C 28)
  have b0 := below_new w (.cells #[.int .i64 C.W, .int .i64 C.H, .int .i64 C.T, .slice C.AT C.tiles.length C.cT, .slice C.AO C.on.length C.cO, .slice C.AI C.ins.length C.cI, .slice C.AU C.outs.length C.cU] 28)
  have b1 := below_then b0 (below_new _ (.cells #[.int .i64 0, .slice none 0 0, .slice none 0 0] 33))
  have hd := rdrivers_pair C _ (hin.later b1) hf
  unfold RDRV at hd
  have HD := Lib.hid hd
  have B1 := Lib.hid b1
  have Z1 := Blk.made (w.alloc (.cells #[.int .i64 C.W, .int .i64 C.H, .int .i64 C.T, .slice C.AT C.tiles.length C.cT, .slice C.AO C.on.length C.cO, .slice C.AI C.ins.length C.cI, .slice C.AU C.outs.length C.cU] 28)) 33 #[.int .i64 0, .slice none 0 0, .slice none 0 0]
  rw [World.size_alloc] at Z1
  have Z1 := Lib.hid Z1
  have hne : (dE C != 0) = true := by rw [bne_iff_ne]; exact h
  have HR := Lib.hid (show ReadR C zeroPK (dE C) from by unfold ReadR; rw [if_pos h])
  clear hd b0 b1 hin
  unfold RREAD
  generalize dE C = x at HD hne HR
  go_enter Tryz.func10, Tryz.ntmps10
  go_wp2_with fail
  refine HD.out.mono ?_
  rintro e w1 ⟨A, c, rfl, hb1, -⟩
  have B2 := Lib.hid (below_then B1.out hb1)
  have Z2 := Lib.hid (Z1.out.keep hb1)
  have z0 := Z2.out.cell 0
  have z1 := Z2.out.cell 1
  have z2 := Z2.out.cell 2
  have f0 := Z2.out.free 0
  have f1 := Z2.out.free 1
  have f2 := Z2.out.free 2
  have hz := Z2.out.lt
  clear hb1 h
  go_wp2_with fail
  exact read_err Tryz.results10 C w w1 _ x B2.out Z2.out HR.out rfl rfl

set_option maxRecDepth 100000 in
set_option maxHeartbeats 8000000 in
theorem rread_yes (C : Cfg) (w : World) (hin : C.In w) (hf : C.few) (h : dE C = 0) : RREAD C w (ReadOut C w) := by
  have T0 := Box7.new w C 28
  have b0 := below_new w (.cells #[.int .i64 C.W, .int .i64 C.H, .int .i64 C.T, .slice C.AT C.tiles.length C.cT, .slice C.AO C.on.length C.cO, .slice C.AI C.ins.length C.cI, .slice C.AU C.outs.length C.cU] 28)
  have b1 := below_then b0 (below_new _ (.cells #[.int .i64 0, .slice none 0 0, .slice none 0 0] 33))
  have hd := rdrivers_pair C _ (hin.later b1) hf
  rw [h] at hd
  unfold RDRV at hd
  have HD := Lib.hid hd
  have B1 := Lib.hid b1
  have Z1 := Blk.made (w.alloc (.cells #[.int .i64 C.W, .int .i64 C.H, .int .i64 C.T, .slice C.AT C.tiles.length C.cT, .slice C.AO C.on.length C.cO, .slice C.AI C.ins.length C.cI, .slice C.AU C.outs.length C.cU] 28)) 33 #[.int .i64 0, .slice none 0 0, .slice none 0 0]
  rw [World.size_alloc] at Z1
  have Z1 := Lib.hid Z1
  have T1 := Lib.hid (T0.below (below_new _ (.cells #[.int .i64 0, .slice none 0 0, .slice none 0 0] 33)))
  obtain ⟨hok, hnd⟩ := dE_zero h
  have HOK := Lib.hid hok
  have HDL := Lib.hid (dL_length h)
  have HF := Lib.hid hf
  have HIN := Lib.hid hin
  have HE := Lib.hid h
  have hW1 : 1 ≤ C.W := hok.1.1.1
  have hW2 : C.W ≤ 16 := hok.1.1.2
  have hnt := hf.1
  have hni := hf.2.2.1
  have hno := hf.2.2.2
  obtain ⟨i0, hi0, hz0, hz1, hz2⟩ := info_parts int_info
  obtain ⟨j0, hj0, hy0, hy1, hy2⟩ := info_parts (show (Tryz.prog.info? 67).map (fun i => (i.zero, i.size, i.bytes)) = some (some (.agg #[.slice none 0 0, .int .i64 0, .bool false, .bool false]), 4, 40) by kernel_rfl)
  have HI0 := Lib.hid hi0
  have HZ0 := Lib.hid hz0
  have HZ1 := Lib.hid hz1
  have HZ2 := Lib.hid hz2
  have HJ0 := Lib.hid hj0
  have HY0 := Lib.hid hy0
  have HY1 := Lib.hid hy1
  have HY2 := Lib.hid hy2
  obtain ⟨oU, hoU⟩ : ∃ o, C.AU = o := ⟨_, rfl⟩
  obtain ⟨oT, hoT⟩ : ∃ o, C.AT = o := ⟨_, rfl⟩
  rw [hoU, hoT] at HD B1 Z1 T1
  unfold RREAD
  rw [hoU, hoT]
  have HOU := Lib.hid hoU
  have HOT := Lib.hid hoT
  obtain ⟨I, hI⟩ : ∃ I, (C.ins.length : Int) = I := ⟨_, rfl⟩
  clear hd b0 b1 hin hf hok hnd h T0 hi0 hz0 hz1 hz2 hj0 hy0 hy1 hy2 hoU hoT
  go_enter Tryz.func10, Tryz.ntmps10
  go_wp2_with fail
  refine HD.out.mono ?_
  rintro e w1 ⟨A1, c1, rfl, hb1, hr1⟩
  have B2 := Lib.hid (below_then B1.out hb1)
  have Z2 := Lib.hid (Z1.out.keep hb1)
  have T2 := Lib.hid (T1.out.below hb1)
  have R2 := Lib.hid hr1
  have t4 := T2.out.c5
  have t5 := T2.out.c6
  have t3 := T2.out.c3
  have hz2 := Z2.out.lt
  have hz3 : w.heap.size < w1.heap.size := by omega
  rw [HOU.out] at t5
  rw [HOT.out] at t3
  clear hb1 hr1 HD B1 Z1 T1 hI
  have W0 := Lib.hid (RW.start w1 (C.ins.length : Int))
  go_wp2_with fail
  go_loopw [39] (fun v36 wx => ∃ (k : Nat) (AU : Option Addr) (cU : Nat), k ≤ C.outs.length ∧ v36 = .int .i64 (k : Int) ∧ RW w1 wx (C.ins.length : Int) none 0 [] AU cU ((outsD C).take k) ∧ ((outsD C).take k).any (fun o => decide (o < 0)) = false) (fun v36 _ => C.outs.length - (intOf v36).toNat)
  case atStart => exact ⟨0, none, 0, by omega, rfl, W0.out, rfl⟩
  case round =>
    obtain ⟨k, AU, cU, hk, rfl, hW, hA⟩ := hrel
    have W1 := Lib.hid hW
    have HA := Lib.hid hA
    have hz4 := hW.lt
    have T3 := T2.out.below hW.below
    have t0 := T3.c0
    have t1 := T3.c1
    have t2 := T3.c2
    have p0 := hW.pk.cell 2
    have q0 := hW.pk.free 2
    have R3 := Lib.hid (R2.out.later hW.below)
    clear hW hA t4 t5 W0
    by_cases hlt : k < C.outs.length
    case neg =>
      obtain rfl : k = C.outs.length := by omega
      have hol : (outsD C).length = C.outs.length := by simp [outsD]
      have hW := W1.out
      have hA := HA.out
      rw [← hol, List.take_length] at hW hA
      have HA2 := Lib.hid hA
      have W2 := Lib.hid hW
      have t3 := T3.c3
      rw [HOT.out] at t3
      clear hW hA hol W1 HA p0 q0 T3 R3
      go_wp2_with fail
      go_loopw [69] (fun v70 wx => ∃ (k : Nat) (AB : Option Addr) (cB : Nat) (bs : List BL), k ≤ C.tiles.length ∧ v70 = .int .i64 (k : Int) ∧ RW w1 wx (C.ins.length : Int) AB cB bs AU cU (outsD C) ∧ bs.map BL.plain = (List.range k).map (blkD C)) (fun v70 _ => C.tiles.length - (intOf v70).toNat)
      case atStart => exact ⟨0, none, 0, [], by omega, rfl, W2.out, rfl⟩
      case round =>
        obtain ⟨k, AB, cB, bs, hk, rfl, hW, hP⟩ := hrel
        have W3 := Lib.hid hW
        have HP := Lib.hid hP
        have hz4 := hW.lt
        have T3 := T2.out.below hW.below
        have B3 := Lib.hid (below_then B2.out hW.below)
        have R3 := Lib.hid (R2.out.later hW.below)
        have Z3 := Lib.hid (Z2.out.keep hW.below)
        have TT := Lib.hid T3
        clear hW hP t3 W2 t0 t1 t2
        by_cases hlt : k < C.tiles.length
        case neg =>
          obtain rfl : k = C.tiles.length := by omega
          obtain ⟨P, hPP⟩ : ∃ P : PK, P = ⟨(C.ins.length : Int), AB, cB, bs, AU, cU, outsD C⟩ := ⟨_, rfl⟩
          have hpl : P.plain = packD C := by rw [hPP]; simp only [PK.plain, packD, HP.out]
          have hpi : P.In wr := by rw [hPP]; exact W3.out.in
          have hck := rCheck_any P wr hpi (pack_fit HF.out hpl)
          rw [hPP] at hck
          simp only at hck
          have HCK := Lib.hid hck
          have HPL := Lib.hid hpl
          have HPP := Lib.hid hPP
          have p0 := W3.out.pk.cell 0
          have p1 := W3.out.pk.cell 1
          have p2 := W3.out.pk.cell 2
          have hz9 := W3.out.lt
          clear hpl hpi hck hPP
          go_wp2_with fail
          refine HCK.out.mono ?_
          rintro e w4 ⟨x, rfl, hx, hb4⟩
          rw [← HPP.out] at hx
          have W4 := Lib.hid (W3.out.keep hb4)
          have B4 := Lib.hid (below_then B3.out hb4)
          have Z4 := Lib.hid (Z3.out.keep hb4)
          have HX := Lib.hid hx
          have hx0 : x = 0 ∨ x = 1 ∨ x = 321 := by rcases hx with ⟨h, -⟩ | ⟨h, -⟩ | ⟨h, -⟩ <;> omega
          have z0 := Z4.out.cell 0
          have z1 := Z4.out.cell 1
          have z2 := Z4.out.cell 2
          have f0 := Z4.out.free 0
          have f1 := Z4.out.free 1
          have f2 := Z4.out.free 2
          have hz6 := Z4.out.lt
          have p0 := W4.out.pk.cell 0
          have p1 := W4.out.pk.cell 1
          have p2 := W4.out.pk.cell 2
          have hz10 := W4.out.lt
          clear hx hb4
          have hRR : ∀ Q : PK, (x = 0 → Q.plain = packD C) → ReadR C Q x := fun Q hq => by
            unfold ReadR
            rw [HE.out, if_neg (by simp), HA2.out, if_neg (by simp)]
            exact ⟨P, HPL.out, HX.out, hq⟩
          have HRR := Lib.hid hRR
          clear hRR
          rcases hx0 with rfl | rfl | rfl
          · go_wp2_with fail
            have hne1 : w.heap.size + 1 < w1.heap.size := hz2
            have hI := W4.out.setIn hne1 (.int .i64 (C.ins.length : Int)) (.slice AB bs.length cB) (.slice AU (outsD C).length cU)
            exact read_ok Tryz.results10 C ⟨(C.ins.length : Int), AB, cB, bs, AU, cU, outsD C⟩ w w4 _ B4.out Z4.out (HRR.out _ (fun _ => by rw [← HPP.out]; exact HPL.out)) hI (pack_fit HF.out (by rw [← HPP.out]; exact HPL.out)) rfl rfl
          · go_wp2_with fail
            exact read_err Tryz.results10 C w w4 _ 1 B4.out Z4.out (HRR.out _ (fun h => by cases h)) rfl rfl
          · go_wp2_with fail
            exact read_err Tryz.results10 C w w4 _ 321 B4.out Z4.out (HRR.out _ (fun h => by cases h)) rfl rfl
        have hrt := ((HIN.out.later B2.out).later W3.out.below).tiles
        obtain ⟨aT, haT, habT, x0, x1, x2⟩ := hrt.tile hlt
        rw [HOT.out] at haT
        subst haT
        have htl := ok_tile HOK.out hlt
        have hbd : blkD C k = (natI (ipL (insD C k) 4), (blockT (insD C k) (C.tiles[k]!).1.toNat : Int), (C.tiles[k]!).2.1, (C.tiles[k]!).2.2) := rfl
        have HBD := Lib.hid hbd
        clear hbd hrt
        generalize C.tiles[k]! = tl at x0 x1 x2 htl HBD
        obtain ⟨tt, tf, ti⟩ := tl
        simp only at x0 x1 x2 htl
        obtain ⟨ht0, ht1⟩ := htl
        obtain ⟨tn, rfl⟩ := Int.eq_ofNat_of_zero_le ht0
        have hbd2 := HBD.out
        simp only [Int.toNat_natCast] at hbd2
        have HBD := Lib.hid hbd2
        clear hbd2
        obtain ⟨wo, rfl⟩ : ∃ wo : World, wo = wr := ⟨_, rfl⟩
        have hz7 : w.heap.size < wo.heap.size := TT.out.lt
        clear T3
        go_wp2_with fail
        have bT := below_new wo (.cells #[.int .i64 (tn : Int), .bool tf, .bool ti] 61)
        have M5 := Blk.made wo 61 #[.int .i64 (tn : Int), .bool tf, .bool ti]
        have hwz : (wo.alloc (.cells #[.int .i64 (tn : Int), .bool tf, .bool ti] 61)).heap.size = wo.heap.size + 1 := by simp
        generalize wo.alloc (.cells #[.int .i64 (tn : Int), .bool tf, .bool ti] 61) = wt at bT M5 hwz ⊢
        have W6 := Lib.hid (W3.out.keep bT)
        have T6 := Lib.hid (TT.out.below bT)
        have M6 := Lib.hid M5
        have htd := tile_there HOK.out hlt
        have HTD := Lib.hid htd
        have hin := fun (j : Nat) (hj : j < 4) => in_node HOK.out hlt hj
        have HINN := Lib.hid hin
        have hDj : ∀ j, j < 4 → (insD C k).getD j 0 = dv C (inN C k j) := fun j hj => by rcases lt4 hj with rfl | rfl | rfl | rfl <;> rfl
        have HDJ := Lib.hid hDj
        have hDl : (insD C k).length = 4 := rfl
        have HDLEN := Lib.hid hDl
        have B6 := Lib.hid (Below.refl wt.heap.size wt)
        clear hwz htd hin hDj hDl bT M5 x0 x1 x2 habT
        go_loopw [13, 74] (fun v13 v74 wx => ∃ (j : Nat) (A : Option Addr) (c : Nat), j ≤ 4 ∧ v74 = .int .i64 (j : Int) ∧ v13 = .slice A j c ∧ Below wt.heap.size wt wx ∧ wx.ownsRow wt.heap.size 3 1 (.slice A j c) j (ints (up1 ((insD C k).take j)))) (fun _ v74 _ => 4 - (intOf v74).toNat)
        case atStart => exact ⟨0, none, 0, by omega, rfl, rfl, B6.out, World.ownsRow_nil _ _ _ _⟩
        case round =>
          obtain ⟨j, A, c, hj, rfl, rfl, hB, hO⟩ := hrel
          have W8 := Lib.hid (W6.out.keep hB)
          have M8 := Lib.hid (M6.out.keep hB)
          have B8 := Lib.hid hB
          have O8 := Lib.hid hO
          have T8 := Lib.hid (T6.out.below hB)
          have hz8 := hB.size
          have y0 := T8.out.c0
          have y1 := T8.out.c1
          have y2 := T8.out.c2
          clear hB hO B6
          by_cases hj4 : j < 4
          case neg =>
            obtain rfl : j = 4 := by omega
            rw [show (((4 : Nat) : Int)) = 4 from rfl]
            have hO := O8.out
            rw [List.take_of_length_le (by rw [HDLEN.out]; exact Nat.le_refl _)] at hO
            obtain ⟨l4, hl4⟩ : ∃ l4, up1 (insD C k) = l4 := ⟨_, rfl⟩
            have hl4l : l4.length = 4 := by rw [← hl4, up1_length]; exact HDLEN.out
            rw [hl4] at hO
            have hcl := without_any 4 l4 tn A c wr (by rw [hl4l]; exact Rd.of_own hO) (by rw [hl4l]; exact Nat.le_refl _) (Nat.le_refl _) (by omega)
            rw [hl4l] at hcl
            have hb0 := dv_bd HF.out (inN C k 0)
            have hb1 := dv_bd HF.out (inN C k 1)
            have hb2 := dv_bd HF.out (inN C k 2)
            have hb3 := dv_bd HF.out (inN C k 3)
            have hwo : Topo.wo 4 l4 tn = (up1 (natI (ipL (insD C k) 4)), blockT (insD C k) tn) := by
              rw [← hl4]
              show Topo.wo 4 [dv C (inN C k 0) + 1, dv C (inN C k 1) + 1, dv C (inN C k 2) + 1, dv C (inN C k 3) + 1] tn = _
              rw [wo_block _ _ _ _ _ hb0.1 hb1.1 hb2.1 hb3.1 (by omega)]
              rw [show insD C k = [dv C (inN C k 0), dv C (inN C k 1), dv C (inN C k 2), dv C (inN C k 3)] from rfl, ip_filter]
              rfl
            rw [hwo] at hcl
            have hbbd := blockT_bd (insD C k) tn
            have hipl : (natI (ipL (insD C k) 4)).length ≤ 4 := by rw [natI_length, ipL_len]; exact kpL_len _ _
            have hbl : bs.length = k := by have := congrArg List.length HP.out; simpa using this
            have hbl1 : bs.length ≤ 1000 := by omega
            have HBL := Lib.hid hbl
            have hbz : ∀ x ∈ natI (ipL (insD C k) 4), 0 ≤ x ∧ x ≤ 10000 := fun x hx => by
              rw [show insD C k = [dv C (inN C k 0), dv C (inN C k 1), dv C (inN C k 2), dv C (inN C k 3)] from rfl, ip_filter] at hx
              obtain ⟨hx1, hx2⟩ := List.mem_filter.1 hx
              have hx3 : 0 ≤ x := by simpa using hx2
              simp only [List.mem_cons, List.not_mem_nil, or_false] at hx1
              rcases hx1 with rfl | rfl | rfl | rfl <;> omega
            have HBZ := Lib.hid hbz
            simp only at hcl
            generalize natI (ipL (insD C k) 4) = kl at hcl hipl HBD HBZ
            generalize blockT (insD C k) tn = tb at hcl hbbd HBD
            have HCL := Lib.hid hcl
            have m0 := M8.out.cell 0
            have m1 := M8.out.cell 1
            have m2 := M8.out.cell 2
            clear hcl hO hl4 hl4l hwo hb0 hb1 hb2 hb3 y0 y1 y2 hbz hbl
            go_wp2_with fail
            refine HCL.out.mono ?_
            rintro e w9 ⟨A9, c9, rfl, hb9, hr9⟩
            rw [up1_length] at hr9 ⊢
            have W9 := W8.out.keep hb9
            have M9 := M8.out.keep hb9
            have hz9 : wt.heap.size ≤ w9.heap.size := Nat.le_trans hz8 hb9.size
            have bN := below_new w9 (.cells #[.slice none 0 0, .int .i64 (tb : Int), .bool tf, .bool ti] 67)
            have N9 := Blk.made w9 67 #[.slice none 0 0, .int .i64 (tb : Int), .bool tf, .bool ti]
            have hnz : (w9.alloc (.cells #[.slice none 0 0, .int .i64 (tb : Int), .bool tf, .bool ti] 67)).heap.size = w9.heap.size + 1 := by simp
            have m0 := M9.cell 0
            have m1 := M9.cell 1
            have m2 := M9.cell 2
            have hwu : IntKind.i64.wrap (tb : Int) = (tb : Int) := IntWalk.i64_in _ (by omega)
            have R9 := Lib.hid hr9
            have W9h := Lib.hid W9
            have N10 := Lib.hid N9
            have L9 := W9.lt
            clear W9 M9 hb9 hr9 N9
            go_wp2_with fail
            generalize w9.alloc (.cells #[.slice none 0 0, .int .i64 (tb : Int), .bool tf, .bool ti] 67) = wb at N10 bN hnz ⊢
            have B10 := Lib.hid bN
            clear bN
            go_loopw [120] (fun v120 wx => ∃ (q : Nat) (A : Option Addr) (c : Nat), q ≤ kl.length ∧ v120 = .int .i64 (q : Int) ∧ Below w9.heap.size w9 wx ∧ w9.heap.size + 1 ≤ wx.heap.size ∧ Blk wx w9.heap.size 67 #[.slice A q c, .int .i64 (tb : Int), .bool tf, .bool ti] ∧ wx.ownsRow (w9.heap.size + 1) 3 1 (.slice A q c) q (ints (kl.take q))) (fun v120 _ => kl.length - (intOf v120).toNat)
            case atStart => exact ⟨0, none, 0, by omega, rfl, B10.out, by omega, N10.out, World.ownsRow_nil _ _ _ _⟩
            case round =>
              obtain ⟨q, A2, c2, hq, rfl, hB, hzz, hN, hO⟩ := hrel
              have B11 := Lib.hid hB
              have N11 := Lib.hid hN
              have O11 := Lib.hid hO
              clear hB hN hO B10 m0 m1 m2 hnz
              by_cases hlt3 : q < kl.length
              case neg =>
                obtain rfl : q = kl.length := by omega
                have hO := O11.out
                rw [List.take_of_length_le (Nat.le_refl _)] at hO
                have W11 : RW w1 wr (C.ins.length : Int) AB cB bs AU cU (outsD C) := W9h.out.keep B11.out
                have p1 : wr.cell? ⟨w1.heap.size, 1, none⟩ = some (.slice AB bs.length cB) := W11.pk.cell 1
                have n0 := N11.out.cell 0
                have n1 := N11.out.cell 1
                have n2 := N11.out.cell 2
                have n3 := N11.out.cell 3
                have hz12 := W11.lt
                have W12 := Lib.hid (W11.keep (below_new wr (.cells #[.slice A2 kl.length c2, .int .i64 (tb : Int), .bool tf, .bool ti] 67)))
                have O12 := Lib.hid ((own_base_le hO (base' := w1.heap.size + 1) (by omega)).alloc (.cells #[.slice A2 kl.length c2, .int .i64 (tb : Int), .bool tf, .bool ti] 67))
                have hnc := new_cells wr 67 [.slice A2 kl.length c2, .int .i64 (tb : Int), .bool tf, .bool ti]
                have HNC := Lib.hid hnc
                clear hO W11 hnc
                have p1' : (wr.alloc (.cells #[.slice A2 kl.length c2, .int .i64 (tb : Int), .bool tf, .bool ti] 67)).cell? ⟨w1.heap.size, 1, none⟩ = some (.slice AB bs.length cB) := W12.out.pk.cell 1
                have hz13 : w1.heap.size + 1 ≤ (wr.alloc (.cells #[.slice A2 kl.length c2, .int .i64 (tb : Int), .bool tf, .bool ti] 67)).heap.size := by have := W12.out.lt; omega
                go_wp2_with (at_builtin; refine wpList_append_own _ rfl (.tmp 133) (.tmp 135) 31 rfl (w1.heap.size + 1) 67 j0 (.agg #[.slice none 0 0, .int .i64 0, .bool false, .bool false]) 4 40 Tryz.underlying31 HJ0.out HY0.out HY1.out HY2.out rfl (by decide) (.slice AB bs.length cB) bs.length (blocks4 bs) rfl W12.out.blocks ⟨wr.heap.size, 0, none⟩ 1 1 [.slice A2 kl.length c2, .int .i64 (tb : Int), .bool tf, .bool ti] rfl rfl ?c1 ?c2 ?c3 ?c4 ?c5 ?_)
                case c1 => exact HNC.out
                case c2 => intro u hu; simp at hu; rcases hu with rfl | rfl | rfl | rfl <;> rfl
                case c3 => unfold maxLen; omega
                case c4 => omega
                case c5 => exact hz13
                intro v' w13 hown13 hg13 hnil
                obtain ⟨A13, c13, rfl⟩ := own_slice hown13
                have W13 := Lib.hid (W12.out.blk (b := ⟨A2, c2, kl, (tb : Int), tf, ti⟩) O12.out hown13 hg13)
                have K13 := W12.out.pk.grown hg13 (fun e => own_other W12.out.blocks W12.out.pk (by decide) e.symm)
                have p13 := K13.cell 1
                have f13 := K13.free 1
                clear hown13 hg13 hnil K13 p1 p1' n0 n1 n2 n3
                go_wp2_with fail
                go_roundw
                case rel => exact ⟨k + 1, _, _, _, by omega, by go_num, W13.out, by rw [List.map_append, HP.out, List.range_succ, List.map_append, List.map_singleton, List.map_singleton, HBD.out]; rfl⟩
                case measure => simp [intOf]; omega
              have hlt4 : q < (up1 kl).length := by rw [up1_length]; exact hlt3
              have hr11 := R9.out.later B11.out
              have hlt5 : q < kl.length := hlt3
              obtain ⟨a9, hA9, -, cx⟩ := hr11.int hlt3
              subst hA9
              have hgd : (up1 kl).getD q 0 = kl.getD q 0 + 1 := by unfold up1; simp [List.getD_eq_getElem?_getD, List.getElem?_eq_getElem hlt3]
              rw [hgd] at cx
              have htk := take_one hlt3 0
              have hxb := HBZ.out (kl.getD q 0) (by rw [List.getD_eq_getElem?_getD, List.getElem?_eq_getElem hlt3]; exact List.getElem_mem hlt3)
              generalize kl.getD q 0 = x at cx htk hxb
              have HTK := Lib.hid htk
              have hxx : IntKind.i64.wrap (x + 1 - 1) = x := by rw [show x + 1 - 1 = x by omega]; exact IntWalk.i64_in _ (by omega)
              have hxy : x + 1 - 1 = x := by omega
              have n0 := N11.out.cell 0
              have hzw : w9.heap.size + 1 ≤ wr.heap.size := by omega
              clear hgd htk hr11 hlt4
              go_wp2_with (at_builtin; refine wpList_app_int rfl (.tmp 125) (.tmp 128) rfl (w9.heap.size + 1) A2 q c2 _ rfl O11.out x rfl (by omega) hzw ?_)
              intro A7 c7 w7 hown7 hg7
              have hgr : (wr.alloc (.cells #[.int .i64 x] 3)).grownBy w7 (Value.slice A2 q c2).ownBlock := hg7
              have hlo : ∀ g, (Value.slice A2 q c2).ownBlock = some g → w9.heap.size + 1 ≤ g := fun g hg => own_base O11.out hg
              have N12 := (N11.out.alloc (.cells #[.int .i64 x] 3)).grown hgr (fun e => by have := hlo _ e.symm; omega)
              have B12 := (B11.out.trans ((below_new wr (.cells #[.int .i64 x] 3)).mono (by omega))).grown hgr (by simp; omega) (fun g hg => by have := hlo g hg; omega)
              have hz7 : w9.heap.size + 1 ≤ w7.heap.size := by have := hgr.size; simp at this; omega
              have n7 := N12.cell 0
              have f7 := N12.free 0
              have N13 := Lib.hid (N12.put 0 (.slice A7 (q + 1) c7))
              have B13 := Lib.hid (B12.setCell (p := ⟨w9.heap.size, 0, none⟩) (Nat.le_refl _) (.slice A7 (q + 1) c7))
              have O13 := Lib.hid (ownsRow_setCell_other hown7 (a := ⟨w9.heap.size, 0, none⟩) (own_other hown7 N12 (by decide)) (.slice A7 (q + 1) c7))
              clear hown7 hg7 hgr N12 B12 n0 hlo
              go_wp2_with fail
              go_roundw
              case rel => exact ⟨q + 1, A7, c7, by omega, by go_num, B13.out, by simpa using hz7, N13.out, by rw [HTK.out]; simpa [ints] using O13.out⟩
              case measure => simp [intOf]; omega
          obtain ⟨hn1, hn2, hn3⟩ := HINN.out j hj4
          have hdj := HDJ.out j hj4
          unfold inN at hn2 hn3 hdj
          have hdl := HDL.out
          obtain ⟨n, hn⟩ := Int.eq_ofNat_of_zero_le hn2
          have hnl : n < (dL C).length := by omega
          have R8 := Lib.hid (R2.out.later W8.out.below)
          have hdv : (dL C).getD n 0 = (insD C k).getD j 0 := by rw [hdj]; unfold dv; rw [hn]; rfl
          have hdb := dv_bd HF.out (nodeN C.W C.H C.T 1 ((k : Int) % C.W) ((k : Int) / C.W) (j : Int))
          rw [← hdj] at hdb
          have HN := Lib.hid hn
          have HN1 := Lib.hid hn1
          have HDV := Lib.hid hdv
          have htk := take_one (show j < (insD C k).length by rw [HDLEN.out]; exact hj4) 0
          have HTK := Lib.hid htk
          clear hn hn1 hn2 hn3 hdj hdl hdv htk
          have hm : Int.tmod (k : Int) C.W = (k : Int) % C.W := Int.tmod_eq_emod_of_nonneg (by omega)
          have hd : Int.tdiv (k : Int) C.W = (k : Int) / C.W := Int.tdiv_eq_ediv_of_nonneg (by omega)
          have hd0 : 0 ≤ (k : Int) / C.W := Int.ediv_nonneg (by omega) (by omega)
          have hd1 : (k : Int) / C.W ≤ (k : Int) := Int.ediv_le_self _ (by omega)
          have hm0 : 0 ≤ (k : Int) % C.W := Int.emod_nonneg _ (by omega)
          have hm1 : (k : Int) % C.W < C.W := Int.emod_lt_of_pos _ (by omega)
          have hwd : IntKind.i64.wrap ((k : Int) / C.W) = (k : Int) / C.W := IntWalk.i64_in _ (by omega)
          have hwm : IntKind.i64.wrap ((k : Int) % C.W) = (k : Int) % C.W := IntWalk.i64_in _ (by omega)
          have hne : (C.W == 0) = false := by simp; omega
          have hne2 : ¬ C.W = 0 := by omega
          go_wp2_with fail
          go_region_held3 (fun w' => w'.cell? ⟨w.heap.size, 0, none⟩ = some (.int .i64 C.W) ∧ w'.cell? ⟨w.heap.size, 1, none⟩ = some (.int .i64 C.H) ∧ w'.cell? ⟨w.heap.size, 2, none⟩ = some (.int .i64 C.T)) (go_keep) ((first | (go_at_call 32; (with_reducible refine (rin_any _ _ _ _ _ _ _).mono ?_); rintro e w9 ⟨rfl, hb9⟩; have hb9 := below_of_drew hb9; have B9 := Lib.hid (below_then B8.out hb9); have O9 := Lib.hid (own_keep O8.out hb9); have R9 := Lib.hid (R8.out.later hb9); have T9 := Lib.hid (T8.out.below hb9); have z0 := T9.out.c0; have z1 := T9.out.c1; have z2 := T9.out.c2; clear hb9)))
          clear hm hd hd0 hd1 hm0 hm1 hwd hwm hne hne2 y0 y1 y2 z0 z1 z2
          rw [HN1.out, HN.out]
          obtain ⟨a1, ha1, -, cd⟩ := R9.out.int hnl
          subst ha1
          rw [HDV.out] at cd
          generalize (insD C k).getD j 0 = d at cd hdb HTK
          have hdw : IntKind.i64.wrap (d + 1) = d + 1 := IntWalk.i64_in _ (by omega)
          have hz9 := B9.out.size
          go_wp2_with (at_builtin; refine wpList_app_int rfl (.tmp 94) (.tmp 100) rfl wt.heap.size A j c _ rfl O9.out (d + 1) rfl (by omega) hz9 ?_)
          intro A7 c7 w7 hown7 hg7
          have B10 := Lib.hid ((B9.out.trans ((below_new w9 (.cells #[.int .i64 (d + 1)] 3)).mono hz9)).grown hg7 (by simp; omega) (fun k hk => own_base O9.out hk))
          have O10 := Lib.hid hown7
          clear hown7 hg7
          go_wp2_with fail
          go_roundw
          case rel => exact ⟨j + 1, A7, c7, by omega, by go_num, rfl, B10.out, by rw [HTK.out]; have := O10.out; simp only [up1, ints, List.map_append, List.map_cons, List.map_nil] at this ⊢; exact this⟩
          case measure => simp [intOf]; omega
    obtain ⟨a, ha, hab, cx⟩ := (((HIN.out.later B2.out).later W1.out.below).outs).int hlt
    rw [HOU.out] at ha
    subst ha
    have hmem : C.outs.getD k 0 ∈ C.outs := by rw [List.getD_eq_getElem?_getD, List.getElem?_eq_getElem hlt]; exact List.getElem_mem hlt
    obtain ⟨hn1, hn2, hn3⟩ := out_pad HOK.out hmem
    have hol : (outsD C).length = C.outs.length := by simp [outsD]
    have hog : (outsD C)[k]'(by omega) = dv C (padN C (C.outs.getD k 0)) := by simp [outsD, List.getD_eq_getElem?_getD, List.getElem?_eq_getElem hlt]
    have htk : (outsD C).take (k + 1) = (outsD C).take k ++ [dv C (padN C (C.outs.getD k 0))] := by rw [List.take_succ_eq_append_getElem (by omega), hog]
    have htl : ((outsD C).take k).length = k := by rw [List.length_take]; omega
    have hmo : dv C (padN C (C.outs.getD k 0)) ∈ outsD C := by rw [← hog]; exact List.getElem_mem _
    have HTK := Lib.hid htk
    have HTL := Lib.hid htl
    have HMO := Lib.hid hmo
    have hdl := HDL.out
    unfold padN at hn2 hn3 HTK HMO
    generalize C.outs.getD k 0 = p at cx hn1 hn2 hn3 HTK HMO
    obtain ⟨n, hn⟩ := Int.eq_ofNat_of_zero_le hn2
    have hnl : n < (dL C).length := by omega
    obtain ⟨a1, ha1, hab1, cd⟩ := R3.out.int hnl
    subst ha1
    have hdv : (dL C).getD n 0 = dv C (nodeN C.W C.H C.T 2 p 0 0) := by unfold dv; rw [hn]; rfl
    rw [hdv] at cd
    obtain ⟨hd1, hd2⟩ := dv_bd HF.out (nodeN C.W C.H C.T 2 p 0 0)
    generalize dv C (nodeN C.W C.H C.T 2 p 0 0) = d at cd HTK HMO hd1 hd2
    have HN := Lib.hid hn
    have HN1 := Lib.hid hn1
    clear hn hn1 hn2 hn3 hol hog htk htl hmo hdl hmem hdv
    go_wp2_with fail
    refine (rpad_any _ _ _ _ _).mono ?_
    rintro e w4 ⟨rfl, hb4⟩
    rw [HN1.out, HN.out]
    have W4 := Lib.hid (W1.out.keep hb4)
    have R4 := Lib.hid (R3.out.later hb4)
    have cd4 := (hb4.cell (p := a1.add n) (by rw [add_block]; exact hab1)).trans cd
    have hz5 := W4.out.lt
    have B4 := Lib.hid (below_then B2.out W4.out.below)
    have Z4 := Lib.hid (Z2.out.keep W4.out.below)
    generalize (outsD C).take k = us at HTK HTL HA W4 W1 p0
    clear hb4 cd t0 t1 t2 p0 q0 T3 cx R3 hab hab1
    have p0 : w4.cell? ⟨w1.heap.size, 2, none⟩ = some (.slice AU us.length cU) := W4.out.pk.cell 2
    by_cases hneg : d < 0
    · have z0 := Z4.out.cell 0
      have z1 := Z4.out.cell 1
      have z2 := Z4.out.cell 2
      have f0 := Z4.out.free 0
      have f1 := Z4.out.free 1
      have f2 := Z4.out.free 2
      have hz6 := Z4.out.lt
      have HR := Lib.hid (show ReadR C zeroPK 121 from by unfold ReadR; rw [HE.out, if_neg (by simp), if_pos (List.any_eq_true.2 ⟨d, HMO.out, decide_eq_true hneg⟩)])
      go_wp2_with fail
      exact read_err Tryz.results10 C w w4 _ 121 B4.out Z4.out HR.out rfl rfl
    go_wp2_with fail
    refine wp_region_held_drew (S := (fun _ => True)) (by kernel_rfl) ?_ (fun hHeld => ?_)
    · trivial
    refine wpAnyH_take (i := 0) (oi := { dst := some 56, op := Op.fieldAddr 33 (Operand.tmp 6) 2, type := 0, pos := _, after := #[], guard := none }) (v := ?_) rfl (by kernel_rfl) (by kernel_rfl) (by kernel_rfl) (fun _ _ _ h => h) (Or.inl ⟨by rfl, ?_⟩) (by assumption) ?_
    rotate_left
    · intro w hSw; (try dsimp only at hSw); go_simp; (try with_reducible rfl)
    try simp only [Act.put, List.setIfInBounds_toArray, List.set_cons_zero, List.set_cons_succ]
    refine wpAnyH_take (i := 2) (oi := { dst := some 58, op := Op.move (Operand.tmp 4), type := 26, pos := _, after := #[], guard := none }) (v := ?_) rfl (by kernel_rfl) (by kernel_rfl) (by kernel_rfl) (fun _ _ _ h => h) (Or.inl ⟨by rfl, ?_⟩) (by assumption) ?_
    rotate_left
    · intro w hSw; (try dsimp only at hSw); go_simp; (try with_reducible rfl)
    try simp only [Act.put, List.setIfInBounds_toArray, List.set_cons_zero, List.set_cons_succ]
    refine wpAnyH_take (i := 3) (oi := { dst := some 59, op := Op.move (Operand.tmp 9), type := 3, pos := _, after := #[], guard := none }) (v := ?_) rfl (by kernel_rfl) (by kernel_rfl) (by kernel_rfl) (fun _ _ _ h => h) (Or.inl ⟨by rfl, ?_⟩) (by assumption) ?_
    rotate_left
    · intro w hSw; (try dsimp only at hSw); go_simp; (try with_reducible rfl)
    try simp only [Act.put, List.setIfInBounds_toArray, List.set_cons_zero, List.set_cons_succ]
    refine wpAnyH_take (i := 4) (oi := { dst := some 60, op := Op.indexAddr 26 (Operand.tmp 58) (Operand.tmp 59), type := 0, pos := _, after := #[{ on := 2, ground := Ground.data }, { on := 3, ground := Ground.data }], guard := none }) (v := ?_) rfl (by kernel_rfl) (by kernel_rfl) (by kernel_rfl) (fun _ _ _ h => h) (Or.inl ⟨by rfl, ?_⟩) (by assumption) ?_
    rotate_left
    · intro w hSw; (try dsimp only at hSw); go_simp; (try with_reducible rfl)
    try simp only [Act.put, List.setIfInBounds_toArray, List.set_cons_zero, List.set_cons_succ]
    refine wpAnyH_ready (rs := [1, 5]) (by kernel_rfl) (by simp) ?_
    refine AllReadyH.cons (o := { dst := some 57, op := Op.load 26 (Operand.tmp 56), type := 26, pos := _, after := #[{ on := 0, ground := Ground.data }], guard := none }) rfl (fun K hK => ?_) (AllReadyH.cons (o := { dst := some 61, op := Op.load 3 (Operand.tmp 60), type := 3, pos := _, after := #[{ on := 4, ground := Ground.data }], guard := none }) rfl (fun K hK => ?_) AllReadyH.nil)
    · skip
      go_simp
      refine hK.out _ _ ?_ (fun hHeld => ?_)
      · trivial
      clear hK K
      try simp only [Act.put, List.setIfInBounds_toArray, List.set_cons_zero, List.set_cons_succ]
      refine wpAnyH_ready (rs := [5]) (by kernel_rfl) (by simp) ?_
      refine AllReadyH.cons (o := { dst := some 61, op := Op.load 3 (Operand.tmp 60), type := 3, pos := _, after := #[{ on := 4, ground := Ground.data }], guard := none }) rfl (fun K hK => ?_) AllReadyH.nil
      go_simp
      refine hK.out _ _ ?_ (fun hHeld => ?_)
      · trivial
      clear hK K
      try simp only [Act.put, List.setIfInBounds_toArray, List.set_cons_zero, List.set_cons_succ]
      refine wpAnyH_ready (rs := [6]) (by kernel_rfl) (by simp) ?_
      refine AllReadyH.cons (o := { dst := some 62, op := Op.buildSlice 26 1 #[(0, Operand.tmp 61)], type := 26, pos := _, after := #[{ on := 5, ground := Ground.data }], guard := none }) rfl (fun K hK => ?_) AllReadyH.nil
      go_simp
      refine hK.out _ _ ?_ (fun hHeld => ?_)
      · trivial
      clear hK K
      try simp only [Act.put, List.setIfInBounds_toArray, List.set_cons_zero, List.set_cons_succ]
      refine wpAnyH_ready (rs := [7]) (by kernel_rfl) (by simp) ?_
      refine AllReadyH.cons (o := { dst := some 63, op := Op.call { callee := Callee.builtin Builtin.append, args := #[Operand.tmp 57, Operand.tmp 62], argTypes := #[26, 26] }, type := 26, pos := _, after := #[{ on := 1, ground := Ground.data }, { on := 6, ground := Ground.data }], guard := none }) rfl (fun K hK => ?_) AllReadyH.nil
      have T8 := W4.out.outs.alloc (.cells #[.int .i64 d] 3)
      refine step_append_lies _ (by rfl) (.tmp 57) (.tmp 62) 26 (by rfl) (w1.heap.size + 1) 3 i0 (.int .i64 0) 1 8 Tryz.underlying26 HI0.out HZ0.out HZ1.out HZ2.out rfl (by decide) (.slice AU us.length cU) us.length (ints us) (by rfl) T8 ⟨w4.heap.size, 0, none⟩ 1 1 [.int .i64 d] (by rfl) rfl (new_cells w4 _ _) (by intro u hu; simp at hu; rcases hu with rfl; rfl) (by decide) (by unfold maxLen; have := HTL.out; omega) (by have := HTL.out; omega) (by simp; omega) (w4.heap.size + 1) (by simp) ?_
      intro g9 cap9 w9 hown9 hg9 hat9 hlt9
      have hg9' := (World.grownBy_alloc w4 (.cells #[.int .i64 d] 3) (Value.slice AU us.length cU).ownBlock).trans (show (w4.alloc (.cells #[.int .i64 d] 3)).grownBy w9 (Value.slice AU us.length cU).ownBlock from ⟨hg9.os, hg9.tape, hg9.output, hg9.size, hg9.block⟩)
      have B9 := W4.out.pk.grown hg9' (fun e => own_other W4.out.outs W4.out.pk (by decide) e.symm)
      have k9 : w9.cell? ⟨w1.heap.size, 2, none⟩ = some (.slice AU us.length cU) := B9.cell 2
      have f9 := B9.free 2
      refine hK.out _ _ ?_ (fun hHeld => ?_)
      · trivial
      clear hK K
      try simp only [Act.put, List.setIfInBounds_toArray, List.set_cons_zero, List.set_cons_succ]
      refine wpAnyH_ready (rs := [8]) (by kernel_rfl) (by simp) ?_
      refine AllReadyH.cons (o := { dst := some 64, op := Op.fieldAddr 33 (Operand.tmp 6) 2, type := 0, pos := _, after := #[{ on := 0, ground := Ground.phase }, { on := 1, ground := Ground.phase }, { on := 2, ground := Ground.phase }, { on := 3, ground := Ground.phase }, { on := 4, ground := Ground.phase }, { on := 5, ground := Ground.phase }, { on := 6, ground := Ground.phase }, { on := 7, ground := Ground.phase }], guard := none }) rfl (fun K hK => ?_) AllReadyH.nil
      go_simp
      refine hK.out _ _ ?_ (fun hHeld => ?_)
      · trivial
      clear hK K
      try simp only [Act.put, List.setIfInBounds_toArray, List.set_cons_zero, List.set_cons_succ]
      refine wpAnyH_ready (rs := [9]) (by kernel_rfl) (by simp) ?_
      refine AllReadyH.cons (o := { dst := none, op := Op.store 26 (Operand.tmp 64) (Operand.tmp 63), type := 0, pos := _, after := #[{ on := 8, ground := Ground.data }, { on := 7, ground := Ground.data }, { on := 7, ground := Ground.chain }, { on := 0, ground := Ground.phase }, { on := 1, ground := Ground.phase }, { on := 2, ground := Ground.phase }, { on := 3, ground := Ground.phase }, { on := 4, ground := Ground.phase }, { on := 5, ground := Ground.phase }, { on := 6, ground := Ground.phase }, { on := 7, ground := Ground.phase }], guard := none }) rfl (fun K hK => ?_) AllReadyH.nil
      go_simp
      refine hK.out _ _ ?_ (fun hHeld => ?_)
      · trivial
      clear hK K
      try simp only [Act.put, List.setIfInBounds_toArray, List.set_cons_zero, List.set_cons_succ]
      refine wpAnyH_done (by kernel_rfl) ?_ _
      have W9 := Lib.hid (W4.out.out hown9 hg9')
      clear hown9 hg9' hg9 hat9 hlt9 B9 k9 f9 hHeld
      go_wp2_with fail
      go_roundw
      case rel => exact ⟨k + 1, _, _, by omega, by go_num, by rw [HTK.out]; exact W9.out, by rw [HTK.out, List.any_append, HA.out]; simp [hneg]⟩
      case measure => simp [intOf]; omega
    · skip
      go_simp
      refine hK.out _ _ ?_ (fun hHeld => ?_)
      · trivial
      clear hK K
      try simp only [Act.put, List.setIfInBounds_toArray, List.set_cons_zero, List.set_cons_succ]
      refine wpAnyH_ready (rs := [1, 6]) (by kernel_rfl) (by simp) ?_
      refine AllReadyH.cons (o := { dst := some 57, op := Op.load 26 (Operand.tmp 56), type := 26, pos := _, after := #[{ on := 0, ground := Ground.data }], guard := none }) rfl (fun K hK => ?_) (AllReadyH.cons (o := { dst := some 62, op := Op.buildSlice 26 1 #[(0, Operand.tmp 61)], type := 26, pos := _, after := #[{ on := 5, ground := Ground.data }], guard := none }) rfl (fun K hK => ?_) AllReadyH.nil)
      · skip
        go_simp
        refine hK.out _ _ ?_ (fun hHeld => ?_)
        · trivial
        clear hK K
        try simp only [Act.put, List.setIfInBounds_toArray, List.set_cons_zero, List.set_cons_succ]
        refine wpAnyH_ready (rs := [6]) (by kernel_rfl) (by simp) ?_
        refine AllReadyH.cons (o := { dst := some 62, op := Op.buildSlice 26 1 #[(0, Operand.tmp 61)], type := 26, pos := _, after := #[{ on := 5, ground := Ground.data }], guard := none }) rfl (fun K hK => ?_) AllReadyH.nil
        go_simp
        refine hK.out _ _ ?_ (fun hHeld => ?_)
        · trivial
        clear hK K
        try simp only [Act.put, List.setIfInBounds_toArray, List.set_cons_zero, List.set_cons_succ]
        refine wpAnyH_ready (rs := [7]) (by kernel_rfl) (by simp) ?_
        refine AllReadyH.cons (o := { dst := some 63, op := Op.call { callee := Callee.builtin Builtin.append, args := #[Operand.tmp 57, Operand.tmp 62], argTypes := #[26, 26] }, type := 26, pos := _, after := #[{ on := 1, ground := Ground.data }, { on := 6, ground := Ground.data }], guard := none }) rfl (fun K hK => ?_) AllReadyH.nil
        have T8 := W4.out.outs.alloc (.cells #[.int .i64 d] 3)
        refine step_append_lies _ (by rfl) (.tmp 57) (.tmp 62) 26 (by rfl) (w1.heap.size + 1) 3 i0 (.int .i64 0) 1 8 Tryz.underlying26 HI0.out HZ0.out HZ1.out HZ2.out rfl (by decide) (.slice AU us.length cU) us.length (ints us) (by rfl) T8 ⟨w4.heap.size, 0, none⟩ 1 1 [.int .i64 d] (by rfl) rfl (new_cells w4 _ _) (by intro u hu; simp at hu; rcases hu with rfl; rfl) (by decide) (by unfold maxLen; have := HTL.out; omega) (by have := HTL.out; omega) (by simp; omega) (w4.heap.size + 1) (by simp) ?_
        intro g9 cap9 w9 hown9 hg9 hat9 hlt9
        have hg9' := (World.grownBy_alloc w4 (.cells #[.int .i64 d] 3) (Value.slice AU us.length cU).ownBlock).trans (show (w4.alloc (.cells #[.int .i64 d] 3)).grownBy w9 (Value.slice AU us.length cU).ownBlock from ⟨hg9.os, hg9.tape, hg9.output, hg9.size, hg9.block⟩)
        have B9 := W4.out.pk.grown hg9' (fun e => own_other W4.out.outs W4.out.pk (by decide) e.symm)
        have k9 : w9.cell? ⟨w1.heap.size, 2, none⟩ = some (.slice AU us.length cU) := B9.cell 2
        have f9 := B9.free 2
        refine hK.out _ _ ?_ (fun hHeld => ?_)
        · trivial
        clear hK K
        try simp only [Act.put, List.setIfInBounds_toArray, List.set_cons_zero, List.set_cons_succ]
        refine wpAnyH_ready (rs := [8]) (by kernel_rfl) (by simp) ?_
        refine AllReadyH.cons (o := { dst := some 64, op := Op.fieldAddr 33 (Operand.tmp 6) 2, type := 0, pos := _, after := #[{ on := 0, ground := Ground.phase }, { on := 1, ground := Ground.phase }, { on := 2, ground := Ground.phase }, { on := 3, ground := Ground.phase }, { on := 4, ground := Ground.phase }, { on := 5, ground := Ground.phase }, { on := 6, ground := Ground.phase }, { on := 7, ground := Ground.phase }], guard := none }) rfl (fun K hK => ?_) AllReadyH.nil
        go_simp
        refine hK.out _ _ ?_ (fun hHeld => ?_)
        · trivial
        clear hK K
        try simp only [Act.put, List.setIfInBounds_toArray, List.set_cons_zero, List.set_cons_succ]
        refine wpAnyH_ready (rs := [9]) (by kernel_rfl) (by simp) ?_
        refine AllReadyH.cons (o := { dst := none, op := Op.store 26 (Operand.tmp 64) (Operand.tmp 63), type := 0, pos := _, after := #[{ on := 8, ground := Ground.data }, { on := 7, ground := Ground.data }, { on := 7, ground := Ground.chain }, { on := 0, ground := Ground.phase }, { on := 1, ground := Ground.phase }, { on := 2, ground := Ground.phase }, { on := 3, ground := Ground.phase }, { on := 4, ground := Ground.phase }, { on := 5, ground := Ground.phase }, { on := 6, ground := Ground.phase }, { on := 7, ground := Ground.phase }], guard := none }) rfl (fun K hK => ?_) AllReadyH.nil
        go_simp
        refine hK.out _ _ ?_ (fun hHeld => ?_)
        · trivial
        clear hK K
        try simp only [Act.put, List.setIfInBounds_toArray, List.set_cons_zero, List.set_cons_succ]
        refine wpAnyH_done (by kernel_rfl) ?_ _
        have W9 := Lib.hid (W4.out.out hown9 hg9')
        clear hown9 hg9' hg9 hat9 hlt9 B9 k9 f9 hHeld
        go_wp2_with fail
        go_roundw
        case rel => exact ⟨k + 1, _, _, by omega, by go_num, by rw [HTK.out]; exact W9.out, by rw [HTK.out, List.any_append, HA.out]; simp [hneg]⟩
        case measure => simp [intOf]; omega
      · skip
        go_simp
        refine hK.out _ _ ?_ (fun hHeld => ?_)
        · trivial
        clear hK K
        try simp only [Act.put, List.setIfInBounds_toArray, List.set_cons_zero, List.set_cons_succ]
        refine wpAnyH_ready (rs := [1]) (by kernel_rfl) (by simp) ?_
        refine AllReadyH.cons (o := { dst := some 57, op := Op.load 26 (Operand.tmp 56), type := 26, pos := _, after := #[{ on := 0, ground := Ground.data }], guard := none }) rfl (fun K hK => ?_) AllReadyH.nil
        go_simp
        refine hK.out _ _ ?_ (fun hHeld => ?_)
        · trivial
        clear hK K
        try simp only [Act.put, List.setIfInBounds_toArray, List.set_cons_zero, List.set_cons_succ]
        refine wpAnyH_ready (rs := [7]) (by kernel_rfl) (by simp) ?_
        refine AllReadyH.cons (o := { dst := some 63, op := Op.call { callee := Callee.builtin Builtin.append, args := #[Operand.tmp 57, Operand.tmp 62], argTypes := #[26, 26] }, type := 26, pos := _, after := #[{ on := 1, ground := Ground.data }, { on := 6, ground := Ground.data }], guard := none }) rfl (fun K hK => ?_) AllReadyH.nil
        have T8 := W4.out.outs.alloc (.cells #[.int .i64 d] 3)
        refine step_append_lies _ (by rfl) (.tmp 57) (.tmp 62) 26 (by rfl) (w1.heap.size + 1) 3 i0 (.int .i64 0) 1 8 Tryz.underlying26 HI0.out HZ0.out HZ1.out HZ2.out rfl (by decide) (.slice AU us.length cU) us.length (ints us) (by rfl) T8 ⟨w4.heap.size, 0, none⟩ 1 1 [.int .i64 d] (by rfl) rfl (new_cells w4 _ _) (by intro u hu; simp at hu; rcases hu with rfl; rfl) (by decide) (by unfold maxLen; have := HTL.out; omega) (by have := HTL.out; omega) (by simp; omega) (w4.heap.size + 1) (by simp) ?_
        intro g9 cap9 w9 hown9 hg9 hat9 hlt9
        have hg9' := (World.grownBy_alloc w4 (.cells #[.int .i64 d] 3) (Value.slice AU us.length cU).ownBlock).trans (show (w4.alloc (.cells #[.int .i64 d] 3)).grownBy w9 (Value.slice AU us.length cU).ownBlock from ⟨hg9.os, hg9.tape, hg9.output, hg9.size, hg9.block⟩)
        have B9 := W4.out.pk.grown hg9' (fun e => own_other W4.out.outs W4.out.pk (by decide) e.symm)
        have k9 : w9.cell? ⟨w1.heap.size, 2, none⟩ = some (.slice AU us.length cU) := B9.cell 2
        have f9 := B9.free 2
        refine hK.out _ _ ?_ (fun hHeld => ?_)
        · trivial
        clear hK K
        try simp only [Act.put, List.setIfInBounds_toArray, List.set_cons_zero, List.set_cons_succ]
        refine wpAnyH_ready (rs := [8]) (by kernel_rfl) (by simp) ?_
        refine AllReadyH.cons (o := { dst := some 64, op := Op.fieldAddr 33 (Operand.tmp 6) 2, type := 0, pos := _, after := #[{ on := 0, ground := Ground.phase }, { on := 1, ground := Ground.phase }, { on := 2, ground := Ground.phase }, { on := 3, ground := Ground.phase }, { on := 4, ground := Ground.phase }, { on := 5, ground := Ground.phase }, { on := 6, ground := Ground.phase }, { on := 7, ground := Ground.phase }], guard := none }) rfl (fun K hK => ?_) AllReadyH.nil
        go_simp
        refine hK.out _ _ ?_ (fun hHeld => ?_)
        · trivial
        clear hK K
        try simp only [Act.put, List.setIfInBounds_toArray, List.set_cons_zero, List.set_cons_succ]
        refine wpAnyH_ready (rs := [9]) (by kernel_rfl) (by simp) ?_
        refine AllReadyH.cons (o := { dst := none, op := Op.store 26 (Operand.tmp 64) (Operand.tmp 63), type := 0, pos := _, after := #[{ on := 8, ground := Ground.data }, { on := 7, ground := Ground.data }, { on := 7, ground := Ground.chain }, { on := 0, ground := Ground.phase }, { on := 1, ground := Ground.phase }, { on := 2, ground := Ground.phase }, { on := 3, ground := Ground.phase }, { on := 4, ground := Ground.phase }, { on := 5, ground := Ground.phase }, { on := 6, ground := Ground.phase }, { on := 7, ground := Ground.phase }], guard := none }) rfl (fun K hK => ?_) AllReadyH.nil
        go_simp
        refine hK.out _ _ ?_ (fun hHeld => ?_)
        · trivial
        clear hK K
        try simp only [Act.put, List.setIfInBounds_toArray, List.set_cons_zero, List.set_cons_succ]
        refine wpAnyH_done (by kernel_rfl) ?_ _
        have W9 := Lib.hid (W4.out.out hown9 hg9')
        clear hown9 hg9' hg9 hat9 hlt9 B9 k9 f9 hHeld
        go_wp2_with fail
        go_roundw
        case rel => exact ⟨k + 1, _, _, by omega, by go_num, by rw [HTK.out]; exact W9.out, by rw [HTK.out, List.any_append, HA.out]; simp [hneg]⟩
        case measure => simp [intOf]; omega

theorem rread_any (C : Cfg) (w : World) (hin : C.In w) (hf : C.few) : RREAD C w (ReadOut C w) := by
  by_cases h : dE C = 0
  · exact rread_yes C w hin hf h
  · exact rread_no C w hin hf h

end Go.Proofs.YtoloaecbfglaeaaGreat
