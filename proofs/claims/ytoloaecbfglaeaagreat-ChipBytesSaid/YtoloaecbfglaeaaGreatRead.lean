/- Walk of filigree/chip.Read: which blocks a configuration is. -/
import Derived.Test.YtoloaecbfglaeaaGreatRd
import Derived.Outline
namespace Go.Proofs.YtoloaecbfglaeaaGreat
open Go.RowKit Topo
set_option linter.unusedVariables false
set_option linter.unusedSimpArgs false

set_option maxRecDepth 100000 in
set_option maxHeartbeats 2000000 in
theorem read_no (C : Cfg) (w : World) (hin : C.In w) (hf : C.few) (h : dE C ≠ 0) : READ C w (ReadOut C w) := by
  have T0 := Lib.hid (Box7.new w C 28)
  have b0 := below_new w (.cells #[.int .i64 C.W, .int .i64 C.H, .int .i64 C.T, .slice C.AT C.tiles.length C.cT, .slice C.AO C.on.length C.cO, .slice C.AI C.ins.length C.cI, .slice C.AU C.outs.length C.cU] 28)
  have b1 := below_then b0 (below_new _ (.cells #[.int .i64 0, .slice none 0 0, .slice none 0 0] 33))
  have hd := drivers_pair C _ (hin.later b1) hf
  unfold DRV at hd
  have HD := Lib.hid hd
  have B1 := Lib.hid b1
  have Z1 := Blk.made (w.alloc (.cells #[.int .i64 C.W, .int .i64 C.H, .int .i64 C.T, .slice C.AT C.tiles.length C.cT, .slice C.AO C.on.length C.cO, .slice C.AI C.ins.length C.cI, .slice C.AU C.outs.length C.cU] 28)) 33 #[.int .i64 0, .slice none 0 0, .slice none 0 0]
  rw [World.size_alloc] at Z1
  have Z1 := Lib.hid Z1
  have hne : (dE C != 0) = true := by rw [bne_iff_ne]; exact h
  have HR := Lib.hid (show ReadR C zeroPK (dE C) from by unfold ReadR; rw [if_pos h])
  clear hd b0 b1 hin
  unfold READ
  generalize dE C = x at HD hne HR
  go_enter Tryz.func9, Tryz.ntmps9
  go_wp2_with fail
  refine HD.out.mono ?_
  rintro e w1 ⟨A, c, rfl, hb1, -⟩
  have B2 := Lib.hid (below_then B1.out hb1)
  have Z2 := Lib.hid (Z1.out.keep hb1)
  have z0 := Z2.out.cell 0
  have z1 := Z2.out.cell 1
  have z2 := Z2.out.cell 2
  have f0 := Z2.out.free 0
  have f1 := Z2.out.free 1
  have f2 := Z2.out.free 2
  have hz := Z2.out.lt
  clear hb1 h
  go_wp2_with fail
  exact read_err Tryz.results9 C w w1 _ x B2.out Z2.out HR.out rfl rfl

set_option maxRecDepth 100000 in
set_option maxHeartbeats 8000000 in
theorem read_yes (C : Cfg) (w : World) (hin : C.In w) (hf : C.few) (h : dE C = 0) : READ C w (ReadOut C w) := by
  have T0 := Box7.new w C 28
  have b0 := below_new w (.cells #[.int .i64 C.W, .int .i64 C.H, .int .i64 C.T, .slice C.AT C.tiles.length C.cT, .slice C.AO C.on.length C.cO, .slice C.AI C.ins.length C.cI, .slice C.AU C.outs.length C.cU] 28)
  have b1 := below_then b0 (below_new _ (.cells #[.int .i64 0, .slice none 0 0, .slice none 0 0] 33))
  have hd := drivers_pair C _ (hin.later b1) hf
  rw [h] at hd
  unfold DRV at hd
  have HD := Lib.hid hd
  have B1 := Lib.hid b1
  have Z1 := Blk.made (w.alloc (.cells #[.int .i64 C.W, .int .i64 C.H, .int .i64 C.T, .slice C.AT C.tiles.length C.cT, .slice C.AO C.on.length C.cO, .slice C.AI C.ins.length C.cI, .slice C.AU C.outs.length C.cU] 28)) 33 #[.int .i64 0, .slice none 0 0, .slice none 0 0]
  rw [World.size_alloc] at Z1
  have Z1 := Lib.hid Z1
  have T1 := Lib.hid (T0.below (below_new _ (.cells #[.int .i64 0, .slice none 0 0, .slice none 0 0] 33)))
  obtain ⟨hok, hnd⟩ := dE_zero h
  have HOK := Lib.hid hok
  have HDL := Lib.hid (dL_length h)
  have HF := Lib.hid hf
  have HIN := Lib.hid hin
  have HE := Lib.hid h
  have hW1 : 1 ≤ C.W := hok.1.1.1
  have hW2 : C.W ≤ 16 := hok.1.1.2
  have hnt := hf.1
  have hni := hf.2.2.1
  have hno := hf.2.2.2
  obtain ⟨i0, hi0, hz0, hz1, hz2⟩ := info_parts int_info
  obtain ⟨j0, hj0, hy0, hy1, hy2⟩ := info_parts (show (Tryz.prog.info? 67).map (fun i => (i.zero, i.size, i.bytes)) = some (some (.agg #[.slice none 0 0, .int .i64 0, .bool false, .bool false]), 4, 40) by kernel_rfl)
  have HI0 := Lib.hid hi0
  have HZ0 := Lib.hid hz0
  have HZ1 := Lib.hid hz1
  have HZ2 := Lib.hid hz2
  have HJ0 := Lib.hid hj0
  have HY0 := Lib.hid hy0
  have HY1 := Lib.hid hy1
  have HY2 := Lib.hid hy2
  obtain ⟨oU, hoU⟩ : ∃ o, C.AU = o := ⟨_, rfl⟩
  obtain ⟨oT, hoT⟩ : ∃ o, C.AT = o := ⟨_, rfl⟩
  rw [hoU, hoT] at HD B1 Z1 T1
  unfold READ
  rw [hoU, hoT]
  have HOU := Lib.hid hoU
  have HOT := Lib.hid hoT
  obtain ⟨I, hI⟩ : ∃ I, (C.ins.length : Int) = I := ⟨_, rfl⟩
  clear hd b0 b1 hin hf hok hnd h T0 hi0 hz0 hz1 hz2 hj0 hy0 hy1 hy2 hoU hoT
  go_enter Tryz.func9, Tryz.ntmps9
  go_wp2_with fail
  refine HD.out.mono ?_
  rintro e w1 ⟨A1, c1, rfl, hb1, hr1⟩
  have B2 := Lib.hid (below_then B1.out hb1)
  have Z2 := Lib.hid (Z1.out.keep hb1)
  have T2 := Lib.hid (T1.out.below hb1)
  have R2 := Lib.hid hr1
  have t4 := T2.out.c5
  have t5 := T2.out.c6
  have t3 := T2.out.c3
  have hz2 := Z2.out.lt
  have hz3 : w.heap.size < w1.heap.size := by omega
  rw [HOU.out] at t5
  rw [HOT.out] at t3
  clear hb1 hr1 HD B1 Z1 T1 hI
  have W0 := Lib.hid (RW.start w1 (C.ins.length : Int))
  go_wp2_with fail
  go_loopw [36] (fun v36 wx => ∃ (k : Nat) (AU : Option Addr) (cU : Nat), k ≤ C.outs.length ∧ v36 = .int .i64 (k : Int) ∧ RW w1 wx (C.ins.length : Int) none 0 [] AU cU ((outsD C).take k) ∧ ((outsD C).take k).any (fun o => decide (o < 0)) = false) (fun v36 _ => C.outs.length - (intOf v36).toNat)
  case atStart => exact ⟨0, none, 0, by omega, rfl, W0.out, rfl⟩
  case round =>
    obtain ⟨k, AU, cU, hk, rfl, hW, hA⟩ := hrel
    have W1 := Lib.hid hW
    have HA := Lib.hid hA
    have hz4 := hW.lt
    have T3 := T2.out.below hW.below
    have t0 := T3.c0
    have t1 := T3.c1
    have t2 := T3.c2
    have p0 := hW.pk.cell 2
    have q0 := hW.pk.free 2
    have R3 := Lib.hid (R2.out.later hW.below)
    clear hW hA t4 t5 W0
    by_cases hlt : k < C.outs.length
    case neg =>
      obtain rfl : k = C.outs.length := by omega
      have hol : (outsD C).length = C.outs.length := by simp [outsD]
      have hW := W1.out
      have hA := HA.out
      rw [← hol, List.take_length] at hW hA
      have HA2 := Lib.hid hA
      have W2 := Lib.hid hW
      have t3 := T3.c3
      rw [HOT.out] at t3
      clear hW hA hol W1 HA p0 q0 T3 R3
      go_wp2_with fail
      go_loopw [70] (fun v70 wx => ∃ (k : Nat) (AB : Option Addr) (cB : Nat) (bs : List BL), k ≤ C.tiles.length ∧ v70 = .int .i64 (k : Int) ∧ RW w1 wx (C.ins.length : Int) AB cB bs AU cU (outsD C) ∧ bs.map BL.plain = (List.range k).map (blkD C)) (fun v70 _ => C.tiles.length - (intOf v70).toNat)
      case atStart => exact ⟨0, none, 0, [], by omega, rfl, W2.out, rfl⟩
      case round =>
        obtain ⟨k, AB, cB, bs, hk, rfl, hW, hP⟩ := hrel
        have W3 := Lib.hid hW
        have HP := Lib.hid hP
        have hz4 := hW.lt
        have T3 := T2.out.below hW.below
        have B3 := Lib.hid (below_then B2.out hW.below)
        have R3 := Lib.hid (R2.out.later hW.below)
        have Z3 := Lib.hid (Z2.out.keep hW.below)
        have TT := Lib.hid T3
        clear hW hP t3 W2 t0 t1 t2
        by_cases hlt : k < C.tiles.length
        case neg =>
          obtain rfl : k = C.tiles.length := by omega
          obtain ⟨P, hPP⟩ : ∃ P : PK, P = ⟨(C.ins.length : Int), AB, cB, bs, AU, cU, outsD C⟩ := ⟨_, rfl⟩
          have hpl : P.plain = packD C := by rw [hPP]; simp only [PK.plain, packD, HP.out]
          have hpi : P.In wr := by rw [hPP]; exact W3.out.in
          have hck := pchk_any P wr hpi (pack_fit HF.out hpl)
          rw [hPP] at hck
          simp only at hck
          have HCK := Lib.hid hck
          have HPL := Lib.hid hpl
          have HPP := Lib.hid hPP
          have p0 := W3.out.pk.cell 0
          have p1 := W3.out.pk.cell 1
          have p2 := W3.out.pk.cell 2
          have hz9 := W3.out.lt
          clear hpl hpi hck hPP
          go_wp2_with fail
          refine HCK.out.mono ?_
          rintro e w4 ⟨x, rfl, hx, hb4⟩
          rw [← HPP.out] at hx
          have W4 := Lib.hid (W3.out.keep hb4)
          have B4 := Lib.hid (below_then B3.out hb4)
          have Z4 := Lib.hid (Z3.out.keep hb4)
          have HX := Lib.hid hx
          have hx0 : x = 0 ∨ x = 1 ∨ x = 321 := by rcases hx with ⟨h, -⟩ | ⟨h, -⟩ | ⟨h, -⟩ <;> omega
          have z0 := Z4.out.cell 0
          have z1 := Z4.out.cell 1
          have z2 := Z4.out.cell 2
          have f0 := Z4.out.free 0
          have f1 := Z4.out.free 1
          have f2 := Z4.out.free 2
          have hz6 := Z4.out.lt
          have p0 := W4.out.pk.cell 0
          have p1 := W4.out.pk.cell 1
          have p2 := W4.out.pk.cell 2
          have hz10 := W4.out.lt
          clear hx hb4
          have hRR : ∀ Q : PK, (x = 0 → Q.plain = packD C) → ReadR C Q x := fun Q hq => by
            unfold ReadR
            rw [HE.out, if_neg (by simp), HA2.out, if_neg (by simp)]
            exact ⟨P, HPL.out, HX.out, hq⟩
          have HRR := Lib.hid hRR
          clear hRR
          rcases hx0 with rfl | rfl | rfl
          · go_wp2_with fail
            have hne1 : w.heap.size + 1 < w1.heap.size := hz2
            have hI := W4.out.setIn hne1 (.int .i64 (C.ins.length : Int)) (.slice AB bs.length cB) (.slice AU (outsD C).length cU)
            exact read_ok Tryz.results9 C ⟨(C.ins.length : Int), AB, cB, bs, AU, cU, outsD C⟩ w w4 _ B4.out Z4.out (HRR.out _ (fun _ => by rw [← HPP.out]; exact HPL.out)) hI (pack_fit HF.out (by rw [← HPP.out]; exact HPL.out)) rfl rfl
          · go_wp2_with fail
            exact read_err Tryz.results9 C w w4 _ 1 B4.out Z4.out (HRR.out _ (fun h => by cases h)) rfl rfl
          · go_wp2_with fail
            exact read_err Tryz.results9 C w w4 _ 321 B4.out Z4.out (HRR.out _ (fun h => by cases h)) rfl rfl
        have hrt := ((HIN.out.later B2.out).later W3.out.below).tiles
        obtain ⟨aT, haT, habT, x0, x1, x2⟩ := hrt.tile hlt
        rw [HOT.out] at haT
        subst haT
        have htl := ok_tile HOK.out hlt
        have hbd : blkD C k = (natI (ipL (insD C k) 4), (blockT (insD C k) (C.tiles[k]!).1.toNat : Int), (C.tiles[k]!).2.1, (C.tiles[k]!).2.2) := rfl
        have HBD := Lib.hid hbd
        clear hbd hrt
        generalize C.tiles[k]! = tl at x0 x1 x2 htl HBD
        obtain ⟨tt, tf, ti⟩ := tl
        simp only at x0 x1 x2 htl
        obtain ⟨ht0, ht1⟩ := htl
        obtain ⟨tn, rfl⟩ := Int.eq_ofNat_of_zero_le ht0
        have hat := fun w => at_any C k w hW1 hW2 (by omega)
        rw [HOT.out, HOU.out] at hat
        have HAT := Lib.hid hat
        have y0 := T3.c0
        have y1 := T3.c1
        have y2 := T3.c2
        have y3 := T3.c3
        have y4 := T3.c4
        have y5 := T3.c5
        have y6 := T3.c6
        rw [HOT.out] at y3
        rw [HOU.out] at y6
        obtain ⟨wo, rfl⟩ : ∃ wo : World, wo = wr := ⟨_, rfl⟩
        have hz7 : w.heap.size < wo.heap.size := TT.out.lt
        clear hat T3
        go_wp2_with fail
        have bT := below_new wo (.cells #[.int .i64 (tn : Int), .bool tf, .bool ti] 61)
        have W5 := Lib.hid (W3.out.keep bT)
        have T5 := Lib.hid (TT.out.below bT)
        have M5 := Lib.hid (Blk.made wo 61 #[.int .i64 (tn : Int), .bool tf, .bool ti])
        refine (HAT.out _).mono ?_
        rintro e w6 ⟨rfl, hb6⟩
        have W6 := Lib.hid (W5.out.keep hb6)
        have T6 := Lib.hid (T5.out.below hb6)
        have M6 := Lib.hid (M5.out.keep hb6)
        clear hb6 bT x0 x1 x2 habT y0 y1 y2 y3 y4 y5 y6 W5 T5 M5
        have htd := tile_there HOK.out hlt
        have HTD := Lib.hid htd
        have hin := fun (j : Nat) (hj : j < 4) => in_node HOK.out hlt hj
        have HINN := Lib.hid hin
        unfold inN at hin
        have hDj : ∀ j, j < 4 → (insD C k).getD j 0 = dv C (inN C k j) := fun j hj => by rcases lt4 hj with rfl | rfl | rfl | rfl <;> rfl
        have HDJ := Lib.hid hDj
        clear htd hin hDj
        go_wp2_with fail
        have W7 := Lib.hid (W6.out.keep (below_new w6 (.cells #[.int .i64 0, .int .i64 0, .int .i64 0, .int .i64 0] 64)))
        have M7 := Lib.hid (M6.out.keep (below_new w6 (.cells #[.int .i64 0, .int .i64 0, .int .i64 0, .int .i64 0] 64)))
        have N7 := Lib.hid (Blk.made w6 64 #[.int .i64 0, .int .i64 0, .int .i64 0, .int .i64 0])
        have hz6 : w1.heap.size < w6.heap.size := W6.out.lt
        have hz8 : wo.heap.size < w6.heap.size := M6.out.lt
        go_loopw [81] (fun v81 wx => ∃ (j : Nat), j ≤ 4 ∧ v81 = .int .i64 (j : Int) ∧ RW w1 wx (C.ins.length : Int) AB cB bs AU cU (outsD C) ∧ Blk wx wo.heap.size 61 #[.int .i64 (tn : Int), .bool tf, .bool ti] ∧ Blk wx w6.heap.size 64 (ints (mixD (insD C k) j)).toArray) (fun v81 _ => 4 - (intOf v81).toNat)
        case atStart => exact ⟨0, by omega, rfl, W7.out, M7.out, N7.out⟩
        case round =>
          obtain ⟨j, hj, rfl, hW, hM, hN⟩ := hrel
          have W8 := Lib.hid hW
          have M8 := Lib.hid hM
          have N8 := Lib.hid hN
          have T8 := T2.out.below hW.below
          have y0 := T8.c0
          have y1 := T8.c1
          have y2 := T8.c2
          clear hW hM hN W7 M7 N7 T8
          by_cases hj4 : j < 4
          case neg =>
            obtain rfl : j = 4 := by omega
            rw [show (((4 : Nat) : Int)) = 4 from rfl]
            have hbl : bs.length = k := by have := congrArg List.length HP.out; simpa using this
            have HBL := Lib.hid hbl
            have hbl1 : bs.length ≤ 1000 := by omega
            have hb0 := dv_bd HF.out (inN C k 0)
            have hb1 := dv_bd HF.out (inN C k 1)
            have hb2 := dv_bd HF.out (inN C k 2)
            have hb3 := dv_bd HF.out (inN C k 3)
            have hN9 : Blk wr w6.heap.size 64 #[.int .i64 (dv C (inN C k 0)), .int .i64 (dv C (inN C k 1)), .int .i64 (dv C (inN C k 2)), .int .i64 (dv C (inN C k 3))] := N8.out
            have hD : insD C k = [dv C (inN C k 0), dv C (inN C k 1), dv C (inN C k 2), dv C (inN C k 3)] := rfl
            have HD := Lib.hid hD
            have N9 := Lib.hid hN9
            clear hD hN9 hbl
            generalize dv C (inN C k 0) = d0 at hb0 HD N9
            generalize dv C (inN C k 1) = d1 at hb1 HD N9
            generalize dv C (inN C k 2) = d2 at hb2 HD N9
            generalize dv C (inN C k 3) = d3 at hb3 HD N9
            have n0 := N9.out.cell 0
            have n1 := N9.out.cell 1
            have n2 := N9.out.cell 2
            have n3 := N9.out.cell 3
            have m0 := M8.out.cell 0
            have m1 := M8.out.cell 1
            have m2 := M8.out.cell 2
            have p1 : wr.cell? ⟨w1.heap.size, 1, none⟩ = some (.slice AB bs.length cB) := W8.out.pk.cell 1
            have hz9 := W8.out.lt
            have hbk := fun W => block_any tn tf ti d0 d1 d2 d3 W (by omega) (by omega) (by omega) (by omega) (by omega)
            have HBK := Lib.hid hbk
            clear hbk y0 y1 y2 hb0 hb1 hb2 hb3
            obtain ⟨D4, hD4⟩ : ∃ D4, [d0, d1, d2, d3] = D4 := ⟨_, rfl⟩
            rw [hD4] at HBK HD
            clear hD4
            go_wp2_with fail
            refine wp_region_held_drew (S := (fun _ => True)) (by kernel_rfl) ?_ (fun hHeld => ?_)
            · trivial
            refine wpAnyH_take (i := 0) (oi := { dst := some 104, op := Op.fieldAddr 33 (Operand.tmp 6) 1, type := 0, pos := _, after := #[], guard := none }) (v := ?_) rfl (by kernel_rfl) (by kernel_rfl) (by kernel_rfl) (fun _ _ _ h => h) (Or.inl ⟨by rfl, ?_⟩) (by assumption) ?_
            rotate_left
            · intro w hSw; (try dsimp only at hSw); go_simp; (try with_reducible rfl)
            try simp only [Act.put, List.setIfInBounds_toArray, List.set_cons_zero, List.set_cons_succ]
            refine wpAnyH_ready (rs := [1, 2, 3]) (by kernel_rfl) (by simp) ?_
            refine AllReadyH.cons (o := { dst := some 105, op := Op.load 31 (Operand.tmp 104), type := 31, pos := _, after := #[{ on := 0, ground := Ground.data }], guard := none }) rfl (fun K hK => ?_) (AllReadyH.cons (o := { dst := some 106, op := Op.load 61 (Operand.tmp 12), type := 61, pos := _, after := #[], guard := none }) rfl (fun K hK => ?_) (AllReadyH.cons (o := { dst := some 107, op := Op.load 64 (Operand.tmp 15), type := 64, pos := _, after := #[], guard := none }) rfl (fun K hK => ?_) AllReadyH.nil))
            · skip
              go_simp
              refine hK.out _ _ ?_ (fun hHeld => ?_)
              · trivial
              clear hK K
              try simp only [Act.put, List.setIfInBounds_toArray, List.set_cons_zero, List.set_cons_succ]
              refine wpAnyH_ready (rs := [2, 3]) (by kernel_rfl) (by simp) ?_
              refine AllReadyH.cons (o := { dst := some 106, op := Op.load 61 (Operand.tmp 12), type := 61, pos := _, after := #[], guard := none }) rfl (fun K hK => ?_) (AllReadyH.cons (o := { dst := some 107, op := Op.load 64 (Operand.tmp 15), type := 64, pos := _, after := #[], guard := none }) rfl (fun K hK => ?_) AllReadyH.nil)
              · skip
                go_simp
                refine hK.out _ _ ?_ (fun hHeld => ?_)
                · trivial
                clear hK K
                try simp only [Act.put, List.setIfInBounds_toArray, List.set_cons_zero, List.set_cons_succ]
                refine wpAnyH_ready (rs := [3]) (by kernel_rfl) (by simp) ?_
                refine AllReadyH.cons (o := { dst := some 107, op := Op.load 64 (Operand.tmp 15), type := 64, pos := _, after := #[], guard := none }) rfl (fun K hK => ?_) AllReadyH.nil
                go_simp
                refine hK.out _ _ ?_ (fun hHeld => ?_)
                · trivial
                clear hK K
                try simp only [Act.put, List.setIfInBounds_toArray, List.set_cons_zero, List.set_cons_succ]
                refine wpAnyH_ready (rs := [4]) (by kernel_rfl) (by simp) ?_
                refine AllReadyH.cons (o := { dst := some 108, op := Op.call { callee := Callee.value (Operand.func 28), args := #[Operand.tmp 106, Operand.tmp 107], argTypes := #[61, 64] }, type := 67, pos := _, after := #[{ on := 2, ground := Ground.data }, { on := 3, ground := Ground.data }], guard := none }) rfl (fun K hK => ?_) AllReadyH.nil
                go_simp
                with_reducible refine (HBK.out _).mono ?_
                rintro e w9 ⟨A9, c9, rfl, hb9, ho9⟩
                have hb9 := below_of_drew hb9
                have W9 := Lib.hid (W8.out.keep hb9)
                have ho9 := Lib.hid ho9
                have p9 : w9.cell? ⟨w1.heap.size, 1, none⟩ = some (.slice AB bs.length cB) := W9.out.pk.cell 1
                have p10 : (w9.alloc (.cells #[.slice A9 (ipL D4 4).length c9, .int .i64 (blockT D4 tn : Int), .bool tf, .bool ti] 67)).cell? ⟨w1.heap.size, 1, none⟩ = some (.slice AB bs.length cB) := (W9.out.pk.alloc _).cell 1
                have hz10 := W9.out.lt
                have hz11 := hb9.size
                clear hb9
                refine hK.out _ _ ?_ (fun hHeld => ?_)
                · trivial
                clear hK K
                try simp only [Act.put, List.setIfInBounds_toArray, List.set_cons_zero, List.set_cons_succ]
                refine wpAnyH_ready (rs := [5]) (by kernel_rfl) (by simp) ?_
                refine AllReadyH.cons (o := { dst := some 109, op := Op.buildSlice 31 1 #[(0, Operand.tmp 108)], type := 31, pos := _, after := #[{ on := 4, ground := Ground.data }], guard := none }) rfl (fun K hK => ?_) AllReadyH.nil
                go_simp
                refine hK.out _ _ ?_ (fun hHeld => ?_)
                · trivial
                clear hK K
                try simp only [Act.put, List.setIfInBounds_toArray, List.set_cons_zero, List.set_cons_succ]
                refine wpAnyH_ready (rs := [6]) (by kernel_rfl) (by simp) ?_
                refine AllReadyH.cons (o := { dst := some 110, op := Op.call { callee := Callee.builtin Builtin.append, args := #[Operand.tmp 105, Operand.tmp 109], argTypes := #[31, 31] }, type := 31, pos := _, after := #[{ on := 1, ground := Ground.data }, { on := 5, ground := Ground.data }, { on := 4, ground := Ground.chain }], guard := none }) rfl (fun K hK => ?_) AllReadyH.nil
                have hbr := (own_base_le ho9.out (base' := w1.heap.size + 1) (show w1.heap.size + 1 ≤ wr.heap.size by omega)).alloc (.cells #[.slice A9 (ipL D4 4).length c9, .int .i64 (blockT D4 tn : Int), .bool tf, .bool ti] 67)
                have W10 := Lib.hid (W9.out.keep (below_new w9 (.cells #[.slice A9 (ipL D4 4).length c9, .int .i64 (blockT D4 tn : Int), .bool tf, .bool ti] 67)))
                refine step_append_lies _ (by rfl) (.tmp 105) (.tmp 109) 31 (by rfl) (w1.heap.size + 1) 67 j0 (.agg #[.slice none 0 0, .int .i64 0, .bool false, .bool false]) 4 40 Tryz.underlying31 HJ0.out HY0.out HY1.out HY2.out rfl (by decide) (.slice AB bs.length cB) bs.length (blocks4 bs) (by rfl) W10.out.blocks ⟨w9.heap.size, 0, none⟩ 1 1 [.slice A9 (ipL D4 4).length c9, .int .i64 (blockT D4 tn : Int), .bool tf, .bool ti] (by rfl) rfl (new_cells w9 _ _) (by intro u hu; simp at hu; rcases hu with rfl | rfl | rfl | rfl <;> rfl) (by decide) (by unfold maxLen; omega) (by omega) (by simp; omega) (w9.heap.size + 1) (by simp) ?_
                intro g11 cap11 w11 hown11 hg11 hat11 hlt11
                have hg11' : (w9.alloc (.cells #[.slice A9 (ipL D4 4).length c9, .int .i64 (blockT D4 tn : Int), .bool tf, .bool ti] 67)).grownBy w11 (Value.slice AB bs.length cB).ownBlock := ⟨hg11.os, hg11.tape, hg11.output, hg11.size, hg11.block⟩
                have B11 := W10.out.pk.grown hg11' (fun e => own_other W10.out.blocks W10.out.pk (by decide) e.symm)
                have k11 : w11.cell? ⟨w1.heap.size, 1, none⟩ = some (.slice AB bs.length cB) := B11.cell 1
                have f11 := B11.free 1
                have HBR := Lib.hid hbr
                have HW11 := Lib.hid hown11
                have HG11 := Lib.hid hg11'
                clear hbr hown11 hg11 hg11' hat11 hlt11 B11
                refine hK.out _ _ ?_ (fun hHeld => ?_)
                · trivial
                clear hK K
                try simp only [Act.put, List.setIfInBounds_toArray, List.set_cons_zero, List.set_cons_succ]
                refine wpAnyH_ready (rs := [7]) (by kernel_rfl) (by simp) ?_
                refine AllReadyH.cons (o := { dst := some 111, op := Op.fieldAddr 33 (Operand.tmp 6) 1, type := 0, pos := _, after := #[{ on := 0, ground := Ground.phase }, { on := 1, ground := Ground.phase }, { on := 2, ground := Ground.phase }, { on := 3, ground := Ground.phase }, { on := 4, ground := Ground.phase }, { on := 5, ground := Ground.phase }, { on := 6, ground := Ground.phase }], guard := none }) rfl (fun K hK => ?_) AllReadyH.nil
                go_simp
                refine hK.out _ _ ?_ (fun hHeld => ?_)
                · trivial
                clear hK K
                try simp only [Act.put, List.setIfInBounds_toArray, List.set_cons_zero, List.set_cons_succ]
                refine wpAnyH_ready (rs := [8]) (by kernel_rfl) (by simp) ?_
                refine AllReadyH.cons (o := { dst := none, op := Op.store 31 (Operand.tmp 111) (Operand.tmp 110), type := 0, pos := _, after := #[{ on := 7, ground := Ground.data }, { on := 6, ground := Ground.data }, { on := 6, ground := Ground.chain }, { on := 0, ground := Ground.phase }, { on := 1, ground := Ground.phase }, { on := 2, ground := Ground.phase }, { on := 3, ground := Ground.phase }, { on := 4, ground := Ground.phase }, { on := 5, ground := Ground.phase }, { on := 6, ground := Ground.phase }], guard := none }) rfl (fun K hK => ?_) AllReadyH.nil
                go_simp
                refine hK.out _ _ ?_ (fun hHeld => ?_)
                · trivial
                clear hK K
                try simp only [Act.put, List.setIfInBounds_toArray, List.set_cons_zero, List.set_cons_succ]
                refine wpAnyH_done (by kernel_rfl) ?_ _
                have W12 := Lib.hid (W10.out.blk (b := ⟨A9, c9, natI (ipL D4 4), (blockT D4 tn : Int), tf, ti⟩) (by simp only [natI_length]; exact HBR.out) (by simp only [BL.cells, natI_length]; exact HW11.out) HG11.out)
                clear k11 f11 p9 p10 p1 n0 n1 n2 n3 m0 m1 m2 hHeld
                go_wp2_with fail
                go_roundw
                case rel => exact ⟨k + 1, _, _, _, by omega, by go_num, W12.out, by rw [List.map_append, HP.out, List.range_succ, List.map_append, List.map_singleton, List.map_singleton, HBD.out, HD.out]; rfl⟩
                case measure => simp [intOf]; omega
              · skip
                go_simp
                refine hK.out _ _ ?_ (fun hHeld => ?_)
                · trivial
                clear hK K
                try simp only [Act.put, List.setIfInBounds_toArray, List.set_cons_zero, List.set_cons_succ]
                refine wpAnyH_ready (rs := [2]) (by kernel_rfl) (by simp) ?_
                refine AllReadyH.cons (o := { dst := some 106, op := Op.load 61 (Operand.tmp 12), type := 61, pos := _, after := #[], guard := none }) rfl (fun K hK => ?_) AllReadyH.nil
                go_simp
                refine hK.out _ _ ?_ (fun hHeld => ?_)
                · trivial
                clear hK K
                try simp only [Act.put, List.setIfInBounds_toArray, List.set_cons_zero, List.set_cons_succ]
                refine wpAnyH_ready (rs := [4]) (by kernel_rfl) (by simp) ?_
                refine AllReadyH.cons (o := { dst := some 108, op := Op.call { callee := Callee.value (Operand.func 28), args := #[Operand.tmp 106, Operand.tmp 107], argTypes := #[61, 64] }, type := 67, pos := _, after := #[{ on := 2, ground := Ground.data }, { on := 3, ground := Ground.data }], guard := none }) rfl (fun K hK => ?_) AllReadyH.nil
                go_simp
                with_reducible refine (HBK.out _).mono ?_
                rintro e w9 ⟨A9, c9, rfl, hb9, ho9⟩
                have hb9 := below_of_drew hb9
                have W9 := Lib.hid (W8.out.keep hb9)
                have ho9 := Lib.hid ho9
                have p9 : w9.cell? ⟨w1.heap.size, 1, none⟩ = some (.slice AB bs.length cB) := W9.out.pk.cell 1
                have p10 : (w9.alloc (.cells #[.slice A9 (ipL D4 4).length c9, .int .i64 (blockT D4 tn : Int), .bool tf, .bool ti] 67)).cell? ⟨w1.heap.size, 1, none⟩ = some (.slice AB bs.length cB) := (W9.out.pk.alloc _).cell 1
                have hz10 := W9.out.lt
                have hz11 := hb9.size
                clear hb9
                refine hK.out _ _ ?_ (fun hHeld => ?_)
                · trivial
                clear hK K
                try simp only [Act.put, List.setIfInBounds_toArray, List.set_cons_zero, List.set_cons_succ]
                refine wpAnyH_ready (rs := [5]) (by kernel_rfl) (by simp) ?_
                refine AllReadyH.cons (o := { dst := some 109, op := Op.buildSlice 31 1 #[(0, Operand.tmp 108)], type := 31, pos := _, after := #[{ on := 4, ground := Ground.data }], guard := none }) rfl (fun K hK => ?_) AllReadyH.nil
                go_simp
                refine hK.out _ _ ?_ (fun hHeld => ?_)
                · trivial
                clear hK K
                try simp only [Act.put, List.setIfInBounds_toArray, List.set_cons_zero, List.set_cons_succ]
                refine wpAnyH_ready (rs := [6]) (by kernel_rfl) (by simp) ?_
                refine AllReadyH.cons (o := { dst := some 110, op := Op.call { callee := Callee.builtin Builtin.append, args := #[Operand.tmp 105, Operand.tmp 109], argTypes := #[31, 31] }, type := 31, pos := _, after := #[{ on := 1, ground := Ground.data }, { on := 5, ground := Ground.data }, { on := 4, ground := Ground.chain }], guard := none }) rfl (fun K hK => ?_) AllReadyH.nil
                have hbr := (own_base_le ho9.out (base' := w1.heap.size + 1) (show w1.heap.size + 1 ≤ wr.heap.size by omega)).alloc (.cells #[.slice A9 (ipL D4 4).length c9, .int .i64 (blockT D4 tn : Int), .bool tf, .bool ti] 67)
                have W10 := Lib.hid (W9.out.keep (below_new w9 (.cells #[.slice A9 (ipL D4 4).length c9, .int .i64 (blockT D4 tn : Int), .bool tf, .bool ti] 67)))
                refine step_append_lies _ (by rfl) (.tmp 105) (.tmp 109) 31 (by rfl) (w1.heap.size + 1) 67 j0 (.agg #[.slice none 0 0, .int .i64 0, .bool false, .bool false]) 4 40 Tryz.underlying31 HJ0.out HY0.out HY1.out HY2.out rfl (by decide) (.slice AB bs.length cB) bs.length (blocks4 bs) (by rfl) W10.out.blocks ⟨w9.heap.size, 0, none⟩ 1 1 [.slice A9 (ipL D4 4).length c9, .int .i64 (blockT D4 tn : Int), .bool tf, .bool ti] (by rfl) rfl (new_cells w9 _ _) (by intro u hu; simp at hu; rcases hu with rfl | rfl | rfl | rfl <;> rfl) (by decide) (by unfold maxLen; omega) (by omega) (by simp; omega) (w9.heap.size + 1) (by simp) ?_
                intro g11 cap11 w11 hown11 hg11 hat11 hlt11
                have hg11' : (w9.alloc (.cells #[.slice A9 (ipL D4 4).length c9, .int .i64 (blockT D4 tn : Int), .bool tf, .bool ti] 67)).grownBy w11 (Value.slice AB bs.length cB).ownBlock := ⟨hg11.os, hg11.tape, hg11.output, hg11.size, hg11.block⟩
                have B11 := W10.out.pk.grown hg11' (fun e => own_other W10.out.blocks W10.out.pk (by decide) e.symm)
                have k11 : w11.cell? ⟨w1.heap.size, 1, none⟩ = some (.slice AB bs.length cB) := B11.cell 1
                have f11 := B11.free 1
                have HBR := Lib.hid hbr
                have HW11 := Lib.hid hown11
                have HG11 := Lib.hid hg11'
                clear hbr hown11 hg11 hg11' hat11 hlt11 B11
                refine hK.out _ _ ?_ (fun hHeld => ?_)
                · trivial
                clear hK K
                try simp only [Act.put, List.setIfInBounds_toArray, List.set_cons_zero, List.set_cons_succ]
                refine wpAnyH_ready (rs := [7]) (by kernel_rfl) (by simp) ?_
                refine AllReadyH.cons (o := { dst := some 111, op := Op.fieldAddr 33 (Operand.tmp 6) 1, type := 0, pos := _, after := #[{ on := 0, ground := Ground.phase }, { on := 1, ground := Ground.phase }, { on := 2, ground := Ground.phase }, { on := 3, ground := Ground.phase }, { on := 4, ground := Ground.phase }, { on := 5, ground := Ground.phase }, { on := 6, ground := Ground.phase }], guard := none }) rfl (fun K hK => ?_) AllReadyH.nil
                go_simp
                refine hK.out _ _ ?_ (fun hHeld => ?_)
                · trivial
                clear hK K
                try simp only [Act.put, List.setIfInBounds_toArray, List.set_cons_zero, List.set_cons_succ]
                refine wpAnyH_ready (rs := [8]) (by kernel_rfl) (by simp) ?_
                refine AllReadyH.cons (o := { dst := none, op := Op.store 31 (Operand.tmp 111) (Operand.tmp 110), type := 0, pos := _, after := #[{ on := 7, ground := Ground.data }, { on := 6, ground := Ground.data }, { on := 6, ground := Ground.chain }, { on := 0, ground := Ground.phase }, { on := 1, ground := Ground.phase }, { on := 2, ground := Ground.phase }, { on := 3, ground := Ground.phase }, { on := 4, ground := Ground.phase }, { on := 5, ground := Ground.phase }, { on := 6, ground := Ground.phase }], guard := none }) rfl (fun K hK => ?_) AllReadyH.nil
                go_simp
                refine hK.out _ _ ?_ (fun hHeld => ?_)
                · trivial
                clear hK K
                try simp only [Act.put, List.setIfInBounds_toArray, List.set_cons_zero, List.set_cons_succ]
                refine wpAnyH_done (by kernel_rfl) ?_ _
                have W12 := Lib.hid (W10.out.blk (b := ⟨A9, c9, natI (ipL D4 4), (blockT D4 tn : Int), tf, ti⟩) (by simp only [natI_length]; exact HBR.out) (by simp only [BL.cells, natI_length]; exact HW11.out) HG11.out)
                clear k11 f11 p9 p10 p1 n0 n1 n2 n3 m0 m1 m2 hHeld
                go_wp2_with fail
                go_roundw
                case rel => exact ⟨k + 1, _, _, _, by omega, by go_num, W12.out, by rw [List.map_append, HP.out, List.range_succ, List.map_append, List.map_singleton, List.map_singleton, HBD.out, HD.out]; rfl⟩
                case measure => simp [intOf]; omega
            · skip
              go_simp
              refine hK.out _ _ ?_ (fun hHeld => ?_)
              · trivial
              clear hK K
              try simp only [Act.put, List.setIfInBounds_toArray, List.set_cons_zero, List.set_cons_succ]
              refine wpAnyH_ready (rs := [1, 3]) (by kernel_rfl) (by simp) ?_
              refine AllReadyH.cons (o := { dst := some 105, op := Op.load 31 (Operand.tmp 104), type := 31, pos := _, after := #[{ on := 0, ground := Ground.data }], guard := none }) rfl (fun K hK => ?_) (AllReadyH.cons (o := { dst := some 107, op := Op.load 64 (Operand.tmp 15), type := 64, pos := _, after := #[], guard := none }) rfl (fun K hK => ?_) AllReadyH.nil)
              · skip
                go_simp
                refine hK.out _ _ ?_ (fun hHeld => ?_)
                · trivial
                clear hK K
                try simp only [Act.put, List.setIfInBounds_toArray, List.set_cons_zero, List.set_cons_succ]
                refine wpAnyH_ready (rs := [3]) (by kernel_rfl) (by simp) ?_
                refine AllReadyH.cons (o := { dst := some 107, op := Op.load 64 (Operand.tmp 15), type := 64, pos := _, after := #[], guard := none }) rfl (fun K hK => ?_) AllReadyH.nil
                go_simp
                refine hK.out _ _ ?_ (fun hHeld => ?_)
                · trivial
                clear hK K
                try simp only [Act.put, List.setIfInBounds_toArray, List.set_cons_zero, List.set_cons_succ]
                refine wpAnyH_ready (rs := [4]) (by kernel_rfl) (by simp) ?_
                refine AllReadyH.cons (o := { dst := some 108, op := Op.call { callee := Callee.value (Operand.func 28), args := #[Operand.tmp 106, Operand.tmp 107], argTypes := #[61, 64] }, type := 67, pos := _, after := #[{ on := 2, ground := Ground.data }, { on := 3, ground := Ground.data }], guard := none }) rfl (fun K hK => ?_) AllReadyH.nil
                go_simp
                with_reducible refine (HBK.out _).mono ?_
                rintro e w9 ⟨A9, c9, rfl, hb9, ho9⟩
                have hb9 := below_of_drew hb9
                have W9 := Lib.hid (W8.out.keep hb9)
                have ho9 := Lib.hid ho9
                have p9 : w9.cell? ⟨w1.heap.size, 1, none⟩ = some (.slice AB bs.length cB) := W9.out.pk.cell 1
                have p10 : (w9.alloc (.cells #[.slice A9 (ipL D4 4).length c9, .int .i64 (blockT D4 tn : Int), .bool tf, .bool ti] 67)).cell? ⟨w1.heap.size, 1, none⟩ = some (.slice AB bs.length cB) := (W9.out.pk.alloc _).cell 1
                have hz10 := W9.out.lt
                have hz11 := hb9.size
                clear hb9
                refine hK.out _ _ ?_ (fun hHeld => ?_)
                · trivial
                clear hK K
                try simp only [Act.put, List.setIfInBounds_toArray, List.set_cons_zero, List.set_cons_succ]
                refine wpAnyH_ready (rs := [5]) (by kernel_rfl) (by simp) ?_
                refine AllReadyH.cons (o := { dst := some 109, op := Op.buildSlice 31 1 #[(0, Operand.tmp 108)], type := 31, pos := _, after := #[{ on := 4, ground := Ground.data }], guard := none }) rfl (fun K hK => ?_) AllReadyH.nil
                go_simp
                refine hK.out _ _ ?_ (fun hHeld => ?_)
                · trivial
                clear hK K
                try simp only [Act.put, List.setIfInBounds_toArray, List.set_cons_zero, List.set_cons_succ]
                refine wpAnyH_ready (rs := [6]) (by kernel_rfl) (by simp) ?_
                refine AllReadyH.cons (o := { dst := some 110, op := Op.call { callee := Callee.builtin Builtin.append, args := #[Operand.tmp 105, Operand.tmp 109], argTypes := #[31, 31] }, type := 31, pos := _, after := #[{ on := 1, ground := Ground.data }, { on := 5, ground := Ground.data }, { on := 4, ground := Ground.chain }], guard := none }) rfl (fun K hK => ?_) AllReadyH.nil
                have hbr := (own_base_le ho9.out (base' := w1.heap.size + 1) (show w1.heap.size + 1 ≤ wr.heap.size by omega)).alloc (.cells #[.slice A9 (ipL D4 4).length c9, .int .i64 (blockT D4 tn : Int), .bool tf, .bool ti] 67)
                have W10 := Lib.hid (W9.out.keep (below_new w9 (.cells #[.slice A9 (ipL D4 4).length c9, .int .i64 (blockT D4 tn : Int), .bool tf, .bool ti] 67)))
                refine step_append_lies _ (by rfl) (.tmp 105) (.tmp 109) 31 (by rfl) (w1.heap.size + 1) 67 j0 (.agg #[.slice none 0 0, .int .i64 0, .bool false, .bool false]) 4 40 Tryz.underlying31 HJ0.out HY0.out HY1.out HY2.out rfl (by decide) (.slice AB bs.length cB) bs.length (blocks4 bs) (by rfl) W10.out.blocks ⟨w9.heap.size, 0, none⟩ 1 1 [.slice A9 (ipL D4 4).length c9, .int .i64 (blockT D4 tn : Int), .bool tf, .bool ti] (by rfl) rfl (new_cells w9 _ _) (by intro u hu; simp at hu; rcases hu with rfl | rfl | rfl | rfl <;> rfl) (by decide) (by unfold maxLen; omega) (by omega) (by simp; omega) (w9.heap.size + 1) (by simp) ?_
                intro g11 cap11 w11 hown11 hg11 hat11 hlt11
                have hg11' : (w9.alloc (.cells #[.slice A9 (ipL D4 4).length c9, .int .i64 (blockT D4 tn : Int), .bool tf, .bool ti] 67)).grownBy w11 (Value.slice AB bs.length cB).ownBlock := ⟨hg11.os, hg11.tape, hg11.output, hg11.size, hg11.block⟩
                have B11 := W10.out.pk.grown hg11' (fun e => own_other W10.out.blocks W10.out.pk (by decide) e.symm)
                have k11 : w11.cell? ⟨w1.heap.size, 1, none⟩ = some (.slice AB bs.length cB) := B11.cell 1
                have f11 := B11.free 1
                have HBR := Lib.hid hbr
                have HW11 := Lib.hid hown11
                have HG11 := Lib.hid hg11'
                clear hbr hown11 hg11 hg11' hat11 hlt11 B11
                refine hK.out _ _ ?_ (fun hHeld => ?_)
                · trivial
                clear hK K
                try simp only [Act.put, List.setIfInBounds_toArray, List.set_cons_zero, List.set_cons_succ]
                refine wpAnyH_ready (rs := [7]) (by kernel_rfl) (by simp) ?_
                refine AllReadyH.cons (o := { dst := some 111, op := Op.fieldAddr 33 (Operand.tmp 6) 1, type := 0, pos := _, after := #[{ on := 0, ground := Ground.phase }, { on := 1, ground := Ground.phase }, { on := 2, ground := Ground.phase }, { on := 3, ground := Ground.phase }, { on := 4, ground := Ground.phase }, { on := 5, ground := Ground.phase }, { on := 6, ground := Ground.phase }], guard := none }) rfl (fun K hK => ?_) AllReadyH.nil
                go_simp
                refine hK.out _ _ ?_ (fun hHeld => ?_)
                · trivial
                clear hK K
                try simp only [Act.put, List.setIfInBounds_toArray, List.set_cons_zero, List.set_cons_succ]
                refine wpAnyH_ready (rs := [8]) (by kernel_rfl) (by simp) ?_
                refine AllReadyH.cons (o := { dst := none, op := Op.store 31 (Operand.tmp 111) (Operand.tmp 110), type := 0, pos := _, after := #[{ on := 7, ground := Ground.data }, { on := 6, ground := Ground.data }, { on := 6, ground := Ground.chain }, { on := 0, ground := Ground.phase }, { on := 1, ground := Ground.phase }, { on := 2, ground := Ground.phase }, { on := 3, ground := Ground.phase }, { on := 4, ground := Ground.phase }, { on := 5, ground := Ground.phase }, { on := 6, ground := Ground.phase }], guard := none }) rfl (fun K hK => ?_) AllReadyH.nil
                go_simp
                refine hK.out _ _ ?_ (fun hHeld => ?_)
                · trivial
                clear hK K
                try simp only [Act.put, List.setIfInBounds_toArray, List.set_cons_zero, List.set_cons_succ]
                refine wpAnyH_done (by kernel_rfl) ?_ _
                have W12 := Lib.hid (W10.out.blk (b := ⟨A9, c9, natI (ipL D4 4), (blockT D4 tn : Int), tf, ti⟩) (by simp only [natI_length]; exact HBR.out) (by simp only [BL.cells, natI_length]; exact HW11.out) HG11.out)
                clear k11 f11 p9 p10 p1 n0 n1 n2 n3 m0 m1 m2 hHeld
                go_wp2_with fail
                go_roundw
                case rel => exact ⟨k + 1, _, _, _, by omega, by go_num, W12.out, by rw [List.map_append, HP.out, List.range_succ, List.map_append, List.map_singleton, List.map_singleton, HBD.out, HD.out]; rfl⟩
                case measure => simp [intOf]; omega
              · skip
                go_simp
                refine hK.out _ _ ?_ (fun hHeld => ?_)
                · trivial
                clear hK K
                try simp only [Act.put, List.setIfInBounds_toArray, List.set_cons_zero, List.set_cons_succ]
                refine wpAnyH_ready (rs := [1, 4]) (by kernel_rfl) (by simp) ?_
                refine AllReadyH.cons (o := { dst := some 105, op := Op.load 31 (Operand.tmp 104), type := 31, pos := _, after := #[{ on := 0, ground := Ground.data }], guard := none }) rfl (fun K hK => ?_) (AllReadyH.cons (o := { dst := some 108, op := Op.call { callee := Callee.value (Operand.func 28), args := #[Operand.tmp 106, Operand.tmp 107], argTypes := #[61, 64] }, type := 67, pos := _, after := #[{ on := 2, ground := Ground.data }, { on := 3, ground := Ground.data }], guard := none }) rfl (fun K hK => ?_) AllReadyH.nil)
                · skip
                  go_simp
                  refine hK.out _ _ ?_ (fun hHeld => ?_)
                  · trivial
                  clear hK K
                  try simp only [Act.put, List.setIfInBounds_toArray, List.set_cons_zero, List.set_cons_succ]
                  refine wpAnyH_ready (rs := [4]) (by kernel_rfl) (by simp) ?_
                  refine AllReadyH.cons (o := { dst := some 108, op := Op.call { callee := Callee.value (Operand.func 28), args := #[Operand.tmp 106, Operand.tmp 107], argTypes := #[61, 64] }, type := 67, pos := _, after := #[{ on := 2, ground := Ground.data }, { on := 3, ground := Ground.data }], guard := none }) rfl (fun K hK => ?_) AllReadyH.nil
                  go_simp
                  with_reducible refine (HBK.out _).mono ?_
                  rintro e w9 ⟨A9, c9, rfl, hb9, ho9⟩
                  have hb9 := below_of_drew hb9
                  have W9 := Lib.hid (W8.out.keep hb9)
                  have ho9 := Lib.hid ho9
                  have p9 : w9.cell? ⟨w1.heap.size, 1, none⟩ = some (.slice AB bs.length cB) := W9.out.pk.cell 1
                  have p10 : (w9.alloc (.cells #[.slice A9 (ipL D4 4).length c9, .int .i64 (blockT D4 tn : Int), .bool tf, .bool ti] 67)).cell? ⟨w1.heap.size, 1, none⟩ = some (.slice AB bs.length cB) := (W9.out.pk.alloc _).cell 1
                  have hz10 := W9.out.lt
                  have hz11 := hb9.size
                  clear hb9
                  refine hK.out _ _ ?_ (fun hHeld => ?_)
                  · trivial
                  clear hK K
                  try simp only [Act.put, List.setIfInBounds_toArray, List.set_cons_zero, List.set_cons_succ]
                  refine wpAnyH_ready (rs := [5]) (by kernel_rfl) (by simp) ?_
                  refine AllReadyH.cons (o := { dst := some 109, op := Op.buildSlice 31 1 #[(0, Operand.tmp 108)], type := 31, pos := _, after := #[{ on := 4, ground := Ground.data }], guard := none }) rfl (fun K hK => ?_) AllReadyH.nil
                  go_simp
                  refine hK.out _ _ ?_ (fun hHeld => ?_)
                  · trivial
                  clear hK K
                  try simp only [Act.put, List.setIfInBounds_toArray, List.set_cons_zero, List.set_cons_succ]
                  refine wpAnyH_ready (rs := [6]) (by kernel_rfl) (by simp) ?_
                  refine AllReadyH.cons (o := { dst := some 110, op := Op.call { callee := Callee.builtin Builtin.append, args := #[Operand.tmp 105, Operand.tmp 109], argTypes := #[31, 31] }, type := 31, pos := _, after := #[{ on := 1, ground := Ground.data }, { on := 5, ground := Ground.data }, { on := 4, ground := Ground.chain }], guard := none }) rfl (fun K hK => ?_) AllReadyH.nil
                  have hbr := (own_base_le ho9.out (base' := w1.heap.size + 1) (show w1.heap.size + 1 ≤ wr.heap.size by omega)).alloc (.cells #[.slice A9 (ipL D4 4).length c9, .int .i64 (blockT D4 tn : Int), .bool tf, .bool ti] 67)
                  have W10 := Lib.hid (W9.out.keep (below_new w9 (.cells #[.slice A9 (ipL D4 4).length c9, .int .i64 (blockT D4 tn : Int), .bool tf, .bool ti] 67)))
                  refine step_append_lies _ (by rfl) (.tmp 105) (.tmp 109) 31 (by rfl) (w1.heap.size + 1) 67 j0 (.agg #[.slice none 0 0, .int .i64 0, .bool false, .bool false]) 4 40 Tryz.underlying31 HJ0.out HY0.out HY1.out HY2.out rfl (by decide) (.slice AB bs.length cB) bs.length (blocks4 bs) (by rfl) W10.out.blocks ⟨w9.heap.size, 0, none⟩ 1 1 [.slice A9 (ipL D4 4).length c9, .int .i64 (blockT D4 tn : Int), .bool tf, .bool ti] (by rfl) rfl (new_cells w9 _ _) (by intro u hu; simp at hu; rcases hu with rfl | rfl | rfl | rfl <;> rfl) (by decide) (by unfold maxLen; omega) (by omega) (by simp; omega) (w9.heap.size + 1) (by simp) ?_
                  intro g11 cap11 w11 hown11 hg11 hat11 hlt11
                  have hg11' : (w9.alloc (.cells #[.slice A9 (ipL D4 4).length c9, .int .i64 (blockT D4 tn : Int), .bool tf, .bool ti] 67)).grownBy w11 (Value.slice AB bs.length cB).ownBlock := ⟨hg11.os, hg11.tape, hg11.output, hg11.size, hg11.block⟩
                  have B11 := W10.out.pk.grown hg11' (fun e => own_other W10.out.blocks W10.out.pk (by decide) e.symm)
                  have k11 : w11.cell? ⟨w1.heap.size, 1, none⟩ = some (.slice AB bs.length cB) := B11.cell 1
                  have f11 := B11.free 1
                  have HBR := Lib.hid hbr
                  have HW11 := Lib.hid hown11
                  have HG11 := Lib.hid hg11'
                  clear hbr hown11 hg11 hg11' hat11 hlt11 B11
                  refine hK.out _ _ ?_ (fun hHeld => ?_)
                  · trivial
                  clear hK K
                  try simp only [Act.put, List.setIfInBounds_toArray, List.set_cons_zero, List.set_cons_succ]
                  refine wpAnyH_ready (rs := [7]) (by kernel_rfl) (by simp) ?_
                  refine AllReadyH.cons (o := { dst := some 111, op := Op.fieldAddr 33 (Operand.tmp 6) 1, type := 0, pos := _, after := #[{ on := 0, ground := Ground.phase }, { on := 1, ground := Ground.phase }, { on := 2, ground := Ground.phase }, { on := 3, ground := Ground.phase }, { on := 4, ground := Ground.phase }, { on := 5, ground := Ground.phase }, { on := 6, ground := Ground.phase }], guard := none }) rfl (fun K hK => ?_) AllReadyH.nil
                  go_simp
                  refine hK.out _ _ ?_ (fun hHeld => ?_)
                  · trivial
                  clear hK K
                  try simp only [Act.put, List.setIfInBounds_toArray, List.set_cons_zero, List.set_cons_succ]
                  refine wpAnyH_ready (rs := [8]) (by kernel_rfl) (by simp) ?_
                  refine AllReadyH.cons (o := { dst := none, op := Op.store 31 (Operand.tmp 111) (Operand.tmp 110), type := 0, pos := _, after := #[{ on := 7, ground := Ground.data }, { on := 6, ground := Ground.data }, { on := 6, ground := Ground.chain }, { on := 0, ground := Ground.phase }, { on := 1, ground := Ground.phase }, { on := 2, ground := Ground.phase }, { on := 3, ground := Ground.phase }, { on := 4, ground := Ground.phase }, { on := 5, ground := Ground.phase }, { on := 6, ground := Ground.phase }], guard := none }) rfl (fun K hK => ?_) AllReadyH.nil
                  go_simp
                  refine hK.out _ _ ?_ (fun hHeld => ?_)
                  · trivial
                  clear hK K
                  try simp only [Act.put, List.setIfInBounds_toArray, List.set_cons_zero, List.set_cons_succ]
                  refine wpAnyH_done (by kernel_rfl) ?_ _
                  have W12 := Lib.hid (W10.out.blk (b := ⟨A9, c9, natI (ipL D4 4), (blockT D4 tn : Int), tf, ti⟩) (by simp only [natI_length]; exact HBR.out) (by simp only [BL.cells, natI_length]; exact HW11.out) HG11.out)
                  clear k11 f11 p9 p10 p1 n0 n1 n2 n3 m0 m1 m2 hHeld
                  go_wp2_with fail
                  go_roundw
                  case rel => exact ⟨k + 1, _, _, _, by omega, by go_num, W12.out, by rw [List.map_append, HP.out, List.range_succ, List.map_append, List.map_singleton, List.map_singleton, HBD.out, HD.out]; rfl⟩
                  case measure => simp [intOf]; omega
                · skip
                  go_simp
                  with_reducible refine (HBK.out _).mono ?_
                  rintro e w9 ⟨A9, c9, rfl, hb9, ho9⟩
                  have hb9 := below_of_drew hb9
                  have W9 := Lib.hid (W8.out.keep hb9)
                  have ho9 := Lib.hid ho9
                  have p9 : w9.cell? ⟨w1.heap.size, 1, none⟩ = some (.slice AB bs.length cB) := W9.out.pk.cell 1
                  have p10 : (w9.alloc (.cells #[.slice A9 (ipL D4 4).length c9, .int .i64 (blockT D4 tn : Int), .bool tf, .bool ti] 67)).cell? ⟨w1.heap.size, 1, none⟩ = some (.slice AB bs.length cB) := (W9.out.pk.alloc _).cell 1
                  have hz10 := W9.out.lt
                  have hz11 := hb9.size
                  clear hb9
                  refine hK.out _ _ ?_ (fun hHeld => ?_)
                  · trivial
                  clear hK K
                  try simp only [Act.put, List.setIfInBounds_toArray, List.set_cons_zero, List.set_cons_succ]
                  refine wpAnyH_ready (rs := [1, 5]) (by kernel_rfl) (by simp) ?_
                  refine AllReadyH.cons (o := { dst := some 105, op := Op.load 31 (Operand.tmp 104), type := 31, pos := _, after := #[{ on := 0, ground := Ground.data }], guard := none }) rfl (fun K hK => ?_) (AllReadyH.cons (o := { dst := some 109, op := Op.buildSlice 31 1 #[(0, Operand.tmp 108)], type := 31, pos := _, after := #[{ on := 4, ground := Ground.data }], guard := none }) rfl (fun K hK => ?_) AllReadyH.nil)
                  · skip
                    go_simp
                    refine hK.out _ _ ?_ (fun hHeld => ?_)
                    · trivial
                    clear hK K
                    try simp only [Act.put, List.setIfInBounds_toArray, List.set_cons_zero, List.set_cons_succ]
                    refine wpAnyH_ready (rs := [5]) (by kernel_rfl) (by simp) ?_
                    refine AllReadyH.cons (o := { dst := some 109, op := Op.buildSlice 31 1 #[(0, Operand.tmp 108)], type := 31, pos := _, after := #[{ on := 4, ground := Ground.data }], guard := none }) rfl (fun K hK => ?_) AllReadyH.nil
                    go_simp
                    refine hK.out _ _ ?_ (fun hHeld => ?_)
                    · trivial
                    clear hK K
                    try simp only [Act.put, List.setIfInBounds_toArray, List.set_cons_zero, List.set_cons_succ]
                    refine wpAnyH_ready (rs := [6]) (by kernel_rfl) (by simp) ?_
                    refine AllReadyH.cons (o := { dst := some 110, op := Op.call { callee := Callee.builtin Builtin.append, args := #[Operand.tmp 105, Operand.tmp 109], argTypes := #[31, 31] }, type := 31, pos := _, after := #[{ on := 1, ground := Ground.data }, { on := 5, ground := Ground.data }, { on := 4, ground := Ground.chain }], guard := none }) rfl (fun K hK => ?_) AllReadyH.nil
                    have hbr := (own_base_le ho9.out (base' := w1.heap.size + 1) (show w1.heap.size + 1 ≤ wr.heap.size by omega)).alloc (.cells #[.slice A9 (ipL D4 4).length c9, .int .i64 (blockT D4 tn : Int), .bool tf, .bool ti] 67)
                    have W10 := Lib.hid (W9.out.keep (below_new w9 (.cells #[.slice A9 (ipL D4 4).length c9, .int .i64 (blockT D4 tn : Int), .bool tf, .bool ti] 67)))
                    refine step_append_lies _ (by rfl) (.tmp 105) (.tmp 109) 31 (by rfl) (w1.heap.size + 1) 67 j0 (.agg #[.slice none 0 0, .int .i64 0, .bool false, .bool false]) 4 40 Tryz.underlying31 HJ0.out HY0.out HY1.out HY2.out rfl (by decide) (.slice AB bs.length cB) bs.length (blocks4 bs) (by rfl) W10.out.blocks ⟨w9.heap.size, 0, none⟩ 1 1 [.slice A9 (ipL D4 4).length c9, .int .i64 (blockT D4 tn : Int), .bool tf, .bool ti] (by rfl) rfl (new_cells w9 _ _) (by intro u hu; simp at hu; rcases hu with rfl | rfl | rfl | rfl <;> rfl) (by decide) (by unfold maxLen; omega) (by omega) (by simp; omega) (w9.heap.size + 1) (by simp) ?_
                    intro g11 cap11 w11 hown11 hg11 hat11 hlt11
                    have hg11' : (w9.alloc (.cells #[.slice A9 (ipL D4 4).length c9, .int .i64 (blockT D4 tn : Int), .bool tf, .bool ti] 67)).grownBy w11 (Value.slice AB bs.length cB).ownBlock := ⟨hg11.os, hg11.tape, hg11.output, hg11.size, hg11.block⟩
                    have B11 := W10.out.pk.grown hg11' (fun e => own_other W10.out.blocks W10.out.pk (by decide) e.symm)
                    have k11 : w11.cell? ⟨w1.heap.size, 1, none⟩ = some (.slice AB bs.length cB) := B11.cell 1
                    have f11 := B11.free 1
                    have HBR := Lib.hid hbr
                    have HW11 := Lib.hid hown11
                    have HG11 := Lib.hid hg11'
                    clear hbr hown11 hg11 hg11' hat11 hlt11 B11
                    refine hK.out _ _ ?_ (fun hHeld => ?_)
                    · trivial
                    clear hK K
                    try simp only [Act.put, List.setIfInBounds_toArray, List.set_cons_zero, List.set_cons_succ]
                    refine wpAnyH_ready (rs := [7]) (by kernel_rfl) (by simp) ?_
                    refine AllReadyH.cons (o := { dst := some 111, op := Op.fieldAddr 33 (Operand.tmp 6) 1, type := 0, pos := _, after := #[{ on := 0, ground := Ground.phase }, { on := 1, ground := Ground.phase }, { on := 2, ground := Ground.phase }, { on := 3, ground := Ground.phase }, { on := 4, ground := Ground.phase }, { on := 5, ground := Ground.phase }, { on := 6, ground := Ground.phase }], guard := none }) rfl (fun K hK => ?_) AllReadyH.nil
                    go_simp
                    refine hK.out _ _ ?_ (fun hHeld => ?_)
                    · trivial
                    clear hK K
                    try simp only [Act.put, List.setIfInBounds_toArray, List.set_cons_zero, List.set_cons_succ]
                    refine wpAnyH_ready (rs := [8]) (by kernel_rfl) (by simp) ?_
                    refine AllReadyH.cons (o := { dst := none, op := Op.store 31 (Operand.tmp 111) (Operand.tmp 110), type := 0, pos := _, after := #[{ on := 7, ground := Ground.data }, { on := 6, ground := Ground.data }, { on := 6, ground := Ground.chain }, { on := 0, ground := Ground.phase }, { on := 1, ground := Ground.phase }, { on := 2, ground := Ground.phase }, { on := 3, ground := Ground.phase }, { on := 4, ground := Ground.phase }, { on := 5, ground := Ground.phase }, { on := 6, ground := Ground.phase }], guard := none }) rfl (fun K hK => ?_) AllReadyH.nil
                    go_simp
                    refine hK.out _ _ ?_ (fun hHeld => ?_)
                    · trivial
                    clear hK K
                    try simp only [Act.put, List.setIfInBounds_toArray, List.set_cons_zero, List.set_cons_succ]
                    refine wpAnyH_done (by kernel_rfl) ?_ _
                    have W12 := Lib.hid (W10.out.blk (b := ⟨A9, c9, natI (ipL D4 4), (blockT D4 tn : Int), tf, ti⟩) (by simp only [natI_length]; exact HBR.out) (by simp only [BL.cells, natI_length]; exact HW11.out) HG11.out)
                    clear k11 f11 p9 p10 p1 n0 n1 n2 n3 m0 m1 m2 hHeld
                    go_wp2_with fail
                    go_roundw
                    case rel => exact ⟨k + 1, _, _, _, by omega, by go_num, W12.out, by rw [List.map_append, HP.out, List.range_succ, List.map_append, List.map_singleton, List.map_singleton, HBD.out, HD.out]; rfl⟩
                    case measure => simp [intOf]; omega
                  · skip
                    go_simp
                    refine hK.out _ _ ?_ (fun hHeld => ?_)
                    · trivial
                    clear hK K
                    try simp only [Act.put, List.setIfInBounds_toArray, List.set_cons_zero, List.set_cons_succ]
                    refine wpAnyH_ready (rs := [1]) (by kernel_rfl) (by simp) ?_
                    refine AllReadyH.cons (o := { dst := some 105, op := Op.load 31 (Operand.tmp 104), type := 31, pos := _, after := #[{ on := 0, ground := Ground.data }], guard := none }) rfl (fun K hK => ?_) AllReadyH.nil
                    go_simp
                    refine hK.out _ _ ?_ (fun hHeld => ?_)
                    · trivial
                    clear hK K
                    try simp only [Act.put, List.setIfInBounds_toArray, List.set_cons_zero, List.set_cons_succ]
                    refine wpAnyH_ready (rs := [6]) (by kernel_rfl) (by simp) ?_
                    refine AllReadyH.cons (o := { dst := some 110, op := Op.call { callee := Callee.builtin Builtin.append, args := #[Operand.tmp 105, Operand.tmp 109], argTypes := #[31, 31] }, type := 31, pos := _, after := #[{ on := 1, ground := Ground.data }, { on := 5, ground := Ground.data }, { on := 4, ground := Ground.chain }], guard := none }) rfl (fun K hK => ?_) AllReadyH.nil
                    have hbr := (own_base_le ho9.out (base' := w1.heap.size + 1) (show w1.heap.size + 1 ≤ wr.heap.size by omega)).alloc (.cells #[.slice A9 (ipL D4 4).length c9, .int .i64 (blockT D4 tn : Int), .bool tf, .bool ti] 67)
                    have W10 := Lib.hid (W9.out.keep (below_new w9 (.cells #[.slice A9 (ipL D4 4).length c9, .int .i64 (blockT D4 tn : Int), .bool tf, .bool ti] 67)))
                    refine step_append_lies _ (by rfl) (.tmp 105) (.tmp 109) 31 (by rfl) (w1.heap.size + 1) 67 j0 (.agg #[.slice none 0 0, .int .i64 0, .bool false, .bool false]) 4 40 Tryz.underlying31 HJ0.out HY0.out HY1.out HY2.out rfl (by decide) (.slice AB bs.length cB) bs.length (blocks4 bs) (by rfl) W10.out.blocks ⟨w9.heap.size, 0, none⟩ 1 1 [.slice A9 (ipL D4 4).length c9, .int .i64 (blockT D4 tn : Int), .bool tf, .bool ti] (by rfl) rfl (new_cells w9 _ _) (by intro u hu; simp at hu; rcases hu with rfl | rfl | rfl | rfl <;> rfl) (by decide) (by unfold maxLen; omega) (by omega) (by simp; omega) (w9.heap.size + 1) (by simp) ?_
                    intro g11 cap11 w11 hown11 hg11 hat11 hlt11
                    have hg11' : (w9.alloc (.cells #[.slice A9 (ipL D4 4).length c9, .int .i64 (blockT D4 tn : Int), .bool tf, .bool ti] 67)).grownBy w11 (Value.slice AB bs.length cB).ownBlock := ⟨hg11.os, hg11.tape, hg11.output, hg11.size, hg11.block⟩
                    have B11 := W10.out.pk.grown hg11' (fun e => own_other W10.out.blocks W10.out.pk (by decide) e.symm)
                    have k11 : w11.cell? ⟨w1.heap.size, 1, none⟩ = some (.slice AB bs.length cB) := B11.cell 1
                    have f11 := B11.free 1
                    have HBR := Lib.hid hbr
                    have HW11 := Lib.hid hown11
                    have HG11 := Lib.hid hg11'
                    clear hbr hown11 hg11 hg11' hat11 hlt11 B11
                    refine hK.out _ _ ?_ (fun hHeld => ?_)
                    · trivial
                    clear hK K
                    try simp only [Act.put, List.setIfInBounds_toArray, List.set_cons_zero, List.set_cons_succ]
                    refine wpAnyH_ready (rs := [7]) (by kernel_rfl) (by simp) ?_
                    refine AllReadyH.cons (o := { dst := some 111, op := Op.fieldAddr 33 (Operand.tmp 6) 1, type := 0, pos := _, after := #[{ on := 0, ground := Ground.phase }, { on := 1, ground := Ground.phase }, { on := 2, ground := Ground.phase }, { on := 3, ground := Ground.phase }, { on := 4, ground := Ground.phase }, { on := 5, ground := Ground.phase }, { on := 6, ground := Ground.phase }], guard := none }) rfl (fun K hK => ?_) AllReadyH.nil
                    go_simp
                    refine hK.out _ _ ?_ (fun hHeld => ?_)
                    · trivial
                    clear hK K
                    try simp only [Act.put, List.setIfInBounds_toArray, List.set_cons_zero, List.set_cons_succ]
                    refine wpAnyH_ready (rs := [8]) (by kernel_rfl) (by simp) ?_
                    refine AllReadyH.cons (o := { dst := none, op := Op.store 31 (Operand.tmp 111) (Operand.tmp 110), type := 0, pos := _, after := #[{ on := 7, ground := Ground.data }, { on := 6, ground := Ground.data }, { on := 6, ground := Ground.chain }, { on := 0, ground := Ground.phase }, { on := 1, ground := Ground.phase }, { on := 2, ground := Ground.phase }, { on := 3, ground := Ground.phase }, { on := 4, ground := Ground.phase }, { on := 5, ground := Ground.phase }, { on := 6, ground := Ground.phase }], guard := none }) rfl (fun K hK => ?_) AllReadyH.nil
                    go_simp
                    refine hK.out _ _ ?_ (fun hHeld => ?_)
                    · trivial
                    clear hK K
                    try simp only [Act.put, List.setIfInBounds_toArray, List.set_cons_zero, List.set_cons_succ]
                    refine wpAnyH_done (by kernel_rfl) ?_ _
                    have W12 := Lib.hid (W10.out.blk (b := ⟨A9, c9, natI (ipL D4 4), (blockT D4 tn : Int), tf, ti⟩) (by simp only [natI_length]; exact HBR.out) (by simp only [BL.cells, natI_length]; exact HW11.out) HG11.out)
                    clear k11 f11 p9 p10 p1 n0 n1 n2 n3 m0 m1 m2 hHeld
                    go_wp2_with fail
                    go_roundw
                    case rel => exact ⟨k + 1, _, _, _, by omega, by go_num, W12.out, by rw [List.map_append, HP.out, List.range_succ, List.map_append, List.map_singleton, List.map_singleton, HBD.out, HD.out]; rfl⟩
                    case measure => simp [intOf]; omega
            · skip
              go_simp
              refine hK.out _ _ ?_ (fun hHeld => ?_)
              · trivial
              clear hK K
              try simp only [Act.put, List.setIfInBounds_toArray, List.set_cons_zero, List.set_cons_succ]
              refine wpAnyH_ready (rs := [1, 2]) (by kernel_rfl) (by simp) ?_
              refine AllReadyH.cons (o := { dst := some 105, op := Op.load 31 (Operand.tmp 104), type := 31, pos := _, after := #[{ on := 0, ground := Ground.data }], guard := none }) rfl (fun K hK => ?_) (AllReadyH.cons (o := { dst := some 106, op := Op.load 61 (Operand.tmp 12), type := 61, pos := _, after := #[], guard := none }) rfl (fun K hK => ?_) AllReadyH.nil)
              · skip
                go_simp
                refine hK.out _ _ ?_ (fun hHeld => ?_)
                · trivial
                clear hK K
                try simp only [Act.put, List.setIfInBounds_toArray, List.set_cons_zero, List.set_cons_succ]
                refine wpAnyH_ready (rs := [2]) (by kernel_rfl) (by simp) ?_
                refine AllReadyH.cons (o := { dst := some 106, op := Op.load 61 (Operand.tmp 12), type := 61, pos := _, after := #[], guard := none }) rfl (fun K hK => ?_) AllReadyH.nil
                go_simp
                refine hK.out _ _ ?_ (fun hHeld => ?_)
                · trivial
                clear hK K
                try simp only [Act.put, List.setIfInBounds_toArray, List.set_cons_zero, List.set_cons_succ]
                refine wpAnyH_ready (rs := [4]) (by kernel_rfl) (by simp) ?_
                refine AllReadyH.cons (o := { dst := some 108, op := Op.call { callee := Callee.value (Operand.func 28), args := #[Operand.tmp 106, Operand.tmp 107], argTypes := #[61, 64] }, type := 67, pos := _, after := #[{ on := 2, ground := Ground.data }, { on := 3, ground := Ground.data }], guard := none }) rfl (fun K hK => ?_) AllReadyH.nil
                go_simp
                with_reducible refine (HBK.out _).mono ?_
                rintro e w9 ⟨A9, c9, rfl, hb9, ho9⟩
                have hb9 := below_of_drew hb9
                have W9 := Lib.hid (W8.out.keep hb9)
                have ho9 := Lib.hid ho9
                have p9 : w9.cell? ⟨w1.heap.size, 1, none⟩ = some (.slice AB bs.length cB) := W9.out.pk.cell 1
                have p10 : (w9.alloc (.cells #[.slice A9 (ipL D4 4).length c9, .int .i64 (blockT D4 tn : Int), .bool tf, .bool ti] 67)).cell? ⟨w1.heap.size, 1, none⟩ = some (.slice AB bs.length cB) := (W9.out.pk.alloc _).cell 1
                have hz10 := W9.out.lt
                have hz11 := hb9.size
                clear hb9
                refine hK.out _ _ ?_ (fun hHeld => ?_)
                · trivial
                clear hK K
                try simp only [Act.put, List.setIfInBounds_toArray, List.set_cons_zero, List.set_cons_succ]
                refine wpAnyH_ready (rs := [5]) (by kernel_rfl) (by simp) ?_
                refine AllReadyH.cons (o := { dst := some 109, op := Op.buildSlice 31 1 #[(0, Operand.tmp 108)], type := 31, pos := _, after := #[{ on := 4, ground := Ground.data }], guard := none }) rfl (fun K hK => ?_) AllReadyH.nil
                go_simp
                refine hK.out _ _ ?_ (fun hHeld => ?_)
                · trivial
                clear hK K
                try simp only [Act.put, List.setIfInBounds_toArray, List.set_cons_zero, List.set_cons_succ]
                refine wpAnyH_ready (rs := [6]) (by kernel_rfl) (by simp) ?_
                refine AllReadyH.cons (o := { dst := some 110, op := Op.call { callee := Callee.builtin Builtin.append, args := #[Operand.tmp 105, Operand.tmp 109], argTypes := #[31, 31] }, type := 31, pos := _, after := #[{ on := 1, ground := Ground.data }, { on := 5, ground := Ground.data }, { on := 4, ground := Ground.chain }], guard := none }) rfl (fun K hK => ?_) AllReadyH.nil
                have hbr := (own_base_le ho9.out (base' := w1.heap.size + 1) (show w1.heap.size + 1 ≤ wr.heap.size by omega)).alloc (.cells #[.slice A9 (ipL D4 4).length c9, .int .i64 (blockT D4 tn : Int), .bool tf, .bool ti] 67)
                have W10 := Lib.hid (W9.out.keep (below_new w9 (.cells #[.slice A9 (ipL D4 4).length c9, .int .i64 (blockT D4 tn : Int), .bool tf, .bool ti] 67)))
                refine step_append_lies _ (by rfl) (.tmp 105) (.tmp 109) 31 (by rfl) (w1.heap.size + 1) 67 j0 (.agg #[.slice none 0 0, .int .i64 0, .bool false, .bool false]) 4 40 Tryz.underlying31 HJ0.out HY0.out HY1.out HY2.out rfl (by decide) (.slice AB bs.length cB) bs.length (blocks4 bs) (by rfl) W10.out.blocks ⟨w9.heap.size, 0, none⟩ 1 1 [.slice A9 (ipL D4 4).length c9, .int .i64 (blockT D4 tn : Int), .bool tf, .bool ti] (by rfl) rfl (new_cells w9 _ _) (by intro u hu; simp at hu; rcases hu with rfl | rfl | rfl | rfl <;> rfl) (by decide) (by unfold maxLen; omega) (by omega) (by simp; omega) (w9.heap.size + 1) (by simp) ?_
                intro g11 cap11 w11 hown11 hg11 hat11 hlt11
                have hg11' : (w9.alloc (.cells #[.slice A9 (ipL D4 4).length c9, .int .i64 (blockT D4 tn : Int), .bool tf, .bool ti] 67)).grownBy w11 (Value.slice AB bs.length cB).ownBlock := ⟨hg11.os, hg11.tape, hg11.output, hg11.size, hg11.block⟩
                have B11 := W10.out.pk.grown hg11' (fun e => own_other W10.out.blocks W10.out.pk (by decide) e.symm)
                have k11 : w11.cell? ⟨w1.heap.size, 1, none⟩ = some (.slice AB bs.length cB) := B11.cell 1
                have f11 := B11.free 1
                have HBR := Lib.hid hbr
                have HW11 := Lib.hid hown11
                have HG11 := Lib.hid hg11'
                clear hbr hown11 hg11 hg11' hat11 hlt11 B11
                refine hK.out _ _ ?_ (fun hHeld => ?_)
                · trivial
                clear hK K
                try simp only [Act.put, List.setIfInBounds_toArray, List.set_cons_zero, List.set_cons_succ]
                refine wpAnyH_ready (rs := [7]) (by kernel_rfl) (by simp) ?_
                refine AllReadyH.cons (o := { dst := some 111, op := Op.fieldAddr 33 (Operand.tmp 6) 1, type := 0, pos := _, after := #[{ on := 0, ground := Ground.phase }, { on := 1, ground := Ground.phase }, { on := 2, ground := Ground.phase }, { on := 3, ground := Ground.phase }, { on := 4, ground := Ground.phase }, { on := 5, ground := Ground.phase }, { on := 6, ground := Ground.phase }], guard := none }) rfl (fun K hK => ?_) AllReadyH.nil
                go_simp
                refine hK.out _ _ ?_ (fun hHeld => ?_)
                · trivial
                clear hK K
                try simp only [Act.put, List.setIfInBounds_toArray, List.set_cons_zero, List.set_cons_succ]
                refine wpAnyH_ready (rs := [8]) (by kernel_rfl) (by simp) ?_
                refine AllReadyH.cons (o := { dst := none, op := Op.store 31 (Operand.tmp 111) (Operand.tmp 110), type := 0, pos := _, after := #[{ on := 7, ground := Ground.data }, { on := 6, ground := Ground.data }, { on := 6, ground := Ground.chain }, { on := 0, ground := Ground.phase }, { on := 1, ground := Ground.phase }, { on := 2, ground := Ground.phase }, { on := 3, ground := Ground.phase }, { on := 4, ground := Ground.phase }, { on := 5, ground := Ground.phase }, { on := 6, ground := Ground.phase }], guard := none }) rfl (fun K hK => ?_) AllReadyH.nil
                go_simp
                refine hK.out _ _ ?_ (fun hHeld => ?_)
                · trivial
                clear hK K
                try simp only [Act.put, List.setIfInBounds_toArray, List.set_cons_zero, List.set_cons_succ]
                refine wpAnyH_done (by kernel_rfl) ?_ _
                have W12 := Lib.hid (W10.out.blk (b := ⟨A9, c9, natI (ipL D4 4), (blockT D4 tn : Int), tf, ti⟩) (by simp only [natI_length]; exact HBR.out) (by simp only [BL.cells, natI_length]; exact HW11.out) HG11.out)
                clear k11 f11 p9 p10 p1 n0 n1 n2 n3 m0 m1 m2 hHeld
                go_wp2_with fail
                go_roundw
                case rel => exact ⟨k + 1, _, _, _, by omega, by go_num, W12.out, by rw [List.map_append, HP.out, List.range_succ, List.map_append, List.map_singleton, List.map_singleton, HBD.out, HD.out]; rfl⟩
                case measure => simp [intOf]; omega
              · skip
                go_simp
                refine hK.out _ _ ?_ (fun hHeld => ?_)
                · trivial
                clear hK K
                try simp only [Act.put, List.setIfInBounds_toArray, List.set_cons_zero, List.set_cons_succ]
                refine wpAnyH_ready (rs := [1, 4]) (by kernel_rfl) (by simp) ?_
                refine AllReadyH.cons (o := { dst := some 105, op := Op.load 31 (Operand.tmp 104), type := 31, pos := _, after := #[{ on := 0, ground := Ground.data }], guard := none }) rfl (fun K hK => ?_) (AllReadyH.cons (o := { dst := some 108, op := Op.call { callee := Callee.value (Operand.func 28), args := #[Operand.tmp 106, Operand.tmp 107], argTypes := #[61, 64] }, type := 67, pos := _, after := #[{ on := 2, ground := Ground.data }, { on := 3, ground := Ground.data }], guard := none }) rfl (fun K hK => ?_) AllReadyH.nil)
                · skip
                  go_simp
                  refine hK.out _ _ ?_ (fun hHeld => ?_)
                  · trivial
                  clear hK K
                  try simp only [Act.put, List.setIfInBounds_toArray, List.set_cons_zero, List.set_cons_succ]
                  refine wpAnyH_ready (rs := [4]) (by kernel_rfl) (by simp) ?_
                  refine AllReadyH.cons (o := { dst := some 108, op := Op.call { callee := Callee.value (Operand.func 28), args := #[Operand.tmp 106, Operand.tmp 107], argTypes := #[61, 64] }, type := 67, pos := _, after := #[{ on := 2, ground := Ground.data }, { on := 3, ground := Ground.data }], guard := none }) rfl (fun K hK => ?_) AllReadyH.nil
                  go_simp
                  with_reducible refine (HBK.out _).mono ?_
                  rintro e w9 ⟨A9, c9, rfl, hb9, ho9⟩
                  have hb9 := below_of_drew hb9
                  have W9 := Lib.hid (W8.out.keep hb9)
                  have ho9 := Lib.hid ho9
                  have p9 : w9.cell? ⟨w1.heap.size, 1, none⟩ = some (.slice AB bs.length cB) := W9.out.pk.cell 1
                  have p10 : (w9.alloc (.cells #[.slice A9 (ipL D4 4).length c9, .int .i64 (blockT D4 tn : Int), .bool tf, .bool ti] 67)).cell? ⟨w1.heap.size, 1, none⟩ = some (.slice AB bs.length cB) := (W9.out.pk.alloc _).cell 1
                  have hz10 := W9.out.lt
                  have hz11 := hb9.size
                  clear hb9
                  refine hK.out _ _ ?_ (fun hHeld => ?_)
                  · trivial
                  clear hK K
                  try simp only [Act.put, List.setIfInBounds_toArray, List.set_cons_zero, List.set_cons_succ]
                  refine wpAnyH_ready (rs := [5]) (by kernel_rfl) (by simp) ?_
                  refine AllReadyH.cons (o := { dst := some 109, op := Op.buildSlice 31 1 #[(0, Operand.tmp 108)], type := 31, pos := _, after := #[{ on := 4, ground := Ground.data }], guard := none }) rfl (fun K hK => ?_) AllReadyH.nil
                  go_simp
                  refine hK.out _ _ ?_ (fun hHeld => ?_)
                  · trivial
                  clear hK K
                  try simp only [Act.put, List.setIfInBounds_toArray, List.set_cons_zero, List.set_cons_succ]
                  refine wpAnyH_ready (rs := [6]) (by kernel_rfl) (by simp) ?_
                  refine AllReadyH.cons (o := { dst := some 110, op := Op.call { callee := Callee.builtin Builtin.append, args := #[Operand.tmp 105, Operand.tmp 109], argTypes := #[31, 31] }, type := 31, pos := _, after := #[{ on := 1, ground := Ground.data }, { on := 5, ground := Ground.data }, { on := 4, ground := Ground.chain }], guard := none }) rfl (fun K hK => ?_) AllReadyH.nil
                  have hbr := (own_base_le ho9.out (base' := w1.heap.size + 1) (show w1.heap.size + 1 ≤ wr.heap.size by omega)).alloc (.cells #[.slice A9 (ipL D4 4).length c9, .int .i64 (blockT D4 tn : Int), .bool tf, .bool ti] 67)
                  have W10 := Lib.hid (W9.out.keep (below_new w9 (.cells #[.slice A9 (ipL D4 4).length c9, .int .i64 (blockT D4 tn : Int), .bool tf, .bool ti] 67)))
                  refine step_append_lies _ (by rfl) (.tmp 105) (.tmp 109) 31 (by rfl) (w1.heap.size + 1) 67 j0 (.agg #[.slice none 0 0, .int .i64 0, .bool false, .bool false]) 4 40 Tryz.underlying31 HJ0.out HY0.out HY1.out HY2.out rfl (by decide) (.slice AB bs.length cB) bs.length (blocks4 bs) (by rfl) W10.out.blocks ⟨w9.heap.size, 0, none⟩ 1 1 [.slice A9 (ipL D4 4).length c9, .int .i64 (blockT D4 tn : Int), .bool tf, .bool ti] (by rfl) rfl (new_cells w9 _ _) (by intro u hu; simp at hu; rcases hu with rfl | rfl | rfl | rfl <;> rfl) (by decide) (by unfold maxLen; omega) (by omega) (by simp; omega) (w9.heap.size + 1) (by simp) ?_
                  intro g11 cap11 w11 hown11 hg11 hat11 hlt11
                  have hg11' : (w9.alloc (.cells #[.slice A9 (ipL D4 4).length c9, .int .i64 (blockT D4 tn : Int), .bool tf, .bool ti] 67)).grownBy w11 (Value.slice AB bs.length cB).ownBlock := ⟨hg11.os, hg11.tape, hg11.output, hg11.size, hg11.block⟩
                  have B11 := W10.out.pk.grown hg11' (fun e => own_other W10.out.blocks W10.out.pk (by decide) e.symm)
                  have k11 : w11.cell? ⟨w1.heap.size, 1, none⟩ = some (.slice AB bs.length cB) := B11.cell 1
                  have f11 := B11.free 1
                  have HBR := Lib.hid hbr
                  have HW11 := Lib.hid hown11
                  have HG11 := Lib.hid hg11'
                  clear hbr hown11 hg11 hg11' hat11 hlt11 B11
                  refine hK.out _ _ ?_ (fun hHeld => ?_)
                  · trivial
                  clear hK K
                  try simp only [Act.put, List.setIfInBounds_toArray, List.set_cons_zero, List.set_cons_succ]
                  refine wpAnyH_ready (rs := [7]) (by kernel_rfl) (by simp) ?_
                  refine AllReadyH.cons (o := { dst := some 111, op := Op.fieldAddr 33 (Operand.tmp 6) 1, type := 0, pos := _, after := #[{ on := 0, ground := Ground.phase }, { on := 1, ground := Ground.phase }, { on := 2, ground := Ground.phase }, { on := 3, ground := Ground.phase }, { on := 4, ground := Ground.phase }, { on := 5, ground := Ground.phase }, { on := 6, ground := Ground.phase }], guard := none }) rfl (fun K hK => ?_) AllReadyH.nil
                  go_simp
                  refine hK.out _ _ ?_ (fun hHeld => ?_)
                  · trivial
                  clear hK K
                  try simp only [Act.put, List.setIfInBounds_toArray, List.set_cons_zero, List.set_cons_succ]
                  refine wpAnyH_ready (rs := [8]) (by kernel_rfl) (by simp) ?_
                  refine AllReadyH.cons (o := { dst := none, op := Op.store 31 (Operand.tmp 111) (Operand.tmp 110), type := 0, pos := _, after := #[{ on := 7, ground := Ground.data }, { on := 6, ground := Ground.data }, { on := 6, ground := Ground.chain }, { on := 0, ground := Ground.phase }, { on := 1, ground := Ground.phase }, { on := 2, ground := Ground.phase }, { on := 3, ground := Ground.phase }, { on := 4, ground := Ground.phase }, { on := 5, ground := Ground.phase }, { on := 6, ground := Ground.phase }], guard := none }) rfl (fun K hK => ?_) AllReadyH.nil
                  go_simp
                  refine hK.out _ _ ?_ (fun hHeld => ?_)
                  · trivial
                  clear hK K
                  try simp only [Act.put, List.setIfInBounds_toArray, List.set_cons_zero, List.set_cons_succ]
                  refine wpAnyH_done (by kernel_rfl) ?_ _
                  have W12 := Lib.hid (W10.out.blk (b := ⟨A9, c9, natI (ipL D4 4), (blockT D4 tn : Int), tf, ti⟩) (by simp only [natI_length]; exact HBR.out) (by simp only [BL.cells, natI_length]; exact HW11.out) HG11.out)
                  clear k11 f11 p9 p10 p1 n0 n1 n2 n3 m0 m1 m2 hHeld
                  go_wp2_with fail
                  go_roundw
                  case rel => exact ⟨k + 1, _, _, _, by omega, by go_num, W12.out, by rw [List.map_append, HP.out, List.range_succ, List.map_append, List.map_singleton, List.map_singleton, HBD.out, HD.out]; rfl⟩
                  case measure => simp [intOf]; omega
                · skip
                  go_simp
                  with_reducible refine (HBK.out _).mono ?_
                  rintro e w9 ⟨A9, c9, rfl, hb9, ho9⟩
                  have hb9 := below_of_drew hb9
                  have W9 := Lib.hid (W8.out.keep hb9)
                  have ho9 := Lib.hid ho9
                  have p9 : w9.cell? ⟨w1.heap.size, 1, none⟩ = some (.slice AB bs.length cB) := W9.out.pk.cell 1
                  have p10 : (w9.alloc (.cells #[.slice A9 (ipL D4 4).length c9, .int .i64 (blockT D4 tn : Int), .bool tf, .bool ti] 67)).cell? ⟨w1.heap.size, 1, none⟩ = some (.slice AB bs.length cB) := (W9.out.pk.alloc _).cell 1
                  have hz10 := W9.out.lt
                  have hz11 := hb9.size
                  clear hb9
                  refine hK.out _ _ ?_ (fun hHeld => ?_)
                  · trivial
                  clear hK K
                  try simp only [Act.put, List.setIfInBounds_toArray, List.set_cons_zero, List.set_cons_succ]
                  refine wpAnyH_ready (rs := [1, 5]) (by kernel_rfl) (by simp) ?_
                  refine AllReadyH.cons (o := { dst := some 105, op := Op.load 31 (Operand.tmp 104), type := 31, pos := _, after := #[{ on := 0, ground := Ground.data }], guard := none }) rfl (fun K hK => ?_) (AllReadyH.cons (o := { dst := some 109, op := Op.buildSlice 31 1 #[(0, Operand.tmp 108)], type := 31, pos := _, after := #[{ on := 4, ground := Ground.data }], guard := none }) rfl (fun K hK => ?_) AllReadyH.nil)
                  · skip
                    go_simp
                    refine hK.out _ _ ?_ (fun hHeld => ?_)
                    · trivial
                    clear hK K
                    try simp only [Act.put, List.setIfInBounds_toArray, List.set_cons_zero, List.set_cons_succ]
                    refine wpAnyH_ready (rs := [5]) (by kernel_rfl) (by simp) ?_
                    refine AllReadyH.cons (o := { dst := some 109, op := Op.buildSlice 31 1 #[(0, Operand.tmp 108)], type := 31, pos := _, after := #[{ on := 4, ground := Ground.data }], guard := none }) rfl (fun K hK => ?_) AllReadyH.nil
                    go_simp
                    refine hK.out _ _ ?_ (fun hHeld => ?_)
                    · trivial
                    clear hK K
                    try simp only [Act.put, List.setIfInBounds_toArray, List.set_cons_zero, List.set_cons_succ]
                    refine wpAnyH_ready (rs := [6]) (by kernel_rfl) (by simp) ?_
                    refine AllReadyH.cons (o := { dst := some 110, op := Op.call { callee := Callee.builtin Builtin.append, args := #[Operand.tmp 105, Operand.tmp 109], argTypes := #[31, 31] }, type := 31, pos := _, after := #[{ on := 1, ground := Ground.data }, { on := 5, ground := Ground.data }, { on := 4, ground := Ground.chain }], guard := none }) rfl (fun K hK => ?_) AllReadyH.nil
                    have hbr := (own_base_le ho9.out (base' := w1.heap.size + 1) (show w1.heap.size + 1 ≤ wr.heap.size by omega)).alloc (.cells #[.slice A9 (ipL D4 4).length c9, .int .i64 (blockT D4 tn : Int), .bool tf, .bool ti] 67)
                    have W10 := Lib.hid (W9.out.keep (below_new w9 (.cells #[.slice A9 (ipL D4 4).length c9, .int .i64 (blockT D4 tn : Int), .bool tf, .bool ti] 67)))
                    refine step_append_lies _ (by rfl) (.tmp 105) (.tmp 109) 31 (by rfl) (w1.heap.size + 1) 67 j0 (.agg #[.slice none 0 0, .int .i64 0, .bool false, .bool false]) 4 40 Tryz.underlying31 HJ0.out HY0.out HY1.out HY2.out rfl (by decide) (.slice AB bs.length cB) bs.length (blocks4 bs) (by rfl) W10.out.blocks ⟨w9.heap.size, 0, none⟩ 1 1 [.slice A9 (ipL D4 4).length c9, .int .i64 (blockT D4 tn : Int), .bool tf, .bool ti] (by rfl) rfl (new_cells w9 _ _) (by intro u hu; simp at hu; rcases hu with rfl | rfl | rfl | rfl <;> rfl) (by decide) (by unfold maxLen; omega) (by omega) (by simp; omega) (w9.heap.size + 1) (by simp) ?_
                    intro g11 cap11 w11 hown11 hg11 hat11 hlt11
                    have hg11' : (w9.alloc (.cells #[.slice A9 (ipL D4 4).length c9, .int .i64 (blockT D4 tn : Int), .bool tf, .bool ti] 67)).grownBy w11 (Value.slice AB bs.length cB).ownBlock := ⟨hg11.os, hg11.tape, hg11.output, hg11.size, hg11.block⟩
                    have B11 := W10.out.pk.grown hg11' (fun e => own_other W10.out.blocks W10.out.pk (by decide) e.symm)
                    have k11 : w11.cell? ⟨w1.heap.size, 1, none⟩ = some (.slice AB bs.length cB) := B11.cell 1
                    have f11 := B11.free 1
                    have HBR := Lib.hid hbr
                    have HW11 := Lib.hid hown11
                    have HG11 := Lib.hid hg11'
                    clear hbr hown11 hg11 hg11' hat11 hlt11 B11
                    refine hK.out _ _ ?_ (fun hHeld => ?_)
                    · trivial
                    clear hK K
                    try simp only [Act.put, List.setIfInBounds_toArray, List.set_cons_zero, List.set_cons_succ]
                    refine wpAnyH_ready (rs := [7]) (by kernel_rfl) (by simp) ?_
                    refine AllReadyH.cons (o := { dst := some 111, op := Op.fieldAddr 33 (Operand.tmp 6) 1, type := 0, pos := _, after := #[{ on := 0, ground := Ground.phase }, { on := 1, ground := Ground.phase }, { on := 2, ground := Ground.phase }, { on := 3, ground := Ground.phase }, { on := 4, ground := Ground.phase }, { on := 5, ground := Ground.phase }, { on := 6, ground := Ground.phase }], guard := none }) rfl (fun K hK => ?_) AllReadyH.nil
                    go_simp
                    refine hK.out _ _ ?_ (fun hHeld => ?_)
                    · trivial
                    clear hK K
                    try simp only [Act.put, List.setIfInBounds_toArray, List.set_cons_zero, List.set_cons_succ]
                    refine wpAnyH_ready (rs := [8]) (by kernel_rfl) (by simp) ?_
                    refine AllReadyH.cons (o := { dst := none, op := Op.store 31 (Operand.tmp 111) (Operand.tmp 110), type := 0, pos := _, after := #[{ on := 7, ground := Ground.data }, { on := 6, ground := Ground.data }, { on := 6, ground := Ground.chain }, { on := 0, ground := Ground.phase }, { on := 1, ground := Ground.phase }, { on := 2, ground := Ground.phase }, { on := 3, ground := Ground.phase }, { on := 4, ground := Ground.phase }, { on := 5, ground := Ground.phase }, { on := 6, ground := Ground.phase }], guard := none }) rfl (fun K hK => ?_) AllReadyH.nil
                    go_simp
                    refine hK.out _ _ ?_ (fun hHeld => ?_)
                    · trivial
                    clear hK K
                    try simp only [Act.put, List.setIfInBounds_toArray, List.set_cons_zero, List.set_cons_succ]
                    refine wpAnyH_done (by kernel_rfl) ?_ _
                    have W12 := Lib.hid (W10.out.blk (b := ⟨A9, c9, natI (ipL D4 4), (blockT D4 tn : Int), tf, ti⟩) (by simp only [natI_length]; exact HBR.out) (by simp only [BL.cells, natI_length]; exact HW11.out) HG11.out)
                    clear k11 f11 p9 p10 p1 n0 n1 n2 n3 m0 m1 m2 hHeld
                    go_wp2_with fail
                    go_roundw
                    case rel => exact ⟨k + 1, _, _, _, by omega, by go_num, W12.out, by rw [List.map_append, HP.out, List.range_succ, List.map_append, List.map_singleton, List.map_singleton, HBD.out, HD.out]; rfl⟩
                    case measure => simp [intOf]; omega
                  · skip
                    go_simp
                    refine hK.out _ _ ?_ (fun hHeld => ?_)
                    · trivial
                    clear hK K
                    try simp only [Act.put, List.setIfInBounds_toArray, List.set_cons_zero, List.set_cons_succ]
                    refine wpAnyH_ready (rs := [1]) (by kernel_rfl) (by simp) ?_
                    refine AllReadyH.cons (o := { dst := some 105, op := Op.load 31 (Operand.tmp 104), type := 31, pos := _, after := #[{ on := 0, ground := Ground.data }], guard := none }) rfl (fun K hK => ?_) AllReadyH.nil
                    go_simp
                    refine hK.out _ _ ?_ (fun hHeld => ?_)
                    · trivial
                    clear hK K
                    try simp only [Act.put, List.setIfInBounds_toArray, List.set_cons_zero, List.set_cons_succ]
                    refine wpAnyH_ready (rs := [6]) (by kernel_rfl) (by simp) ?_
                    refine AllReadyH.cons (o := { dst := some 110, op := Op.call { callee := Callee.builtin Builtin.append, args := #[Operand.tmp 105, Operand.tmp 109], argTypes := #[31, 31] }, type := 31, pos := _, after := #[{ on := 1, ground := Ground.data }, { on := 5, ground := Ground.data }, { on := 4, ground := Ground.chain }], guard := none }) rfl (fun K hK => ?_) AllReadyH.nil
                    have hbr := (own_base_le ho9.out (base' := w1.heap.size + 1) (show w1.heap.size + 1 ≤ wr.heap.size by omega)).alloc (.cells #[.slice A9 (ipL D4 4).length c9, .int .i64 (blockT D4 tn : Int), .bool tf, .bool ti] 67)
                    have W10 := Lib.hid (W9.out.keep (below_new w9 (.cells #[.slice A9 (ipL D4 4).length c9, .int .i64 (blockT D4 tn : Int), .bool tf, .bool ti] 67)))
                    refine step_append_lies _ (by rfl) (.tmp 105) (.tmp 109) 31 (by rfl) (w1.heap.size + 1) 67 j0 (.agg #[.slice none 0 0, .int .i64 0, .bool false, .bool false]) 4 40 Tryz.underlying31 HJ0.out HY0.out HY1.out HY2.out rfl (by decide) (.slice AB bs.length cB) bs.length (blocks4 bs) (by rfl) W10.out.blocks ⟨w9.heap.size, 0, none⟩ 1 1 [.slice A9 (ipL D4 4).length c9, .int .i64 (blockT D4 tn : Int), .bool tf, .bool ti] (by rfl) rfl (new_cells w9 _ _) (by intro u hu; simp at hu; rcases hu with rfl | rfl | rfl | rfl <;> rfl) (by decide) (by unfold maxLen; omega) (by omega) (by simp; omega) (w9.heap.size + 1) (by simp) ?_
                    intro g11 cap11 w11 hown11 hg11 hat11 hlt11
                    have hg11' : (w9.alloc (.cells #[.slice A9 (ipL D4 4).length c9, .int .i64 (blockT D4 tn : Int), .bool tf, .bool ti] 67)).grownBy w11 (Value.slice AB bs.length cB).ownBlock := ⟨hg11.os, hg11.tape, hg11.output, hg11.size, hg11.block⟩
                    have B11 := W10.out.pk.grown hg11' (fun e => own_other W10.out.blocks W10.out.pk (by decide) e.symm)
                    have k11 : w11.cell? ⟨w1.heap.size, 1, none⟩ = some (.slice AB bs.length cB) := B11.cell 1
                    have f11 := B11.free 1
                    have HBR := Lib.hid hbr
                    have HW11 := Lib.hid hown11
                    have HG11 := Lib.hid hg11'
                    clear hbr hown11 hg11 hg11' hat11 hlt11 B11
                    refine hK.out _ _ ?_ (fun hHeld => ?_)
                    · trivial
                    clear hK K
                    try simp only [Act.put, List.setIfInBounds_toArray, List.set_cons_zero, List.set_cons_succ]
                    refine wpAnyH_ready (rs := [7]) (by kernel_rfl) (by simp) ?_
                    refine AllReadyH.cons (o := { dst := some 111, op := Op.fieldAddr 33 (Operand.tmp 6) 1, type := 0, pos := _, after := #[{ on := 0, ground := Ground.phase }, { on := 1, ground := Ground.phase }, { on := 2, ground := Ground.phase }, { on := 3, ground := Ground.phase }, { on := 4, ground := Ground.phase }, { on := 5, ground := Ground.phase }, { on := 6, ground := Ground.phase }], guard := none }) rfl (fun K hK => ?_) AllReadyH.nil
                    go_simp
                    refine hK.out _ _ ?_ (fun hHeld => ?_)
                    · trivial
                    clear hK K
                    try simp only [Act.put, List.setIfInBounds_toArray, List.set_cons_zero, List.set_cons_succ]
                    refine wpAnyH_ready (rs := [8]) (by kernel_rfl) (by simp) ?_
                    refine AllReadyH.cons (o := { dst := none, op := Op.store 31 (Operand.tmp 111) (Operand.tmp 110), type := 0, pos := _, after := #[{ on := 7, ground := Ground.data }, { on := 6, ground := Ground.data }, { on := 6, ground := Ground.chain }, { on := 0, ground := Ground.phase }, { on := 1, ground := Ground.phase }, { on := 2, ground := Ground.phase }, { on := 3, ground := Ground.phase }, { on := 4, ground := Ground.phase }, { on := 5, ground := Ground.phase }, { on := 6, ground := Ground.phase }], guard := none }) rfl (fun K hK => ?_) AllReadyH.nil
                    go_simp
                    refine hK.out _ _ ?_ (fun hHeld => ?_)
                    · trivial
                    clear hK K
                    try simp only [Act.put, List.setIfInBounds_toArray, List.set_cons_zero, List.set_cons_succ]
                    refine wpAnyH_done (by kernel_rfl) ?_ _
                    have W12 := Lib.hid (W10.out.blk (b := ⟨A9, c9, natI (ipL D4 4), (blockT D4 tn : Int), tf, ti⟩) (by simp only [natI_length]; exact HBR.out) (by simp only [BL.cells, natI_length]; exact HW11.out) HG11.out)
                    clear k11 f11 p9 p10 p1 n0 n1 n2 n3 m0 m1 m2 hHeld
                    go_wp2_with fail
                    go_roundw
                    case rel => exact ⟨k + 1, _, _, _, by omega, by go_num, W12.out, by rw [List.map_append, HP.out, List.range_succ, List.map_append, List.map_singleton, List.map_singleton, HBD.out, HD.out]; rfl⟩
                    case measure => simp [intOf]; omega
          obtain ⟨hn1, hn2, hn3⟩ := HINN.out j hj4
          have hdj := HDJ.out j hj4
          unfold inN at hn2 hn3 hdj
          have hdl := HDL.out
          obtain ⟨n, hn⟩ := Int.eq_ofNat_of_zero_le hn2
          have hnl : n < (dL C).length := by omega
          have R8 := Lib.hid (R2.out.later W8.out.below)
          have hdv : (dL C).getD n 0 = (insD C k).getD j 0 := by rw [hdj]; unfold dv; rw [hn]; rfl
          have HN := Lib.hid hn
          have HN1 := Lib.hid hn1
          have HDV := Lib.hid hdv
          clear hn hn1 hn2 hn3 hdj hdl hdv
          go_wp2_with fail
          refine (inn_any _ _ _ _ _ _ _).mono ?_
          rintro e w9 ⟨rfl, hb9⟩
          rw [HN1.out, HN.out]
          have W9 := Lib.hid (W8.out.keep hb9)
          have M9 := Lib.hid (M8.out.keep hb9)
          have N9 := Lib.hid (N8.out.keep hb9)
          obtain ⟨a1, ha1, -, cd⟩ := (R8.out.later hb9).int hnl
          subst ha1
          rw [HDV.out] at cd
          have n9 := N9.out.cell j
          rw [List.getElem?_toArray, show (ints (mixD (insD C k) j))[j]? = some (.int .i64 0) by unfold ints; rw [List.getElem?_map, mixD_get _ hj4]; rfl] at n9
          have f9 := N9.out.free j
          have hmx := mixD_next (insD C k) hj4
          generalize (insD C k).getD j 0 = d at cd hmx
          have HMX := Lib.hid hmx
          clear hb9 hmx y0 y1 y2
          go_wp2_with fail
          go_roundw
          case rel => exact ⟨j + 1, by omega, by go_num, W9.out.apart N9.out hz6 (by decide) (by decide) _ _, M9.out.apart (show wo.heap.size ≠ w6.heap.size by omega) _, by
            have := N9.out.put j (.int .i64 d)
            rw [List.setIfInBounds_toArray, show (ints (mixD (insD C k) j)).set j (.int .i64 d) = ints (mixD (insD C k) (j + 1)) by rw [← HMX.out]; simp [ints, List.map_set]] at this
            exact this⟩
          case measure => simp [intOf]; omega
    obtain ⟨a, ha, hab, cx⟩ := (((HIN.out.later B2.out).later W1.out.below).outs).int hlt
    rw [HOU.out] at ha
    subst ha
    have hmem : C.outs.getD k 0 ∈ C.outs := by rw [List.getD_eq_getElem?_getD, List.getElem?_eq_getElem hlt]; exact List.getElem_mem hlt
    obtain ⟨hn1, hn2, hn3⟩ := out_pad HOK.out hmem
    have hol : (outsD C).length = C.outs.length := by simp [outsD]
    have hog : (outsD C)[k]'(by omega) = dv C (padN C (C.outs.getD k 0)) := by simp [outsD, List.getD_eq_getElem?_getD, List.getElem?_eq_getElem hlt]
    have htk : (outsD C).take (k + 1) = (outsD C).take k ++ [dv C (padN C (C.outs.getD k 0))] := by rw [List.take_succ_eq_append_getElem (by omega), hog]
    have htl : ((outsD C).take k).length = k := by rw [List.length_take]; omega
    have hmo : dv C (padN C (C.outs.getD k 0)) ∈ outsD C := by rw [← hog]; exact List.getElem_mem _
    have HTK := Lib.hid htk
    have HTL := Lib.hid htl
    have HMO := Lib.hid hmo
    have hdl := HDL.out
    unfold padN at hn2 hn3 HTK HMO
    generalize C.outs.getD k 0 = p at cx hn1 hn2 hn3 HTK HMO
    obtain ⟨n, hn⟩ := Int.eq_ofNat_of_zero_le hn2
    have hnl : n < (dL C).length := by omega
    obtain ⟨a1, ha1, hab1, cd⟩ := R3.out.int hnl
    subst ha1
    have hdv : (dL C).getD n 0 = dv C (nodeN C.W C.H C.T 2 p 0 0) := by unfold dv; rw [hn]; rfl
    rw [hdv] at cd
    obtain ⟨hd1, hd2⟩ := dv_bd HF.out (nodeN C.W C.H C.T 2 p 0 0)
    generalize dv C (nodeN C.W C.H C.T 2 p 0 0) = d at cd HTK HMO hd1 hd2
    have HN := Lib.hid hn
    have HN1 := Lib.hid hn1
    clear hn hn1 hn2 hn3 hol hog htk htl hmo hdl hmem hdv
    go_wp2_with fail
    refine (pad_any _ _ _ _ _).mono ?_
    rintro e w4 ⟨rfl, hb4⟩
    rw [HN1.out, HN.out]
    have W4 := Lib.hid (W1.out.keep hb4)
    have R4 := Lib.hid (R3.out.later hb4)
    have cd4 := (hb4.cell (p := a1.add n) (by rw [add_block]; exact hab1)).trans cd
    have hz5 := W4.out.lt
    have B4 := Lib.hid (below_then B2.out W4.out.below)
    have Z4 := Lib.hid (Z2.out.keep W4.out.below)
    generalize (outsD C).take k = us at HTK HTL HA W4 W1 p0
    clear hb4 cd t0 t1 t2 p0 q0 T3 cx R3 hab hab1
    have p0 : w4.cell? ⟨w1.heap.size, 2, none⟩ = some (.slice AU us.length cU) := W4.out.pk.cell 2
    by_cases hneg : d < 0
    · have z0 := Z4.out.cell 0
      have z1 := Z4.out.cell 1
      have z2 := Z4.out.cell 2
      have f0 := Z4.out.free 0
      have f1 := Z4.out.free 1
      have f2 := Z4.out.free 2
      have hz6 := Z4.out.lt
      have HR := Lib.hid (show ReadR C zeroPK 121 from by unfold ReadR; rw [HE.out, if_neg (by simp), if_pos (List.any_eq_true.2 ⟨d, HMO.out, decide_eq_true hneg⟩)])
      go_wp2_with fail
      exact read_err Tryz.results9 C w w4 _ 121 B4.out Z4.out HR.out rfl rfl
    go_wp2_with fail
    refine wp_region_held_drew (S := (fun _ => True)) (by kernel_rfl) ?_ (fun hHeld => ?_)
    · trivial
    refine wpAnyH_take (i := 0) (oi := { dst := some 57, op := Op.fieldAddr 33 (Operand.tmp 6) 2, type := 0, pos := _, after := #[], guard := none }) (v := ?_) rfl (by kernel_rfl) (by kernel_rfl) (by kernel_rfl) (fun _ _ _ h => h) (Or.inl ⟨by rfl, ?_⟩) (by assumption) ?_
    rotate_left
    · intro w hSw; (try dsimp only at hSw); go_simp; (try with_reducible rfl)
    try simp only [Act.put, List.setIfInBounds_toArray, List.set_cons_zero, List.set_cons_succ]
    refine wpAnyH_take (i := 2) (oi := { dst := some 59, op := Op.move (Operand.tmp 4), type := 26, pos := _, after := #[], guard := none }) (v := ?_) rfl (by kernel_rfl) (by kernel_rfl) (by kernel_rfl) (fun _ _ _ h => h) (Or.inl ⟨by rfl, ?_⟩) (by assumption) ?_
    rotate_left
    · intro w hSw; (try dsimp only at hSw); go_simp; (try with_reducible rfl)
    try simp only [Act.put, List.setIfInBounds_toArray, List.set_cons_zero, List.set_cons_succ]
    refine wpAnyH_take (i := 3) (oi := { dst := some 60, op := Op.move (Operand.tmp 9), type := 3, pos := _, after := #[], guard := none }) (v := ?_) rfl (by kernel_rfl) (by kernel_rfl) (by kernel_rfl) (fun _ _ _ h => h) (Or.inl ⟨by rfl, ?_⟩) (by assumption) ?_
    rotate_left
    · intro w hSw; (try dsimp only at hSw); go_simp; (try with_reducible rfl)
    try simp only [Act.put, List.setIfInBounds_toArray, List.set_cons_zero, List.set_cons_succ]
    refine wpAnyH_take (i := 4) (oi := { dst := some 61, op := Op.indexAddr 26 (Operand.tmp 59) (Operand.tmp 60), type := 0, pos := _, after := #[{ on := 2, ground := Ground.data }, { on := 3, ground := Ground.data }], guard := none }) (v := ?_) rfl (by kernel_rfl) (by kernel_rfl) (by kernel_rfl) (fun _ _ _ h => h) (Or.inl ⟨by rfl, ?_⟩) (by assumption) ?_
    rotate_left
    · intro w hSw; (try dsimp only at hSw); go_simp; (try with_reducible rfl)
    try simp only [Act.put, List.setIfInBounds_toArray, List.set_cons_zero, List.set_cons_succ]
    refine wpAnyH_ready (rs := [1, 5]) (by kernel_rfl) (by simp) ?_
    refine AllReadyH.cons (o := { dst := some 58, op := Op.load 26 (Operand.tmp 57), type := 26, pos := _, after := #[{ on := 0, ground := Ground.data }], guard := none }) rfl (fun K hK => ?_) (AllReadyH.cons (o := { dst := some 62, op := Op.load 3 (Operand.tmp 61), type := 3, pos := _, after := #[{ on := 4, ground := Ground.data }], guard := none }) rfl (fun K hK => ?_) AllReadyH.nil)
    · skip
      go_simp
      refine hK.out _ _ ?_ (fun hHeld => ?_)
      · trivial
      clear hK K
      try simp only [Act.put, List.setIfInBounds_toArray, List.set_cons_zero, List.set_cons_succ]
      refine wpAnyH_ready (rs := [5]) (by kernel_rfl) (by simp) ?_
      refine AllReadyH.cons (o := { dst := some 62, op := Op.load 3 (Operand.tmp 61), type := 3, pos := _, after := #[{ on := 4, ground := Ground.data }], guard := none }) rfl (fun K hK => ?_) AllReadyH.nil
      go_simp
      refine hK.out _ _ ?_ (fun hHeld => ?_)
      · trivial
      clear hK K
      try simp only [Act.put, List.setIfInBounds_toArray, List.set_cons_zero, List.set_cons_succ]
      refine wpAnyH_ready (rs := [6]) (by kernel_rfl) (by simp) ?_
      refine AllReadyH.cons (o := { dst := some 63, op := Op.buildSlice 26 1 #[(0, Operand.tmp 62)], type := 26, pos := _, after := #[{ on := 5, ground := Ground.data }], guard := none }) rfl (fun K hK => ?_) AllReadyH.nil
      go_simp
      refine hK.out _ _ ?_ (fun hHeld => ?_)
      · trivial
      clear hK K
      try simp only [Act.put, List.setIfInBounds_toArray, List.set_cons_zero, List.set_cons_succ]
      refine wpAnyH_ready (rs := [7]) (by kernel_rfl) (by simp) ?_
      refine AllReadyH.cons (o := { dst := some 64, op := Op.call { callee := Callee.builtin Builtin.append, args := #[Operand.tmp 58, Operand.tmp 63], argTypes := #[26, 26] }, type := 26, pos := _, after := #[{ on := 1, ground := Ground.data }, { on := 6, ground := Ground.data }], guard := none }) rfl (fun K hK => ?_) AllReadyH.nil
      have T8 := W4.out.outs.alloc (.cells #[.int .i64 d] 3)
      refine step_append_lies _ (by rfl) (.tmp 58) (.tmp 63) 26 (by rfl) (w1.heap.size + 1) 3 i0 (.int .i64 0) 1 8 Tryz.underlying26 HI0.out HZ0.out HZ1.out HZ2.out rfl (by decide) (.slice AU us.length cU) us.length (ints us) (by rfl) T8 ⟨w4.heap.size, 0, none⟩ 1 1 [.int .i64 d] (by rfl) rfl (new_cells w4 _ _) (by intro u hu; simp at hu; rcases hu with rfl; rfl) (by decide) (by unfold maxLen; have := HTL.out; omega) (by have := HTL.out; omega) (by simp; omega) (w4.heap.size + 1) (by simp) ?_
      intro g9 cap9 w9 hown9 hg9 hat9 hlt9
      have hg9' := (World.grownBy_alloc w4 (.cells #[.int .i64 d] 3) (Value.slice AU us.length cU).ownBlock).trans (show (w4.alloc (.cells #[.int .i64 d] 3)).grownBy w9 (Value.slice AU us.length cU).ownBlock from ⟨hg9.os, hg9.tape, hg9.output, hg9.size, hg9.block⟩)
      have B9 := W4.out.pk.grown hg9' (fun e => own_other W4.out.outs W4.out.pk (by decide) e.symm)
      have k9 : w9.cell? ⟨w1.heap.size, 2, none⟩ = some (.slice AU us.length cU) := B9.cell 2
      have f9 := B9.free 2
      refine hK.out _ _ ?_ (fun hHeld => ?_)
      · trivial
      clear hK K
      try simp only [Act.put, List.setIfInBounds_toArray, List.set_cons_zero, List.set_cons_succ]
      refine wpAnyH_ready (rs := [8]) (by kernel_rfl) (by simp) ?_
      refine AllReadyH.cons (o := { dst := some 65, op := Op.fieldAddr 33 (Operand.tmp 6) 2, type := 0, pos := _, after := #[{ on := 0, ground := Ground.phase }, { on := 1, ground := Ground.phase }, { on := 2, ground := Ground.phase }, { on := 3, ground := Ground.phase }, { on := 4, ground := Ground.phase }, { on := 5, ground := Ground.phase }, { on := 6, ground := Ground.phase }, { on := 7, ground := Ground.phase }], guard := none }) rfl (fun K hK => ?_) AllReadyH.nil
      go_simp
      refine hK.out _ _ ?_ (fun hHeld => ?_)
      · trivial
      clear hK K
      try simp only [Act.put, List.setIfInBounds_toArray, List.set_cons_zero, List.set_cons_succ]
      refine wpAnyH_ready (rs := [9]) (by kernel_rfl) (by simp) ?_
      refine AllReadyH.cons (o := { dst := none, op := Op.store 26 (Operand.tmp 65) (Operand.tmp 64), type := 0, pos := _, after := #[{ on := 8, ground := Ground.data }, { on := 7, ground := Ground.data }, { on := 7, ground := Ground.chain }, { on := 0, ground := Ground.phase }, { on := 1, ground := Ground.phase }, { on := 2, ground := Ground.phase }, { on := 3, ground := Ground.phase }, { on := 4, ground := Ground.phase }, { on := 5, ground := Ground.phase }, { on := 6, ground := Ground.phase }, { on := 7, ground := Ground.phase }], guard := none }) rfl (fun K hK => ?_) AllReadyH.nil
      go_simp
      refine hK.out _ _ ?_ (fun hHeld => ?_)
      · trivial
      clear hK K
      try simp only [Act.put, List.setIfInBounds_toArray, List.set_cons_zero, List.set_cons_succ]
      refine wpAnyH_done (by kernel_rfl) ?_ _
      have W9 := Lib.hid (W4.out.out hown9 hg9')
      clear hown9 hg9' hg9 hat9 hlt9 B9 k9 f9 hHeld
      go_wp2_with fail
      go_roundw
      case rel => exact ⟨k + 1, _, _, by omega, by go_num, by rw [HTK.out]; exact W9.out, by rw [HTK.out, List.any_append, HA.out]; simp [hneg]⟩
      case measure => simp [intOf]; omega
    · skip
      go_simp
      refine hK.out _ _ ?_ (fun hHeld => ?_)
      · trivial
      clear hK K
      try simp only [Act.put, List.setIfInBounds_toArray, List.set_cons_zero, List.set_cons_succ]
      refine wpAnyH_ready (rs := [1, 6]) (by kernel_rfl) (by simp) ?_
      refine AllReadyH.cons (o := { dst := some 58, op := Op.load 26 (Operand.tmp 57), type := 26, pos := _, after := #[{ on := 0, ground := Ground.data }], guard := none }) rfl (fun K hK => ?_) (AllReadyH.cons (o := { dst := some 63, op := Op.buildSlice 26 1 #[(0, Operand.tmp 62)], type := 26, pos := _, after := #[{ on := 5, ground := Ground.data }], guard := none }) rfl (fun K hK => ?_) AllReadyH.nil)
      · skip
        go_simp
        refine hK.out _ _ ?_ (fun hHeld => ?_)
        · trivial
        clear hK K
        try simp only [Act.put, List.setIfInBounds_toArray, List.set_cons_zero, List.set_cons_succ]
        refine wpAnyH_ready (rs := [6]) (by kernel_rfl) (by simp) ?_
        refine AllReadyH.cons (o := { dst := some 63, op := Op.buildSlice 26 1 #[(0, Operand.tmp 62)], type := 26, pos := _, after := #[{ on := 5, ground := Ground.data }], guard := none }) rfl (fun K hK => ?_) AllReadyH.nil
        go_simp
        refine hK.out _ _ ?_ (fun hHeld => ?_)
        · trivial
        clear hK K
        try simp only [Act.put, List.setIfInBounds_toArray, List.set_cons_zero, List.set_cons_succ]
        refine wpAnyH_ready (rs := [7]) (by kernel_rfl) (by simp) ?_
        refine AllReadyH.cons (o := { dst := some 64, op := Op.call { callee := Callee.builtin Builtin.append, args := #[Operand.tmp 58, Operand.tmp 63], argTypes := #[26, 26] }, type := 26, pos := _, after := #[{ on := 1, ground := Ground.data }, { on := 6, ground := Ground.data }], guard := none }) rfl (fun K hK => ?_) AllReadyH.nil
        have T8 := W4.out.outs.alloc (.cells #[.int .i64 d] 3)
        refine step_append_lies _ (by rfl) (.tmp 58) (.tmp 63) 26 (by rfl) (w1.heap.size + 1) 3 i0 (.int .i64 0) 1 8 Tryz.underlying26 HI0.out HZ0.out HZ1.out HZ2.out rfl (by decide) (.slice AU us.length cU) us.length (ints us) (by rfl) T8 ⟨w4.heap.size, 0, none⟩ 1 1 [.int .i64 d] (by rfl) rfl (new_cells w4 _ _) (by intro u hu; simp at hu; rcases hu with rfl; rfl) (by decide) (by unfold maxLen; have := HTL.out; omega) (by have := HTL.out; omega) (by simp; omega) (w4.heap.size + 1) (by simp) ?_
        intro g9 cap9 w9 hown9 hg9 hat9 hlt9
        have hg9' := (World.grownBy_alloc w4 (.cells #[.int .i64 d] 3) (Value.slice AU us.length cU).ownBlock).trans (show (w4.alloc (.cells #[.int .i64 d] 3)).grownBy w9 (Value.slice AU us.length cU).ownBlock from ⟨hg9.os, hg9.tape, hg9.output, hg9.size, hg9.block⟩)
        have B9 := W4.out.pk.grown hg9' (fun e => own_other W4.out.outs W4.out.pk (by decide) e.symm)
        have k9 : w9.cell? ⟨w1.heap.size, 2, none⟩ = some (.slice AU us.length cU) := B9.cell 2
        have f9 := B9.free 2
        refine hK.out _ _ ?_ (fun hHeld => ?_)
        · trivial
        clear hK K
        try simp only [Act.put, List.setIfInBounds_toArray, List.set_cons_zero, List.set_cons_succ]
        refine wpAnyH_ready (rs := [8]) (by kernel_rfl) (by simp) ?_
        refine AllReadyH.cons (o := { dst := some 65, op := Op.fieldAddr 33 (Operand.tmp 6) 2, type := 0, pos := _, after := #[{ on := 0, ground := Ground.phase }, { on := 1, ground := Ground.phase }, { on := 2, ground := Ground.phase }, { on := 3, ground := Ground.phase }, { on := 4, ground := Ground.phase }, { on := 5, ground := Ground.phase }, { on := 6, ground := Ground.phase }, { on := 7, ground := Ground.phase }], guard := none }) rfl (fun K hK => ?_) AllReadyH.nil
        go_simp
        refine hK.out _ _ ?_ (fun hHeld => ?_)
        · trivial
        clear hK K
        try simp only [Act.put, List.setIfInBounds_toArray, List.set_cons_zero, List.set_cons_succ]
        refine wpAnyH_ready (rs := [9]) (by kernel_rfl) (by simp) ?_
        refine AllReadyH.cons (o := { dst := none, op := Op.store 26 (Operand.tmp 65) (Operand.tmp 64), type := 0, pos := _, after := #[{ on := 8, ground := Ground.data }, { on := 7, ground := Ground.data }, { on := 7, ground := Ground.chain }, { on := 0, ground := Ground.phase }, { on := 1, ground := Ground.phase }, { on := 2, ground := Ground.phase }, { on := 3, ground := Ground.phase }, { on := 4, ground := Ground.phase }, { on := 5, ground := Ground.phase }, { on := 6, ground := Ground.phase }, { on := 7, ground := Ground.phase }], guard := none }) rfl (fun K hK => ?_) AllReadyH.nil
        go_simp
        refine hK.out _ _ ?_ (fun hHeld => ?_)
        · trivial
        clear hK K
        try simp only [Act.put, List.setIfInBounds_toArray, List.set_cons_zero, List.set_cons_succ]
        refine wpAnyH_done (by kernel_rfl) ?_ _
        have W9 := Lib.hid (W4.out.out hown9 hg9')
        clear hown9 hg9' hg9 hat9 hlt9 B9 k9 f9 hHeld
        go_wp2_with fail
        go_roundw
        case rel => exact ⟨k + 1, _, _, by omega, by go_num, by rw [HTK.out]; exact W9.out, by rw [HTK.out, List.any_append, HA.out]; simp [hneg]⟩
        case measure => simp [intOf]; omega
      · skip
        go_simp
        refine hK.out _ _ ?_ (fun hHeld => ?_)
        · trivial
        clear hK K
        try simp only [Act.put, List.setIfInBounds_toArray, List.set_cons_zero, List.set_cons_succ]
        refine wpAnyH_ready (rs := [1]) (by kernel_rfl) (by simp) ?_
        refine AllReadyH.cons (o := { dst := some 58, op := Op.load 26 (Operand.tmp 57), type := 26, pos := _, after := #[{ on := 0, ground := Ground.data }], guard := none }) rfl (fun K hK => ?_) AllReadyH.nil
        go_simp
        refine hK.out _ _ ?_ (fun hHeld => ?_)
        · trivial
        clear hK K
        try simp only [Act.put, List.setIfInBounds_toArray, List.set_cons_zero, List.set_cons_succ]
        refine wpAnyH_ready (rs := [7]) (by kernel_rfl) (by simp) ?_
        refine AllReadyH.cons (o := { dst := some 64, op := Op.call { callee := Callee.builtin Builtin.append, args := #[Operand.tmp 58, Operand.tmp 63], argTypes := #[26, 26] }, type := 26, pos := _, after := #[{ on := 1, ground := Ground.data }, { on := 6, ground := Ground.data }], guard := none }) rfl (fun K hK => ?_) AllReadyH.nil
        have T8 := W4.out.outs.alloc (.cells #[.int .i64 d] 3)
        refine step_append_lies _ (by rfl) (.tmp 58) (.tmp 63) 26 (by rfl) (w1.heap.size + 1) 3 i0 (.int .i64 0) 1 8 Tryz.underlying26 HI0.out HZ0.out HZ1.out HZ2.out rfl (by decide) (.slice AU us.length cU) us.length (ints us) (by rfl) T8 ⟨w4.heap.size, 0, none⟩ 1 1 [.int .i64 d] (by rfl) rfl (new_cells w4 _ _) (by intro u hu; simp at hu; rcases hu with rfl; rfl) (by decide) (by unfold maxLen; have := HTL.out; omega) (by have := HTL.out; omega) (by simp; omega) (w4.heap.size + 1) (by simp) ?_
        intro g9 cap9 w9 hown9 hg9 hat9 hlt9
        have hg9' := (World.grownBy_alloc w4 (.cells #[.int .i64 d] 3) (Value.slice AU us.length cU).ownBlock).trans (show (w4.alloc (.cells #[.int .i64 d] 3)).grownBy w9 (Value.slice AU us.length cU).ownBlock from ⟨hg9.os, hg9.tape, hg9.output, hg9.size, hg9.block⟩)
        have B9 := W4.out.pk.grown hg9' (fun e => own_other W4.out.outs W4.out.pk (by decide) e.symm)
        have k9 : w9.cell? ⟨w1.heap.size, 2, none⟩ = some (.slice AU us.length cU) := B9.cell 2
        have f9 := B9.free 2
        refine hK.out _ _ ?_ (fun hHeld => ?_)
        · trivial
        clear hK K
        try simp only [Act.put, List.setIfInBounds_toArray, List.set_cons_zero, List.set_cons_succ]
        refine wpAnyH_ready (rs := [8]) (by kernel_rfl) (by simp) ?_
        refine AllReadyH.cons (o := { dst := some 65, op := Op.fieldAddr 33 (Operand.tmp 6) 2, type := 0, pos := _, after := #[{ on := 0, ground := Ground.phase }, { on := 1, ground := Ground.phase }, { on := 2, ground := Ground.phase }, { on := 3, ground := Ground.phase }, { on := 4, ground := Ground.phase }, { on := 5, ground := Ground.phase }, { on := 6, ground := Ground.phase }, { on := 7, ground := Ground.phase }], guard := none }) rfl (fun K hK => ?_) AllReadyH.nil
        go_simp
        refine hK.out _ _ ?_ (fun hHeld => ?_)
        · trivial
        clear hK K
        try simp only [Act.put, List.setIfInBounds_toArray, List.set_cons_zero, List.set_cons_succ]
        refine wpAnyH_ready (rs := [9]) (by kernel_rfl) (by simp) ?_
        refine AllReadyH.cons (o := { dst := none, op := Op.store 26 (Operand.tmp 65) (Operand.tmp 64), type := 0, pos := _, after := #[{ on := 8, ground := Ground.data }, { on := 7, ground := Ground.data }, { on := 7, ground := Ground.chain }, { on := 0, ground := Ground.phase }, { on := 1, ground := Ground.phase }, { on := 2, ground := Ground.phase }, { on := 3, ground := Ground.phase }, { on := 4, ground := Ground.phase }, { on := 5, ground := Ground.phase }, { on := 6, ground := Ground.phase }, { on := 7, ground := Ground.phase }], guard := none }) rfl (fun K hK => ?_) AllReadyH.nil
        go_simp
        refine hK.out _ _ ?_ (fun hHeld => ?_)
        · trivial
        clear hK K
        try simp only [Act.put, List.setIfInBounds_toArray, List.set_cons_zero, List.set_cons_succ]
        refine wpAnyH_done (by kernel_rfl) ?_ _
        have W9 := Lib.hid (W4.out.out hown9 hg9')
        clear hown9 hg9' hg9 hat9 hlt9 B9 k9 f9 hHeld
        go_wp2_with fail
        go_roundw
        case rel => exact ⟨k + 1, _, _, by omega, by go_num, by rw [HTK.out]; exact W9.out, by rw [HTK.out, List.any_append, HA.out]; simp [hneg]⟩
        case measure => simp [intOf]; omega

theorem read_any (C : Cfg) (w : World) (hin : C.In w) (hf : C.few) : READ C w (ReadOut C w) := by
  by_cases h : dE C = 0
  · exact read_yes C w hin hf h
  · exact read_no C w hin hf h

end Go.Proofs.YtoloaecbfglaeaaGreat
