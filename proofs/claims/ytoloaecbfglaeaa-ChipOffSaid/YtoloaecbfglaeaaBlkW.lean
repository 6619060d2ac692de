/- Walk of filigree/chip.block: the block of a tile whose inputs are driven so. -/
import Derived.Test.YtoloaecbfglaeaaBlk
namespace Go.Proofs.Ytoloaecbfglaeaa
open Go.RowKit Topo
set_option linter.unusedVariables false
set_option linter.unusedSimpArgs false

def BlockOut (t : Nat) (ff it : Bool) (D : List Int) (w : World) (e : Ending) (w' : World) : Prop :=
  ∃ A c, e = .returned (.agg #[.slice A (ipL D 4).length c, .int .i64 (blockT D t : Int), .bool ff, .bool it]) ∧ Below w.heap.size w w' ∧ w'.ownsRow w.heap.size 3 1 (.slice A (ipL D 4).length c) (ipL D 4).length (ints (natI (ipL D 4)))
set_option maxRecDepth 100000 in
set_option maxHeartbeats 8000000 in
theorem block_any (t : Nat) (ff it : Bool) (d0 d1 d2 d3 : Int) (w : World) (ht : t < 65536) (h0 : -1 ≤ d0 ∧ d0 ≤ 1000000) (h1 : -1 ≤ d1 ∧ d1 ≤ 1000000) (h2 : -1 ≤ d2 ∧ d2 ≤ 1000000) (h3 : -1 ≤ d3 ∧ d3 ≤ 1000000) :
    Calls Try.prog 66 #[.agg #[.int .i64 (t : Int), .bool ff, .bool it], .agg #[.int .i64 d0, .int .i64 d1, .int .i64 d2, .int .i64 d3]] w (BlockOut t ff it [d0, d1, d2, d3] w) := by
  have hD : ∀ k, k < 4 → -1 ≤ [d0, d1, d2, d3].getD k 0 ∧ [d0, d1, d2, d3].getD k 0 ≤ 1000000 := fun k hk => by
    rcases lt4 hk with rfl | rfl | rfl | rfl <;> assumption
  have hix : ∀ (k : Nat) (w : World), k < 4 → (Instr.index 99 (.agg #[.int .i64 d0, .int .i64 d1, .int .i64 d2, .int .i64 d3]) (.int .i64 (k : Int))).run Try.prog w = .ok (.int .i64 ([d0, d1, d2, d3].getD k 0)) w := fun k w hk => by
    rcases lt4 hk with rfl | rfl | rfl | rfl <;> kernel_rfl
  obtain ⟨i0, hi0, hz0, hz1, hz2⟩ := info_parts int_info
  obtain ⟨D, hDD⟩ : ∃ D, [d0, d1, d2, d3] = D := ⟨_, rfl⟩
  rw [hDD] at hD hix ⊢
  have HD := Lib.hid hD
  have HIX := Lib.hid hix
  have HI0 := Lib.hid hi0
  have HZ0 := Lib.hid hz0
  have HZ1 := Lib.hid hz1
  have HZ2 := Lib.hid hz2
  have HT := Lib.hid ht
  clear hDD hD hix hi0 hz0 hz1 hz2 h0 h1 h2 h3
  go_enter Try.func66, Try.ntmps66
  go_wp2_with fail
  go_loopw [6, 19] (fun v6 v19 wx => ∃ (k : Nat) (f : Nat → Nat) (AK : Option Addr) (cK : Nat) (AI : Option Addr) (cI : Nat), k ≤ 4 ∧ v19 = .int .i64 (k : Int) ∧ v6 = .slice AK (kpL D k).length cK ∧ KW w wx t ff it f AK cK (kpL D k) AI cI (ipL D k) 0) (fun _ v19 _ => 4 - (intOf v19).toNat)
  case atStart => exact ⟨0, _, none, 0, none, 0, by omega, rfl, rfl, KW.start w t ff it _ _⟩
  case round =>
    obtain ⟨k, f, AK, cK, AI, cI, hk, rfl, rfl, hW⟩ := hrel
    have W1 := Lib.hid hW
    clear hW
    by_cases hlt : k < 4
    case neg =>
      obtain rfl : k = 4 := by omega
      rw [show (((4 : Nat) : Int)) = 4 from rfl]
      have hkl := kpL_len D 4
      have hil := ipL_len D 4
      have hso := fun i => kp_spr D i
      have hsa := fun i j hj => kp_spr_at D i (j := j) hj
      have hga := fun j hj => kp_get (D := D) (k := 4) (j := j) hj
      have hbt : blockT D t = pk (spread (kpL D 4)) t (2 ^ (kpL D 4).length) := rfl
      have HBT := Lib.hid hbt
      have HIL := Lib.hid hil
      clear hbt hil
      generalize kpL D 4 = K at W1 hkl hso hsa hga HBT HIL
      have HSO := Lib.hid hso
      have HSA := Lib.hid hsa
      have HGA := Lib.hid hga
      have HPK := Lib.hid (fun i h => pk_step K t (i := i) h)
      have HPL := Lib.hid (fun i => pk_lt (spread K) t i)
      clear hso hsa hga
      obtain ⟨m, hm⟩ : ∃ m, K.length = m := ⟨_, rfl⟩
      rw [hm] at hkl HSO HSA HGA HPK HBT HIL ⊢
      have HM := Lib.hid hm
      obtain ⟨p, hp⟩ : ∃ p, 2 ^ m = p := ⟨_, rfl⟩
      have hp16 : p ≤ 16 := by rw [← hp]; exact Nat.pow_le_pow_right (n := 2) (by omega) hkl
      rw [hp] at HBT HPK
      have hsh := pow_nat hp
      have HP := Lib.hid hp
      clear hm hp
      go_wp2_with fail
      go_loopw [39] (fun v39 wx => ∃ (i : Nat), i ≤ p ∧ v39 = .int .i64 (i : Int) ∧ KW w wx t ff it f AK cK K AI cI (ipL D 4) (pk (spread K) t i : Int)) (fun v39 _ => p - (intOf v39).toNat)
      case atStart => exact ⟨0, by omega, rfl, W1.out⟩
      case round =>
        obtain ⟨i, hi, rfl, hW⟩ := hrel
        have W2 := Lib.hid hW
        clear hW W1
        by_cases hip : i < p
        case neg =>
          obtain rfl : i = p := by omega
          have k0 := W2.out.b.cell 0
          have k1 := W2.out.b.cell 1
          have k2 := W2.out.b.cell 2
          have k3 := W2.out.b.cell 3
          have r0 := W2.out.res.cell 0
          have r1 := W2.out.res.cell 1
          have r2 := W2.out.res.cell 2
          have r3 := W2.out.res.cell 3
          have f0 := W2.out.res.free 0
          have f1 := W2.out.res.free 1
          have f2 := W2.out.res.free 2
          have f3 := W2.out.res.free 3
          have hz2 := W2.out.lt
          rw [← HBT.out] at W2 k1
          obtain ⟨T, hT⟩ : ∃ T, blockT D t = T := ⟨_, rfl⟩
          rw [hT] at W2 k1
          have HTT := Lib.hid hT
          have hci : (Try.prog.info? 56).map (·.size) = some 4 := by kernel_rfl
          have HCI := Lib.hid hci
          clear hsh hT hci
          go_wp2_with fail
          have i1 := W2.out.ins.apart W2.out.res (by decide) 0 (.slice AI (ipL D 4).length cI)
          have R1 := W2.out.res.put 0 (.slice AI (ipL D 4).length cI)
          have i2 := i1.apart R1 (by decide) 1 (.int .i64 (T : Int))
          have R2 := R1.put 1 (.int .i64 (T : Int))
          have i3 := i2.apart R2 (by decide) 2 (.bool ff)
          have R3 := R2.put 2 (.bool ff)
          have i4 := i3.apart R3 (by decide) 3 (.bool it)
          have hb4 : ∀ {W : World} (hB : Below w.heap.size w W) (j : Nat) (v : Value), Below w.heap.size w (W.setCell ⟨w.heap.size + 1 + 1, j, none⟩ v) := fun hB j v => hB.setCell (p := ⟨w.heap.size + 1 + 1, j, none⟩) (show w.heap.size ≤ w.heap.size + 1 + 1 by omega) v
          refine bodyPost_ret (v := .agg #[.slice AI (ipL D 4).length cI, .int .i64 (T : Int), .bool ff, .bool it]) ?_ rfl ⟨AI, cI, by rw [HTT.out], hb4 (hb4 (hb4 (hb4 W2.out.below 0 _) 1 _) 2 _) 3 _, own_base_le i4.own (by omega)⟩
          exact results_cell_row rfl _ _ (w.heap.size + 1 + 1) 56 _ (0, 0) _ rfl (set4 W2.out.res _ _ _ _) Try.underlying56 rfl HCI.out
        obtain ⟨wo, hwo⟩ : ∃ wo : World, wo = wr := ⟨_, rfl⟩
        rw [← hwo] at W2 ⊢
        clear hwo
        go_wp2_with fail
        go_loop [10, 44] (fun v10 v44 => ∃ (j : Nat), j ≤ m ∧ v44 = .int .i64 (j : Int) ∧ v10 = .int .i64 (spr K i j : Int)) (fun _ v44 => m - (intOf v44).toNat)
        case atStart => exact ⟨0, by omega, rfl, rfl⟩
        case round =>
          obtain ⟨j, hj, rfl, rfl⟩ := hrel
          by_cases hjm : j < m
          case neg =>
            obtain rfl : j = m := by omega
            have hn16 := HSO.out i
            have hpk := HPK.out i (by rw [← HP.out] at hip; rw [HP.out] at hip; exact hip)
            have hpl := HPL.out i
            obtain ⟨nv, hnv⟩ : ∃ nv, spr K i j = nv := ⟨_, rfl⟩
            rw [hnv] at hn16 hpk ⊢
            have hb := bit_on t nv (by omega) (by omega)
            have ho := bit_set (pk (spread K) t i) i hpl (by omega)
            obtain ⟨pn, hpn⟩ : ∃ pn, 2 ^ nv = pn := ⟨_, rfl⟩
            obtain ⟨q, hq⟩ : ∃ q, 2 ^ i = q := ⟨_, rfl⟩
            have hp1 : 1 ≤ pn := by rw [← hpn]; exact Nat.two_pow_pos nv
            have hp2 : pn ≤ 65536 := by rw [← hpn]; exact Nat.pow_le_pow_right (n := 2) (j := 16) (by omega) (by omega)
            have hq2 : q ≤ 65536 := by rw [← hq]; exact Nat.pow_le_pow_right (n := 2) (j := 16) (by omega) (by omega)
            have hsj := pow_nat hpn
            have hsq := pow_nat hq
            have hT : pk (spread K) t i < 65536 := by rw [hq] at hpl; omega
            rw [hpn] at hb hpk
            rw [hq] at ho hpk
            have HPK2 := Lib.hid hpk
            have hb01 : t / pn % 2 = 0 ∨ t / pn % 2 = 1 := by omega
            have hne : ((pn : Int) != 0) = true := by rw [bne_iff_ne]; omega
            have k2 := W2.out.tile.cell 0
            have k5 := W2.out.b.cell 1
            have k6 := W2.out.b.free 1
            have hz2 := W2.out.lt
            generalize pk (spread K) t i = T at ho HPK2 hT k5 W2
            clear hnv hpk hpl hpn hq hsh
            rcases hb01 with h01 | h01
            · rw [h01, Nat.zero_mul] at hb
              have hsn := HPK2.out
              rw [h01, Nat.zero_mul, Nat.add_zero] at hsn
              have HSN2 := Lib.hid hsn
              clear hsn h01
              go_wp2_with fail
              go_quiet (fail)
              go_wp2_with fail
              go_roundw
              case rel => exact ⟨i + 1, by omega, by go_num, by rw [HSN2.out]; exact W2.out.drew _⟩
              case measure => simp [intOf]; omega
            · rw [h01, Nat.one_mul] at hb
              have hsn := HPK2.out
              rw [h01, Nat.one_mul] at hsn
              have HSN2 := Lib.hid hsn
              clear hsn h01
              go_wp2_with fail
              go_quiet (fail)
              go_wp2_with fail
              go_region
              go_wp2_with fail
              go_roundw
              case rel => exact ⟨i + 1, by omega, by go_num, by rw [HSN2.out, show ((T + q : Nat) : Int) = (T : Int) + (q : Int) by omega]; exact (W2.out.drew _).setT _⟩
              case measure => simp [intOf]; omega
          have hml := HM.out
          obtain ⟨ak, hAK, -, cx⟩ := (Rd.of_own W2.out.kept.own).int (k := j) (by omega)
          subst hAK
          rw [natI_getD] at cx
          have hg := HGA.out j hjm
          have hs1 := HSA.out i j hjm
          have hsn : spr K i (j + 1) = spr K i j + i / 2 ^ j % 2 * 2 ^ K.getD j 0 := rfl
          obtain ⟨kk, hkk⟩ : ∃ kk, K.getD j 0 = kk := ⟨_, rfl⟩
          rw [hkk] at cx hg hs1 hsn
          have hb := bit_on i j (by omega) (by omega)
          have ho := bit_set (spr K i j) kk hs1 (by omega)
          obtain ⟨pj, hpj⟩ : ∃ pj, 2 ^ j = pj := ⟨_, rfl⟩
          obtain ⟨q, hq⟩ : ∃ q, 2 ^ kk = q := ⟨_, rfl⟩
          have hp1 : 1 ≤ pj := by rw [← hpj]; exact Nat.two_pow_pos j
          have hp2 : pj ≤ 16 := by rw [← hpj]; exact Nat.pow_le_pow_right (n := 2) (j := 4) (by omega) (by omega)
          have hq2 : q ≤ 16 := by rw [← hq]; exact Nat.pow_le_pow_right (n := 2) (j := 4) (by omega) (by omega)
          have hsj := pow_nat hpj
          have hsq := pow_nat hq
          have hs16 : spr K i j < 16 := by rw [hq] at hs1; omega
          rw [hpj] at hb hsn
          rw [hq] at ho hsn
          have HSN := Lib.hid hsn
          have hb01 : i / pj % 2 = 0 ∨ i / pj % 2 = 1 := by omega
          have hi16 : i ≤ 16 := by omega
          have hne : ((pj : Int) != 0) = true := by rw [bne_iff_ne]; omega
          generalize spr K i j = sv at ho HSN hs16
          clear hkk hs1 hsn hpj hq hml
          rcases hb01 with h01 | h01
          · rw [h01, Nat.zero_mul] at hb
            have hsn := HSN.out
            rw [h01, Nat.zero_mul, Nat.add_zero] at hsn
            have HSN2 := Lib.hid hsn
            clear hsn h01
            go_wp2_with fail
            go_round
            case rel => exact ⟨j + 1, by omega, by go_num, by rw [HSN2.out]; go_num⟩
            case measure => simp [intOf]; omega
          · rw [h01, Nat.one_mul] at hb
            have hsn := HSN.out
            rw [h01, Nat.one_mul] at hsn
            have HSN2 := Lib.hid hsn
            clear hsn h01
            go_wp2_with fail
            go_round
            case rel => exact ⟨j + 1, by omega, by go_num, by rw [HSN2.out]; go_num⟩
            case measure => simp [intOf]; omega
    have hix := fun w => HIX.out k w hlt
    obtain ⟨hd1, hd2⟩ := HD.out k hlt
    have KN := Lib.hid (kpL_next D k)
    have IN := Lib.hid (ipL_next D k)
    obtain ⟨x, hx⟩ : ∃ x, D.getD k 0 = x := ⟨_, rfl⟩
    rw [hx] at hix hd1 hd2 KN IN
    have hkl := kpL_len D k
    have hil := ipL_len D k
    have HIL := Lib.hid hil
    obtain ⟨n, hn⟩ : ∃ n, (kpL D k).length = n := ⟨_, rfl⟩
    clear hx hil
    by_cases hx : 0 ≤ x
    case neg =>
      have KN' := KN.out
      have IN' := IN.out
      rw [if_neg hx] at KN' IN'
      have KN2 := Lib.hid KN'
      have IN2 := Lib.hid IN'
      clear KN' IN' hn
      go_wp2_with fail
      go_roundw
      case rel => exact ⟨k + 1, f, AK, cK, AI, cI, by omega, by go_num, by rw [KN2.out], by rw [KN2.out, IN2.out]; exact W1.out⟩
      case measure => simp [intOf]; omega
    obtain ⟨X, rfl⟩ := Int.eq_ofNat_of_zero_le hx
    have KN' := KN.out
    have IN' := IN.out
    rw [if_pos hx] at KN' IN'
    rw [Int.toNat_natCast] at IN'
    have KN2 := Lib.hid KN'
    have IN2 := Lib.hid IN'
    have hz := W1.out.lt
    have W2 := Lib.hid (W1.out.keep (below_new wr (.cells #[.int .i64 (k : Int)] 3)))
    clear KN' IN' hn KN IN
    go_wp2_with (at_builtin; refine wpList_append_own_at _ rfl (.tmp 25) (.tmp 27) 26 rfl (w.heap.size + 1 + 1 + 1 + 1) 3 i0 (.int .i64 0) 1 8 Try.underlying26 HI0.out HZ0.out HZ1.out HZ2.out rfl (by decide) (.slice AK (kpL D k).length cK) ((kpL D k).length) (ints (natI (kpL D k))) rfl W2.out.kept.own ⟨wr.heap.size, 0, none⟩ 1 1 [.int .i64 (k : Int)] rfl rfl ?c1 ?c2 ?c3 ?c4 ?c5 ?_)
    (try (case c1 => exact new_cells _ _ _))
    case c2 => first | rfl | (intro u hu; simp at hu; rcases hu with rfl; rfl)
    case c3 => unfold maxLen; omega
    case c4 => omega
    case c5 => first | omega | (simp; omega)
    intro v' w3 hown3 hg3 hnil3 hat3
    obtain ⟨qB, qd, rfl⟩ := own_slice hown3
    have W3 := Lib.hid (W2.out.nextK hown3 hg3 (by rw [World.size_alloc]; exact hat3))
    have b3 := W3.out.b.cell 0
    have hz3 := W3.out.lt
    have hil : (ipL D k).length ≤ 4 := by rw [HIL.out]; omega
    have W4 := Lib.hid (W3.out.keep (below_new w3 (.cells #[.int .i64 (X : Int)] 3)))
    clear hown3 hg3 hnil3 hat3 W2 W1
    go_wp2_with (at_builtin; refine wpList_append_own_at _ rfl (.tmp 30) (.tmp 32) 26 rfl (w.heap.size + 1 + 1 + 1 + 1) 3 i0 (.int .i64 0) 1 8 Try.underlying26 HI0.out HZ0.out HZ1.out HZ2.out rfl (by decide) (.slice AI (ipL D k).length cI) ((ipL D k).length) (ints (natI (ipL D k))) rfl W4.out.ins.own ⟨w3.heap.size, 0, none⟩ 1 1 [.int .i64 (X : Int)] rfl rfl ?c1 ?c2 ?c3 ?c4 ?c5 ?_)
    (try (case c1 => exact new_cells _ _ _))
    case c2 => first | rfl | (intro u hu; simp at hu; rcases hu with rfl; rfl)
    case c3 => unfold maxLen; omega
    case c4 => omega
    case c5 => first | omega | (simp; omega)
    intro v' w5 hown5 hg5 hnil5 hat5
    obtain ⟨qC, qe, rfl⟩ := own_slice hown5
    have W5 := Lib.hid (W4.out.nextI hown5 hg5 (by rw [World.size_alloc]; exact hat5))
    have hb5 := W4.out.ins.blk W4.out.b (by decide) hg5
    have b5 := hb5.cell 0
    have f5 := hb5.free 0
    clear hown5 hg5 hnil5 hat5 W4 W3 hb5
    go_wp2_with fail
    go_roundw
    case rel => exact ⟨k + 1, _, qB, qd, qC, qe, by omega, by go_num, by rw [KN2.out]; simp, by rw [KN2.out, IN2.out]; exact W5.out⟩
    case measure => simp [intOf]; omega
end Go.Proofs.Ytoloaecbfglaeaa
