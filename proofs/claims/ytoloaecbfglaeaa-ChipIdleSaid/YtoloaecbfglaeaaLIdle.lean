/- The law ChipIdle: a tile's table that nobody reads says nothing. -/
import Derived.Test.YtoloaecbfglaeaaOpenR
import Derived.Test.YtoloaecbfglaeaaRun
import Derived.Test.YtoloaecbfglaeaaFrame
import Derived.Test.YtoloaecbfglaeaaLWhat
import Derived.Test.YtoloaecbfglaeaaLive32
import Derived.Test.YtoloaecbfglaeaaIdleC

namespace Go.Proofs.Ytoloaecbfglaeaa
open Go.ChangeShapes Go.WideShapes Go.ChangeAt Go.RowKit Go.Joins
set_option linter.unusedVariables false
set_option linter.unusedSimpArgs false

theorem tiles3_set (T : Int) : ∀ (l : List TL) (k : Nat), k < l.length → (tiles3 l).set (k * 3) (.int .i64 T) = tiles3 (l.set k (T, (l[k]!).2))
  | [], k, h => by simp at h
  | t :: l, 0, _ => by simp [tiles3]
  | t :: l, k + 1, h => by
    have ih := tiles3_set T l k (by simpa using h)
    have e : ∀ t l, tiles3 (t :: l) = [.int .i64 t.1, .bool t.2.1, .bool t.2.2] ++ tiles3 l := fun _ _ => rfl
    rw [e, show (k + 1) * 3 = k * 3 + 3 by omega, List.set_append_right _ _ (by simp)]
    simp only [List.length_cons, List.length_nil, Nat.add_sub_cancel, List.set_cons_succ]
    rw [e, show (t :: l)[k + 1]! = l[k]! by simp, ← ih]
theorem Rd.setFar {w6 w9 : World} {s : Nat} {A : Option Addr} {n c : Nat} {xs : List Value} (h6 : Rd w6 s A n c xs) (h : Rd w9 s A n c xs) {g i : Nat} {u : Value} (hg : w6.heap.size ≤ g) : Rd (w9.setCell ⟨g, i, none⟩ u) s A n c xs := by
  refine ⟨h.len, h.cap, h.nil, fun j v hj => ?_⟩
  obtain ⟨a, e, h1, h2⟩ := h.read j v hj
  obtain ⟨a', e', h1', -⟩ := h6.read j v hj
  rw [e] at e'
  injection e' with e'
  subst e'
  refine ⟨a, e, by simpa using h1, ?_⟩
  rw [World.cell?_setCell_other _ _ _ _ (fun he => by have := congrArg Addr.block he; rw [add_block] at this; simp at *; omega)]
  exact h2
theorem RowsIn.setFar {A : Option Addr} {c : Nat} {L : List BR} {w6 w9 : World} (h6 : RowsIn A c L w6) (h : RowsIn A c L w9) {g i : Nat} {u : Value} (hg : w6.heap.size ≤ g) : RowsIn A c L (w9.setCell ⟨g, i, none⟩ u) :=
  ⟨h6.rows.setFar h.rows hg, fun b hb => (h6.each b hb).setFar (h.each b hb) hg⟩

set_option maxRecDepth 100000 in
set_option maxHeartbeats 8000000 in
theorem chipIdle_walk (C : Cfg) (RA : Option Addr) (rc : Nat) (L : List BR) (t T : Int) (w : World) (hin : C.In w) (hwf : C.wf) (hL : RowsIn RA rc L w) (hn : L.length ≤ maxLen) (hb : ∀ b ∈ L, b.l.length ≤ maxLen) (hT : 0 ≤ T ∧ T ≤ 65535) :
    Calls Try.prog 10 #[.agg #[.int .i64 C.W, .int .i64 C.H, .int .i64 C.T, .slice C.AT C.tiles.length C.cT, .slice C.AO C.on.length C.cO, .slice C.AI C.ins.length C.cI, .slice C.AU C.outs.length C.cU], .slice RA L.length rc, .int .i64 t, .int .u16 T] w fun e w' => e = .returned (.bool true) ∧ Below w.heap.size w w' := by
  have X0 := Lib.hid (Blk.made w 28 C.cells)
  have Q0 := Lib.hid (below_new w (.cells #[.int .i64 C.W, .int .i64 C.H, .int .i64 C.T, .slice C.AT C.tiles.length C.cT, .slice C.AO C.on.length C.cO, .slice C.AI C.ins.length C.cI, .slice C.AU C.outs.length C.cU] 28))
  have HIN := Lib.hid hin
  have HL := Lib.hid hL
  have HB := Lib.hid hb
  have HN := Lib.hid hn
  have HT := Lib.hid hT
  clear hin hL hb hn hT
  go_enter Try.func10, Try.ntmps10
  go_wp2_with fail
  refine (live32_any _).mono ?_
  rintro e w1 ⟨rfl, hb1⟩
  have Q1 := Lib.hid (below_then Q0.out hb1)
  have X1 := Lib.hid (X0.out.keep hb1)
  clear hb1
  have k0 := X1.out.cell 0
  have k1 := X1.out.cell 1
  have k2 := X1.out.cell 2
  have k3 := X1.out.cell 3
  have k4 := X1.out.cell 4
  have k5 := X1.out.cell 5
  have k6 := X1.out.cell 6
  by_cases hs : few32 C
  case neg =>
    go_wp2_with fail
    refine (few32_no _ _ hs).mono ?_
    rintro e w2 ⟨rfl, hb2⟩
    have Q2 := Lib.hid (below_then Q1.out hb2)
    clear hb2
    go_wp2_with fail
    go_ret
    exact ⟨rfl, Q2.out⟩
  have HS := Lib.hid hs
  go_wp2_with fail
  refine (few32_yes _ _ HS.out).mono ?_
  rintro e w2 ⟨rfl, hb2⟩
  have Q2 := Lib.hid (below_then Q1.out hb2)
  have X2 := Lib.hid (X1.out.keep hb2)
  clear hb2 k0 k1 k2 k3 k4 k5 k6 hs X1 Q1 X0 Q0
  have hfr := fewRows_any w2 RA rc L 20 (HL.out.later Q2.out) HN.out (by decide) HB.out
  have HFR := Lib.hid hfr
  clear hfr
  by_cases hr : fewR L 20
  case neg =>
    have hfr := HFR.out
    rw [decide_eq_false hr] at hfr
    have HFR2 := Lib.hid hfr
    clear hfr hr
    go_wp2_with fail
    refine HFR2.out.mono ?_
    rintro e w3 ⟨rfl, rfl⟩
    go_wp2_with fail
    go_ret
    exact ⟨rfl, Q2.out⟩
  have hfr := HFR.out
  rw [decide_eq_true hr] at hfr
  have HFR2 := Lib.hid hfr
  have HR := Lib.hid hr
  have k0 := X2.out.cell 0
  have k1 := X2.out.cell 1
  have k2 := X2.out.cell 2
  have k3 := X2.out.cell 3
  have k4 := X2.out.cell 4
  have k5 := X2.out.cell 5
  have k6 := X2.out.cell 6
  have hnt := HS.out.2.2.2.1
  have hni := HS.out.2.2.2.2.2.1
  clear hfr hr
  by_cases h0 : t < 0
  case pos =>
    go_wp2_with fail
    refine HFR2.out.mono ?_
    rintro e w3 ⟨rfl, rfl⟩
    go_wp2_with fail
    go_ret
    exact ⟨rfl, Q2.out⟩
  obtain ⟨tn, rfl⟩ := Int.eq_ofNat_of_zero_le (show 0 ≤ t by omega)
  by_cases h1 : (C.tiles.length : Int) ≤ (tn : Int)
  case pos =>
    go_wp2_with fail
    refine HFR2.out.mono ?_
    rintro e w3 ⟨rfl, rfl⟩
    go_wp2_with fail
    go_ret
    exact ⟨rfl, Q2.out⟩
  have htn : tn < C.tiles.length := by omega
  have hre := read_any C w2 (HIN.out.later Q2.out) (few32_few HS.out)
  unfold READ at hre
  have HRE := Lib.hid hre
  clear hre
  go_wp2_with fail
  refine HFR2.out.mono ?_
  rintro e w3 ⟨rfl, rfl⟩
  go_wp2_with fail
  refine HRE.out.mono ?_
  rintro e w3 ⟨P, x, rfl, hb3, hP, hPf, hR, -⟩
  obtain ⟨AB, hAB⟩ : ∃ A, P.AB = A := ⟨_, rfl⟩
  obtain ⟨AO, hAO⟩ : ∃ A, P.AO = A := ⟨_, rfl⟩
  rw [hAB, hAO]
  have HAB := Lib.hid hAB
  have HAO := Lib.hid hAO
  clear hAB hAO
  have X3a := Lib.hid (X2.out.keep hb3)
  have hb4 := below_then hb3 (below_new w3 (.cells #[.int .i64 P.I, .slice AB P.bs.length P.cB, .slice AO P.outs.length P.cO] 49))
  have Q4 := Lib.hid (below_then Q2.out hb4)
  have X4 := Lib.hid (X2.out.keep hb4)
  have P4 := Lib.hid (hP.later (below_new w3 (.cells #[.int .i64 P.I, .slice AB P.bs.length P.cB, .slice AO P.outs.length P.cO] 49)))
  have PF := Lib.hid hPf
  have Y4 := Lib.hid (Blk.made w3 49 #[.int .i64 P.I, .slice AB P.bs.length P.cB, .slice AO P.outs.length P.cO])
  have RR := Lib.hid hR
  clear hb3 hb4 hP hPf hR k0 k1 k2 k3 k4 k5 k6
  by_cases hx : x = 0
  case neg =>
    have hx1 : (x != 0) = true := by rw [bne_iff_ne]; exact hx
    clear hx
    go_wp2_with fail
    go_ret
    exact ⟨rfl, Q4.out⟩
  subst hx
  have k3 : w3.cell? ⟨w.heap.size, 5, none⟩ = some (.slice C.AI C.ins.length C.cI) := X3a.out.cell 5
  have hz3 := X3a.out.lt
  have hnb := PF.out.n
  go_wp2_with fail
  go_loopw [58] (fun v58 wx => ∃ k : Nat, k ≤ P.bs.length ∧ v58 = .int .i64 (k : Int) ∧ Below (w3.alloc (.cells #[.int .i64 P.I, .slice AB P.bs.length P.cB, .slice AO P.outs.length P.cO] 49)).heap.size (w3.alloc (.cells #[.int .i64 P.I, .slice AB P.bs.length P.cB, .slice AO P.outs.length P.cO] 49)) wx ∧ ∀ b ∈ P.bs.take k, ∀ x ∈ b.l, x ≠ (C.ins.length : Int) + (tn : Int)) (fun v58 _ => P.bs.length - (intOf v58).toNat)
  case atStart => exact ⟨0, by omega, rfl, Below.refl _ _, fun b hb => (nomatch hb)⟩
  case round =>
    obtain ⟨k, hk, rfl, hB, hidle⟩ := hrel
    have hB' := hB
    have B5 := Lib.hid hB
    have Q5 := Lib.hid (below_then Q4.out hB')
    have X5 := Lib.hid (X4.out.keep hB')
    have Y5 := Lib.hid (Y4.out.keep hB')
    have P5 := Lib.hid (P4.out.later hB')
    have ID := Lib.hid hidle
    have hz5 := hB.size
    clear hB hB' hidle
    by_cases hlt : k < P.bs.length
    case neg =>
      obtain rfl : k = P.bs.length := by omega
      have hid := ID.out
      rw [List.take_length] at hid
      have ID2 := Lib.hid hid
      have y2 : wr.cell? ⟨w3.heap.size, 2, none⟩ = some (.slice AO P.outs.length P.cO) := Y5.out.cell 2
      have hou := PF.out.o
      clear hid
      go_wp2_with fail
      go_loop [77] (fun v77 => ∃ j : Nat, j ≤ P.outs.length ∧ v77 = .int .i64 (j : Int) ∧ ∀ x ∈ P.outs.take j, x ≠ (C.ins.length : Int) + (tn : Int)) (fun v77 => P.outs.length - (intOf v77).toNat)
      case atStart => exact ⟨0, by omega, rfl, fun x hx => (nomatch hx)⟩
      case round =>
        obtain ⟨j, hj, rfl, hjd⟩ := hrel
        have JD := Lib.hid hjd
        clear hjd
        by_cases hlt2 : j < P.outs.length
        case neg =>
          obtain rfl : j = P.outs.length := by omega
          have hjd := JD.out
          rw [List.take_length] at hjd
          have JD2 := Lib.hid hjd
          obtain ⟨hr1, hr2⟩ := HR.out
          have hr3 : L.length ≤ 1000 := by omega
          have hr4 : ∀ b ∈ L, b.l.length ≤ 100000 := fun b hb => by have := hr1 b hb; omega
          have HR3 := Lib.hid hr3
          have HR4 := Lib.hid hr4
          have k0 := X5.out.cell 0
          have k1 := X5.out.cell 1
          have k2 := X5.out.cell 2
          have k3 := X5.out.cell 3
          have k4 := X5.out.cell 4
          have k5 := X5.out.cell 5
          have k6 := X5.out.cell 6
          clear hjd hr1 hr2 hr3 hr4 y2
          go_wp2_with fail
          refine (chipRun_any C RA rc L _ (HIN.out.later Q5.out) (few32_few HS.out) (HL.out.later Q5.out) HR3.out HR4.out).mono ?_
          rintro e w6 ⟨A1, c1, R1, x1, rfl, hb6, hR1, hH1, hC1⟩
          have H61 := Lib.hid hH1
          have Q6 := Lib.hid (below_then Q5.out hb6)
          have X6 := Lib.hid (X5.out.keep hb6)
          have R61 := Lib.hid hR1
          have C61 := Lib.hid hC1
          clear hb6 hR1 hH1 hC1 k0 k1 k2 k4 k5 k6
          have htc : (Try.prog.info? 60).map (fun i => (i.zero, i.size, i.bytes)) = some (some (.agg #[.int .i64 0, .bool false, .bool false]), 3, 16) := by kernel_rfl
          obtain ⟨i0, hi0, hz0, hz1, hz2⟩ := info_parts htc
          obtain ⟨ad, had, hadb, -⟩ := (HIN.out.tiles.later Q6.out).tile htn
          have k3' : w6.cell? ⟨w.heap.size, 3, none⟩ = some (.slice C.AT C.tiles.length C.cT) := X6.out.cell 3
          have f3 := X6.out.free 3
          have hz6 := X6.out.lt
          have htl := (HIN.out.tiles.later Q6.out)
          rw [had] at k3' htl
          have HTL := Lib.hid htl
          clear htl htc k3 hadb
          go_wp2_with (at_builtin; refine wpList_append_own _ rfl (.const (.slice none 0 0)) (.tmp 92) 24 rfl w6.heap.size 60 i0 (.agg #[.int .i64 0, .bool false, .bool false]) 3 16 Try.underlying24 hi0 hz0 hz1 hz2 rfl (by decide) (.slice none 0 0) 0 [] rfl (World.ownsRow_nil _ _ _ _) ad C.tiles.length C.cT (tiles3 C.tiles) rfl (by rw [tiles3_length]) ?c1 ?c2 ?c3 ?c4 ?c5 ?_)
          case c1 =>
            intro j u hj
            obtain ⟨b, hb1, hb2, hb3⟩ := HTL.out.read j u hj
            injection hb1 with hb1
            subst hb1
            exact hb3
          case c2 =>
            intro u hu
            obtain ⟨x, -, hx⟩ := List.mem_flatMap.1 hu
            simp at hx
            rcases hx with rfl | rfl | rfl <;> rfl
          case c3 => unfold maxLen; omega
          case c4 => omega
          case c5 => first | exact Nat.le_refl _ | omega
          intro v' w8 hown hg8 hnil
          obtain ⟨A8, c8, rfl⟩ := own_slice hown
          try simp only [Nat.zero_add, List.nil_append] at hown
          have X8 := Lib.hid (X6.out.grown hg8 (by simp [Value.ownBlock]))
          have O8 := Lib.hid hown
          have Q8 := Lib.hid (Q6.out.grown hg8 (by omega) (fun k hk => by simp [Value.ownBlock] at hk))
          have c83 := X8.out.cell 3
          have f83 := X8.out.free 3
          have R8 := Lib.hid (R61.out.later ((Below.refl _ _).grown hg8 (Nat.le_refl _) (fun k hk => by simp [Value.ownBlock] at hk)))
          clear hg8 hnil hown
          go_upto_region 27 with (fail)
          obtain ⟨g8, rfl, hg1, hg2⟩ := own_some O8.out (by omega)
          obtain ⟨w9, hw9⟩ : ∃ w9, w8.setCell ⟨w.heap.size, 3, none⟩ (.slice (some ⟨g8, 0, none⟩) C.tiles.length c8) = w9 := ⟨_, rfl⟩
          have hx9 : Blk w9 w.heap.size 28 #[.int .i64 C.W, .int .i64 C.H, .int .i64 C.T, .slice (some ⟨g8, 0, none⟩) C.tiles.length c8, .slice C.AO C.on.length C.cO, .slice C.AI C.ins.length C.cI, .slice C.AU C.outs.length C.cU] := by
            rw [← hw9]; exact X8.out.put 3 (.slice (some ⟨g8, 0, none⟩) C.tiles.length c8)
          have ho9 : w9.ownsRow w6.heap.size 60 3 (.slice (some ⟨g8, 0, none⟩) C.tiles.length c8) C.tiles.length (tiles3 C.tiles) := by
            rw [← hw9]; exact ownsRow_setCell_other O8.out (a := ⟨w.heap.size, 3, none⟩) (own_other O8.out X8.out (by decide)) _
          have hr9 : RowsIn A1 c1 R1 w9 := by
            rw [← hw9]; exact R8.out.setLow H61.out (X5.out.lt)
          have hq9 : Below w.heap.size w w9 := by
            rw [← hw9]; exact Q8.out.setCell (p := ⟨w.heap.size, 3, none⟩) (Nat.le_refl _) _
          rw [hw9]
          have X9 := Lib.hid hx9
          have O9 := Lib.hid ho9
          have R9 := Lib.hid hr9
          have Q9 := Lib.hid hq9
          have hne : w.heap.size ≠ g8 := by omega
          have c9 := X9.out.cell 3
          have hwT : IntKind.i64.wrap T = T := IntWalk.i64_in _ (by have := HT.out; omega)
          have d9 := O9.out.cells (g := g8) rfl (tn * 3) _ (tiles3_get C.tiles tn htn).1
          rw [Addr.add_lit, Nat.zero_add] at d9
          have e9 := O9.out.frozenAt (tn * 3)
          clear hx9 ho9 hr9 hq9 hw9 c83 f83 k3' f3
          go_upto_region 28 with (fail)
          obtain ⟨w10, hw10⟩ : ∃ w10, w9.setCell ⟨g8, tn * 3, none⟩ (.int .i64 T) = w10 := ⟨_, rfl⟩
          have hq10 : Below w.heap.size w w10 := by rw [← hw10]; exact Q9.out.setCell (p := ⟨g8, tn * 3, none⟩) (by have := Q6.out.size; show w.heap.size ≤ g8; omega) _
          have hx10 : Blk w10 w.heap.size 28 #[.int .i64 C.W, .int .i64 C.H, .int .i64 C.T, .slice (some ⟨g8, 0, none⟩) C.tiles.length c8, .slice C.AO C.on.length C.cO, .slice C.AI C.ins.length C.cI, .slice C.AU C.outs.length C.cU] := by
            rw [← hw10]; exact X9.out.apart (p := ⟨g8, tn * 3, none⟩) hne _
          have hr10 : RowsIn A1 c1 R1 w10 := by rw [← hw10]; exact R61.out.setFar R9.out hg1
          have hd10 : (idleC C (some ⟨g8, 0, none⟩) c8 tn T).In w10 := by
            obtain ⟨-, a2, a3, a4⟩ := HIN.out.later hq10
            refine ⟨?_, a2, a3, a4⟩
            have := Rd.of_own (size := 3) (O9.out.stored (tn * 3) (.int .i64 T)).1
            rw [hw10, tiles3_set T C.tiles tn htn] at this
            rw [idle_len]
            exact this
          rw [hw10]
          have hrun := chipRun_any (idleC C (some ⟨g8, 0, none⟩) c8 tn T) RA rc L w10 hd10 (idle_few (few32_few HS.out)) (HL.out.later hq10) HR3.out HR4.out
          rw [idle_len] at hrun
          have HRUN := Lib.hid hrun
          have X10 := Lib.hid hx10
          have R10 := Lib.hid hr10
          have Q10 := Lib.hid hq10
          have k0 := X10.out.cell 0
          have k1 := X10.out.cell 1
          have k2 := X10.out.cell 2
          have k3 := X10.out.cell 3
          have k4 := X10.out.cell 4
          have k5 := X10.out.cell 5
          have k6 := X10.out.cell 6
          clear hq10 hx10 hr10 hd10 hw10 hrun c9 d9 e9
          go_wp2_with fail
          refine HRUN.out.mono ?_
          rintro e w11 ⟨A2, c2, R2, x2, rfl, hb11, hR2, -, hC2⟩
          have Q11 := Lib.hid (below_then Q10.out hb11)
          have R11 := Lib.hid (R10.out.later hb11)
          have S11 := Lib.hid hR2
          obtain ⟨rfl, hrows⟩ := idle_run RR.out htn HT.out ID2.out JD2.out C61.out hC2
          have hlen : R1.length = R2.length := by have := congrArg List.length hrows; simpa using this
          have hsame := fun (h1 : R1.length ≤ 100000000) (h2 : ∀ b ∈ R1, b.l.length ≤ 100000000) => sameRows_yes w11 A1 c1 R1 A2 c2 R2 R11.out S11.out hrows h1 h2
          have HSAME := Lib.hid hsame
          clear hb11 hR2 hC2 hrows hlen hsame k0 k1 k2 k3 k4 k5 k6
          go_wp2_with fail
          have hcl := crun_len C61.out
          have hno := HS.out.2.2.2.2.2.2
          refine (HSAME.out (by have := hcl.1; have := HR3.out; simp at *; omega) (fun b hb => by have := hcl.2 b.l (List.mem_map.2 ⟨b, hb, rfl⟩); omega)).mono ?_
          rintro e w12 ⟨rfl, hb12⟩
          have Q12 := Lib.hid (below_then Q11.out hb12)
          clear hb12 hcl
          go_wp2_with fail
          go_ret
          exact ⟨rfl, Q12.out⟩
        obtain ⟨a2, hA2, -, cx⟩ := P5.out.outs.int hlt2
        rw [HAO.out] at hA2
        subst hA2
        have htj : P.outs.take (j + 1) = P.outs.take j ++ [P.outs.getD j 0] := by rw [List.take_add_one, List.getD_eq_getElem?_getD, List.getElem?_eq_getElem hlt2]; rfl
        generalize P.outs.getD j 0 = z at cx htj
        have HTJ := Lib.hid htj
        clear htj
        by_cases hzz : z = (C.ins.length : Int) + (tn : Int)
        · have hzz' : (z == (C.ins.length : Int) + (tn : Int)) = true := by rw [beq_iff_eq]; exact hzz
          go_wp2_with fail
          go_ret
          exact ⟨rfl, Q5.out⟩
        · have hzz' : (z == (C.ins.length : Int) + (tn : Int)) = false := by rw [beq_eq_false_iff_ne]; exact hzz
          go_wp2_with fail
          go_round
          case rel => exact ⟨j + 1, by omega, by go_num, fun x hx => by
            rw [HTJ.out] at hx
            rcases List.mem_append.1 hx with hx | hx
            · exact JD.out x hx
            · rw [List.mem_singleton.1 hx]; exact hzz⟩
          case measure => simp [intOf]; omega
    obtain ⟨a, hA, hab, c0, c1, c2, c3⟩ := P5.out.blocks.block hlt
    rw [HAB.out] at hA
    subst hA
    have hRl := P5.out.each _ (List.getElem_mem hlt)
    have hbl := PF.out.l _ (List.getElem_mem hlt)
    have htk : P.bs.take (k + 1) = P.bs.take k ++ [P.bs[k]] := by rw [List.take_add_one, List.getElem?_eq_getElem hlt]; rfl
    generalize P.bs[k] = b at c0 c1 c2 c3 hRl hbl htk
    obtain ⟨bA, bc, bl, bt, bff, bit⟩ := b
    simp only at c0 c1 c2 c3 hRl hbl htk
    have HTK := Lib.hid htk
    have hbn := below_new wr (.cells #[.slice bA bl.length bc, .int .i64 bt, .bool bff, .bool bit] 56)
    have B6 := Lib.hid (below_then B5.out hbn)
    have Q6 := Lib.hid (below_then Q5.out hbn)
    have R6 := Lib.hid (hRl.later hbn)
    clear hRl htk hbn k3 hz3
    go_wp2_with fail
    go_loop [65] (fun v65 => ∃ j : Nat, j ≤ bl.length ∧ v65 = .int .i64 (j : Int) ∧ ∀ x ∈ bl.take j, x ≠ (C.ins.length : Int) + (tn : Int)) (fun v65 => bl.length - (intOf v65).toNat)
    case atStart => exact ⟨0, by omega, rfl, fun x hx => (nomatch hx)⟩
    case round =>
      obtain ⟨j, hj, rfl, hjd⟩ := hrel
      have JD := Lib.hid hjd
      clear hjd
      by_cases hlt2 : j < bl.length
      case neg =>
        obtain rfl : j = bl.length := by omega
        go_wp2_with fail
        go_roundw
        case rel => exact ⟨k + 1, by omega, by go_num, B6.out, fun b hb => by
          rw [HTK.out] at hb
          rcases List.mem_append.1 hb with hb | hb
          · exact ID.out b hb
          · rw [List.mem_singleton.1 hb]
            have := JD.out
            rwa [List.take_length] at this⟩
        case measure => simp [intOf]; omega
      obtain ⟨a2, rfl, -, cx⟩ := R6.out.int hlt2
      have htj : bl.take (j + 1) = bl.take j ++ [bl.getD j 0] := by rw [List.take_add_one, List.getD_eq_getElem?_getD, List.getElem?_eq_getElem hlt2]; rfl
      generalize bl.getD j 0 = z at cx htj
      have HTJ := Lib.hid htj
      clear htj
      by_cases hzz : z = (C.ins.length : Int) + (tn : Int)
      · have hzz' : (z == (C.ins.length : Int) + (tn : Int)) = true := by rw [beq_iff_eq]; exact hzz
        go_wp2_with fail
        go_ret
        exact ⟨rfl, Q6.out⟩
      · have hzz' : (z == (C.ins.length : Int) + (tn : Int)) = false := by rw [beq_eq_false_iff_ne]; exact hzz
        go_wp2_with fail
        go_round
        case rel => exact ⟨j + 1, by omega, by go_num, fun x hx => by
          rw [HTJ.out] at hx
          rcases List.mem_append.1 hx with hx | hx
          · exact JD.out x hx
          · rw [List.mem_singleton.1 hx]; exact hzz⟩
        case measure => simp [intOf]; omega
set_option maxRecDepth 100000 in
theorem chipIdle_lifted (os : Os) (started : os.Started) (H : Type) (enc : TypeId × Value → H) :
    ReturnsInHanded {} Try.checked os 10 .any (Rows.chipIdleSpec.pre6 enc Try.prog Try.f10 Rows.chipIdleRow.domain false) (Rows.chipIdleSpec.post enc Try.prog Try.f10 false true false false) := by
  have hr : ∀ t ∈ Try.f10.params.toList, Try.prog.readableRec t = true ∧ t < Try.prog.types.size := by
    have h : Try.f10.params.toList.all (fun t => Try.prog.readableRec t && decide (t < Try.prog.types.size)) = true := by kernel_rfl
    intro t ht
    simpa using List.all_eq_true.1 h t ht
  refine returnsInHanded_of_change (C := Try.checked) own started (by kernel_rfl) Try.func10
    (ChangeSpec.witness6 (enc := enc) (C := Try.checked) false ⟨#[], #[.agg #[.int .i64 0, .int .i64 0, .int .i64 0, .slice none 0 0, .slice none 0 0, .slice none 0 0, .slice none 0 0], .slice none 0 0, .int .i64 0, .int .u16 0], []⟩ 8 (by kernel_rfl) (by kernel_rfl) (by kernel_rfl) (by kernel_rfl)) ?_
  intro W base args ds gs before hval0 hW hcnd _
  have hval : ∀ (j : Nat) t v, Try.f10.params[j]? = some t → args[j]? = some v → Value.okWide Try.prog W .any base t v := hval0
  have hW' := hW
  obtain ⟨p, q, hA0, hV, rfl, hfz, hnd⟩ := hW
  have hA1 : DataW.TrodAll enc Try.prog W 0 (fun _ => true) true Try.f10.params.toList args.toList ds p := hA0
  have hA := hA1
  rw [Try.params10] at hA hval
  obtain ⟨v0, vs0, d0, ds0, p0, q0, hargs, rfl, rfl, h0, r0⟩ := trodAll_cons hA
  obtain ⟨v1, vs1, d1, ds1, p1, q1, rfl, rfl, rfl, h1, r1⟩ := trodAll_cons r0
  obtain ⟨v2, vs2, d2, ds2, p2, q2, rfl, rfl, rfl, h2, r2⟩ := trodAll_cons r1
  obtain ⟨v3, vs3, d3, ds3, p3, q3, rfl, rfl, rfl, h3, r3⟩ := trodAll_cons r2
  obtain ⟨rfl, rfl, rfl⟩ := trodAll_nil r3
  obtain rfl : args = #[v0, v1, v2, v3] := by cases args; simp_all
  obtain ⟨rfl, rfl⟩ := trodVars_none hV
  obtain ⟨C0, rfl, hin0, hwf0⟩ := open_cfg (hval 0 28 v0 rfl rfl) h0
  obtain ⟨A1, c1, L1, rfl, hr1, hn1, hb1⟩ := open_rows (hval 1 52 v1 rfl rfl) h1
  obtain ⟨a2, rfl, rfl, rfl, w2⟩ := open_int Try.underlying3 (hval 2 3 v2 rfl rfl) h2
  obtain ⟨a3, rfl, rfl, rfl, w3⟩ := open_int Try.underlying53 (hval 3 53 v3 rfl rfl) h3
  clear hA0 hval0
  simp only [List.append_nil] at hW'
  simp only [List.append_nil] at hA1
  refine (chipIdle_walk C0 A1 c1 L1 a2 a3 W hin0 hwf0 hr1 hn1 hb1 (bounds_u16 w3)).mono fun e W' ⟨he, hb⟩ => ?_
  subst he
  exact ⟨_, rfl, law_post laidOut hr rfl hW' hA1 rfl rfl Try.underlying4 hb⟩

theorem chipIdle_over : Rows.chipIdleRow.holds Try.pinned (OpenSpec.ofChange Rows.chipIdleSpec) :=
  OpenClaim.holds_of_wide 10 Try.f10 rfl rfl rfl rfl rfl rfl rfl ⟨rfl, rfl, rfl, rfl, rfl⟩ rfl rfl rfl rfl rfl (by kernel_rfl) Try.func10 (by kernel_rfl)
    (of_decide_eq_true (by kernel_rfl)) (by unfold Func.isWrapper; first | (rw [if_pos (by decide +kernel)]; kernel_rfl) | (rw [if_neg (by decide +kernel)]; exact ⟨rfl, rfl⟩))
    (fun os started H enc _ => chipIdle_lifted os started H enc)

theorem chipIdle_holds : Rows.ChipIdleSaid := chipIdle_over
#print axioms chipIdle_holds
end Go.Proofs.Ytoloaecbfglaeaa
