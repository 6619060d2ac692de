/- filigreeref25.made: the literals that are made. -/
import Derived.Test.YtaajnmggbhnndaaGreatDoorZR25Q
import Derived.Test.YtaajnmggbhnndaaGreatDoorZCAll
namespace Go.Proofs.YtaajnmggbhnndaaGreatDoor
open Go.RowKit
set_option linter.unusedVariables false
set_option linter.unusedSimpArgs false
/-- while literals are told: what is not the row stays as it was at w6 -/
structure P3 (w6 : World) (g m : Nat) (nd : List Bool) (wx : World) : Prop where
  chg : Chg w6 wx (fun k => k = g)
  bits : BitsB wx g nd
  len : nd.length = m
theorem P3.keep {w6 wx wy : World} {g m : Nat} {nd : List Bool} (h : P3 w6 g m nd wx) (hb : Below wx.heap.size wx wy) : P3 w6 g m nd wy := ⟨h.chg.belowB hb, Blk.keep h.bits hb, h.len⟩
theorem P3.cell {w6 wx : World} {g m : Nat} {nd : List Bool} (h : P3 w6 g m nd wx) {p : Addr} (hp : p.block < w6.heap.size) (hg : p.block ≠ g) : wx.cell? p = w6.cell? p := World.cell?_of_block (w := w6) (h.chg.block p.block hp hg)
theorem P3.set {w6 wx : World} {g m : Nat} {nd : List Bool} (h : P3 w6 g m nd wx) (a : Nat) (y : Bool) : P3 w6 g m (nd.set a y) (wx.setCell ⟨g, a, none⟩ (.bool y)) :=
  ⟨h.chg.setSame _, h.bits.set a y, by rw [List.length_set]; exact h.len⟩
theorem P3.drew {w6 wx : World} {g m : Nat} {nd : List Bool} (h : P3 w6 g m nd wx) : P3 w6 g m nd wx.drew := ⟨⟨h.chg.os, h.chg.tape, h.chg.output, h.chg.size, h.chg.block⟩, h.bits, h.len⟩
theorem P3.tell {w6 wx : World} {g m F : Nat} {nd : List Bool} (h : P3 w6 g m nd wx) {a : Nat} {y : Bool} (hy : mayL F a = y) : P3 w6 g m (tellN F nd a) (wx.setCell ⟨g, a, none⟩ (.bool y)) := by
  unfold tellN; rw [hy]; exact h.set a y
theorem AG.tld_lit {G : AG} (hok : G.ok) {a : Int} (ha : a ∈ G.tld G.fl.length) : ∃ m : Nat, a = (m : Int) ∧ m < 2 * G.cn ∧ a.toNat = m := by
  refine lit_nat hok ?_
  unfold AG.tld at ha
  rw [List.take_of_length_le (by rw [List.length_map]; exact Nat.le_refl _)] at ha
  rcases List.mem_append.1 ha with h | h
  · exact .inl h
  · obtain ⟨f, hf, rfl⟩ := List.mem_map.1 h
    exact .inr ⟨f, hf, rfl⟩
theorem AG.tld_ts (G : AG) (k : Int) : (G.tld G.fl.length).map Int.toNat = (G.mp k).ts := by
  unfold AG.tld
  rw [List.take_of_length_le (by rw [List.length_map]; exact Nat.le_refl _), List.map_append, List.map_map]
  rfl
set_option maxRecDepth 100000 in
set_option maxHeartbeats 4000000 in
theorem rmade25_any (G : AG) (k : Int) (A : Option Addr) (c m : Nat) (rs : List CR) (w : World) (hin : G.In w) (hf : G.fit) (hm : G.ok ∧ 2 ≤ k ∧ k ≤ 6) (hrs : RowsR w A c rs) (hpl : plainR rs = (G.bothTo k (G.cn - 1)).1) (hmm : 2 * G.cn = m) :
    Calls Tryz.prog 22 #[.agg #[.int .i64 G.I, .slice G.AF G.fl.length G.cF, .slice G.AA G.an.length G.cA, .slice G.AO G.ou.length G.cO], .slice A rs.length c] w fun r w' => ∃ g, r = .returned (.slice (some ⟨g, 0, none⟩) m m) ∧ Below w.heap.size w w' ∧ w.heap.size ≤ g ∧ BitsB w' g (G.mp k).nd := by
  have Q0 := Lib.hid (below_new w (.cells #[.int .i64 G.I, .slice G.AF G.fl.length G.cF, .slice G.AA G.an.length G.cA, .slice G.AO G.ou.length G.cO] 26))
  have X0 := Lib.hid (Blk.made w 26 #[.int .i64 G.I, .slice G.AF G.fl.length G.cF, .slice G.AA G.an.length G.cA, .slice G.AO G.ou.length G.cO])
  obtain ⟨hrn, hc0⟩ := rows_c0 hm hpl
  have HC0 := Lib.hid hc0
  have HRS := Lib.hid hrs
  have HIN := Lib.hid hin
  have HFT := Lib.hid hf
  have HM := Lib.hid hm
  have hok := hm.1
  have hcnt := hok.cnt
  have hI0 := hok.1
  obtain ⟨h, hh⟩ : ∃ h, G.fl.length = h := ⟨_, rfl⟩
  obtain ⟨F, hF⟩ : ∃ F, G.fst = F := ⟨_, rfl⟩
  obtain ⟨NN, hNN⟩ : ∃ N, G.cn = N := ⟨_, rfl⟩
  have hh3 : h ≤ 1000 := by rw [← hh]; exact hf.f
  have hI3 := hf.i
  have hFI : 1 + G.I + (h : Int) = (F : Int) := by have : G.fst = 1 + G.I.toNat + G.fl.length := rfl; omega
  have hFN : 0 < F ∧ F ≤ NN ∧ NN ≤ F + 1000 := by
    have h1 := G.fst_pos
    have h2 : G.cn = G.fst + G.an.length := rfl
    have := hf.a
    omega
  have hF3 : F ≤ 2001 := by omega
  have hcn : 1 + G.cnt = (NN : Int) := by omega
  have HCO := fun (W : World) => rcount_any G W hI0 hf
  have HTO := fun (W : World) (hb : Below w.heap.size w W) => rtold25_any G W (hin.later hb) hf
  rw [hcn] at HCO
  have HCO := Lib.hid HCO
  have HTO := Lib.hid HTO
  obtain ⟨M, hMP⟩ : ∃ M, G.mp k = M := ⟨_, rfl⟩
  have HMP := Lib.hid hMP
  have HMok := Lib.hid (show M.Ok by rw [← hMP]; exact AG.mp_ok hm)
  have HMF := Lib.hid (show M.F = F by rw [← hMP]; exact hF)
  have HMN := Lib.hid (show M.N = NN by rw [← hMP]; exact hNN)
  have HTS := Lib.hid (show (G.tld G.fl.length).map Int.toNat = M.ts by rw [← hMP]; exact G.tld_ts k)
  have HTL := Lib.hid (fun (a : Int) (ha : a ∈ G.tld G.fl.length) => AG.tld_lit hok ha)
  obtain ⟨T, hT⟩ : ∃ T, G.tld G.fl.length = T := ⟨_, rfl⟩
  have hTn : T.length ≤ 10000 := by rw [← hT, G.tld_len (Nat.le_refl _)]; have := hf.o; have := hf.f; omega
  rw [hT] at HTS HTL HTO
  rw [hNN] at hmm hrn HTL
  rw [hh] at HCO HTO Q0 X0 ⊢
  rw [hMP]
  have hmi : 2 * (NN : Int) = (m : Int) := by omega
  have HMM := Lib.hid hmm
  have HRN := Lib.hid hrn
  have HF := Lib.hid hF
  have HNN := Lib.hid hNN
  obtain ⟨nr0, hnr0⟩ : ∃ n, rs.length = n := ⟨_, rfl⟩
  rw [hrn]
  have hm3 : m ≤ 10000 := by omega
  obtain ⟨I, hI⟩ : ∃ I, G.I = I := ⟨_, rfl⟩
  rw [hI] at hFI hI0 hI3 HCO HTO Q0 X0 ⊢
  have k0 := X0.out.cell 0
  have k1 := X0.out.cell 1
  have k2 := X0.out.cell 2
  have k3 := X0.out.cell 3
  clear hin hf hm hrs hpl hok hcnt hh hF hNN hcn hMP hT hrn hmm hnr0 hI hc0
  obtain ⟨i0, hi0, hz0, hz1, hz2⟩ := info_parts bool_infoA
  have HI0 := Lib.hid hi0
  have HZ0 := Lib.hid hz0
  have HZ1 := Lib.hid hz1
  have HZ2 := Lib.hid hz2
  clear hi0 hz0 hz1 hz2
  go_enter Tryz.func22, Tryz.ntmps22
  go_wp2_with fail
  refine (HCO.out _).mono ?_
  rintro e w2 ⟨rfl, hb2⟩
  have X2 := Lib.hid (X0.out.keep hb2)
  have Q2 := Lib.hid (Q0.out.trans (hb2.mono (by simp)))
  have hsz2 : w.heap.size + 1 ≤ w2.heap.size := by have := hb2.size; simp at this; omega
  clear hb2 k0 k1 k2 k3
  have k0 := X2.out.cell 0
  have k1 := X2.out.cell 1
  have k2 := X2.out.cell 2
  have k3 := X2.out.cell 3
  go_wp2_with ((with_reducible refine wpList_make_part _ rfl (.tmp 21) (.tmp 21) 42 rfl 4 i0 (.bool false) Tryz.underlying42 HI0.out HZ0.out HZ1.out (bool_cells false) .i64 .i64 _ _ m m rfl rfl (by omega) (by omega) (Nat.le_refl _) ?c1 (by omega) ?_))
  case c1 => rw [HZ2.out]; omega
  intro w5 hown5 hb5
  have X5 := Lib.hid (X2.out.keep hb5)
  have Q5 := Lib.hid (below_then Q2.out hb5)
  have N5 := Lib.hid (show BitsB w5 w2.heap.size (List.replicate m false) from by
    have h := blk_of_own hown5
    rw [show List.replicate m (Value.bool false) = bools (List.replicate m false) by simp [bools]] at h
    exact h)
  have hlt5 : w2.heap.size < w5.heap.size := N5.out.lt
  clear hown5 hb5 k0 k1 k2 k3
  have k0 := X5.out.cell 0
  have k1 := X5.out.cell 1
  have k2 := X5.out.cell 2
  have k3 := X5.out.cell 3
  have HT5 := Lib.hid (HTO.out w5 Q5.out)
  clear HTO
  generalize hg : w2.heap.size = g at N5 hlt5 ⊢
  have hgw : w.heap.size + 1 ≤ g := by omega
  clear hg X2 Q2 hsz2
  go_wp2_with fail
  refine HT5.out.mono ?_
  rintro e w6 ⟨AT, cT, rfl, hb6, hown6⟩
  have HTR := Lib.hid (Rd.of_own hown6)
  have HTB := Lib.hid (fun (p : Addr) (hp : AT = some p) => own_base hown6 (by rw [own_blk, hp]; rfl))
  have X6 := Lib.hid (X5.out.keep hb6)
  have Q6 := Lib.hid (below_then Q5.out hb6)
  have N6 := Lib.hid (show P3 w6 g m (List.replicate m false) w6 from ⟨Chg.refl _ _, Blk.keep N5.out hb6, List.length_replicate⟩)
  have hsz6 : g < w6.heap.size := Nat.lt_of_lt_of_le hlt5 hb6.size
  have hw6 : w.heap.size < w6.heap.size := by omega
  obtain ⟨nt, hnt⟩ : ∃ n, T.length = n := ⟨_, rfl⟩
  have HNT := Lib.hid hnt
  rw [hnt] at hTn
  rw [hnt] at HTR
  rw [hnt]
  clear hnt hown6 hb6 k0 k1 k2 k3 HT5 X5 Q5 N5
  obtain ⟨nd00, hnd⟩ : ∃ l, List.replicate m false = l := ⟨_, rfl⟩
  have HND := Lib.hid hnd
  rw [hnd] at N6
  clear hnd
  go_wp2_with fail
  go_loopw [8] (fun v8 wx => ∃ i : Nat, i ≤ nt ∧ v8 = .int .i64 (i : Int) ∧ P3 w6 g m (tells F nd00 ((T.map Int.toNat).take i)) wx) (fun v8 _ => nt - (intOf v8).toNat)
  case atStart => exact ⟨0, by omega, rfl, N6.out⟩
  case round =>
    obtain ⟨i, hi, rfl, hp⟩ := hrel
    have P := Lib.hid hp
    clear hp
    by_cases hit : i < nt
    case pos =>
      have hit' : (i : Int) < (nt : Int) := by omega
      have hia : i < T.length := by rw [HNT.out]; exact hit
      obtain ⟨a, hga, ham, han⟩ := HTL.out T[i] (List.getElem_mem hia)
      obtain ⟨pa, hPA, hpb, e0⟩ := HTR.out.int (k := i) hit
      have hpg := HTB.out pa hPA
      subst hPA
      rw [List.getD_eq_getElem?_getD, List.getElem?_eq_getElem hia] at e0
      have e1 : wr.cell? (pa.add i) = some (.int .i64 (a : Int)) := by
        rw [P.out.cell (p := pa.add i) (by rw [add_block]; exact hpb) (by rw [add_block]; omega), e0, ← hga]; rfl
      have hnx := lits_take Int.toNat T hia
      rw [han] at hnx
      have HNX := Lib.hid hnx
      rw [HMM.out] at ham
      have hal : (a : Int) < (m : Int) := by omega
      have f0 := P.out.bits.free a
      obtain ⟨q, hq⟩ : ∃ q, a / 2 = q := ⟨_, rfl⟩
      have hq2 : (a : Int) / 2 = (q : Int) := by omega
      have hd0 := P.out.bits.at_ (a := a) (by rw [P.out.len]; exact ham)
      clear e0 hga han hnx hpb hpg
      rcases Nat.mod_two_eq_zero_or_one a with e | e
      · have h0 : (a : Int) % 2 = 0 := by omega
        by_cases hFq : F ≤ q
        · have hFq' : (F : Int) ≤ (q : Int) := by omega
          have HY := Lib.hid (show mayL F a = true by unfold mayL; rw [hq, decide_eq_true hFq, Bool.or_true])
          clear hq e
          go_wp2_with fail
          go_region
          go_wp2_with fail
          go_roundw
          case rel => exact ⟨i + 1, by omega, by go_num, by rw [HNX.out, tells_snoc]; exact P.out.drew.tell HY.out⟩
          case measure => simp [intOf]; omega
        · have hFq' : ¬ (F : Int) ≤ (q : Int) := by omega
          have HY := Lib.hid (show mayL F a = false by unfold mayL; rw [hq, decide_eq_false hFq, Bool.or_false, decide_eq_false (by omega)])
          clear hq e
          go_wp2_with fail
          go_region
          go_wp2_with fail
          go_roundw
          case rel => exact ⟨i + 1, by omega, by go_num, by rw [HNX.out, tells_snoc]; exact P.out.drew.tell HY.out⟩
          case measure => simp [intOf]; omega
      · have h0 : (a : Int) % 2 = 1 := by omega
        have HY := Lib.hid (show mayL F a = true by unfold mayL; rw [decide_eq_true e, Bool.true_or])
        clear hq e
        go_wp2_with fail
        go_region
        go_wp2_with fail
        go_roundw
        case rel => exact ⟨i + 1, by omega, by go_num, by rw [HNX.out, tells_snoc]; exact P.out.drew.tell HY.out⟩
        case measure => simp [intOf]; omega
    obtain rfl : i = nt := by omega
    have hlt : ¬ (i : Int) < (i : Int) := by omega
    have hall : (T.map Int.toNat).take i = T.map Int.toNat := List.take_of_length_le (by rw [List.length_map, HNT.out]; exact Nat.le_refl _)
    have hbk : tells F nd00 (T.map Int.toNat) = M.back 0 := by
      rw [MP.back, MP.nd0, ← HTS.out, HMF.out, HMN.out, HMM.out, HND.out]
    rw [hall, hbk] at P
    have X7 := Lib.hid (P.out.chg.blk X6.out (by omega))
    have k0 := X7.out.cell 0
    have k1 := X7.out.cell 1
    have k2 := X7.out.cell 2
    have k3 := X7.out.cell 3
    clear hall hbk hit
    go_wp2_with fail
    refine (HCO.out _).mono ?_
    rintro e w8 ⟨rfl, hb8⟩
    have P8 := Lib.hid (P.out.keep hb8)
    have hN1 : (NN : Int) - 1 = ((NN - 1 : Nat) : Int) := by omega
    clear hb8 k0 k1 k2 k3 hlt X7
    go_wp2_with fail
    have hx0 : NN - 1 + 1 + 0 = NN := by omega
    generalize NN - 1 = x0 at hN1 hx0 ⊢
    go_loopw [9] (fun v9 wx => ∃ x j : Nat, x + 1 + j = NN ∧ F ≤ x + 1 ∧ v9 = .int .i64 (x : Int) ∧ P3 w6 g m (M.back j) wx) (fun v9 _ => (intOf v9).toNat)
    case atStart => exact ⟨x0, 0, hx0, by omega, rfl, P8.out⟩
    case round =>
      clear hN1 hx0
      obtain ⟨x, j, hxj, hxF, rfl, hp⟩ := hrel
      have Q3 := Lib.hid hp
      clear hp
      by_cases hge : F ≤ x
      case neg =>
        have hge' : ¬ (F : Int) ≤ (x : Int) := by omega
        have hjF : M.back j = M.nd := by rw [MP.nd, HMN.out, HMF.out, show NN - F = j by omega]
        rw [hjF] at Q3
        clear hjF
        go_wp2_with fail
        go_ret
        exact ⟨g, rfl, Q3.out.chg.below Q6.out (by omega) (fun k hk => by omega), by omega, Q3.out.bits⟩
      have hge' : (F : Int) ≤ (x : Int) := by omega
      have hxm : 2 * x + 1 < m := by rw [← HMM.out]; omega
      have d0 := BitsB.at_ Q3.out.bits (a := 2 * x) (by rw [Q3.out.len]; omega)
      have d1 := BitsB.at_ Q3.out.bits (a := 2 * x + 1) (by rw [Q3.out.len]; omega)
      have hne : needX (M.back j) x = ((M.back j).getD (2 * x) false || (M.back j).getD (2 * x + 1) false) := rfl
      have hst : M.back (j + 1) = if needX (M.back j) x = true then tells F (M.back j) ((M.C x).map (2 * ·)) else M.back j := by
        rw [MP.back, HMN.out, HMF.out, show NN - 1 - j = x by omega]
      have HINV := Lib.hid (show InvN F (M.back j) by rw [← HMF.out]; exact M.back_inv j)
      have HST := Lib.hid hst
      have HNE := Lib.hid hne
      have h2x : 2 * (x : Int) = ((2 * x : Nat) : Int) := by omega
      have h2y : ((2 * x : Nat) : Int) + 1 = ((2 * x + 1 : Nat) : Int) := by omega
      have hx1 : (x : Int) - 1 = ((x - 1 : Nat) : Int) := by omega
      have hxm0 : ((2 * x : Nat) : Int) < (m : Int) := by omega
      have hxm1 : ((2 * x + 1 : Nat) : Int) < (m : Int) := by omega
      have hxr : x < rs.length := by rw [HRN.out]; omega
      have hxN : (x : Int) < (NN : Int) := by omega
      clear hst hne
      generalize (M.back j).getD (2 * x) false = p at d0 HNE
      generalize (M.back j).getD (2 * x + 1) false = r at d1 HNE
      by_cases hpr : p = false ∧ r = false
      · obtain ⟨rfl, rfl⟩ := hpr
        obtain ⟨a0, ha0⟩ : ∃ a : Nat, 2 * x = a := ⟨_, rfl⟩
        obtain ⟨a1, ha1⟩ : ∃ a : Nat, 2 * x + 1 = a := ⟨_, rfl⟩
        rw [ha1] at d1 h2y hxm1
        rw [ha0] at d0 h2x h2y hxm0
        clear ha0 ha1 hxm
        go_wp2_with fail
        go_roundw
        case rel => exact ⟨x - 1, j + 1, by omega, by omega, rfl, by rw [HST.out, HNE.out, if_neg (by simp)]; exact Q3.out⟩
        case measure => simp [intOf]; omega
      have hny : needX (M.back j) x = true := by
        rw [HNE.out]
        cases p <;> cases r <;> simp at hpr ⊢
      have HNY := Lib.hid hny
      clear hny HNE
      go_upto_region 11 with (fail)
      go_cut [74] (fun v74 wx => v74 = .bool false ∧ wx = wr)
      case first =>
        obtain ⟨a0, ha0⟩ : ∃ a : Nat, 2 * x = a := ⟨_, rfl⟩
        obtain ⟨a1, ha1⟩ : ∃ a : Nat, 2 * x + 1 = a := ⟨_, rfl⟩
        rw [ha1] at d1 h2y hxm1
        rw [ha0] at d0 h2x h2y hxm0
        clear ha0 ha1 hxm
        cases p with
        | true =>
          go_wp2_with fail
          go_meet
          case rel => exact ⟨rfl, rfl⟩
        | false =>
          cases r with
          | false => exact absurd ⟨rfl, rfl⟩ hpr
          | true =>
            go_wp2_with fail
            go_meet
            case rel => exact ⟨rfl, rfl⟩
      case rest =>
        obtain ⟨rfl, rfl⟩ := hcut
        clear d0 d1 h2x h2y hxm0 hxm1 hxm hpr
        obtain ⟨h0, hc⟩ := HC0.out x hxr
        have hok := AG.c0_ok HM.out (x := x) (by rw [HF.out]; exact hge) (by rw [HNN.out]; omega)
        obtain ⟨pr, hPR, hprb, r00, hcin⟩ := HRS.out.at_ hxr
        have r0 := (Q3.out.cell (p := pr.add x) (by rw [add_block]; omega) (by rw [add_block]; omega)).trans ((Q6.out.cell (p := pr.add x) (by rw [add_block]; exact hprb)).trans r00)
        obtain ⟨pc, hPC, hpcb, c00, c01, hsl⟩ := hcin.at_ h0
        have c0 := (Q3.out.cell (p := pc.add (0 * 2)) (by rw [add_block]; omega) (by rw [add_block]; omega)).trans ((Q6.out.cell (p := pc.add (0 * 2)) (by rw [add_block]; exact hpcb)).trans c00)
        have c1 := (Q3.out.cell (p := ⟨(pc.add (0 * 2)).block, (pc.add (0 * 2)).off + 1, none⟩) (by rw [add_block]; show pc.block < _; omega) (by rw [add_block]; show pc.block ≠ _; omega)).trans ((Q6.out.cell (p := ⟨(pc.add (0 * 2)).block, (pc.add (0 * 2)).off + 1, none⟩) (by rw [add_block]; exact hpcb)).trans c01)
        have hCx : (M.C x).map (2 * ·) = (rs[x].2.2[0].1.2.2.map Int.toNat).map (2 * ·) := by
          rw [show M.C x = (G.c0 k x).1.map Int.toNat by rw [← HMP.out]; rfl, hc]
        rw [hc] at hok
        subst hPR
        clear r00 c00 c01
        generalize rs[x] = rx at r0 h0 hcin hPC hpcb c0 c1 hsl hok hCx
        obtain ⟨r1, r2, r3⟩ := rx
        simp only at h0 hPC c0 c1 hsl hok hCx
        subst hPC
        simp only [crv] at r0
        generalize r3[0] = ct at c0 c1 hsl hok hCx
        obtain ⟨⟨l1, l2, l3⟩, t⟩ := ct
        simp only [slv] at c0 c1 hsl hok hCx
        obtain ⟨gr, hgr⟩ : ∃ p, pr.add x = p := ⟨_, rfl⟩
        rw [hgr] at r0
        have hpc0 : pc.add (0 * 2) = pc := rfl
        rw [hpc0] at c0 c1
        obtain ⟨nr, hnr⟩ : ∃ n, r3.length = n := ⟨_, rfl⟩
        rw [hnr] at h0 r0
        have h0' : (0 : Int) < (nr : Int) := by omega
        have HSL := Lib.hid hsl
        have HOK := Lib.hid hok
        have HCX := Lib.hid hCx
        obtain ⟨ql, hql⟩ : ∃ n, l3.length = n := ⟨_, rfl⟩
        have hql6 : ql ≤ 6 := by rw [← hql]; exact hok.len.1
        have HQL := Lib.hid hql
        rw [hql] at c0
        have hgr2 : g < wc.heap.size := Q3.out.bits.lt
        clear hcin hsl hok hCx hc hnr hql
        have TB := Lib.hid (Blk.made wc 64 #[.slice l1 ql l2, .int .u64 (t : Int)])
        have P4 := Lib.hid (Q3.out.keep (below_new wc (.cells #[.slice l1 ql l2, .int .u64 (t : Int)] 64)))
        go_wp2_with fail
        clear r0 c0 c1 h0' hpc0 hxN
        generalize wc.alloc (.cells #[.slice l1 ql l2, .int .u64 (t : Int)] 64) = w9 at TB P4 ⊢
        generalize wc.heap.size = gb at TB hgr2 ⊢
        go_loopw [11] (fun v11 wx => ∃ y : Nat, y ≤ ql ∧ v11 = .int .i64 (y : Int) ∧ P3 w6 g m (tells F (M.back j) (((l3.map Int.toNat).map (2 * ·)).take y)) wx ∧ Blk wx gb 64 #[.slice l1 ql l2, .int .u64 (t : Int)]) (fun v11 _ => ql - (intOf v11).toNat)
        case atStart => exact ⟨0, by omega, rfl, P4.out, TB.out⟩
        case round =>
          clear TB P4
          obtain ⟨y, hy, rfl, hp, hb⟩ := hrel
          have Q4 := Lib.hid hp
          have TB := Lib.hid hb
          clear hp hb
          have t0 := TB.out.cell 0
          by_cases hyq : y < ql
          case neg =>
            obtain rfl : y = ql := by omega
            have hlt : ¬ (y : Int) < (y : Int) := by omega
            have hall : ((l3.map Int.toNat).map (2 * ·)).take y = (l3.map Int.toNat).map (2 * ·) := List.take_of_length_le (by rw [List.length_map, List.length_map, HQL.out]; exact Nat.le_refl _)
            rw [hall] at Q4
            have hbk : M.back (j + 1) = tells F (M.back j) ((l3.map Int.toNat).map (2 * ·)) := by rw [HST.out, if_pos HNY.out, HCX.out]
            rw [← hbk] at Q4
            clear hall hbk
            go_wp2_with fail
            go_roundw
            case rel => exact ⟨x - 1, j + 1, by omega, by omega, rfl, Q4.out⟩
            case measure => simp [intOf]; omega
          have hyq' : (y : Int) < (ql : Int) := by omega
          have hyl : y < l3.length := by rw [HQL.out]; exact hyq
          obtain ⟨pa, hPA, hpb, e00⟩ := HSL.out.int (k := y) hyl
          have e0 := (Q4.out.cell (p := pa.add y) (by rw [add_block]; omega) (by rw [add_block]; omega)).trans ((Q6.out.cell (p := pa.add y) (by rw [add_block]; exact hpb)).trans e00)
          have hlv : 1 ≤ l3.getD y 0 ∧ l3.getD y 0 < (x : Int) := HOK.out.lv _ (getD_mem hyl)
          obtain ⟨z, hz⟩ : ∃ z : Nat, l3.getD y 0 = (z : Int) := ⟨(l3.getD y 0).toNat, by omega⟩
          have hzx : z < x := by omega
          have hnx : ((l3.map Int.toNat).map (2 * ·)).take (y + 1) = ((l3.map Int.toNat).map (2 * ·)).take y ++ [2 * z] := by
            rw [List.map_map, lits_take ((fun x => 2 * x) ∘ Int.toNat) l3 hyl]
            have hz2 : l3[y] = (z : Int) := by rw [← hz, List.getD_eq_getElem?_getD, List.getElem?_eq_getElem hyl]; rfl
            simp only [Function.comp, hz2, Int.toNat_natCast]
          have HNX := Lib.hid hnx
          rw [hz] at e0
          subst hPA
          obtain ⟨a, ha⟩ : ∃ a : Nat, 2 * z = a := ⟨_, rfl⟩
          have hz2 : 2 * (z : Int) = (a : Int) := by omega
          have ham : a < m := by rw [← HMM.out]; omega
          have ham' : (a : Int) < (m : Int) := by omega
          have f0 := Q4.out.bits.free a
          have hd0 := Q4.out.bits.at_ (a := a) (by rw [Q4.out.len]; exact ham)
          have HIV := Lib.hid (HINV.out.tells (l := ((l3.map Int.toNat).map (2 * ·)).take y))
          have HAZ := Lib.hid ha
          have hgbg : gb ≠ g := by omega
          clear hlv hz hnx e00 ha
          by_cases hFz : F ≤ z
          · have hFz' : (F : Int) ≤ (z : Int) := by omega
            have HMY := Lib.hid (show mayL F a = true by rw [← HAZ.out, mayL_dbl, decide_eq_true hFz])
            go_wp2_with fail
            go_roundw
            case rel => exact ⟨y + 1, by omega, by go_num, by rw [HNX.out, tells_snoc, HAZ.out]; exact Q4.out.tell HMY.out, TB.out.apart (p := ⟨g, a, none⟩) (by show gb ≠ g; omega) _⟩
            case measure => simp [intOf]; omega
          · have hFz' : ¬ (F : Int) ≤ (z : Int) := by omega
            have HMY := Lib.hid (show mayL F a = false by rw [← HAZ.out, mayL_dbl, decide_eq_false hFz])
            go_wp2_with fail
            go_roundw
            case rel => exact ⟨y + 1, by omega, by go_num, by rw [HNX.out, tells_snoc, HAZ.out, tellN_none HIV.out HMY.out]; exact Q4.out, TB.out⟩
            case measure => simp [intOf]; omega
end Go.Proofs.YtaajnmggbhnndaaGreatDoor
