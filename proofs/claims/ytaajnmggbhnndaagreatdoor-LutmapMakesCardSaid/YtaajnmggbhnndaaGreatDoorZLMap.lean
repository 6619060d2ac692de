/- filigree/lutmap.Map. · filigree/lutmap.Map, of any gates. -/
import Derived.Test.YtaajnmggbhnndaaGreatDoorZMapW
import Derived.Laws.BitsAllLaws
import Derived.Deep.CutBlock
namespace Go.Proofs.YtaajnmggbhnndaaGreatDoor
open Go.RowKit Go.Maps
set_option linter.unusedVariables false
set_option linter.unusedSimpArgs false
set_option maxRecDepth 100000 in
set_option maxHeartbeats 8000000 in
theorem lmap_yes (G : AG) (k : Int) (w : World) (hin : G.In w) (hf : G.fit) (hw : G.wf) (hm : G.ok ∧ 2 ≤ k ∧ k ≤ 6) (hcols : COLS w) :
    Calls Tryz.prog 6 #[.agg #[.int .i64 G.I, .slice G.AF G.fl.length G.cF, .slice G.AA G.an.length G.cA, .slice G.AO G.ou.length G.cO], .int .i64 k] w fun r w' => ∃ N : NT, r = .returned (.tuple #[.agg #[.int .i64 N.I, .slice N.AH N.hs.length N.cH, .slice N.AL N.ls.length N.cL, .slice N.AO N.ou.length N.cO], .int .i64 0]) ∧ Below w.heap.size w w' ∧ N.In w' ∧ N.IsMap G k := by
  have B0 := Lib.hid (below_then (below_new w (.cells #[.int .i64 G.I, .slice G.AF G.fl.length G.cF, .slice G.AA G.an.length G.cA, .slice G.AO G.ou.length G.cO] 26)) (below_new _ (.cells #[.int .i64 0, .slice none 0 0, .slice none 0 0, .slice none 0 0] 32)))
  have X0 := Lib.hid ((Blk.made w 26 #[.int .i64 G.I, .slice G.AF G.fl.length G.cF, .slice G.AA G.an.length G.cA, .slice G.AO G.ou.length G.cO]).alloc (.cells #[.int .i64 0, .slice none 0 0, .slice none 0 0, .slice none 0 0] 32))
  have R0 := Lib.hid (blk_made1 w (.cells #[.int .i64 G.I, .slice G.AF G.fl.length G.cF, .slice G.AA G.an.length G.cA, .slice G.AO G.ou.length G.cO] 26) 32 #[.int .i64 0, .slice none 0 0, .slice none 0 0, .slice none 0 0])
  have HC := Lib.hid (call_any G k _ (hin.later B0.out) hf hw (hcols.below B0.out))
  have hok := hm.1
  obtain ⟨I, hI⟩ : ∃ I : Nat, G.I = (I : Int) := ⟨G.I.toNat, by have := hok.1; omega⟩
  have hI3 : I ≤ 1000 := by have := hf.i; omega
  obtain ⟨h, hh⟩ : ∃ h, G.fl.length = h := ⟨_, rfl⟩
  obtain ⟨no, hno⟩ : ∃ no, G.ou.length = no := ⟨_, rfl⟩
  have hh3 : h ≤ 1000 := by rw [← hh]; exact hf.f
  have hno3 : no ≤ 1000 := by rw [← hno]; exact hf.o
  obtain ⟨F, hF⟩ : ∃ F, G.fst = F := ⟨_, rfl⟩
  obtain ⟨NN, hNN⟩ : ∃ N, G.cn = N := ⟨_, rfl⟩
  have hFI : 1 + (I : Int) + (h : Int) = (F : Int) := by have : G.fst = 1 + G.I.toNat + G.fl.length := rfl; omega
  have hFN : 0 < F ∧ F ≤ NN ∧ NN ≤ F + 1000 := by
    have h1 := G.fst_pos
    have h2 : G.cn = G.fst + G.an.length := rfl
    have := hf.a
    omega
  have hF3 : F ≤ 2001 := by omega
  obtain ⟨M, hMP⟩ : ∃ M, G.mp k = M := ⟨_, rfl⟩
  have HMP := Lib.hid hMP
  have HMok := Lib.hid (show M.Ok by rw [← hMP]; exact AG.mp_ok hm)
  have HMF := Lib.hid (show M.F = F by rw [← hMP]; exact hF)
  have HMN := Lib.hid (show M.N = NN by rw [← hMP]; exact hNN)
  have HTS := Lib.hid (show M.ts = G.ou.map Int.toNat ++ G.fl.map (fun f => f.1.toNat) by rw [← hMP]; rfl)
  have HIN := Lib.hid hin
  have HFT := Lib.hid hf
  have HW := Lib.hid hw
  have HM := Lib.hid hm
  have HH := Lib.hid hh
  have HNO := Lib.hid hno
  have HF := Lib.hid hF
  have HNN := Lib.hid hNN
  have HI := Lib.hid hI
  have HFI := Lib.hid hFI
  obtain ⟨AO, hAO⟩ : ∃ A, G.AO = A := ⟨_, rfl⟩
  obtain ⟨AF, hAF⟩ : ∃ A, G.AF = A := ⟨_, rfl⟩
  have HAO := Lib.hid hAO
  have HAF := Lib.hid hAF
  rw [hI, hh, hno, hAO, hAF] at HC X0 B0 R0 ⊢
  clear hAO hAF hin hf hw hm hok hcols hI hh hno hF hNN hMP hFI
  have k0 := X0.out.cell 0
  have k1 := X0.out.cell 1
  have k2 := X0.out.cell 2
  have k3 := X0.out.cell 3
  go_enter Tryz.func6, Tryz.ntmps6
  go_wp2_with fail
  go_step3
  go_wp2_with fail
  refine HC.out.mono ?_
  rintro e w2 ⟨hyes, -⟩
  obtain ⟨AO', cO', rs, AD, cD, rfl, hb2, hall, hpl⟩ := hyes HM.out
  obtain ⟨hrn, hc0⟩ := rows_c0 HM.out hpl
  have HC0 := Lib.hid hc0
  have RS2 := Lib.hid hall.rows
  have X2 := Lib.hid (X0.out.keep hb2)
  have R2 := Lib.hid (R0.out.keep hb2)
  have B2 := Lib.hid (below_then B0.out hb2)
  rw [HNN.out] at hrn
  have HRN := Lib.hid hrn
  clear hyes hall hpl hb2 hc0 HC k0 k1 k2 k3
  rw [hrn]
  clear hrn
  have k0 := X2.out.cell 0
  have k1 := X2.out.cell 1
  have hFI := HFI.out
  obtain ⟨i0, hi0, hz0, hz1, hz2⟩ := info_parts bool_infoA
  have HI0 := Lib.hid hi0
  have HZ0 := Lib.hid hz0
  have HZ1 := Lib.hid hz1
  have HZ2 := Lib.hid hz2
  clear hi0 hz0 hz1 hz2
  obtain ⟨m, hm⟩ : ∃ m, 2 * NN = m := ⟨_, rfl⟩
  have hmi : 2 * (NN : Int) = (m : Int) := by omega
  have HMM := Lib.hid hm
  have hm3 : m ≤ 10000 := by omega
  clear hm
  go_wp2_with ((with_reducible refine wpList_make_part _ rfl (.tmp 51) (.tmp 51) 42 rfl 4 i0 (.bool false) Tryz.underlying42 HI0.out HZ0.out HZ1.out (bool_cells false) .i64 .i64 _ _ m m rfl rfl (by omega) (by omega) (Nat.le_refl _) ?c1 (by omega) ?_))
  case c1 => rw [HZ2.out]; omega
  intro w5 hown5 hb5'
  have hb5 : Below (w2.alloc (.cells #[.int .i64 (F : Int)] 3)).heap.size (w2.alloc (.cells #[.int .i64 (F : Int)] 3)) w5 := by
    rw [show (w2.alloc (.cells #[.int .i64 (F : Int)] 3)).heap.size = w2.heap.size + 1 by simp]; exact hb5'
  have hb25 := below_then (below_new w2 (.cells #[.int .i64 (F : Int)] 3)) hb5
  have X5 := Lib.hid (X2.out.keep hb25)
  have G85 := (Blk.made w2 3 #[.int .i64 (F : Int)]).keep hb5
  have N5 : BitsB w5 (w2.heap.size + 1) (List.replicate m false) := by
    have h := blk_of_own hown5
    rw [show List.replicate m (Value.bool false) = bools (List.replicate m false) by simp [bools]] at h
    exact h
  have P6 := Lib.hid (show P1 w2 w5.heap.size m F (List.replicate m false) (w5.alloc (.cells #[.slice (some ⟨w2.heap.size + 1, 0, none⟩) m m] 42)) from
    ⟨below_then hb25 (below_new w5 _), G85.alloc _, Blk.made w5 _ _, Blk.alloc N5 _, N5.lt, List.length_replicate, InvN.start F m⟩)
  have hlt2 : w.heap.size + 1 < w2.heap.size := R2.out.lt
  have k3 := (X2.out.keep P6.out.below).cell 3
  clear hown5 hb25 hb5 hb5' k0 k1 hmi X5 G85 N5
  go_wp2_with fail
  generalize w5.alloc (.cells #[.slice (some ⟨w2.heap.size + 1, 0, none⟩) m m] 42) = w6 at P6 k3 ⊢
  generalize w5.heap.size = g9 at P6 ⊢
  obtain ⟨nd00, hnd⟩ : ∃ l, List.replicate m false = l := ⟨_, rfl⟩
  have HND := Lib.hid hnd
  rw [hnd] at P6
  clear hnd k3
  have hm3' : m ≤ 1000000 := by omega
  have hF3' : F ≤ 1000000 := by omega
  go_loopw [57] (fun v57 wx => ∃ i : Nat, i ≤ no ∧ v57 = .int .i64 (i : Int) ∧ P1 w2 g9 m F (tells F nd00 ((G.ou.map Int.toNat).take i)) wx) (fun v57 _ => no - (intOf v57).toNat)
  case atStart => exact ⟨0, by omega, rfl, P6.out⟩
  case round =>
    obtain ⟨i, hi, rfl, hp⟩ := hrel
    have Q1 := Lib.hid hp
    clear hp
    by_cases hin : i < no
    case pos =>
      have hin' : (i : Int) < (no : Int) := by omega
      have hia : i < G.ou.length := by rw [HNO.out]; exact hin
      obtain ⟨a, hga, ham, han⟩ := lit_nat HM.out.1 (.inl (List.getElem_mem hia))
      obtain ⟨pa, hPA, hpb, e0⟩ := (HIN.out.ou.later (below_then B2.out Q1.out.below)).int (k := i) hia
      rw [HAO.out] at hPA
      subst hPA
      rw [List.getD_eq_getElem?_getD, List.getElem?_eq_getElem hia] at e0
      have hnx := lits_take Int.toNat G.ou hia
      have e1 : wr.cell? (pa.add i) = some (.int .i64 (a : Int)) := by rw [e0, ← hga]; rfl
      rw [han] at hnx
      have HNX := Lib.hid hnx
      rw [HNN.out] at ham
      have HCL := Lib.hid (Q1.out.call (a := a) (by rw [← HMM.out]; exact ham) hm3' hF3')
      clear e0 hga han hnx
      go_wp2_with fail
      refine HCL.out.mono ?_
      rintro e w7 ⟨rfl, hp⟩
      have Q7 := Lib.hid hp
      clear hp e1
      go_wp2_with fail
      go_roundw
      case rel => exact ⟨i + 1, by omega, by go_num, by rw [HNX.out, tells_snoc]; exact Q7.out⟩
      case measure => simp [intOf]; omega
    obtain rfl : i = no := by omega
    have hlt : ¬ (i : Int) < (i : Int) := by omega
    have hall : (G.ou.map Int.toNat).take i = G.ou.map Int.toNat := List.take_of_length_le (by rw [List.length_map, HNO.out]; exact Nat.le_refl _)
    rw [hall] at Q1
    obtain ⟨nd1, hnd1⟩ : ∃ l, tells F nd00 (G.ou.map Int.toNat) = l := ⟨_, rfl⟩
    have HND1 := Lib.hid hnd1
    rw [hnd1] at Q1
    have k1 := (X2.out.keep Q1.out.below).cell 1
    clear hall hnd1
    go_wp2_with fail
    clear k1 hlt hin
    go_loopw [68] (fun v68 wx => ∃ i : Nat, i ≤ h ∧ v68 = .int .i64 (i : Int) ∧ P1 w2 g9 m F (tells F nd1 ((G.fl.map (fun f => f.1.toNat)).take i)) wx) (fun v68 _ => h - (intOf v68).toNat)
    case atStart => exact ⟨0, by omega, rfl, Q1.out⟩
    case round =>
      obtain ⟨q, hq, rfl, hp⟩ := hrel
      have Q2 := Lib.hid hp
      clear hp
      by_cases hqh : q < h
      case pos =>
        have hqh' : (q : Int) < (h : Int) := by omega
        have hia : q < G.fl.length := by rw [HH.out]; exact hqh
        obtain ⟨a, hga, ham, han⟩ := lit_nat HM.out.1 (.inr ⟨_, List.getElem_mem hia, rfl⟩)
        obtain ⟨g1, g2⟩ := fc_get G.fl q hia
        obtain ⟨pa, hPA, hpb, e0, e1⟩ := HIN.out.fl.two g1 g2
        have hnx := lits_take (fun f : Int × Bool => f.1.toNat) G.fl hia
        rw [HAF.out] at hPA
        subst hPA
        rw [hga] at e0
        have hnx' : (G.fl.map (fun f => f.1.toNat)).take (q + 1) = (G.fl.map (fun f => f.1.toNat)).take q ++ [a] := by rw [hnx, han]
        have HNX := Lib.hid hnx'
        generalize G.fl[q].2 = y at e1
        obtain ⟨ga, hgaa⟩ : ∃ p, pa.add (q * 2) = p := ⟨_, rfl⟩
        have hgab : ga.block < w.heap.size := by rw [← hgaa, add_block]; exact hpb
        rw [hgaa] at e0 e1
        have QB := below_then B2.out Q2.out.below
        have e2 := (QB.cell hgab).trans e0
        have e3 := (QB.cell (p := ⟨ga.block, ga.off + 1, none⟩) hgab).trans e1
        rw [HNN.out] at ham
        have Q3 := Lib.hid (Q2.out.keep (below_new wr (.cells #[.int .i64 (a : Int), .bool y] 62)))
        have HCL := Lib.hid (Q3.out.call (a := a) (by rw [← HMM.out]; exact ham) hm3' hF3')
        have y0 : (wr.alloc (.cells #[.int .i64 (a : Int), .bool y] 62)).cell? ⟨wr.heap.size, 0, none⟩ = some (.int .i64 (a : Int)) := (Blk.made wr _ _).cell 0
        clear e0 e1 hga han hnx hnx' QB g1 g2
        go_wp2_with fail
        refine HCL.out.mono ?_
        rintro e w7 ⟨rfl, hp⟩
        have Q7 := Lib.hid hp
        clear hp e2 e3 y0
        go_wp2_with fail
        go_roundw
        case rel => exact ⟨q + 1, by omega, by go_num, by rw [HNX.out, tells_snoc]; exact Q7.out⟩
        case measure => simp [intOf]; omega
      obtain rfl : q = h := by omega
      have hlt : ¬ (q : Int) < (q : Int) := by omega
      have hall : (G.fl.map (fun f => f.1.toNat)).take q = G.fl.map (fun f => f.1.toNat) := List.take_of_length_le (by rw [List.length_map, HH.out]; exact Nat.le_refl _)
      rw [hall] at Q2
      have hbk : tells F nd1 (G.fl.map (fun f => f.1.toNat)) = M.back 0 := by
        rw [MP.back, MP.nd0, HTS.out, tells_app, HMF.out, HMN.out, HMM.out, HND.out, HND1.out]
      rw [hbk] at Q2
      have hN1 : (NN : Int) - 1 = ((NN - 1 : Nat) : Int) := by omega
      clear hall hbk
      go_wp2_with fail
      go_step3
      go_wp2_with fail
      clear hlt hqh
      have hx0 : NN - 1 + 1 + 0 = NN := by omega
      generalize NN - 1 = x0 at hN1 hx0 ⊢
      go_loopw [15] (fun v15 wx => ∃ x j : Nat, x + 1 + j = NN ∧ F ≤ x + 1 ∧ v15 = .int .i64 (x : Int) ∧ P1 w2 g9 m F (M.back j) wx) (fun v15 _ => (intOf v15).toNat)
      case atStart => exact ⟨x0, 0, hx0, by omega, rfl, Q2.out⟩
      case round =>
        clear hN1 hx0
        obtain ⟨x, j, hxj, hxF, rfl, hp⟩ := hrel
        have Q3 := Lib.hid hp
        clear hp
        have k8 := Q3.out.fst.cell 0
        by_cases hge : F ≤ x
        case neg =>
          obtain ⟨w3, hw3⟩ : ∃ v, v = wr := ⟨_, rfl⟩
          subst hw3
          have hge' : ¬ (F : Int) ≤ (x : Int) := by omega
          have hjF : M.back j = M.nd := by rw [MP.nd, HMN.out, HMF.out, show NN - F = j by omega]
          have BT := Lib.hid (show BitsB w3 (w2.heap.size + 1) M.nd by rw [← hjF]; exact Q3.out.bits)
          have NDL := Lib.hid (show M.nd.length = m by rw [← hjF]; exact Q3.out.len)
          have BX := Lib.hid Q3.out.box
          have BF := Lib.hid Q3.out.fst
          have BB := Lib.hid Q3.out.below
          have X3 := Lib.hid (X2.out.keep BB.out)
          have j0 := X3.out.cell 0
          have hz2 := BB.out.size
          clear hjF Q3 hi hq hxj hxF
          have hmm := @run_makeMap Tryz.prog
          have P20 := Lib.hid (show P2 M w3 I 0 0 none 0 [] (((w3.alloc (.cells #[.int .i64 (I : Int), .slice none 0 0, .slice none 0 0, .slice none 0 0] 32)).alloc (.map #[] 0)).alloc (.cells #[.map (some (w3.heap.size + 1))] 66)) from
            { below := below_then (below_then (below_new w3 _) (below_new _ _)) (below_new _ _)
              box := ((Blk.made w3 _ _).alloc _).alloc _
              mbox := by have := Blk.made ((w3.alloc (.cells #[.int .i64 (I : Int), .slice none 0 0, .slice none 0 0, .slice none 0 0] 32)).alloc (.map #[] 0)) 66 #[.map (some (w3.heap.size + 1))]; simpa using this
              map := ⟨0, Nat.le_refl _, by
                have h := (MapI.made (w3.alloc (.cells #[.int .i64 (I : Int), .slice none 0 0, .slice none 0 0, .slice none 0 0] 32))).below (below_new _ (.cells #[.map (some (w3.heap.size + 1))] 66))
                rw [M.madeTo_zero]
                simpa using h⟩
              row := World.ownsRow_nil _ _ _ _
              all := fun c hc => by cases hc
              pcs := rfl })
          have k9 : ((((w3.alloc (.cells #[.int .i64 (I : Int), .slice none 0 0, .slice none 0 0, .slice none 0 0] 32)).alloc (.map #[] 0)).alloc (.cells #[.map (some (w3.heap.size + 1))] 66))).cell? ⟨g9, 0, none⟩ = some (.slice (some ⟨w2.heap.size + 1, 0, none⟩) m m) := (((BX.out.alloc _).alloc _).alloc _).cell 0
          go_wp2_with fail
          clear hmm k9
          generalize (((w3.alloc (.cells #[.int .i64 (I : Int), .slice none 0 0, .slice none 0 0, .slice none 0 0] 32)).alloc (.map #[] 0)).alloc (.cells #[.map (some (w3.heap.size + 1))] 66)) = w4 at P20 ⊢
          go_loopw [124] (fun v124 wx => ∃ (n : Nat) (AL : Option Addr) (cL : Nat) (ls : List CT), n ≤ m ∧ v124 = .int .i64 (n : Int) ∧ P2 M w3 I n n AL cL ls wx) (fun v124 _ => m - (intOf v124).toNat)
          case atStart => exact ⟨0, none, 0, [], by omega, rfl, P20.out⟩
          case round =>
            obtain ⟨n, AL, cL, ls, hn, rfl, hp⟩ := hrel
            obtain ⟨wm, hwm⟩ : ∃ v, v = wr := ⟨_, rfl⟩
            subst hwm
            have P3 := Lib.hid hp
            clear hp
            by_cases hnm : n < m
            case neg =>
              obtain rfl : n = m := by omega
              have hlt : ¬ (n : Int) < (n : Int) := by omega
              have X4 := Lib.hid (X3.out.keep P3.out.below)
              have k1 := X4.out.cell 1
              obtain ⟨hsL, hhsL⟩ : ∃ l, G.fl.map (fun f => ((M.at_ f.1.toNat : Int), f.2)) = l := ⟨_, rfl⟩
              have HSL := Lib.hid hhsL
              have QB := Lib.hid (below_then B2.out (below_then BB.out P3.out.below))
              have BBP := Lib.hid (below_then BB.out P3.out.below)
              clear hhsL
              go_wp2_with fail
              clear k1 hlt
              go_loopw [198] (fun v198 wx => ∃ (y : Nat) (A : Option Addr) (c : Nat), y ≤ q ∧ v198 = .int .i64 (y : Int) ∧ Chg wm wx (fun k => k = w3.heap.size) ∧ Blk wx w3.heap.size 32 #[.int .i64 (I : Int), .slice A y c, .slice AL ls.length cL, .slice none 0 0] ∧ wx.ownsRow wm.heap.size 71 2 (.slice A y c) y (fc (hsL.take y))) (fun v198 _ => q - (intOf v198).toNat)
              case atStart => exact ⟨0, none, 0, by omega, rfl, Chg.refl _ _, P3.out.box, by simpa [fc] using World.ownsRow_nil wm wm.heap.size 71 2⟩
              case round =>
                obtain ⟨y, A, c, hy, rfl, hch, hbx, hown⟩ := hrel
                obtain ⟨wx, hwx⟩ : ∃ v, v = wr := ⟨_, rfl⟩
                subst hwx
                have C7 := Lib.hid hch
                have T7 := Lib.hid hbx
                have O7 := Lib.hid hown
                clear hch hbx hown
                have hsz := P3.out.below.size
                have BX7 := Lib.hid (show Below w3.heap.size w3 wx from C7.out.below P3.out.below hsz (fun k hk => by rw [hk]; exact Nat.le_refl _))
                have BX2 := Lib.hid (below_then BB.out BX7.out)
                by_cases hyq : y < q
                case pos =>
                  have hyq' : (y : Int) < (q : Int) := by omega
                  have hia : y < G.fl.length := by rw [HH.out]; exact hyq
                  obtain ⟨a, hga, ham, han⟩ := lit_nat HM.out.1 (.inr ⟨_, List.getElem_mem hia, rfl⟩)
                  obtain ⟨g1, g2⟩ := fc_get G.fl y hia
                  obtain ⟨pa, hPA, hpb, e0, e1⟩ := HIN.out.fl.two g1 g2
                  have hnx : hsL.take (y + 1) = hsL.take y ++ [((M.at_ a : Int), G.fl[y].2)] := by
                    rw [← HSL.out, List.take_succ_eq_append_getElem (by rw [List.length_map]; exact hia), List.getElem_map, han]
                  rw [HAF.out] at hPA
                  subst hPA
                  rw [hga] at e0
                  generalize G.fl[y].2 = z at e1 hnx
                  obtain ⟨ga, hgaa⟩ : ∃ p, pa.add (y * 2) = p := ⟨_, rfl⟩
                  have hgab : ga.block < w.heap.size := by rw [← hgaa, add_block]; exact hpb
                  rw [hgaa] at e0 e1
                  have QX := below_then B2.out BX2.out
                  have e2 := (QX.cell hgab).trans e0
                  have e3 := (QX.cell (p := ⟨ga.block, ga.off + 1, none⟩) hgab).trans e1
                  rw [HNN.out, HMM.out] at ham
                  have HND := Lib.hid (fun (W : World) (hW : Below wx.heap.size wx W) => P3.out.nodeC (C7.out.belowB hW) (a := a) ham (by omega))
                  have HNX := Lib.hid hnx
                  clear e0 e1 hga han hnx QX g1 g2
                  generalize M.at_ a = v at HND HNX
                  go_upto_region 53 with (fail)
                  have W8 := Lib.hid (below_new wx (.cells #[.int .i64 (a : Int), .bool z] 62))
                  have T8 := Lib.hid (T7.out.keep W8.out)
                  have C8 := Lib.hid (C7.out.belowB W8.out)
                  have O8 := Lib.hid (own_keep O7.out W8.out)
                  have F8 := Lib.hid (Blk.made wx 62 #[.int .i64 (a : Int), .bool z])
                  generalize wx.alloc (.cells #[.int .i64 (a : Int), .bool z] 62) = w8 at W8 T8 C8 O8 F8 ⊢
                  generalize wx.heap.size = gf at F8 ⊢
                  have y0 := F8.out.cell 0
                  have y1 := F8.out.cell 1
                  have k18 := T8.out.cell 1
                  have k18b : ∀ o, (w8.alloc o).cell? ⟨w3.heap.size, 1, none⟩ = some (.slice A y c) := fun o => (T8.out.alloc o).cell 1
                  have hsz8 := C8.out.size
                  have hgf := F8.out.other T8.out (by decide)
                  clear e2 e3
                  refine wp_region_held_drew (S := (fun w' => w'.cell? ⟨gf, 0, none⟩ = some (.int .i64 (a : Int)) ∧ w'.cell? ⟨gf, 1, none⟩ = some (.bool z))) (by kernel_rfl) ?_ (fun hHeld => ?_)
                  · (first | exact ⟨F8.out.cell 0, F8.out.cell 1⟩ | exact ⟨(F8.out.alloc _).cell 0, (F8.out.alloc _).cell 1⟩ | exact ⟨F9.out.cell 0, F9.out.cell 1⟩ | exact ⟨(F9.out.apart hgf _).cell 0, (F9.out.apart hgf _).cell 1⟩)
                  refine wpAnyH_take (i := 0) (oi := { dst := some 202, op := Op.fieldAddr 32 (Operand.tmp 18) 1, type := 0, pos := _, after := #[], guard := none }) (v := ?_) rfl (by kernel_rfl) (by kernel_rfl) (by kernel_rfl) (fun _ _ _ h => h) (Or.inl ⟨by rfl, ?_⟩) (by assumption) ?_
                  rotate_left
                  · intro w hSw; (try dsimp only at hSw); go_simp; (try with_reducible rfl)
                  try simp only [Act.put, List.setIfInBounds_toArray, List.set_cons_zero, List.set_cons_succ]
                  refine wpAnyH_take (i := 2) (oi := { dst := some 204, op := Op.move (Operand.tmp 20), type := 68, pos := _, after := #[], guard := none }) (v := ?_) rfl (by kernel_rfl) (by kernel_rfl) (by kernel_rfl) (fun _ _ _ h => h) (Or.inl ⟨by rfl, ?_⟩) (by assumption) ?_
                  rotate_left
                  · intro w hSw; (try dsimp only at hSw); go_simp; (try with_reducible rfl)
                  try simp only [Act.put, List.setIfInBounds_toArray, List.set_cons_zero, List.set_cons_succ]
                  refine wpAnyH_take (i := 3) (oi := { dst := some 205, op := Op.fieldAddr 62 (Operand.tmp 29) 0, type := 0, pos := _, after := #[], guard := none }) (v := ?_) rfl (by kernel_rfl) (by kernel_rfl) (by kernel_rfl) (fun _ _ _ h => h) (Or.inl ⟨by rfl, ?_⟩) (by assumption) ?_
                  rotate_left
                  · intro w hSw; (try dsimp only at hSw); go_simp; (try with_reducible rfl)
                  try simp only [Act.put, List.setIfInBounds_toArray, List.set_cons_zero, List.set_cons_succ]
                  refine wpAnyH_take (i := 4) (oi := { dst := some 206, op := Op.load 3 (Operand.tmp 205), type := 3, pos := _, after := #[{ on := 3, ground := Ground.data }], guard := none }) (v := ?_) rfl (by kernel_rfl) (by kernel_rfl) (by kernel_rfl) (fun _ _ _ h => h) (Or.inl ⟨by rfl, ?_⟩) (by assumption) ?_
                  rotate_left
                  · intro w hSw; (try dsimp only at hSw); go_simp; (try with_reducible rfl)
                  try simp only [Act.put, List.setIfInBounds_toArray, List.set_cons_zero, List.set_cons_succ]
                  refine wpAnyH_take (i := 6) (oi := { dst := some 208, op := Op.fieldAddr 62 (Operand.tmp 29) 1, type := 0, pos := _, after := #[], guard := none }) (v := ?_) rfl (by kernel_rfl) (by kernel_rfl) (by kernel_rfl) (fun _ _ _ h => h) (Or.inl ⟨by rfl, ?_⟩) (by assumption) ?_
                  rotate_left
                  · intro w hSw; (try dsimp only at hSw); go_simp; (try with_reducible rfl)
                  try simp only [Act.put, List.setIfInBounds_toArray, List.set_cons_zero, List.set_cons_succ]
                  refine wpAnyH_take (i := 7) (oi := { dst := some 209, op := Op.load 4 (Operand.tmp 208), type := 4, pos := _, after := #[{ on := 6, ground := Ground.data }], guard := none }) (v := ?_) rfl (by kernel_rfl) (by kernel_rfl) (by kernel_rfl) (fun _ _ _ h => h) (Or.inl ⟨by rfl, ?_⟩) (by assumption) ?_
                  rotate_left
                  · intro w hSw; (try dsimp only at hSw); go_simp; (try with_reducible rfl)
                  try simp only [Act.put, List.setIfInBounds_toArray, List.set_cons_zero, List.set_cons_succ]
                  refine wpAnyH_ready (rs := [1, 5]) (by kernel_rfl) (by simp) ?_
                  refine AllReadyH.cons (o := { dst := some 203, op := Op.load 29 (Operand.tmp 202), type := 29, pos := _, after := #[{ on := 0, ground := Ground.data }], guard := none }) rfl (fun K hK => ?_) (AllReadyH.cons (o := { dst := some 207, op := Op.call { callee := Callee.value (Operand.tmp 204), args := #[Operand.tmp 206], argTypes := #[3] }, type := 3, pos := _, after := #[{ on := 2, ground := Ground.data }, { on := 4, ground := Ground.data }], guard := none }) rfl (fun K hK => ?_) AllReadyH.nil)
                  · skip
                    go_simp
                    refine hK.out _ _ ?_ (fun hHeld => ?_)
                    · (first | exact ⟨F8.out.cell 0, F8.out.cell 1⟩ | exact ⟨(F8.out.alloc _).cell 0, (F8.out.alloc _).cell 1⟩ | exact ⟨F9.out.cell 0, F9.out.cell 1⟩ | exact ⟨(F9.out.apart hgf _).cell 0, (F9.out.apart hgf _).cell 1⟩)
                    clear hK K
                    try simp only [Act.put, List.setIfInBounds_toArray, List.set_cons_zero, List.set_cons_succ]
                    refine wpAnyH_ready (rs := [5]) (by kernel_rfl) (by simp) ?_
                    refine AllReadyH.cons (o := { dst := some 207, op := Op.call { callee := Callee.value (Operand.tmp 204), args := #[Operand.tmp 206], argTypes := #[3] }, type := 3, pos := _, after := #[{ on := 2, ground := Ground.data }, { on := 4, ground := Ground.data }], guard := none }) rfl (fun K hK => ?_) AllReadyH.nil
                    go_simp
                    with_reducible refine (HND.out _ ?_).mono ?_
                    · exact below_drewN W8.out 1
                    rintro e w9 ⟨rfl, rfl⟩
                    refine hK.out _ _ ?_ (fun hHeld => ?_)
                    · (first | exact ⟨F8.out.cell 0, F8.out.cell 1⟩ | exact ⟨(F8.out.alloc _).cell 0, (F8.out.alloc _).cell 1⟩ | exact ⟨F9.out.cell 0, F9.out.cell 1⟩ | exact ⟨(F9.out.apart hgf _).cell 0, (F9.out.apart hgf _).cell 1⟩)
                    clear hK K
                    try simp only [Act.put, List.setIfInBounds_toArray, List.set_cons_zero, List.set_cons_succ]
                    refine wpAnyH_take (i := 8) (oi := { dst := some 210, op := Op.build 71 #[(0, Operand.tmp 207), (1, Operand.tmp 209)], type := 71, pos := _, after := #[{ on := 5, ground := Ground.data }, { on := 7, ground := Ground.data }], guard := none }) (v := ?_) rfl (by kernel_rfl) (by kernel_rfl) (by kernel_rfl) (fun _ _ _ h => h) (Or.inl ⟨by rfl, ?_⟩) (by assumption) ?_
                    rotate_left
                    · intro w hSw; (try dsimp only at hSw); go_simp; (try with_reducible rfl)
                    try simp only [Act.put, List.setIfInBounds_toArray, List.set_cons_zero, List.set_cons_succ]
                    refine wpAnyH_ready (rs := [9]) (by kernel_rfl) (by simp) ?_
                    refine AllReadyH.cons (o := { dst := some 211, op := Op.buildSlice 29 1 #[(0, Operand.tmp 210)], type := 29, pos := _, after := #[{ on := 8, ground := Ground.data }], guard := none }) rfl (fun K hK => ?_) AllReadyH.nil
                    go_simp
                    refine hK.out _ _ ?_ (fun hHeld => ?_)
                    · (first | exact ⟨F8.out.cell 0, F8.out.cell 1⟩ | exact ⟨(F8.out.alloc _).cell 0, (F8.out.alloc _).cell 1⟩ | exact ⟨F9.out.cell 0, F9.out.cell 1⟩ | exact ⟨(F9.out.apart hgf _).cell 0, (F9.out.apart hgf _).cell 1⟩)
                    clear hK K
                    try simp only [Act.put, List.setIfInBounds_toArray, List.set_cons_zero, List.set_cons_succ]
                    refine wpAnyH_ready (rs := [10]) (by kernel_rfl) (by simp) ?_
                    refine AllReadyH.cons (o := { dst := some 212, op := Op.call { callee := Callee.builtin Builtin.append, args := #[Operand.tmp 203, Operand.tmp 211], argTypes := #[29, 29] }, type := 29, pos := _, after := #[{ on := 1, ground := Ground.data }, { on := 9, ground := Ground.data }, { on := 5, ground := Ground.chain }], guard := none }) rfl (fun K hK => ?_) AllReadyH.nil
                    have O9 := Lib.hid ((O8.out.drew).alloc (.cells #[.int .i64 (v : Int), .bool z] 71))
                    obtain ⟨A9, k9, u9, hrun9, hown9, hgr9, hat9⟩ := app_run 29 71 29 Tryz.underlying29 _ 2 16 hold_info rfl (by decide) (by decide) wm.heap.size A y c (fc (hsL.take y)) O9.out ⟨w8.drew.heap.size, 0, none⟩ 1 [.int .i64 (v : Int), .bool z] (rd_of_blk (cs := [.int .i64 (v : Int), .bool z]) (Blk.made w8.drew 71 #[.int .i64 (v : Int), .bool z]) 2 1 rfl) (hold_one _ _) (by omega) (by have := C8.out.size; simp; omega)
                    refine step_app_run (by rfl) (.tmp 203) (.tmp 211) 29 29 (by rfl) (.slice A y c) (.slice (some ⟨w8.heap.size, 0, none⟩) 1 1) (by rfl) (by rfl) hrun9 ?_
                    have T9 := Lib.hid (((show Blk w8.drew _ _ _ from T8.out).alloc (.cells #[.int .i64 (v : Int), .bool z] 71)).grown hgr9 (fun e => own_other O8.out T8.out (by decide) (by rw [own_blk]; exact e.symm)))
                    have C9 := Lib.hid (((C8.out.belowB (below_drewN (Below.refl _ _) 1)).belowB (below_new w8.drew (.cells #[.int .i64 (v : Int), .bool z] 71))).grownHi hgr9 (fun k hk => own_base O8.out (by rw [own_blk]; exact hk)))
                    have O10 := Lib.hid (show u9.ownsRow wm.heap.size 71 2 (.slice A9 (y + 1) k9) (y + 1) (fc (hsL.take (y + 1))) from by rw [HNX.out, fc_append]; exact hown9)
                    have k18c := T9.out.cell 1
                    have f18c := T9.out.free 1
                    have F9 := Lib.hid (((show Blk w8.drew _ _ _ from F8.out).alloc (.cells #[.int .i64 (v : Int), .bool z] 71)).grown hgr9 (fun e => own_other O8.out F8.out (by decide) (by rw [own_blk]; exact e.symm)))
                    clear hown9 hgr9 hat9 hrun9
                    refine hK.out _ _ ?_ (fun hHeld => ?_)
                    · (first | exact ⟨F8.out.cell 0, F8.out.cell 1⟩ | exact ⟨(F8.out.alloc _).cell 0, (F8.out.alloc _).cell 1⟩ | exact ⟨F9.out.cell 0, F9.out.cell 1⟩ | exact ⟨(F9.out.apart hgf _).cell 0, (F9.out.apart hgf _).cell 1⟩)
                    clear hK K
                    try simp only [Act.put, List.setIfInBounds_toArray, List.set_cons_zero, List.set_cons_succ]
                    refine wpAnyH_take (i := 11) (oi := { dst := some 213, op := Op.fieldAddr 32 (Operand.tmp 18) 1, type := 0, pos := _, after := #[{ on := 0, ground := Ground.phase }, { on := 1, ground := Ground.phase }, { on := 2, ground := Ground.phase }, { on := 3, ground := Ground.phase }, { on := 4, ground := Ground.phase }, { on := 5, ground := Ground.phase }, { on := 6, ground := Ground.phase }, { on := 7, ground := Ground.phase }, { on := 8, ground := Ground.phase }, { on := 9, ground := Ground.phase }, { on := 10, ground := Ground.phase }], guard := none }) (v := ?_) rfl (by kernel_rfl) (by kernel_rfl) (by kernel_rfl) (fun _ _ _ h => h) (Or.inl ⟨by rfl, ?_⟩) (by assumption) ?_
                    rotate_left
                    · intro w hSw; (try dsimp only at hSw); go_simp; (try with_reducible rfl)
                    try simp only [Act.put, List.setIfInBounds_toArray, List.set_cons_zero, List.set_cons_succ]
                    refine wpAnyH_ready (rs := [12]) (by kernel_rfl) (by simp) ?_
                    refine AllReadyH.cons (o := { dst := none, op := Op.store 29 (Operand.tmp 213) (Operand.tmp 212), type := 0, pos := _, after := #[{ on := 11, ground := Ground.data }, { on := 10, ground := Ground.data }, { on := 10, ground := Ground.chain }, { on := 0, ground := Ground.phase }, { on := 1, ground := Ground.phase }, { on := 2, ground := Ground.phase }, { on := 3, ground := Ground.phase }, { on := 4, ground := Ground.phase }, { on := 5, ground := Ground.phase }, { on := 6, ground := Ground.phase }, { on := 7, ground := Ground.phase }, { on := 8, ground := Ground.phase }, { on := 9, ground := Ground.phase }, { on := 10, ground := Ground.phase }], guard := none }) rfl (fun K hK => ?_) AllReadyH.nil
                    go_simp
                    refine hK.out _ _ ?_ (fun hHeld => ?_)
                    · (first | exact ⟨F8.out.cell 0, F8.out.cell 1⟩ | exact ⟨(F8.out.alloc _).cell 0, (F8.out.alloc _).cell 1⟩ | exact ⟨F9.out.cell 0, F9.out.cell 1⟩ | exact ⟨(F9.out.apart hgf _).cell 0, (F9.out.apart hgf _).cell 1⟩)
                    clear hK K
                    try simp only [Act.put, List.setIfInBounds_toArray, List.set_cons_zero, List.set_cons_succ]
                    refine wpAnyH_done (by kernel_rfl) ?_ _
                    have T10 := Lib.hid (T9.out.put 1 (.slice A9 (y + 1) k9))
                    have C10 := Lib.hid (C9.out.setSame (i := 1) (.slice A9 (y + 1) k9))
                    have O11 := Lib.hid ((Chg.set u9 w3.heap.size 1 (.slice A9 (y + 1) k9)).own O10.out (fun g e hk => own_other O10.out T9.out (by decide) (by rw [e, hk])))
                    clear k18 k18b k18c f18c
                    generalize u9.setCell ⟨w3.heap.size, 1, none⟩ (.slice A9 (y + 1) k9) = w10 at T10 C10 O11 ⊢
                    go_wp2_with fail
                    go_roundw
                    case rel => exact ⟨y + 1, A9, k9, by omega, by go_num, C10.out, T10.out, O11.out⟩
                    case measure => simp [intOf]; omega
                  · skip
                    go_simp
                    with_reducible refine (HND.out _ ?_).mono ?_
                    · exact below_drewN W8.out 1
                    rintro e w9 ⟨rfl, rfl⟩
                    refine hK.out _ _ ?_ (fun hHeld => ?_)
                    · (first | exact ⟨F8.out.cell 0, F8.out.cell 1⟩ | exact ⟨(F8.out.alloc _).cell 0, (F8.out.alloc _).cell 1⟩ | exact ⟨F9.out.cell 0, F9.out.cell 1⟩ | exact ⟨(F9.out.apart hgf _).cell 0, (F9.out.apart hgf _).cell 1⟩)
                    clear hK K
                    try simp only [Act.put, List.setIfInBounds_toArray, List.set_cons_zero, List.set_cons_succ]
                    refine wpAnyH_take (i := 8) (oi := { dst := some 210, op := Op.build 71 #[(0, Operand.tmp 207), (1, Operand.tmp 209)], type := 71, pos := _, after := #[{ on := 5, ground := Ground.data }, { on := 7, ground := Ground.data }], guard := none }) (v := ?_) rfl (by kernel_rfl) (by kernel_rfl) (by kernel_rfl) (fun _ _ _ h => h) (Or.inl ⟨by rfl, ?_⟩) (by assumption) ?_
                    rotate_left
                    · intro w hSw; (try dsimp only at hSw); go_simp; (try with_reducible rfl)
                    try simp only [Act.put, List.setIfInBounds_toArray, List.set_cons_zero, List.set_cons_succ]
                    refine wpAnyH_ready (rs := [1, 9]) (by kernel_rfl) (by simp) ?_
                    refine AllReadyH.cons (o := { dst := some 203, op := Op.load 29 (Operand.tmp 202), type := 29, pos := _, after := #[{ on := 0, ground := Ground.data }], guard := none }) rfl (fun K hK => ?_) (AllReadyH.cons (o := { dst := some 211, op := Op.buildSlice 29 1 #[(0, Operand.tmp 210)], type := 29, pos := _, after := #[{ on := 8, ground := Ground.data }], guard := none }) rfl (fun K hK => ?_) AllReadyH.nil)
                    · skip
                      go_simp
                      refine hK.out _ _ ?_ (fun hHeld => ?_)
                      · (first | exact ⟨F8.out.cell 0, F8.out.cell 1⟩ | exact ⟨(F8.out.alloc _).cell 0, (F8.out.alloc _).cell 1⟩ | exact ⟨F9.out.cell 0, F9.out.cell 1⟩ | exact ⟨(F9.out.apart hgf _).cell 0, (F9.out.apart hgf _).cell 1⟩)
                      clear hK K
                      try simp only [Act.put, List.setIfInBounds_toArray, List.set_cons_zero, List.set_cons_succ]
                      refine wpAnyH_ready (rs := [9]) (by kernel_rfl) (by simp) ?_
                      refine AllReadyH.cons (o := { dst := some 211, op := Op.buildSlice 29 1 #[(0, Operand.tmp 210)], type := 29, pos := _, after := #[{ on := 8, ground := Ground.data }], guard := none }) rfl (fun K hK => ?_) AllReadyH.nil
                      go_simp
                      refine hK.out _ _ ?_ (fun hHeld => ?_)
                      · (first | exact ⟨F8.out.cell 0, F8.out.cell 1⟩ | exact ⟨(F8.out.alloc _).cell 0, (F8.out.alloc _).cell 1⟩ | exact ⟨F9.out.cell 0, F9.out.cell 1⟩ | exact ⟨(F9.out.apart hgf _).cell 0, (F9.out.apart hgf _).cell 1⟩)
                      clear hK K
                      try simp only [Act.put, List.setIfInBounds_toArray, List.set_cons_zero, List.set_cons_succ]
                      refine wpAnyH_ready (rs := [10]) (by kernel_rfl) (by simp) ?_
                      refine AllReadyH.cons (o := { dst := some 212, op := Op.call { callee := Callee.builtin Builtin.append, args := #[Operand.tmp 203, Operand.tmp 211], argTypes := #[29, 29] }, type := 29, pos := _, after := #[{ on := 1, ground := Ground.data }, { on := 9, ground := Ground.data }, { on := 5, ground := Ground.chain }], guard := none }) rfl (fun K hK => ?_) AllReadyH.nil
                      have O9 := Lib.hid ((O8.out.drew).alloc (.cells #[.int .i64 (v : Int), .bool z] 71))
                      obtain ⟨A9, k9, u9, hrun9, hown9, hgr9, hat9⟩ := app_run 29 71 29 Tryz.underlying29 _ 2 16 hold_info rfl (by decide) (by decide) wm.heap.size A y c (fc (hsL.take y)) O9.out ⟨w8.drew.heap.size, 0, none⟩ 1 [.int .i64 (v : Int), .bool z] (rd_of_blk (cs := [.int .i64 (v : Int), .bool z]) (Blk.made w8.drew 71 #[.int .i64 (v : Int), .bool z]) 2 1 rfl) (hold_one _ _) (by omega) (by have := C8.out.size; simp; omega)
                      refine step_app_run (by rfl) (.tmp 203) (.tmp 211) 29 29 (by rfl) (.slice A y c) (.slice (some ⟨w8.heap.size, 0, none⟩) 1 1) (by rfl) (by rfl) hrun9 ?_
                      have T9 := Lib.hid (((show Blk w8.drew _ _ _ from T8.out).alloc (.cells #[.int .i64 (v : Int), .bool z] 71)).grown hgr9 (fun e => own_other O8.out T8.out (by decide) (by rw [own_blk]; exact e.symm)))
                      have C9 := Lib.hid (((C8.out.belowB (below_drewN (Below.refl _ _) 1)).belowB (below_new w8.drew (.cells #[.int .i64 (v : Int), .bool z] 71))).grownHi hgr9 (fun k hk => own_base O8.out (by rw [own_blk]; exact hk)))
                      have O10 := Lib.hid (show u9.ownsRow wm.heap.size 71 2 (.slice A9 (y + 1) k9) (y + 1) (fc (hsL.take (y + 1))) from by rw [HNX.out, fc_append]; exact hown9)
                      have k18c := T9.out.cell 1
                      have f18c := T9.out.free 1
                      have F9 := Lib.hid (((show Blk w8.drew _ _ _ from F8.out).alloc (.cells #[.int .i64 (v : Int), .bool z] 71)).grown hgr9 (fun e => own_other O8.out F8.out (by decide) (by rw [own_blk]; exact e.symm)))
                      clear hown9 hgr9 hat9 hrun9
                      refine hK.out _ _ ?_ (fun hHeld => ?_)
                      · (first | exact ⟨F8.out.cell 0, F8.out.cell 1⟩ | exact ⟨(F8.out.alloc _).cell 0, (F8.out.alloc _).cell 1⟩ | exact ⟨F9.out.cell 0, F9.out.cell 1⟩ | exact ⟨(F9.out.apart hgf _).cell 0, (F9.out.apart hgf _).cell 1⟩)
                      clear hK K
                      try simp only [Act.put, List.setIfInBounds_toArray, List.set_cons_zero, List.set_cons_succ]
                      refine wpAnyH_take (i := 11) (oi := { dst := some 213, op := Op.fieldAddr 32 (Operand.tmp 18) 1, type := 0, pos := _, after := #[{ on := 0, ground := Ground.phase }, { on := 1, ground := Ground.phase }, { on := 2, ground := Ground.phase }, { on := 3, ground := Ground.phase }, { on := 4, ground := Ground.phase }, { on := 5, ground := Ground.phase }, { on := 6, ground := Ground.phase }, { on := 7, ground := Ground.phase }, { on := 8, ground := Ground.phase }, { on := 9, ground := Ground.phase }, { on := 10, ground := Ground.phase }], guard := none }) (v := ?_) rfl (by kernel_rfl) (by kernel_rfl) (by kernel_rfl) (fun _ _ _ h => h) (Or.inl ⟨by rfl, ?_⟩) (by assumption) ?_
                      rotate_left
                      · intro w hSw; (try dsimp only at hSw); go_simp; (try with_reducible rfl)
                      try simp only [Act.put, List.setIfInBounds_toArray, List.set_cons_zero, List.set_cons_succ]
                      refine wpAnyH_ready (rs := [12]) (by kernel_rfl) (by simp) ?_
                      refine AllReadyH.cons (o := { dst := none, op := Op.store 29 (Operand.tmp 213) (Operand.tmp 212), type := 0, pos := _, after := #[{ on := 11, ground := Ground.data }, { on := 10, ground := Ground.data }, { on := 10, ground := Ground.chain }, { on := 0, ground := Ground.phase }, { on := 1, ground := Ground.phase }, { on := 2, ground := Ground.phase }, { on := 3, ground := Ground.phase }, { on := 4, ground := Ground.phase }, { on := 5, ground := Ground.phase }, { on := 6, ground := Ground.phase }, { on := 7, ground := Ground.phase }, { on := 8, ground := Ground.phase }, { on := 9, ground := Ground.phase }, { on := 10, ground := Ground.phase }], guard := none }) rfl (fun K hK => ?_) AllReadyH.nil
                      go_simp
                      refine hK.out _ _ ?_ (fun hHeld => ?_)
                      · (first | exact ⟨F8.out.cell 0, F8.out.cell 1⟩ | exact ⟨(F8.out.alloc _).cell 0, (F8.out.alloc _).cell 1⟩ | exact ⟨F9.out.cell 0, F9.out.cell 1⟩ | exact ⟨(F9.out.apart hgf _).cell 0, (F9.out.apart hgf _).cell 1⟩)
                      clear hK K
                      try simp only [Act.put, List.setIfInBounds_toArray, List.set_cons_zero, List.set_cons_succ]
                      refine wpAnyH_done (by kernel_rfl) ?_ _
                      have T10 := Lib.hid (T9.out.put 1 (.slice A9 (y + 1) k9))
                      have C10 := Lib.hid (C9.out.setSame (i := 1) (.slice A9 (y + 1) k9))
                      have O11 := Lib.hid ((Chg.set u9 w3.heap.size 1 (.slice A9 (y + 1) k9)).own O10.out (fun g e hk => own_other O10.out T9.out (by decide) (by rw [e, hk])))
                      clear k18 k18b k18c f18c
                      generalize u9.setCell ⟨w3.heap.size, 1, none⟩ (.slice A9 (y + 1) k9) = w10 at T10 C10 O11 ⊢
                      go_wp2_with fail
                      go_roundw
                      case rel => exact ⟨y + 1, A9, k9, by omega, by go_num, C10.out, T10.out, O11.out⟩
                      case measure => simp [intOf]; omega
                    · skip
                      go_simp
                      refine hK.out _ _ ?_ (fun hHeld => ?_)
                      · (first | exact ⟨F8.out.cell 0, F8.out.cell 1⟩ | exact ⟨(F8.out.alloc _).cell 0, (F8.out.alloc _).cell 1⟩ | exact ⟨F9.out.cell 0, F9.out.cell 1⟩ | exact ⟨(F9.out.apart hgf _).cell 0, (F9.out.apart hgf _).cell 1⟩)
                      clear hK K
                      try simp only [Act.put, List.setIfInBounds_toArray, List.set_cons_zero, List.set_cons_succ]
                      refine wpAnyH_ready (rs := [1]) (by kernel_rfl) (by simp) ?_
                      refine AllReadyH.cons (o := { dst := some 203, op := Op.load 29 (Operand.tmp 202), type := 29, pos := _, after := #[{ on := 0, ground := Ground.data }], guard := none }) rfl (fun K hK => ?_) AllReadyH.nil
                      go_simp
                      refine hK.out _ _ ?_ (fun hHeld => ?_)
                      · (first | exact ⟨F8.out.cell 0, F8.out.cell 1⟩ | exact ⟨(F8.out.alloc _).cell 0, (F8.out.alloc _).cell 1⟩ | exact ⟨F9.out.cell 0, F9.out.cell 1⟩ | exact ⟨(F9.out.apart hgf _).cell 0, (F9.out.apart hgf _).cell 1⟩)
                      clear hK K
                      try simp only [Act.put, List.setIfInBounds_toArray, List.set_cons_zero, List.set_cons_succ]
                      refine wpAnyH_ready (rs := [10]) (by kernel_rfl) (by simp) ?_
                      refine AllReadyH.cons (o := { dst := some 212, op := Op.call { callee := Callee.builtin Builtin.append, args := #[Operand.tmp 203, Operand.tmp 211], argTypes := #[29, 29] }, type := 29, pos := _, after := #[{ on := 1, ground := Ground.data }, { on := 9, ground := Ground.data }, { on := 5, ground := Ground.chain }], guard := none }) rfl (fun K hK => ?_) AllReadyH.nil
                      have O9 := Lib.hid ((O8.out.drew).alloc (.cells #[.int .i64 (v : Int), .bool z] 71))
                      obtain ⟨A9, k9, u9, hrun9, hown9, hgr9, hat9⟩ := app_run 29 71 29 Tryz.underlying29 _ 2 16 hold_info rfl (by decide) (by decide) wm.heap.size A y c (fc (hsL.take y)) O9.out ⟨w8.drew.heap.size, 0, none⟩ 1 [.int .i64 (v : Int), .bool z] (rd_of_blk (cs := [.int .i64 (v : Int), .bool z]) (Blk.made w8.drew 71 #[.int .i64 (v : Int), .bool z]) 2 1 rfl) (hold_one _ _) (by omega) (by have := C8.out.size; simp; omega)
                      refine step_app_run (by rfl) (.tmp 203) (.tmp 211) 29 29 (by rfl) (.slice A y c) (.slice (some ⟨w8.heap.size, 0, none⟩) 1 1) (by rfl) (by rfl) hrun9 ?_
                      have T9 := Lib.hid (((show Blk w8.drew _ _ _ from T8.out).alloc (.cells #[.int .i64 (v : Int), .bool z] 71)).grown hgr9 (fun e => own_other O8.out T8.out (by decide) (by rw [own_blk]; exact e.symm)))
                      have C9 := Lib.hid (((C8.out.belowB (below_drewN (Below.refl _ _) 1)).belowB (below_new w8.drew (.cells #[.int .i64 (v : Int), .bool z] 71))).grownHi hgr9 (fun k hk => own_base O8.out (by rw [own_blk]; exact hk)))
                      have O10 := Lib.hid (show u9.ownsRow wm.heap.size 71 2 (.slice A9 (y + 1) k9) (y + 1) (fc (hsL.take (y + 1))) from by rw [HNX.out, fc_append]; exact hown9)
                      have k18c := T9.out.cell 1
                      have f18c := T9.out.free 1
                      have F9 := Lib.hid (((show Blk w8.drew _ _ _ from F8.out).alloc (.cells #[.int .i64 (v : Int), .bool z] 71)).grown hgr9 (fun e => own_other O8.out F8.out (by decide) (by rw [own_blk]; exact e.symm)))
                      clear hown9 hgr9 hat9 hrun9
                      refine hK.out _ _ ?_ (fun hHeld => ?_)
                      · (first | exact ⟨F8.out.cell 0, F8.out.cell 1⟩ | exact ⟨(F8.out.alloc _).cell 0, (F8.out.alloc _).cell 1⟩ | exact ⟨F9.out.cell 0, F9.out.cell 1⟩ | exact ⟨(F9.out.apart hgf _).cell 0, (F9.out.apart hgf _).cell 1⟩)
                      clear hK K
                      try simp only [Act.put, List.setIfInBounds_toArray, List.set_cons_zero, List.set_cons_succ]
                      refine wpAnyH_take (i := 11) (oi := { dst := some 213, op := Op.fieldAddr 32 (Operand.tmp 18) 1, type := 0, pos := _, after := #[{ on := 0, ground := Ground.phase }, { on := 1, ground := Ground.phase }, { on := 2, ground := Ground.phase }, { on := 3, ground := Ground.phase }, { on := 4, ground := Ground.phase }, { on := 5, ground := Ground.phase }, { on := 6, ground := Ground.phase }, { on := 7, ground := Ground.phase }, { on := 8, ground := Ground.phase }, { on := 9, ground := Ground.phase }, { on := 10, ground := Ground.phase }], guard := none }) (v := ?_) rfl (by kernel_rfl) (by kernel_rfl) (by kernel_rfl) (fun _ _ _ h => h) (Or.inl ⟨by rfl, ?_⟩) (by assumption) ?_
                      rotate_left
                      · intro w hSw; (try dsimp only at hSw); go_simp; (try with_reducible rfl)
                      try simp only [Act.put, List.setIfInBounds_toArray, List.set_cons_zero, List.set_cons_succ]
                      refine wpAnyH_ready (rs := [12]) (by kernel_rfl) (by simp) ?_
                      refine AllReadyH.cons (o := { dst := none, op := Op.store 29 (Operand.tmp 213) (Operand.tmp 212), type := 0, pos := _, after := #[{ on := 11, ground := Ground.data }, { on := 10, ground := Ground.data }, { on := 10, ground := Ground.chain }, { on := 0, ground := Ground.phase }, { on := 1, ground := Ground.phase }, { on := 2, ground := Ground.phase }, { on := 3, ground := Ground.phase }, { on := 4, ground := Ground.phase }, { on := 5, ground := Ground.phase }, { on := 6, ground := Ground.phase }, { on := 7, ground := Ground.phase }, { on := 8, ground := Ground.phase }, { on := 9, ground := Ground.phase }, { on := 10, ground := Ground.phase }], guard := none }) rfl (fun K hK => ?_) AllReadyH.nil
                      go_simp
                      refine hK.out _ _ ?_ (fun hHeld => ?_)
                      · (first | exact ⟨F8.out.cell 0, F8.out.cell 1⟩ | exact ⟨(F8.out.alloc _).cell 0, (F8.out.alloc _).cell 1⟩ | exact ⟨F9.out.cell 0, F9.out.cell 1⟩ | exact ⟨(F9.out.apart hgf _).cell 0, (F9.out.apart hgf _).cell 1⟩)
                      clear hK K
                      try simp only [Act.put, List.setIfInBounds_toArray, List.set_cons_zero, List.set_cons_succ]
                      refine wpAnyH_done (by kernel_rfl) ?_ _
                      have T10 := Lib.hid (T9.out.put 1 (.slice A9 (y + 1) k9))
                      have C10 := Lib.hid (C9.out.setSame (i := 1) (.slice A9 (y + 1) k9))
                      have O11 := Lib.hid ((Chg.set u9 w3.heap.size 1 (.slice A9 (y + 1) k9)).own O10.out (fun g e hk => own_other O10.out T9.out (by decide) (by rw [e, hk])))
                      clear k18 k18b k18c f18c
                      generalize u9.setCell ⟨w3.heap.size, 1, none⟩ (.slice A9 (y + 1) k9) = w10 at T10 C10 O11 ⊢
                      go_wp2_with fail
                      go_roundw
                      case rel => exact ⟨y + 1, A9, k9, by omega, by go_num, C10.out, T10.out, O11.out⟩
                      case measure => simp [intOf]; omega
                obtain rfl : y = q := by omega
                have hlt : ¬ (y : Int) < (y : Int) := by omega
                have htk : hsL.take y = hsL := List.take_of_length_le (by rw [← HSL.out, List.length_map, HH.out]; exact Nat.le_refl _)
                have hhl : hsL.length = y := by rw [← HSL.out, List.length_map]; exact HH.out
                rw [htk] at O7
                have HHL := Lib.hid hhl
                obtain ⟨ouL, houL⟩ : ∃ l, G.ou.map (fun a => (M.at_ a.toNat : Int)) = l := ⟨_, rfl⟩
                have HOL := Lib.hid houL
                have X8 := Lib.hid (show Blk wx w.heap.size 26 #[.int .i64 (I : Int), .slice AF y G.cF, .slice G.AA G.an.length G.cA, .slice AO i G.cO] from C7.out.blk X4.out (by have := X4.out.lt; have h2 := X3.out.lt; have := X2.out.lt; omega))
                have k3 := X8.out.cell 3
                clear htk hhl houL
                go_wp2_with fail
                clear k3 hlt
                obtain ⟨wz, hwz⟩ : ∃ v, v = wx := ⟨_, rfl⟩
                subst hwz
                obtain ⟨AH, hAH⟩ : ∃ v, v = A := ⟨_, rfl⟩
                obtain ⟨cH, hcH⟩ : ∃ v, v = c := ⟨_, rfl⟩
                subst hAH
                subst hcH
                go_loopw [218] (fun v218 wx => ∃ (u : Nat) (A : Option Addr) (c : Nat), u ≤ i ∧ v218 = .int .i64 (u : Int) ∧ Chg wz wx (fun k => k = w3.heap.size) ∧ Blk wx w3.heap.size 32 #[.int .i64 (I : Int), .slice AH hsL.length cH, .slice AL ls.length cL, .slice A u c] ∧ wx.ownsRow wz.heap.size 3 1 (.slice A u c) u (ints (ouL.take u))) (fun v218 _ => i - (intOf v218).toNat)
                case atStart => exact ⟨0, none, 0, by omega, rfl, Chg.refl _ _, by rw [HHL.out]; exact T7.out, by simpa [ints] using World.ownsRow_nil wz wz.heap.size 3 1⟩
                case round =>
                  obtain ⟨u, A, c, hu, rfl, hch, hbx, hown⟩ := hrel
                  obtain ⟨w8, hw8⟩ : ∃ v, v = wr := ⟨_, rfl⟩
                  subst hw8
                  have C8 := Lib.hid hch
                  have T8 := Lib.hid hbx
                  have O8 := Lib.hid hown
                  have C70 := Lib.hid (show Chg wm w8 (fun k => k = w3.heap.size) from (C7.out.trans hch).mono' fun k hk => hk.elim id id)
                  clear hch hbx hown
                  have BX8 := Lib.hid (show Below w3.heap.size w3 w8 from C70.out.below P3.out.below hsz (fun k hk => by rw [hk]; exact Nat.le_refl _))
                  have BX82 := Lib.hid (below_then BB.out BX8.out)
                  by_cases hui : u < i
                  case pos =>
                    have hui' : (u : Int) < (i : Int) := by omega
                    have hia : u < G.ou.length := by rw [HNO.out]; exact hui
                    obtain ⟨a, hga, ham, han⟩ := lit_nat HM.out.1 (.inl (List.getElem_mem hia))
                    obtain ⟨pa, hPA, hpb, e0⟩ := (HIN.out.ou.later (below_then B2.out BX82.out)).int (k := u) hia
                    rw [HAO.out] at hPA
                    subst hPA
                    rw [List.getD_eq_getElem?_getD, List.getElem?_eq_getElem hia] at e0
                    have hnx : ouL.take (u + 1) = ouL.take u ++ [(M.at_ a : Int)] := by
                      rw [← HOL.out, List.take_succ_eq_append_getElem (by rw [List.length_map]; exact hia), List.getElem_map, han]
                    have e1 : w8.cell? (pa.add u) = some (.int .i64 (a : Int)) := by rw [e0, ← hga]; rfl
                    rw [HNN.out, HMM.out] at ham
                    have HND := Lib.hid (fun (W : World) (hW : Below w8.heap.size w8 W) => P3.out.nodeC (C70.out.belowB hW) (a := a) ham (by omega))
                    have HNX := Lib.hid hnx
                    have W8 := Lib.hid (Below.refl w8.heap.size w8)
                    clear e0 hga han hnx
                    generalize M.at_ a = v at HND HNX
                    have k18 := T8.out.cell 3
                    have k18b : ∀ o, (w8.alloc o).cell? ⟨w3.heap.size, 3, none⟩ = some (.slice A u c) := fun o => (T8.out.alloc o).cell 3
                    have hsz8 := C8.out.size
                    go_upto_region 58 with (fail)
                    clear e1
                    refine wp_region_held_drew (S := (fun _ => True)) (by kernel_rfl) ?_ (fun hHeld => ?_)
                    · trivial
                    refine wpAnyH_take (i := 0) (oi := { dst := some 222, op := Op.fieldAddr 32 (Operand.tmp 18) 3, type := 0, pos := _, after := #[], guard := none }) (v := ?_) rfl (by kernel_rfl) (by kernel_rfl) (by kernel_rfl) (fun _ _ _ h => h) (Or.inl ⟨by rfl, ?_⟩) (by assumption) ?_
                    rotate_left
                    · intro w hSw; (try dsimp only at hSw); go_simp; (try with_reducible rfl)
                    try simp only [Act.put, List.setIfInBounds_toArray, List.set_cons_zero, List.set_cons_succ]
                    refine wpAnyH_take (i := 2) (oi := { dst := some 224, op := Op.move (Operand.tmp 20), type := 68, pos := _, after := #[], guard := none }) (v := ?_) rfl (by kernel_rfl) (by kernel_rfl) (by kernel_rfl) (fun _ _ _ h => h) (Or.inl ⟨by rfl, ?_⟩) (by assumption) ?_
                    rotate_left
                    · intro w hSw; (try dsimp only at hSw); go_simp; (try with_reducible rfl)
                    try simp only [Act.put, List.setIfInBounds_toArray, List.set_cons_zero, List.set_cons_succ]
                    refine wpAnyH_take (i := 3) (oi := { dst := some 225, op := Op.move (Operand.tmp 31), type := 3, pos := _, after := #[], guard := none }) (v := ?_) rfl (by kernel_rfl) (by kernel_rfl) (by kernel_rfl) (fun _ _ _ h => h) (Or.inl ⟨by rfl, ?_⟩) (by assumption) ?_
                    rotate_left
                    · intro w hSw; (try dsimp only at hSw); go_simp; (try with_reducible rfl)
                    try simp only [Act.put, List.setIfInBounds_toArray, List.set_cons_zero, List.set_cons_succ]
                    refine wpAnyH_ready (rs := [1, 4]) (by kernel_rfl) (by simp) ?_
                    refine AllReadyH.cons (o := { dst := some 223, op := Op.load 24 (Operand.tmp 222), type := 24, pos := _, after := #[{ on := 0, ground := Ground.data }], guard := none }) rfl (fun K hK => ?_) (AllReadyH.cons (o := { dst := some 226, op := Op.call { callee := Callee.value (Operand.tmp 224), args := #[Operand.tmp 225], argTypes := #[3] }, type := 3, pos := _, after := #[{ on := 2, ground := Ground.data }, { on := 3, ground := Ground.data }], guard := none }) rfl (fun K hK => ?_) AllReadyH.nil)
                    · skip
                      go_simp
                      refine hK.out _ _ ?_ (fun hHeld => ?_)
                      · trivial
                      clear hK K
                      try simp only [Act.put, List.setIfInBounds_toArray, List.set_cons_zero, List.set_cons_succ]
                      refine wpAnyH_ready (rs := [4]) (by kernel_rfl) (by simp) ?_
                      refine AllReadyH.cons (o := { dst := some 226, op := Op.call { callee := Callee.value (Operand.tmp 224), args := #[Operand.tmp 225], argTypes := #[3] }, type := 3, pos := _, after := #[{ on := 2, ground := Ground.data }, { on := 3, ground := Ground.data }], guard := none }) rfl (fun K hK => ?_) AllReadyH.nil
                      go_simp
                      with_reducible refine (HND.out _ ?_).mono ?_
                      · exact below_drewN W8.out 1
                      rintro e w9 ⟨rfl, rfl⟩
                      refine hK.out _ _ ?_ (fun hHeld => ?_)
                      · trivial
                      clear hK K
                      try simp only [Act.put, List.setIfInBounds_toArray, List.set_cons_zero, List.set_cons_succ]
                      refine wpAnyH_ready (rs := [5]) (by kernel_rfl) (by simp) ?_
                      refine AllReadyH.cons (o := { dst := some 227, op := Op.buildSlice 24 1 #[(0, Operand.tmp 226)], type := 24, pos := _, after := #[{ on := 4, ground := Ground.data }], guard := none }) rfl (fun K hK => ?_) AllReadyH.nil
                      go_simp
                      refine hK.out _ _ ?_ (fun hHeld => ?_)
                      · trivial
                      clear hK K
                      try simp only [Act.put, List.setIfInBounds_toArray, List.set_cons_zero, List.set_cons_succ]
                      refine wpAnyH_ready (rs := [6]) (by kernel_rfl) (by simp) ?_
                      refine AllReadyH.cons (o := { dst := some 228, op := Op.call { callee := Callee.builtin Builtin.append, args := #[Operand.tmp 223, Operand.tmp 227], argTypes := #[24, 24] }, type := 24, pos := _, after := #[{ on := 1, ground := Ground.data }, { on := 5, ground := Ground.data }, { on := 4, ground := Ground.chain }], guard := none }) rfl (fun K hK => ?_) AllReadyH.nil
                      have O9 := Lib.hid ((O8.out.drew).alloc (.cells #[.int .i64 (v : Int)] 3))
                      obtain ⟨A9, k9, u9, hrun9, hown9, hgr9, hat9⟩ := app_run 24 3 24 Tryz.underlying24 _ 1 8 int_infoA rfl (by decide) (by decide) wz.heap.size A u c (ints (ouL.take u)) O9.out ⟨w8.drew.heap.size, 0, none⟩ 1 [.int .i64 (v : Int)] (rd_of_blk (cs := [.int .i64 (v : Int)]) (Blk.made w8.drew 3 #[.int .i64 (v : Int)]) 1 1 rfl) (fun u hu => by rw [List.mem_singleton] at hu; subst hu; rfl) (by omega) (by have := C8.out.size; simp; omega)
                      refine step_app_run (by rfl) (.tmp 223) (.tmp 227) 24 24 (by rfl) (.slice A u c) (.slice (some ⟨w8.heap.size, 0, none⟩) 1 1) (by rfl) (by rfl) hrun9 ?_
                      have T9 := Lib.hid (((show Blk w8.drew _ _ _ from T8.out).alloc (.cells #[.int .i64 (v : Int)] 3)).grown hgr9 (fun e => own_other O8.out T8.out (by decide) (by rw [own_blk]; exact e.symm)))
                      have C9 := Lib.hid (((C8.out.belowB (below_drewN (Below.refl _ _) 1)).belowB (below_new w8.drew (.cells #[.int .i64 (v : Int)] 3))).grownHi hgr9 (fun k hk => own_base O8.out (by rw [own_blk]; exact hk)))
                      have O10 := Lib.hid (show u9.ownsRow wz.heap.size 3 1 (.slice A9 (u + 1) k9) (u + 1) (ints (ouL.take (u + 1))) from by rw [HNX.out, ints_append]; exact hown9)
                      have k18c := T9.out.cell 3
                      have f18c := T9.out.free 3
                      clear hown9 hgr9 hat9 hrun9
                      refine hK.out _ _ ?_ (fun hHeld => ?_)
                      · trivial
                      clear hK K
                      try simp only [Act.put, List.setIfInBounds_toArray, List.set_cons_zero, List.set_cons_succ]
                      refine wpAnyH_take (i := 7) (oi := { dst := some 229, op := Op.fieldAddr 32 (Operand.tmp 18) 3, type := 0, pos := _, after := #[{ on := 0, ground := Ground.phase }, { on := 1, ground := Ground.phase }, { on := 2, ground := Ground.phase }, { on := 3, ground := Ground.phase }, { on := 4, ground := Ground.phase }, { on := 5, ground := Ground.phase }, { on := 6, ground := Ground.phase }], guard := none }) (v := ?_) rfl (by kernel_rfl) (by kernel_rfl) (by kernel_rfl) (fun _ _ _ h => h) (Or.inl ⟨by rfl, ?_⟩) (by assumption) ?_
                      rotate_left
                      · intro w hSw; (try dsimp only at hSw); go_simp; (try with_reducible rfl)
                      try simp only [Act.put, List.setIfInBounds_toArray, List.set_cons_zero, List.set_cons_succ]
                      refine wpAnyH_ready (rs := [8]) (by kernel_rfl) (by simp) ?_
                      refine AllReadyH.cons (o := { dst := none, op := Op.store 24 (Operand.tmp 229) (Operand.tmp 228), type := 0, pos := _, after := #[{ on := 7, ground := Ground.data }, { on := 6, ground := Ground.data }, { on := 6, ground := Ground.chain }, { on := 0, ground := Ground.phase }, { on := 1, ground := Ground.phase }, { on := 2, ground := Ground.phase }, { on := 3, ground := Ground.phase }, { on := 4, ground := Ground.phase }, { on := 5, ground := Ground.phase }, { on := 6, ground := Ground.phase }], guard := none }) rfl (fun K hK => ?_) AllReadyH.nil
                      go_simp
                      refine hK.out _ _ ?_ (fun hHeld => ?_)
                      · trivial
                      clear hK K
                      try simp only [Act.put, List.setIfInBounds_toArray, List.set_cons_zero, List.set_cons_succ]
                      refine wpAnyH_done (by kernel_rfl) ?_ _
                      have T10 := Lib.hid (T9.out.put 3 (.slice A9 (u + 1) k9))
                      have C10 := Lib.hid (C9.out.setSame (i := 3) (.slice A9 (u + 1) k9))
                      have O11 := Lib.hid ((Chg.set u9 w3.heap.size 3 (.slice A9 (u + 1) k9)).own O10.out (fun g e hk => own_other O10.out T9.out (by decide) (by rw [e, hk])))
                      clear k18 k18b k18c f18c
                      generalize u9.setCell ⟨w3.heap.size, 3, none⟩ (.slice A9 (u + 1) k9) = w10 at T10 C10 O11 ⊢
                      go_wp2_with fail
                      go_roundw
                      case rel => exact ⟨u + 1, A9, k9, by omega, by go_num, C10.out, T10.out, O11.out⟩
                      case measure => simp [intOf]; omega
                    · skip
                      go_simp
                      with_reducible refine (HND.out _ ?_).mono ?_
                      · exact below_drewN W8.out 1
                      rintro e w9 ⟨rfl, rfl⟩
                      refine hK.out _ _ ?_ (fun hHeld => ?_)
                      · trivial
                      clear hK K
                      try simp only [Act.put, List.setIfInBounds_toArray, List.set_cons_zero, List.set_cons_succ]
                      refine wpAnyH_ready (rs := [1, 5]) (by kernel_rfl) (by simp) ?_
                      refine AllReadyH.cons (o := { dst := some 223, op := Op.load 24 (Operand.tmp 222), type := 24, pos := _, after := #[{ on := 0, ground := Ground.data }], guard := none }) rfl (fun K hK => ?_) (AllReadyH.cons (o := { dst := some 227, op := Op.buildSlice 24 1 #[(0, Operand.tmp 226)], type := 24, pos := _, after := #[{ on := 4, ground := Ground.data }], guard := none }) rfl (fun K hK => ?_) AllReadyH.nil)
                      · skip
                        go_simp
                        refine hK.out _ _ ?_ (fun hHeld => ?_)
                        · trivial
                        clear hK K
                        try simp only [Act.put, List.setIfInBounds_toArray, List.set_cons_zero, List.set_cons_succ]
                        refine wpAnyH_ready (rs := [5]) (by kernel_rfl) (by simp) ?_
                        refine AllReadyH.cons (o := { dst := some 227, op := Op.buildSlice 24 1 #[(0, Operand.tmp 226)], type := 24, pos := _, after := #[{ on := 4, ground := Ground.data }], guard := none }) rfl (fun K hK => ?_) AllReadyH.nil
                        go_simp
                        refine hK.out _ _ ?_ (fun hHeld => ?_)
                        · trivial
                        clear hK K
                        try simp only [Act.put, List.setIfInBounds_toArray, List.set_cons_zero, List.set_cons_succ]
                        refine wpAnyH_ready (rs := [6]) (by kernel_rfl) (by simp) ?_
                        refine AllReadyH.cons (o := { dst := some 228, op := Op.call { callee := Callee.builtin Builtin.append, args := #[Operand.tmp 223, Operand.tmp 227], argTypes := #[24, 24] }, type := 24, pos := _, after := #[{ on := 1, ground := Ground.data }, { on := 5, ground := Ground.data }, { on := 4, ground := Ground.chain }], guard := none }) rfl (fun K hK => ?_) AllReadyH.nil
                        have O9 := Lib.hid ((O8.out.drew).alloc (.cells #[.int .i64 (v : Int)] 3))
                        obtain ⟨A9, k9, u9, hrun9, hown9, hgr9, hat9⟩ := app_run 24 3 24 Tryz.underlying24 _ 1 8 int_infoA rfl (by decide) (by decide) wz.heap.size A u c (ints (ouL.take u)) O9.out ⟨w8.drew.heap.size, 0, none⟩ 1 [.int .i64 (v : Int)] (rd_of_blk (cs := [.int .i64 (v : Int)]) (Blk.made w8.drew 3 #[.int .i64 (v : Int)]) 1 1 rfl) (fun u hu => by rw [List.mem_singleton] at hu; subst hu; rfl) (by omega) (by have := C8.out.size; simp; omega)
                        refine step_app_run (by rfl) (.tmp 223) (.tmp 227) 24 24 (by rfl) (.slice A u c) (.slice (some ⟨w8.heap.size, 0, none⟩) 1 1) (by rfl) (by rfl) hrun9 ?_
                        have T9 := Lib.hid (((show Blk w8.drew _ _ _ from T8.out).alloc (.cells #[.int .i64 (v : Int)] 3)).grown hgr9 (fun e => own_other O8.out T8.out (by decide) (by rw [own_blk]; exact e.symm)))
                        have C9 := Lib.hid (((C8.out.belowB (below_drewN (Below.refl _ _) 1)).belowB (below_new w8.drew (.cells #[.int .i64 (v : Int)] 3))).grownHi hgr9 (fun k hk => own_base O8.out (by rw [own_blk]; exact hk)))
                        have O10 := Lib.hid (show u9.ownsRow wz.heap.size 3 1 (.slice A9 (u + 1) k9) (u + 1) (ints (ouL.take (u + 1))) from by rw [HNX.out, ints_append]; exact hown9)
                        have k18c := T9.out.cell 3
                        have f18c := T9.out.free 3
                        clear hown9 hgr9 hat9 hrun9
                        refine hK.out _ _ ?_ (fun hHeld => ?_)
                        · trivial
                        clear hK K
                        try simp only [Act.put, List.setIfInBounds_toArray, List.set_cons_zero, List.set_cons_succ]
                        refine wpAnyH_take (i := 7) (oi := { dst := some 229, op := Op.fieldAddr 32 (Operand.tmp 18) 3, type := 0, pos := _, after := #[{ on := 0, ground := Ground.phase }, { on := 1, ground := Ground.phase }, { on := 2, ground := Ground.phase }, { on := 3, ground := Ground.phase }, { on := 4, ground := Ground.phase }, { on := 5, ground := Ground.phase }, { on := 6, ground := Ground.phase }], guard := none }) (v := ?_) rfl (by kernel_rfl) (by kernel_rfl) (by kernel_rfl) (fun _ _ _ h => h) (Or.inl ⟨by rfl, ?_⟩) (by assumption) ?_
                        rotate_left
                        · intro w hSw; (try dsimp only at hSw); go_simp; (try with_reducible rfl)
                        try simp only [Act.put, List.setIfInBounds_toArray, List.set_cons_zero, List.set_cons_succ]
                        refine wpAnyH_ready (rs := [8]) (by kernel_rfl) (by simp) ?_
                        refine AllReadyH.cons (o := { dst := none, op := Op.store 24 (Operand.tmp 229) (Operand.tmp 228), type := 0, pos := _, after := #[{ on := 7, ground := Ground.data }, { on := 6, ground := Ground.data }, { on := 6, ground := Ground.chain }, { on := 0, ground := Ground.phase }, { on := 1, ground := Ground.phase }, { on := 2, ground := Ground.phase }, { on := 3, ground := Ground.phase }, { on := 4, ground := Ground.phase }, { on := 5, ground := Ground.phase }, { on := 6, ground := Ground.phase }], guard := none }) rfl (fun K hK => ?_) AllReadyH.nil
                        go_simp
                        refine hK.out _ _ ?_ (fun hHeld => ?_)
                        · trivial
                        clear hK K
                        try simp only [Act.put, List.setIfInBounds_toArray, List.set_cons_zero, List.set_cons_succ]
                        refine wpAnyH_done (by kernel_rfl) ?_ _
                        have T10 := Lib.hid (T9.out.put 3 (.slice A9 (u + 1) k9))
                        have C10 := Lib.hid (C9.out.setSame (i := 3) (.slice A9 (u + 1) k9))
                        have O11 := Lib.hid ((Chg.set u9 w3.heap.size 3 (.slice A9 (u + 1) k9)).own O10.out (fun g e hk => own_other O10.out T9.out (by decide) (by rw [e, hk])))
                        clear k18 k18b k18c f18c
                        generalize u9.setCell ⟨w3.heap.size, 3, none⟩ (.slice A9 (u + 1) k9) = w10 at T10 C10 O11 ⊢
                        go_wp2_with fail
                        go_roundw
                        case rel => exact ⟨u + 1, A9, k9, by omega, by go_num, C10.out, T10.out, O11.out⟩
                        case measure => simp [intOf]; omega
                      · skip
                        go_simp
                        refine hK.out _ _ ?_ (fun hHeld => ?_)
                        · trivial
                        clear hK K
                        try simp only [Act.put, List.setIfInBounds_toArray, List.set_cons_zero, List.set_cons_succ]
                        refine wpAnyH_ready (rs := [1]) (by kernel_rfl) (by simp) ?_
                        refine AllReadyH.cons (o := { dst := some 223, op := Op.load 24 (Operand.tmp 222), type := 24, pos := _, after := #[{ on := 0, ground := Ground.data }], guard := none }) rfl (fun K hK => ?_) AllReadyH.nil
                        go_simp
                        refine hK.out _ _ ?_ (fun hHeld => ?_)
                        · trivial
                        clear hK K
                        try simp only [Act.put, List.setIfInBounds_toArray, List.set_cons_zero, List.set_cons_succ]
                        refine wpAnyH_ready (rs := [6]) (by kernel_rfl) (by simp) ?_
                        refine AllReadyH.cons (o := { dst := some 228, op := Op.call { callee := Callee.builtin Builtin.append, args := #[Operand.tmp 223, Operand.tmp 227], argTypes := #[24, 24] }, type := 24, pos := _, after := #[{ on := 1, ground := Ground.data }, { on := 5, ground := Ground.data }, { on := 4, ground := Ground.chain }], guard := none }) rfl (fun K hK => ?_) AllReadyH.nil
                        have O9 := Lib.hid ((O8.out.drew).alloc (.cells #[.int .i64 (v : Int)] 3))
                        obtain ⟨A9, k9, u9, hrun9, hown9, hgr9, hat9⟩ := app_run 24 3 24 Tryz.underlying24 _ 1 8 int_infoA rfl (by decide) (by decide) wz.heap.size A u c (ints (ouL.take u)) O9.out ⟨w8.drew.heap.size, 0, none⟩ 1 [.int .i64 (v : Int)] (rd_of_blk (cs := [.int .i64 (v : Int)]) (Blk.made w8.drew 3 #[.int .i64 (v : Int)]) 1 1 rfl) (fun u hu => by rw [List.mem_singleton] at hu; subst hu; rfl) (by omega) (by have := C8.out.size; simp; omega)
                        refine step_app_run (by rfl) (.tmp 223) (.tmp 227) 24 24 (by rfl) (.slice A u c) (.slice (some ⟨w8.heap.size, 0, none⟩) 1 1) (by rfl) (by rfl) hrun9 ?_
                        have T9 := Lib.hid (((show Blk w8.drew _ _ _ from T8.out).alloc (.cells #[.int .i64 (v : Int)] 3)).grown hgr9 (fun e => own_other O8.out T8.out (by decide) (by rw [own_blk]; exact e.symm)))
                        have C9 := Lib.hid (((C8.out.belowB (below_drewN (Below.refl _ _) 1)).belowB (below_new w8.drew (.cells #[.int .i64 (v : Int)] 3))).grownHi hgr9 (fun k hk => own_base O8.out (by rw [own_blk]; exact hk)))
                        have O10 := Lib.hid (show u9.ownsRow wz.heap.size 3 1 (.slice A9 (u + 1) k9) (u + 1) (ints (ouL.take (u + 1))) from by rw [HNX.out, ints_append]; exact hown9)
                        have k18c := T9.out.cell 3
                        have f18c := T9.out.free 3
                        clear hown9 hgr9 hat9 hrun9
                        refine hK.out _ _ ?_ (fun hHeld => ?_)
                        · trivial
                        clear hK K
                        try simp only [Act.put, List.setIfInBounds_toArray, List.set_cons_zero, List.set_cons_succ]
                        refine wpAnyH_take (i := 7) (oi := { dst := some 229, op := Op.fieldAddr 32 (Operand.tmp 18) 3, type := 0, pos := _, after := #[{ on := 0, ground := Ground.phase }, { on := 1, ground := Ground.phase }, { on := 2, ground := Ground.phase }, { on := 3, ground := Ground.phase }, { on := 4, ground := Ground.phase }, { on := 5, ground := Ground.phase }, { on := 6, ground := Ground.phase }], guard := none }) (v := ?_) rfl (by kernel_rfl) (by kernel_rfl) (by kernel_rfl) (fun _ _ _ h => h) (Or.inl ⟨by rfl, ?_⟩) (by assumption) ?_
                        rotate_left
                        · intro w hSw; (try dsimp only at hSw); go_simp; (try with_reducible rfl)
                        try simp only [Act.put, List.setIfInBounds_toArray, List.set_cons_zero, List.set_cons_succ]
                        refine wpAnyH_ready (rs := [8]) (by kernel_rfl) (by simp) ?_
                        refine AllReadyH.cons (o := { dst := none, op := Op.store 24 (Operand.tmp 229) (Operand.tmp 228), type := 0, pos := _, after := #[{ on := 7, ground := Ground.data }, { on := 6, ground := Ground.data }, { on := 6, ground := Ground.chain }, { on := 0, ground := Ground.phase }, { on := 1, ground := Ground.phase }, { on := 2, ground := Ground.phase }, { on := 3, ground := Ground.phase }, { on := 4, ground := Ground.phase }, { on := 5, ground := Ground.phase }, { on := 6, ground := Ground.phase }], guard := none }) rfl (fun K hK => ?_) AllReadyH.nil
                        go_simp
                        refine hK.out _ _ ?_ (fun hHeld => ?_)
                        · trivial
                        clear hK K
                        try simp only [Act.put, List.setIfInBounds_toArray, List.set_cons_zero, List.set_cons_succ]
                        refine wpAnyH_done (by kernel_rfl) ?_ _
                        have T10 := Lib.hid (T9.out.put 3 (.slice A9 (u + 1) k9))
                        have C10 := Lib.hid (C9.out.setSame (i := 3) (.slice A9 (u + 1) k9))
                        have O11 := Lib.hid ((Chg.set u9 w3.heap.size 3 (.slice A9 (u + 1) k9)).own O10.out (fun g e hk => own_other O10.out T9.out (by decide) (by rw [e, hk])))
                        clear k18 k18b k18c f18c
                        generalize u9.setCell ⟨w3.heap.size, 3, none⟩ (.slice A9 (u + 1) k9) = w10 at T10 C10 O11 ⊢
                        go_wp2_with fail
                        go_roundw
                        case rel => exact ⟨u + 1, A9, k9, by omega, by go_num, C10.out, T10.out, O11.out⟩
                        case measure => simp [intOf]; omega
                  obtain rfl : u = i := by omega
                  have hlt : ¬ (u : Int) < (u : Int) := by omega
                  have htk : ouL.take u = ouL := List.take_of_length_le (by rw [← HOL.out, List.length_map, HNO.out]; exact Nat.le_refl _)
                  have hol : ouL.length = u := by rw [← HOL.out, List.length_map]; exact HNO.out
                  rw [htk] at O8
                  have HOU := Lib.hid hol
                  have hlz2 := BB.out.size
                  have BR := Lib.hid (show Blk w8 (w.heap.size + 1) 32 #[.int .i64 0, .slice none 0 0, .slice none 0 0, .slice none 0 0] from C70.out.blk ((R2.out.keep BB.out).below P3.out.below (by omega)) (by omega))
                  have OH := Lib.hid (C8.out.own O7.out (fun g e hk => own_other O7.out T7.out (by decide) (by rw [e, hk])))
                  have OL := Lib.hid (C70.out.own P3.out.row (fun g e hk => own_other P3.out.row P3.out.box (by decide) (by rw [e, hk])))
                  have OI := Lib.hid (show ∀ c ∈ ls, OwnL w3.heap.size w8 c.1 from fun c hc => C70.out.own (P3.out.all c hc) (fun g e hk => own_other (P3.out.all c hc) P3.out.box (by decide) (by rw [e, hk])))
                  have q0 := T8.out.cell 0
                  have q1 := T8.out.cell 1
                  have q2 := T8.out.cell 2
                  have q3 := T8.out.cell 3
                  have r0 := BR.out.cell 0
                  have r1 := BR.out.cell 1
                  have r2 := BR.out.cell 2
                  have r3 := BR.out.cell 3
                  have f0 := BR.out.free 0
                  have f1 := BR.out.free 1
                  have f2 := BR.out.free 2
                  have f3 := BR.out.free 3
                  clear htk hol
                  go_wp2_with fail
                  refine bodyPost_ret (results_net rfl _ _ (w.heap.size + 1) _ _ _ _ rfl (set4n BR.out _ _ _ _)) rfl ?_
                  have hS := Chg.sets w8 (w.heap.size + 1) (.int .i64 (I : Int)) (.slice AH hsL.length cH) (.slice AL ls.length cL) (.slice A u c)
                  have hB := hS.below (below_then B2.out BX82.out) (below_then B2.out BX82.out).size (fun k hk => by rw [hk]; exact Nat.le_succ _)
                  generalize (((w8.setCell ⟨w.heap.size + 1, 0, none⟩ (.int .i64 (I : Int))).setCell ⟨w.heap.size + 1, 1, none⟩ (.slice AH hsL.length cH)).setCell ⟨w.heap.size + 1, 2, none⟩ (.slice AL ls.length cL)).setCell ⟨w.heap.size + 1, 3, none⟩ (.slice A u c) = wf at hS hB ⊢
                  have hsm := P3.out.below.size
                  have hsn := C70.out.size
                  have hso := C7.out.size
                  refine ⟨⟨(I : Int), AH, cH, hsL, AL, cL, ls, A, c, ouL⟩, by rw [HOU.out]; rfl, hB, ⟨?_, ⟨?_, fun l hl => ?_⟩, ?_⟩, ?_, ?_, ?_, ?_⟩
                  · have h := hS.own OH.out (fun g e hk => by have := own_base OH.out e; omega)
                    rw [← HHL.out] at h
                    exact Rd.of_own h
                  · exact Rd.of_own (hS.own OL.out (fun g e hk => by have := own_base OL.out e; omega))
                  · exact Rd.of_own (hS.own (OI.out l hl) (fun g e hk => by have := own_base (OI.out l hl) e; omega))
                  · have h := hS.own O8.out (fun g e hk => by have := own_base O8.out e; omega)
                    rw [← HOU.out] at h
                    exact Rd.of_own h
                  · exact HI.out.symm
                  · show hsL = _
                    rw [HMP.out, HSL.out]
                  · show pcs ls = (G.mp k).luts
                    rw [P3.out.pcs, HMP.out, MP.luts, MP.lits, HMN.out, HMM.out]
                  · show ouL = _
                    rw [HMP.out, HOL.out]
            have hnm' : (n : Int) < (m : Int) := by omega
            have d0 := BitsB.at_ (Blk.below BT.out P3.out.below BT.out.lt) (a := n) (by rw [NDL.out]; exact hnm)
            have hnl : n < M.nd.length := by rw [NDL.out]; exact hnm
            obtain ⟨b, hb⟩ : ∃ b, M.nd.getD n false = b := ⟨_, rfl⟩
            rw [hb] at d0
            have HB := Lib.hid hb
            clear hb
            cases b with
            | false =>
              go_wp2_with fail
              go_roundw
              case rel => exact ⟨n + 1, AL, cL, ls, by omega, by go_num, { P3.out with
                map := by obtain ⟨c, h1, h2⟩ := P3.out.map; exact ⟨c, by omega, by rw [M.madeTo_no HB.out]; exact h2⟩
                pcs := by rw [litsTo_no HB.out]; exact P3.out.pcs }⟩
              case measure => simp [intOf]; omega
            | true =>
              obtain ⟨x2, hx2⟩ : ∃ d, n / 2 = d := ⟨_, rfl⟩
              have hx2i : (n : Int) / 2 = (x2 : Int) := by omega
              have HX2 := Lib.hid hx2
              have HBT := Lib.hid (below_then (below_then BB.out P3.out.below) (below_new wm (.cells #[.slice none 0 0, .int .u64 1] 41)))
              have T4 := Lib.hid (Blk.made wm 41 #[.slice none 0 0, .int .u64 1])
              have P4 := Lib.hid (P3.out.keep (below_new wm (.cells #[.slice none 0 0, .int .u64 1] 41)))
              have BF4 := Lib.hid ((BF.out.below P3.out.below BF.out.lt).alloc (.cells #[.slice none 0 0, .int .u64 1] 41))
              have W4 := Lib.hid (below_new wm (.cells #[.slice none 0 0, .int .u64 1] 41))
              have k8 := BF4.out.cell 0
              go_upto_block 10 with (fail)
              generalize wm.alloc (.cells #[.slice none 0 0, .int .u64 1] 41) = w5 at HBT T4 P4 BF4 W4 k8 ⊢
              go_cut [24] (fun v24 wx => v24 = .pointer (some ⟨wm.heap.size, 0, none⟩) ∧ LutBox wm wm.heap.size (M.lut n) wx)
              case first =>
                by_cases hFx : F ≤ x2
                case neg =>
                  have hFx' : ¬ (F : Int) ≤ (x2 : Int) := by omega
                  rcases Nat.eq_zero_or_pos x2 with h0 | h0
                  · have hlut : M.lut n = ([], 1) := by rw [← HMP.out]; exact AG.lut_zero n (by rw [HX2.out]; exact h0)
                    have h0' : ¬ (0 : Int) < (x2 : Int) := by omega
                    have HL := Lib.hid hlut
                    clear hlut d0 h0
                    go_wp2_with fail
                    go_meet
                    case rel => exact ⟨rfl, by rw [HL.out]; exact ⟨W4.out, none, 0, T4.out, by simpa [OwnL, slv, ints] using World.ownsRow_nil w5 wm.heap.size 3 1⟩⟩
                  · have hlut : M.lut n = ([(x2 : Int)], 1) := by rw [← HMP.out, AG.lut_low n (by rw [HX2.out, HF.out]; omega) (by rw [HX2.out]; exact h0), HX2.out]
                    have h0' : (0 : Int) < (x2 : Int) := by omega
                    have HL := Lib.hid hlut
                    have hf0 := (T4.out.alloc (.cells #[.int .i64 (x2 : Int)] 3)).free 0
                    have ht0 := (T4.out.alloc (.cells #[.int .i64 (x2 : Int)] 3)).cell 0
                    clear hlut d0
                    go_wp2_with fail
                    go_meet
                    case rel =>
                      refine ⟨rfl, ?_⟩
                      rw [HL.out]
                      have hsz := T4.out.lt
                      exact ⟨(below_then W4.out (below_new w5 _)).setCell (p := ⟨wm.heap.size, 0, none⟩) (Nat.le_refl _) _, _, 1, (T4.out.alloc _).put 0 _, own_of_blk (n := 1) (cs := ints [(x2 : Int)]) ((Blk.made w5 3 #[.int .i64 (x2 : Int)]).apart (by simp; omega) _) rfl (by omega) (by decide)⟩
                case pos =>
                  have hFx' : (F : Int) ≤ (x2 : Int) := by omega
                  have hnN : n < 2 * NN := by rw [HMM.out]; exact hnm
                  have hx22 : n / 2 = x2 := HX2.out
                  have hxN0 : x2 < NN := by omega
                  have hxr : x2 < rs.length := by rw [HRN.out]; exact hxN0
                  have hxN : (x2 : Int) < (NN : Int) := by omega
                  obtain ⟨h0, hc⟩ := HC0.out x2 hxr
                  have hok := AG.c0_ok HM.out (x := x2) (by rw [HF.out]; exact hFx) (by rw [HNN.out]; exact hxN0)
                  obtain ⟨pr, hPR, hprb, r00, hcin⟩ := RS2.out.at_ hxr
                  have r0 := (HBT.out.cell (p := pr.add x2) (by rw [add_block]; exact hprb)).trans r00
                  obtain ⟨pc, hPC, hpcb, c00, c10, hsl⟩ := hcin.at_ h0
                  have c0 := (HBT.out.cell (p := pc.add (0 * 2)) (by rw [add_block]; exact hpcb)).trans c00
                  have c1 := (HBT.out.cell (p := ⟨(pc.add (0 * 2)).block, (pc.add (0 * 2)).off + 1, none⟩) (by rw [add_block]; exact hpcb)).trans c10
                  have hlut := AG.lut_gate (G := G) (k := k) n (by rw [hx22, HF.out]; exact hFx)
                  rw [hx22, HMP.out, hc] at hlut
                  rw [hc] at hok
                  subst hPR
                  clear r00 c00 c10 hx22
                  generalize rs[x2] = rx at r0 h0 hcin hPC hpcb c0 c1 hsl hok hlut
                  obtain ⟨r1, r2, r3⟩ := rx
                  simp only at h0 hPC c0 c1 hsl hok hlut
                  subst hPC
                  simp only [crv] at r0
                  generalize r3[0] = ct at c0 c1 hsl hok hlut
                  obtain ⟨⟨l1, l2, l3⟩, t⟩ := ct
                  simp only [slv] at c0 c1 hsl hok hlut
                  obtain ⟨gr, hgr⟩ : ∃ p, pr.add x2 = p := ⟨_, rfl⟩
                  rw [hgr] at r0
                  have hpc0 : pc.add (0 * 2) = pc := rfl
                  rw [hpc0] at c0 c1
                  obtain ⟨nr, hnr⟩ : ∃ n, r3.length = n := ⟨_, rfl⟩
                  rw [hnr] at h0 r0
                  have h0' : (0 : Int) < (nr : Int) := by omega
                  have HSL := Lib.hid hsl
                  have HOK := Lib.hid hok
                  obtain ⟨ql, hql⟩ : ∃ n, l3.length = n := ⟨_, rfl⟩
                  have hql6 : ql ≤ 6 := by rw [← hql]; exact hok.len.1
                  have ht64 : t < 18446744073709551616 := hok.u64
                  have HQL := Lib.hid hql
                  rw [hql] at c0 hlut
                  obtain ⟨ins, hins⟩ : ∃ l : List Int, l3.map (fun z => (M.at_ (2 * z.toNat) : Int)) = l := ⟨_, rfl⟩
                  have hinl : ins.length = ql := by rw [← hins, List.length_map]; exact hql
                  rw [hins] at hlut
                  have HINS := Lib.hid hins
                  have HINL := Lib.hid hinl
                  have HL := Lib.hid hlut
                  have k25 := (Blk.made w5 64 #[.slice l1 ql l2, .int .u64 (t : Int)]).cell 0
                  clear hcin hsl hok hlut hc hnr hql hins hinl d0 HBT
                  go_wp2_with fail
                  have T6 := Lib.hid (T4.out.alloc (.cells #[.slice l1 ql l2, .int .u64 (t : Int)] 64))
                  have C6 := Lib.hid (Blk.made w5 64 #[.slice l1 ql l2, .int .u64 (t : Int)])
                  have W6 := Lib.hid (below_then W4.out (below_new w5 (.cells #[.slice l1 ql l2, .int .u64 (t : Int)] 64)))
                  have hg25 : wm.heap.size < w5.heap.size := T4.out.lt
                  clear k25 c0 c1 r0 k8 h0' hpc0 hxN hFx'
                  generalize w5.alloc (.cells #[.slice l1 ql l2, .int .u64 (t : Int)] 64) = w6 at T6 C6 W6 ⊢
                  generalize w5.heap.size = g25 at C6 hg25 ⊢
                  go_loopw [147] (fun v147 wx => ∃ (y : Nat) (A : Option Addr) (cc : Nat), y ≤ ql ∧ v147 = .int .i64 (y : Int) ∧ Below wm.heap.size wm wx ∧ Blk wx wm.heap.size 41 #[.slice A y cc, .int .u64 1] ∧ Blk wx g25 64 #[.slice l1 ql l2, .int .u64 (t : Int)] ∧ wx.ownsRow wm.heap.size 3 1 (.slice A y cc) y (ints (ins.take y))) (fun v147 _ => ql - (intOf v147).toNat)
                  case atStart => exact ⟨0, none, 0, by omega, rfl, W6.out, T6.out, C6.out, by simpa [ints] using World.ownsRow_nil w6 wm.heap.size 3 1⟩
                  case round =>
                    obtain ⟨y, A, cc, hy, rfl, hB, hT, hCb, hown⟩ := hrel
                    obtain ⟨wx, hwx⟩ : ∃ v, v = wr := ⟨_, rfl⟩
                    subst hwx
                    have B7 := Lib.hid hB
                    have T7 := Lib.hid hT
                    have C7 := Lib.hid hCb
                    have O7 := Lib.hid hown
                    clear hB hT hCb hown
                    by_cases hyq : y < ql
                    case neg =>
                      obtain rfl : y = ql := by omega
                      have hlt : ¬ (y : Int) < (y : Int) := by omega
                      have htk : ins.take y = ins := List.take_of_length_le (by rw [HINL.out]; exact Nat.le_refl _)
                      rw [htk] at O7
                      have k251 := C7.out.cell 1
                      have k241 := T7.out.cell 1
                      have f241 := T7.out.free 1
                      have hand1 := and1_i64 n (by omega)
                      have T8 := Lib.hid (T7.out.put 1 (.int .u64 (t : Int)))
                      have B8 := Lib.hid (B7.out.setCell (p := ⟨wm.heap.size, 1, none⟩) (Nat.le_refl _) (.int .u64 (t : Int)))
                      have O8 := Lib.hid ((Chg.set wx wm.heap.size 1 (.int .u64 (t : Int))).own O7.out (fun g e hk => own_other O7.out T7.out (by decide) (by rw [e, hk])))
                      clear htk
                      rcases Nat.mod_two_eq_zero_or_one n with e | e
                      · have HE := Lib.hid (show ¬ n % 2 = 1 by omega)
                        rw [e] at hand1
                        clear e
                        go_wp2_with fail
                        go_meet
                        case rel =>
                          refine ⟨rfl, ?_⟩
                          rw [HL.out, if_neg HE.out]
                          exact LutBox.of HINL.out B8.out T8.out O8.out
                      · have HE := Lib.hid e
                        rw [e] at hand1
                        clear e
                        go_upto_region 44 with (fail)
                        clear k251 k241 f241 hand1
                        generalize wx.setCell ⟨wm.heap.size, 1, none⟩ (.int .u64 (t : Int)) = w8 at T8 B8 O8 ⊢
                        have k240 := T8.out.cell 0
                        have k241 := T8.out.cell 1
                        have f241 := T8.out.free 1
                        have HRW := Lib.hid (fun (W : World) => lrows_any y W hql6)
                        have hxor := Go.u64_xor_nat t (Cut.rows y) ht64 (rows_lt y hql6).1
                        have T9 := Lib.hid ((show Blk w8.drew _ _ _ from T8.out).put 1 (.int .u64 ((t ^^^ Cut.rows y : Nat) : Int)))
                        have B9 := Lib.hid ((below_drewN B8.out 1).setCell (p := ⟨wm.heap.size, 1, none⟩) (Nat.le_refl _) (.int .u64 ((t ^^^ Cut.rows y : Nat) : Int)))
                        have O9 := Lib.hid ((Chg.set w8.drew wm.heap.size 1 (.int .u64 ((t ^^^ Cut.rows y : Nat) : Int))).own (O8.out.drew) (fun g e hk => own_other O8.out T8.out (by decide) (by rw [e, hk])))
                        generalize t ^^^ Cut.rows y = t2 at hxor T9 B9 O9 HL
                        refine wp_region_held_drew (S := (fun _ => True)) (by kernel_rfl) ?_ (fun hHeld => ?_)
                        · trivial
                        refine wpAnyH_take (i := 0) (oi := { dst := some 167, op := Op.fieldAddr 41 (Operand.tmp 24) 1, type := 0, pos := _, after := #[], guard := none }) (v := ?_) rfl (by kernel_rfl) (by kernel_rfl) (by kernel_rfl) (fun _ _ _ h => h) (Or.inl ⟨by rfl, ?_⟩) (by assumption) ?_
                        rotate_left
                        · intro w hSw; (try dsimp only at hSw); go_simp; (try with_reducible rfl)
                        try simp only [Act.put, List.setIfInBounds_toArray, List.set_cons_zero, List.set_cons_succ]
                        refine wpAnyH_take (i := 2) (oi := { dst := some 169, op := Op.fieldAddr 41 (Operand.tmp 24) 0, type := 0, pos := _, after := #[], guard := none }) (v := ?_) rfl (by kernel_rfl) (by kernel_rfl) (by kernel_rfl) (fun _ _ _ h => h) (Or.inl ⟨by rfl, ?_⟩) (by assumption) ?_
                        rotate_left
                        · intro w hSw; (try dsimp only at hSw); go_simp; (try with_reducible rfl)
                        try simp only [Act.put, List.setIfInBounds_toArray, List.set_cons_zero, List.set_cons_succ]
                        refine wpAnyH_ready (rs := [1, 3]) (by kernel_rfl) (by simp) ?_
                        refine AllReadyH.cons (o := { dst := some 168, op := Op.load 39 (Operand.tmp 167), type := 39, pos := _, after := #[{ on := 0, ground := Ground.data }], guard := none }) rfl (fun K hK => ?_) (AllReadyH.cons (o := { dst := some 170, op := Op.load 24 (Operand.tmp 169), type := 24, pos := _, after := #[{ on := 2, ground := Ground.data }], guard := none }) rfl (fun K hK => ?_) AllReadyH.nil)
                        · skip
                          go_simp
                          refine hK.out _ _ ?_ (fun hHeld => ?_)
                          · trivial
                          clear hK K
                          try simp only [Act.put, List.setIfInBounds_toArray, List.set_cons_zero, List.set_cons_succ]
                          refine wpAnyH_ready (rs := [3]) (by kernel_rfl) (by simp) ?_
                          refine AllReadyH.cons (o := { dst := some 170, op := Op.load 24 (Operand.tmp 169), type := 24, pos := _, after := #[{ on := 2, ground := Ground.data }], guard := none }) rfl (fun K hK => ?_) AllReadyH.nil
                          go_simp
                          refine hK.out _ _ ?_ (fun hHeld => ?_)
                          · trivial
                          clear hK K
                          try simp only [Act.put, List.setIfInBounds_toArray, List.set_cons_zero, List.set_cons_succ]
                          refine wpAnyH_ready (rs := [4]) (by kernel_rfl) (by simp) ?_
                          refine AllReadyH.cons (o := { dst := some 171, op := Op.call { callee := Callee.builtin Builtin.len, args := #[Operand.tmp 170], argTypes := #[24] }, type := 3, pos := _, after := #[{ on := 3, ground := Ground.data }], guard := none }) rfl (fun K hK => ?_) AllReadyH.nil
                          go_simp
                          refine hK.out _ _ ?_ (fun hHeld => ?_)
                          · trivial
                          clear hK K
                          try simp only [Act.put, List.setIfInBounds_toArray, List.set_cons_zero, List.set_cons_succ]
                          refine wpAnyH_ready (rs := [5]) (by kernel_rfl) (by simp) ?_
                          refine AllReadyH.cons (o := { dst := some 172, op := Op.call { callee := Callee.value (Operand.func 20), args := #[Operand.tmp 171], argTypes := #[3] }, type := 39, pos := _, after := #[{ on := 4, ground := Ground.data }], guard := none }) rfl (fun K hK => ?_) AllReadyH.nil
                          go_simp
                          with_reducible refine (HRW.out _).mono ?_
                          rintro e w7 ⟨rfl, rfl⟩
                          refine hK.out _ _ ?_ (fun hHeld => ?_)
                          · trivial
                          clear hK K
                          try simp only [Act.put, List.setIfInBounds_toArray, List.set_cons_zero, List.set_cons_succ]
                          refine wpAnyH_take (i := 6) (oi := { dst := some 173, op := Op.binOp BinOp.xor 39 (Operand.tmp 168) (Operand.tmp 172) 39, type := 39, pos := _, after := #[{ on := 1, ground := Ground.data }, { on := 5, ground := Ground.data }], guard := none }) (v := ?_) rfl (by kernel_rfl) (by kernel_rfl) (by kernel_rfl) (fun _ _ _ h => h) (Or.inl ⟨by rfl, ?_⟩) (by assumption) ?_
                          rotate_left
                          · intro w hSw; (try dsimp only at hSw); go_simp; (try with_reducible rfl)
                          try simp only [Act.put, List.setIfInBounds_toArray, List.set_cons_zero, List.set_cons_succ]
                          refine wpAnyH_take (i := 7) (oi := { dst := some 174, op := Op.fieldAddr 41 (Operand.tmp 24) 1, type := 0, pos := _, after := #[{ on := 0, ground := Ground.phase }, { on := 1, ground := Ground.phase }, { on := 2, ground := Ground.phase }, { on := 3, ground := Ground.phase }, { on := 4, ground := Ground.phase }, { on := 5, ground := Ground.phase }, { on := 6, ground := Ground.phase }], guard := none }) (v := ?_) rfl (by kernel_rfl) (by kernel_rfl) (by kernel_rfl) (fun _ _ _ h => h) (Or.inl ⟨by rfl, ?_⟩) (by assumption) ?_
                          rotate_left
                          · intro w hSw; (try dsimp only at hSw); go_simp; (try with_reducible rfl)
                          try simp only [Act.put, List.setIfInBounds_toArray, List.set_cons_zero, List.set_cons_succ]
                          refine wpAnyH_ready (rs := [8]) (by kernel_rfl) (by simp) ?_
                          refine AllReadyH.cons (o := { dst := none, op := Op.store 39 (Operand.tmp 174) (Operand.tmp 173), type := 0, pos := _, after := #[{ on := 7, ground := Ground.data }, { on := 6, ground := Ground.data }, { on := 5, ground := Ground.chain }, { on := 0, ground := Ground.phase }, { on := 1, ground := Ground.phase }, { on := 2, ground := Ground.phase }, { on := 3, ground := Ground.phase }, { on := 4, ground := Ground.phase }, { on := 5, ground := Ground.phase }, { on := 6, ground := Ground.phase }], guard := none }) rfl (fun K hK => ?_) AllReadyH.nil
                          go_simp
                          refine hK.out _ _ ?_ (fun hHeld => ?_)
                          · trivial
                          clear hK K
                          try simp only [Act.put, List.setIfInBounds_toArray, List.set_cons_zero, List.set_cons_succ]
                          refine wpAnyH_done (by kernel_rfl) ?_ _
                          go_wp2_with fail
                          go_meet
                          case rel =>
                            refine ⟨rfl, ?_⟩
                            rw [HL.out, if_pos HE.out]
                            exact LutBox.of HINL.out B9.out T9.out O9.out
                        · skip
                          go_simp
                          refine hK.out _ _ ?_ (fun hHeld => ?_)
                          · trivial
                          clear hK K
                          try simp only [Act.put, List.setIfInBounds_toArray, List.set_cons_zero, List.set_cons_succ]
                          refine wpAnyH_ready (rs := [1, 4]) (by kernel_rfl) (by simp) ?_
                          refine AllReadyH.cons (o := { dst := some 168, op := Op.load 39 (Operand.tmp 167), type := 39, pos := _, after := #[{ on := 0, ground := Ground.data }], guard := none }) rfl (fun K hK => ?_) (AllReadyH.cons (o := { dst := some 171, op := Op.call { callee := Callee.builtin Builtin.len, args := #[Operand.tmp 170], argTypes := #[24] }, type := 3, pos := _, after := #[{ on := 3, ground := Ground.data }], guard := none }) rfl (fun K hK => ?_) AllReadyH.nil)
                          · skip
                            go_simp
                            refine hK.out _ _ ?_ (fun hHeld => ?_)
                            · trivial
                            clear hK K
                            try simp only [Act.put, List.setIfInBounds_toArray, List.set_cons_zero, List.set_cons_succ]
                            refine wpAnyH_ready (rs := [4]) (by kernel_rfl) (by simp) ?_
                            refine AllReadyH.cons (o := { dst := some 171, op := Op.call { callee := Callee.builtin Builtin.len, args := #[Operand.tmp 170], argTypes := #[24] }, type := 3, pos := _, after := #[{ on := 3, ground := Ground.data }], guard := none }) rfl (fun K hK => ?_) AllReadyH.nil
                            go_simp
                            refine hK.out _ _ ?_ (fun hHeld => ?_)
                            · trivial
                            clear hK K
                            try simp only [Act.put, List.setIfInBounds_toArray, List.set_cons_zero, List.set_cons_succ]
                            refine wpAnyH_ready (rs := [5]) (by kernel_rfl) (by simp) ?_
                            refine AllReadyH.cons (o := { dst := some 172, op := Op.call { callee := Callee.value (Operand.func 20), args := #[Operand.tmp 171], argTypes := #[3] }, type := 39, pos := _, after := #[{ on := 4, ground := Ground.data }], guard := none }) rfl (fun K hK => ?_) AllReadyH.nil
                            go_simp
                            with_reducible refine (HRW.out _).mono ?_
                            rintro e w7 ⟨rfl, rfl⟩
                            refine hK.out _ _ ?_ (fun hHeld => ?_)
                            · trivial
                            clear hK K
                            try simp only [Act.put, List.setIfInBounds_toArray, List.set_cons_zero, List.set_cons_succ]
                            refine wpAnyH_take (i := 6) (oi := { dst := some 173, op := Op.binOp BinOp.xor 39 (Operand.tmp 168) (Operand.tmp 172) 39, type := 39, pos := _, after := #[{ on := 1, ground := Ground.data }, { on := 5, ground := Ground.data }], guard := none }) (v := ?_) rfl (by kernel_rfl) (by kernel_rfl) (by kernel_rfl) (fun _ _ _ h => h) (Or.inl ⟨by rfl, ?_⟩) (by assumption) ?_
                            rotate_left
                            · intro w hSw; (try dsimp only at hSw); go_simp; (try with_reducible rfl)
                            try simp only [Act.put, List.setIfInBounds_toArray, List.set_cons_zero, List.set_cons_succ]
                            refine wpAnyH_take (i := 7) (oi := { dst := some 174, op := Op.fieldAddr 41 (Operand.tmp 24) 1, type := 0, pos := _, after := #[{ on := 0, ground := Ground.phase }, { on := 1, ground := Ground.phase }, { on := 2, ground := Ground.phase }, { on := 3, ground := Ground.phase }, { on := 4, ground := Ground.phase }, { on := 5, ground := Ground.phase }, { on := 6, ground := Ground.phase }], guard := none }) (v := ?_) rfl (by kernel_rfl) (by kernel_rfl) (by kernel_rfl) (fun _ _ _ h => h) (Or.inl ⟨by rfl, ?_⟩) (by assumption) ?_
                            rotate_left
                            · intro w hSw; (try dsimp only at hSw); go_simp; (try with_reducible rfl)
                            try simp only [Act.put, List.setIfInBounds_toArray, List.set_cons_zero, List.set_cons_succ]
                            refine wpAnyH_ready (rs := [8]) (by kernel_rfl) (by simp) ?_
                            refine AllReadyH.cons (o := { dst := none, op := Op.store 39 (Operand.tmp 174) (Operand.tmp 173), type := 0, pos := _, after := #[{ on := 7, ground := Ground.data }, { on := 6, ground := Ground.data }, { on := 5, ground := Ground.chain }, { on := 0, ground := Ground.phase }, { on := 1, ground := Ground.phase }, { on := 2, ground := Ground.phase }, { on := 3, ground := Ground.phase }, { on := 4, ground := Ground.phase }, { on := 5, ground := Ground.phase }, { on := 6, ground := Ground.phase }], guard := none }) rfl (fun K hK => ?_) AllReadyH.nil
                            go_simp
                            refine hK.out _ _ ?_ (fun hHeld => ?_)
                            · trivial
                            clear hK K
                            try simp only [Act.put, List.setIfInBounds_toArray, List.set_cons_zero, List.set_cons_succ]
                            refine wpAnyH_done (by kernel_rfl) ?_ _
                            go_wp2_with fail
                            go_meet
                            case rel =>
                              refine ⟨rfl, ?_⟩
                              rw [HL.out, if_pos HE.out]
                              exact LutBox.of HINL.out B9.out T9.out O9.out
                          · skip
                            go_simp
                            refine hK.out _ _ ?_ (fun hHeld => ?_)
                            · trivial
                            clear hK K
                            try simp only [Act.put, List.setIfInBounds_toArray, List.set_cons_zero, List.set_cons_succ]
                            refine wpAnyH_ready (rs := [1, 5]) (by kernel_rfl) (by simp) ?_
                            refine AllReadyH.cons (o := { dst := some 168, op := Op.load 39 (Operand.tmp 167), type := 39, pos := _, after := #[{ on := 0, ground := Ground.data }], guard := none }) rfl (fun K hK => ?_) (AllReadyH.cons (o := { dst := some 172, op := Op.call { callee := Callee.value (Operand.func 20), args := #[Operand.tmp 171], argTypes := #[3] }, type := 39, pos := _, after := #[{ on := 4, ground := Ground.data }], guard := none }) rfl (fun K hK => ?_) AllReadyH.nil)
                            · skip
                              go_simp
                              refine hK.out _ _ ?_ (fun hHeld => ?_)
                              · trivial
                              clear hK K
                              try simp only [Act.put, List.setIfInBounds_toArray, List.set_cons_zero, List.set_cons_succ]
                              refine wpAnyH_ready (rs := [5]) (by kernel_rfl) (by simp) ?_
                              refine AllReadyH.cons (o := { dst := some 172, op := Op.call { callee := Callee.value (Operand.func 20), args := #[Operand.tmp 171], argTypes := #[3] }, type := 39, pos := _, after := #[{ on := 4, ground := Ground.data }], guard := none }) rfl (fun K hK => ?_) AllReadyH.nil
                              go_simp
                              with_reducible refine (HRW.out _).mono ?_
                              rintro e w7 ⟨rfl, rfl⟩
                              refine hK.out _ _ ?_ (fun hHeld => ?_)
                              · trivial
                              clear hK K
                              try simp only [Act.put, List.setIfInBounds_toArray, List.set_cons_zero, List.set_cons_succ]
                              refine wpAnyH_take (i := 6) (oi := { dst := some 173, op := Op.binOp BinOp.xor 39 (Operand.tmp 168) (Operand.tmp 172) 39, type := 39, pos := _, after := #[{ on := 1, ground := Ground.data }, { on := 5, ground := Ground.data }], guard := none }) (v := ?_) rfl (by kernel_rfl) (by kernel_rfl) (by kernel_rfl) (fun _ _ _ h => h) (Or.inl ⟨by rfl, ?_⟩) (by assumption) ?_
                              rotate_left
                              · intro w hSw; (try dsimp only at hSw); go_simp; (try with_reducible rfl)
                              try simp only [Act.put, List.setIfInBounds_toArray, List.set_cons_zero, List.set_cons_succ]
                              refine wpAnyH_take (i := 7) (oi := { dst := some 174, op := Op.fieldAddr 41 (Operand.tmp 24) 1, type := 0, pos := _, after := #[{ on := 0, ground := Ground.phase }, { on := 1, ground := Ground.phase }, { on := 2, ground := Ground.phase }, { on := 3, ground := Ground.phase }, { on := 4, ground := Ground.phase }, { on := 5, ground := Ground.phase }, { on := 6, ground := Ground.phase }], guard := none }) (v := ?_) rfl (by kernel_rfl) (by kernel_rfl) (by kernel_rfl) (fun _ _ _ h => h) (Or.inl ⟨by rfl, ?_⟩) (by assumption) ?_
                              rotate_left
                              · intro w hSw; (try dsimp only at hSw); go_simp; (try with_reducible rfl)
                              try simp only [Act.put, List.setIfInBounds_toArray, List.set_cons_zero, List.set_cons_succ]
                              refine wpAnyH_ready (rs := [8]) (by kernel_rfl) (by simp) ?_
                              refine AllReadyH.cons (o := { dst := none, op := Op.store 39 (Operand.tmp 174) (Operand.tmp 173), type := 0, pos := _, after := #[{ on := 7, ground := Ground.data }, { on := 6, ground := Ground.data }, { on := 5, ground := Ground.chain }, { on := 0, ground := Ground.phase }, { on := 1, ground := Ground.phase }, { on := 2, ground := Ground.phase }, { on := 3, ground := Ground.phase }, { on := 4, ground := Ground.phase }, { on := 5, ground := Ground.phase }, { on := 6, ground := Ground.phase }], guard := none }) rfl (fun K hK => ?_) AllReadyH.nil
                              go_simp
                              refine hK.out _ _ ?_ (fun hHeld => ?_)
                              · trivial
                              clear hK K
                              try simp only [Act.put, List.setIfInBounds_toArray, List.set_cons_zero, List.set_cons_succ]
                              refine wpAnyH_done (by kernel_rfl) ?_ _
                              go_wp2_with fail
                              go_meet
                              case rel =>
                                refine ⟨rfl, ?_⟩
                                rw [HL.out, if_pos HE.out]
                                exact LutBox.of HINL.out B9.out T9.out O9.out
                            · skip
                              go_simp
                              with_reducible refine (HRW.out _).mono ?_
                              rintro e w7 ⟨rfl, rfl⟩
                              refine hK.out _ _ ?_ (fun hHeld => ?_)
                              · trivial
                              clear hK K
                              try simp only [Act.put, List.setIfInBounds_toArray, List.set_cons_zero, List.set_cons_succ]
                              refine wpAnyH_ready (rs := [1]) (by kernel_rfl) (by simp) ?_
                              refine AllReadyH.cons (o := { dst := some 168, op := Op.load 39 (Operand.tmp 167), type := 39, pos := _, after := #[{ on := 0, ground := Ground.data }], guard := none }) rfl (fun K hK => ?_) AllReadyH.nil
                              go_simp
                              refine hK.out _ _ ?_ (fun hHeld => ?_)
                              · trivial
                              clear hK K
                              try simp only [Act.put, List.setIfInBounds_toArray, List.set_cons_zero, List.set_cons_succ]
                              refine wpAnyH_take (i := 6) (oi := { dst := some 173, op := Op.binOp BinOp.xor 39 (Operand.tmp 168) (Operand.tmp 172) 39, type := 39, pos := _, after := #[{ on := 1, ground := Ground.data }, { on := 5, ground := Ground.data }], guard := none }) (v := ?_) rfl (by kernel_rfl) (by kernel_rfl) (by kernel_rfl) (fun _ _ _ h => h) (Or.inl ⟨by rfl, ?_⟩) (by assumption) ?_
                              rotate_left
                              · intro w hSw; (try dsimp only at hSw); go_simp; (try with_reducible rfl)
                              try simp only [Act.put, List.setIfInBounds_toArray, List.set_cons_zero, List.set_cons_succ]
                              refine wpAnyH_take (i := 7) (oi := { dst := some 174, op := Op.fieldAddr 41 (Operand.tmp 24) 1, type := 0, pos := _, after := #[{ on := 0, ground := Ground.phase }, { on := 1, ground := Ground.phase }, { on := 2, ground := Ground.phase }, { on := 3, ground := Ground.phase }, { on := 4, ground := Ground.phase }, { on := 5, ground := Ground.phase }, { on := 6, ground := Ground.phase }], guard := none }) (v := ?_) rfl (by kernel_rfl) (by kernel_rfl) (by kernel_rfl) (fun _ _ _ h => h) (Or.inl ⟨by rfl, ?_⟩) (by assumption) ?_
                              rotate_left
                              · intro w hSw; (try dsimp only at hSw); go_simp; (try with_reducible rfl)
                              try simp only [Act.put, List.setIfInBounds_toArray, List.set_cons_zero, List.set_cons_succ]
                              refine wpAnyH_ready (rs := [8]) (by kernel_rfl) (by simp) ?_
                              refine AllReadyH.cons (o := { dst := none, op := Op.store 39 (Operand.tmp 174) (Operand.tmp 173), type := 0, pos := _, after := #[{ on := 7, ground := Ground.data }, { on := 6, ground := Ground.data }, { on := 5, ground := Ground.chain }, { on := 0, ground := Ground.phase }, { on := 1, ground := Ground.phase }, { on := 2, ground := Ground.phase }, { on := 3, ground := Ground.phase }, { on := 4, ground := Ground.phase }, { on := 5, ground := Ground.phase }, { on := 6, ground := Ground.phase }], guard := none }) rfl (fun K hK => ?_) AllReadyH.nil
                              go_simp
                              refine hK.out _ _ ?_ (fun hHeld => ?_)
                              · trivial
                              clear hK K
                              try simp only [Act.put, List.setIfInBounds_toArray, List.set_cons_zero, List.set_cons_succ]
                              refine wpAnyH_done (by kernel_rfl) ?_ _
                              go_wp2_with fail
                              go_meet
                              case rel =>
                                refine ⟨rfl, ?_⟩
                                rw [HL.out, if_pos HE.out]
                                exact LutBox.of HINL.out B9.out T9.out O9.out
                    have hyq' : (y : Int) < (ql : Int) := by omega
                    have hyl : y < l3.length := by rw [HQL.out]; exact hyq
                    obtain ⟨pa, hPA, hpb, e0⟩ := (HSL.out.later (below_then (below_then BB.out P3.out.below) B7.out)).int (k := y) hyl
                    have hlv : 1 ≤ l3.getD y 0 ∧ l3.getD y 0 < (x2 : Int) := HOK.out.lv _ (getD_mem hyl)
                    obtain ⟨z, hz⟩ : ∃ z : Nat, l3.getD y 0 = (z : Int) := ⟨(l3.getD y 0).toNat, by omega⟩
                    have hzx : 2 * z < n := by have := HX2.out; omega
                    have hnx : ins.take (y + 1) = ins.take y ++ [(M.at_ (2 * z) : Int)] := by
                      have hyi : y < ins.length := by rw [HINL.out]; exact hyq
                      rw [List.take_succ_eq_append_getElem hyi]
                      have hl3 : l3[y] = (z : Int) := by rw [← hz, List.getD_eq_getElem?_getD, List.getElem?_eq_getElem hyl]; rfl
                      have : ins[y] = (M.at_ (2 * z) : Int) := by simp only [← HINS.out, List.getElem_map, hl3, Int.toNat_natCast]
                      rw [this]
                    have HNX := Lib.hid hnx
                    rw [hz] at e0
                    subst hPA
                    have hz2 : 2 * (z : Int) = ((2 * z : Nat) : Int) := by omega
                    have HND := Lib.hid (fun (W : World) (hW : Below wx.heap.size wx W) => ((P3.out.keep B7.out).keep hW).node (a := 2 * z) hzx (by omega))
                    generalize M.at_ (2 * z) = v at HND HNX
                    generalize 2 * z = a at hz2 HND hzx
                    have hz2w : IntKind.i64.wrap (a : Int) = (a : Int) := IntWalk.i64_in _ (by omega)
                    have k24 := T7.out.cell 0
                    have k24b : ∀ o, (wx.alloc o).cell? ⟨wm.heap.size, 0, none⟩ = some (.slice A y cc) := fun o => (T7.out.alloc o).cell 0
                    have hsz7 := B7.out.size
                    clear hlv hz hnx
                    go_wp2_with fail
                    clear e0
                    refine wp_region_held_drew (S := (fun _ => True)) (by kernel_rfl) ?_ (fun hHeld => ?_)
                    · trivial
                    refine wpAnyH_take (i := 0) (oi := { dst := some 151, op := Op.fieldAddr 41 (Operand.tmp 24) 0, type := 0, pos := _, after := #[], guard := none }) (v := ?_) rfl (by kernel_rfl) (by kernel_rfl) (by kernel_rfl) (fun _ _ _ h => h) (Or.inl ⟨by rfl, ?_⟩) (by assumption) ?_
                    rotate_left
                    · intro w hSw; (try dsimp only at hSw); go_simp; (try with_reducible rfl)
                    try simp only [Act.put, List.setIfInBounds_toArray, List.set_cons_zero, List.set_cons_succ]
                    refine wpAnyH_take (i := 2) (oi := { dst := some 153, op := Op.move (Operand.tmp 20), type := 68, pos := _, after := #[], guard := none }) (v := ?_) rfl (by kernel_rfl) (by kernel_rfl) (by kernel_rfl) (fun _ _ _ h => h) (Or.inl ⟨by rfl, ?_⟩) (by assumption) ?_
                    rotate_left
                    · intro w hSw; (try dsimp only at hSw); go_simp; (try with_reducible rfl)
                    try simp only [Act.put, List.setIfInBounds_toArray, List.set_cons_zero, List.set_cons_succ]
                    refine wpAnyH_take (i := 3) (oi := { dst := some 154, op := Op.move (Operand.tmp 27), type := 3, pos := _, after := #[], guard := none }) (v := ?_) rfl (by kernel_rfl) (by kernel_rfl) (by kernel_rfl) (fun _ _ _ h => h) (Or.inl ⟨by rfl, ?_⟩) (by assumption) ?_
                    rotate_left
                    · intro w hSw; (try dsimp only at hSw); go_simp; (try with_reducible rfl)
                    try simp only [Act.put, List.setIfInBounds_toArray, List.set_cons_zero, List.set_cons_succ]
                    refine wpAnyH_take (i := 4) (oi := { dst := some 155, op := Op.binOp BinOp.mul 3 (Operand.const (Value.int IntKind.i64 2)) (Operand.tmp 154) 3, type := 3, pos := _, after := #[{ on := 3, ground := Ground.data }], guard := none }) (v := ?_) rfl (by kernel_rfl) (by kernel_rfl) (by kernel_rfl) (fun _ _ _ h => h) (Or.inl ⟨by rfl, ?_⟩) (by assumption) ?_
                    rotate_left
                    · intro w hSw; (try dsimp only at hSw); go_simp; (try with_reducible rfl)
                    try simp only [Act.put, List.setIfInBounds_toArray, List.set_cons_zero, List.set_cons_succ]
                    refine wpAnyH_ready (rs := [1, 5]) (by kernel_rfl) (by simp) ?_
                    refine AllReadyH.cons (o := { dst := some 152, op := Op.load 24 (Operand.tmp 151), type := 24, pos := _, after := #[{ on := 0, ground := Ground.data }], guard := none }) rfl (fun K hK => ?_) (AllReadyH.cons (o := { dst := some 156, op := Op.call { callee := Callee.value (Operand.tmp 153), args := #[Operand.tmp 155], argTypes := #[3] }, type := 3, pos := _, after := #[{ on := 2, ground := Ground.data }, { on := 4, ground := Ground.data }], guard := none }) rfl (fun K hK => ?_) AllReadyH.nil)
                    · skip
                      go_simp
                      refine hK.out _ _ ?_ (fun hHeld => ?_)
                      · trivial
                      clear hK K
                      try simp only [Act.put, List.setIfInBounds_toArray, List.set_cons_zero, List.set_cons_succ]
                      refine wpAnyH_ready (rs := [5]) (by kernel_rfl) (by simp) ?_
                      refine AllReadyH.cons (o := { dst := some 156, op := Op.call { callee := Callee.value (Operand.tmp 153), args := #[Operand.tmp 155], argTypes := #[3] }, type := 3, pos := _, after := #[{ on := 2, ground := Ground.data }, { on := 4, ground := Ground.data }], guard := none }) rfl (fun K hK => ?_) AllReadyH.nil
                      go_simp
                      with_reducible refine (HND.out _ ?_).mono ?_
                      · exact below_drewN (Below.refl _ _) 1
                      rintro e w7 ⟨rfl, rfl⟩
                      refine hK.out _ _ ?_ (fun hHeld => ?_)
                      · trivial
                      clear hK K
                      try simp only [Act.put, List.setIfInBounds_toArray, List.set_cons_zero, List.set_cons_succ]
                      refine wpAnyH_ready (rs := [6]) (by kernel_rfl) (by simp) ?_
                      refine AllReadyH.cons (o := { dst := some 157, op := Op.buildSlice 24 1 #[(0, Operand.tmp 156)], type := 24, pos := _, after := #[{ on := 5, ground := Ground.data }], guard := none }) rfl (fun K hK => ?_) AllReadyH.nil
                      go_simp
                      refine hK.out _ _ ?_ (fun hHeld => ?_)
                      · trivial
                      clear hK K
                      try simp only [Act.put, List.setIfInBounds_toArray, List.set_cons_zero, List.set_cons_succ]
                      refine wpAnyH_ready (rs := [7]) (by kernel_rfl) (by simp) ?_
                      refine AllReadyH.cons (o := { dst := some 158, op := Op.call { callee := Callee.builtin Builtin.append, args := #[Operand.tmp 152, Operand.tmp 157], argTypes := #[24, 24] }, type := 24, pos := _, after := #[{ on := 1, ground := Ground.data }, { on := 6, ground := Ground.data }, { on := 5, ground := Ground.chain }], guard := none }) rfl (fun K hK => ?_) AllReadyH.nil
                      have O8 := Lib.hid ((O7.out.drew).alloc (.cells #[.int .i64 (v : Int)] 3))
                      obtain ⟨A9, k9, u9, hrun9, hown9, hgr9, hat9⟩ := app_run 24 3 24 Tryz.underlying24 _ 1 8 int_infoA rfl (by decide) (by decide) wm.heap.size A y cc (ints (ins.take y)) O8.out ⟨wx.drew.heap.size, 0, none⟩ 1 [.int .i64 (v : Int)] (rd_of_blk (cs := [.int .i64 (v : Int)]) (Blk.made wx.drew 3 #[.int .i64 (v : Int)]) 1 1 rfl) (fun u hu => by rw [List.mem_singleton] at hu; subst hu; rfl) (by omega) (by have := B7.out.size; simp; omega)
                      refine step_app_run (by rfl) (.tmp 152) (.tmp 157) 24 24 (by rfl) (.slice A y cc) (.slice (some ⟨wx.heap.size, 0, none⟩) 1 1) (by rfl) (by rfl) hrun9 ?_
                      have hb8 := below_then (below_drewN B7.out 1) (below_new wx.drew (.cells #[.int .i64 (v : Int)] 3))
                      have hnb : ∀ g t cs, Blk wx g t cs → t ≠ 3 → some g ≠ blkOf A := fun g t cs h ht e => own_other O7.out h (fun e => ht e.symm) (by rw [own_blk]; exact e.symm)
                      have T9 := Lib.hid (((show Blk wx.drew _ _ _ from T7.out).alloc (.cells #[.int .i64 (v : Int)] 3)).grown hgr9 (hnb _ _ _ T7.out (by decide)))
                      have C9 := Lib.hid (((show Blk wx.drew _ _ _ from C7.out).alloc (.cells #[.int .i64 (v : Int)] 3)).grown hgr9 (hnb _ _ _ C7.out (by decide)))
                      have B9 := Lib.hid (hb8.grown hgr9 hb8.size (fun q hq => own_base O8.out (by rw [own_blk]; exact hq)))
                      have O9 := Lib.hid (show u9.ownsRow wm.heap.size 3 1 (.slice A9 (y + 1) k9) (y + 1) (ints (ins.take (y + 1))) from by rw [HNX.out, ints_append]; exact hown9)
                      have k24c := T9.out.cell 0
                      have f24c := T9.out.free 0
                      clear hb8 hnb hown9 hgr9 hat9 hrun9
                      refine hK.out _ _ ?_ (fun hHeld => ?_)
                      · trivial
                      clear hK K
                      try simp only [Act.put, List.setIfInBounds_toArray, List.set_cons_zero, List.set_cons_succ]
                      refine wpAnyH_take (i := 8) (oi := { dst := some 159, op := Op.fieldAddr 41 (Operand.tmp 24) 0, type := 0, pos := _, after := #[{ on := 0, ground := Ground.phase }, { on := 1, ground := Ground.phase }, { on := 2, ground := Ground.phase }, { on := 3, ground := Ground.phase }, { on := 4, ground := Ground.phase }, { on := 5, ground := Ground.phase }, { on := 6, ground := Ground.phase }, { on := 7, ground := Ground.phase }], guard := none }) (v := ?_) rfl (by kernel_rfl) (by kernel_rfl) (by kernel_rfl) (fun _ _ _ h => h) (Or.inl ⟨by rfl, ?_⟩) (by assumption) ?_
                      rotate_left
                      · intro w hSw; (try dsimp only at hSw); go_simp; (try with_reducible rfl)
                      try simp only [Act.put, List.setIfInBounds_toArray, List.set_cons_zero, List.set_cons_succ]
                      refine wpAnyH_ready (rs := [9]) (by kernel_rfl) (by simp) ?_
                      refine AllReadyH.cons (o := { dst := none, op := Op.store 24 (Operand.tmp 159) (Operand.tmp 158), type := 0, pos := _, after := #[{ on := 8, ground := Ground.data }, { on := 7, ground := Ground.data }, { on := 7, ground := Ground.chain }, { on := 0, ground := Ground.phase }, { on := 1, ground := Ground.phase }, { on := 2, ground := Ground.phase }, { on := 3, ground := Ground.phase }, { on := 4, ground := Ground.phase }, { on := 5, ground := Ground.phase }, { on := 6, ground := Ground.phase }, { on := 7, ground := Ground.phase }], guard := none }) rfl (fun K hK => ?_) AllReadyH.nil
                      go_simp
                      refine hK.out _ _ ?_ (fun hHeld => ?_)
                      · trivial
                      clear hK K
                      try simp only [Act.put, List.setIfInBounds_toArray, List.set_cons_zero, List.set_cons_succ]
                      refine wpAnyH_done (by kernel_rfl) ?_ _
                      have T10 := Lib.hid (T9.out.put 0 (.slice A9 (y + 1) k9))
                      have C10 := Lib.hid (C9.out.apart (p := ⟨wm.heap.size, 0, none⟩) (by show g25 ≠ wm.heap.size; omega) (.slice A9 (y + 1) k9))
                      have B10 := Lib.hid (B9.out.setCell (p := ⟨wm.heap.size, 0, none⟩) (Nat.le_refl _) (.slice A9 (y + 1) k9))
                      have O10 := Lib.hid ((Chg.set u9 wm.heap.size 0 (.slice A9 (y + 1) k9)).own O9.out (fun g e hk => own_other O9.out T9.out (by decide) (by rw [e, hk])))
                      clear k24 k24b k24c f24c
                      generalize u9.setCell ⟨wm.heap.size, 0, none⟩ (.slice A9 (y + 1) k9) = w10 at T10 C10 B10 O10 ⊢
                      go_wp2_with fail
                      go_roundw
                      case rel => exact ⟨y + 1, A9, k9, by omega, by go_num, B10.out, T10.out, C10.out, O10.out⟩
                      case measure => simp [intOf]; omega
                    · skip
                      go_simp
                      with_reducible refine (HND.out _ ?_).mono ?_
                      · exact below_drewN (Below.refl _ _) 1
                      rintro e w7 ⟨rfl, rfl⟩
                      refine hK.out _ _ ?_ (fun hHeld => ?_)
                      · trivial
                      clear hK K
                      try simp only [Act.put, List.setIfInBounds_toArray, List.set_cons_zero, List.set_cons_succ]
                      refine wpAnyH_ready (rs := [1, 6]) (by kernel_rfl) (by simp) ?_
                      refine AllReadyH.cons (o := { dst := some 152, op := Op.load 24 (Operand.tmp 151), type := 24, pos := _, after := #[{ on := 0, ground := Ground.data }], guard := none }) rfl (fun K hK => ?_) (AllReadyH.cons (o := { dst := some 157, op := Op.buildSlice 24 1 #[(0, Operand.tmp 156)], type := 24, pos := _, after := #[{ on := 5, ground := Ground.data }], guard := none }) rfl (fun K hK => ?_) AllReadyH.nil)
                      · skip
                        go_simp
                        refine hK.out _ _ ?_ (fun hHeld => ?_)
                        · trivial
                        clear hK K
                        try simp only [Act.put, List.setIfInBounds_toArray, List.set_cons_zero, List.set_cons_succ]
                        refine wpAnyH_ready (rs := [6]) (by kernel_rfl) (by simp) ?_
                        refine AllReadyH.cons (o := { dst := some 157, op := Op.buildSlice 24 1 #[(0, Operand.tmp 156)], type := 24, pos := _, after := #[{ on := 5, ground := Ground.data }], guard := none }) rfl (fun K hK => ?_) AllReadyH.nil
                        go_simp
                        refine hK.out _ _ ?_ (fun hHeld => ?_)
                        · trivial
                        clear hK K
                        try simp only [Act.put, List.setIfInBounds_toArray, List.set_cons_zero, List.set_cons_succ]
                        refine wpAnyH_ready (rs := [7]) (by kernel_rfl) (by simp) ?_
                        refine AllReadyH.cons (o := { dst := some 158, op := Op.call { callee := Callee.builtin Builtin.append, args := #[Operand.tmp 152, Operand.tmp 157], argTypes := #[24, 24] }, type := 24, pos := _, after := #[{ on := 1, ground := Ground.data }, { on := 6, ground := Ground.data }, { on := 5, ground := Ground.chain }], guard := none }) rfl (fun K hK => ?_) AllReadyH.nil
                        have O8 := Lib.hid ((O7.out.drew).alloc (.cells #[.int .i64 (v : Int)] 3))
                        obtain ⟨A9, k9, u9, hrun9, hown9, hgr9, hat9⟩ := app_run 24 3 24 Tryz.underlying24 _ 1 8 int_infoA rfl (by decide) (by decide) wm.heap.size A y cc (ints (ins.take y)) O8.out ⟨wx.drew.heap.size, 0, none⟩ 1 [.int .i64 (v : Int)] (rd_of_blk (cs := [.int .i64 (v : Int)]) (Blk.made wx.drew 3 #[.int .i64 (v : Int)]) 1 1 rfl) (fun u hu => by rw [List.mem_singleton] at hu; subst hu; rfl) (by omega) (by have := B7.out.size; simp; omega)
                        refine step_app_run (by rfl) (.tmp 152) (.tmp 157) 24 24 (by rfl) (.slice A y cc) (.slice (some ⟨wx.heap.size, 0, none⟩) 1 1) (by rfl) (by rfl) hrun9 ?_
                        have hb8 := below_then (below_drewN B7.out 1) (below_new wx.drew (.cells #[.int .i64 (v : Int)] 3))
                        have hnb : ∀ g t cs, Blk wx g t cs → t ≠ 3 → some g ≠ blkOf A := fun g t cs h ht e => own_other O7.out h (fun e => ht e.symm) (by rw [own_blk]; exact e.symm)
                        have T9 := Lib.hid (((show Blk wx.drew _ _ _ from T7.out).alloc (.cells #[.int .i64 (v : Int)] 3)).grown hgr9 (hnb _ _ _ T7.out (by decide)))
                        have C9 := Lib.hid (((show Blk wx.drew _ _ _ from C7.out).alloc (.cells #[.int .i64 (v : Int)] 3)).grown hgr9 (hnb _ _ _ C7.out (by decide)))
                        have B9 := Lib.hid (hb8.grown hgr9 hb8.size (fun q hq => own_base O8.out (by rw [own_blk]; exact hq)))
                        have O9 := Lib.hid (show u9.ownsRow wm.heap.size 3 1 (.slice A9 (y + 1) k9) (y + 1) (ints (ins.take (y + 1))) from by rw [HNX.out, ints_append]; exact hown9)
                        have k24c := T9.out.cell 0
                        have f24c := T9.out.free 0
                        clear hb8 hnb hown9 hgr9 hat9 hrun9
                        refine hK.out _ _ ?_ (fun hHeld => ?_)
                        · trivial
                        clear hK K
                        try simp only [Act.put, List.setIfInBounds_toArray, List.set_cons_zero, List.set_cons_succ]
                        refine wpAnyH_take (i := 8) (oi := { dst := some 159, op := Op.fieldAddr 41 (Operand.tmp 24) 0, type := 0, pos := _, after := #[{ on := 0, ground := Ground.phase }, { on := 1, ground := Ground.phase }, { on := 2, ground := Ground.phase }, { on := 3, ground := Ground.phase }, { on := 4, ground := Ground.phase }, { on := 5, ground := Ground.phase }, { on := 6, ground := Ground.phase }, { on := 7, ground := Ground.phase }], guard := none }) (v := ?_) rfl (by kernel_rfl) (by kernel_rfl) (by kernel_rfl) (fun _ _ _ h => h) (Or.inl ⟨by rfl, ?_⟩) (by assumption) ?_
                        rotate_left
                        · intro w hSw; (try dsimp only at hSw); go_simp; (try with_reducible rfl)
                        try simp only [Act.put, List.setIfInBounds_toArray, List.set_cons_zero, List.set_cons_succ]
                        refine wpAnyH_ready (rs := [9]) (by kernel_rfl) (by simp) ?_
                        refine AllReadyH.cons (o := { dst := none, op := Op.store 24 (Operand.tmp 159) (Operand.tmp 158), type := 0, pos := _, after := #[{ on := 8, ground := Ground.data }, { on := 7, ground := Ground.data }, { on := 7, ground := Ground.chain }, { on := 0, ground := Ground.phase }, { on := 1, ground := Ground.phase }, { on := 2, ground := Ground.phase }, { on := 3, ground := Ground.phase }, { on := 4, ground := Ground.phase }, { on := 5, ground := Ground.phase }, { on := 6, ground := Ground.phase }, { on := 7, ground := Ground.phase }], guard := none }) rfl (fun K hK => ?_) AllReadyH.nil
                        go_simp
                        refine hK.out _ _ ?_ (fun hHeld => ?_)
                        · trivial
                        clear hK K
                        try simp only [Act.put, List.setIfInBounds_toArray, List.set_cons_zero, List.set_cons_succ]
                        refine wpAnyH_done (by kernel_rfl) ?_ _
                        have T10 := Lib.hid (T9.out.put 0 (.slice A9 (y + 1) k9))
                        have C10 := Lib.hid (C9.out.apart (p := ⟨wm.heap.size, 0, none⟩) (by show g25 ≠ wm.heap.size; omega) (.slice A9 (y + 1) k9))
                        have B10 := Lib.hid (B9.out.setCell (p := ⟨wm.heap.size, 0, none⟩) (Nat.le_refl _) (.slice A9 (y + 1) k9))
                        have O10 := Lib.hid ((Chg.set u9 wm.heap.size 0 (.slice A9 (y + 1) k9)).own O9.out (fun g e hk => own_other O9.out T9.out (by decide) (by rw [e, hk])))
                        clear k24 k24b k24c f24c
                        generalize u9.setCell ⟨wm.heap.size, 0, none⟩ (.slice A9 (y + 1) k9) = w10 at T10 C10 B10 O10 ⊢
                        go_wp2_with fail
                        go_roundw
                        case rel => exact ⟨y + 1, A9, k9, by omega, by go_num, B10.out, T10.out, C10.out, O10.out⟩
                        case measure => simp [intOf]; omega
                      · skip
                        go_simp
                        refine hK.out _ _ ?_ (fun hHeld => ?_)
                        · trivial
                        clear hK K
                        try simp only [Act.put, List.setIfInBounds_toArray, List.set_cons_zero, List.set_cons_succ]
                        refine wpAnyH_ready (rs := [1]) (by kernel_rfl) (by simp) ?_
                        refine AllReadyH.cons (o := { dst := some 152, op := Op.load 24 (Operand.tmp 151), type := 24, pos := _, after := #[{ on := 0, ground := Ground.data }], guard := none }) rfl (fun K hK => ?_) AllReadyH.nil
                        go_simp
                        refine hK.out _ _ ?_ (fun hHeld => ?_)
                        · trivial
                        clear hK K
                        try simp only [Act.put, List.setIfInBounds_toArray, List.set_cons_zero, List.set_cons_succ]
                        refine wpAnyH_ready (rs := [7]) (by kernel_rfl) (by simp) ?_
                        refine AllReadyH.cons (o := { dst := some 158, op := Op.call { callee := Callee.builtin Builtin.append, args := #[Operand.tmp 152, Operand.tmp 157], argTypes := #[24, 24] }, type := 24, pos := _, after := #[{ on := 1, ground := Ground.data }, { on := 6, ground := Ground.data }, { on := 5, ground := Ground.chain }], guard := none }) rfl (fun K hK => ?_) AllReadyH.nil
                        have O8 := Lib.hid ((O7.out.drew).alloc (.cells #[.int .i64 (v : Int)] 3))
                        obtain ⟨A9, k9, u9, hrun9, hown9, hgr9, hat9⟩ := app_run 24 3 24 Tryz.underlying24 _ 1 8 int_infoA rfl (by decide) (by decide) wm.heap.size A y cc (ints (ins.take y)) O8.out ⟨wx.drew.heap.size, 0, none⟩ 1 [.int .i64 (v : Int)] (rd_of_blk (cs := [.int .i64 (v : Int)]) (Blk.made wx.drew 3 #[.int .i64 (v : Int)]) 1 1 rfl) (fun u hu => by rw [List.mem_singleton] at hu; subst hu; rfl) (by omega) (by have := B7.out.size; simp; omega)
                        refine step_app_run (by rfl) (.tmp 152) (.tmp 157) 24 24 (by rfl) (.slice A y cc) (.slice (some ⟨wx.heap.size, 0, none⟩) 1 1) (by rfl) (by rfl) hrun9 ?_
                        have hb8 := below_then (below_drewN B7.out 1) (below_new wx.drew (.cells #[.int .i64 (v : Int)] 3))
                        have hnb : ∀ g t cs, Blk wx g t cs → t ≠ 3 → some g ≠ blkOf A := fun g t cs h ht e => own_other O7.out h (fun e => ht e.symm) (by rw [own_blk]; exact e.symm)
                        have T9 := Lib.hid (((show Blk wx.drew _ _ _ from T7.out).alloc (.cells #[.int .i64 (v : Int)] 3)).grown hgr9 (hnb _ _ _ T7.out (by decide)))
                        have C9 := Lib.hid (((show Blk wx.drew _ _ _ from C7.out).alloc (.cells #[.int .i64 (v : Int)] 3)).grown hgr9 (hnb _ _ _ C7.out (by decide)))
                        have B9 := Lib.hid (hb8.grown hgr9 hb8.size (fun q hq => own_base O8.out (by rw [own_blk]; exact hq)))
                        have O9 := Lib.hid (show u9.ownsRow wm.heap.size 3 1 (.slice A9 (y + 1) k9) (y + 1) (ints (ins.take (y + 1))) from by rw [HNX.out, ints_append]; exact hown9)
                        have k24c := T9.out.cell 0
                        have f24c := T9.out.free 0
                        clear hb8 hnb hown9 hgr9 hat9 hrun9
                        refine hK.out _ _ ?_ (fun hHeld => ?_)
                        · trivial
                        clear hK K
                        try simp only [Act.put, List.setIfInBounds_toArray, List.set_cons_zero, List.set_cons_succ]
                        refine wpAnyH_take (i := 8) (oi := { dst := some 159, op := Op.fieldAddr 41 (Operand.tmp 24) 0, type := 0, pos := _, after := #[{ on := 0, ground := Ground.phase }, { on := 1, ground := Ground.phase }, { on := 2, ground := Ground.phase }, { on := 3, ground := Ground.phase }, { on := 4, ground := Ground.phase }, { on := 5, ground := Ground.phase }, { on := 6, ground := Ground.phase }, { on := 7, ground := Ground.phase }], guard := none }) (v := ?_) rfl (by kernel_rfl) (by kernel_rfl) (by kernel_rfl) (fun _ _ _ h => h) (Or.inl ⟨by rfl, ?_⟩) (by assumption) ?_
                        rotate_left
                        · intro w hSw; (try dsimp only at hSw); go_simp; (try with_reducible rfl)
                        try simp only [Act.put, List.setIfInBounds_toArray, List.set_cons_zero, List.set_cons_succ]
                        refine wpAnyH_ready (rs := [9]) (by kernel_rfl) (by simp) ?_
                        refine AllReadyH.cons (o := { dst := none, op := Op.store 24 (Operand.tmp 159) (Operand.tmp 158), type := 0, pos := _, after := #[{ on := 8, ground := Ground.data }, { on := 7, ground := Ground.data }, { on := 7, ground := Ground.chain }, { on := 0, ground := Ground.phase }, { on := 1, ground := Ground.phase }, { on := 2, ground := Ground.phase }, { on := 3, ground := Ground.phase }, { on := 4, ground := Ground.phase }, { on := 5, ground := Ground.phase }, { on := 6, ground := Ground.phase }, { on := 7, ground := Ground.phase }], guard := none }) rfl (fun K hK => ?_) AllReadyH.nil
                        go_simp
                        refine hK.out _ _ ?_ (fun hHeld => ?_)
                        · trivial
                        clear hK K
                        try simp only [Act.put, List.setIfInBounds_toArray, List.set_cons_zero, List.set_cons_succ]
                        refine wpAnyH_done (by kernel_rfl) ?_ _
                        have T10 := Lib.hid (T9.out.put 0 (.slice A9 (y + 1) k9))
                        have C10 := Lib.hid (C9.out.apart (p := ⟨wm.heap.size, 0, none⟩) (by show g25 ≠ wm.heap.size; omega) (.slice A9 (y + 1) k9))
                        have B10 := Lib.hid (B9.out.setCell (p := ⟨wm.heap.size, 0, none⟩) (Nat.le_refl _) (.slice A9 (y + 1) k9))
                        have O10 := Lib.hid ((Chg.set u9 wm.heap.size 0 (.slice A9 (y + 1) k9)).own O9.out (fun g e hk => own_other O9.out T9.out (by decide) (by rw [e, hk])))
                        clear k24 k24b k24c f24c
                        generalize u9.setCell ⟨wm.heap.size, 0, none⟩ (.slice A9 (y + 1) k9) = w10 at T10 C10 B10 O10 ⊢
                        go_wp2_with fail
                        go_roundw
                        case rel => exact ⟨y + 1, A9, k9, by omega, by go_num, B10.out, T10.out, C10.out, O10.out⟩
                        case measure => simp [intOf]; omega
              case rest =>
                obtain ⟨rfl, hcB, A, cc, hbx, hol⟩ := hcut
                have P5 := Lib.hid (P3.out.keep hcB)
                have BF5 := Lib.hid ((BF.out.below P3.out.below BF.out.lt).keep hcB)
                obtain ⟨ins, T, hlut⟩ : ∃ ins T, M.lut n = (ins, T) := ⟨_, _, rfl⟩
                rw [hlut] at hbx hol
                have HL := Lib.hid hlut
                obtain ⟨ql, hql⟩ : ∃ q, ins.length = q := ⟨_, rfl⟩
                have HQL := Lib.hid hql
                simp only at hbx hol
                have TB := Lib.hid hbx
                have OB := Lib.hid hol
                obtain ⟨cap, hcap, hmap⟩ := P5.out.map
                have hln := P5.out.len
                have hle := litsTo_le M.nd n
                have hidx : M.F + M.idx n = F + ls.length := by rw [HMF.out, hln]; rfl
                have hlsn : ls.length ≤ 10000 := by omega
                obtain ⟨w7, hmu, hm7, hg7⟩ := hmap.update (by unfold maxLen; omega) n (F + ls.length) (by omega) (by omega)
                have P7 := Lib.hid (P5.out.know HB.out (by omega) hcap hmap (by rw [hidx]; exact hm7) hg7)
                have T7 := Lib.hid (TB.out.grown hg7 (fun e => blk_map TB.out hmap (Option.some.inj e)))
                have O7 := Lib.hid (show OwnL wm.heap.size w7 (A, cc, ins) from (Chg.of_grown hg7).own OB.out (fun g e hk => own_map OB.out hmap (by rw [e]; simpa using hk)))
                have hsz7 := P7.out.below.size
                have hsz3 := P3.out.below.size
                have k18 := P5.out.box.cell 2
                have k19 := P5.out.mbox.cell 0
                have k8 := BF5.out.cell 0
                obtain ⟨nl, hnl'⟩ : ∃ q, ls.length = q := ⟨_, rfl⟩
                have HNL := Lib.hid hnl'
                rw [hnl'] at hmu k18 hlsn
                obtain ⟨fl, hfl⟩ : ∃ q, F + nl = q := ⟨_, rfl⟩
                rw [hfl] at hmu
                have hFl : (F : Int) + (nl : Int) = (fl : Int) := by omega
                clear hbx hol hlut hql hmap hcap hln hle hidx hm7 hg7 hcB W4 T4 P4 BF4 HBT d0 hfl hnl'
                go_upto_region 48 with (fail)
                clear k18 k19 k8 hmu hFl
                have k18 := P7.out.box.cell 2
                rw [HNL.out] at k18
                have t0 := T7.out.cell 0
                have t1 := T7.out.cell 1
                rw [HQL.out] at t0
                have hrow7 := P7.out.row
                rw [HNL.out] at hrow7
                have R7 := Lib.hid hrow7
                clear hrow7
                go_wp2_with (at_builtin; refine wpList_app_at rfl (.tmp 189) (.tmp 191) 30 41 rfl Tryz.underlying30 _ 2 32 lut_info rfl (by decide) (by decide) w3.heap.size AL nl cL (cutC ls) rfl (R7.out.alloc _) ⟨w7.heap.size, 0, none⟩ 1 [.slice A ql cc, .int .u64 (T : Int)] rfl (rd_of_blk (Blk.made _ _ _) 2 1 rfl) (cut_oneN _ _ _ _) (by omega) (by simp; omega) ?_)
                intro A9 c9 u9 hown9 hgr9 hat9
                have hbox9 := (P7.out.box.alloc (.cells #[.slice A ql cc, .int .u64 (T : Int)] 41)).grown hgr9 (fun e => own_other P7.out.row P7.out.box (by decide) (by rw [own_blk]; exact e.symm))
                have k9 := hbox9.cell 2
                have f9 := hbox9.free 2
                rw [HNL.out] at k9
                have P9 := Lib.hid (P7.out.push (A9 := A9) (c9 := c9) HB.out (own_down O7.out hsz3) HL.out (by rw [HNL.out, HQL.out]; exact hown9) hgr9)
                rw [HNL.out] at P9
                clear hown9 hgr9 hat9 hbox9 k18 t0 t1
                go_wp2_with fail
                go_roundw
                case rel => exact ⟨n + 1, A9, c9, ls ++ [((A, cc, ins), T)], by omega, by go_num, P9.out⟩
                case measure => simp [intOf]; omega
        have hge' : (F : Int) ≤ (x : Int) := by omega
        have k9 := Q3.out.box.cell 0
        have hxm : 2 * x + 1 < m := by rw [← HMM.out]; omega
        have d0 := BitsB.at_ Q3.out.bits (a := 2 * x) (by rw [Q3.out.len]; omega)
        have d1 := BitsB.at_ Q3.out.bits (a := 2 * x + 1) (by rw [Q3.out.len]; omega)
        have hne : needX (M.back j) x = ((M.back j).getD (2 * x) false || (M.back j).getD (2 * x + 1) false) := rfl
        have hst : M.back (j + 1) = if needX (M.back j) x = true then tells F (M.back j) ((M.C x).map (2 * ·)) else M.back j := by
          rw [MP.back, HMN.out, HMF.out, show NN - 1 - j = x by omega]
        have HST := Lib.hid hst
        have HNE := Lib.hid hne
        have h2x : 2 * (x : Int) = ((2 * x : Nat) : Int) := by omega
        have h2y : ((2 * x : Nat) : Int) + 1 = ((2 * x + 1 : Nat) : Int) := by omega
        have hx1 : (x : Int) - 1 = ((x - 1 : Nat) : Int) := by omega
        have hxm0 : ((2 * x : Nat) : Int) < (m : Int) := by omega
        have hxm1 : ((2 * x + 1 : Nat) : Int) < (m : Int) := by omega
        have hxr : x < rs.length := by rw [HRN.out]; omega
        have hxN : (x : Int) < (NN : Int) := by omega
        clear hst hne
        generalize (M.back j).getD (2 * x) false = p at d0 HNE
        generalize (M.back j).getD (2 * x + 1) false = r at d1 HNE
        by_cases hpr : p = false ∧ r = false
        · obtain ⟨rfl, rfl⟩ := hpr
          obtain ⟨a0, ha0⟩ : ∃ a : Nat, 2 * x = a := ⟨_, rfl⟩
          obtain ⟨a1, ha1⟩ : ∃ a : Nat, 2 * x + 1 = a := ⟨_, rfl⟩
          rw [ha1] at d1 h2y hxm1
          rw [ha0] at d0 h2x h2y hxm0
          clear ha0 ha1 hxm
          go_wp2_with fail
          go_roundw
          case rel => exact ⟨x - 1, j + 1, by omega, by omega, rfl, by rw [HST.out, HNE.out, if_neg (by simp)]; exact Q3.out⟩
          case measure => simp [intOf]; omega
        have hny : needX (M.back j) x = true := by
          rw [HNE.out]
          cases p <;> cases r <;> simp at hpr ⊢
        have HNY := Lib.hid hny
        clear hny HNE
        go_upto_region 20 with (fail)
        go_cut [99] (fun v99 wx => v99 = .bool false ∧ wx = wr)
        case first =>
          obtain ⟨a0, ha0⟩ : ∃ a : Nat, 2 * x = a := ⟨_, rfl⟩
          obtain ⟨a1, ha1⟩ : ∃ a : Nat, 2 * x + 1 = a := ⟨_, rfl⟩
          rw [ha1] at d1 h2y hxm1
          rw [ha0] at d0 h2x h2y hxm0
          clear ha0 ha1 hxm
          cases p with
          | true =>
            go_wp2_with fail
            go_meet
            case rel => exact ⟨rfl, rfl⟩
          | false =>
            cases r with
            | false => exact absurd ⟨rfl, rfl⟩ hpr
            | true =>
              go_wp2_with fail
              go_meet
              case rel => exact ⟨rfl, rfl⟩
        case rest =>
          obtain ⟨rfl, rfl⟩ := hcut
          clear d0 d1 k9 h2x h2y hxm0 hxm1 hxm hpr k8
          obtain ⟨h0, hc⟩ := HC0.out x hxr
          have hok := AG.c0_ok HM.out (x := x) (by rw [HF.out]; exact hge) (by rw [HNN.out]; omega)
          obtain ⟨pr, hPR, hprb, r00, hcin⟩ := RS2.out.at_ hxr
          have r0 := (Q3.out.below.cell (p := pr.add x) (by rw [add_block]; exact hprb)).trans r00
          obtain ⟨pc, hPC, hpcb, c00, c1, hsl⟩ := hcin.at_ h0
          have c0 := (Q3.out.below.cell (p := pc.add (0 * 2)) (by rw [add_block]; exact hpcb)).trans c00
          have hCx : (M.C x).map (2 * ·) = (rs[x].2.2[0].1.2.2.map Int.toNat).map (2 * ·) := by
            rw [show M.C x = (G.c0 k x).1.map Int.toNat by rw [← HMP.out]; rfl, hc]
          rw [hc] at hok
          subst hPR
          clear r00 c00
          generalize rs[x] = rx at r0 h0 hcin hPC hpcb c0 c1 hsl hok hCx
          obtain ⟨r1, r2, r3⟩ := rx
          simp only at h0 hPC c0 c1 hsl hok hCx
          subst hPC
          simp only [crv] at r0
          generalize r3[0] = ct at c0 c1 hsl hok hCx
          obtain ⟨⟨l1, l2, l3⟩, t⟩ := ct
          simp only [slv] at c0 c1 hsl hok hCx
          obtain ⟨gr, hgr⟩ : ∃ p, pr.add x = p := ⟨_, rfl⟩
          rw [hgr] at r0
          have hpc0 : pc.add (0 * 2) = pc := rfl
          rw [hpc0] at c0 c1
          obtain ⟨nr, hnr⟩ : ∃ n, r3.length = n := ⟨_, rfl⟩
          rw [hnr] at h0 r0
          have h0' : (0 : Int) < (nr : Int) := by omega
          have HSL := Lib.hid hsl
          have HOK := Lib.hid hok
          have HCX := Lib.hid hCx
          obtain ⟨ql, hql⟩ : ∃ n, l3.length = n := ⟨_, rfl⟩
          have hql6 : ql ≤ 6 := by rw [← hql]; exact hok.len.1
          have HQL := Lib.hid hql
          rw [hql] at c0
          clear hcin hsl hok hCx hc c1 hnr hql
          go_wp2_with fail
          clear r0 c0 h0' hpc0 hxN
          have B3 := Lib.hid (Q3.out.below)
          go_loopw [108] (fun v108 wx => ∃ y : Nat, y ≤ ql ∧ v108 = .int .i64 (y : Int) ∧ P1 w2 g9 m F (tells F (M.back j) (((l3.map Int.toNat).map (2 * ·)).take y)) wx) (fun v108 _ => ql - (intOf v108).toNat)
          case atStart => exact ⟨0, by omega, rfl, Q3.out⟩
          case round =>
            obtain ⟨y, hy, rfl, hp⟩ := hrel
            have Q4 := Lib.hid hp
            clear hp
            by_cases hyq : y < ql
            case neg =>
              obtain rfl : y = ql := by omega
              have hlt : ¬ (y : Int) < (y : Int) := by omega
              have hall : ((l3.map Int.toNat).map (2 * ·)).take y = (l3.map Int.toNat).map (2 * ·) := List.take_of_length_le (by rw [List.length_map, List.length_map, HQL.out]; exact Nat.le_refl _)
              rw [hall] at Q4
              have hbk : M.back (j + 1) = tells F (M.back j) ((l3.map Int.toNat).map (2 * ·)) := by rw [HST.out, if_pos HNY.out, HCX.out]
              rw [← hbk] at Q4
              clear hall hbk
              go_wp2_with fail
              go_roundw
              case rel => exact ⟨x - 1, j + 1, by omega, by omega, rfl, Q4.out⟩
              case measure => simp [intOf]; omega
            have hyq' : (y : Int) < (ql : Int) := by omega
            have hyl : y < l3.length := by rw [HQL.out]; exact hyq
            obtain ⟨pa, hPA, hpb, e0⟩ := (HSL.out.later Q4.out.below).int (k := y) hyl
            have hlv : 1 ≤ l3.getD y 0 ∧ l3.getD y 0 < (x : Int) := HOK.out.lv _ (getD_mem hyl)
            obtain ⟨z, hz⟩ : ∃ z : Nat, l3.getD y 0 = (z : Int) := ⟨(l3.getD y 0).toNat, by omega⟩
            have hzx : z < x := by omega
            have hnx : ((l3.map Int.toNat).map (2 * ·)).take (y + 1) = ((l3.map Int.toNat).map (2 * ·)).take y ++ [2 * z] := by
              rw [List.map_map, lits_take ((fun x => 2 * x) ∘ Int.toNat) l3 hyl]
              have hz2 : l3[y] = (z : Int) := by rw [← hz, List.getD_eq_getElem?_getD, List.getElem?_eq_getElem hyl]; rfl
              simp only [Function.comp, hz2, Int.toNat_natCast]
            have HNX := Lib.hid hnx
            rw [hz] at e0
            subst hPA
            have hz2 : 2 * (z : Int) = ((2 * z : Nat) : Int) := by omega
            have HCL := Lib.hid (Q4.out.call (a := 2 * z) (by rw [← HMM.out]; omega) hm3' hF3')
            generalize 2 * z = a at hz2 HCL HNX
            clear hlv hz hnx
            go_wp2_with fail
            refine HCL.out.mono ?_
            rintro e w7 ⟨rfl, hp⟩
            have Q7 := Lib.hid hp
            clear hp e0 hz2
            go_wp2_with fail
            go_roundw
            case rel => exact ⟨y + 1, by omega, by go_num, by rw [HNX.out, tells_snoc]; exact Q7.out⟩
            case measure => simp [intOf]; omega
end Go.Proofs.YtaajnmggbhnndaaGreatDoor

namespace Go.Proofs.YtaajnmggbhnndaaGreatDoor
open Go.RowKit Go.Maps
set_option linter.unusedVariables false
set_option linter.unusedSimpArgs false
set_option maxRecDepth 100000 in
set_option maxHeartbeats 2000000 in
theorem lmap_no (G : AG) (k : Int) (w : World) (hin : G.In w) (hf : G.fit) (hw : G.wf) (hm : ¬ (G.ok ∧ 2 ≤ k ∧ k ≤ 6)) (hcols : COLS w) :
    Calls Tryz.prog 6 #[.agg #[.int .i64 G.I, .slice G.AF G.fl.length G.cF, .slice G.AA G.an.length G.cA, .slice G.AO G.ou.length G.cO], .int .i64 k] w fun r w' => r = .returned (.tuple #[.agg #[.int .i64 0, .slice none 0 0, .slice none 0 0, .slice none 0 0], .int .i64 1]) ∧ Below w.heap.size w w' := by
  have B0 := Lib.hid (below_then (below_new w (.cells #[.int .i64 G.I, .slice G.AF G.fl.length G.cF, .slice G.AA G.an.length G.cA, .slice G.AO G.ou.length G.cO] 26)) (below_new _ (.cells #[.int .i64 0, .slice none 0 0, .slice none 0 0, .slice none 0 0] 32)))
  have X0 := Lib.hid ((Blk.made w 26 #[.int .i64 G.I, .slice G.AF G.fl.length G.cF, .slice G.AA G.an.length G.cA, .slice G.AO G.ou.length G.cO]).alloc (.cells #[.int .i64 0, .slice none 0 0, .slice none 0 0, .slice none 0 0] 32))
  have R0 := Lib.hid (blk_made1 w (.cells #[.int .i64 G.I, .slice G.AF G.fl.length G.cF, .slice G.AA G.an.length G.cA, .slice G.AO G.ou.length G.cO] 26) 32 #[.int .i64 0, .slice none 0 0, .slice none 0 0, .slice none 0 0])
  have HC := Lib.hid (call_any G k _ (hin.later B0.out) hf hw (hcols.below B0.out))
  have HM := Lib.hid hm
  have k0 := X0.out.cell 0
  have k1 := X0.out.cell 1
  have k2 := X0.out.cell 2
  have k3 := X0.out.cell 3
  clear hin hf hw hm hcols
  go_enter Tryz.func6, Tryz.ntmps6
  go_wp2_with fail
  go_step3
  go_wp2_with fail
  refine HC.out.mono ?_
  rintro e w2 ⟨-, hno⟩
  obtain ⟨rfl, hb2⟩ := hno HM.out
  have R2 := Lib.hid (R0.out.keep hb2)
  have B2 := Lib.hid (below_then B0.out hb2)
  clear hno hb2 HC k0 k1 k2 k3
  have r0 := R2.out.cell 0
  have r1 := R2.out.cell 1
  have r2 := R2.out.cell 2
  have r3 := R2.out.cell 3
  have f0 := R2.out.free 0
  have f1 := R2.out.free 1
  have f2 := R2.out.free 2
  have f3 := R2.out.free 3
  go_wp2_with fail
  rw [Exit.noGoto_ret]
  refine bodyPost_ret (results_net rfl _ _ (w.heap.size + 1) _ _ _ _ rfl (set4n R2.out _ _ _ _)) rfl ?_
  refine ⟨rfl, (Chg.sets w2 (w.heap.size + 1) _ _ _ _).below B2.out B2.out.size (fun k hk => by rw [hk]; exact Nat.le_succ _)⟩
theorem lmap_any (G : AG) (k : Int) (w : World) (hin : G.In w) (hf : G.fit) (hw : G.wf) (hcols : COLS w) :
    Calls Tryz.prog 6 #[.agg #[.int .i64 G.I, .slice G.AF G.fl.length G.cF, .slice G.AA G.an.length G.cA, .slice G.AO G.ou.length G.cO], .int .i64 k] w (MapOut G k w) := by
  by_cases hm : G.ok ∧ 2 ≤ k ∧ k ≤ 6
  · refine (lmap_yes G k w hin hf hw hm hcols).mono ?_
    rintro e w' ⟨N, h1, h2, h3, h4⟩
    exact ⟨fun _ => ⟨N, h1, h2, h3, h4⟩, fun h => absurd hm h⟩
  · refine (lmap_no G k w hin hf hw hm hcols).mono ?_
    rintro e w' ⟨h1, h2⟩
    exact ⟨fun h => absurd h hm, fun _ => ⟨h1, h2⟩⟩
end Go.Proofs.YtaajnmggbhnndaaGreatDoor
