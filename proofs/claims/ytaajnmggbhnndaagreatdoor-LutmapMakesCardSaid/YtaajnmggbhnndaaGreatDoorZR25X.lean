/- filigreeref25.Map. -/
import Derived.Test.YtaajnmggbhnndaaGreatDoorZR25U
import Derived.Test.YtaajnmggbhnndaaGreatDoorZCAll
namespace Go.Proofs.YtaajnmggbhnndaaGreatDoor
open Go.RowKit
set_option linter.unusedVariables false
set_option linter.unusedSimpArgs false
set_option maxRecDepth 100000 in
/-- lut, of any literal that is made -/
theorem rlut25_any (G : AG) (k : Int) (A0 B : Option Addr) (c0_ cB m a : Nat) (rs : List CR) (w : World) (hf : G.fit) (hm : G.ok ∧ 2 ≤ k ∧ k ≤ 6) (hrs : RowsR w A0 c0_ rs) (hpl : plainR rs = (G.bothTo k (G.cn - 1)).1) (hmm : 2 * G.cn = m)
    (hat : Rd w 1 B m cB (ints ((G.mp k).rowN m))) (hnd : (G.mp k).nd.getD a false = true) :
    Calls Tryz.prog 24 #[.agg #[.int .i64 G.I, .slice G.AF G.fl.length G.cF, .slice G.AA G.an.length G.cA, .slice G.AO G.ou.length G.cO], .slice A0 rs.length c0_, .slice B m cB, .int .i64 (a : Int)] w (RLutOut ((G.mp k).lut a).1 ((G.mp k).lut a).2 w) := by
  have hFI : 1 + G.I + (G.fl.length : Int) = (G.fst : Int) := by have : G.fst = 1 + G.I.toNat + G.fl.length := rfl; have := hm.1.1; omega
  have hF3 : G.fst ≤ 100000 := by have := hf.i; have := hf.f; have := hm.1.1; omega
  by_cases h : G.fst ≤ a / 2
  · exact rlut25_gate G k A0 B c0_ cB m a (a / 2) rs w hf hm hrs hpl hmm hat hnd rfl h
  · rcases Nat.eq_zero_or_pos (a / 2) with h0 | h0
    · rw [AG.lut_zero a h0]
      refine (rlut25_zero G A0 B rs.length c0_ m cB a w (by omega)).mono ?_
      rintro r w' ⟨rfl, hb⟩
      exact ⟨none, 0, rfl, hb, by simpa [OwnL, slv, ints] using World.ownsRow_nil w' w.heap.size 3 1⟩
    · rw [AG.lut_low a (by omega) h0]
      refine (rlut25_leaf G G.fst A0 B rs.length c0_ m cB a w h0 (by omega) hFI hm.1.1 hF3).mono ?_
      rintro r w' ⟨g, rfl, hb, ho⟩
      exact ⟨some ⟨g, 0, none⟩, 1, rfl, hb, ho⟩
/-- while tables are made -/
structure P5 (M : MP) (wm : World) (g : Nat) (I : Int) (p : Nat) (AL : Option Addr) (cL : Nat) (ls : List CT) (wx : World) : Prop where
  chg : Chg wm wx (fun k => k = g)
  box : Blk wx g 32 #[.int .i64 I, .slice none 0 0, .slice AL ls.length cL, .slice none 0 0]
  row : wx.ownsRow wm.heap.size 41 2 (.slice AL ls.length cL) ls.length (cutC ls)
  all : ∀ c ∈ ls, OwnL wm.heap.size wx c.1
  pcs : pcs ls = (litsTo M.nd p).map M.lut
theorem P5.keep {M : MP} {wm wx wy : World} {g p : Nat} {I : Int} {AL : Option Addr} {cL : Nat} {ls : List CT} (h : P5 M wm g I p AL cL ls wx) (hb : Below wx.heap.size wx wy) : P5 M wm g I p AL cL ls wy :=
  ⟨h.chg.belowB hb, h.box.keep hb, own_keep h.row hb, fun c hc => OwnL.later (h.all c hc) hb, h.pcs⟩
theorem P5.len {M : MP} {wm wx : World} {g p : Nat} {I : Int} {AL : Option Addr} {cL : Nat} {ls : List CT} (h : P5 M wm g I p AL cL ls wx) : ls.length = (litsTo M.nd p).length := by
  have h1 := congrArg List.length h.pcs
  rw [List.length_map] at h1
  have h2 : (_root_.Go.Proofs.YtaajnmggbhnndaaGreatDoor.pcs ls).length = ls.length := by unfold _root_.Go.Proofs.YtaajnmggbhnndaaGreatDoor.pcs; rw [List.length_map]
  omega
/-- one more table -/
theorem P5.push {M : MP} {wm wx u9 : World} {g p : Nat} {I : Int} {AL A9 A : Option Addr} {cL c9 cc T : Nat} {ins : List Int} {ls : List CT} {o : Obj} (h : P5 M wm g I p AL cL ls wx) (hnd : M.nd.getD p false = true) (hct : OwnL wm.heap.size wx (A, cc, ins)) (hl : M.lut p = (ins, T))
    (hown : u9.ownsRow wm.heap.size 41 2 (.slice A9 (ls.length + 1) c9) (ls.length + 1) (cutC ls ++ [.slice A ins.length cc, .int .u64 (T : Int)])) (hgr : (wx.alloc o).grownBy u9 (blkOf AL)) :
    P5 M wm g I (p + 1) A9 c9 (ls ++ [((A, cc, ins), T)]) (u9.setCell ⟨g, 2, none⟩ (.slice A9 (ls.length + 1) c9)) := by
  have h1 := h.keep (below_new wx o)
  have hct1 := OwnL.later (l := (A, cc, ins)) hct (below_new wx o)
  generalize wx.alloc o = w1 at h1 hct1 hgr
  have hne : ∀ g, (Value.slice AL ls.length cL).ownBlock ≠ some g → some g ≠ blkOf AL := fun g h e => h (by rw [own_blk]; exact e.symm)
  have hbox := h1.box.grown hgr (hne _ (own_other h1.row h1.box (by decide)))
  have hch : Chg wm u9 (fun k => k = g) := h1.chg.grownHi hgr (fun k hk => own_base h1.row (by rw [own_blk]; exact hk))
  have hall : ∀ c ∈ ls ++ [((A, cc, ins), T)], OwnL wm.heap.size u9 c.1 := fun c hc => by
    rcases List.mem_append.1 hc with hc | hc
    · exact own_grown (h1.all c hc) h1.row (by decide) hgr
    · rw [List.mem_singleton] at hc; subst hc
      exact own_grown hct1 h1.row (by decide) hgr
  have hS := Chg.set u9 g 2 (.slice A9 (ls.length + 1) c9)
  have hL : cutC ls ++ [.slice A ins.length cc, .int .u64 (T : Int)] = cutC (ls ++ [((A, cc, ins), T)]) := by
    unfold cutC
    rw [List.flatMap_append]
    rfl
  have hlen : (ls ++ [((A, cc, ins), T)]).length = ls.length + 1 := by rw [List.length_append]; rfl
  refine ⟨hch.setSame _, ?_, ?_, fun c hc => hS.own (hall c hc) (fun g' e hk => own_other (hall c hc) hbox (by decide) (by rw [e, hk])), ?_⟩
  · have hp := hbox.put 2 (.slice A9 (ls.length + 1) c9)
    rw [hlen]
    exact hp
  · rw [hL] at hown
    rw [hlen]
    exact hS.own hown (fun g' e hk => own_other hown hbox (by decide) (by rw [e, hk]))
  · unfold _root_.Go.Proofs.YtaajnmggbhnndaaGreatDoor.pcs
    rw [List.map_append, litsTo_yes hnd, List.map_append]
    have := h1.pcs
    unfold _root_.Go.Proofs.YtaajnmggbhnndaaGreatDoor.pcs at this
    rw [this]
    simp only [List.map_cons, List.map_nil, hl]
set_option maxRecDepth 100000 in
set_option maxHeartbeats 8000000 in
theorem rmap25_yes (G : AG) (k : Int) (w : World) (hin : G.In w) (hf : G.fit) (hm : G.ok ∧ 2 ≤ k ∧ k ≤ 6) :
    Calls Tryz.prog 7 #[.agg #[.int .i64 G.I, .slice G.AF G.fl.length G.cF, .slice G.AA G.an.length G.cA, .slice G.AO G.ou.length G.cO], .int .i64 k] w fun r w' => ∃ N : NT, r = .returned (.tuple #[.agg #[.int .i64 N.I, .slice N.AH N.hs.length N.cH, .slice N.AL N.ls.length N.cL, .slice N.AO N.ou.length N.cO], .int .i64 0]) ∧ Below w.heap.size w w' ∧ N.In w' ∧ N.IsMap G k := by
  have B0 := Lib.hid (below_then (below_new w (.cells #[.int .i64 G.I, .slice G.AF G.fl.length G.cF, .slice G.AA G.an.length G.cA, .slice G.AO G.ou.length G.cO] 26)) (below_new _ (.cells #[.int .i64 0, .slice none 0 0, .slice none 0 0, .slice none 0 0] 32)))
  have X0 := Lib.hid ((Blk.made w 26 #[.int .i64 G.I, .slice G.AF G.fl.length G.cF, .slice G.AA G.an.length G.cA, .slice G.AO G.ou.length G.cO]).alloc (.cells #[.int .i64 0, .slice none 0 0, .slice none 0 0, .slice none 0 0] 32))
  have R0 := Lib.hid (blk_made1 w (.cells #[.int .i64 G.I, .slice G.AF G.fl.length G.cF, .slice G.AA G.an.length G.cA, .slice G.AO G.ou.length G.cO] 26) 32 #[.int .i64 0, .slice none 0 0, .slice none 0 0, .slice none 0 0])
  have HC := Lib.hid (rall24_any G k _ (hin.later B0.out) hf)
  have hFI : 1 + G.I + (G.fl.length : Int) = (G.fst : Int) := by have : G.fst = 1 + G.I.toNat + G.fl.length := rfl; have := hm.1.1; omega
  have hF3 : G.fst ≤ 2001 := by have := hf.i; have := hf.f; have := hm.1.1; omega
  obtain ⟨m, hmm⟩ : ∃ m, 2 * G.cn = m := ⟨_, rfl⟩
  have hm3 : m ≤ 10000 := by have h2 : G.cn = G.fst + G.an.length := rfl; have := hf.a; omega
  have HMD := Lib.hid (fun (W : World) (A : Option Addr) (c : Nat) (rs : List CR) (hb : Below w.heap.size w W) (hrs : RowsR W A c rs) (hpl : plainR rs = (G.bothTo k (G.cn - 1)).1) => rmade25_any G k A c m rs W (hin.later hb) hf hm hrs hpl hmm)
  have HNO := Lib.hid (fun (W : World) (A : Option Addr) (c : Nat) (hr : Rd W 1 A m c (bools (G.mp k).nd)) => rnodes25m_any G (G.mp k) A c m W hFI hm.1.1 (by have : (G.mp k).F = G.fst := rfl; omega) hmm (by omega) hr)
  have HLT := Lib.hid (fun (W : World) (A0 B : Option Addr) (c0 cB a : Nat) (rs : List CR) (hrs : RowsR W A0 c0 rs) (hpl : plainR rs = (G.bothTo k (G.cn - 1)).1) (hat : Rd W 1 B m cB (ints ((G.mp k).rowN m))) (hnd : (G.mp k).nd.getD a false = true) => rlut25_any G k A0 B c0 cB m a rs W hf hm hrs hpl hmm hat hnd)
  have hgd : ∀ b, (G.mp k).good b → ((G.mp k).rowN m).getD b 0 = ((G.mp k).at_ b : Int) := fun b hb => by rw [← hmm]; exact (G.mp k).rowN_at hb
  have HGD := Lib.hid hgd
  have HLF := Lib.hid (show ∀ f ∈ G.fl, (G.mp k).good f.1.toNat from fun f hf' => AG.mp_next hm hf')
  have HLO := Lib.hid (show ∀ a ∈ G.ou, (G.mp k).good a.toNat from fun a ha => AG.mp_out hm ha)
  have HNL := Lib.hid (show (G.mp k).nd.length = m from by rw [MP.nd_len]; exact hmm)
  obtain ⟨NN, hNN⟩ : ∃ N, G.cn = N := ⟨_, rfl⟩
  obtain ⟨M, hMP⟩ : ∃ M, G.mp k = M := ⟨_, rfl⟩
  have HMP := Lib.hid hMP
  have HMN := Lib.hid (show M.N = NN by rw [← hMP]; exact hNN)
  obtain ⟨I, hI⟩ : ∃ I, G.I = I := ⟨_, rfl⟩
  obtain ⟨h, hh⟩ : ∃ h, G.fl.length = h := ⟨_, rfl⟩
  obtain ⟨no, hno⟩ : ∃ no, G.ou.length = no := ⟨_, rfl⟩
  have hh3 : h ≤ 1000 := by rw [← hh]; exact hf.f
  have hno3 : no ≤ 1000 := by rw [← hno]; exact hf.o
  have HIN := Lib.hid hin
  have HM := Lib.hid hm
  have HH := Lib.hid hh
  have HNOO := Lib.hid hno
  have HMM := Lib.hid hmm
  have HNN := Lib.hid hNN
  have HI := Lib.hid hI
  obtain ⟨AO, hAO⟩ : ∃ A, G.AO = A := ⟨_, rfl⟩
  obtain ⟨AF, hAF⟩ : ∃ A, G.AF = A := ⟨_, rfl⟩
  have HAO := Lib.hid hAO
  have HAF := Lib.hid hAF
  rw [hI, hh, hno, hAO, hAF] at HC HMD HNO HLT X0 B0 R0 ⊢
  rw [hMP] at HMD HNO HLT HGD HLF HLO HNL
  rw [hNN] at HMM HMD HLT
  clear hAO hAF hin hf hm hI hh hno hNN hMP hFI hF3 hgd hmm
  have k0 := X0.out.cell 0
  have k1 := X0.out.cell 1
  have k2 := X0.out.cell 2
  have k3 := X0.out.cell 3
  go_enter Tryz.func7, Tryz.ntmps7
  go_wp2_with fail
  refine HC.out.mono ?_
  rintro e w2 ⟨hyes, -⟩
  obtain ⟨A0, c0, rs, AD, cD, rfl, hb2, hall, hpl⟩ := hyes HM.out
  rw [HNN.out] at hpl
  obtain ⟨hrn, -⟩ := rows_c0 HM.out (by rw [HNN.out]; exact hpl)
  have HPL := Lib.hid hpl
  have RS2 := Lib.hid hall.rows
  have X2 := Lib.hid (X0.out.keep hb2)
  have R2 := Lib.hid (R0.out.keep hb2)
  have B2 := Lib.hid (below_then B0.out hb2)
  rw [HNN.out] at hrn
  have HRN := Lib.hid hrn
  have HCM := Lib.hid (HMD.out w2 A0 c0 rs B2.out hall.rows hpl)
  rw [hrn] at HCM
  clear hyes hall hpl hb2 HC k0 k1 k2 k3 HMD
  rw [hrn]
  clear hrn
  have k0 := X2.out.cell 0
  have k1 := X2.out.cell 1
  have k2 := X2.out.cell 2
  have k3 := X2.out.cell 3
  go_wp2_with fail
  refine HCM.out.mono ?_
  rintro e w3 ⟨g3, rfl, hb3, hg3, hbits⟩
  have X3 := Lib.hid (X2.out.keep hb3)
  have R3 := Lib.hid (R2.out.keep hb3)
  have B3 := Lib.hid (below_then B2.out hb3)
  have RS3 := Lib.hid (RS2.out.later hb3)
  have N3 := Lib.hid hbits
  have HCN := Lib.hid (HNO.out w3 (some ⟨g3, 0, none⟩) m (rd_of_blk (cs := bools M.nd) hbits 1 m (by rw [show (bools M.nd).length = M.nd.length by simp [bools], HNL.out]; omega)))
  clear hb3 hg3 hbits k0 k1 k2 k3 HCM HNO RS2 B2
  have k0 := X3.out.cell 0
  have k1 := X3.out.cell 1
  have k2 := X3.out.cell 2
  have k3 := X3.out.cell 3
  go_wp2_with fail
  refine HCN.out.mono ?_
  rintro e w4 ⟨g5, rfl, hb4, hown4⟩
  have X4 := Lib.hid (X3.out.keep hb4)
  have R4 := Lib.hid (R3.out.keep hb4)
  have B4 := Lib.hid (below_then B3.out hb4)
  have RS4 := Lib.hid (RS3.out.later hb4)
  have N4 := Lib.hid (show BitsB w4 g3 M.nd from Blk.keep N3.out hb4)
  have AT4 := Lib.hid (blk_of_own hown4)
  clear hb4 hown4 k0 k1 k2 k3 HCN RS3 B3
  have k0 := X4.out.cell 0
  go_wp2_with fail
  clear k0
  have X5 := Lib.hid (X4.out.alloc (.cells #[.int .i64 I, .slice none 0 0, .slice none 0 0, .slice none 0 0] 32))
  have R5 := Lib.hid (R4.out.alloc (.cells #[.int .i64 I, .slice none 0 0, .slice none 0 0, .slice none 0 0] 32))
  have B5 := Lib.hid (below_then B4.out (below_new w4 (.cells #[.int .i64 I, .slice none 0 0, .slice none 0 0, .slice none 0 0] 32)))
  have RS5 := Lib.hid (RS4.out.later (below_new w4 (.cells #[.int .i64 I, .slice none 0 0, .slice none 0 0, .slice none 0 0] 32)))
  have N5 := Lib.hid (show BitsB _ g3 M.nd from Blk.alloc N4.out (.cells #[.int .i64 I, .slice none 0 0, .slice none 0 0, .slice none 0 0] 32))
  have AT5 := Lib.hid (AT4.out.alloc (.cells #[.int .i64 I, .slice none 0 0, .slice none 0 0, .slice none 0 0] 32))
  have T5 := Lib.hid (Blk.made w4 32 #[.int .i64 I, .slice none 0 0, .slice none 0 0, .slice none 0 0])
  have hxg : w.heap.size < w4.heap.size := X4.out.lt
  have hrg : w.heap.size + 1 < w4.heap.size := R4.out.lt
  have hng : g3 < w4.heap.size := N4.out.lt
  have hag : g5 < w4.heap.size := AT4.out.lt
  have hsm : (w4.alloc (.cells #[.int .i64 I, .slice none 0 0, .slice none 0 0, .slice none 0 0] 32)).heap.size = w4.heap.size + 1 := by simp
  have B45 := Lib.hid (below_new w4 (.cells #[.int .i64 I, .slice none 0 0, .slice none 0 0, .slice none 0 0] 32))
  generalize w4.alloc (.cells #[.int .i64 I, .slice none 0 0, .slice none 0 0, .slice none 0 0] 32) = wm at X5 R5 B5 RS5 N5 AT5 T5 B45 hsm ⊢
  generalize hg : w4.heap.size = g at T5 hxg hrg hng hag hsm ⊢
  have HG := Lib.hid hg
  clear hg
  have hgm : g < wm.heap.size := by omega
  have HBW := Lib.hid (show ∀ (W : World), Chg wm W (fun k => k = g) → Below w4.heap.size w4 W from fun W hW => hW.below B45.out (by rw [HG.out]; omega) (fun k hk => by rw [HG.out]; omega))
  have HX := Lib.hid (fun (W : World) (hW : Chg wm W (fun k => k = g)) => hW.blk X5.out (by omega))
  have HS := Lib.hid (fun (W : World) (hW : Chg wm W (fun k => k = g)) => (⟨(HX.out W hW).cell 0, (HX.out W hW).cell 1, (HX.out W hW).cell 2, (HX.out W hW).cell 3⟩ : W.cell? ⟨w.heap.size, 0, none⟩ = some (.int .i64 I) ∧ W.cell? ⟨w.heap.size, 1, none⟩ = some (.slice AF h G.cF) ∧ W.cell? ⟨w.heap.size, 2, none⟩ = some (.slice G.AA G.an.length G.cA) ∧ W.cell? ⟨w.heap.size, 3, none⟩ = some (.slice AO no G.cO)))
  have HRL := Lib.hid (show (ints (M.rowN m)).length = m * 1 from by rw [show (ints (M.rowN m)).length = (M.rowN m).length by simp [ints], M.rowN_len, HMN.out, HMM.out]; omega)
  go_loopw [11] (fun v11 wx => ∃ (n : Nat) (AL : Option Addr) (cL : Nat) (ls : List CT), n ≤ m ∧ v11 = .int .i64 (n : Int) ∧ P5 M wm g I n AL cL ls wx) (fun v11 _ => m - (intOf v11).toNat)
  case atStart => exact ⟨0, none, 0, [], by omega, rfl, ⟨Chg.refl _ _, T5.out, World.ownsRow_nil _ _ _ _, fun c hc => (by cases hc), rfl⟩⟩
  case round =>
    obtain ⟨n, AL, cL, ls, hn, rfl, hp⟩ := hrel
    obtain ⟨w8, hw8⟩ : ∃ v, v = wr := ⟨_, rfl⟩
    subst hw8
    have P8 := Lib.hid hp
    clear hp
    by_cases hnm : n < m
    case neg =>
      obtain rfl : m = n := by omega
      have hlt : ¬ (m : Int) < (m : Int) := by omega
      obtain ⟨wm2, hwm2⟩ : ∃ v, v = w8 := ⟨_, rfl⟩
      subst hwm2
      obtain ⟨hsL, hhsL⟩ : ∃ l, G.fl.map (fun f => ((M.at_ f.1.toNat : Int), f.2)) = l := ⟨_, rfl⟩
      have HSL := Lib.hid hhsL
      clear hhsL
      go_wp2_with fail
      clear hlt
      go_loopw [12] (fun v12 wx => ∃ (y : Nat) (A : Option Addr) (c : Nat), y ≤ h ∧ v12 = .int .i64 (y : Int) ∧ Chg wm2 wx (fun k => k = g) ∧ Blk wx g 32 #[.int .i64 I, .slice A y c, .slice AL ls.length cL, .slice none 0 0] ∧ wx.ownsRow wm2.heap.size 71 2 (.slice A y c) y (fc (hsL.take y))) (fun v12 _ => h - (intOf v12).toNat)
      case atStart => exact ⟨0, none, 0, by omega, rfl, Chg.refl _ _, P8.out.box, by simpa [fc] using World.ownsRow_nil wm2 wm2.heap.size 71 2⟩
      case round =>
        obtain ⟨y, A, c, hy, rfl, hch, hbx, hown⟩ := hrel
        obtain ⟨w8, hw8⟩ : ∃ v, v = wr := ⟨_, rfl⟩
        subst hw8
        have C8 := Lib.hid hch
        have T8 := Lib.hid hbx
        have O8 := Lib.hid hown
        have C80 := Lib.hid (show Chg wm w8 (fun k => k = g) from (P8.out.chg.trans hch).mono' fun k hk => hk.elim id id)
        clear hch hbx hown
        have X8 := Lib.hid (HX.out w8 C80.out)
        have k1 := X8.out.cell 1
        by_cases hyq : y < h
        case pos =>
          have hyq' : (y : Int) < (h : Int) := by omega
          have hia : y < G.fl.length := by rw [HH.out]; exact hyq
          obtain ⟨a, hga, ham, han⟩ := lit_nat HM.out.1 (.inr ⟨_, List.getElem_mem hia, rfl⟩)
          obtain ⟨g1, g2⟩ := fc_get G.fl y hia
          obtain ⟨pa, hPA, hpb, e0, e1⟩ := HIN.out.fl.two g1 g2
          have hgd := HLF.out _ (List.getElem_mem hia)
          have hnx : hsL.take (y + 1) = hsL.take y ++ [((M.at_ a : Int), G.fl[y].2)] := by
            rw [← HSL.out, List.take_succ_eq_append_getElem (by rw [List.length_map]; exact hia), List.getElem_map, han]
          rw [HAF.out] at hPA
          subst hPA
          rw [hga] at e0
          rw [han] at hgd
          generalize G.fl[y].2 = z at e1 hnx
          obtain ⟨ga, hgaa⟩ : ∃ p, pa.add (y * 2) = p := ⟨_, rfl⟩
          have hgab : ga.block < w.heap.size := by rw [← hgaa, add_block]; exact hpb
          rw [hgaa] at e0 e1
          rw [HNN.out, HMM.out] at ham
          have hat := HGD.out a hgd
          have HAC := Lib.hid (AT5.out.cell a)
          have hac : (ints (M.rowN m)).toArray[a]? = some (.int .i64 (M.at_ a : Int)) := by
            rw [← hat]
            simp [ints, List.getD_eq_getElem?_getD, List.getElem?_eq_getElem (show a < (M.rowN m).length by rw [M.rowN_len, HMN.out, HMM.out]; exact ham)]
          have HACC := Lib.hid (HAC.out.trans hac)
          have HNX := Lib.hid hnx
          have HG0 := Lib.hid ((B5.out.cell hgab).trans e0)
          have HG1 := Lib.hid ((B5.out.cell (p := ⟨ga.block, ga.off + 1, none⟩) hgab).trans e1)
          clear e0 e1 hga han hnx g1 g2 hgd hat hac HAC
          generalize M.at_ a = v at HNX HACC
          have ham' : (a : Int) < (m : Int) := by omega
          have HS2 := Lib.hid (show ∀ (W : World), Chg wm2 W (fun k => k = g) → (W.cell? ⟨w.heap.size, 1, none⟩ = some (.slice (some pa) h G.cF) ∧ W.cell? ga = some (.int .i64 (a : Int)) ∧ W.cell? ⟨ga.block, ga.off + 1, none⟩ = some (.bool z) ∧ W.cell? ⟨g5, a, none⟩ = some (.int .i64 (v : Int))) from fun W hW2 => by
            have hW : Chg wm W (fun k => k = g) := (P8.out.chg.trans hW2).mono' fun k hk => hk.elim id id
            exact ⟨(HX.out W hW).cell 1, (hW.cellAt (p := ga) (by have := B5.out.size; omega) (by omega)).trans HG0.out, (hW.cellAt (p := ⟨ga.block, ga.off + 1, none⟩) (by have := B5.out.size; show ga.block < _; omega) (by show ga.block ≠ _; omega)).trans HG1.out, (hW.cellAt (p := ⟨g5, a, none⟩) (by show g5 < _; omega) (by show g5 ≠ _; omega)).trans HACC.out⟩)
          have k18 := T8.out.cell 1
          have k18b : ∀ o, (w8.alloc o).cell? ⟨g, 1, none⟩ = some (.slice A y c) := fun o => (T8.out.alloc o).cell 1
          have hsz8 := C8.out.size
          go_upto_region 15 with (fail)
          clear k1
          refine wp_region_held_drew (S := (fun w' => w'.cell? ⟨w.heap.size, 1, none⟩ = some (.slice (some pa) h G.cF) ∧ w'.cell? ga = some (.int .i64 (a : Int)) ∧ w'.cell? ⟨ga.block, ga.off + 1, none⟩ = some (.bool z) ∧ w'.cell? ⟨g5, a, none⟩ = some (.int .i64 (v : Int)))) (by kernel_rfl) ?_ (fun hHeld => ?_)
          · (first | exact HS2.out _ C8.out | exact HS2.out _ (C8.out.belowB (below_drewN (Below.refl _ _) 1)) | exact HS2.out _ (C8.out.belowB (below_new _ _)) | exact HS2.out _ ((C8.out.belowB (below_drewN (Below.refl _ _) 1)).belowB (below_new _ _)) | exact HS2.out _ C9.out | exact HS2.out _ (C9.out.setSame _))
          refine wpAnyH_take (i := 0) (oi := { dst := some 60, op := Op.fieldAddr 32 (Operand.tmp 10) 1, type := 0, pos := _, after := #[], guard := none }) (v := ?_) rfl (by kernel_rfl) (by kernel_rfl) (by kernel_rfl) (fun _ _ _ h => h) (Or.inl ⟨by rfl, ?_⟩) (by assumption) ?_
          rotate_left
          · intro w hSw; (try dsimp only at hSw); go_simp; (try with_reducible rfl)
          try simp only [Act.put, List.setIfInBounds_toArray, List.set_cons_zero, List.set_cons_succ]
          refine wpAnyH_take (i := 2) (oi := { dst := some 62, op := Op.move (Operand.tmp 9), type := 24, pos := _, after := #[], guard := none }) (v := ?_) rfl (by kernel_rfl) (by kernel_rfl) (by kernel_rfl) (fun _ _ _ h => h) (Or.inl ⟨by rfl, ?_⟩) (by assumption) ?_
          rotate_left
          · intro w hSw; (try dsimp only at hSw); go_simp; (try with_reducible rfl)
          try simp only [Act.put, List.setIfInBounds_toArray, List.set_cons_zero, List.set_cons_succ]
          refine wpAnyH_take (i := 3) (oi := { dst := some 63, op := Op.fieldAddr 26 (Operand.tmp 2) 1, type := 0, pos := _, after := #[], guard := none }) (v := ?_) rfl (by kernel_rfl) (by kernel_rfl) (by kernel_rfl) (fun _ _ _ h => h) (Or.inl ⟨by rfl, ?_⟩) (by assumption) ?_
          rotate_left
          · intro w hSw; (try dsimp only at hSw); go_simp; (try with_reducible rfl)
          try simp only [Act.put, List.setIfInBounds_toArray, List.set_cons_zero, List.set_cons_succ]
          refine wpAnyH_take (i := 4) (oi := { dst := some 64, op := Op.load 22 (Operand.tmp 63), type := 22, pos := _, after := #[{ on := 3, ground := Ground.data }], guard := none }) (v := ?_) rfl (by kernel_rfl) (by kernel_rfl) (by kernel_rfl) (fun _ _ _ h => h) (Or.inl ⟨by rfl, ?_⟩) (by assumption) ?_
          rotate_left
          · intro w hSw; (try dsimp only at hSw); go_simp; (try with_reducible rfl)
          try simp only [Act.put, List.setIfInBounds_toArray, List.set_cons_zero, List.set_cons_succ]
          refine wpAnyH_take (i := 5) (oi := { dst := some 65, op := Op.move (Operand.tmp 12), type := 3, pos := _, after := #[], guard := none }) (v := ?_) rfl (by kernel_rfl) (by kernel_rfl) (by kernel_rfl) (fun _ _ _ h => h) (Or.inl ⟨by rfl, ?_⟩) (by assumption) ?_
          rotate_left
          · intro w hSw; (try dsimp only at hSw); go_simp; (try with_reducible rfl)
          try simp only [Act.put, List.setIfInBounds_toArray, List.set_cons_zero, List.set_cons_succ]
          refine wpAnyH_take (i := 6) (oi := { dst := some 66, op := Op.indexAddr 22 (Operand.tmp 64) (Operand.tmp 65), type := 0, pos := _, after := #[{ on := 4, ground := Ground.data }, { on := 5, ground := Ground.data }], guard := none }) (v := ?_) rfl (by kernel_rfl) (by kernel_rfl) (by kernel_rfl) (fun _ _ _ h => h) (Or.inl ⟨by rfl, ?_⟩) (by assumption) ?_
          rotate_left
          · intro w hSw; (try dsimp only at hSw); go_simp; (try with_reducible rfl)
          try simp only [Act.put, List.setIfInBounds_toArray, List.set_cons_zero, List.set_cons_succ]
          refine wpAnyH_take (i := 7) (oi := { dst := some 67, op := Op.fieldAddr 62 (Operand.tmp 66) 0, type := 0, pos := _, after := #[{ on := 6, ground := Ground.data }], guard := none }) (v := ?_) rfl (by kernel_rfl) (by kernel_rfl) (by kernel_rfl) (fun _ _ _ h => h) (Or.inl ⟨by rfl, ?_⟩) (by assumption) ?_
          rotate_left
          · intro w hSw; (try dsimp only at hSw); go_simp; (try with_reducible rfl)
          try simp only [Act.put, List.setIfInBounds_toArray, List.set_cons_zero, List.set_cons_succ]
          refine wpAnyH_take (i := 8) (oi := { dst := some 68, op := Op.load 3 (Operand.tmp 67), type := 3, pos := _, after := #[{ on := 7, ground := Ground.data }], guard := none }) (v := ?_) rfl (by kernel_rfl) (by kernel_rfl) (by kernel_rfl) (fun _ _ _ h => h) (Or.inl ⟨by rfl, ?_⟩) (by assumption) ?_
          rotate_left
          · intro w hSw; (try dsimp only at hSw); go_simp; (try with_reducible rfl)
          try simp only [Act.put, List.setIfInBounds_toArray, List.set_cons_zero, List.set_cons_succ]
          refine wpAnyH_take (i := 9) (oi := { dst := some 69, op := Op.indexAddr 24 (Operand.tmp 62) (Operand.tmp 68), type := 0, pos := _, after := #[{ on := 2, ground := Ground.data }, { on := 8, ground := Ground.data }], guard := none }) (v := ?_) rfl (by kernel_rfl) (by kernel_rfl) (by kernel_rfl) (fun _ _ _ h => h) (Or.inl ⟨by rfl, ?_⟩) (by assumption) ?_
          rotate_left
          · intro w hSw; (try dsimp only at hSw); go_simp; (try with_reducible rfl)
          try simp only [Act.put, List.setIfInBounds_toArray, List.set_cons_zero, List.set_cons_succ]
          refine wpAnyH_take (i := 10) (oi := { dst := some 70, op := Op.load 3 (Operand.tmp 69), type := 3, pos := _, after := #[{ on := 9, ground := Ground.data }], guard := none }) (v := ?_) rfl (by kernel_rfl) (by kernel_rfl) (by kernel_rfl) (fun _ _ _ h => h) (Or.inl ⟨by rfl, ?_⟩) (by assumption) ?_
          rotate_left
          · intro w hSw; (try dsimp only at hSw); go_simp; (try with_reducible rfl)
          try simp only [Act.put, List.setIfInBounds_toArray, List.set_cons_zero, List.set_cons_succ]
          refine wpAnyH_take (i := 11) (oi := { dst := some 71, op := Op.fieldAddr 26 (Operand.tmp 2) 1, type := 0, pos := _, after := #[], guard := none }) (v := ?_) rfl (by kernel_rfl) (by kernel_rfl) (by kernel_rfl) (fun _ _ _ h => h) (Or.inl ⟨by rfl, ?_⟩) (by assumption) ?_
          rotate_left
          · intro w hSw; (try dsimp only at hSw); go_simp; (try with_reducible rfl)
          try simp only [Act.put, List.setIfInBounds_toArray, List.set_cons_zero, List.set_cons_succ]
          refine wpAnyH_take (i := 12) (oi := { dst := some 72, op := Op.load 22 (Operand.tmp 71), type := 22, pos := _, after := #[{ on := 11, ground := Ground.data }], guard := none }) (v := ?_) rfl (by kernel_rfl) (by kernel_rfl) (by kernel_rfl) (fun _ _ _ h => h) (Or.inl ⟨by rfl, ?_⟩) (by assumption) ?_
          rotate_left
          · intro w hSw; (try dsimp only at hSw); go_simp; (try with_reducible rfl)
          try simp only [Act.put, List.setIfInBounds_toArray, List.set_cons_zero, List.set_cons_succ]
          refine wpAnyH_take (i := 13) (oi := { dst := some 73, op := Op.move (Operand.tmp 12), type := 3, pos := _, after := #[], guard := none }) (v := ?_) rfl (by kernel_rfl) (by kernel_rfl) (by kernel_rfl) (fun _ _ _ h => h) (Or.inl ⟨by rfl, ?_⟩) (by assumption) ?_
          rotate_left
          · intro w hSw; (try dsimp only at hSw); go_simp; (try with_reducible rfl)
          try simp only [Act.put, List.setIfInBounds_toArray, List.set_cons_zero, List.set_cons_succ]
          refine wpAnyH_take (i := 14) (oi := { dst := some 74, op := Op.indexAddr 22 (Operand.tmp 72) (Operand.tmp 73), type := 0, pos := _, after := #[{ on := 12, ground := Ground.data }, { on := 13, ground := Ground.data }], guard := none }) (v := ?_) rfl (by kernel_rfl) (by kernel_rfl) (by kernel_rfl) (fun _ _ _ h => h) (Or.inl ⟨by rfl, ?_⟩) (by assumption) ?_
          rotate_left
          · intro w hSw; (try dsimp only at hSw); go_simp; (try with_reducible rfl)
          try simp only [Act.put, List.setIfInBounds_toArray, List.set_cons_zero, List.set_cons_succ]
          refine wpAnyH_take (i := 15) (oi := { dst := some 75, op := Op.fieldAddr 62 (Operand.tmp 74) 1, type := 0, pos := _, after := #[{ on := 14, ground := Ground.data }], guard := none }) (v := ?_) rfl (by kernel_rfl) (by kernel_rfl) (by kernel_rfl) (fun _ _ _ h => h) (Or.inl ⟨by rfl, ?_⟩) (by assumption) ?_
          rotate_left
          · intro w hSw; (try dsimp only at hSw); go_simp; (try with_reducible rfl)
          try simp only [Act.put, List.setIfInBounds_toArray, List.set_cons_zero, List.set_cons_succ]
          refine wpAnyH_take (i := 16) (oi := { dst := some 76, op := Op.load 4 (Operand.tmp 75), type := 4, pos := _, after := #[{ on := 15, ground := Ground.data }], guard := none }) (v := ?_) rfl (by kernel_rfl) (by kernel_rfl) (by kernel_rfl) (fun _ _ _ h => h) (Or.inl ⟨by rfl, ?_⟩) (by assumption) ?_
          rotate_left
          · intro w hSw; (try dsimp only at hSw); go_simp; (try with_reducible rfl)
          try simp only [Act.put, List.setIfInBounds_toArray, List.set_cons_zero, List.set_cons_succ]
          refine wpAnyH_take (i := 17) (oi := { dst := some 77, op := Op.build 71 #[(0, Operand.tmp 70), (1, Operand.tmp 76)], type := 71, pos := _, after := #[{ on := 10, ground := Ground.data }, { on := 16, ground := Ground.data }], guard := none }) (v := ?_) rfl (by kernel_rfl) (by kernel_rfl) (by kernel_rfl) (fun _ _ _ h => h) (Or.inl ⟨by rfl, ?_⟩) (by assumption) ?_
          rotate_left
          · intro w hSw; (try dsimp only at hSw); go_simp; (try with_reducible rfl)
          try simp only [Act.put, List.setIfInBounds_toArray, List.set_cons_zero, List.set_cons_succ]
          refine wpAnyH_ready (rs := [1, 18]) (by kernel_rfl) (by simp) ?_
          refine AllReadyH.cons (o := { dst := some 61, op := Op.load 29 (Operand.tmp 60), type := 29, pos := _, after := #[{ on := 0, ground := Ground.data }], guard := none }) rfl (fun K hK => ?_) (AllReadyH.cons (o := { dst := some 78, op := Op.buildSlice 29 1 #[(0, Operand.tmp 77)], type := 29, pos := _, after := #[{ on := 17, ground := Ground.data }], guard := none }) rfl (fun K hK => ?_) AllReadyH.nil)
          · skip
            go_simp
            refine hK.out _ _ ?_ (fun hHeld => ?_)
            · (first | exact HS2.out _ C8.out | exact HS2.out _ (C8.out.belowB (below_drewN (Below.refl _ _) 1)) | exact HS2.out _ (C8.out.belowB (below_new _ _)) | exact HS2.out _ ((C8.out.belowB (below_drewN (Below.refl _ _) 1)).belowB (below_new _ _)) | exact HS2.out _ C9.out | exact HS2.out _ (C9.out.setSame _))
            clear hK K
            try simp only [Act.put, List.setIfInBounds_toArray, List.set_cons_zero, List.set_cons_succ]
            refine wpAnyH_ready (rs := [18]) (by kernel_rfl) (by simp) ?_
            refine AllReadyH.cons (o := { dst := some 78, op := Op.buildSlice 29 1 #[(0, Operand.tmp 77)], type := 29, pos := _, after := #[{ on := 17, ground := Ground.data }], guard := none }) rfl (fun K hK => ?_) AllReadyH.nil
            go_simp
            refine hK.out _ _ ?_ (fun hHeld => ?_)
            · (first | exact HS2.out _ C8.out | exact HS2.out _ (C8.out.belowB (below_drewN (Below.refl _ _) 1)) | exact HS2.out _ (C8.out.belowB (below_new _ _)) | exact HS2.out _ ((C8.out.belowB (below_drewN (Below.refl _ _) 1)).belowB (below_new _ _)) | exact HS2.out _ C9.out | exact HS2.out _ (C9.out.setSame _))
            clear hK K
            try simp only [Act.put, List.setIfInBounds_toArray, List.set_cons_zero, List.set_cons_succ]
            refine wpAnyH_ready (rs := [19]) (by kernel_rfl) (by simp) ?_
            refine AllReadyH.cons (o := { dst := some 79, op := Op.call { callee := Callee.builtin Builtin.append, args := #[Operand.tmp 61, Operand.tmp 78], argTypes := #[29, 29] }, type := 29, pos := _, after := #[{ on := 1, ground := Ground.data }, { on := 18, ground := Ground.data }], guard := none }) rfl (fun K hK => ?_) AllReadyH.nil
            have O9 := Lib.hid ((O8.out.drew).alloc (.cells #[.int .i64 (v : Int), .bool z] 71))
            obtain ⟨A9, k9, u9, hrun9, hown9, hgr9, hat9⟩ := app_run 29 71 29 Tryz.underlying29 _ 2 16 hold_info rfl (by decide) (by decide) wm2.heap.size A y c (fc (hsL.take y)) O9.out ⟨w8.drew.heap.size, 0, none⟩ 1 [.int .i64 (v : Int), .bool z] (rd_of_blk (cs := [.int .i64 (v : Int), .bool z]) (Blk.made w8.drew 71 #[.int .i64 (v : Int), .bool z]) 2 1 rfl) (hold_one _ _) (by omega) (by have := C8.out.size; simp; omega)
            refine step_app_run (by rfl) (.tmp 61) (.tmp 78) 29 29 (by rfl) (.slice A y c) (.slice (some ⟨w8.heap.size, 0, none⟩) 1 1) (by rfl) (by rfl) hrun9 ?_
            have T9 := Lib.hid (((show Blk w8.drew _ _ _ from T8.out).alloc (.cells #[.int .i64 (v : Int), .bool z] 71)).grown hgr9 (fun e => own_other O8.out T8.out (by decide) (by rw [own_blk]; exact e.symm)))
            have C9 := Lib.hid (((C8.out.belowB (below_drewN (Below.refl _ _) 1)).belowB (below_new w8.drew (.cells #[.int .i64 (v : Int), .bool z] 71))).grownHi hgr9 (fun k hk => own_base O8.out (by rw [own_blk]; exact hk)))
            have O10 := Lib.hid (show u9.ownsRow wm2.heap.size 71 2 (.slice A9 (y + 1) k9) (y + 1) (fc (hsL.take (y + 1))) from by rw [HNX.out, fc_append]; exact hown9)
            have k18c := T9.out.cell 1
            have f18c := T9.out.free 1
            clear hown9 hgr9 hat9 hrun9
            refine hK.out _ _ ?_ (fun hHeld => ?_)
            · (first | exact HS2.out _ C8.out | exact HS2.out _ (C8.out.belowB (below_drewN (Below.refl _ _) 1)) | exact HS2.out _ (C8.out.belowB (below_new _ _)) | exact HS2.out _ ((C8.out.belowB (below_drewN (Below.refl _ _) 1)).belowB (below_new _ _)) | exact HS2.out _ C9.out | exact HS2.out _ (C9.out.setSame _))
            clear hK K
            try simp only [Act.put, List.setIfInBounds_toArray, List.set_cons_zero, List.set_cons_succ]
            refine wpAnyH_take (i := 20) (oi := { dst := some 80, op := Op.fieldAddr 32 (Operand.tmp 10) 1, type := 0, pos := _, after := #[{ on := 0, ground := Ground.phase }, { on := 1, ground := Ground.phase }, { on := 2, ground := Ground.phase }, { on := 3, ground := Ground.phase }, { on := 4, ground := Ground.phase }, { on := 5, ground := Ground.phase }, { on := 6, ground := Ground.phase }, { on := 7, ground := Ground.phase }, { on := 8, ground := Ground.phase }, { on := 9, ground := Ground.phase }, { on := 10, ground := Ground.phase }, { on := 11, ground := Ground.phase }, { on := 12, ground := Ground.phase }, { on := 13, ground := Ground.phase }, { on := 14, ground := Ground.phase }, { on := 15, ground := Ground.phase }, { on := 16, ground := Ground.phase }, { on := 17, ground := Ground.phase }, { on := 18, ground := Ground.phase }, { on := 19, ground := Ground.phase }], guard := none }) (v := ?_) rfl (by kernel_rfl) (by kernel_rfl) (by kernel_rfl) (fun _ _ _ h => h) (Or.inl ⟨by rfl, ?_⟩) (by assumption) ?_
            rotate_left
            · intro w hSw; (try dsimp only at hSw); go_simp; (try with_reducible rfl)
            try simp only [Act.put, List.setIfInBounds_toArray, List.set_cons_zero, List.set_cons_succ]
            refine wpAnyH_ready (rs := [21]) (by kernel_rfl) (by simp) ?_
            refine AllReadyH.cons (o := { dst := none, op := Op.store 29 (Operand.tmp 80) (Operand.tmp 79), type := 0, pos := _, after := #[{ on := 20, ground := Ground.data }, { on := 19, ground := Ground.data }, { on := 19, ground := Ground.chain }, { on := 0, ground := Ground.phase }, { on := 1, ground := Ground.phase }, { on := 2, ground := Ground.phase }, { on := 3, ground := Ground.phase }, { on := 4, ground := Ground.phase }, { on := 5, ground := Ground.phase }, { on := 6, ground := Ground.phase }, { on := 7, ground := Ground.phase }, { on := 8, ground := Ground.phase }, { on := 9, ground := Ground.phase }, { on := 10, ground := Ground.phase }, { on := 11, ground := Ground.phase }, { on := 12, ground := Ground.phase }, { on := 13, ground := Ground.phase }, { on := 14, ground := Ground.phase }, { on := 15, ground := Ground.phase }, { on := 16, ground := Ground.phase }, { on := 17, ground := Ground.phase }, { on := 18, ground := Ground.phase }, { on := 19, ground := Ground.phase }], guard := none }) rfl (fun K hK => ?_) AllReadyH.nil
            go_simp
            refine hK.out _ _ ?_ (fun hHeld => ?_)
            · (first | exact HS2.out _ C8.out | exact HS2.out _ (C8.out.belowB (below_drewN (Below.refl _ _) 1)) | exact HS2.out _ (C8.out.belowB (below_new _ _)) | exact HS2.out _ ((C8.out.belowB (below_drewN (Below.refl _ _) 1)).belowB (below_new _ _)) | exact HS2.out _ C9.out | exact HS2.out _ (C9.out.setSame _))
            clear hK K
            try simp only [Act.put, List.setIfInBounds_toArray, List.set_cons_zero, List.set_cons_succ]
            refine wpAnyH_done (by kernel_rfl) ?_ _
            have T10 := Lib.hid (T9.out.put 1 (.slice A9 (y + 1) k9))
            have C10 := Lib.hid (C9.out.setSame (i := 1) (.slice A9 (y + 1) k9))
            have O11 := Lib.hid ((Chg.set u9 g 1 (.slice A9 (y + 1) k9)).own O10.out (fun g' e hk => own_other O10.out T9.out (by decide) (by rw [e, hk])))
            clear k18 k18b k18c f18c
            generalize u9.setCell ⟨g, 1, none⟩ (.slice A9 (y + 1) k9) = w10 at T10 C10 O11 ⊢
            go_wp2_with fail
            go_roundw
            case rel => exact ⟨y + 1, A9, k9, by omega, by go_num, C10.out, T10.out, O11.out⟩
            case measure => simp [intOf]; omega
          · skip
            go_simp
            refine hK.out _ _ ?_ (fun hHeld => ?_)
            · (first | exact HS2.out _ C8.out | exact HS2.out _ (C8.out.belowB (below_drewN (Below.refl _ _) 1)) | exact HS2.out _ (C8.out.belowB (below_new _ _)) | exact HS2.out _ ((C8.out.belowB (below_drewN (Below.refl _ _) 1)).belowB (below_new _ _)) | exact HS2.out _ C9.out | exact HS2.out _ (C9.out.setSame _))
            clear hK K
            try simp only [Act.put, List.setIfInBounds_toArray, List.set_cons_zero, List.set_cons_succ]
            refine wpAnyH_ready (rs := [1]) (by kernel_rfl) (by simp) ?_
            refine AllReadyH.cons (o := { dst := some 61, op := Op.load 29 (Operand.tmp 60), type := 29, pos := _, after := #[{ on := 0, ground := Ground.data }], guard := none }) rfl (fun K hK => ?_) AllReadyH.nil
            go_simp
            refine hK.out _ _ ?_ (fun hHeld => ?_)
            · (first | exact HS2.out _ C8.out | exact HS2.out _ (C8.out.belowB (below_drewN (Below.refl _ _) 1)) | exact HS2.out _ (C8.out.belowB (below_new _ _)) | exact HS2.out _ ((C8.out.belowB (below_drewN (Below.refl _ _) 1)).belowB (below_new _ _)) | exact HS2.out _ C9.out | exact HS2.out _ (C9.out.setSame _))
            clear hK K
            try simp only [Act.put, List.setIfInBounds_toArray, List.set_cons_zero, List.set_cons_succ]
            refine wpAnyH_ready (rs := [19]) (by kernel_rfl) (by simp) ?_
            refine AllReadyH.cons (o := { dst := some 79, op := Op.call { callee := Callee.builtin Builtin.append, args := #[Operand.tmp 61, Operand.tmp 78], argTypes := #[29, 29] }, type := 29, pos := _, after := #[{ on := 1, ground := Ground.data }, { on := 18, ground := Ground.data }], guard := none }) rfl (fun K hK => ?_) AllReadyH.nil
            have O9 := Lib.hid ((O8.out.drew).alloc (.cells #[.int .i64 (v : Int), .bool z] 71))
            obtain ⟨A9, k9, u9, hrun9, hown9, hgr9, hat9⟩ := app_run 29 71 29 Tryz.underlying29 _ 2 16 hold_info rfl (by decide) (by decide) wm2.heap.size A y c (fc (hsL.take y)) O9.out ⟨w8.drew.heap.size, 0, none⟩ 1 [.int .i64 (v : Int), .bool z] (rd_of_blk (cs := [.int .i64 (v : Int), .bool z]) (Blk.made w8.drew 71 #[.int .i64 (v : Int), .bool z]) 2 1 rfl) (hold_one _ _) (by omega) (by have := C8.out.size; simp; omega)
            refine step_app_run (by rfl) (.tmp 61) (.tmp 78) 29 29 (by rfl) (.slice A y c) (.slice (some ⟨w8.heap.size, 0, none⟩) 1 1) (by rfl) (by rfl) hrun9 ?_
            have T9 := Lib.hid (((show Blk w8.drew _ _ _ from T8.out).alloc (.cells #[.int .i64 (v : Int), .bool z] 71)).grown hgr9 (fun e => own_other O8.out T8.out (by decide) (by rw [own_blk]; exact e.symm)))
            have C9 := Lib.hid (((C8.out.belowB (below_drewN (Below.refl _ _) 1)).belowB (below_new w8.drew (.cells #[.int .i64 (v : Int), .bool z] 71))).grownHi hgr9 (fun k hk => own_base O8.out (by rw [own_blk]; exact hk)))
            have O10 := Lib.hid (show u9.ownsRow wm2.heap.size 71 2 (.slice A9 (y + 1) k9) (y + 1) (fc (hsL.take (y + 1))) from by rw [HNX.out, fc_append]; exact hown9)
            have k18c := T9.out.cell 1
            have f18c := T9.out.free 1
            clear hown9 hgr9 hat9 hrun9
            refine hK.out _ _ ?_ (fun hHeld => ?_)
            · (first | exact HS2.out _ C8.out | exact HS2.out _ (C8.out.belowB (below_drewN (Below.refl _ _) 1)) | exact HS2.out _ (C8.out.belowB (below_new _ _)) | exact HS2.out _ ((C8.out.belowB (below_drewN (Below.refl _ _) 1)).belowB (below_new _ _)) | exact HS2.out _ C9.out | exact HS2.out _ (C9.out.setSame _))
            clear hK K
            try simp only [Act.put, List.setIfInBounds_toArray, List.set_cons_zero, List.set_cons_succ]
            refine wpAnyH_take (i := 20) (oi := { dst := some 80, op := Op.fieldAddr 32 (Operand.tmp 10) 1, type := 0, pos := _, after := #[{ on := 0, ground := Ground.phase }, { on := 1, ground := Ground.phase }, { on := 2, ground := Ground.phase }, { on := 3, ground := Ground.phase }, { on := 4, ground := Ground.phase }, { on := 5, ground := Ground.phase }, { on := 6, ground := Ground.phase }, { on := 7, ground := Ground.phase }, { on := 8, ground := Ground.phase }, { on := 9, ground := Ground.phase }, { on := 10, ground := Ground.phase }, { on := 11, ground := Ground.phase }, { on := 12, ground := Ground.phase }, { on := 13, ground := Ground.phase }, { on := 14, ground := Ground.phase }, { on := 15, ground := Ground.phase }, { on := 16, ground := Ground.phase }, { on := 17, ground := Ground.phase }, { on := 18, ground := Ground.phase }, { on := 19, ground := Ground.phase }], guard := none }) (v := ?_) rfl (by kernel_rfl) (by kernel_rfl) (by kernel_rfl) (fun _ _ _ h => h) (Or.inl ⟨by rfl, ?_⟩) (by assumption) ?_
            rotate_left
            · intro w hSw; (try dsimp only at hSw); go_simp; (try with_reducible rfl)
            try simp only [Act.put, List.setIfInBounds_toArray, List.set_cons_zero, List.set_cons_succ]
            refine wpAnyH_ready (rs := [21]) (by kernel_rfl) (by simp) ?_
            refine AllReadyH.cons (o := { dst := none, op := Op.store 29 (Operand.tmp 80) (Operand.tmp 79), type := 0, pos := _, after := #[{ on := 20, ground := Ground.data }, { on := 19, ground := Ground.data }, { on := 19, ground := Ground.chain }, { on := 0, ground := Ground.phase }, { on := 1, ground := Ground.phase }, { on := 2, ground := Ground.phase }, { on := 3, ground := Ground.phase }, { on := 4, ground := Ground.phase }, { on := 5, ground := Ground.phase }, { on := 6, ground := Ground.phase }, { on := 7, ground := Ground.phase }, { on := 8, ground := Ground.phase }, { on := 9, ground := Ground.phase }, { on := 10, ground := Ground.phase }, { on := 11, ground := Ground.phase }, { on := 12, ground := Ground.phase }, { on := 13, ground := Ground.phase }, { on := 14, ground := Ground.phase }, { on := 15, ground := Ground.phase }, { on := 16, ground := Ground.phase }, { on := 17, ground := Ground.phase }, { on := 18, ground := Ground.phase }, { on := 19, ground := Ground.phase }], guard := none }) rfl (fun K hK => ?_) AllReadyH.nil
            go_simp
            refine hK.out _ _ ?_ (fun hHeld => ?_)
            · (first | exact HS2.out _ C8.out | exact HS2.out _ (C8.out.belowB (below_drewN (Below.refl _ _) 1)) | exact HS2.out _ (C8.out.belowB (below_new _ _)) | exact HS2.out _ ((C8.out.belowB (below_drewN (Below.refl _ _) 1)).belowB (below_new _ _)) | exact HS2.out _ C9.out | exact HS2.out _ (C9.out.setSame _))
            clear hK K
            try simp only [Act.put, List.setIfInBounds_toArray, List.set_cons_zero, List.set_cons_succ]
            refine wpAnyH_done (by kernel_rfl) ?_ _
            have T10 := Lib.hid (T9.out.put 1 (.slice A9 (y + 1) k9))
            have C10 := Lib.hid (C9.out.setSame (i := 1) (.slice A9 (y + 1) k9))
            have O11 := Lib.hid ((Chg.set u9 g 1 (.slice A9 (y + 1) k9)).own O10.out (fun g' e hk => own_other O10.out T9.out (by decide) (by rw [e, hk])))
            clear k18 k18b k18c f18c
            generalize u9.setCell ⟨g, 1, none⟩ (.slice A9 (y + 1) k9) = w10 at T10 C10 O11 ⊢
            go_wp2_with fail
            go_roundw
            case rel => exact ⟨y + 1, A9, k9, by omega, by go_num, C10.out, T10.out, O11.out⟩
            case measure => simp [intOf]; omega
        obtain rfl : y = h := by omega
        have hlt : ¬ (y : Int) < (y : Int) := by omega
        have htk : hsL.take y = hsL := List.take_of_length_le (by rw [← HSL.out, List.length_map, HH.out]; exact Nat.le_refl _)
        have hhl : hsL.length = y := by rw [← HSL.out, List.length_map]; exact HH.out
        rw [htk] at O8
        have HHL := Lib.hid hhl
        obtain ⟨ouL, houL⟩ : ∃ l, G.ou.map (fun a => (M.at_ a.toNat : Int)) = l := ⟨_, rfl⟩
        have HOL := Lib.hid houL
        clear htk hhl houL
        go_wp2_with fail
        clear k1 hlt
        obtain ⟨wz, hwz⟩ : ∃ v, v = w8 := ⟨_, rfl⟩
        subst hwz
        obtain ⟨AH, hAH⟩ : ∃ v, v = A := ⟨_, rfl⟩
        obtain ⟨cH, hcH⟩ : ∃ v, v = c := ⟨_, rfl⟩
        subst hAH
        subst hcH
        go_loopw [13] (fun v13 wx => ∃ (u : Nat) (A : Option Addr) (c : Nat), u ≤ no ∧ v13 = .int .i64 (u : Int) ∧ Chg wz wx (fun k => k = g) ∧ Blk wx g 32 #[.int .i64 I, .slice AH hsL.length cH, .slice AL ls.length cL, .slice A u c] ∧ wx.ownsRow wz.heap.size 3 1 (.slice A u c) u (ints (ouL.take u))) (fun v13 _ => no - (intOf v13).toNat)
        case atStart => exact ⟨0, none, 0, by omega, rfl, Chg.refl _ _, by rw [HHL.out]; exact T8.out, by simpa [ints] using World.ownsRow_nil wz wz.heap.size 3 1⟩
        case round =>
          obtain ⟨u, A, c, hu, rfl, hch, hbx, hown⟩ := hrel
          have O7 := O8
          have T7 := T8
          have C7 := C8
          have C70 := C80
          clear O8 T8 C8 C80 X8
          obtain ⟨w8, hw8⟩ : ∃ v, v = wr := ⟨_, rfl⟩
          subst hw8
          have C8 := Lib.hid hch
          have T8 := Lib.hid hbx
          have O8 := Lib.hid hown
          have C80 := Lib.hid (show Chg wm w8 (fun k => k = g) from (C70.out.trans hch).mono' fun k hk => hk.elim id id)
          clear hch hbx hown
          have X8 := Lib.hid (HX.out w8 C80.out)
          have k3 := X8.out.cell 3
          by_cases hui : u < no
          case pos =>
            have hui' : (u : Int) < (no : Int) := by omega
            have hia : u < G.ou.length := by rw [HNOO.out]; exact hui
            obtain ⟨a, hga, ham, han⟩ := lit_nat HM.out.1 (.inl (List.getElem_mem hia))
            obtain ⟨pa, hPA, hpb, e0⟩ := HIN.out.ou.int (k := u) hia
            have hgd := HLO.out _ (List.getElem_mem hia)
            rw [HAO.out] at hPA
            subst hPA
            rw [List.getD_eq_getElem?_getD, List.getElem?_eq_getElem hia] at e0
            have hnx : ouL.take (u + 1) = ouL.take u ++ [(M.at_ a : Int)] := by
              rw [← HOL.out, List.take_succ_eq_append_getElem (by rw [List.length_map]; exact hia), List.getElem_map, han]
            have e1 : w.cell? (pa.add u) = some (.int .i64 (a : Int)) := by rw [e0, ← hga]; rfl
            rw [han] at hgd
            rw [HNN.out, HMM.out] at ham
            have hat := HGD.out a hgd
            have HAC := Lib.hid (AT5.out.cell a)
            have hac : (ints (M.rowN m)).toArray[a]? = some (.int .i64 (M.at_ a : Int)) := by
              rw [← hat]
              simp [ints, List.getD_eq_getElem?_getD, List.getElem?_eq_getElem (show a < (M.rowN m).length by rw [M.rowN_len, HMN.out, HMM.out]; exact ham)]
            have HACC := Lib.hid (HAC.out.trans hac)
            have HNX := Lib.hid hnx
            have hpb2 : (pa.add u).block < w.heap.size := by rw [add_block]; exact hpb
            have HG0 := Lib.hid ((B5.out.cell (p := pa.add u) hpb2).trans e1)
            have HPB2 := Lib.hid hpb2
            clear e0 e1 hga han hnx hgd hat hac HAC hpb2
            generalize M.at_ a = v at HNX HACC
            have ham' : (a : Int) < (m : Int) := by omega
            have HS2 := Lib.hid (show ∀ (W : World), Chg wz W (fun k => k = g) → (W.cell? ⟨w.heap.size, 3, none⟩ = some (.slice (some pa) no G.cO) ∧ W.cell? (pa.add u) = some (.int .i64 (a : Int)) ∧ W.cell? ⟨g5, a, none⟩ = some (.int .i64 (v : Int))) from fun W hW2 => by
              have hW : Chg wm W (fun k => k = g) := (C70.out.trans hW2).mono' fun k hk => hk.elim id id
              have h2 := HPB2.out
              exact ⟨(HX.out W hW).cell 3, (hW.cellAt (p := pa.add u) (by have := B5.out.size; omega) (by omega)).trans HG0.out, (hW.cellAt (p := ⟨g5, a, none⟩) (by show g5 < _; omega) (by show g5 ≠ _; omega)).trans HACC.out⟩)
            have k18 := T8.out.cell 3
            have k18b : ∀ o, (w8.alloc o).cell? ⟨g, 3, none⟩ = some (.slice A u c) := fun o => (T8.out.alloc o).cell 3
            have hsz8 := C8.out.size
            go_upto_region 19 with (fail)
            clear k3
            refine wp_region_held_drew (S := (fun w' => w'.cell? ⟨w.heap.size, 3, none⟩ = some (.slice (some pa) no G.cO) ∧ w'.cell? (pa.add u) = some (.int .i64 (a : Int)) ∧ w'.cell? ⟨g5, a, none⟩ = some (.int .i64 (v : Int)))) (by kernel_rfl) ?_ (fun hHeld => ?_)
            · (first | exact HS2.out _ C8.out | exact HS2.out _ (C8.out.belowB (below_drewN (Below.refl _ _) 1)) | exact HS2.out _ (C8.out.belowB (below_new _ _)) | exact HS2.out _ ((C8.out.belowB (below_drewN (Below.refl _ _) 1)).belowB (below_new _ _)) | exact HS2.out _ C9.out | exact HS2.out _ (C9.out.setSame _))
            refine wpAnyH_take (i := 0) (oi := { dst := some 88, op := Op.fieldAddr 32 (Operand.tmp 10) 3, type := 0, pos := _, after := #[], guard := none }) (v := ?_) rfl (by kernel_rfl) (by kernel_rfl) (by kernel_rfl) (fun _ _ _ h => h) (Or.inl ⟨by rfl, ?_⟩) (by assumption) ?_
            rotate_left
            · intro w hSw; (try dsimp only at hSw); go_simp; (try with_reducible rfl)
            try simp only [Act.put, List.setIfInBounds_toArray, List.set_cons_zero, List.set_cons_succ]
            refine wpAnyH_take (i := 2) (oi := { dst := some 90, op := Op.move (Operand.tmp 9), type := 24, pos := _, after := #[], guard := none }) (v := ?_) rfl (by kernel_rfl) (by kernel_rfl) (by kernel_rfl) (fun _ _ _ h => h) (Or.inl ⟨by rfl, ?_⟩) (by assumption) ?_
            rotate_left
            · intro w hSw; (try dsimp only at hSw); go_simp; (try with_reducible rfl)
            try simp only [Act.put, List.setIfInBounds_toArray, List.set_cons_zero, List.set_cons_succ]
            refine wpAnyH_take (i := 3) (oi := { dst := some 91, op := Op.fieldAddr 26 (Operand.tmp 2) 3, type := 0, pos := _, after := #[], guard := none }) (v := ?_) rfl (by kernel_rfl) (by kernel_rfl) (by kernel_rfl) (fun _ _ _ h => h) (Or.inl ⟨by rfl, ?_⟩) (by assumption) ?_
            rotate_left
            · intro w hSw; (try dsimp only at hSw); go_simp; (try with_reducible rfl)
            try simp only [Act.put, List.setIfInBounds_toArray, List.set_cons_zero, List.set_cons_succ]
            refine wpAnyH_take (i := 4) (oi := { dst := some 92, op := Op.load 24 (Operand.tmp 91), type := 24, pos := _, after := #[{ on := 3, ground := Ground.data }], guard := none }) (v := ?_) rfl (by kernel_rfl) (by kernel_rfl) (by kernel_rfl) (fun _ _ _ h => h) (Or.inl ⟨by rfl, ?_⟩) (by assumption) ?_
            rotate_left
            · intro w hSw; (try dsimp only at hSw); go_simp; (try with_reducible rfl)
            try simp only [Act.put, List.setIfInBounds_toArray, List.set_cons_zero, List.set_cons_succ]
            refine wpAnyH_take (i := 5) (oi := { dst := some 93, op := Op.move (Operand.tmp 13), type := 3, pos := _, after := #[], guard := none }) (v := ?_) rfl (by kernel_rfl) (by kernel_rfl) (by kernel_rfl) (fun _ _ _ h => h) (Or.inl ⟨by rfl, ?_⟩) (by assumption) ?_
            rotate_left
            · intro w hSw; (try dsimp only at hSw); go_simp; (try with_reducible rfl)
            try simp only [Act.put, List.setIfInBounds_toArray, List.set_cons_zero, List.set_cons_succ]
            refine wpAnyH_take (i := 6) (oi := { dst := some 94, op := Op.indexAddr 24 (Operand.tmp 92) (Operand.tmp 93), type := 0, pos := _, after := #[{ on := 4, ground := Ground.data }, { on := 5, ground := Ground.data }], guard := none }) (v := ?_) rfl (by kernel_rfl) (by kernel_rfl) (by kernel_rfl) (fun _ _ _ h => h) (Or.inl ⟨by rfl, ?_⟩) (by assumption) ?_
            rotate_left
            · intro w hSw; (try dsimp only at hSw); go_simp; (try with_reducible rfl)
            try simp only [Act.put, List.setIfInBounds_toArray, List.set_cons_zero, List.set_cons_succ]
            refine wpAnyH_take (i := 7) (oi := { dst := some 95, op := Op.load 3 (Operand.tmp 94), type := 3, pos := _, after := #[{ on := 6, ground := Ground.data }], guard := none }) (v := ?_) rfl (by kernel_rfl) (by kernel_rfl) (by kernel_rfl) (fun _ _ _ h => h) (Or.inl ⟨by rfl, ?_⟩) (by assumption) ?_
            rotate_left
            · intro w hSw; (try dsimp only at hSw); go_simp; (try with_reducible rfl)
            try simp only [Act.put, List.setIfInBounds_toArray, List.set_cons_zero, List.set_cons_succ]
            refine wpAnyH_take (i := 8) (oi := { dst := some 96, op := Op.indexAddr 24 (Operand.tmp 90) (Operand.tmp 95), type := 0, pos := _, after := #[{ on := 2, ground := Ground.data }, { on := 7, ground := Ground.data }], guard := none }) (v := ?_) rfl (by kernel_rfl) (by kernel_rfl) (by kernel_rfl) (fun _ _ _ h => h) (Or.inl ⟨by rfl, ?_⟩) (by assumption) ?_
            rotate_left
            · intro w hSw; (try dsimp only at hSw); go_simp; (try with_reducible rfl)
            try simp only [Act.put, List.setIfInBounds_toArray, List.set_cons_zero, List.set_cons_succ]
            refine wpAnyH_take (i := 9) (oi := { dst := some 97, op := Op.load 3 (Operand.tmp 96), type := 3, pos := _, after := #[{ on := 8, ground := Ground.data }], guard := none }) (v := ?_) rfl (by kernel_rfl) (by kernel_rfl) (by kernel_rfl) (fun _ _ _ h => h) (Or.inl ⟨by rfl, ?_⟩) (by assumption) ?_
            rotate_left
            · intro w hSw; (try dsimp only at hSw); go_simp; (try with_reducible rfl)
            try simp only [Act.put, List.setIfInBounds_toArray, List.set_cons_zero, List.set_cons_succ]
            refine wpAnyH_ready (rs := [1, 10]) (by kernel_rfl) (by simp) ?_
            refine AllReadyH.cons (o := { dst := some 89, op := Op.load 24 (Operand.tmp 88), type := 24, pos := _, after := #[{ on := 0, ground := Ground.data }], guard := none }) rfl (fun K hK => ?_) (AllReadyH.cons (o := { dst := some 98, op := Op.buildSlice 24 1 #[(0, Operand.tmp 97)], type := 24, pos := _, after := #[{ on := 9, ground := Ground.data }], guard := none }) rfl (fun K hK => ?_) AllReadyH.nil)
            · skip
              go_simp
              refine hK.out _ _ ?_ (fun hHeld => ?_)
              · (first | exact HS2.out _ C8.out | exact HS2.out _ (C8.out.belowB (below_drewN (Below.refl _ _) 1)) | exact HS2.out _ (C8.out.belowB (below_new _ _)) | exact HS2.out _ ((C8.out.belowB (below_drewN (Below.refl _ _) 1)).belowB (below_new _ _)) | exact HS2.out _ C9.out | exact HS2.out _ (C9.out.setSame _))
              clear hK K
              try simp only [Act.put, List.setIfInBounds_toArray, List.set_cons_zero, List.set_cons_succ]
              refine wpAnyH_ready (rs := [10]) (by kernel_rfl) (by simp) ?_
              refine AllReadyH.cons (o := { dst := some 98, op := Op.buildSlice 24 1 #[(0, Operand.tmp 97)], type := 24, pos := _, after := #[{ on := 9, ground := Ground.data }], guard := none }) rfl (fun K hK => ?_) AllReadyH.nil
              go_simp
              refine hK.out _ _ ?_ (fun hHeld => ?_)
              · (first | exact HS2.out _ C8.out | exact HS2.out _ (C8.out.belowB (below_drewN (Below.refl _ _) 1)) | exact HS2.out _ (C8.out.belowB (below_new _ _)) | exact HS2.out _ ((C8.out.belowB (below_drewN (Below.refl _ _) 1)).belowB (below_new _ _)) | exact HS2.out _ C9.out | exact HS2.out _ (C9.out.setSame _))
              clear hK K
              try simp only [Act.put, List.setIfInBounds_toArray, List.set_cons_zero, List.set_cons_succ]
              refine wpAnyH_ready (rs := [11]) (by kernel_rfl) (by simp) ?_
              refine AllReadyH.cons (o := { dst := some 99, op := Op.call { callee := Callee.builtin Builtin.append, args := #[Operand.tmp 89, Operand.tmp 98], argTypes := #[24, 24] }, type := 24, pos := _, after := #[{ on := 1, ground := Ground.data }, { on := 10, ground := Ground.data }], guard := none }) rfl (fun K hK => ?_) AllReadyH.nil
              have O9 := Lib.hid ((O8.out.drew).alloc (.cells #[.int .i64 (v : Int)] 3))
              obtain ⟨A9, k9, u9, hrun9, hown9, hgr9, hat9⟩ := app_run 24 3 24 Tryz.underlying24 _ 1 8 int_infoA rfl (by decide) (by decide) wz.heap.size A u c (ints (ouL.take u)) O9.out ⟨w8.drew.heap.size, 0, none⟩ 1 [.int .i64 (v : Int)] (rd_of_blk (cs := [.int .i64 (v : Int)]) (Blk.made w8.drew 3 #[.int .i64 (v : Int)]) 1 1 rfl) (fun u hu => by rw [List.mem_singleton] at hu; subst hu; rfl) (by omega) (by have := C8.out.size; simp; omega)
              refine step_app_run (by rfl) (.tmp 89) (.tmp 98) 24 24 (by rfl) (.slice A u c) (.slice (some ⟨w8.heap.size, 0, none⟩) 1 1) (by rfl) (by rfl) hrun9 ?_
              have T9 := Lib.hid (((show Blk w8.drew _ _ _ from T8.out).alloc (.cells #[.int .i64 (v : Int)] 3)).grown hgr9 (fun e => own_other O8.out T8.out (by decide) (by rw [own_blk]; exact e.symm)))
              have C9 := Lib.hid (((C8.out.belowB (below_drewN (Below.refl _ _) 1)).belowB (below_new w8.drew (.cells #[.int .i64 (v : Int)] 3))).grownHi hgr9 (fun k hk => own_base O8.out (by rw [own_blk]; exact hk)))
              have O10 := Lib.hid (show u9.ownsRow wz.heap.size 3 1 (.slice A9 (u + 1) k9) (u + 1) (ints (ouL.take (u + 1))) from by rw [HNX.out, ints_append]; exact hown9)
              have k18c := T9.out.cell 3
              have f18c := T9.out.free 3
              clear hown9 hgr9 hat9 hrun9
              refine hK.out _ _ ?_ (fun hHeld => ?_)
              · (first | exact HS2.out _ C8.out | exact HS2.out _ (C8.out.belowB (below_drewN (Below.refl _ _) 1)) | exact HS2.out _ (C8.out.belowB (below_new _ _)) | exact HS2.out _ ((C8.out.belowB (below_drewN (Below.refl _ _) 1)).belowB (below_new _ _)) | exact HS2.out _ C9.out | exact HS2.out _ (C9.out.setSame _))
              clear hK K
              try simp only [Act.put, List.setIfInBounds_toArray, List.set_cons_zero, List.set_cons_succ]
              refine wpAnyH_take (i := 12) (oi := { dst := some 100, op := Op.fieldAddr 32 (Operand.tmp 10) 3, type := 0, pos := _, after := #[{ on := 0, ground := Ground.phase }, { on := 1, ground := Ground.phase }, { on := 2, ground := Ground.phase }, { on := 3, ground := Ground.phase }, { on := 4, ground := Ground.phase }, { on := 5, ground := Ground.phase }, { on := 6, ground := Ground.phase }, { on := 7, ground := Ground.phase }, { on := 8, ground := Ground.phase }, { on := 9, ground := Ground.phase }, { on := 10, ground := Ground.phase }, { on := 11, ground := Ground.phase }], guard := none }) (v := ?_) rfl (by kernel_rfl) (by kernel_rfl) (by kernel_rfl) (fun _ _ _ h => h) (Or.inl ⟨by rfl, ?_⟩) (by assumption) ?_
              rotate_left
              · intro w hSw; (try dsimp only at hSw); go_simp; (try with_reducible rfl)
              try simp only [Act.put, List.setIfInBounds_toArray, List.set_cons_zero, List.set_cons_succ]
              refine wpAnyH_ready (rs := [13]) (by kernel_rfl) (by simp) ?_
              refine AllReadyH.cons (o := { dst := none, op := Op.store 24 (Operand.tmp 100) (Operand.tmp 99), type := 0, pos := _, after := #[{ on := 12, ground := Ground.data }, { on := 11, ground := Ground.data }, { on := 11, ground := Ground.chain }, { on := 0, ground := Ground.phase }, { on := 1, ground := Ground.phase }, { on := 2, ground := Ground.phase }, { on := 3, ground := Ground.phase }, { on := 4, ground := Ground.phase }, { on := 5, ground := Ground.phase }, { on := 6, ground := Ground.phase }, { on := 7, ground := Ground.phase }, { on := 8, ground := Ground.phase }, { on := 9, ground := Ground.phase }, { on := 10, ground := Ground.phase }, { on := 11, ground := Ground.phase }], guard := none }) rfl (fun K hK => ?_) AllReadyH.nil
              go_simp
              refine hK.out _ _ ?_ (fun hHeld => ?_)
              · (first | exact HS2.out _ C8.out | exact HS2.out _ (C8.out.belowB (below_drewN (Below.refl _ _) 1)) | exact HS2.out _ (C8.out.belowB (below_new _ _)) | exact HS2.out _ ((C8.out.belowB (below_drewN (Below.refl _ _) 1)).belowB (below_new _ _)) | exact HS2.out _ C9.out | exact HS2.out _ (C9.out.setSame _))
              clear hK K
              try simp only [Act.put, List.setIfInBounds_toArray, List.set_cons_zero, List.set_cons_succ]
              refine wpAnyH_done (by kernel_rfl) ?_ _
              have T10 := Lib.hid (T9.out.put 3 (.slice A9 (u + 1) k9))
              have C10 := Lib.hid (C9.out.setSame (i := 3) (.slice A9 (u + 1) k9))
              have O11 := Lib.hid ((Chg.set u9 g 3 (.slice A9 (u + 1) k9)).own O10.out (fun g' e hk => own_other O10.out T9.out (by decide) (by rw [e, hk])))
              clear k18 k18b k18c f18c
              generalize u9.setCell ⟨g, 3, none⟩ (.slice A9 (u + 1) k9) = w10 at T10 C10 O11 ⊢
              go_wp2_with fail
              go_roundw
              case rel => exact ⟨u + 1, A9, k9, by omega, by go_num, C10.out, T10.out, O11.out⟩
              case measure => simp [intOf]; omega
            · skip
              go_simp
              refine hK.out _ _ ?_ (fun hHeld => ?_)
              · (first | exact HS2.out _ C8.out | exact HS2.out _ (C8.out.belowB (below_drewN (Below.refl _ _) 1)) | exact HS2.out _ (C8.out.belowB (below_new _ _)) | exact HS2.out _ ((C8.out.belowB (below_drewN (Below.refl _ _) 1)).belowB (below_new _ _)) | exact HS2.out _ C9.out | exact HS2.out _ (C9.out.setSame _))
              clear hK K
              try simp only [Act.put, List.setIfInBounds_toArray, List.set_cons_zero, List.set_cons_succ]
              refine wpAnyH_ready (rs := [1]) (by kernel_rfl) (by simp) ?_
              refine AllReadyH.cons (o := { dst := some 89, op := Op.load 24 (Operand.tmp 88), type := 24, pos := _, after := #[{ on := 0, ground := Ground.data }], guard := none }) rfl (fun K hK => ?_) AllReadyH.nil
              go_simp
              refine hK.out _ _ ?_ (fun hHeld => ?_)
              · (first | exact HS2.out _ C8.out | exact HS2.out _ (C8.out.belowB (below_drewN (Below.refl _ _) 1)) | exact HS2.out _ (C8.out.belowB (below_new _ _)) | exact HS2.out _ ((C8.out.belowB (below_drewN (Below.refl _ _) 1)).belowB (below_new _ _)) | exact HS2.out _ C9.out | exact HS2.out _ (C9.out.setSame _))
              clear hK K
              try simp only [Act.put, List.setIfInBounds_toArray, List.set_cons_zero, List.set_cons_succ]
              refine wpAnyH_ready (rs := [11]) (by kernel_rfl) (by simp) ?_
              refine AllReadyH.cons (o := { dst := some 99, op := Op.call { callee := Callee.builtin Builtin.append, args := #[Operand.tmp 89, Operand.tmp 98], argTypes := #[24, 24] }, type := 24, pos := _, after := #[{ on := 1, ground := Ground.data }, { on := 10, ground := Ground.data }], guard := none }) rfl (fun K hK => ?_) AllReadyH.nil
              have O9 := Lib.hid ((O8.out.drew).alloc (.cells #[.int .i64 (v : Int)] 3))
              obtain ⟨A9, k9, u9, hrun9, hown9, hgr9, hat9⟩ := app_run 24 3 24 Tryz.underlying24 _ 1 8 int_infoA rfl (by decide) (by decide) wz.heap.size A u c (ints (ouL.take u)) O9.out ⟨w8.drew.heap.size, 0, none⟩ 1 [.int .i64 (v : Int)] (rd_of_blk (cs := [.int .i64 (v : Int)]) (Blk.made w8.drew 3 #[.int .i64 (v : Int)]) 1 1 rfl) (fun u hu => by rw [List.mem_singleton] at hu; subst hu; rfl) (by omega) (by have := C8.out.size; simp; omega)
              refine step_app_run (by rfl) (.tmp 89) (.tmp 98) 24 24 (by rfl) (.slice A u c) (.slice (some ⟨w8.heap.size, 0, none⟩) 1 1) (by rfl) (by rfl) hrun9 ?_
              have T9 := Lib.hid (((show Blk w8.drew _ _ _ from T8.out).alloc (.cells #[.int .i64 (v : Int)] 3)).grown hgr9 (fun e => own_other O8.out T8.out (by decide) (by rw [own_blk]; exact e.symm)))
              have C9 := Lib.hid (((C8.out.belowB (below_drewN (Below.refl _ _) 1)).belowB (below_new w8.drew (.cells #[.int .i64 (v : Int)] 3))).grownHi hgr9 (fun k hk => own_base O8.out (by rw [own_blk]; exact hk)))
              have O10 := Lib.hid (show u9.ownsRow wz.heap.size 3 1 (.slice A9 (u + 1) k9) (u + 1) (ints (ouL.take (u + 1))) from by rw [HNX.out, ints_append]; exact hown9)
              have k18c := T9.out.cell 3
              have f18c := T9.out.free 3
              clear hown9 hgr9 hat9 hrun9
              refine hK.out _ _ ?_ (fun hHeld => ?_)
              · (first | exact HS2.out _ C8.out | exact HS2.out _ (C8.out.belowB (below_drewN (Below.refl _ _) 1)) | exact HS2.out _ (C8.out.belowB (below_new _ _)) | exact HS2.out _ ((C8.out.belowB (below_drewN (Below.refl _ _) 1)).belowB (below_new _ _)) | exact HS2.out _ C9.out | exact HS2.out _ (C9.out.setSame _))
              clear hK K
              try simp only [Act.put, List.setIfInBounds_toArray, List.set_cons_zero, List.set_cons_succ]
              refine wpAnyH_take (i := 12) (oi := { dst := some 100, op := Op.fieldAddr 32 (Operand.tmp 10) 3, type := 0, pos := _, after := #[{ on := 0, ground := Ground.phase }, { on := 1, ground := Ground.phase }, { on := 2, ground := Ground.phase }, { on := 3, ground := Ground.phase }, { on := 4, ground := Ground.phase }, { on := 5, ground := Ground.phase }, { on := 6, ground := Ground.phase }, { on := 7, ground := Ground.phase }, { on := 8, ground := Ground.phase }, { on := 9, ground := Ground.phase }, { on := 10, ground := Ground.phase }, { on := 11, ground := Ground.phase }], guard := none }) (v := ?_) rfl (by kernel_rfl) (by kernel_rfl) (by kernel_rfl) (fun _ _ _ h => h) (Or.inl ⟨by rfl, ?_⟩) (by assumption) ?_
              rotate_left
              · intro w hSw; (try dsimp only at hSw); go_simp; (try with_reducible rfl)
              try simp only [Act.put, List.setIfInBounds_toArray, List.set_cons_zero, List.set_cons_succ]
              refine wpAnyH_ready (rs := [13]) (by kernel_rfl) (by simp) ?_
              refine AllReadyH.cons (o := { dst := none, op := Op.store 24 (Operand.tmp 100) (Operand.tmp 99), type := 0, pos := _, after := #[{ on := 12, ground := Ground.data }, { on := 11, ground := Ground.data }, { on := 11, ground := Ground.chain }, { on := 0, ground := Ground.phase }, { on := 1, ground := Ground.phase }, { on := 2, ground := Ground.phase }, { on := 3, ground := Ground.phase }, { on := 4, ground := Ground.phase }, { on := 5, ground := Ground.phase }, { on := 6, ground := Ground.phase }, { on := 7, ground := Ground.phase }, { on := 8, ground := Ground.phase }, { on := 9, ground := Ground.phase }, { on := 10, ground := Ground.phase }, { on := 11, ground := Ground.phase }], guard := none }) rfl (fun K hK => ?_) AllReadyH.nil
              go_simp
              refine hK.out _ _ ?_ (fun hHeld => ?_)
              · (first | exact HS2.out _ C8.out | exact HS2.out _ (C8.out.belowB (below_drewN (Below.refl _ _) 1)) | exact HS2.out _ (C8.out.belowB (below_new _ _)) | exact HS2.out _ ((C8.out.belowB (below_drewN (Below.refl _ _) 1)).belowB (below_new _ _)) | exact HS2.out _ C9.out | exact HS2.out _ (C9.out.setSame _))
              clear hK K
              try simp only [Act.put, List.setIfInBounds_toArray, List.set_cons_zero, List.set_cons_succ]
              refine wpAnyH_done (by kernel_rfl) ?_ _
              have T10 := Lib.hid (T9.out.put 3 (.slice A9 (u + 1) k9))
              have C10 := Lib.hid (C9.out.setSame (i := 3) (.slice A9 (u + 1) k9))
              have O11 := Lib.hid ((Chg.set u9 g 3 (.slice A9 (u + 1) k9)).own O10.out (fun g' e hk => own_other O10.out T9.out (by decide) (by rw [e, hk])))
              clear k18 k18b k18c f18c
              generalize u9.setCell ⟨g, 3, none⟩ (.slice A9 (u + 1) k9) = w10 at T10 C10 O11 ⊢
              go_wp2_with fail
              go_roundw
              case rel => exact ⟨u + 1, A9, k9, by omega, by go_num, C10.out, T10.out, O11.out⟩
              case measure => simp [intOf]; omega
          obtain rfl : u = no := by omega
          have hlt : ¬ (u : Int) < (u : Int) := by omega
          have htk : ouL.take u = ouL := List.take_of_length_le (by rw [← HOL.out, List.length_map, HNOO.out]; exact Nat.le_refl _)
          have hol : ouL.length = u := by rw [← HOL.out, List.length_map]; exact HNOO.out
          rw [htk] at O8
          have HOU := Lib.hid hol
          have BR := Lib.hid (show Blk w8 (w.heap.size + 1) 32 #[.int .i64 0, .slice none 0 0, .slice none 0 0, .slice none 0 0] from C80.out.blk R5.out (by omega))
          have C72 := Lib.hid (show Chg wm2 w8 (fun k => k = g) from (C7.out.trans C8.out).mono' fun k hk => hk.elim id id)
          have OH := Lib.hid (C8.out.own O7.out (fun g' e hk => own_other O7.out T7.out (by decide) (by rw [e, hk])))
          have OL := Lib.hid (C72.out.own P8.out.row (fun g' e hk => own_other P8.out.row P8.out.box (by decide) (by rw [e, hk])))
          have OI := Lib.hid (show ∀ c ∈ ls, OwnL wm.heap.size w8 c.1 from fun c hc => C72.out.own (P8.out.all c hc) (fun g' e hk => own_other (P8.out.all c hc) P8.out.box (by decide) (by rw [e, hk])))
          have BX8 := Lib.hid (show Below w.heap.size w w8 from C80.out.below B5.out B5.out.size (fun k hk => by omega))
          have q0 := T8.out.cell 0
          have q1 := T8.out.cell 1
          have q2 := T8.out.cell 2
          have q3 := T8.out.cell 3
          have r0 := BR.out.cell 0
          have r1 := BR.out.cell 1
          have r2 := BR.out.cell 2
          have r3 := BR.out.cell 3
          have f0 := BR.out.free 0
          have f1 := BR.out.free 1
          have f2 := BR.out.free 2
          have f3 := BR.out.free 3
          clear htk hol
          go_wp2_with fail
          refine bodyPost_ret (results_net rfl _ _ (w.heap.size + 1) _ _ _ _ rfl (set4n BR.out _ _ _ _)) rfl ?_
          have hS := Chg.sets w8 (w.heap.size + 1) (.int .i64 I) (.slice AH hsL.length cH) (.slice AL ls.length cL) (.slice A u c)
          have hB := hS.below BX8.out BX8.out.size (fun k hk => by rw [hk]; exact Nat.le_succ _)
          generalize (((w8.setCell ⟨w.heap.size + 1, 0, none⟩ (.int .i64 I)).setCell ⟨w.heap.size + 1, 1, none⟩ (.slice AH hsL.length cH)).setCell ⟨w.heap.size + 1, 2, none⟩ (.slice AL ls.length cL)).setCell ⟨w.heap.size + 1, 3, none⟩ (.slice A u c) = wf at hS hB ⊢
          have hsn := C70.out.size
          have hso := C7.out.size
          have hsq := P8.out.chg.size
          refine ⟨⟨I, AH, cH, hsL, AL, cL, ls, A, c, ouL⟩, by rw [HOU.out]; rfl, hB, ⟨?_, ⟨?_, fun l hl => ?_⟩, ?_⟩, ?_, ?_, ?_, ?_⟩
          · have h := hS.own OH.out (fun g' e hk => by have := own_base OH.out e; omega)
            rw [← HHL.out] at h
            exact Rd.of_own h
          · exact Rd.of_own (hS.own OL.out (fun g' e hk => by have := own_base OL.out e; omega))
          · exact Rd.of_own (hS.own (OI.out l hl) (fun g' e hk => by have := own_base (OI.out l hl) e; omega))
          · have h := hS.own O8.out (fun g' e hk => by have := own_base O8.out e; omega)
            rw [← HOU.out] at h
            exact Rd.of_own h
          · exact HI.out.symm
          · show hsL = _
            rw [HMP.out, HSL.out]
          · show pcs ls = (G.mp k).luts
            rw [P8.out.pcs, HMP.out, MP.luts, MP.lits, HMN.out, HMM.out]
          · show ouL = _
            rw [HMP.out, HOL.out]
    have hnm' : (n : Int) < (m : Int) := by omega
    have d0 := BitsB.at_ (P8.out.chg.blk N5.out (by omega)) (a := n) (by rw [HNL.out]; exact hnm)
    obtain ⟨b, hb⟩ : ∃ b, M.nd.getD n false = b := ⟨_, rfl⟩
    rw [hb] at d0
    have HB := Lib.hid hb
    clear hb
    cases b with
    | false =>
      go_wp2_with fail
      go_roundw
      case rel => exact ⟨n + 1, AL, cL, ls, by omega, by go_num, { P8.out with pcs := by rw [litsTo_no HB.out]; exact P8.out.pcs }⟩
      case measure => simp [intOf]; omega
    | true =>
      have C8 := Lib.hid P8.out.chg
      have HLU := Lib.hid (fun (W : World) (hW : Below w8.heap.size w8 W) => HLT.out W A0 (some ⟨g5, 0, none⟩) c0 m n rs (RS4.out.later (HBW.out W (P8.out.chg.belowB hW))) HPL.out (rd_of_blk (cs := ints (M.rowN m)) ((P8.out.chg.blk AT5.out (by omega)).keep hW) 1 m HRL.out) HB.out)
      obtain ⟨ins, T, hlut⟩ : ∃ ins T, M.lut n = (ins, T) := ⟨_, _, rfl⟩
      rw [hlut] at HLU
      simp only at HLU
      have HL := Lib.hid hlut
      obtain ⟨ql, hql⟩ : ∃ q, ins.length = q := ⟨_, rfl⟩
      have HQL := Lib.hid hql
      unfold RLutOut at HLU
      rw [hql, HRN.out] at HLU
      have hln := P8.out.len
      have hle := litsTo_le M.nd n
      obtain ⟨nl, hnl⟩ : ∃ q, ls.length = q := ⟨_, rfl⟩
      have HNL2 := Lib.hid hnl
      have hnl3 : nl ≤ 10000 := by omega
      have k18 := P8.out.box.cell 2
      have k18b : ∀ o, (w8.alloc o).cell? ⟨g, 2, none⟩ = some (.slice AL nl cL) := fun o => by rw [(P8.out.box.alloc o).cell 2, hnl]; rfl
      rw [hnl] at k18
      clear hlut hql hln hle hnl
      go_upto_region 11 with (fail)
      clear d0
      refine wp_region_held_drew (S := (fun w' => w'.cell? ⟨w.heap.size, 0, none⟩ = some (.int .i64 I) ∧ w'.cell? ⟨w.heap.size, 1, none⟩ = some (.slice AF h G.cF) ∧ w'.cell? ⟨w.heap.size, 2, none⟩ = some (.slice G.AA G.an.length G.cA) ∧ w'.cell? ⟨w.heap.size, 3, none⟩ = some (.slice AO no G.cO))) (by kernel_rfl) ?_ (fun hHeld => ?_)
      · (first | exact HS.out _ C8.out | exact HS.out _ (C8.out.belowB (below_drewN (Below.refl _ _) 1)) | exact HS.out _ C9.out | exact HS.out _ (C9.out.belowB (below_new _ _)) | exact HS.out _ C10.out | exact HS.out _ (C10.out.setSame _))
      refine wpAnyH_take (i := 0) (oi := { dst := some 43, op := Op.fieldAddr 32 (Operand.tmp 10) 2, type := 0, pos := _, after := #[], guard := none }) (v := ?_) rfl (by kernel_rfl) (by kernel_rfl) (by kernel_rfl) (fun _ _ _ h => h) (Or.inl ⟨by rfl, ?_⟩) (by assumption) ?_
      rotate_left
      · intro w hSw; (try dsimp only at hSw); go_simp; (try with_reducible rfl)
      try simp only [Act.put, List.setIfInBounds_toArray, List.set_cons_zero, List.set_cons_succ]
      refine wpAnyH_take (i := 2) (oi := { dst := some 45, op := Op.load 26 (Operand.tmp 2), type := 26, pos := _, after := #[], guard := none }) (v := ?_) rfl (by kernel_rfl) (by kernel_rfl) (by kernel_rfl) (fun _ _ _ h => h) (Or.inl ⟨by rfl, ?_⟩) (by assumption) ?_
      rotate_left
      · intro w hSw; (try dsimp only at hSw); go_simp; (try with_reducible rfl)
      try simp only [Act.put, List.setIfInBounds_toArray, List.set_cons_zero, List.set_cons_succ]
      refine wpAnyH_take (i := 3) (oi := { dst := some 46, op := Op.move (Operand.tmp 6), type := 56, pos := _, after := #[], guard := none }) (v := ?_) rfl (by kernel_rfl) (by kernel_rfl) (by kernel_rfl) (fun _ _ _ h => h) (Or.inl ⟨by rfl, ?_⟩) (by assumption) ?_
      rotate_left
      · intro w hSw; (try dsimp only at hSw); go_simp; (try with_reducible rfl)
      try simp only [Act.put, List.setIfInBounds_toArray, List.set_cons_zero, List.set_cons_succ]
      refine wpAnyH_take (i := 4) (oi := { dst := some 47, op := Op.move (Operand.tmp 9), type := 24, pos := _, after := #[], guard := none }) (v := ?_) rfl (by kernel_rfl) (by kernel_rfl) (by kernel_rfl) (fun _ _ _ h => h) (Or.inl ⟨by rfl, ?_⟩) (by assumption) ?_
      rotate_left
      · intro w hSw; (try dsimp only at hSw); go_simp; (try with_reducible rfl)
      try simp only [Act.put, List.setIfInBounds_toArray, List.set_cons_zero, List.set_cons_succ]
      refine wpAnyH_take (i := 5) (oi := { dst := some 48, op := Op.move (Operand.tmp 11), type := 3, pos := _, after := #[], guard := none }) (v := ?_) rfl (by kernel_rfl) (by kernel_rfl) (by kernel_rfl) (fun _ _ _ h => h) (Or.inl ⟨by rfl, ?_⟩) (by assumption) ?_
      rotate_left
      · intro w hSw; (try dsimp only at hSw); go_simp; (try with_reducible rfl)
      try simp only [Act.put, List.setIfInBounds_toArray, List.set_cons_zero, List.set_cons_succ]
      refine wpAnyH_ready (rs := [1, 6]) (by kernel_rfl) (by simp) ?_
      refine AllReadyH.cons (o := { dst := some 44, op := Op.load 30 (Operand.tmp 43), type := 30, pos := _, after := #[{ on := 0, ground := Ground.data }], guard := none }) rfl (fun K hK => ?_) (AllReadyH.cons (o := { dst := some 49, op := Op.call { callee := Callee.value (Operand.func 24), args := #[Operand.tmp 45, Operand.tmp 46, Operand.tmp 47, Operand.tmp 48], argTypes := #[26, 56, 24, 3] }, type := 41, pos := _, after := #[{ on := 2, ground := Ground.data }, { on := 3, ground := Ground.data }, { on := 4, ground := Ground.data }, { on := 5, ground := Ground.data }], guard := none }) rfl (fun K hK => ?_) AllReadyH.nil)
      · skip
        go_simp
        refine hK.out _ _ ?_ (fun hHeld => ?_)
        · (first | exact HS.out _ C8.out | exact HS.out _ (C8.out.belowB (below_drewN (Below.refl _ _) 1)) | exact HS.out _ C9.out | exact HS.out _ (C9.out.belowB (below_new _ _)) | exact HS.out _ C10.out | exact HS.out _ (C10.out.setSame _))
        clear hK K
        try simp only [Act.put, List.setIfInBounds_toArray, List.set_cons_zero, List.set_cons_succ]
        refine wpAnyH_ready (rs := [6]) (by kernel_rfl) (by simp) ?_
        refine AllReadyH.cons (o := { dst := some 49, op := Op.call { callee := Callee.value (Operand.func 24), args := #[Operand.tmp 45, Operand.tmp 46, Operand.tmp 47, Operand.tmp 48], argTypes := #[26, 56, 24, 3] }, type := 41, pos := _, after := #[{ on := 2, ground := Ground.data }, { on := 3, ground := Ground.data }, { on := 4, ground := Ground.data }, { on := 5, ground := Ground.data }], guard := none }) rfl (fun K hK => ?_) AllReadyH.nil
        go_simp
        with_reducible refine (HLU.out _ ?_).mono ?_
        · exact below_drewN (Below.refl _ _) 1
        rintro e w9 ⟨Ac, cc, rfl, hb9, hol9⟩
        have P9 := Lib.hid ((P8.out.keep (below_drewN (Below.refl _ _) 1)).keep hb9)
        have C9 := Lib.hid P9.out.chg
        have OB9 := Lib.hid (show OwnL wm.heap.size w9 (Ac, cc, ins) from own_down hol9 (show wm.heap.size ≤ w8.heap.size from P8.out.chg.size))
        have k19 := P9.out.box.cell 2
        have k19b : ∀ o, (w9.alloc o).cell? ⟨g, 2, none⟩ = some (.slice AL nl cL) := fun o => by rw [(P9.out.box.alloc o).cell 2, ← HNL2.out]; rfl
        rw [show (#[Value.int IntKind.i64 I, Value.slice none 0 0, Value.slice AL ls.length cL, Value.slice none 0 0] : Array Value)[2]? = some (.slice AL nl cL) from by rw [← HNL2.out]; rfl] at k19
        clear hb9 hol9
        refine hK.out _ _ ?_ (fun hHeld => ?_)
        · (first | exact HS.out _ C8.out | exact HS.out _ (C8.out.belowB (below_drewN (Below.refl _ _) 1)) | exact HS.out _ C9.out | exact HS.out _ (C9.out.belowB (below_new _ _)) | exact HS.out _ C10.out | exact HS.out _ (C10.out.setSame _))
        clear hK K
        try simp only [Act.put, List.setIfInBounds_toArray, List.set_cons_zero, List.set_cons_succ]
        refine wpAnyH_ready (rs := [7]) (by kernel_rfl) (by simp) ?_
        refine AllReadyH.cons (o := { dst := some 50, op := Op.buildSlice 30 1 #[(0, Operand.tmp 49)], type := 30, pos := _, after := #[{ on := 6, ground := Ground.data }], guard := none }) rfl (fun K hK => ?_) AllReadyH.nil
        go_simp
        refine hK.out _ _ ?_ (fun hHeld => ?_)
        · (first | exact HS.out _ C8.out | exact HS.out _ (C8.out.belowB (below_drewN (Below.refl _ _) 1)) | exact HS.out _ C9.out | exact HS.out _ (C9.out.belowB (below_new _ _)) | exact HS.out _ C10.out | exact HS.out _ (C10.out.setSame _))
        clear hK K
        try simp only [Act.put, List.setIfInBounds_toArray, List.set_cons_zero, List.set_cons_succ]
        refine wpAnyH_ready (rs := [8]) (by kernel_rfl) (by simp) ?_
        refine AllReadyH.cons (o := { dst := some 51, op := Op.call { callee := Callee.builtin Builtin.append, args := #[Operand.tmp 44, Operand.tmp 50], argTypes := #[30, 30] }, type := 30, pos := _, after := #[{ on := 1, ground := Ground.data }, { on := 7, ground := Ground.data }, { on := 6, ground := Ground.chain }], guard := none }) rfl (fun K hK => ?_) AllReadyH.nil
        have O9 := Lib.hid (show (w9.alloc (.cells #[.slice Ac ql cc, .int .u64 (T : Int)] 41)).ownsRow wm.heap.size 41 2 (.slice AL nl cL) nl (cutC ls) from by rw [← HNL2.out]; exact P9.out.row.alloc _)
        obtain ⟨A9, k9, u9, hrun9, hown9, hgr9, hat9⟩ := app_run 30 41 30 Tryz.underlying30 _ 2 32 lut_info rfl (by decide) (by decide) wm.heap.size AL nl cL (cutC ls) O9.out ⟨w9.heap.size, 0, none⟩ 1 [.slice Ac ql cc, .int .u64 (T : Int)] (rd_of_blk (cs := [.slice Ac ql cc, .int .u64 (T : Int)]) (Blk.made w9 41 #[.slice Ac ql cc, .int .u64 (T : Int)]) 2 1 rfl) (cut_oneN _ _ _ _) (by omega) (by have := C9.out.size; simp; omega)
        refine step_app_run (by rfl) (.tmp 44) (.tmp 50) 30 30 (by rfl) (.slice AL nl cL) (.slice (some ⟨w9.heap.size, 0, none⟩) 1 1) (by rfl) (by rfl) hrun9 ?_
        have TT10 := Lib.hid ((P9.out.box.alloc (.cells #[.slice Ac ql cc, .int .u64 (T : Int)] 41)).grown hgr9 (fun e => own_other P9.out.row P9.out.box (by decide) (by rw [own_blk]; exact e.symm)))
        have C10 := Lib.hid ((C9.out.belowB (below_new w9 (.cells #[.slice Ac ql cc, .int .u64 (T : Int)] 41))).grownHi hgr9 (fun k hk => own_base O9.out (by rw [own_blk]; exact hk)))
        have P10 := Lib.hid (P9.out.push (A9 := A9) (c9 := k9) HB.out OB9.out HL.out (by rw [HNL2.out, HQL.out]; exact hown9) hgr9)
        have k9c := TT10.out.cell 2
        have f9c := TT10.out.free 2
        clear hown9 hgr9 hat9 hrun9
        refine hK.out _ _ ?_ (fun hHeld => ?_)
        · (first | exact HS.out _ C8.out | exact HS.out _ (C8.out.belowB (below_drewN (Below.refl _ _) 1)) | exact HS.out _ C9.out | exact HS.out _ (C9.out.belowB (below_new _ _)) | exact HS.out _ C10.out | exact HS.out _ (C10.out.setSame _))
        clear hK K
        try simp only [Act.put, List.setIfInBounds_toArray, List.set_cons_zero, List.set_cons_succ]
        refine wpAnyH_take (i := 9) (oi := { dst := some 52, op := Op.fieldAddr 32 (Operand.tmp 10) 2, type := 0, pos := _, after := #[{ on := 0, ground := Ground.phase }, { on := 1, ground := Ground.phase }, { on := 2, ground := Ground.phase }, { on := 3, ground := Ground.phase }, { on := 4, ground := Ground.phase }, { on := 5, ground := Ground.phase }, { on := 6, ground := Ground.phase }, { on := 7, ground := Ground.phase }, { on := 8, ground := Ground.phase }], guard := none }) (v := ?_) rfl (by kernel_rfl) (by kernel_rfl) (by kernel_rfl) (fun _ _ _ h => h) (Or.inl ⟨by rfl, ?_⟩) (by assumption) ?_
        rotate_left
        · intro w hSw; (try dsimp only at hSw); go_simp; (try with_reducible rfl)
        try simp only [Act.put, List.setIfInBounds_toArray, List.set_cons_zero, List.set_cons_succ]
        refine wpAnyH_ready (rs := [10]) (by kernel_rfl) (by simp) ?_
        refine AllReadyH.cons (o := { dst := none, op := Op.store 30 (Operand.tmp 52) (Operand.tmp 51), type := 0, pos := _, after := #[{ on := 9, ground := Ground.data }, { on := 8, ground := Ground.data }, { on := 8, ground := Ground.chain }, { on := 0, ground := Ground.phase }, { on := 1, ground := Ground.phase }, { on := 2, ground := Ground.phase }, { on := 3, ground := Ground.phase }, { on := 4, ground := Ground.phase }, { on := 5, ground := Ground.phase }, { on := 6, ground := Ground.phase }, { on := 7, ground := Ground.phase }, { on := 8, ground := Ground.phase }], guard := none }) rfl (fun K hK => ?_) AllReadyH.nil
        go_simp
        refine hK.out _ _ ?_ (fun hHeld => ?_)
        · (first | exact HS.out _ C8.out | exact HS.out _ (C8.out.belowB (below_drewN (Below.refl _ _) 1)) | exact HS.out _ C9.out | exact HS.out _ (C9.out.belowB (below_new _ _)) | exact HS.out _ C10.out | exact HS.out _ (C10.out.setSame _))
        clear hK K
        try simp only [Act.put, List.setIfInBounds_toArray, List.set_cons_zero, List.set_cons_succ]
        refine wpAnyH_done (by kernel_rfl) ?_ _
        have PF := Lib.hid P10.out
        rw [HNL2.out] at PF
        clear k19 k19b k9c f9c
        go_wp2_with fail
        go_roundw
        case rel => exact ⟨n + 1, A9, k9, ls ++ [((Ac, cc, ins), T)], by omega, by go_num, PF.out⟩
        case measure => simp [intOf]; omega
      · skip
        go_simp
        with_reducible refine (HLU.out _ ?_).mono ?_
        · exact below_drewN (Below.refl _ _) 1
        rintro e w9 ⟨Ac, cc, rfl, hb9, hol9⟩
        have P9 := Lib.hid ((P8.out.keep (below_drewN (Below.refl _ _) 1)).keep hb9)
        have C9 := Lib.hid P9.out.chg
        have OB9 := Lib.hid (show OwnL wm.heap.size w9 (Ac, cc, ins) from own_down hol9 (show wm.heap.size ≤ w8.heap.size from P8.out.chg.size))
        have k19 := P9.out.box.cell 2
        have k19b : ∀ o, (w9.alloc o).cell? ⟨g, 2, none⟩ = some (.slice AL nl cL) := fun o => by rw [(P9.out.box.alloc o).cell 2, ← HNL2.out]; rfl
        rw [show (#[Value.int IntKind.i64 I, Value.slice none 0 0, Value.slice AL ls.length cL, Value.slice none 0 0] : Array Value)[2]? = some (.slice AL nl cL) from by rw [← HNL2.out]; rfl] at k19
        clear hb9 hol9
        refine hK.out _ _ ?_ (fun hHeld => ?_)
        · (first | exact HS.out _ C8.out | exact HS.out _ (C8.out.belowB (below_drewN (Below.refl _ _) 1)) | exact HS.out _ C9.out | exact HS.out _ (C9.out.belowB (below_new _ _)) | exact HS.out _ C10.out | exact HS.out _ (C10.out.setSame _))
        clear hK K
        try simp only [Act.put, List.setIfInBounds_toArray, List.set_cons_zero, List.set_cons_succ]
        refine wpAnyH_ready (rs := [1, 7]) (by kernel_rfl) (by simp) ?_
        refine AllReadyH.cons (o := { dst := some 44, op := Op.load 30 (Operand.tmp 43), type := 30, pos := _, after := #[{ on := 0, ground := Ground.data }], guard := none }) rfl (fun K hK => ?_) (AllReadyH.cons (o := { dst := some 50, op := Op.buildSlice 30 1 #[(0, Operand.tmp 49)], type := 30, pos := _, after := #[{ on := 6, ground := Ground.data }], guard := none }) rfl (fun K hK => ?_) AllReadyH.nil)
        · skip
          go_simp
          refine hK.out _ _ ?_ (fun hHeld => ?_)
          · (first | exact HS.out _ C8.out | exact HS.out _ (C8.out.belowB (below_drewN (Below.refl _ _) 1)) | exact HS.out _ C9.out | exact HS.out _ (C9.out.belowB (below_new _ _)) | exact HS.out _ C10.out | exact HS.out _ (C10.out.setSame _))
          clear hK K
          try simp only [Act.put, List.setIfInBounds_toArray, List.set_cons_zero, List.set_cons_succ]
          refine wpAnyH_ready (rs := [7]) (by kernel_rfl) (by simp) ?_
          refine AllReadyH.cons (o := { dst := some 50, op := Op.buildSlice 30 1 #[(0, Operand.tmp 49)], type := 30, pos := _, after := #[{ on := 6, ground := Ground.data }], guard := none }) rfl (fun K hK => ?_) AllReadyH.nil
          go_simp
          refine hK.out _ _ ?_ (fun hHeld => ?_)
          · (first | exact HS.out _ C8.out | exact HS.out _ (C8.out.belowB (below_drewN (Below.refl _ _) 1)) | exact HS.out _ C9.out | exact HS.out _ (C9.out.belowB (below_new _ _)) | exact HS.out _ C10.out | exact HS.out _ (C10.out.setSame _))
          clear hK K
          try simp only [Act.put, List.setIfInBounds_toArray, List.set_cons_zero, List.set_cons_succ]
          refine wpAnyH_ready (rs := [8]) (by kernel_rfl) (by simp) ?_
          refine AllReadyH.cons (o := { dst := some 51, op := Op.call { callee := Callee.builtin Builtin.append, args := #[Operand.tmp 44, Operand.tmp 50], argTypes := #[30, 30] }, type := 30, pos := _, after := #[{ on := 1, ground := Ground.data }, { on := 7, ground := Ground.data }, { on := 6, ground := Ground.chain }], guard := none }) rfl (fun K hK => ?_) AllReadyH.nil
          have O9 := Lib.hid (show (w9.alloc (.cells #[.slice Ac ql cc, .int .u64 (T : Int)] 41)).ownsRow wm.heap.size 41 2 (.slice AL nl cL) nl (cutC ls) from by rw [← HNL2.out]; exact P9.out.row.alloc _)
          obtain ⟨A9, k9, u9, hrun9, hown9, hgr9, hat9⟩ := app_run 30 41 30 Tryz.underlying30 _ 2 32 lut_info rfl (by decide) (by decide) wm.heap.size AL nl cL (cutC ls) O9.out ⟨w9.heap.size, 0, none⟩ 1 [.slice Ac ql cc, .int .u64 (T : Int)] (rd_of_blk (cs := [.slice Ac ql cc, .int .u64 (T : Int)]) (Blk.made w9 41 #[.slice Ac ql cc, .int .u64 (T : Int)]) 2 1 rfl) (cut_oneN _ _ _ _) (by omega) (by have := C9.out.size; simp; omega)
          refine step_app_run (by rfl) (.tmp 44) (.tmp 50) 30 30 (by rfl) (.slice AL nl cL) (.slice (some ⟨w9.heap.size, 0, none⟩) 1 1) (by rfl) (by rfl) hrun9 ?_
          have TT10 := Lib.hid ((P9.out.box.alloc (.cells #[.slice Ac ql cc, .int .u64 (T : Int)] 41)).grown hgr9 (fun e => own_other P9.out.row P9.out.box (by decide) (by rw [own_blk]; exact e.symm)))
          have C10 := Lib.hid ((C9.out.belowB (below_new w9 (.cells #[.slice Ac ql cc, .int .u64 (T : Int)] 41))).grownHi hgr9 (fun k hk => own_base O9.out (by rw [own_blk]; exact hk)))
          have P10 := Lib.hid (P9.out.push (A9 := A9) (c9 := k9) HB.out OB9.out HL.out (by rw [HNL2.out, HQL.out]; exact hown9) hgr9)
          have k9c := TT10.out.cell 2
          have f9c := TT10.out.free 2
          clear hown9 hgr9 hat9 hrun9
          refine hK.out _ _ ?_ (fun hHeld => ?_)
          · (first | exact HS.out _ C8.out | exact HS.out _ (C8.out.belowB (below_drewN (Below.refl _ _) 1)) | exact HS.out _ C9.out | exact HS.out _ (C9.out.belowB (below_new _ _)) | exact HS.out _ C10.out | exact HS.out _ (C10.out.setSame _))
          clear hK K
          try simp only [Act.put, List.setIfInBounds_toArray, List.set_cons_zero, List.set_cons_succ]
          refine wpAnyH_take (i := 9) (oi := { dst := some 52, op := Op.fieldAddr 32 (Operand.tmp 10) 2, type := 0, pos := _, after := #[{ on := 0, ground := Ground.phase }, { on := 1, ground := Ground.phase }, { on := 2, ground := Ground.phase }, { on := 3, ground := Ground.phase }, { on := 4, ground := Ground.phase }, { on := 5, ground := Ground.phase }, { on := 6, ground := Ground.phase }, { on := 7, ground := Ground.phase }, { on := 8, ground := Ground.phase }], guard := none }) (v := ?_) rfl (by kernel_rfl) (by kernel_rfl) (by kernel_rfl) (fun _ _ _ h => h) (Or.inl ⟨by rfl, ?_⟩) (by assumption) ?_
          rotate_left
          · intro w hSw; (try dsimp only at hSw); go_simp; (try with_reducible rfl)
          try simp only [Act.put, List.setIfInBounds_toArray, List.set_cons_zero, List.set_cons_succ]
          refine wpAnyH_ready (rs := [10]) (by kernel_rfl) (by simp) ?_
          refine AllReadyH.cons (o := { dst := none, op := Op.store 30 (Operand.tmp 52) (Operand.tmp 51), type := 0, pos := _, after := #[{ on := 9, ground := Ground.data }, { on := 8, ground := Ground.data }, { on := 8, ground := Ground.chain }, { on := 0, ground := Ground.phase }, { on := 1, ground := Ground.phase }, { on := 2, ground := Ground.phase }, { on := 3, ground := Ground.phase }, { on := 4, ground := Ground.phase }, { on := 5, ground := Ground.phase }, { on := 6, ground := Ground.phase }, { on := 7, ground := Ground.phase }, { on := 8, ground := Ground.phase }], guard := none }) rfl (fun K hK => ?_) AllReadyH.nil
          go_simp
          refine hK.out _ _ ?_ (fun hHeld => ?_)
          · (first | exact HS.out _ C8.out | exact HS.out _ (C8.out.belowB (below_drewN (Below.refl _ _) 1)) | exact HS.out _ C9.out | exact HS.out _ (C9.out.belowB (below_new _ _)) | exact HS.out _ C10.out | exact HS.out _ (C10.out.setSame _))
          clear hK K
          try simp only [Act.put, List.setIfInBounds_toArray, List.set_cons_zero, List.set_cons_succ]
          refine wpAnyH_done (by kernel_rfl) ?_ _
          have PF := Lib.hid P10.out
          rw [HNL2.out] at PF
          clear k19 k19b k9c f9c
          go_wp2_with fail
          go_roundw
          case rel => exact ⟨n + 1, A9, k9, ls ++ [((Ac, cc, ins), T)], by omega, by go_num, PF.out⟩
          case measure => simp [intOf]; omega
        · skip
          go_simp
          refine hK.out _ _ ?_ (fun hHeld => ?_)
          · (first | exact HS.out _ C8.out | exact HS.out _ (C8.out.belowB (below_drewN (Below.refl _ _) 1)) | exact HS.out _ C9.out | exact HS.out _ (C9.out.belowB (below_new _ _)) | exact HS.out _ C10.out | exact HS.out _ (C10.out.setSame _))
          clear hK K
          try simp only [Act.put, List.setIfInBounds_toArray, List.set_cons_zero, List.set_cons_succ]
          refine wpAnyH_ready (rs := [1]) (by kernel_rfl) (by simp) ?_
          refine AllReadyH.cons (o := { dst := some 44, op := Op.load 30 (Operand.tmp 43), type := 30, pos := _, after := #[{ on := 0, ground := Ground.data }], guard := none }) rfl (fun K hK => ?_) AllReadyH.nil
          go_simp
          refine hK.out _ _ ?_ (fun hHeld => ?_)
          · (first | exact HS.out _ C8.out | exact HS.out _ (C8.out.belowB (below_drewN (Below.refl _ _) 1)) | exact HS.out _ C9.out | exact HS.out _ (C9.out.belowB (below_new _ _)) | exact HS.out _ C10.out | exact HS.out _ (C10.out.setSame _))
          clear hK K
          try simp only [Act.put, List.setIfInBounds_toArray, List.set_cons_zero, List.set_cons_succ]
          refine wpAnyH_ready (rs := [8]) (by kernel_rfl) (by simp) ?_
          refine AllReadyH.cons (o := { dst := some 51, op := Op.call { callee := Callee.builtin Builtin.append, args := #[Operand.tmp 44, Operand.tmp 50], argTypes := #[30, 30] }, type := 30, pos := _, after := #[{ on := 1, ground := Ground.data }, { on := 7, ground := Ground.data }, { on := 6, ground := Ground.chain }], guard := none }) rfl (fun K hK => ?_) AllReadyH.nil
          have O9 := Lib.hid (show (w9.alloc (.cells #[.slice Ac ql cc, .int .u64 (T : Int)] 41)).ownsRow wm.heap.size 41 2 (.slice AL nl cL) nl (cutC ls) from by rw [← HNL2.out]; exact P9.out.row.alloc _)
          obtain ⟨A9, k9, u9, hrun9, hown9, hgr9, hat9⟩ := app_run 30 41 30 Tryz.underlying30 _ 2 32 lut_info rfl (by decide) (by decide) wm.heap.size AL nl cL (cutC ls) O9.out ⟨w9.heap.size, 0, none⟩ 1 [.slice Ac ql cc, .int .u64 (T : Int)] (rd_of_blk (cs := [.slice Ac ql cc, .int .u64 (T : Int)]) (Blk.made w9 41 #[.slice Ac ql cc, .int .u64 (T : Int)]) 2 1 rfl) (cut_oneN _ _ _ _) (by omega) (by have := C9.out.size; simp; omega)
          refine step_app_run (by rfl) (.tmp 44) (.tmp 50) 30 30 (by rfl) (.slice AL nl cL) (.slice (some ⟨w9.heap.size, 0, none⟩) 1 1) (by rfl) (by rfl) hrun9 ?_
          have TT10 := Lib.hid ((P9.out.box.alloc (.cells #[.slice Ac ql cc, .int .u64 (T : Int)] 41)).grown hgr9 (fun e => own_other P9.out.row P9.out.box (by decide) (by rw [own_blk]; exact e.symm)))
          have C10 := Lib.hid ((C9.out.belowB (below_new w9 (.cells #[.slice Ac ql cc, .int .u64 (T : Int)] 41))).grownHi hgr9 (fun k hk => own_base O9.out (by rw [own_blk]; exact hk)))
          have P10 := Lib.hid (P9.out.push (A9 := A9) (c9 := k9) HB.out OB9.out HL.out (by rw [HNL2.out, HQL.out]; exact hown9) hgr9)
          have k9c := TT10.out.cell 2
          have f9c := TT10.out.free 2
          clear hown9 hgr9 hat9 hrun9
          refine hK.out _ _ ?_ (fun hHeld => ?_)
          · (first | exact HS.out _ C8.out | exact HS.out _ (C8.out.belowB (below_drewN (Below.refl _ _) 1)) | exact HS.out _ C9.out | exact HS.out _ (C9.out.belowB (below_new _ _)) | exact HS.out _ C10.out | exact HS.out _ (C10.out.setSame _))
          clear hK K
          try simp only [Act.put, List.setIfInBounds_toArray, List.set_cons_zero, List.set_cons_succ]
          refine wpAnyH_take (i := 9) (oi := { dst := some 52, op := Op.fieldAddr 32 (Operand.tmp 10) 2, type := 0, pos := _, after := #[{ on := 0, ground := Ground.phase }, { on := 1, ground := Ground.phase }, { on := 2, ground := Ground.phase }, { on := 3, ground := Ground.phase }, { on := 4, ground := Ground.phase }, { on := 5, ground := Ground.phase }, { on := 6, ground := Ground.phase }, { on := 7, ground := Ground.phase }, { on := 8, ground := Ground.phase }], guard := none }) (v := ?_) rfl (by kernel_rfl) (by kernel_rfl) (by kernel_rfl) (fun _ _ _ h => h) (Or.inl ⟨by rfl, ?_⟩) (by assumption) ?_
          rotate_left
          · intro w hSw; (try dsimp only at hSw); go_simp; (try with_reducible rfl)
          try simp only [Act.put, List.setIfInBounds_toArray, List.set_cons_zero, List.set_cons_succ]
          refine wpAnyH_ready (rs := [10]) (by kernel_rfl) (by simp) ?_
          refine AllReadyH.cons (o := { dst := none, op := Op.store 30 (Operand.tmp 52) (Operand.tmp 51), type := 0, pos := _, after := #[{ on := 9, ground := Ground.data }, { on := 8, ground := Ground.data }, { on := 8, ground := Ground.chain }, { on := 0, ground := Ground.phase }, { on := 1, ground := Ground.phase }, { on := 2, ground := Ground.phase }, { on := 3, ground := Ground.phase }, { on := 4, ground := Ground.phase }, { on := 5, ground := Ground.phase }, { on := 6, ground := Ground.phase }, { on := 7, ground := Ground.phase }, { on := 8, ground := Ground.phase }], guard := none }) rfl (fun K hK => ?_) AllReadyH.nil
          go_simp
          refine hK.out _ _ ?_ (fun hHeld => ?_)
          · (first | exact HS.out _ C8.out | exact HS.out _ (C8.out.belowB (below_drewN (Below.refl _ _) 1)) | exact HS.out _ C9.out | exact HS.out _ (C9.out.belowB (below_new _ _)) | exact HS.out _ C10.out | exact HS.out _ (C10.out.setSame _))
          clear hK K
          try simp only [Act.put, List.setIfInBounds_toArray, List.set_cons_zero, List.set_cons_succ]
          refine wpAnyH_done (by kernel_rfl) ?_ _
          have PF := Lib.hid P10.out
          rw [HNL2.out] at PF
          clear k19 k19b k9c f9c
          go_wp2_with fail
          go_roundw
          case rel => exact ⟨n + 1, A9, k9, ls ++ [((Ac, cc, ins), T)], by omega, by go_num, PF.out⟩
          case measure => simp [intOf]; omega
end Go.Proofs.YtaajnmggbhnndaaGreatDoor
