/- filigreeref24.both. · filigreeref24.may, All, Depths. · The region of cuts.both that puts a gate's row in: what stays while its order is drawn. · cuts.both. · cuts.All, cuts.Depths. · filigreeref24.Same, of what is the same. -/
import Derived.Test.YtaajnmggbhnndaaGreatDoorZNet
namespace Go.Proofs.YtaajnmggbhnndaaGreatDoor
open Go.RowKit
set_option linter.unusedVariables false
set_option linter.unusedSimpArgs false
/-- what both tells -/
def BothSt (st : List (List PC) × List Int) (w : World) (AO : Option Addr) (cO : Nat) (rs : List CR) (AD : Option Addr) (cD : Nat) (w' : World) : Prop := Below w.heap.size w w' ∧ AllM w.heap.size w' AO cO rs AD cD st.2 ∧ plainR rs = st.1
def BothOut (st : List (List PC) × List Int) (w : World) (r : Ending) (w' : World) : Prop :=
  ∃ AO cO rs AD cD, r = .returned (.tuple #[.slice AO (rs : List CR).length cO, .slice AD st.2.length cD]) ∧ BothSt st w AO cO rs AD cD w'
theorem aig_two : ∀ (p : Addr), p.add 0 = p := fun p => rfl
set_option maxRecDepth 100000 in
set_option maxHeartbeats 8000000 in
theorem rboth_any (G : AG) (k : Int) (w : World) (hin : G.In w) (hf : G.fit) (hok : G.ok) (hk : 2 ≤ k ∧ k ≤ 6) :
    Calls Tryz.prog 37 #[.agg #[.int .i64 G.I, .slice G.AF G.fl.length G.cF, .slice G.AA G.an.length G.cA, .slice G.AO G.ou.length G.cO], .int .i64 k] w (BothOut (G.bothTo k (G.cn - 1)) w) := by
  have X0 := Lib.hid (Blk.made w 26 #[.int .i64 G.I, .slice G.AF G.fl.length G.cF, .slice G.AA G.an.length G.cA, .slice G.AO G.ou.length G.cO])
  have B0 := Lib.hid (below_new w (.cells #[.int .i64 G.I, .slice G.AF G.fl.length G.cF, .slice G.AA G.an.length G.cA, .slice G.AO G.ou.length G.cO] 26))
  have HCO := Lib.hid (fun (W : World) => rcount_any G W hok.1 hf)
  have hcn := hok.cnt
  have hcn2 : 1 + G.cnt = (G.cn : Int) := by omega
  rw [hcn2] at HCO
  have hfst := hok.firstN
  have hfst' : 1 + G.I + (G.fl.length : Int) = (G.fst : Int) := hfst
  have hcn3 : G.cn ≤ 3001 := by have := hf.i; have := hf.f; have := hf.a; have := hok.1; unfold AG.cn AG.fst; omega
  have hcn1 : 1 ≤ G.cn := by unfold AG.cn AG.fst; omega
  have hFn : G.fst ≤ G.cn := by unfold AG.cn; omega
  have hI0 := hok.1
  have hI1 := hf.i
  have hI2 := hf.f
  have HBO := Lib.hid (fun x (hx : x < G.cn) => G.bothTo_ok hk hok x hx)
  have HIN := Lib.hid hin
  have HF := Lib.hid hf
  have HOK := Lib.hid hok
  have HKK := Lib.hid hk
  obtain ⟨AF, hAF⟩ : ∃ A, G.AF = A := ⟨_, rfl⟩
  obtain ⟨AA, hAA⟩ : ∃ A, G.AA = A := ⟨_, rfl⟩
  obtain ⟨AO, hAO⟩ : ∃ A, G.AO = A := ⟨_, rfl⟩
  have HAF := Lib.hid hAF
  have HAA := Lib.hid hAA
  have HAO := Lib.hid hAO
  rw [hAF, hAA, hAO] at X0 B0 HCO ⊢
  have c0 := X0.out.cell 0
  have c1 := X0.out.cell 1
  have c2 := X0.out.cell 2
  have c3 := X0.out.cell 3
  clear hAF hAA hAO hin hf hok hcn hcn2 hfst
  go_enter Tryz.func37, Tryz.ntmps37
  go_wp2_with fail
  have hstart : AllM w.heap.size ((((w.alloc (.cells #[.int .i64 G.I, .slice AF G.fl.length G.cF, .slice AA G.an.length G.cA, .slice AO G.ou.length G.cO] 26)).alloc (.cells #[.slice none 0 0, .int .u64 0] 64)).alloc (.cells #[.slice (some ⟨w.heap.size + 1, 0, none⟩) 1 1] 65)).alloc (.cells #[.int .i64 0] 3)) (some ⟨w.heap.size + 1 + 1, 0, none⟩) 1 [((some ⟨w.heap.size + 1, 0, none⟩, 1, [((none, 0, []), 0)]) : CR)] (some ⟨w.heap.size + 1 + 1 + 1, 0, none⟩) 1 [0] := by
    refine ⟨own_of_blkN ((blk_made2 w _ _ _ _).alloc _) 1 1 rfl (by omega) (by omega), fun r hr => ?_, own_of_blkN (blk_made3 w _ _ _ _ _) 1 1 rfl (by omega) (by omega)⟩
    rw [List.mem_singleton] at hr
    subst hr
    refine ⟨⟨own_of_blkN (((blk_made1 w _ _ _).alloc _).alloc _) 2 1 rfl (by omega) (by omega), fun c hc => ?_⟩, fun c hc g hg => ?_⟩
    · rw [List.mem_singleton] at hc; subst hc; exact World.ownsRow_nil _ _ _ _
    · rw [List.mem_singleton] at hc; subst hc; cases hg
  have HST := Lib.hid hstart
  have XS := Lib.hid (((X0.out.alloc (.cells #[.slice none 0 0, .int .u64 0] 64)).alloc (.cells #[.slice (some ⟨w.heap.size + 1, 0, none⟩) 1 1] 65)).alloc (.cells #[.int .i64 0] 3))
  have BS := Lib.hid (below_then (below_then (below_then B0.out (below_new _ (.cells #[.slice none 0 0, .int .u64 0] 64))) (below_new _ (.cells #[.slice (some ⟨w.heap.size + 1, 0, none⟩) 1 1] 65))) (below_new _ (.cells #[.int .i64 0] 3)))
  clear hstart c0 c1 c2 c3 X0
  go_loopw [6, 7, 9] (fun v6 v7 v9 wx => ∃ (x0 : Nat) (OA : Option Addr) (cO : Nat) (rs : List CR) (AD : Option Addr) (cD : Nat), x0 + 1 ≤ G.cn ∧ v9 = .int .i64 ((x0 + 1 : Nat) : Int) ∧ v6 = .slice OA rs.length cO ∧ v7 = .slice AD (G.bothTo k x0).2.length cD ∧ AllM w.heap.size wx OA cO rs AD cD (G.bothTo k x0).2 ∧ plainR rs = (G.bothTo k x0).1 ∧ Blk wx w.heap.size 26 #[.int .i64 G.I, .slice AF G.fl.length G.cF, .slice AA G.an.length G.cA, .slice AO G.ou.length G.cO] ∧ Below w.heap.size w wx) (fun _ _ v9 _ => G.cn - (intOf v9).toNat)
  case atStart => exact ⟨0, _, _, _, _, _, hcn1, rfl, rfl, rfl, HST.out, rfl, XS.out, BS.out⟩
  case round =>
    obtain ⟨x0, OA, cO, rs, AD, cD, hx0, rfl, rfl, rfl, hAM, hPL, hX, hB⟩ := hrel
    obtain ⟨wo, hwo⟩ : ∃ W, W = wr := ⟨_, rfl⟩
    subst hwo
    have HAM := Lib.hid hAM
    have HPL := Lib.hid hPL
    have X0 := Lib.hid hX
    have B1 := Lib.hid hB
    have hrl0 : rs.length = x0 + 1 := by have h := congrArg List.length hPL; rw [plainR_len, (G.bothTo_len k x0).1] at h; exact h
    have hdl0 := (G.bothTo_len k x0).2
    obtain ⟨x, hx⟩ : ∃ x, x0 + 1 = x := ⟨_, rfl⟩
    rw [hx] at hrl0 hdl0 hx0
    have HRL := Lib.hid hrl0
    have HDL := Lib.hid hdl0
    rw [HRL.out, HDL.out, hx]
    have c0 := X0.out.cell 0
    have c1 := X0.out.cell 1
    have c2 := X0.out.cell 2
    have c3 := X0.out.cell 3
    clear hAM hPL hX hB hrl0 hdl0 HST XS BS
    go_wp2_with fail
    refine (HCO.out _).mono ?_
    rintro e w1 ⟨rfl, hb1⟩
    have BR := Lib.hid hb1
    have BW := Lib.hid (below_then B1.out hb1)
    clear hb1 c0 c1 c2 c3
    by_cases hlt : x < G.cn
    case neg =>
      obtain rfl : x = G.cn := by omega
      have hlt' : ¬ (G.cn : Int) < (G.cn : Int) := by omega
      have hxe : G.cn - 1 = x0 := by omega
      have HXE := Lib.hid hxe
      have HFI := Lib.hid (HAM.out.keep BR.out)
      clear hxe
      go_wp2_with fail
      go_ret2
      rw [HXE.out]
      exact ⟨OA, cO, rs, AD, cD, by rw [HRL.out, HDL.out]; rfl, BW.out, HFI.out, HPL.out⟩
    have hlt' : (x : Int) < (G.cn : Int) := by omega
    by_cases hlow : x < G.fst
    · have hlow' : ¬ (G.fst : Int) ≤ (x : Int) := by omega
      have hrow0 : G.cutRow k (G.bothTo k x0).1 (G.bothTo k x0).2 (x0 + 1) = ([([(x : Int)], 2)], 0) := by unfold AG.cutRow; rw [hx, if_pos hlow]
      have HR0 := Lib.hid hrow0
      have LN := Lib.hid (World.ownsRow_nil w1 wo.heap.size 64 2)
      have LV := Lib.hid (show ∀ c ∈ ([] : List CT), OwnL wo.heap.size w1 c.1 from fun c hc => by cases hc)
      clear hrow0
      go_upto_region 18 with (fail)
      have SZ := Lib.hid (BR.out.size)
      have SB := Lib.hid (Nat.le_trans B1.out.size BR.out.size)
      go_upto_region 19 with (at_builtin; refine wpList_app_at rfl (.tmp 89) (.tmp 93) 65 64 rfl Tryz.underlying65 _ 2 32 cut_info rfl (by decide) (by decide) wo.heap.size none 0 0 (cutC ([] : List CT)) rfl ((LN.out.alloc _).alloc _) ⟨w1.heap.size + 1, 0, none⟩ 1 [.slice (some ⟨w1.heap.size, 0, none⟩) 1 1, .int .u64 2] rfl (rd_of_blk (blk_made1 _ _ _ _) 2 1 rfl) (cut_one2 _ _) (by omega) (Nat.le_trans SZ.out (by simp; omega)) ?_; intro A1 k1 u1 hown1 hgr1 _)
      have BR1 := Lib.hid (Below.grown (below_then (below_then BR.out (below_new _ _)) (below_new _ _)) hgr1 (Nat.le_trans SZ.out (by simp; omega)) (fun q hq => own_base LN.out (by rw [own_blk]; exact hq)))
      have B2 := Lib.hid (below_then B1.out BR1.out)
      have hleaf := own_of_blkN (base := wo.heap.size) ((Blk.made w1 3 [.int .i64 (x : Int)].toArray).alloc (.cells #[.slice (some ⟨w1.heap.size, 0, none⟩) 1 1, .int .u64 2] 64)) 1 1 rfl SZ.out (by omega)
      have LF1 := Lib.hid (own_grown hleaf ((LN.out.alloc (.cells #[.int .i64 (x : Int)] 3)).alloc (.cells #[.slice (some ⟨w1.heap.size, 0, none⟩) 1 1, .int .u64 2] 64)) (by decide) hgr1)
      obtain ⟨bl, hbl⟩ : ∃ b, w1.heap.size = b := ⟨_, rfl⟩
      have hOR : OwnR wo.heap.size u1 (A1, k1, ([] : List CT) ++ [(((some ⟨bl, 0, none⟩, 1, [(x : Int)]) : SL), 2)]) := by
        refine ⟨?_, fun c hc => ?_⟩
        · show u1.ownsRow _ _ _ (.slice A1 (([] : List CT) ++ _).length k1) _ _
          rw [cutC_append, List.length_append, show ([] : List CT).length = 0 from rfl, ← hbl]
          exact hown1
        · rcases List.mem_append.1 hc with h | h
          · exact own_grown (OwnL.later (OwnL.later (LV.out c h) (below_new _ _)) (below_new _ _)) ((LN.out.alloc (.cells #[.int .i64 (x : Int)] 3)).alloc (.cells #[.slice (some ⟨w1.heap.size, 0, none⟩) 1 1, .int .u64 2] 64)) (by decide) hgr1
          · rw [List.mem_singleton] at h
            subst h
            rw [← hbl]; exact LF1.out
      have ORW := Lib.hid hOR
      have AM1 := Lib.hid (HAM.out.keep BR1.out)
      have X1 := Lib.hid (X0.out.keep BR1.out)
      clear hown1 hgr1 hleaf hOR hbl
      obtain ⟨R, hR⟩ : ∃ R : CR, (A1, k1, ([] : List CT) ++ [(((some ⟨bl, 0, none⟩, 1, [(x : Int)]) : SL), 2)]) = R := ⟨_, rfl⟩
      have hRv := Lib.hid (show crv R = Value.slice A1 1 k1 from by rw [← hR]; show Value.slice A1 (([] : List CT) ++ _).length k1 = _; rw [List.length_append, show ([] : List CT).length = 0 from rfl]; rfl)
      have HRP := Lib.hid (show pcs R.2.2 = pcs ([] : List CT) ++ [([(x : Int)], 2)] from by rw [← hR]; simp [pcs])
      rw [hR] at ORW
      have HOFF := Lib.hid (show ∀ c ∈ R.2.2, Off AD c.1 from fun c hc => off_own HAM.out.dep (ORW.out.all c hc))
      clear hR
      go_upto_region 20 with (at_builtin; refine wpList_app_at rfl (.tmp 95) (.tmp 97) 56 65 rfl Tryz.underlying56 _ 1 24 cuts_info rfl (by decide) (by decide) w.heap.size OA x cO (rs.map crv) rfl (by rw [← HRL.out]; exact AM1.out.out.alloc _) ⟨u1.heap.size, 0, none⟩ 1 [.slice A1 1 k1] rfl (rd_of_blk (Blk.made _ _ _) 1 1 rfl) (fun u hu => by rw [List.mem_singleton] at hu; subst hu; rfl) (by omega) (Nat.le_trans B2.out.size (by simp)) ?_; intro A2 k2 u2 hown2 hgr2 _)
      have AM2 := Lib.hid ((AM1.out.keep (below_new u1 (.cells #[.slice A1 1 k1] 65))).putOut (r := R) ((ORW.out.later (below_new _ _)).down B1.out.size) HOFF.out (by rw [HRL.out, hRv.out]; exact hown2) hgr2)
      have X2 := Lib.hid ((X1.out.alloc (.cells #[.slice A1 1 k1] 65)).grown hgr2 (fun h => own_other (AM1.out.out.alloc (.cells #[.slice A1 1 k1] 65)) (X1.out.alloc (.cells #[.slice A1 1 k1] 65)) (by decide) (by rw [own_blk]; exact h.symm)))
      have B3 := Lib.hid (Below.grown (below_then B2.out (below_new _ _)) hgr2 (Nat.le_trans B2.out.size (by simp)) (fun q hq => own_base AM1.out.out (by rw [own_blk]; exact hq)))
      clear hown2 hgr2 AM1 X1
      go_wp2_with (at_builtin; refine wpList_app_at rfl (.tmp 99) (.tmp 101) 24 3 rfl Tryz.underlying24 _ 1 8 int_infoA rfl (by decide) (by decide) w.heap.size AD x cD (ints (G.bothTo k x0).2) rfl (by rw [← HDL.out]; exact AM2.out.dep.alloc _) ⟨u2.heap.size, 0, none⟩ 1 [.int .i64 (0)] rfl (rd_of_blk (Blk.made _ _ _) 1 1 rfl) (fun u hu => by rw [List.mem_singleton] at hu; subst hu; rfl) (by omega) (Nat.le_trans B3.out.size (by simp)) ?_; intro A3 k3 u3 hown3 hgr3 hat3)
      have AM3 := Lib.hid ((AM2.out.keep (below_new u2 (.cells #[.int .i64 (0)] 3))).putDep (AD' := A3) (cD' := k3) (y := 0) (by rw [HDL.out]; exact hown3) hgr3 hat3)
      have X3 := Lib.hid ((X2.out.alloc (.cells #[.int .i64 (0)] 3)).grown hgr3 (fun h => own_other (AM2.out.dep.alloc (.cells #[.int .i64 (0)] 3)) (X2.out.alloc (.cells #[.int .i64 (0)] 3)) (by decide) (by rw [own_blk]; exact h.symm)))
      have B4 := Lib.hid (Below.grown (below_then B3.out (below_new _ _)) hgr3 (Nat.le_trans B3.out.size (by simp)) (fun q hq => own_base AM2.out.dep (by rw [own_blk]; exact hq)))
      clear hown3 hgr3 hat3 AM2 X2
      have hdone : (G.bothTo k (x0 + 1)).1 = plainR (rs ++ [R]) ∧ (G.bothTo k (x0 + 1)).2 = (G.bothTo k x0).2 ++ [0] := by
        have h := HR0.out
        constructor
        · rw [AG.bothTo, h]
          show (G.bothTo k x0).1 ++ [_] = plainR (rs ++ [R])
          rw [plainR_snoc, HRP.out, HPL.out]; try rfl
        · rw [AG.bothTo, h]
      have HDN := Lib.hid hdone
      have hrl : (rs ++ [R]).length = x + 1 := by rw [List.length_append, HRL.out]; rfl
      have HRL2 := Lib.hid hrl
      clear hdone hrl
      go_wp2_with fail
      go_roundw
      case rel => exact ⟨x0 + 1, A2, k2, rs ++ [R], A3, k3, by omega, by go_num, by rw [HRL2.out], by rw [G.bothTo_len k (x0 + 1) |>.2, hx], by rw [HDN.out.2]; exact AM3.out, HDN.out.1.symm, X3.out, B4.out⟩
      case measure => simp [intOf]; omega
    have hlow' : (G.fst : Int) ≤ (x : Int) := by omega
    obtain ⟨i, hi⟩ : ∃ i, x - G.fst = i := ⟨_, rfl⟩
    have hia : i < G.an.length := by have : G.cn = G.fst + G.an.length := rfl; omega
    obtain ⟨a, b, hg, hgs, ha, hb, ha3, hb3⟩ := HOK.out.gate hia
    have hxi : (x : Int) - (G.fst : Int) = (i : Int) := by omega
    have hwi : IntKind.i64.wrap (i : Int) = (i : Int) := IntWalk.i64_in _ (by omega)
    have hia' : (i : Int) < (G.an.length : Int) := by omega
    obtain ⟨pa, hPA, hpb, e0, e1⟩ := HIN.out.an.two (pc_get G.an i hia).1 (pc_get G.an i hia).2
    rw [hg] at e0 e1
    rw [HAA.out] at hPA
    subst hPA
    have f0 := (BW.out.cell (p := pa.add (i * 2)) (by rw [add_block]; exact hpb)).trans e0
    have f1 := (BW.out.cell (p := ⟨(pa.add (i * 2)).block, (pa.add (i * 2)).off + 1, none⟩) (by show (pa.add (i * 2)).block < _; rw [add_block]; exact hpb)).trans e1
    obtain ⟨a2, ha2⟩ : ∃ d, a / 2 = d := ⟨_, rfl⟩
    obtain ⟨b2, hb2⟩ : ∃ d, b / 2 = d := ⟨_, rfl⟩
    have hae : (a : Int) / 2 = (a2 : Int) := by omega
    have hbe : (b : Int) / 2 = (b2 : Int) := by omega
    have hax : a2 < x := by omega
    have hbx : b2 < x := by omega
    have har : a2 < rs.length := by rw [HRL.out]; exact hax
    have hbr : b2 < rs.length := by rw [HRL.out]; exact hbx
    have hbok := HBO.out x0 (by omega)
    have hrowA := (hbok.row a2 (by omega))
    have hrowB := (hbok.row b2 (by omega))
    rw [← HPL.out, plainR_at har] at hrowA
    rw [← HPL.out, plainR_at hbr] at hrowB
    have hlvA : LvIn x rs[a2].2.2 := fun c hc => by
      have h := hrowA.lv (c.1.2.2, c.2) (List.mem_map.2 ⟨c, hc, rfl⟩)
      exact ⟨h.1.mono (by omega), h.2.2.1⟩
    have hlvB : LvIn x rs[b2].2.2 := fun c hc => by
      have h := hrowB.lv (c.1.2.2, c.2) (List.mem_map.2 ⟨c, hc, rfl⟩)
      exact ⟨h.1.mono (by omega), h.2.2.1⟩
    have hlenA : rs[a2].2.2.length ≤ 50 := by have := hrowA.len.2; simp [pcs] at this; omega
    have hlenB : rs[b2].2.2.length ≤ 50 := by have := hrowB.len.2; simp [pcs] at this; omega
    have hdep : ∀ W, Below wo.heap.size wo W → DepIn W AD cD x (G.bothTo k x0).2 := fun W hW => by
      refine ⟨?_, fun y hy => ?_⟩
      · have h := Rd.of_own (HAM.out.keep hW).dep
        rw [HDL.out] at h; exact h
      · obtain ⟨j, hj, rfl⟩ := List.mem_iff_getElem.1 hy
        have h := (hbok.dep j (by rw [HDL.out] at hj; omega)).2
        rw [List.getD_eq_getElem?_getD, List.getElem?_eq_getElem hj] at h
        rw [HDL.out] at hj
        simp only [Option.getD_some] at h
        omega
    have HDI := Lib.hid hdep
    have hgate := fun (W : World) (hW : Below wo.heap.size wo W) => rgate_any AD rs[a2].1 rs[b2].1 cD rs[a2].2.1 rs[b2].2.1 x (G.bothTo k x0).2 rs[a2].2.2 rs[b2].2.2 k W (hdep W hW) ((HAM.out.keep hW).row _ (List.getElem_mem har)).1.in_ ((HAM.out.keep hW).row _ (List.getElem_mem hbr)).1.in_ hlvA hlvB hlenA hlenB
    have hne := gate_ne HKK.out hbok (a := a2) (b := b2) (by omega) (by omega) (G.bothTo k x0).2
    have hrow0 : ∀ s, Cut.gate (G.bothTo k x0).2 (lvs rs[a2].2.2) (lvs rs[b2].2.2) k = s → G.cutRow k (G.bothTo k x0).1 (G.bothTo k x0).2 (x0 + 1) = (s.map (fun l => (l, optV (G.good l (x : Int)))) ++ [([(x : Int)], 2)], Cut.deep (G.bothTo k x0).2 (s.headD [])) := fun s hs => by
      have hp : G.ands.getD (x - G.fst) (0, 0) = (a, b) := by rw [hi, List.getD_eq_getElem?_getD, hgs]; rfl
      unfold AG.cutRow
      rw [hx, if_neg hlow, hp]
      simp only [ha2, hb2, ← HPL.out, plainR_at har, plainR_at hbr, pcs_lvs, hs]
    rw [← HPL.out, plainR_at har, plainR_at hbr, pcs_lvs, pcs_lvs] at hne
    obtain ⟨go, hOA, hoc⟩ := (HAM.out.keep BR.out).cell (by omega)
    have g0 := hoc a2 har
    have g1 := hoc b2 hbr
    have hgo : go < w1.heap.size := World.block_lt_of_cell? _ _ g0
    have HROW := Lib.hid hrow0
    have HNE := Lib.hid hne
    have HGT := Lib.hid hgate
    have HLA := Lib.hid hlvA
    have HLB := Lib.hid hlvB
    have X1 := Lib.hid (X0.out.keep BR.out)
    have c2 := X1.out.cell 2
    generalize rs[a2] = ra at g0 HROW HNE HGT HLA
    generalize rs[b2] = rb at g1 HROW HNE HGT HLB
    clear hrow0 hne hgate hlvA hlvB hlenA hlenB hrowA hrowB hdep hoc e0 e1 hg hgs hbok
    obtain ⟨ra1, ra2, ra3⟩ := ra
    obtain ⟨rb1, rb2, rb3⟩ := rb
    simp only [crv] at g0 g1
    obtain ⟨s, hs⟩ : ∃ s, Cut.gate (G.bothTo k x0).2 (lvs ra3) (lvs rb3) k = s := ⟨_, rfl⟩
    have HR1 := Lib.hid (HROW.out s hs)
    have hgt := fun W hW => HGT.out W hW
    simp only [hs] at hgt
    unfold GateOut at hgt
    have HG2 := Lib.hid hgt
    have hs0 : s ≠ [] := fun e => HNE.out (hs.trans e)
    have HS0 := Lib.hid hs0
    have hsm : ∀ l ∈ s, NodesIn x l := fun l hl => by
      rw [← hs] at hl
      obtain ⟨p, hp, hm⟩ := mem_gate hl
      obtain ⟨h1, h2⟩ := pairs_mem hp
      obtain ⟨c, hc, q1⟩ := List.mem_map.1 h1
      obtain ⟨e, he, q2⟩ := List.mem_map.1 h2
      obtain ⟨-, -, -, -, m5⟩ := Cut.merge_mem hm
      intro z hz
      rcases m5 z hz with h3 | h3
      · rw [← q1] at h3; exact (HLA.out c hc).1 z h3
      · rw [← q2] at h3; exact (HLB.out e he).1 z h3
    have HSM := Lib.hid hsm
    have hsl : s.length ≤ 8 := by rw [← hs]; unfold Cut.gate; rw [List.length_take]; omega
    have hsl6 : ∀ l ∈ s, l.length ≤ 6 := fun l hl => by
      rw [← hs] at hl
      obtain ⟨p, hp, hm⟩ := mem_gate hl
      have := (Cut.merge_mem hm); omega
    have HSL6 := Lib.hid hsl6
    clear hgt hs HROW HGT HNE HLA HLB hs0 hsm hsl6
    have Z1 := Lib.hid (Blk.made w1 38 #[.int .i64 (a : Int), .int .i64 (b : Int)])
    have hax' : (a2 : Int) < (x : Int) := by omega
    have hbx' : (b2 : Int) < (x : Int) := by omega
    subst hOA
    go_upto_region 11 with (fail)
    have BR2 := Lib.hid (below_then BR.out (below_new w1 (.cells #[.int .i64 (a : Int), .int .i64 (b : Int)] 38)))
    have h0 := ((below_new w1 (.cells #[.int .i64 (a : Int), .int .i64 (b : Int)] 38)).cell (p := ⟨go, a2, none⟩) hgo).trans g0
    have h1 := ((below_new w1 (.cells #[.int .i64 (a : Int), .int .i64 (b : Int)] 38)).cell (p := ⟨go, b2, none⟩) hgo).trans g1
    have X2 := Lib.hid (X1.out.alloc (.cells #[.int .i64 (a : Int), .int .i64 (b : Int)] 38))
    have hgo2 : go < (w1.alloc (.cells #[.int .i64 (a : Int), .int .i64 (b : Int)] 38)).heap.size := by simp; omega
    clear f0 f1 g0 g1 c2 X1 BR BW hgo
    generalize w1.alloc (.cells #[.int .i64 (a : Int), .int .i64 (b : Int)] 38) = w2 at Z1 BR2 h0 h1 X2 hgo2 ⊢
    obtain ⟨bz, hbz⟩ : ∃ b, w1.heap.size = b := ⟨_, rfl⟩
    rw [hbz] at Z1 ⊢
    clear hbz
    have z0 : w2.cell? ⟨bz, 0, none⟩ = some (.int .i64 (a : Int)) := Z1.out.cell 0
    have z1 : w2.cell? ⟨bz, 1, none⟩ = some (.int .i64 (b : Int)) := Z1.out.cell 1
    have hbz2 := Z1.out.lt
    have td1 : (a : Int).tdiv 2 = (a2 : Int) := by rw [Int.tdiv_eq_ediv_of_nonneg (by omega)]; omega
    have td2 : (b : Int).tdiv 2 = (b2 : Int) := by rw [Int.tdiv_eq_ediv_of_nonneg (by omega)]; omega
    have tw1 : IntKind.i64.wrap (a2 : Int) = (a2 : Int) := IntWalk.i64_in _ (by omega)
    have tw2 : IntKind.i64.wrap (b2 : Int) = (b2 : Int) := IntWalk.i64_in _ (by omega)
    have HG3 := Lib.hid (HG2.out _ (below_then BR2.out (Below.refl w2.heap.size w2).drew))
    go_region_held3 (fun w' => w'.cell? ⟨bz, 0, none⟩ = some (.int .i64 (a : Int)) ∧ w'.cell? ⟨bz, 1, none⟩ = some (.int .i64 (b : Int)) ∧ w'.cell? ⟨go, a2, none⟩ = some (.slice ra1 ra3.length ra2) ∧ w'.cell? ⟨go, b2, none⟩ = some (.slice rb1 rb3.length rb2)) (go_keep) ((go_at_call 50; (with_reducible refine HG3.out.mono ?_); rintro e w9 ⟨A9, c9, ls, rfl, hb9, hsl9, hcon9, hol9⟩; have hb9 := below_of_drew hb9; have q0 := (hb9.cell hbz2).trans z0; have q1 := (hb9.cell hbz2).trans z1; have q2 := (hb9.cell hgo2).trans h0; have q3 := (hb9.cell hgo2).trans h1))
    have hb99 : Below w2.heap.size w2 w9 := hb9
    have BR9 := Lib.hid (below_then BR2.out hb99)
    have X9 := Lib.hid (X2.out.keep hb99)
    have SL9 := Lib.hid hsl9
    have hll : ls.length = s.length := by have h := congrArg List.length hcon9; rw [con_length] at h; exact h
    have HLL := Lib.hid hll
    have HC9 := Lib.hid hcon9
    have HO9 := Lib.hid (show ∀ l ∈ ls, OwnL wo.heap.size w9 l from fun l hl => own_down (hol9 l hl) BR2.out.size)
    rw [hll]
    clear q0 q1 q2 q3 hb99 hb9 z0 z1 h0 h1 hbz2 hgo2 hsl9 hol9 hll X2 Z1 BR2 HG3 HG2 hcon9
    have htb0 := (fun (W : World) (hW : Below w.heap.size w W) (X : Option Addr) (cx : Nat) (l : List Int) (h1 : Rd W 1 X l.length cx (ints l)) (h2 : l.length ≤ 6) => rtable_any G X cx l (x : Int) W (HIN.out.later hW) HF.out h1 (by omega))
    rw [HAF.out, HAA.out, HAO.out] at htb0
    have HTB := Lib.hid htb0
    clear htb0
    have B9 := Lib.hid (below_then B1.out BR9.out)
    go_wp2_with fail
    go_loopw [10, 14] (fun v10 v14 wx => ∃ (j : Nat) (AL : Option Addr) (cL : Nat) (cs : List CT), j ≤ s.length ∧ v14 = .int .i64 (j : Int) ∧ v10 = .slice AL j cL ∧ cs.length = j ∧ wx.ownsRow w9.heap.size 64 2 (.slice AL j cL) j (cutC cs) ∧ pcs cs = (s.take j).map (fun l => (l, optV (G.good l (x : Int)))) ∧ (∀ c ∈ cs, OwnL wo.heap.size wx c.1) ∧ (∀ l ∈ ls, OwnL wo.heap.size wx l) ∧ Below w9.heap.size w9 wx) (fun _ v14 _ => s.length - (intOf v14).toNat)
    case atStart => exact ⟨0, none, 0, [], by omega, rfl, rfl, rfl, World.ownsRow_nil _ _ _ _, by simp [pcs], fun c hc => (by cases hc), HO9.out, Below.refl _ _⟩
    case round =>
      obtain ⟨j, AL, cL, cs, hj, rfl, rfl, hcl, hown, hpc, hlv, hls, hB⟩ := hrel
      have HCL := Lib.hid hcl
      have HOL := Lib.hid hown
      have HPC := Lib.hid hpc
      have HLV := Lib.hid hlv
      have HLS := Lib.hid hls
      have BX := Lib.hid hB
      clear hcl hown hpc hlv hls hB
      by_cases hjl : j < s.length
      case neg =>
        obtain rfl : j = s.length := by omega
        have hpc2 : pcs cs = s.map (fun l => (l, optV (G.good l (x : Int)))) := by have h := HPC.out; rw [List.take_length] at h; exact h
        have hne0 : 0 < ls.length := by
          rw [HLL.out]
          rcases Nat.eq_zero_or_pos s.length with h0 | h0
          · exact absurd (List.eq_nil_of_length_eq_zero h0) HS0.out
          · exact h0
        have hhd : s.headD [] = ls[0].2.2 := by rw [← HC9.out]; exact head_con ls hne0
        have HR3 := Lib.hid (show G.cutRow k (G.bothTo k x0).1 (G.bothTo k x0).2 (x0 + 1) = (pcs cs ++ [([(x : Int)], 2)], Cut.deep (G.bothTo k x0).2 ls[0].2.2) by rw [HR1.out, hpc2, hhd])
        obtain ⟨q, hA9, hqb, d0, -⟩ := (SL9.out.later BX.out).at_ hne0
        have hmem0 : ls[0].2.2 ∈ s := by rw [← HC9.out]; exact List.mem_map.2 ⟨_, List.getElem_mem hne0, rfl⟩
        have BRX := Lib.hid (below_then BR9.out BX.out)
        have hdeep := fun (W : World) (hW : Below wr.heap.size wr W) => rdeep_any AD ls[0].1 cD ls[0].2.1 x (G.bothTo k x0).2 ls[0].2.2 W (HDI.out W (below_then BRX.out hW)) (Rd.later (SL9.out.all _ (List.getElem_mem hne0)) (below_then BX.out hW)) (HSM.out _ hmem0) (by have := HSL6.out _ hmem0; omega)
        obtain ⟨l0, hl0⟩ : ∃ l, ls[0] = l := ⟨_, rfl⟩
        rw [hl0] at HR3 d0 hdeep
        have hbk := Cut.deep_bound (d := (G.bothTo k x0).2) (l := l0.2.2) (M := 1000000) (by omega) (HDI.out _ BRX.out).small
        have HDP := Lib.hid hdeep
        have hsp : 0 < (s.length : Int) := by rw [HLL.out] at hne0; omega
        simp only [slv] at d0
        rw [show q.add 0 = q from rfl] at d0
        subst hA9
        clear hdeep hl0 hmem0 hhd hne0 hpc2
        generalize Cut.deep (G.bothTo k x0).2 l0.2.2 = y at HR3 HDP hbk
        go_wp2_with fail
        refine (HDP.out _ (Below.refl _ _)).mono ?_
        rintro e w5 ⟨rfl, hb5⟩
        have BR5 := Lib.hid (below_then BRX.out hb5)
        have BW5 := Lib.hid (below_then B1.out BR5.out)
        have L5 := Lib.hid (own_down (own_keep HOL.out hb5) (base' := wo.heap.size) BR9.out.size)
        have LV5 := Lib.hid (show ∀ c ∈ cs, OwnL wo.heap.size w5 c.1 from fun c hc => (HLV.out c hc).later hb5)
        clear hb5 d0 HOL HLV
        go_upto_region 18 with (fail)
        have SZ := Lib.hid (BR5.out.size)
        have SB := Lib.hid (Nat.le_trans B1.out.size BR5.out.size)
        go_upto_region 19 with (at_builtin; refine wpList_app_at rfl (.tmp 89) (.tmp 93) 65 64 rfl Tryz.underlying65 _ 2 32 cut_info rfl (by decide) (by decide) wo.heap.size AL s.length cL (cutC cs) rfl ((L5.out.alloc _).alloc _) ⟨w5.heap.size + 1, 0, none⟩ 1 [.slice (some ⟨w5.heap.size, 0, none⟩) 1 1, .int .u64 2] rfl (rd_of_blk (blk_made1 _ _ _ _) 2 1 rfl) (cut_one2 _ _) (by omega) (Nat.le_trans SZ.out (by simp; omega)) ?_; intro A1 k1 u1 hown1 hgr1 _)
        have BR1 := Lib.hid (Below.grown (below_then (below_then BR5.out (below_new _ _)) (below_new _ _)) hgr1 (Nat.le_trans SZ.out (by simp; omega)) (fun q hq => own_base L5.out (by rw [own_blk]; exact hq)))
        have B2 := Lib.hid (below_then B1.out BR1.out)
        have hleaf := own_of_blkN (base := wo.heap.size) ((Blk.made w5 3 [.int .i64 (x : Int)].toArray).alloc (.cells #[.slice (some ⟨w5.heap.size, 0, none⟩) 1 1, .int .u64 2] 64)) 1 1 rfl SZ.out (by omega)
        have LF1 := Lib.hid (own_grown hleaf ((L5.out.alloc (.cells #[.int .i64 (x : Int)] 3)).alloc (.cells #[.slice (some ⟨w5.heap.size, 0, none⟩) 1 1, .int .u64 2] 64)) (by decide) hgr1)
        obtain ⟨bl, hbl⟩ : ∃ b, w5.heap.size = b := ⟨_, rfl⟩
        have hOR : OwnR wo.heap.size u1 (A1, k1, cs ++ [(((some ⟨bl, 0, none⟩, 1, [(x : Int)]) : SL), 2)]) := by
          refine ⟨?_, fun c hc => ?_⟩
          · show u1.ownsRow _ _ _ (.slice A1 (cs ++ _).length k1) _ _
            rw [cutC_append, List.length_append, HCL.out, ← hbl]
            exact hown1
          · rcases List.mem_append.1 hc with h | h
            · exact own_grown (OwnL.later (OwnL.later (LV5.out c h) (below_new _ _)) (below_new _ _)) ((L5.out.alloc (.cells #[.int .i64 (x : Int)] 3)).alloc (.cells #[.slice (some ⟨w5.heap.size, 0, none⟩) 1 1, .int .u64 2] 64)) (by decide) hgr1
            · rw [List.mem_singleton] at h
              subst h
              rw [← hbl]; exact LF1.out
        have ORW := Lib.hid hOR
        have AM1 := Lib.hid (HAM.out.keep BR1.out)
        have X1 := Lib.hid (X0.out.keep BR1.out)
        clear hown1 hgr1 hleaf hOR hbl
        obtain ⟨R, hR⟩ : ∃ R : CR, (A1, k1, cs ++ [(((some ⟨bl, 0, none⟩, 1, [(x : Int)]) : SL), 2)]) = R := ⟨_, rfl⟩
        have hRv := Lib.hid (show crv R = Value.slice A1 (s.length + 1) k1 from by rw [← hR]; show Value.slice A1 (cs ++ _).length k1 = _; rw [List.length_append, HCL.out]; rfl)
        have HRP := Lib.hid (show pcs R.2.2 = pcs cs ++ [([(x : Int)], 2)] from by rw [← hR]; simp [pcs])
        rw [hR] at ORW
        have HOFF := Lib.hid (show ∀ c ∈ R.2.2, Off AD c.1 from fun c hc => off_own HAM.out.dep (ORW.out.all c hc))
        clear hR
        go_upto_region 20 with (at_builtin; refine wpList_app_at rfl (.tmp 95) (.tmp 97) 56 65 rfl Tryz.underlying56 _ 1 24 cuts_info rfl (by decide) (by decide) w.heap.size (some ⟨go, 0, none⟩) x cO (rs.map crv) rfl (by rw [← HRL.out]; exact AM1.out.out.alloc _) ⟨u1.heap.size, 0, none⟩ 1 [.slice A1 (s.length + 1) k1] rfl (rd_of_blk (Blk.made _ _ _) 1 1 rfl) (fun u hu => by rw [List.mem_singleton] at hu; subst hu; rfl) (by omega) (Nat.le_trans B2.out.size (by simp)) ?_; intro A2 k2 u2 hown2 hgr2 _)
        have AM2 := Lib.hid ((AM1.out.keep (below_new u1 (.cells #[.slice A1 (s.length + 1) k1] 65))).putOut (r := R) ((ORW.out.later (below_new _ _)).down B1.out.size) HOFF.out (by rw [HRL.out, hRv.out]; exact hown2) hgr2)
        have X2 := Lib.hid ((X1.out.alloc (.cells #[.slice A1 (s.length + 1) k1] 65)).grown hgr2 (fun h => own_other (AM1.out.out.alloc (.cells #[.slice A1 (s.length + 1) k1] 65)) (X1.out.alloc (.cells #[.slice A1 (s.length + 1) k1] 65)) (by decide) (by rw [own_blk]; exact h.symm)))
        have B3 := Lib.hid (Below.grown (below_then B2.out (below_new _ _)) hgr2 (Nat.le_trans B2.out.size (by simp)) (fun q hq => own_base AM1.out.out (by rw [own_blk]; exact hq)))
        clear hown2 hgr2 AM1 X1
        go_wp2_with (at_builtin; refine wpList_app_at rfl (.tmp 99) (.tmp 101) 24 3 rfl Tryz.underlying24 _ 1 8 int_infoA rfl (by decide) (by decide) w.heap.size AD x cD (ints (G.bothTo k x0).2) rfl (by rw [← HDL.out]; exact AM2.out.dep.alloc _) ⟨u2.heap.size, 0, none⟩ 1 [.int .i64 (y)] rfl (rd_of_blk (Blk.made _ _ _) 1 1 rfl) (fun u hu => by rw [List.mem_singleton] at hu; subst hu; rfl) (by omega) (Nat.le_trans B3.out.size (by simp)) ?_; intro A3 k3 u3 hown3 hgr3 hat3)
        have AM3 := Lib.hid ((AM2.out.keep (below_new u2 (.cells #[.int .i64 (y)] 3))).putDep (AD' := A3) (cD' := k3) (y := y) (by rw [HDL.out]; exact hown3) hgr3 hat3)
        have X3 := Lib.hid ((X2.out.alloc (.cells #[.int .i64 (y)] 3)).grown hgr3 (fun h => own_other (AM2.out.dep.alloc (.cells #[.int .i64 (y)] 3)) (X2.out.alloc (.cells #[.int .i64 (y)] 3)) (by decide) (by rw [own_blk]; exact h.symm)))
        have B4 := Lib.hid (Below.grown (below_then B3.out (below_new _ _)) hgr3 (Nat.le_trans B3.out.size (by simp)) (fun q hq => own_base AM2.out.dep (by rw [own_blk]; exact hq)))
        clear hown3 hgr3 hat3 AM2 X2
        have hdone : (G.bothTo k (x0 + 1)).1 = plainR (rs ++ [R]) ∧ (G.bothTo k (x0 + 1)).2 = (G.bothTo k x0).2 ++ [y] := by
          have h := HR3.out
          constructor
          · rw [AG.bothTo, h]
            show (G.bothTo k x0).1 ++ [_] = plainR (rs ++ [R])
            rw [plainR_snoc, HRP.out, HPL.out]; try rfl
          · rw [AG.bothTo, h]
        have HDN := Lib.hid hdone
        have hrl : (rs ++ [R]).length = x + 1 := by rw [List.length_append, HRL.out]; rfl
        have HRL2 := Lib.hid hrl
        clear hdone hrl
        go_wp2_with fail
        go_roundw
        case rel => exact ⟨x0 + 1, A2, k2, rs ++ [R], A3, k3, by omega, by go_num, by rw [HRL2.out], by rw [G.bothTo_len k (x0 + 1) |>.2, hx], by rw [HDN.out.2]; exact AM3.out, HDN.out.1.symm, X3.out, B4.out⟩
        case measure => simp [intOf]; omega
      obtain ⟨q, hA9, hqb, d0, -⟩ := (SL9.out.later BX.out).at_ (k := j) (by rw [HLL.out]; exact hjl)
      have hjs : j < ls.length := by rw [HLL.out]; exact hjl
      have hlj : ls[j].2.2 = s[j] := by
        have h := HC9.out
        have h2 := con_at hjs
        simp only [h] at h2
        exact h2.symm
      have hmemj : ls[j].2.2 ∈ s := by rw [hlj]; exact List.getElem_mem hjl
      have htk : (s.take (j + 1)).map (fun l => (l, optV (G.good l (x : Int)))) = (s.take j).map (fun l => (l, optV (G.good l (x : Int)))) ++ [(ls[j].2.2, optV (G.good ls[j].2.2 (x : Int)))] := by
        rw [List.take_succ_eq_append_getElem hjl, List.map_append, hlj]; rfl
      have HTK := Lib.hid htk
      have BRX := Lib.hid (below_then BR9.out BX.out)
      have htb := fun (W : World) (hW : Below wr.heap.size wr W) => HTB.out W (below_then (below_then B1.out BRX.out) hW) ls[j].1 ls[j].2.1 ls[j].2.2 (Rd.later (SL9.out.all _ (List.getElem_mem hjs)) (below_then BX.out hW)) (HSL6.out _ hmemj)
      unfold TblOut at htb
      have hvlt := optV_good_lt G ls[j].2.2 (x : Int) (HSL6.out _ hmemj)
      have HOJ := Lib.hid (HLS.out _ (List.getElem_mem hjs))
      obtain ⟨lj, hljj⟩ : ∃ l, ls[j] = l := ⟨_, rfl⟩
      rw [hljj] at d0 htb HTK hvlt HOJ
      obtain ⟨lA, lc, ll⟩ := lj
      simp only [slv] at d0 htb HTK hvlt
      obtain ⟨gv, hgv⟩ : ∃ o, G.good ll (x : Int) = o := ⟨_, rfl⟩
      rw [hgv] at htb HTK hvlt
      have HT7 := Lib.hid htb
      subst hA9
      have c0 := (X9.out.keep BX.out).cell 0
      have c1 := (X9.out.keep BX.out).cell 1
      have c2 := (X9.out.keep BX.out).cell 2
      have c3 := (X9.out.keep BX.out).cell 3
      have hqb2 : (q.add j).block < wr.heap.size := by rw [add_block]; exact hqb
      have hjl' : (j : Int) < (s.length : Int) := by omega
      clear htb htk hgv hljj hmemj hlj
      go_wp2_with fail
      refine wp_region_still_in (by kernel_rfl) (by kernel_rfl) fun St7 ne7 V7 hV7 hS7 => ?_
      have qc0 := still_cell hV7 c0
      have qc1 := still_cell hV7 c1
      have qc2 := still_cell hV7 c2
      have qc3 := still_cell hV7 c3
      have qd0 := still_cell hV7 d0
      repeat (first | go_big_quiet_step ((go_at_call 51; exact Calls.still hV7 hS7 (HT7.out _ (hV7 _)))) | quiet_step ((go_at_call 51; exact Calls.still hV7 hS7 (HT7.out _ (hV7 _)))))
      refine wpQuiet_nil ?_
      intro _ hw7
      obtain ⟨s7, rfl⟩ := hw7
      have hb7 := hV7 s7
      clear qc0 qc1 qc2 qc3 qd0 hS7
      generalize V7 s7 = w7 at hb7 ⊢
      clear hV7 s7 V7 ne7 St7
      have d7 := (hb7.cell hqb2).trans d0
      have B7 := Lib.hid (below_then BX.out hb7)
      have O7 := Lib.hid (own_keep HOL.out hb7)
      have LV7 := Lib.hid (show ∀ c ∈ cs, OwnL wo.heap.size w7 c.1 from fun c hc => (HLV.out c hc).later hb7)
      have LS7 := Lib.hid (show ∀ l ∈ ls, OwnL wo.heap.size w7 l from fun l hl => (HLS.out l hl).later hb7)
      have OJ7 := Lib.hid (HOJ.out.later hb7)
      clear hb7 d0 c0 c1 c2 c3 HOL HLV HLS HOJ
      have S7 := Lib.hid B7.out.size
      go_wp2_with (at_builtin; refine wpList_app_at rfl (.tmp 75) (.tmp 82) 65 64 rfl Tryz.underlying65 _ 2 32 cut_info rfl (by decide) (by decide) w9.heap.size AL j cL (cutC cs) rfl (O7.out.alloc _) ⟨w7.heap.size, 0, none⟩ 1 [.slice lA ll.length lc, .int .u64 (optV gv : Int)] rfl (rd_of_blk (Blk.made _ _ _) 2 1 rfl) (cut_oneN _ _ _ _) (by omega) (Nat.le_trans S7.out (by simp)) ?_; intro A8 k8 u8 hown8 hgr8 _)
      have hcs8 : (cs ++ [(((lA, lc, ll) : SL), optV gv)]).length = j + 1 := by rw [List.length_append, HCL.out]; rfl
      have HC8 := Lib.hid hcs8
      have O8 := Lib.hid (show u8.ownsRow w9.heap.size 64 2 (.slice A8 (j + 1) k8) (j + 1) (cutC (cs ++ [(((lA, lc, ll) : SL), optV gv)])) by rw [cutC_append]; exact hown8)
      have P8 := Lib.hid (show pcs (cs ++ [(((lA, lc, ll) : SL), optV gv)]) = (s.take (j + 1)).map (fun l => (l, optV (G.good l (x : Int)))) by rw [HTK.out, ← HPC.out]; simp [pcs])
      have LV8 := Lib.hid (show ∀ c ∈ cs ++ [(((lA, lc, ll) : SL), optV gv)], OwnL wo.heap.size u8 c.1 from fun c hc => by
        rcases List.mem_append.1 hc with h | h
        · exact own_grown ((LV7.out c h).later (below_new _ _)) (O7.out.alloc (.cells #[.slice lA ll.length lc, .int .u64 (optV gv : Int)] 64)) (by decide) hgr8
        · rw [List.mem_singleton] at h
          subst h
          exact own_grown (OwnL.later (l := (lA, lc, ll)) OJ7.out (below_new _ _)) (O7.out.alloc (.cells #[.slice lA ll.length lc, .int .u64 (optV gv : Int)] 64)) (by decide) hgr8)
      have LS8 := Lib.hid (show ∀ l ∈ ls, OwnL wo.heap.size u8 l from fun l hl => own_grown ((LS7.out l hl).later (below_new _ _)) (O7.out.alloc (.cells #[.slice lA ll.length lc, .int .u64 (optV gv : Int)] 64)) (by decide) hgr8)
      have B8 := Lib.hid ((below_then B7.out (below_new _ _)).grown hgr8 (Nat.le_trans S7.out (by simp)) (fun q hq => own_base O7.out (by rw [own_blk]; exact hq)))
      clear hown8 hgr8 hcs8
      go_wp2_with fail
      go_roundw
      case rel => exact ⟨j + 1, A8, k8, _, by omega, by go_num, rfl, HC8.out, O8.out, P8.out, LV8.out, LS8.out, B8.out⟩
      case measure => simp [intOf]; omega
end Go.Proofs.YtaajnmggbhnndaaGreatDoor

namespace Go.Proofs.YtaajnmggbhnndaaGreatDoor
open Go.RowKit
set_option linter.unusedVariables false
set_option linter.unusedSimpArgs false
/-- may cuts be told -/
def AG.may (G : AG) (k : Int) : Prop := G.ok ∧ 2 ≤ k ∧ k ≤ 6
instance (G : AG) (k : Int) : Decidable (G.may k) := by unfold AG.may; infer_instance
def AG.mayE (G : AG) (k : Int) : Int := if G.may k then 0 else 1
def AllOut (G : AG) (k : Int) (w : World) (r : Ending) (w' : World) : Prop :=
  (G.may k → ∃ AO cO rs AD cD, r = .returned (.tuple #[.slice AO (rs : List CR).length cO, .int .i64 0]) ∧ BothSt (G.bothTo k (G.cn - 1)) w AO cO rs AD cD w') ∧ (¬ G.may k → r = .returned (.tuple #[.slice none 0 0, .int .i64 1]) ∧ Below w.heap.size w w')
def DepOut (G : AG) (k : Int) (w : World) (r : Ending) (w' : World) : Prop :=
  (G.may k → ∃ AO cO rs AD cD, r = .returned (.tuple #[.slice AD (G.bothTo k (G.cn - 1)).2.length cD, .int .i64 0]) ∧ BothSt (G.bothTo k (G.cn - 1)) w AO cO rs AD cD w') ∧ (¬ G.may k → r = .returned (.tuple #[.slice none 0 0, .int .i64 1]) ∧ Below w.heap.size w w')
set_option maxRecDepth 100000 in
set_option maxHeartbeats 1000000 in
theorem rmay24_any (G : AG) (k : Int) (w : World) (hin : G.In w) (hf : G.fit) :
    Calls Tryz.prog 36 #[.agg #[.int .i64 G.I, .slice G.AF G.fl.length G.cF, .slice G.AA G.an.length G.cA, .slice G.AO G.ou.length G.cO], .int .i64 k] w fun r w' => r = .returned (.int .i64 (G.mayE k)) ∧ Below w.heap.size w w' := by
  have X0 := Lib.hid (Blk.made w 26 #[.int .i64 G.I, .slice G.AF G.fl.length G.cF, .slice G.AA G.an.length G.cA, .slice G.AO G.ou.length G.cO])
  have B0 := Lib.hid (below_new w (.cells #[.int .i64 G.I, .slice G.AF G.fl.length G.cF, .slice G.AA G.an.length G.cA, .slice G.AO G.ou.length G.cO] 26))
  have HCH := fun (W : World) (hB : Below w.heap.size w W) => rcheck18_any G W (hin.later hB) hf
  obtain ⟨r, hr⟩ : ∃ r, G.mayE k = r := ⟨_, rfl⟩
  rw [hr]
  have c0 := X0.out.cell 0
  have c1 := X0.out.cell 1
  have c2 := X0.out.cell 2
  have c3 := X0.out.cell 3
  by_cases hok : G.ok
  case neg =>
    have hE : G.E = 1 := if_neg hok
    have HR := Lib.hid (show r = 1 by rw [← hr]; exact if_neg (fun h => hok h.1))
    rw [hE] at HCH
    have HC := Lib.hid HCH
    clear hr hE hin hf HCH
    go_enter Tryz.func36, Tryz.ntmps36
    go_wp2_with fail
    refine (HC.out _ B0.out).mono ?_
    rintro e w1 ⟨rfl, hb1⟩
    have B1 := Lib.hid (below_then B0.out hb1)
    clear hb1
    go_wp2_with fail
    go_ret
    exact ⟨by rw [HR.out]; rfl, B1.out⟩
  have hE : G.E = 0 := if_pos hok
  rw [hE] at HCH
  have HC := Lib.hid HCH
  by_cases hk2 : k < 2
  · have HR := Lib.hid (show r = 1 by rw [← hr]; exact if_neg (fun h => by have := h.2.1; omega))
    clear hr hE hin hf HCH hok
    go_enter Tryz.func36, Tryz.ntmps36
    go_wp2_with fail
    refine (HC.out _ B0.out).mono ?_
    rintro e w1 ⟨rfl, hb1⟩
    have B1 := Lib.hid (below_then B0.out hb1)
    clear hb1
    go_wp2_with fail
    go_ret
    exact ⟨by rw [HR.out]; rfl, B1.out⟩
  by_cases hk6 : 6 < k
  · have HR := Lib.hid (show r = 1 by rw [← hr]; exact if_neg (fun h => by have := h.2.2; omega))
    clear hr hE hin hf HCH hok
    go_enter Tryz.func36, Tryz.ntmps36
    go_wp2_with fail
    refine (HC.out _ B0.out).mono ?_
    rintro e w1 ⟨rfl, hb1⟩
    have B1 := Lib.hid (below_then B0.out hb1)
    clear hb1
    go_wp2_with fail
    go_ret
    exact ⟨by rw [HR.out]; rfl, B1.out⟩
  · have HR := Lib.hid (show r = 0 by rw [← hr]; exact if_pos ⟨hok, by omega, by omega⟩)
    clear hr hE hin hf HCH hok
    go_enter Tryz.func36, Tryz.ntmps36
    go_wp2_with fail
    refine (HC.out _ B0.out).mono ?_
    rintro e w1 ⟨rfl, hb1⟩
    have B1 := Lib.hid (below_then B0.out hb1)
    clear hb1
    go_wp2_with fail
    go_ret
    exact ⟨by rw [HR.out]; rfl, B1.out⟩
theorem BothSt.back {st : List (List PC) × List Int} {w w0 w' : World} {AO : Option Addr} {cO : Nat} {rs : List CR} {AD : Option Addr} {cD : Nat} (h : BothSt st w0 AO cO rs AD cD w') (hb : Below w.heap.size w w0) : BothSt st w AO cO rs AD cD w' :=
  ⟨below_then hb h.1, ⟨own_down h.2.1.out hb.size, fun r hr => ⟨(h.2.1.row r hr).1.down hb.size, (h.2.1.row r hr).2⟩, own_down h.2.1.dep hb.size⟩, h.2.2⟩
set_option maxRecDepth 100000 in
set_option maxHeartbeats 1000000 in
theorem rall24_any (G : AG) (k : Int) (w : World) (hin : G.In w) (hf : G.fit) :
    Calls Tryz.prog 21 #[.agg #[.int .i64 G.I, .slice G.AF G.fl.length G.cF, .slice G.AA G.an.length G.cA, .slice G.AO G.ou.length G.cO], .int .i64 k] w (AllOut G k w) := by
  have X0 := Lib.hid (Blk.made w 26 #[.int .i64 G.I, .slice G.AF G.fl.length G.cF, .slice G.AA G.an.length G.cA, .slice G.AO G.ou.length G.cO])
  have B0 := Lib.hid (below_new w (.cells #[.int .i64 G.I, .slice G.AF G.fl.length G.cF, .slice G.AA G.an.length G.cA, .slice G.AO G.ou.length G.cO] 26))
  have HMA := fun (W : World) (hB : Below w.heap.size w W) => rmay24_any G k W (hin.later hB) hf
  have c0 := X0.out.cell 0
  have c1 := X0.out.cell 1
  have c2 := X0.out.cell 2
  have c3 := X0.out.cell 3
  by_cases hm : G.may k
  case neg =>
    have hE : G.mayE k = 1 := if_neg hm
    rw [hE] at HMA
    have HM := Lib.hid HMA
    have HN := Lib.hid hm
    clear hE hin hf HMA hm
    go_enter Tryz.func21, Tryz.ntmps21
    go_wp2_with fail
    refine (HM.out _ B0.out).mono ?_
    rintro e w1 ⟨rfl, hb1⟩
    have B1 := Lib.hid (below_then B0.out hb1)
    clear hb1
    go_wp2_with fail
    go_ret2
    exact ⟨fun h => absurd h HN.out, fun _ => ⟨rfl, B1.out⟩⟩
  have hE : G.mayE k = 0 := if_pos hm
  rw [hE] at HMA
  have HM := Lib.hid HMA
  have HBO := fun (W : World) (hB : Below w.heap.size w W) => rboth_any G k W (hin.later hB) hf hm.1 hm.2
  unfold BothOut at HBO
  have HB := Lib.hid HBO
  have HY := Lib.hid hm
  clear hE hin hf HMA hm HBO
  go_enter Tryz.func21, Tryz.ntmps21
  go_wp2_with fail
  refine (HM.out _ B0.out).mono ?_
  rintro e w1 ⟨rfl, hb1⟩
  have B1 := Lib.hid (below_then B0.out hb1)
  have X1 := Lib.hid (X0.out.keep hb1)
  clear hb1 c0 c1 c2 c3
  have c0 := X1.out.cell 0
  have c1 := X1.out.cell 1
  have c2 := X1.out.cell 2
  have c3 := X1.out.cell 3
  go_wp2_with fail
  refine (HB.out _ B1.out).mono ?_
  rintro e w2 ⟨AO, cO, rs, AD, cD, rfl, hst⟩
  have HS := Lib.hid (hst.back B1.out)
  clear hst c0 c1 c2 c3
  go_wp2_with fail
  go_ret2
  exact ⟨fun _ => ⟨AO, cO, rs, AD, cD, rfl, HS.out⟩, fun h => absurd HY.out h⟩
end Go.Proofs.YtaajnmggbhnndaaGreatDoor

namespace Go.Proofs.YtaajnmggbhnndaaGreatDoor
open Go.RowKit
set_option linter.unusedVariables false
set_option linter.unusedSimpArgs false
/-- what stands in memory: out, depths, the row at hand, the ranked sets, the box, rows, leaves -/
structure R23 (base wo : Nat) (u : World) (OA : Option Addr) (nO cO : Nat) (CO : List Value) (AD : Option Addr) (nD cD : Nat) (CD : List Value) (AL : Option Addr) (nL cL : Nat) (CL : List Value)
    (gq n9 c9 : Nat) (K9 : List Value) (gx : Nat) (CX : Array Value) (qs : List CR) (cs : List CT) : Prop where
  oo : u.ownsRow base 65 1 (.slice OA nO cO) nO CO
  dd : u.ownsRow base 3 1 (.slice AD nD cD) nD CD
  ll : u.ownsRow wo 64 2 (.slice AL nL cL) nL CL
  kr : u.ownsRow base 102 9 (.slice (some ⟨gq, 0, none⟩) n9 c9) n9 K9
  bx : Blk u gx 26 CX
  rw_ : ∀ r ∈ qs, OwnR base u r ∧ (∀ g, blkOf r.1 = some g → g < wo) ∧ ∀ c ∈ r.2.2, Off AD c.1
  lv : ∀ c ∈ cs, OwnL wo u c.1 ∧ Off AD c.1
  sz : wo ≤ u.heap.size ∧ base ≤ wo
section
variable {base wo : Nat} {u u' : World} {OA : Option Addr} {nO cO : Nat} {CO : List Value} {AD : Option Addr} {nD cD : Nat} {CD : List Value} {AL : Option Addr} {nL cL : Nat} {CL : List Value}
    {gq n9 c9 : Nat} {K9 : List Value} {gx : Nat} {CX : Array Value} {qs : List CR} {cs : List CT}
theorem R23.later (h : R23 base wo u OA nO cO CO AD nD cD CD AL nL cL CL gq n9 c9 K9 gx CX qs cs) (hb : Below u.heap.size u u') : R23 base wo u' OA nO cO CO AD nD cD CD AL nL cL CL gq n9 c9 K9 gx CX qs cs :=
  ⟨own_keep h.oo hb, own_keep h.dd hb, own_keep h.ll hb, own_keep h.kr hb, h.bx.keep hb, fun r hr => ⟨(h.rw_ r hr).1.later hb, (h.rw_ r hr).2⟩, fun c hc => ⟨(h.lv c hc).1.later hb, (h.lv c hc).2⟩, Nat.le_trans h.sz.1 hb.size, h.sz.2⟩
theorem R23.alloc (h : R23 base wo u OA nO cO CO AD nD cD CD AL nL cL CL gq n9 c9 K9 gx CX qs cs) (o : Obj) : R23 base wo (u.alloc o) OA nO cO CO AD nD cD CD AL nL cL CL gq n9 c9 K9 gx CX qs cs := h.later (below_new _ _)
theorem blk_grown {b s n k c g : Nat} {e t : TypeId} {A : Option Addr} {xs : List Value} {cells : Array Value} (hb : Blk u g t cells) (ho : u.ownsRow b e s (.slice A k c) n xs) (hne : e ≠ t) (hg : u.grownBy u' (blkOf A)) : Blk u' g t cells :=
  hb.grown hg (fun h => own_other ho hb hne (by rw [own_blk]; exact h.symm))
theorem R23.appOut (h : R23 base wo u OA nO cO CO AD nD cD CD AL nL cL CL gq n9 c9 K9 gx CX qs cs) {OA' : Option Addr} {nO' cO' : Nat} {CO' : List Value} (ho : u'.ownsRow base 65 1 (.slice OA' nO' cO') nO' CO') (hg : u.grownBy u' (blkOf OA)) :
    R23 base wo u' OA' nO' cO' CO' AD nD cD CD AL nL cL CL gq n9 c9 K9 gx CX qs cs :=
  ⟨ho, own_grown h.dd h.oo (by decide) hg, own_grown h.ll h.oo (by decide) hg, own_grown h.kr h.oo (by decide) hg, blk_grown h.bx h.oo (by decide) hg,
    fun r hr => ⟨⟨own_grown (h.rw_ r hr).1.row h.oo (by decide) hg, fun c hc => own_grown ((h.rw_ r hr).1.all c hc) h.oo (by decide) hg⟩, (h.rw_ r hr).2⟩,
    fun c hc => ⟨own_grown (h.lv c hc).1 h.oo (by decide) hg, (h.lv c hc).2⟩, Nat.le_trans h.sz.1 hg.size, h.sz.2⟩
theorem R23.appRow (h : R23 base wo u OA nO cO CO AD nD cD CD AL nL cL CL gq n9 c9 K9 gx CX qs cs) {AL' : Option Addr} {nL' cL' : Nat} {CL' : List Value} (ho : u'.ownsRow wo 64 2 (.slice AL' nL' cL') nL' CL') (hg : u.grownBy u' (blkOf AL)) :
    R23 base wo u' OA nO cO CO AD nD cD CD AL' nL' cL' CL' gq n9 c9 K9 gx CX qs cs := by
  refine ⟨own_grown h.oo h.ll (by decide) hg, own_grown h.dd h.ll (by decide) hg, ho, own_grown h.kr h.ll (by decide) hg, blk_grown h.bx h.ll (by decide) hg, fun r hr => ⟨⟨?_, fun c hc => own_grown ((h.rw_ r hr).1.all c hc) h.ll (by decide) hg⟩, (h.rw_ r hr).2⟩,
    fun c hc => ⟨own_grown (h.lv c hc).1 h.ll (by decide) hg, (h.lv c hc).2⟩, Nat.le_trans h.sz.1 hg.size, h.sz.2⟩
  refine World.ownsRow.kept (h.rw_ r hr).1.row hg ?_
  cases hl : (crv r).ownBlock with
  | none => exact .inl rfl
  | some g =>
    refine .inr (fun e => ?_)
    have h1 := (h.rw_ r hr).2.1 g (by rw [show (crv r).ownBlock = blkOf r.1 from own_blk _ _ _] at hl; exact hl)
    have h2 := own_base h.ll (k := g) (by rw [own_blk]; exact e.symm)
    omega
theorem off_at {A A' : Option Addr} {l : SL} (ho : Off A l) (hl : OwnL base u l) (hat : blkOf A' = blkOf A ∨ blkOf A' = some u.heap.size) : Off A' l := fun g hg he => by
  rcases hat with e | e
  · exact ho g hg (e.symm.trans he)
  · have := hl.lt hg
    rw [e] at he
    cases he
    omega
theorem R23.appDep (h : R23 base wo u OA nO cO CO AD nD cD CD AL nL cL CL gq n9 c9 K9 gx CX qs cs) {AD' : Option Addr} {nD' cD' : Nat} {CD' : List Value} (ho : u'.ownsRow base 3 1 (.slice AD' nD' cD') nD' CD') (hg : u.grownBy u' (blkOf AD)) (hat : blkOf AD' = blkOf AD ∨ blkOf AD' = some u.heap.size) :
    R23 base wo u' OA nO cO CO AD' nD' cD' CD' AL nL cL CL gq n9 c9 K9 gx CX qs cs :=
  ⟨own_grown h.oo h.dd (by decide) hg, ho, own_grown h.ll h.dd (by decide) hg, own_grown h.kr h.dd (by decide) hg, blk_grown h.bx h.dd (by decide) hg,
    fun r hr => ⟨⟨own_grown (h.rw_ r hr).1.row h.dd (by decide) hg, fun c hc => ((h.rw_ r hr).1.all c hc).off ((h.rw_ r hr).2.2 c hc) hg⟩, (h.rw_ r hr).2.1, fun c hc => off_at ((h.rw_ r hr).2.2 c hc) ((h.rw_ r hr).1.all c hc) hat⟩,
    fun c hc => ⟨(h.lv c hc).1.off (h.lv c hc).2 hg, off_at (h.lv c hc).2 (h.lv c hc).1 hat⟩, Nat.le_trans h.sz.1 hg.size, h.sz.2⟩
theorem R23.cell (h : R23 base wo u OA nO cO CO AD nD cD CD AL nL cL CL gq n9 c9 K9 gx CX qs cs) {v : Value} (hv : K9[0]? = some v) : u.cell? ⟨gq, 0, none⟩ = some v := by
  have := h.kr.cells (g := gq) rfl 0 v hv
  rw [Addr.add_lit] at this
  simpa using this
/-- a leaf of one's own, while depths are put in -/
theorem blk_dep {gl : Nat} {t : TypeId} {cells : Array Value} (hb : Blk u gl t cells) (hg : u.grownBy u' (blkOf AD)) (hne : blkOf AD ≠ some gl) : Blk u' gl t cells := hb.grown hg (fun e => hne e.symm)
/-- when all is put in -/
theorem R23.done {rs : List CR} {d : List Int} {leaf : Int} {gl n : Nat} (h : R23 base wo u OA (n + 1) cO (rs.map crv ++ [.slice AL (nL + 1) cL]) AD (nD + 1) cD CD AL (nL + 1) cL (cutC cs ++ [.slice (some ⟨gl, 0, none⟩) 1 1, .int .u64 2]) gq n9 c9 K9 gx CX rs cs)
    (hl : Blk u gl 3 #[.int .i64 leaf]) (hgl : wo ≤ gl) (hoff : blkOf AD ≠ some gl) (hcl : cs.length = nL) (hrl : rs.length = n) (hd : CD = ints d) (hdl : d.length = nD + 1) :
    AllM base u OA cO (rs ++ [((AL, cL, cs ++ [(((some ⟨gl, 0, none⟩, 1, [leaf]) : SL), 2)]) : CR)]) AD cD d := by
  subst hcl hrl hd
  have hlen : (cs ++ [(((some ⟨gl, 0, none⟩, 1, [leaf]) : SL), 2)]).length = cs.length + 1 := by simp
  have hcv : crv (AL, cL, cs ++ [(((some ⟨gl, 0, none⟩, 1, [leaf]) : SL), 2)]) = .slice AL (cs.length + 1) cL := by unfold crv; rw [hlen]
  have hlf : OwnL wo u (some ⟨gl, 0, none⟩, 1, [leaf]) := own_of_blkN (cs := [.int .i64 leaf]) hl 1 1 rfl hgl (by omega)
  refine ⟨?_, fun r hr => ?_, ?_⟩
  · rw [List.map_append, List.map_cons, List.map_nil, hcv, List.length_append]; exact h.oo
  · rcases List.mem_append.1 hr with h1 | h1
    · exact ⟨(h.rw_ r h1).1, (h.rw_ r h1).2.2⟩
    · rw [List.mem_singleton] at h1
      subst h1
      refine ⟨⟨?_, fun c hc => ?_⟩, fun c hc => ?_⟩
      · rw [hcv]
        simp only [hlen, cutC_append]
        exact own_down h.ll h.sz.2
      · rcases List.mem_append.1 hc with h2 | h2
        · exact own_down (h.lv c h2).1 h.sz.2
        · rw [List.mem_singleton] at h2; subst h2; exact own_down hlf h.sz.2
      · rcases List.mem_append.1 hc with h2 | h2
        · exact (h.lv c h2).2
        · rw [List.mem_singleton] at h2; subst h2
          intro g hg he
          have e : gl = g := Option.some.inj hg
          subst e; exact hoff he
  · rw [hdl]; exact h.dd
end
end Go.Proofs.YtaajnmggbhnndaaGreatDoor

namespace Go.Proofs.YtaajnmggbhnndaaGreatDoor
open Go.RowKit
set_option linter.unusedVariables false
set_option linter.unusedSimpArgs false
def CBothOut (G : AG) (k : Int) (w : World) (r : Ending) (w' : World) : Prop :=
  (G.may k → ∃ AO cO rs AD cD, r = .returned (.tuple #[.slice AO (rs : List CR).length cO, .slice AD (G.bothTo k (G.cn - 1)).2.length cD, .int .i64 0]) ∧ BothSt (G.bothTo k (G.cn - 1)) w AO cO rs AD cD w') ∧ (¬ G.may k → r = .returned (.tuple #[.slice none 0 0, .slice none 0 0, .int .i64 1]) ∧ Below w.heap.size w w')
set_option maxRecDepth 100000 in
set_option maxHeartbeats 1000000 in
theorem cboth_no (G : AG) (k : Int) (w : World) (hin : G.In w) (hf : G.fit) (hw : G.wf) (hm : ¬ G.may k) :
    Calls Tryz.prog 35 #[.agg #[.int .i64 G.I, .slice G.AF G.fl.length G.cF, .slice G.AA G.an.length G.cA, .slice G.AO G.ou.length G.cO], .int .i64 k] w fun r w' => r = .returned (.tuple #[.slice none 0 0, .slice none 0 0, .int .i64 1]) ∧ Below w.heap.size w w' := by
  have X0 := Lib.hid (Blk.made w 26 #[.int .i64 G.I, .slice G.AF G.fl.length G.cF, .slice G.AA G.an.length G.cA, .slice G.AO G.ou.length G.cO])
  have B0 := Lib.hid (below_new w (.cells #[.int .i64 G.I, .slice G.AF G.fl.length G.cF, .slice G.AA G.an.length G.cA, .slice G.AO G.ou.length G.cO] 26))
  have HCH := fun (W : World) (hB : Below w.heap.size w W) => acheck_any G W (hin.later hB) hf hw
  have c0 := X0.out.cell 0
  have c1 := X0.out.cell 1
  have c2 := X0.out.cell 2
  have c3 := X0.out.cell 3
  by_cases hok : G.ok
  case neg =>
    have hE : G.E = 1 := if_neg hok
    rw [hE] at HCH
    have HC := Lib.hid HCH
    clear hE hin hf HCH hw hm
    go_enter Tryz.func35, Tryz.ntmps35
    go_wp2_with fail
    refine (HC.out _ B0.out).mono ?_
    rintro e w1 ⟨rfl, hb1⟩
    have B1 := Lib.hid (below_then B0.out hb1)
    clear hb1
    go_wp2_with fail
    go_ret3
    exact ⟨rfl, B1.out⟩
  have hE : G.E = 0 := if_pos hok
  rw [hE] at HCH
  have HC := Lib.hid HCH
  by_cases hk2 : k < 2
  · clear hE hin hf HCH hok hw hm
    go_enter Tryz.func35, Tryz.ntmps35
    go_wp2_with fail
    refine (HC.out _ B0.out).mono ?_
    rintro e w1 ⟨rfl, hb1⟩
    have B1 := Lib.hid (below_then B0.out hb1)
    clear hb1
    go_wp2_with fail
    go_ret3
    exact ⟨rfl, B1.out⟩
  have hk6 : 6 < k := by
    rcases Int.lt_or_le 6 k with h | h
    · exact h
    · exact absurd ⟨hok, by omega, h⟩ hm
  clear hE hin hf HCH hok hw hm
  go_enter Tryz.func35, Tryz.ntmps35
  go_wp2_with fail
  refine (HC.out _ B0.out).mono ?_
  rintro e w1 ⟨rfl, hb1⟩
  have B1 := Lib.hid (below_then B0.out hb1)
  clear hb1
  go_wp2_with fail
  go_ret3
  exact ⟨rfl, B1.out⟩
theorem head_rlv (ls : List RK) (h : 0 < ls.length) : (rlv ls).headD [] = ls[0].2.2.2 := by
  cases ls with
  | nil => simp at h
  | cons y t => rfl
theorem own_blk_lt {w : World} {b s n k c g : Nat} {e : TypeId} {A : Option Addr} {xs : List Value} (h : w.ownsRow b e s (.slice A k c) n xs) (hg : blkOf A = some g) : g < w.heap.size := by
  obtain ⟨cs, hb⟩ := own_int h (g := g) (by rw [own_blk]; exact hg)
  exact hb.lt
theorem OwnL.rd {base : Nat} {w : World} {l : SL} (h : OwnL base w l) : Rd w 1 l.1 l.2.2.length l.2.1 (ints l.2.2) := Rd.of_own h
/-- the nine cells of a ranked set in a row that is read -/
theorem nine_rd {w : World} {A : Option Addr} {n c : Nat} {ls : List RK} (h : Rd w 9 A n c (rkC ls)) {j : Nat} (hj : j < ls.length) (hn : ls.length = n) :
    ∃ q r0 r1 r2 r3 r4 r5 r6 r7, A = some q ∧ q.block < w.heap.size ∧ w.cell? (q.add (j * 9)) = some (.int .i64 r0) ∧ w.cell? ⟨(q.add (j * 9)).block, (q.add (j * 9)).off + 1, none⟩ = some (.int .i64 r1) ∧ w.cell? ⟨(q.add (j * 9)).block, (q.add (j * 9)).off + 2, none⟩ = some (.int .i64 r2) ∧ w.cell? ⟨(q.add (j * 9)).block, (q.add (j * 9)).off + 3, none⟩ = some (.int .i64 r3) ∧ w.cell? ⟨(q.add (j * 9)).block, (q.add (j * 9)).off + 4, none⟩ = some (.int .i64 r4) ∧ w.cell? ⟨(q.add (j * 9)).block, (q.add (j * 9)).off + 5, none⟩ = some (.int .i64 r5) ∧ w.cell? ⟨(q.add (j * 9)).block, (q.add (j * 9)).off + 6, none⟩ = some (.int .i64 r6) ∧ w.cell? ⟨(q.add (j * 9)).block, (q.add (j * 9)).off + 7, none⟩ = some (.int .i64 r7) ∧ w.cell? ⟨(q.add (j * 9)).block, (q.add (j * 9)).off + 8, none⟩ = some (slv ls[j].2) := by
  have hg := fun i (hi : i < 9) => rkC_get ls j i hj hi
  obtain ⟨q, hA, hb, h0⟩ := h.read (j * 9 + 0) (.int .i64 ((r8 ls[j].1).getD 0 0)) (by rw [hg 0 (by omega)]; rfl)
  have hi : ∀ i (v : Value), i < 9 → i ≠ 0 → (encR ls[j])[i]? = some v → w.cell? ⟨(q.add (j * 9)).block, (q.add (j * 9)).off + i, none⟩ = some v := fun i v hi h0 hv => by
    obtain ⟨q', e, -, h1⟩ := h.read (j * 9 + i) v (by rw [hg i hi]; exact hv)
    rw [hA] at e
    obtain rfl := Option.some.inj e
    rw [← h1]
    congr 1
    unfold Addr.add
    by_cases hz : j * 9 = 0
    · simp [hz, h0]
    · simp [hz, Nat.add_assoc]
  exact ⟨q, _, _, _, _, _, _, _, _, hA, hb, h0, hi 1 _ (by omega) (by omega) rfl, hi 2 _ (by omega) (by omega) rfl, hi 3 _ (by omega) (by omega) rfl, hi 4 _ (by omega) (by omega) rfl, hi 5 _ (by omega) (by omega) rfl, hi 6 _ (by omega) (by omega) rfl, hi 7 _ (by omega) (by omega) rfl, hi 8 _ (by omega) (by omega) rfl⟩
/-- the relation of the gates' loop -/
structure CLoop (G : AG) (k : Int) (w : World) (x0 : Nat) (v8 v9 : Value) (AF AA AO : Option Addr) (wx : World) : Prop where
  ex : ∃ (OA : Option Addr) (cO : Nat) (rs : List CR) (AD : Option Addr) (cD : Nat), v8 = .slice OA rs.length cO ∧ v9 = .slice AD (G.bothTo k x0).2.length cD ∧ AllM w.heap.size wx OA cO rs AD cD (G.bothTo k x0).2 ∧ plainR rs = (G.bothTo k x0).1 ∧ Blk wx w.heap.size 26 #[.int .i64 G.I, .slice AF G.fl.length G.cF, .slice AA G.an.length G.cA, .slice AO G.ou.length G.cO] ∧ Below w.heap.size w wx
set_option maxRecDepth 100000 in
set_option maxHeartbeats 8000000 in
theorem cboth_yes (G : AG) (k : Int) (w : World) (hin : G.In w) (hf : G.fit) (hw : G.wf) (hm : G.may k) (hcols : COLS w) :
    Calls Tryz.prog 35 #[.agg #[.int .i64 G.I, .slice G.AF G.fl.length G.cF, .slice G.AA G.an.length G.cA, .slice G.AO G.ou.length G.cO], .int .i64 k] w fun r w' => ∃ AO cO rs AD cD, r = .returned (.tuple #[.slice AO (rs : List CR).length cO, .slice AD (G.bothTo k (G.cn - 1)).2.length cD, .int .i64 0]) ∧ BothSt (G.bothTo k (G.cn - 1)) w AO cO rs AD cD w' := by
  have X0 := Lib.hid (Blk.made w 26 #[.int .i64 G.I, .slice G.AF G.fl.length G.cF, .slice G.AA G.an.length G.cA, .slice G.AO G.ou.length G.cO])
  have B0 := Lib.hid (below_new w (.cells #[.int .i64 G.I, .slice G.AF G.fl.length G.cF, .slice G.AA G.an.length G.cA, .slice G.AO G.ou.length G.cO] 26))
  have hE : G.E = 0 := if_pos hm.1
  have hch := fun (W : World) (hB : Below w.heap.size w W) => acheck_any G W (hin.later hB) hf hw
  rw [hE] at hch
  have hok := hm.1
  have hfst' : G.I + (G.fl.length : Int) = ((G.fst - 1 : Nat) : Int) := by have := hok.firstN; unfold AG.first at this; unfold AG.fst at *; omega
  have hcn3 : G.cn ≤ 3001 := by have := hf.i; have := hf.f; have := hf.a; have := hok.1; unfold AG.cn AG.fst; omega
  have hcn1 : 1 ≤ G.fst := by unfold AG.fst; omega
  have hFn : G.fst + G.an.length = G.cn := rfl
  have hI0 := hok.1
  have hI1 := hf.i
  have hI2 := hf.f
  have hk2 : ¬ k < 2 := by have := hm.2.1; omega
  have hk6 : ¬ 6 < k := by have := hm.2.2; omega
  have HBO := Lib.hid (fun x (hx : x < G.cn) => G.bothTo_ok hm.2 hok x hx)
  have HIN := Lib.hid hin
  have HF := Lib.hid hf
  have HOK := Lib.hid hok
  have HKK := Lib.hid hm.2
  have HCOL := Lib.hid hcols
  obtain ⟨AF, hAF⟩ : ∃ A, G.AF = A := ⟨_, rfl⟩
  obtain ⟨AA, hAA⟩ : ∃ A, G.AA = A := ⟨_, rfl⟩
  obtain ⟨AO, hAO⟩ : ∃ A, G.AO = A := ⟨_, rfl⟩
  have HAF := Lib.hid hAF
  have HAA := Lib.hid hAA
  have HAO := Lib.hid hAO
  rw [hAF, hAA, hAO] at X0 B0 hch ⊢
  have HCH := Lib.hid hch
  have c0 := X0.out.cell 0
  have c1 := X0.out.cell 1
  have c2 := X0.out.cell 2
  have c3 := X0.out.cell 3
  clear hAF hAA hAO hin hf hok hch hE hm hw hcols
  go_enter Tryz.func35, Tryz.ntmps35
  go_wp2_with fail
  refine (HCH.out _ B0.out).mono ?_
  rintro e w0 ⟨rfl, hb0⟩
  have B1 := Lib.hid (below_then B0.out hb0)
  have X1 := Lib.hid (X0.out.keep hb0)
  clear hb0 c0 c1 c2 c3 X0 B0 HCH
  have c0 := X1.out.cell 0
  have c1 := X1.out.cell 1
  have c2 := X1.out.cell 2
  have c3 := X1.out.cell 3
  go_upto_region 7 with (fail)
  have hsz0 := B1.out.size
  have hstart : AllM w.heap.size ((((w0.alloc (.cells #[.slice none 0 0, .int .u64 0] 64)).alloc (.cells #[.slice (some ⟨w0.heap.size, 0, none⟩) 1 1] 65)).alloc (.cells #[.int .i64 0] 3))) (some ⟨w0.heap.size + 1, 0, none⟩) 1 [((some ⟨w0.heap.size, 0, none⟩, 1, [((none, 0, []), 0)]) : CR)] (some ⟨w0.heap.size + 1 + 1, 0, none⟩) 1 [0] := by
    refine ⟨own_of_blkN ((blk_made1 w0 _ _ _).alloc _) 1 1 rfl (by omega) (by omega), fun r hr => ?_, own_of_blkN (blk_made2 w0 _ _ _ _) 1 1 rfl (by omega) (by omega)⟩
    rw [List.mem_singleton] at hr
    subst hr
    refine ⟨⟨own_of_blkN (((Blk.made w0 _ _).alloc _).alloc _) 2 1 rfl (by omega) (by omega), fun c hc => ?_⟩, fun c hc g hg => ?_⟩
    · rw [List.mem_singleton] at hc; subst hc; exact World.ownsRow_nil _ _ _ _
    · rw [List.mem_singleton] at hc; subst hc; cases hg
  have HST := Lib.hid hstart
  have XS := Lib.hid (((X1.out.alloc (.cells #[.slice none 0 0, .int .u64 0] 64)).alloc (.cells #[.slice (some ⟨w0.heap.size, 0, none⟩) 1 1] 65)).alloc (.cells #[.int .i64 0] 3))
  have BS := Lib.hid (below_then (below_then (below_then B1.out (below_new _ (.cells #[.slice none 0 0, .int .u64 0] 64))) (below_new _ (.cells #[.slice (some ⟨w0.heap.size, 0, none⟩) 1 1] 65))) (below_new _ (.cells #[.int .i64 0] 3)))
  clear hstart c0 c1 c2 c3 X1 B1 hsz0
  generalize (((w0.alloc (.cells #[.slice none 0 0, .int .u64 0] 64)).alloc (.cells #[.slice (some ⟨w0.heap.size, 0, none⟩) 1 1] 65)).alloc (.cells #[.int .i64 0] 3)) = ws at HST XS BS ⊢
  have c0 := XS.out.cell 0
  have c1 := XS.out.cell 1
  have c2 := XS.out.cell 2
  have c3 := XS.out.cell 3
  go_wp2_with fail
  clear c0 c1 c2 c3
  go_loopw [8, 9, 44] (fun v8 v9 v44 wx => ∃ x0 : Nat, x0 + 1 ≤ G.fst ∧ v44 = .int .i64 (x0 : Int) ∧ CLoop G k w x0 v8 v9 AF AA AO wx) (fun _ _ v44 _ => G.fst - (intOf v44).toNat)
  case atStart => exact ⟨0, by omega, rfl, ⟨_, _, _, _, _, rfl, rfl, HST.out, rfl, XS.out, BS.out⟩⟩
  case round =>
    obtain ⟨x0, hx0, rfl, ⟨OA, cO, rs, AD, cD, rfl, rfl, hAM, hPL, hX, hB⟩⟩ := hrel
    have HAM := Lib.hid hAM
    have HPL := Lib.hid hPL
    have X0 := Lib.hid hX
    have B1 := Lib.hid hB
    have hrl0 : rs.length = x0 + 1 := by have h := congrArg List.length hPL; rw [plainR_len, (G.bothTo_len k x0).1] at h; exact h
    have hdl0 := (G.bothTo_len k x0).2
    obtain ⟨x, hx⟩ : ∃ x, x0 + 1 = x := ⟨_, rfl⟩
    rw [hx] at hrl0 hdl0 hx0
    have HRL := Lib.hid hrl0
    have HDL := Lib.hid hdl0
    rw [HRL.out, HDL.out]
    clear hAM hPL hX hB hrl0 hdl0 HST XS BS
    by_cases hlt : x < G.fst
    case pos =>
      have hlt' : (x0 : Int) < ((G.fst - 1 : Nat) : Int) := by omega
      have hdone : (G.bothTo k (x0 + 1)).1 = (G.bothTo k x0).1 ++ [[([(x : Int)], 2)]] ∧ (G.bothTo k (x0 + 1)).2 = (G.bothTo k x0).2 ++ [0] := by
        have h : G.cutRow k (G.bothTo k x0).1 (G.bothTo k x0).2 (x0 + 1) = ([([(x : Int)], 2)], 0) := by unfold AG.cutRow; rw [hx, if_pos hlt]
        constructor
        · rw [AG.bothTo, h]
        · rw [AG.bothTo, h]
      have HDN := Lib.hid hdone
      have SZ := Lib.hid B1.out.size
      have AMA := Lib.hid (((HAM.out.keep (below_new wr (.cells #[.int .i64 (x : Int)] 3))).keep (below_new _ (.cells #[.slice (some ⟨wr.heap.size, 0, none⟩) 1 1, .int .u64 2] 64))).keep (below_new _ (.cells #[.slice (some ⟨wr.heap.size + 1, 0, none⟩) 1 1] 65)))
      have BA := Lib.hid (below_then (below_then (below_then B1.out (below_new wr (.cells #[.int .i64 (x : Int)] 3))) (below_new _ (.cells #[.slice (some ⟨wr.heap.size, 0, none⟩) 1 1, .int .u64 2] 64))) (below_new _ (.cells #[.slice (some ⟨wr.heap.size + 1, 0, none⟩) 1 1] 65)))
      have XA := Lib.hid (((X0.out.alloc (.cells #[.int .i64 (x : Int)] 3)).alloc (.cells #[.slice (some ⟨wr.heap.size, 0, none⟩) 1 1, .int .u64 2] 64)).alloc (.cells #[.slice (some ⟨wr.heap.size + 1, 0, none⟩) 1 1] 65))
      have HR : OwnR w.heap.size (((wr.alloc (.cells #[.int .i64 (x : Int)] 3)).alloc (.cells #[.slice (some ⟨wr.heap.size, 0, none⟩) 1 1, .int .u64 2] 64)).alloc (.cells #[.slice (some ⟨wr.heap.size + 1, 0, none⟩) 1 1] 65)) (some ⟨wr.heap.size + 1, 0, none⟩, 1, [(((some ⟨wr.heap.size, 0, none⟩, 1, [(x : Int)]) : SL), 2)]) := by
        refine ⟨own_of_blkN ((blk_made1 wr _ _ _).alloc _) 2 1 rfl (by have := SZ.out; omega) (by omega), fun c hc => ?_⟩
        rw [List.mem_singleton] at hc; subst hc
        exact own_of_blkN (((Blk.made wr _ _).alloc _).alloc _) 1 1 rfl SZ.out (by omega)
      have HRO := Lib.hid HR
      have HOFF := Lib.hid (show ∀ c ∈ [(((some ⟨wr.heap.size, 0, none⟩, 1, [(x : Int)]) : SL), 2)], Off AD c.1 from fun c hc => by
        rw [List.mem_singleton] at hc; subst hc
        exact off_new HAM.out.dep (Nat.le_refl _) _ _)
      have hoa := AMA.out.out
      have hod := AMA.out.dep
      rw [HRL.out] at hoa
      rw [HDL.out] at hod
      have OAX := Lib.hid hoa
      have ODX := Lib.hid hod
      clear HR hdone hoa hod
      go_wp2_with (at_builtin; first
        | (refine wpList_app_at rfl (.tmp 46) (.tmp 52) 56 65 rfl Tryz.underlying56 _ 1 24 cuts_info rfl (by decide) (by decide) w.heap.size OA x cO (rs.map crv) rfl OAX.out ⟨wr.heap.size + 1 + 1, 0, none⟩ 1 [.slice (some ⟨wr.heap.size + 1, 0, none⟩) 1 1] rfl (rd_of_blk (blk_made2 wr _ _ _ _) 1 1 rfl) (fun u hu => by rw [List.mem_singleton] at hu; subst hu; rfl) (by omega) BA.out.size ?_; intro A2 k2 u2 hown2 hgr2 _)
        | (refine wpList_app_at rfl (.tmp 54) (.tmp 55) 24 3 rfl Tryz.underlying24 _ 1 8 int_infoA rfl (by decide) (by decide) w.heap.size AD x cD (ints (G.bothTo k x0).2) rfl ((own_grown ODX.out OAX.out (by decide) hgr2).alloc _) ⟨u2.heap.size, 0, none⟩ 1 [.int .i64 0] rfl (rd_of_blk (Blk.made _ _ _) 1 1 rfl) (fun u hu => by rw [List.mem_singleton] at hu; subst hu; rfl) (by omega) (Nat.le_trans BA.out.size (Nat.le_trans hgr2.size (by simp))) ?_; intro A3 k3 u3 hown3 hgr3 hat3))
      have AM2 := Lib.hid (AMA.out.putOut (r := (some ⟨wr.heap.size + 1, 0, none⟩, 1, [(((some ⟨wr.heap.size, 0, none⟩, 1, [(x : Int)]) : SL), 2)])) HRO.out HOFF.out (by rw [HRL.out]; exact hown2) hgr2)
      have X2 := Lib.hid (XA.out.grown hgr2 (fun h => own_other AMA.out.out XA.out (by decide) (by rw [own_blk]; exact h.symm)))
      have B3 := Lib.hid (Below.grown BA.out hgr2 BA.out.size (fun q hq => own_base AMA.out.out (by rw [own_blk]; exact hq)))
      have AM3 := Lib.hid ((AM2.out.keep (below_new u2 (.cells #[.int .i64 0] 3))).putDep (AD' := A3) (cD' := k3) (y := 0) (by rw [HDL.out]; exact hown3) hgr3 hat3)
      have X3 := Lib.hid ((X2.out.alloc (.cells #[.int .i64 0] 3)).grown hgr3 (fun h => own_other (AM2.out.dep.alloc (.cells #[.int .i64 0] 3)) (X2.out.alloc (.cells #[.int .i64 0] 3)) (by decide) (by rw [own_blk]; exact h.symm)))
      have B4 := Lib.hid (Below.grown (below_then B3.out (below_new _ _)) hgr3 (Nat.le_trans B3.out.size (by simp)) (fun q hq => own_base AM2.out.dep (by rw [own_blk]; exact hq)))
      have hrl : (rs ++ [((some ⟨wr.heap.size + 1, 0, none⟩, 1, [(((some ⟨wr.heap.size, 0, none⟩, 1, [(x : Int)]) : SL), 2)]) : CR)]).length = x + 1 := by rw [List.length_append, HRL.out]; rfl
      have HRL2 := Lib.hid hrl
      clear hown2 hgr2 hown3 hgr3 hat3 hrl AM2 X2
      go_wp2_with fail
      go_roundw
      case rel => exact ⟨x0 + 1, by omega, by go_num, ⟨A2, k2, _, A3, k3, by rw [HRL2.out], by rw [G.bothTo_len k (x0 + 1) |>.2, hx], by rw [HDN.out.2]; exact AM3.out, by rw [plainR_snoc, HPL.out, HDN.out.1]; rfl, X3.out, B4.out⟩⟩
      case measure => simp [intOf]; omega
    obtain rfl : x = G.fst := by omega
    have hlt' : ¬ (x0 : Int) < ((G.fst - 1 : Nat) : Int) := by omega
    have c0 := X0.out.cell 0
    have c1 := X0.out.cell 1
    have c2 := X0.out.cell 2
    have c3 := X0.out.cell 3
    have hxf : x0 = G.fst - 1 := by omega
    have HCL0 := Lib.hid (show CLoop G k w (G.fst - 1) (.slice OA G.fst cO) (.slice AD G.fst cD) AF AA AO wr from ⟨OA, cO, rs, AD, cD, by rw [HRL.out], by rw [← hxf, HDL.out], by rw [← hxf]; exact HAM.out, by rw [← hxf]; exact HPL.out, X0.out, B1.out⟩)
    go_wp2_with fail
    clear c0 c1 c2 c3
    go_loopw [8, 9, 61] (fun v8 v9 v61 wx => ∃ i : Nat, i ≤ G.an.length ∧ v61 = .int .i64 (i : Int) ∧ CLoop G k w (G.fst - 1 + i) v8 v9 AF AA AO wx) (fun _ _ v61 _ => G.an.length - (intOf v61).toNat)
    case atStart => exact ⟨0, by omega, rfl, HCL0.out⟩
    case round =>
      clear HCL0 HAM HPL X0 B1 HRL HDL hlt hlt' hxf
      obtain ⟨i, hi, rfl, ⟨OB, cB, qs, AE, cE, rfl, rfl, hAM, hPL, hX, hB⟩⟩ := hrel
      obtain ⟨wo, hwo⟩ : ∃ W, W = wr := ⟨_, rfl⟩
      subst hwo
      obtain ⟨y0, hy0⟩ : ∃ q, G.fst - 1 + i = q := ⟨_, rfl⟩
      rw [hy0] at hAM hPL ⊢
      have HAM := Lib.hid hAM
      have HPL := Lib.hid hPL
      have X0 := Lib.hid hX
      have B1 := Lib.hid hB
      have hrl0 : qs.length = y0 + 1 := by have h := congrArg List.length hPL; rw [plainR_len, (G.bothTo_len k y0).1] at h; exact h
      have hdl0 := (G.bothTo_len k y0).2
      obtain ⟨x, hx⟩ : ∃ x, y0 + 1 = x := ⟨_, rfl⟩
      rw [hx] at hrl0 hdl0
      have HRL := Lib.hid hrl0
      have HDL := Lib.hid hdl0
      rw [HRL.out, HDL.out]
      clear hAM hPL hX hB hrl0 hdl0
      by_cases hin : i < G.an.length
      case neg =>
        obtain hie : i = G.an.length := by omega
        have hlt3 : ¬ (i : Int) < (G.an.length : Int) := by omega
        have hye : G.cn - 1 = y0 := by omega
        have HYE := Lib.hid hye
        clear hye
        go_wp2_with fail
        go_ret3
        rw [HYE.out]
        exact ⟨OB, cB, qs, AE, cE, by rw [HRL.out, HDL.out]; rfl, B1.out, HAM.out, HPL.out⟩
      have hin' : (i : Int) < (G.an.length : Int) := by omega
      have hxi : G.fst + i = x := by omega
      have hxcn : x < G.cn := by omega
      obtain ⟨a, b, hg, hgs, ha, hb, ha3, hb3⟩ := HOK.out.gate hin
      rw [hxi] at ha hb
      obtain ⟨pa, hPA, hpb, e0, e1⟩ := HIN.out.an.two (pc_get G.an i hin).1 (pc_get G.an i hin).2
      rw [hg] at e0 e1
      rw [HAA.out] at hPA
      subst hPA
      have f0 := (B1.out.cell (p := pa.add (i * 2)) (by rw [add_block]; exact hpb)).trans e0
      have f1 := (B1.out.cell (p := ⟨(pa.add (i * 2)).block, (pa.add (i * 2)).off + 1, none⟩) (by show (pa.add (i * 2)).block < _; rw [add_block]; exact hpb)).trans e1
      obtain ⟨a2, ha2⟩ : ∃ d, a / 2 = d := ⟨_, rfl⟩
      obtain ⟨b2, hb2⟩ : ∃ d, b / 2 = d := ⟨_, rfl⟩
      have hax : a2 < x := by omega
      have hbx : b2 < x := by omega
      have har : a2 < qs.length := by rw [HRL.out]; exact hax
      have hbr : b2 < qs.length := by rw [HRL.out]; exact hbx
      have hbok := HBO.out y0 (by omega)
      have hrowA := (hbok.row a2 (by omega))
      have hrowB := (hbok.row b2 (by omega))
      rw [← HPL.out, plainR_at har] at hrowA
      rw [← HPL.out, plainR_at hbr] at hrowB
      have hlvA : LvIn x qs[a2].2.2 := fun c hc => by
        have h := hrowA.lv (c.1.2.2, c.2) (List.mem_map.2 ⟨c, hc, rfl⟩)
        exact ⟨h.1.mono (by omega), h.2.2.1⟩
      have hlvB : LvIn x qs[b2].2.2 := fun c hc => by
        have h := hrowB.lv (c.1.2.2, c.2) (List.mem_map.2 ⟨c, hc, rfl⟩)
        exact ⟨h.1.mono (by omega), h.2.2.1⟩
      have hposA : ∀ c ∈ qs[a2].2.2, ∀ z ∈ c.1.2.2, 1 ≤ z := fun c hc => (hrowA.lv (c.1.2.2, c.2) (List.mem_map.2 ⟨c, hc, rfl⟩)).2.2.2.2
      have hposB : ∀ c ∈ qs[b2].2.2, ∀ z ∈ c.1.2.2, 1 ≤ z := fun c hc => (hrowB.lv (c.1.2.2, c.2) (List.mem_map.2 ⟨c, hc, rfl⟩)).2.2.2.2
      have hlenA : qs[a2].2.2.length ≤ 50 := by have := hrowA.len.2; simp [pcs] at this; omega
      have hlenB : qs[b2].2.2.length ≤ 50 := by have := hrowB.len.2; simp [pcs] at this; omega
      have hdep : ∀ W, Below wo.heap.size wo W → DepIn W AE cE x (G.bothTo k y0).2 := fun W hW => by
        refine ⟨?_, fun y hy => ?_⟩
        · have h := Rd.of_own (HAM.out.keep hW).dep
          rw [HDL.out] at h; exact h
        · obtain ⟨j, hj, rfl⟩ := List.mem_iff_getElem.1 hy
          have h := (hbok.dep j (by rw [HDL.out] at hj; omega)).2
          rw [List.getD_eq_getElem?_getD, List.getElem?_eq_getElem hj] at h
          rw [HDL.out] at hj
          simp only [Option.getD_some] at h
          omega
      have hmsne : Cut.msTo (lvs qs[a2].2.2) (lvs qs[b2].2.2) k (qs[a2].2.2.length * qs[b2].2.2.length) ≠ [] := by
        obtain ⟨z, p, hp, hm⟩ := gate_some HKK.out hbok (a := a2) (b := b2) (by omega) (by omega)
        rw [← HPL.out, plainR_at har, plainR_at hbr, pcs_lvs, pcs_lvs] at hp
        have h := (Cut.msTo_all (lvs qs[a2].2.2) (lvs qs[b2].2.2) k z).2 ⟨p, hp, hm⟩
        rw [lvs_length, lvs_length] at h
        intro he
        rw [he] at h; cases h
      have hsets := fun (W : World) (hW : Below wo.heap.size wo W) => csets_any AE qs[a2].1 qs[b2].1 cE qs[a2].2.1 qs[b2].2.1 x (G.bothTo k y0).2 qs[a2].2.2 qs[b2].2.2 k W (hdep W hW) ((HAM.out.keep hW).row _ (List.getElem_mem har)).1.in_ ((HAM.out.keep hW).row _ (List.getElem_mem hbr)).1.in_ hlvA hlvB hlenA hlenB hmsne
      have hne := gate_ne HKK.out hbok (a := a2) (b := b2) (by omega) (by omega) (G.bothTo k y0).2
      have hrow0 : ∀ s, Cut.gate (G.bothTo k y0).2 (lvs qs[a2].2.2) (lvs qs[b2].2.2) k = s → G.cutRow k (G.bothTo k y0).1 (G.bothTo k y0).2 (y0 + 1) = (s.map (fun l => (l, optV (G.good l (x : Int)))) ++ [([(x : Int)], 2)], Cut.deep (G.bothTo k y0).2 (s.headD [])) := fun s hs => by
        have hp : G.ands.getD (x - G.fst) (0, 0) = (a, b) := by rw [show x - G.fst = i by omega, List.getD_eq_getElem?_getD, hgs]; rfl
        unfold AG.cutRow
        rw [hx, if_neg (by omega), hp]
        simp only [ha2, hb2, ← HPL.out, plainR_at har, plainR_at hbr, pcs_lvs, hs]
      rw [← HPL.out, plainR_at har, plainR_at hbr, pcs_lvs, pcs_lvs] at hne
      obtain ⟨go, hOA, hoc⟩ := HAM.out.cell (by omega)
      have g0 := hoc a2 har
      have g1 := hoc b2 hbr
      have hgo : go < wo.heap.size := World.block_lt_of_cell? _ _ g0
      have HROW := Lib.hid hrow0
      have HNE := Lib.hid hne
      have HGT := Lib.hid hsets
      have HLA := Lib.hid hlvA
      have HLB := Lib.hid hlvB
      have HPA := Lib.hid hposA
      have HPB := Lib.hid hposB
      have HDI := Lib.hid hdep
      generalize qs[a2] = ra at g0 HROW HNE HGT HLA HPA
      generalize qs[b2] = rb at g1 HROW HNE HGT HLB HPB
      clear hrow0 hne hsets hlvA hlvB hlenA hlenB hrowA hrowB hdep hoc e0 e1 hg hgs hbok hmsne hposA hposB
      obtain ⟨ra1, ra2, ra3⟩ := ra
      obtain ⟨rb1, rb2, rb3⟩ := rb
      simp only [crv] at g0 g1
      obtain ⟨s, hs⟩ : ∃ s, Cut.gate (G.bothTo k y0).2 (lvs ra3) (lvs rb3) k = s := ⟨_, rfl⟩
      have HR1 := Lib.hid (HROW.out s hs)
      have hgt := fun W hW => HGT.out W hW
      simp only [hs] at hgt
      unfold SetsOut at hgt
      have HG2 := Lib.hid hgt
      have hs0 : s ≠ [] := fun e => HNE.out (hs.trans e)
      have HS0 := Lib.hid hs0
      have hsm : ∀ l ∈ s, NodesIn x l ∧ Cut.Rises l ∧ l.length ≤ 6 ∧ ∀ z ∈ l, 1 ≤ z := fun l hl => by
        rw [← hs] at hl
        obtain ⟨p, hp, hm⟩ := mem_gate hl
        obtain ⟨h1, h2⟩ := pairs_mem hp
        obtain ⟨c, hc, q1⟩ := List.mem_map.1 h1
        obtain ⟨e, he, q2⟩ := List.mem_map.1 h2
        obtain ⟨-, m2, m3, m4, m5⟩ := Cut.merge_mem hm
        refine ⟨fun z hz => ?_, m2, by omega, fun z hz => ?_⟩
        · rcases m5 z hz with h3 | h3
          · rw [← q1] at h3; exact (HLA.out c hc).1 z h3
          · rw [← q2] at h3; exact (HLB.out e he).1 z h3
        · rcases m5 z hz with h3 | h3
          · rw [← q1] at h3; exact HPA.out c hc z h3
          · rw [← q2] at h3; exact HPB.out e he z h3
      have HSM := Lib.hid hsm
      have hsl : s.length ≤ 8 := by rw [← hs]; unfold Cut.gate; rw [List.length_take]; omega
      clear hgt hs HROW HGT HNE HLA HLB hs0 hsm HPA HPB
      have Z1 := Lib.hid (Blk.made wo 38 #[.int .i64 (a : Int), .int .i64 (b : Int)])
      have hax' : (a2 : Int) < (x : Int) := by omega
      have hbx' : (b2 : Int) < (x : Int) := by omega
      subst hOA
      go_upto_region 16 with (fail)
      have BR2 := Lib.hid (below_new wo (.cells #[.int .i64 (a : Int), .int .i64 (b : Int)] 38))
      have h0 := ((below_new wo (.cells #[.int .i64 (a : Int), .int .i64 (b : Int)] 38)).cell (p := ⟨go, a2, none⟩) hgo).trans g0
      have h1 := ((below_new wo (.cells #[.int .i64 (a : Int), .int .i64 (b : Int)] 38)).cell (p := ⟨go, b2, none⟩) hgo).trans g1
      have X2 := Lib.hid (X0.out.alloc (.cells #[.int .i64 (a : Int), .int .i64 (b : Int)] 38))
      have hgo2 : go < (wo.alloc (.cells #[.int .i64 (a : Int), .int .i64 (b : Int)] 38)).heap.size := by simp; omega
      clear f0 f1 g0 g1
      generalize hw2 : wo.alloc (.cells #[.int .i64 (a : Int), .int .i64 (b : Int)] 38) = w2 at Z1 BR2 h0 h1 X2 hgo2 ⊢
      clear hw2
      obtain ⟨bz, hbz⟩ : ∃ b, wo.heap.size = b := ⟨_, rfl⟩
      have HBZ := Lib.hid hbz
      rw [hbz] at Z1 ⊢
      clear hbz
      have z0 : w2.cell? ⟨bz, 0, none⟩ = some (.int .i64 (a : Int)) := Z1.out.cell 0
      have z1 : w2.cell? ⟨bz, 1, none⟩ = some (.int .i64 (b : Int)) := Z1.out.cell 1
      have hbz2 := Z1.out.lt
      have td1 : (a : Int).tdiv 2 = (a2 : Int) := by rw [Int.tdiv_eq_ediv_of_nonneg (by omega)]; omega
      have td2 : (b : Int).tdiv 2 = (b2 : Int) := by rw [Int.tdiv_eq_ediv_of_nonneg (by omega)]; omega
      have tw1 : IntKind.i64.wrap (a2 : Int) = (a2 : Int) := IntWalk.i64_in _ (by omega)
      have tw2 : IntKind.i64.wrap (b2 : Int) = (b2 : Int) := IntWalk.i64_in _ (by omega)
      have HG3 := Lib.hid (HG2.out _ (below_then BR2.out (Below.refl w2.heap.size w2).drew))
      go_region_held3 (fun w' => w'.cell? ⟨bz, 0, none⟩ = some (.int .i64 (a : Int)) ∧ w'.cell? ⟨bz, 1, none⟩ = some (.int .i64 (b : Int)) ∧ w'.cell? ⟨go, a2, none⟩ = some (.slice ra1 ra3.length ra2) ∧ w'.cell? ⟨go, b2, none⟩ = some (.slice rb1 rb3.length rb2)) (go_keep) ((go_at_call 47; (with_reducible refine HG3.out.mono ?_); rintro e w9 ⟨A9, c9, ls, rfl, hb9, hrd9, hol9, hok9, hcon9⟩; have hb9 := below_of_drew hb9; have q0 := (hb9.cell hbz2).trans z0; have q1 := (hb9.cell hbz2).trans z1; have q2 := (hb9.cell hgo2).trans h0; have q3 := (hb9.cell hgo2).trans h1))
      have hb99 : Below w2.heap.size w2 w9 := hb9
      have BR9 := Lib.hid (below_then BR2.out hb99)
      have X9 := Lib.hid (X2.out.keep hb99)
      have RO9 := Lib.hid hrd9
      have HW2 := Lib.hid (show w.heap.size ≤ w2.heap.size from Nat.le_trans B1.out.size (by have := BR2.out.size; simpa using this))
      have RD9 := Lib.hid (Rd.of_own hrd9)
      have HOK9 := Lib.hid hok9
      have hll : ls.length = s.length := by have h := congrArg List.length hcon9; rw [rlv, List.length_map] at h; exact h
      have HLL := Lib.hid hll
      have HC9 := Lib.hid hcon9
      have HO9 := Lib.hid (show ∀ l ∈ ls, OwnL wo.heap.size w9 l.2 from fun l hl => own_down (hol9 l hl) (by have := BR2.out.size; simpa using this))
      rw [hll]
      rw [hll] at RD9 RO9
      clear q0 q1 q2 q3 hb99 hb9 z0 z1 h0 h1 hbz2 hgo2 hrd9 hol9 hll X2 Z1 BR2 HG3 HG2 hcon9 hok9
      have htb0 := fun (W : World) (hW : Below w.heap.size w W) (X : Option Addr) (cx : Nat) (l : List Int) (h1 : Rd W 1 X l.length cx (ints l)) (h2 : leavesB G.cnt l = true) => ctable_any G X cx l x W (HIN.out.later hW) HF.out HOK.out h1 h2 hxcn (HCOL.out.below hW)
      rw [HAF.out, HAA.out, HAO.out] at htb0
      have HTB := Lib.hid htb0
      clear htb0
      have B9 := Lib.hid (below_then B1.out BR9.out)
      have hgood : ∀ l ∈ s, leavesB G.cnt l = true ∧ G.table l x = G.good l (x : Int) := fun l hl => by
        have h := HSM.out l hl
        have hcn := HOK.out.cnt
        have hlv : leavesB G.cnt l = true := by
          unfold leavesB
          have h6 : decide (l.length ≤ 6) = true := decide_eq_true h.2.2.1
          have hr : decide (Cut.Rises l) = true := decide_eq_true h.2.1
          rw [h6, hr]
          rcases Nat.eq_zero_or_pos l.length with h0 | h0
          · simp [h0]
          · have m0 := getD_mem (l := l) (k := 0) h0
            have m1 := getD_mem (l := l) (k := l.length - 1) (by omega)
            have q1 := h.2.2.2 _ m0
            have q2 := (h.1 _ m1).2
            have d1 : decide (1 ≤ l.getD 0 0) = true := decide_eq_true q1
            have d2 : decide (l.getD (l.length - 1) 0 ≤ G.cnt) = true := decide_eq_true (by omega)
            rw [d1, d2]; simp
        refine ⟨hlv, ?_⟩
        have hg := AG.good_yes (G := G) (l := l) (node := (x : Int)) ⟨HOK.out, by omega, by omega, hlv⟩
        rw [hg, Int.toNat_natCast]
      have HGD := Lib.hid hgood
      clear hgood
      go_wp2_with fail
      go_loopw [13, 84] (fun v13 v84 wx => ∃ (j : Nat) (AL : Option Addr) (cL : Nat) (cs : List CT), j ≤ s.length ∧ v84 = .int .i64 (j : Int) ∧ v13 = .slice AL j cL ∧ cs.length = j ∧ wx.ownsRow w9.heap.size 64 2 (.slice AL j cL) j (cutC cs) ∧ pcs cs = (s.take j).map (fun l => (l, optV (G.good l (x : Int)))) ∧ (∀ c ∈ cs, OwnL wo.heap.size wx c.1) ∧ (∀ l ∈ ls, OwnL wo.heap.size wx l.2) ∧ Below w9.heap.size w9 wx) (fun _ v84 _ => s.length - (intOf v84).toNat)
      case atStart => exact ⟨0, none, 0, [], by omega, rfl, rfl, rfl, World.ownsRow_nil _ _ _ _, by simp [pcs], fun c hc => (by cases hc), HO9.out, Below.refl _ _⟩
      case round =>
        obtain ⟨j, AL, cL, cs, hj, rfl, rfl, hcl, hown, hpc, hlv, hls, hB⟩ := hrel
        have HCL := Lib.hid hcl
        have HOL := Lib.hid hown
        have HPC := Lib.hid hpc
        have HLV := Lib.hid hlv
        have HLS := Lib.hid hls
        have BX := Lib.hid hB
        clear hcl hown hpc hlv hls hB
        by_cases hjl : j < s.length
        case neg =>
          obtain rfl : j = s.length := by omega
          have hne0 : 0 < ls.length := by
            rw [HLL.out]
            rcases Nat.eq_zero_or_pos s.length with h0 | h0
            · exact absurd (List.eq_nil_of_length_eq_zero h0) HS0.out
            · exact h0
          have hs1 : 0 < s.length := by rw [← HLL.out]; exact hne0
          have hpc2 : pcs cs = s.map (fun l => (l, optV (G.good l (x : Int)))) := by have h := HPC.out; rw [List.take_length] at h; exact h
          have hhd : s.headD [] = ls[0].2.2.2 := by rw [← HC9.out]; exact head_rlv ls hne0
          have HR3 := Lib.hid (show G.cutRow k (G.bothTo k y0).1 (G.bothTo k y0).2 (y0 + 1) = (pcs cs ++ [([(x : Int)], 2)], Cut.deep (G.bothTo k y0).2 ls[0].2.2.2) by rw [HR1.out, hpc2, hhd])
          have hk9 : (rkC ls)[0]? = some (.int .i64 (Cut.deep (G.bothTo k y0).2 ls[0].2.2.2)) := by
            have h := rkC_get ls 0 0 hne0 (by omega)
            rw [show (0 : Nat) * 9 + 0 = 0 from rfl] at h
            rw [h]
            have h2 := (HOK9.out ls[0] (List.getElem_mem hne0)).1
            unfold encR
            rw [h2]; rfl
          have BRX := Lib.hid (below_then BR9.out BX.out)
          have BWX := Lib.hid (below_then B1.out BRX.out)
          obtain ⟨gq, hA9, hgq, hgql⟩ := own_some RO9.out hs1
          subst hA9
          have hroB : w.heap.size ≤ w9.heap.size := B9.out.size
          have hoo := (HAM.out.keep BRX.out).out
          have hdd := (HAM.out.keep BRX.out).dep
          rw [HRL.out] at hoo
          rw [HDL.out] at hdd
          have h0 : R23 w.heap.size wo.heap.size wr (some ⟨go, 0, none⟩) x cB (qs.map crv) AE x cE (ints (G.bothTo k y0).2) AL s.length cL (cutC cs) gq s.length c9 (rkC ls) w.heap.size #[.int .i64 G.I, .slice AF G.fl.length G.cF, .slice (some pa) G.an.length G.cA, .slice AO G.ou.length G.cO] qs cs :=
            ⟨hoo, hdd, own_down HOL.out BR9.out.size, own_keep (own_down RO9.out HW2.out) BX.out, X9.out.keep BX.out, fun r hr => ⟨((HAM.out.keep BRX.out).row r hr).1, fun g hg => own_blk_lt (HAM.out.row r hr).1.row hg, (HAM.out.row r hr).2⟩, fun c hc => ⟨HLV.out c hc, off_own HAM.out.dep (HLV.out c hc)⟩, BRX.out.size, B1.out.size⟩
          have H0 := Lib.hid (h0.later (below_drewN (Below.refl wr.heap.size wr) 1))
          have HK9 := Lib.hid hk9
          obtain ⟨y, hy⟩ : ∃ y, Cut.deep (G.bothTo k y0).2 ls[0].2.2.2 = y := ⟨_, rfl⟩
          rw [hy] at HR3 HK9
          have H0 := Lib.hid (show R23 w.heap.size wo.heap.size wr.drew (some ⟨go, 0, none⟩) x cB (qs.map crv) AE x cE (ints (G.bothTo k y0).2) AL s.length cL (cutC cs) gq s.length c9 (rkC ls) w.heap.size #[.int .i64 G.I, .slice AF G.fl.length G.cF, .slice (some pa) G.an.length G.cA, .slice AO G.ou.length G.cO] qs cs from H0.out)
          have HCE := Lib.hid (show wr.drew.cell? ⟨gq, 0, none⟩ = some (.int .i64 y) from H0.out.cell HK9.out)
          have HAL := Lib.hid (show ∀ g, blkOf AE = some g → g < wr.heap.size from fun g hg => own_blk_lt hdd hg)
          have SZW := Lib.hid BRX.out.size
          have BD := Lib.hid (show Below w.heap.size w wr.drew from below_drewN BWX.out 1)
          have hdone : (G.bothTo k (y0 + 1)).1 = (G.bothTo k y0).1 ++ [pcs cs ++ [([(x : Int)], 2)]] ∧ (G.bothTo k (y0 + 1)).2 = (G.bothTo k y0).2 ++ [y] := by
            constructor
            · rw [AG.bothTo, HR3.out]
            · rw [AG.bothTo, HR3.out]
          have HDN := Lib.hid hdone
          have HY1 := Lib.hid (show G.fst - 1 + (i + 1) = y0 + 1 by omega)
          have hsp : 0 < (s.length : Int) := by omega
          clear h0 hoo hdd hk9 hy hhd hpc2 hdone
          go_upto_region 23 with (fail)
          refine wp_region_held_drew (S := (fun w' => w'.cell? ⟨gq, 0, none⟩ = some (.int .i64 y))) (by kernel_rfl) ?_ (fun hHeld => ?_)
          · exact HCE.out
          refine wpAnyH_take (i := 0) (oi := { dst := some 104, op := Op.move (Operand.tmp 8), type := 56, pos := _, after := #[], guard := none }) (v := ?_) rfl (by kernel_rfl) (by kernel_rfl) (by kernel_rfl) (fun _ _ _ h => h) (Or.inl ⟨by rfl, ?_⟩) (by assumption) ?_
          rotate_left
          · intro w hSw; (try dsimp only at hSw); go_simp; (try with_reducible rfl)
          try simp only [Act.put, List.setIfInBounds_toArray, List.set_cons_zero, List.set_cons_succ]
          refine wpAnyH_take (i := 1) (oi := { dst := some 105, op := Op.move (Operand.tmp 13), type := 65, pos := _, after := #[], guard := none }) (v := ?_) rfl (by kernel_rfl) (by kernel_rfl) (by kernel_rfl) (fun _ _ _ h => h) (Or.inl ⟨by rfl, ?_⟩) (by assumption) ?_
          rotate_left
          · intro w hSw; (try dsimp only at hSw); go_simp; (try with_reducible rfl)
          try simp only [Act.put, List.setIfInBounds_toArray, List.set_cons_zero, List.set_cons_succ]
          refine wpAnyH_take (i := 2) (oi := { dst := some 106, op := Op.move (Operand.tmp 12), type := 3, pos := _, after := #[], guard := none }) (v := ?_) rfl (by kernel_rfl) (by kernel_rfl) (by kernel_rfl) (fun _ _ _ h => h) (Or.inl ⟨by rfl, ?_⟩) (by assumption) ?_
          rotate_left
          · intro w hSw; (try dsimp only at hSw); go_simp; (try with_reducible rfl)
          try simp only [Act.put, List.setIfInBounds_toArray, List.set_cons_zero, List.set_cons_succ]
          refine wpAnyH_take (i := 9) (oi := { dst := some 113, op := Op.move (Operand.tmp 9), type := 24, pos := _, after := #[], guard := none }) (v := ?_) rfl (by kernel_rfl) (by kernel_rfl) (by kernel_rfl) (fun _ _ _ h => h) (Or.inl ⟨by rfl, ?_⟩) (by assumption) ?_
          rotate_left
          · intro w hSw; (try dsimp only at hSw); go_simp; (try with_reducible rfl)
          try simp only [Act.put, List.setIfInBounds_toArray, List.set_cons_zero, List.set_cons_succ]
          refine wpAnyH_take (i := 10) (oi := { dst := some 114, op := Op.move (Operand.tmp 14), type := 97, pos := _, after := #[], guard := none }) (v := ?_) rfl (by kernel_rfl) (by kernel_rfl) (by kernel_rfl) (fun _ _ _ h => h) (Or.inl ⟨by rfl, ?_⟩) (by assumption) ?_
          rotate_left
          · intro w hSw; (try dsimp only at hSw); go_simp; (try with_reducible rfl)
          try simp only [Act.put, List.setIfInBounds_toArray, List.set_cons_zero, List.set_cons_succ]
          refine wpAnyH_take (i := 11) (oi := { dst := some 115, op := Op.indexAddr 97 (Operand.tmp 114) (Operand.const (Value.int IntKind.i64 0)), type := 0, pos := _, after := #[{ on := 10, ground := Ground.data }], guard := none }) (v := ?_) rfl (by kernel_rfl) (by kernel_rfl) (by kernel_rfl) (fun _ _ _ h => h) (Or.inl ⟨by rfl, ?_⟩) (by assumption) ?_
          rotate_left
          · intro w hSw; (try dsimp only at hSw); go_simp; (try with_reducible rfl)
          try simp only [Act.put, List.setIfInBounds_toArray, List.set_cons_zero, List.set_cons_succ]
          refine wpAnyH_take (i := 12) (oi := { dst := some 116, op := Op.fieldAddr 102 (Operand.tmp 115) 0, type := 0, pos := _, after := #[{ on := 11, ground := Ground.data }], guard := none }) (v := ?_) rfl (by kernel_rfl) (by kernel_rfl) (by kernel_rfl) (fun _ _ _ h => h) (Or.inl ⟨by rfl, ?_⟩) (by assumption) ?_
          rotate_left
          · intro w hSw; (try dsimp only at hSw); go_simp; (try with_reducible rfl)
          try simp only [Act.put, List.setIfInBounds_toArray, List.set_cons_zero, List.set_cons_succ]
          refine wpAnyH_take (i := 13) (oi := { dst := some 117, op := Op.indexAddr 100 (Operand.tmp 116) (Operand.const (Value.int IntKind.i64 0)), type := 0, pos := _, after := #[{ on := 12, ground := Ground.data }], guard := none }) (v := ?_) rfl (by kernel_rfl) (by kernel_rfl) (by kernel_rfl) (fun _ _ _ h => h) (Or.inl ⟨by rfl, ?_⟩) (by assumption) ?_
          rotate_left
          · intro w hSw; (try dsimp only at hSw); go_simp; (try with_reducible rfl)
          try simp only [Act.put, List.setIfInBounds_toArray, List.set_cons_zero, List.set_cons_succ]
          refine wpAnyH_take (i := 14) (oi := { dst := some 118, op := Op.load 3 (Operand.tmp 117), type := 3, pos := _, after := #[{ on := 13, ground := Ground.data }], guard := none }) (v := ?_) rfl (by kernel_rfl) (by kernel_rfl) (by kernel_rfl) (fun _ _ _ h => h) (Or.inl ⟨by rfl, ?_⟩) (by assumption) ?_
          rotate_left
          · intro w hSw; (try dsimp only at hSw); go_simp; (try with_reducible rfl)
          try simp only [Act.put, List.setIfInBounds_toArray, List.set_cons_zero, List.set_cons_succ]
          refine wpAnyH_ready (rs := [3, 15]) (by kernel_rfl) (by simp) ?_
          refine AllReadyH.cons (o := { dst := some 107, op := Op.buildSlice 24 1 #[(0, Operand.tmp 106)], type := 24, pos := _, after := #[{ on := 2, ground := Ground.data }], guard := none }) rfl (fun K hK => ?_) (AllReadyH.cons (o := { dst := some 119, op := Op.buildSlice 24 1 #[(0, Operand.tmp 118)], type := 24, pos := _, after := #[{ on := 14, ground := Ground.data }], guard := none }) rfl (fun K hK => ?_) AllReadyH.nil)
          · skip
            go_simp
            refine hK.out _ _ ?_ (fun hHeld => ?_)
            · exact (H0.out.alloc (.cells #[.int .i64 (x : Int)] 3)).cell HK9.out
            clear hK K
            try simp only [Act.put, List.setIfInBounds_toArray, List.set_cons_zero, List.set_cons_succ]
            refine wpAnyH_take (i := 4) (oi := { dst := some 108, op := Op.build 64 #[(0, Operand.tmp 107), (1, Operand.const (Value.int IntKind.u64 2))], type := 64, pos := _, after := #[{ on := 3, ground := Ground.data }], guard := none }) (v := ?_) rfl (by kernel_rfl) (by kernel_rfl) (by kernel_rfl) (fun _ _ _ h => h) (Or.inl ⟨by rfl, ?_⟩) (by assumption) ?_
            rotate_left
            · intro w hSw; (try dsimp only at hSw); go_simp; (try with_reducible rfl)
            try simp only [Act.put, List.setIfInBounds_toArray, List.set_cons_zero, List.set_cons_succ]
            refine wpAnyH_ready (rs := [5, 15]) (by kernel_rfl) (by simp) ?_
            refine AllReadyH.cons (o := { dst := some 109, op := Op.buildSlice 65 1 #[(0, Operand.tmp 108)], type := 65, pos := _, after := #[{ on := 4, ground := Ground.data }], guard := none }) rfl (fun K hK => ?_) (AllReadyH.cons (o := { dst := some 119, op := Op.buildSlice 24 1 #[(0, Operand.tmp 118)], type := 24, pos := _, after := #[{ on := 14, ground := Ground.data }], guard := none }) rfl (fun K hK => ?_) AllReadyH.nil)
            · skip
              go_simp
              refine hK.out _ _ ?_ (fun hHeld => ?_)
              · exact ((H0.out.alloc (.cells #[.int .i64 (x : Int)] 3)).alloc (.cells #[.slice (some ⟨wr.heap.size, 0, none⟩) 1 1, .int .u64 2] 64)).cell HK9.out
              clear hK K
              try simp only [Act.put, List.setIfInBounds_toArray, List.set_cons_zero, List.set_cons_succ]
              refine wpAnyH_ready (rs := [6, 15]) (by kernel_rfl) (by simp) ?_
              refine AllReadyH.cons (o := { dst := some 110, op := Op.call { callee := Callee.builtin Builtin.append, args := #[Operand.tmp 105, Operand.tmp 109], argTypes := #[65, 65] }, type := 65, pos := _, after := #[{ on := 1, ground := Ground.data }, { on := 5, ground := Ground.data }], guard := none }) rfl (fun K hK => ?_) (AllReadyH.cons (o := { dst := some 119, op := Op.buildSlice 24 1 #[(0, Operand.tmp 118)], type := 24, pos := _, after := #[{ on := 14, ground := Ground.data }], guard := none }) rfl (fun K hK => ?_) AllReadyH.nil)
              · skip
                obtain ⟨A6, c6, u6, hrun6, hown6, hgr6, hat6⟩ := app_run 65 64 65 Tryz.underlying65 _ 2 32 cut_info rfl (by decide) (by decide) wo.heap.size AL s.length cL (cutC cs) (((H0.out.alloc (.cells #[.int .i64 (x : Int)] 3)).alloc (.cells #[.slice (some ⟨wr.heap.size, 0, none⟩) 1 1, .int .u64 2] 64))).ll ⟨wr.heap.size + 1, 0, none⟩ 1 [.slice (some ⟨wr.heap.size, 0, none⟩) 1 1, .int .u64 2] (rd_of_blk (blk_made1 wr.drew _ _ _) 2 1 rfl) (cut_one2 _ _) (by omega) (((H0.out.alloc (.cells #[.int .i64 (x : Int)] 3)).alloc (.cells #[.slice (some ⟨wr.heap.size, 0, none⟩) 1 1, .int .u64 2] 64))).sz.1
                have H6 := Lib.hid ((((H0.out.alloc (.cells #[.int .i64 (x : Int)] 3)).alloc (.cells #[.slice (some ⟨wr.heap.size, 0, none⟩) 1 1, .int .u64 2] 64))).appRow hown6 hgr6)
                have B6 := Lib.hid (Below.grown (below_then (below_then BD.out (below_new _ (.cells #[.int .i64 (x : Int)] 3))) (below_new _ (.cells #[.slice (some ⟨wr.heap.size, 0, none⟩) 1 1, .int .u64 2] 64))) hgr6 ((below_then (below_then BD.out (below_new _ (.cells #[.int .i64 (x : Int)] 3))) (below_new _ (.cells #[.slice (some ⟨wr.heap.size, 0, none⟩) 1 1, .int .u64 2] 64)))).size (fun q hq => Nat.le_trans (((H0.out.alloc (.cells #[.int .i64 (x : Int)] 3)).alloc (.cells #[.slice (some ⟨wr.heap.size, 0, none⟩) 1 1, .int .u64 2] 64))).sz.2 (own_base (((H0.out.alloc (.cells #[.int .i64 (x : Int)] 3)).alloc (.cells #[.slice (some ⟨wr.heap.size, 0, none⟩) 1 1, .int .u64 2] 64))).ll (by rw [own_blk]; exact hq))))
                have PL6 := Lib.hid (show Blk u6 (wr.heap.size) 3 #[.int .i64 (x : Int)] from blk_grown ((Blk.made wr.drew _ _).alloc (.cells #[.slice (some ⟨wr.heap.size, 0, none⟩) 1 1, .int .u64 2] 64)) (((H0.out.alloc (.cells #[.int .i64 (x : Int)] 3)).alloc (.cells #[.slice (some ⟨wr.heap.size, 0, none⟩) 1 1, .int .u64 2] 64))).ll (by decide) hgr6)
                refine step_app_run (by rfl) (.tmp 105) (.tmp 109) 65 65 (by rfl) (.slice AL s.length cL) (.slice (some ⟨wr.heap.size + 1, 0, none⟩) 1 1) (by rfl) (by rfl) hrun6 ?_
                clear hrun6 hown6 hgr6 hat6
                refine hK.out _ _ ?_ (fun hHeld => ?_)
                · exact H6.out.cell HK9.out
                clear hK K
                try simp only [Act.put, List.setIfInBounds_toArray, List.set_cons_zero, List.set_cons_succ]
                refine wpAnyH_ready (rs := [7, 15]) (by kernel_rfl) (by simp) ?_
                refine AllReadyH.cons (o := { dst := some 111, op := Op.buildSlice 56 1 #[(0, Operand.tmp 110)], type := 56, pos := _, after := #[{ on := 6, ground := Ground.data }], guard := none }) rfl (fun K hK => ?_) (AllReadyH.cons (o := { dst := some 119, op := Op.buildSlice 24 1 #[(0, Operand.tmp 118)], type := 24, pos := _, after := #[{ on := 14, ground := Ground.data }], guard := none }) rfl (fun K hK => ?_) AllReadyH.nil)
                · skip
                  go_simp
                  refine hK.out _ _ ?_ (fun hHeld => ?_)
                  · exact (H6.out.alloc (.cells #[.slice A6 (s.length + 1) c6] 65)).cell HK9.out
                  clear hK K
                  try simp only [Act.put, List.setIfInBounds_toArray, List.set_cons_zero, List.set_cons_succ]
                  refine wpAnyH_ready (rs := [8, 15]) (by kernel_rfl) (by simp) ?_
                  refine AllReadyH.cons (o := { dst := some 112, op := Op.call { callee := Callee.builtin Builtin.append, args := #[Operand.tmp 104, Operand.tmp 111], argTypes := #[56, 56] }, type := 56, pos := _, after := #[{ on := 0, ground := Ground.data }, { on := 7, ground := Ground.data }, { on := 6, ground := Ground.chain }], guard := none }) rfl (fun K hK => ?_) (AllReadyH.cons (o := { dst := some 119, op := Op.buildSlice 24 1 #[(0, Operand.tmp 118)], type := 24, pos := _, after := #[{ on := 14, ground := Ground.data }], guard := none }) rfl (fun K hK => ?_) AllReadyH.nil)
                  · skip
                    obtain ⟨A8, c8, u8, hrun8, hown8, hgr8, hat8⟩ := app_run 56 65 56 Tryz.underlying56 _ 1 24 cuts_info rfl (by decide) (by decide) w.heap.size (some ⟨go, 0, none⟩) x cB (qs.map crv) ((H6.out.alloc (.cells #[.slice A6 (s.length + 1) c6] 65))).oo ⟨u6.heap.size, 0, none⟩ 1 [.slice A6 (s.length + 1) c6] (rd_of_blk (Blk.made u6 _ _) 1 1 rfl) (fun u hu => by rw [List.mem_singleton] at hu; subst hu; rfl) (by omega) (Nat.le_trans ((H6.out.alloc (.cells #[.slice A6 (s.length + 1) c6] 65))).sz.2 ((H6.out.alloc (.cells #[.slice A6 (s.length + 1) c6] 65))).sz.1)
                    have H8 := Lib.hid (((H6.out.alloc (.cells #[.slice A6 (s.length + 1) c6] 65))).appOut hown8 hgr8)
                    have B8 := Lib.hid (Below.grown (below_then B6.out (below_new _ (.cells #[.slice A6 (s.length + 1) c6] 65))) hgr8 ((below_then B6.out (below_new _ (.cells #[.slice A6 (s.length + 1) c6] 65)))).size (fun q hq => own_base ((H6.out.alloc (.cells #[.slice A6 (s.length + 1) c6] 65))).oo (by rw [own_blk]; exact hq)))
                    have PL8 := Lib.hid (show Blk u8 (wr.heap.size) 3 #[.int .i64 (x : Int)] from blk_grown (PL6.out.alloc (.cells #[.slice A6 (s.length + 1) c6] 65)) ((H6.out.alloc (.cells #[.slice A6 (s.length + 1) c6] 65))).oo (by decide) hgr8)
                    refine step_app_run (by rfl) (.tmp 104) (.tmp 111) 56 56 (by rfl) (.slice (some ⟨go, 0, none⟩) x cB) (.slice (some ⟨u6.heap.size, 0, none⟩) 1 1) (by rfl) (by rfl) hrun8 ?_
                    clear hrun8 hown8 hgr8 hat8
                    refine hK.out _ _ ?_ (fun hHeld => ?_)
                    · exact H8.out.cell HK9.out
                    clear hK K
                    try simp only [Act.put, List.setIfInBounds_toArray, List.set_cons_zero, List.set_cons_succ]
                    refine wpAnyH_ready (rs := [15]) (by kernel_rfl) (by simp) ?_
                    refine AllReadyH.cons (o := { dst := some 119, op := Op.buildSlice 24 1 #[(0, Operand.tmp 118)], type := 24, pos := _, after := #[{ on := 14, ground := Ground.data }], guard := none }) rfl (fun K hK => ?_) AllReadyH.nil
                    go_simp
                    refine hK.out _ _ ?_ (fun hHeld => ?_)
                    · exact (H8.out.alloc (.cells #[.int .i64 y] 3)).cell HK9.out
                    clear hK K
                    try simp only [Act.put, List.setIfInBounds_toArray, List.set_cons_zero, List.set_cons_succ]
                    refine wpAnyH_ready (rs := [16]) (by kernel_rfl) (by simp) ?_
                    refine AllReadyH.cons (o := { dst := some 120, op := Op.call { callee := Callee.builtin Builtin.append, args := #[Operand.tmp 113, Operand.tmp 119], argTypes := #[24, 24] }, type := 24, pos := _, after := #[{ on := 9, ground := Ground.data }, { on := 15, ground := Ground.data }, { on := 8, ground := Ground.chain }], guard := none }) rfl (fun K hK => ?_) AllReadyH.nil
                    obtain ⟨A9, k9, u9, hrun9, hown9, hgr9, hat9⟩ := app_run 24 3 24 Tryz.underlying24 _ 1 8 int_infoA rfl (by decide) (by decide) w.heap.size AE x cE (ints (G.bothTo k y0).2) ((H8.out.alloc (.cells #[.int .i64 y] 3))).dd ⟨u8.heap.size, 0, none⟩ 1 [.int .i64 y] (rd_of_blk (Blk.made u8 _ _) 1 1 rfl) (fun u hu => by rw [List.mem_singleton] at hu; subst hu; rfl) (by omega) (Nat.le_trans ((H8.out.alloc (.cells #[.int .i64 y] 3))).sz.2 ((H8.out.alloc (.cells #[.int .i64 y] 3))).sz.1)
                    have H16 := Lib.hid (((H8.out.alloc (.cells #[.int .i64 y] 3))).appDep hown9 hgr9 hat9)
                    have BW9 := Lib.hid (Below.grown (below_then B8.out (below_new _ (.cells #[.int .i64 y] 3))) hgr9 ((below_then B8.out (below_new _ (.cells #[.int .i64 y] 3)))).size (fun q hq => own_base ((H8.out.alloc (.cells #[.int .i64 y] 3))).dd (by rw [own_blk]; exact hq)))
                    have hnl : blkOf AE ≠ some (wr.heap.size) := fun e => by have h1 := HAL.out _ e; omega
                    have PL9 := Lib.hid (show Blk u9 (wr.heap.size) 3 #[.int .i64 (x : Int)] from blk_dep (PL8.out.alloc (.cells #[.int .i64 y] 3)) hgr9 hnl)
                    have HN9 := Lib.hid (show blkOf A9 ≠ some (wr.heap.size) from fun e => by
                      rcases hat9 with e2 | e2
                      · exact hnl (e2.symm.trans e)
                      · rw [e2] at e
                        have h1 := (PL8.out.alloc (.cells #[.int .i64 y] 3)).lt
                        have h2 := Option.some.inj e
                        omega)
                    refine step_app_run (by rfl) (.tmp 113) (.tmp 119) 24 24 (by rfl) (.slice AE x cE) (.slice (some ⟨u8.heap.size, 0, none⟩) 1 1) (by rfl) (by rfl) hrun9 ?_
                    clear hrun9 hown9 hgr9 hat9 hnl
                    refine hK.out _ _ ?_ (fun hHeld => ?_)
                    · exact H16.out.cell HK9.out
                    clear hK K
                    try simp only [Act.put, List.setIfInBounds_toArray, List.set_cons_zero, List.set_cons_succ]
                    refine wpAnyH_take (i := 17) (oi := { dst := some 8, op := Op.assign (Operand.tmp 112), type := 56, pos := _, after := #[{ on := 8, ground := Ground.data }, { on := 16, ground := Ground.chain }, { on := 0, ground := Ground.phase }, { on := 1, ground := Ground.phase }, { on := 2, ground := Ground.phase }, { on := 3, ground := Ground.phase }, { on := 4, ground := Ground.phase }, { on := 5, ground := Ground.phase }, { on := 6, ground := Ground.phase }, { on := 7, ground := Ground.phase }, { on := 8, ground := Ground.phase }, { on := 9, ground := Ground.textOnly Departure.lateStores }, { on := 10, ground := Ground.textOnly Departure.lateStores }, { on := 11, ground := Ground.textOnly Departure.lateStores }, { on := 12, ground := Ground.textOnly Departure.lateStores }, { on := 13, ground := Ground.textOnly Departure.lateStores }, { on := 14, ground := Ground.textOnly Departure.lateStores }, { on := 15, ground := Ground.textOnly Departure.lateStores }, { on := 16, ground := Ground.textOnly Departure.lateStoresUnsure }], guard := none }) (v := ?_) rfl (by kernel_rfl) (by kernel_rfl) (by kernel_rfl) (fun _ _ _ h => h) (Or.inl ⟨by rfl, ?_⟩) (by assumption) ?_
                    rotate_left
                    · intro w hSw; (try dsimp only at hSw); go_simp; (try with_reducible rfl)
                    try simp only [Act.put, List.setIfInBounds_toArray, List.set_cons_zero, List.set_cons_succ]
                    refine wpAnyH_take (i := 18) (oi := { dst := some 9, op := Op.assign (Operand.tmp 120), type := 24, pos := _, after := #[{ on := 16, ground := Ground.data }, { on := 17, ground := Ground.chain }, { on := 0, ground := Ground.phase }, { on := 1, ground := Ground.phase }, { on := 2, ground := Ground.phase }, { on := 3, ground := Ground.phase }, { on := 4, ground := Ground.phase }, { on := 5, ground := Ground.phase }, { on := 6, ground := Ground.phase }, { on := 7, ground := Ground.phase }, { on := 8, ground := Ground.phase }, { on := 9, ground := Ground.phase }, { on := 10, ground := Ground.phase }, { on := 11, ground := Ground.phase }, { on := 12, ground := Ground.phase }, { on := 13, ground := Ground.phase }, { on := 14, ground := Ground.phase }, { on := 15, ground := Ground.phase }, { on := 16, ground := Ground.phase }, { on := 17, ground := Ground.phase }], guard := none }) (v := ?_) rfl (by kernel_rfl) (by kernel_rfl) (by kernel_rfl) (fun _ _ _ h => h) (Or.inl ⟨by rfl, ?_⟩) (by assumption) ?_
                    rotate_left
                    · intro w hSw; (try dsimp only at hSw); go_simp; (try with_reducible rfl)
                    try simp only [Act.put, List.setIfInBounds_toArray, List.set_cons_zero, List.set_cons_succ]
                    refine wpAnyH_done (by kernel_rfl) ?_ _
                    have AM9 := Lib.hid (R23.done (d := (G.bothTo k (y0 + 1)).2) H16.out PL9.out (by have := SZW.out; simp; try omega) HN9.out HCL.out HRL.out (by rw [HDN.out.2, ints_append]; rfl) (by rw [G.bothTo_len k (y0 + 1) |>.2, hx]))
                    have hpl : plainR (qs ++ [((A6, c6, cs ++ [(((some ⟨wr.heap.size, 0, none⟩, 1, [(x : Int)]) : SL), 2)]) : CR)]) = (G.bothTo k (y0 + 1)).1 := by rw [plainR_snoc, HPL.out, HDN.out.1]; simp [pcs]
                    have hql : (qs ++ [((A6, c6, cs ++ [(((some ⟨wr.heap.size, 0, none⟩, 1, [(x : Int)]) : SL), 2)]) : CR)]).length = x + 1 := by rw [List.length_append, HRL.out]; rfl
                    have HPLN := Lib.hid hpl
                    have HQL := Lib.hid hql
                    have X16 := Lib.hid H16.out.bx
                    clear hpl hql
                    go_wp2_with fail
                    go_roundw
                    case rel => exact ⟨i + 1, by omega, by go_num, ⟨A8, c8, _, A9, k9, by rw [HQL.out], by rw [HY1.out, G.bothTo_len k (y0 + 1) |>.2, hx], by rw [HY1.out]; exact AM9.out, by rw [HY1.out]; exact HPLN.out, X16.out, BW9.out⟩⟩
                    case measure => simp [intOf]; omega
                  · skip
                    go_simp
                    refine hK.out _ _ ?_ (fun hHeld => ?_)
                    · exact ((H6.out.alloc (.cells #[.slice A6 (s.length + 1) c6] 65)).alloc (.cells #[.int .i64 y] 3)).cell HK9.out
                    clear hK K
                    try simp only [Act.put, List.setIfInBounds_toArray, List.set_cons_zero, List.set_cons_succ]
                    refine wpAnyH_ready (rs := [8]) (by kernel_rfl) (by simp) ?_
                    refine AllReadyH.cons (o := { dst := some 112, op := Op.call { callee := Callee.builtin Builtin.append, args := #[Operand.tmp 104, Operand.tmp 111], argTypes := #[56, 56] }, type := 56, pos := _, after := #[{ on := 0, ground := Ground.data }, { on := 7, ground := Ground.data }, { on := 6, ground := Ground.chain }], guard := none }) rfl (fun K hK => ?_) AllReadyH.nil
                    obtain ⟨A8, c8, u8, hrun8, hown8, hgr8, hat8⟩ := app_run 56 65 56 Tryz.underlying56 _ 1 24 cuts_info rfl (by decide) (by decide) w.heap.size (some ⟨go, 0, none⟩) x cB (qs.map crv) (((H6.out.alloc (.cells #[.slice A6 (s.length + 1) c6] 65)).alloc (.cells #[.int .i64 y] 3))).oo ⟨u6.heap.size, 0, none⟩ 1 [.slice A6 (s.length + 1) c6] (rd_of_blk ((Blk.made u6 _ _).alloc (.cells #[.int .i64 y] 3)) 1 1 rfl) (fun u hu => by rw [List.mem_singleton] at hu; subst hu; rfl) (by omega) (Nat.le_trans (((H6.out.alloc (.cells #[.slice A6 (s.length + 1) c6] 65)).alloc (.cells #[.int .i64 y] 3))).sz.2 (((H6.out.alloc (.cells #[.slice A6 (s.length + 1) c6] 65)).alloc (.cells #[.int .i64 y] 3))).sz.1)
                    have H8 := Lib.hid ((((H6.out.alloc (.cells #[.slice A6 (s.length + 1) c6] 65)).alloc (.cells #[.int .i64 y] 3))).appOut hown8 hgr8)
                    have B8 := Lib.hid (Below.grown (below_then (below_then B6.out (below_new _ (.cells #[.slice A6 (s.length + 1) c6] 65))) (below_new _ (.cells #[.int .i64 y] 3))) hgr8 ((below_then (below_then B6.out (below_new _ (.cells #[.slice A6 (s.length + 1) c6] 65))) (below_new _ (.cells #[.int .i64 y] 3)))).size (fun q hq => own_base (((H6.out.alloc (.cells #[.slice A6 (s.length + 1) c6] 65)).alloc (.cells #[.int .i64 y] 3))).oo (by rw [own_blk]; exact hq)))
                    have PL8 := Lib.hid (show Blk u8 (wr.heap.size) 3 #[.int .i64 (x : Int)] from blk_grown ((PL6.out.alloc (.cells #[.slice A6 (s.length + 1) c6] 65)).alloc (.cells #[.int .i64 y] 3)) (((H6.out.alloc (.cells #[.slice A6 (s.length + 1) c6] 65)).alloc (.cells #[.int .i64 y] 3))).oo (by decide) hgr8)
                    have PD8 := Lib.hid (show Blk u8 (u6.heap.size + 1) 3 #[.int .i64 y] from blk_grown (blk_made1 u6 _ _ _) (((H6.out.alloc (.cells #[.slice A6 (s.length + 1) c6] 65)).alloc (.cells #[.int .i64 y] 3))).oo (by decide) hgr8)
                    refine step_app_run (by rfl) (.tmp 104) (.tmp 111) 56 56 (by rfl) (.slice (some ⟨go, 0, none⟩) x cB) (.slice (some ⟨u6.heap.size, 0, none⟩) 1 1) (by rfl) (by rfl) hrun8 ?_
                    clear hrun8 hown8 hgr8 hat8
                    refine hK.out _ _ ?_ (fun hHeld => ?_)
                    · exact H8.out.cell HK9.out
                    clear hK K
                    try simp only [Act.put, List.setIfInBounds_toArray, List.set_cons_zero, List.set_cons_succ]
                    refine wpAnyH_ready (rs := [16]) (by kernel_rfl) (by simp) ?_
                    refine AllReadyH.cons (o := { dst := some 120, op := Op.call { callee := Callee.builtin Builtin.append, args := #[Operand.tmp 113, Operand.tmp 119], argTypes := #[24, 24] }, type := 24, pos := _, after := #[{ on := 9, ground := Ground.data }, { on := 15, ground := Ground.data }, { on := 8, ground := Ground.chain }], guard := none }) rfl (fun K hK => ?_) AllReadyH.nil
                    obtain ⟨A9, k9, u9, hrun9, hown9, hgr9, hat9⟩ := app_run 24 3 24 Tryz.underlying24 _ 1 8 int_infoA rfl (by decide) (by decide) w.heap.size AE x cE (ints (G.bothTo k y0).2) (H8.out).dd ⟨u6.heap.size + 1, 0, none⟩ 1 [.int .i64 y] (rd_of_blk PD8.out 1 1 rfl) (fun u hu => by rw [List.mem_singleton] at hu; subst hu; rfl) (by omega) (Nat.le_trans (H8.out).sz.2 (H8.out).sz.1)
                    have H16 := Lib.hid ((H8.out).appDep hown9 hgr9 hat9)
                    have BW9 := Lib.hid (Below.grown B8.out hgr9 (B8.out).size (fun q hq => own_base (H8.out).dd (by rw [own_blk]; exact hq)))
                    have hnl : blkOf AE ≠ some (wr.heap.size) := fun e => by have h1 := HAL.out _ e; omega
                    have PL9 := Lib.hid (show Blk u9 (wr.heap.size) 3 #[.int .i64 (x : Int)] from blk_dep PL8.out hgr9 hnl)
                    have HN9 := Lib.hid (show blkOf A9 ≠ some (wr.heap.size) from fun e => by
                      rcases hat9 with e2 | e2
                      · exact hnl (e2.symm.trans e)
                      · rw [e2] at e
                        have h1 := PL8.out.lt
                        have h2 := Option.some.inj e
                        omega)
                    refine step_app_run (by rfl) (.tmp 113) (.tmp 119) 24 24 (by rfl) (.slice AE x cE) (.slice (some ⟨u6.heap.size + 1, 0, none⟩) 1 1) (by rfl) (by rfl) hrun9 ?_
                    clear hrun9 hown9 hgr9 hat9 hnl
                    refine hK.out _ _ ?_ (fun hHeld => ?_)
                    · exact H16.out.cell HK9.out
                    clear hK K
                    try simp only [Act.put, List.setIfInBounds_toArray, List.set_cons_zero, List.set_cons_succ]
                    refine wpAnyH_take (i := 17) (oi := { dst := some 8, op := Op.assign (Operand.tmp 112), type := 56, pos := _, after := #[{ on := 8, ground := Ground.data }, { on := 16, ground := Ground.chain }, { on := 0, ground := Ground.phase }, { on := 1, ground := Ground.phase }, { on := 2, ground := Ground.phase }, { on := 3, ground := Ground.phase }, { on := 4, ground := Ground.phase }, { on := 5, ground := Ground.phase }, { on := 6, ground := Ground.phase }, { on := 7, ground := Ground.phase }, { on := 8, ground := Ground.phase }, { on := 9, ground := Ground.textOnly Departure.lateStores }, { on := 10, ground := Ground.textOnly Departure.lateStores }, { on := 11, ground := Ground.textOnly Departure.lateStores }, { on := 12, ground := Ground.textOnly Departure.lateStores }, { on := 13, ground := Ground.textOnly Departure.lateStores }, { on := 14, ground := Ground.textOnly Departure.lateStores }, { on := 15, ground := Ground.textOnly Departure.lateStores }, { on := 16, ground := Ground.textOnly Departure.lateStoresUnsure }], guard := none }) (v := ?_) rfl (by kernel_rfl) (by kernel_rfl) (by kernel_rfl) (fun _ _ _ h => h) (Or.inl ⟨by rfl, ?_⟩) (by assumption) ?_
                    rotate_left
                    · intro w hSw; (try dsimp only at hSw); go_simp; (try with_reducible rfl)
                    try simp only [Act.put, List.setIfInBounds_toArray, List.set_cons_zero, List.set_cons_succ]
                    refine wpAnyH_take (i := 18) (oi := { dst := some 9, op := Op.assign (Operand.tmp 120), type := 24, pos := _, after := #[{ on := 16, ground := Ground.data }, { on := 17, ground := Ground.chain }, { on := 0, ground := Ground.phase }, { on := 1, ground := Ground.phase }, { on := 2, ground := Ground.phase }, { on := 3, ground := Ground.phase }, { on := 4, ground := Ground.phase }, { on := 5, ground := Ground.phase }, { on := 6, ground := Ground.phase }, { on := 7, ground := Ground.phase }, { on := 8, ground := Ground.phase }, { on := 9, ground := Ground.phase }, { on := 10, ground := Ground.phase }, { on := 11, ground := Ground.phase }, { on := 12, ground := Ground.phase }, { on := 13, ground := Ground.phase }, { on := 14, ground := Ground.phase }, { on := 15, ground := Ground.phase }, { on := 16, ground := Ground.phase }, { on := 17, ground := Ground.phase }], guard := none }) (v := ?_) rfl (by kernel_rfl) (by kernel_rfl) (by kernel_rfl) (fun _ _ _ h => h) (Or.inl ⟨by rfl, ?_⟩) (by assumption) ?_
                    rotate_left
                    · intro w hSw; (try dsimp only at hSw); go_simp; (try with_reducible rfl)
                    try simp only [Act.put, List.setIfInBounds_toArray, List.set_cons_zero, List.set_cons_succ]
                    refine wpAnyH_done (by kernel_rfl) ?_ _
                    have AM9 := Lib.hid (R23.done (d := (G.bothTo k (y0 + 1)).2) H16.out PL9.out (by have := SZW.out; simp; try omega) HN9.out HCL.out HRL.out (by rw [HDN.out.2, ints_append]; rfl) (by rw [G.bothTo_len k (y0 + 1) |>.2, hx]))
                    have hpl : plainR (qs ++ [((A6, c6, cs ++ [(((some ⟨wr.heap.size, 0, none⟩, 1, [(x : Int)]) : SL), 2)]) : CR)]) = (G.bothTo k (y0 + 1)).1 := by rw [plainR_snoc, HPL.out, HDN.out.1]; simp [pcs]
                    have hql : (qs ++ [((A6, c6, cs ++ [(((some ⟨wr.heap.size, 0, none⟩, 1, [(x : Int)]) : SL), 2)]) : CR)]).length = x + 1 := by rw [List.length_append, HRL.out]; rfl
                    have HPLN := Lib.hid hpl
                    have HQL := Lib.hid hql
                    have X16 := Lib.hid H16.out.bx
                    clear hpl hql
                    go_wp2_with fail
                    go_roundw
                    case rel => exact ⟨i + 1, by omega, by go_num, ⟨A8, c8, _, A9, k9, by rw [HQL.out], by rw [HY1.out, G.bothTo_len k (y0 + 1) |>.2, hx], by rw [HY1.out]; exact AM9.out, by rw [HY1.out]; exact HPLN.out, X16.out, BW9.out⟩⟩
                    case measure => simp [intOf]; omega
                · skip
                  go_simp
                  refine hK.out _ _ ?_ (fun hHeld => ?_)
                  · exact (H6.out.alloc (.cells #[.int .i64 y] 3)).cell HK9.out
                  clear hK K
                  try simp only [Act.put, List.setIfInBounds_toArray, List.set_cons_zero, List.set_cons_succ]
                  refine wpAnyH_ready (rs := [7]) (by kernel_rfl) (by simp) ?_
                  refine AllReadyH.cons (o := { dst := some 111, op := Op.buildSlice 56 1 #[(0, Operand.tmp 110)], type := 56, pos := _, after := #[{ on := 6, ground := Ground.data }], guard := none }) rfl (fun K hK => ?_) AllReadyH.nil
                  go_simp
                  refine hK.out _ _ ?_ (fun hHeld => ?_)
                  · exact ((H6.out.alloc (.cells #[.int .i64 y] 3)).alloc (.cells #[.slice A6 (s.length + 1) c6] 65)).cell HK9.out
                  clear hK K
                  try simp only [Act.put, List.setIfInBounds_toArray, List.set_cons_zero, List.set_cons_succ]
                  refine wpAnyH_ready (rs := [8]) (by kernel_rfl) (by simp) ?_
                  refine AllReadyH.cons (o := { dst := some 112, op := Op.call { callee := Callee.builtin Builtin.append, args := #[Operand.tmp 104, Operand.tmp 111], argTypes := #[56, 56] }, type := 56, pos := _, after := #[{ on := 0, ground := Ground.data }, { on := 7, ground := Ground.data }, { on := 6, ground := Ground.chain }], guard := none }) rfl (fun K hK => ?_) AllReadyH.nil
                  obtain ⟨A8, c8, u8, hrun8, hown8, hgr8, hat8⟩ := app_run 56 65 56 Tryz.underlying56 _ 1 24 cuts_info rfl (by decide) (by decide) w.heap.size (some ⟨go, 0, none⟩) x cB (qs.map crv) (((H6.out.alloc (.cells #[.int .i64 y] 3)).alloc (.cells #[.slice A6 (s.length + 1) c6] 65))).oo ⟨u6.heap.size + 1, 0, none⟩ 1 [.slice A6 (s.length + 1) c6] (rd_of_blk (blk_made1 u6 _ _ _) 1 1 rfl) (fun u hu => by rw [List.mem_singleton] at hu; subst hu; rfl) (by omega) (Nat.le_trans (((H6.out.alloc (.cells #[.int .i64 y] 3)).alloc (.cells #[.slice A6 (s.length + 1) c6] 65))).sz.2 (((H6.out.alloc (.cells #[.int .i64 y] 3)).alloc (.cells #[.slice A6 (s.length + 1) c6] 65))).sz.1)
                  have H8 := Lib.hid ((((H6.out.alloc (.cells #[.int .i64 y] 3)).alloc (.cells #[.slice A6 (s.length + 1) c6] 65))).appOut hown8 hgr8)
                  have B8 := Lib.hid (Below.grown (below_then (below_then B6.out (below_new _ (.cells #[.int .i64 y] 3))) (below_new _ (.cells #[.slice A6 (s.length + 1) c6] 65))) hgr8 ((below_then (below_then B6.out (below_new _ (.cells #[.int .i64 y] 3))) (below_new _ (.cells #[.slice A6 (s.length + 1) c6] 65)))).size (fun q hq => own_base (((H6.out.alloc (.cells #[.int .i64 y] 3)).alloc (.cells #[.slice A6 (s.length + 1) c6] 65))).oo (by rw [own_blk]; exact hq)))
                  have PL8 := Lib.hid (show Blk u8 (wr.heap.size) 3 #[.int .i64 (x : Int)] from blk_grown ((PL6.out.alloc (.cells #[.int .i64 y] 3)).alloc (.cells #[.slice A6 (s.length + 1) c6] 65)) (((H6.out.alloc (.cells #[.int .i64 y] 3)).alloc (.cells #[.slice A6 (s.length + 1) c6] 65))).oo (by decide) hgr8)
                  have PD8 := Lib.hid (show Blk u8 (u6.heap.size) 3 #[.int .i64 y] from blk_grown ((Blk.made u6 _ _).alloc (.cells #[.slice A6 (s.length + 1) c6] 65)) (((H6.out.alloc (.cells #[.int .i64 y] 3)).alloc (.cells #[.slice A6 (s.length + 1) c6] 65))).oo (by decide) hgr8)
                  refine step_app_run (by rfl) (.tmp 104) (.tmp 111) 56 56 (by rfl) (.slice (some ⟨go, 0, none⟩) x cB) (.slice (some ⟨u6.heap.size + 1, 0, none⟩) 1 1) (by rfl) (by rfl) hrun8 ?_
                  clear hrun8 hown8 hgr8 hat8
                  refine hK.out _ _ ?_ (fun hHeld => ?_)
                  · exact H8.out.cell HK9.out
                  clear hK K
                  try simp only [Act.put, List.setIfInBounds_toArray, List.set_cons_zero, List.set_cons_succ]
                  refine wpAnyH_ready (rs := [16]) (by kernel_rfl) (by simp) ?_
                  refine AllReadyH.cons (o := { dst := some 120, op := Op.call { callee := Callee.builtin Builtin.append, args := #[Operand.tmp 113, Operand.tmp 119], argTypes := #[24, 24] }, type := 24, pos := _, after := #[{ on := 9, ground := Ground.data }, { on := 15, ground := Ground.data }, { on := 8, ground := Ground.chain }], guard := none }) rfl (fun K hK => ?_) AllReadyH.nil
                  obtain ⟨A9, k9, u9, hrun9, hown9, hgr9, hat9⟩ := app_run 24 3 24 Tryz.underlying24 _ 1 8 int_infoA rfl (by decide) (by decide) w.heap.size AE x cE (ints (G.bothTo k y0).2) (H8.out).dd ⟨u6.heap.size, 0, none⟩ 1 [.int .i64 y] (rd_of_blk PD8.out 1 1 rfl) (fun u hu => by rw [List.mem_singleton] at hu; subst hu; rfl) (by omega) (Nat.le_trans (H8.out).sz.2 (H8.out).sz.1)
                  have H16 := Lib.hid ((H8.out).appDep hown9 hgr9 hat9)
                  have BW9 := Lib.hid (Below.grown B8.out hgr9 (B8.out).size (fun q hq => own_base (H8.out).dd (by rw [own_blk]; exact hq)))
                  have hnl : blkOf AE ≠ some (wr.heap.size) := fun e => by have h1 := HAL.out _ e; omega
                  have PL9 := Lib.hid (show Blk u9 (wr.heap.size) 3 #[.int .i64 (x : Int)] from blk_dep PL8.out hgr9 hnl)
                  have HN9 := Lib.hid (show blkOf A9 ≠ some (wr.heap.size) from fun e => by
                    rcases hat9 with e2 | e2
                    · exact hnl (e2.symm.trans e)
                    · rw [e2] at e
                      have h1 := PL8.out.lt
                      have h2 := Option.some.inj e
                      omega)
                  refine step_app_run (by rfl) (.tmp 113) (.tmp 119) 24 24 (by rfl) (.slice AE x cE) (.slice (some ⟨u6.heap.size, 0, none⟩) 1 1) (by rfl) (by rfl) hrun9 ?_
                  clear hrun9 hown9 hgr9 hat9 hnl
                  refine hK.out _ _ ?_ (fun hHeld => ?_)
                  · exact H16.out.cell HK9.out
                  clear hK K
                  try simp only [Act.put, List.setIfInBounds_toArray, List.set_cons_zero, List.set_cons_succ]
                  refine wpAnyH_take (i := 17) (oi := { dst := some 8, op := Op.assign (Operand.tmp 112), type := 56, pos := _, after := #[{ on := 8, ground := Ground.data }, { on := 16, ground := Ground.chain }, { on := 0, ground := Ground.phase }, { on := 1, ground := Ground.phase }, { on := 2, ground := Ground.phase }, { on := 3, ground := Ground.phase }, { on := 4, ground := Ground.phase }, { on := 5, ground := Ground.phase }, { on := 6, ground := Ground.phase }, { on := 7, ground := Ground.phase }, { on := 8, ground := Ground.phase }, { on := 9, ground := Ground.textOnly Departure.lateStores }, { on := 10, ground := Ground.textOnly Departure.lateStores }, { on := 11, ground := Ground.textOnly Departure.lateStores }, { on := 12, ground := Ground.textOnly Departure.lateStores }, { on := 13, ground := Ground.textOnly Departure.lateStores }, { on := 14, ground := Ground.textOnly Departure.lateStores }, { on := 15, ground := Ground.textOnly Departure.lateStores }, { on := 16, ground := Ground.textOnly Departure.lateStoresUnsure }], guard := none }) (v := ?_) rfl (by kernel_rfl) (by kernel_rfl) (by kernel_rfl) (fun _ _ _ h => h) (Or.inl ⟨by rfl, ?_⟩) (by assumption) ?_
                  rotate_left
                  · intro w hSw; (try dsimp only at hSw); go_simp; (try with_reducible rfl)
                  try simp only [Act.put, List.setIfInBounds_toArray, List.set_cons_zero, List.set_cons_succ]
                  refine wpAnyH_take (i := 18) (oi := { dst := some 9, op := Op.assign (Operand.tmp 120), type := 24, pos := _, after := #[{ on := 16, ground := Ground.data }, { on := 17, ground := Ground.chain }, { on := 0, ground := Ground.phase }, { on := 1, ground := Ground.phase }, { on := 2, ground := Ground.phase }, { on := 3, ground := Ground.phase }, { on := 4, ground := Ground.phase }, { on := 5, ground := Ground.phase }, { on := 6, ground := Ground.phase }, { on := 7, ground := Ground.phase }, { on := 8, ground := Ground.phase }, { on := 9, ground := Ground.phase }, { on := 10, ground := Ground.phase }, { on := 11, ground := Ground.phase }, { on := 12, ground := Ground.phase }, { on := 13, ground := Ground.phase }, { on := 14, ground := Ground.phase }, { on := 15, ground := Ground.phase }, { on := 16, ground := Ground.phase }, { on := 17, ground := Ground.phase }], guard := none }) (v := ?_) rfl (by kernel_rfl) (by kernel_rfl) (by kernel_rfl) (fun _ _ _ h => h) (Or.inl ⟨by rfl, ?_⟩) (by assumption) ?_
                  rotate_left
                  · intro w hSw; (try dsimp only at hSw); go_simp; (try with_reducible rfl)
                  try simp only [Act.put, List.setIfInBounds_toArray, List.set_cons_zero, List.set_cons_succ]
                  refine wpAnyH_done (by kernel_rfl) ?_ _
                  have AM9 := Lib.hid (R23.done (d := (G.bothTo k (y0 + 1)).2) H16.out PL9.out (by have := SZW.out; simp; try omega) HN9.out HCL.out HRL.out (by rw [HDN.out.2, ints_append]; rfl) (by rw [G.bothTo_len k (y0 + 1) |>.2, hx]))
                  have hpl : plainR (qs ++ [((A6, c6, cs ++ [(((some ⟨wr.heap.size, 0, none⟩, 1, [(x : Int)]) : SL), 2)]) : CR)]) = (G.bothTo k (y0 + 1)).1 := by rw [plainR_snoc, HPL.out, HDN.out.1]; simp [pcs]
                  have hql : (qs ++ [((A6, c6, cs ++ [(((some ⟨wr.heap.size, 0, none⟩, 1, [(x : Int)]) : SL), 2)]) : CR)]).length = x + 1 := by rw [List.length_append, HRL.out]; rfl
                  have HPLN := Lib.hid hpl
                  have HQL := Lib.hid hql
                  have X16 := Lib.hid H16.out.bx
                  clear hpl hql
                  go_wp2_with fail
                  go_roundw
                  case rel => exact ⟨i + 1, by omega, by go_num, ⟨A8, c8, _, A9, k9, by rw [HQL.out], by rw [HY1.out, G.bothTo_len k (y0 + 1) |>.2, hx], by rw [HY1.out]; exact AM9.out, by rw [HY1.out]; exact HPLN.out, X16.out, BW9.out⟩⟩
                  case measure => simp [intOf]; omega
              · skip
                go_simp
                refine hK.out _ _ ?_ (fun hHeld => ?_)
                · exact (((H0.out.alloc (.cells #[.int .i64 (x : Int)] 3)).alloc (.cells #[.slice (some ⟨wr.heap.size, 0, none⟩) 1 1, .int .u64 2] 64)).alloc (.cells #[.int .i64 y] 3)).cell HK9.out
                clear hK K
                try simp only [Act.put, List.setIfInBounds_toArray, List.set_cons_zero, List.set_cons_succ]
                refine wpAnyH_ready (rs := [6]) (by kernel_rfl) (by simp) ?_
                refine AllReadyH.cons (o := { dst := some 110, op := Op.call { callee := Callee.builtin Builtin.append, args := #[Operand.tmp 105, Operand.tmp 109], argTypes := #[65, 65] }, type := 65, pos := _, after := #[{ on := 1, ground := Ground.data }, { on := 5, ground := Ground.data }], guard := none }) rfl (fun K hK => ?_) AllReadyH.nil
                obtain ⟨A6, c6, u6, hrun6, hown6, hgr6, hat6⟩ := app_run 65 64 65 Tryz.underlying65 _ 2 32 cut_info rfl (by decide) (by decide) wo.heap.size AL s.length cL (cutC cs) ((((H0.out.alloc (.cells #[.int .i64 (x : Int)] 3)).alloc (.cells #[.slice (some ⟨wr.heap.size, 0, none⟩) 1 1, .int .u64 2] 64)).alloc (.cells #[.int .i64 y] 3))).ll ⟨wr.heap.size + 1, 0, none⟩ 1 [.slice (some ⟨wr.heap.size, 0, none⟩) 1 1, .int .u64 2] (rd_of_blk ((blk_made1 wr.drew _ _ _).alloc (.cells #[.int .i64 y] 3)) 2 1 rfl) (cut_one2 _ _) (by omega) ((((H0.out.alloc (.cells #[.int .i64 (x : Int)] 3)).alloc (.cells #[.slice (some ⟨wr.heap.size, 0, none⟩) 1 1, .int .u64 2] 64)).alloc (.cells #[.int .i64 y] 3))).sz.1
                have H6 := Lib.hid (((((H0.out.alloc (.cells #[.int .i64 (x : Int)] 3)).alloc (.cells #[.slice (some ⟨wr.heap.size, 0, none⟩) 1 1, .int .u64 2] 64)).alloc (.cells #[.int .i64 y] 3))).appRow hown6 hgr6)
                have B6 := Lib.hid (Below.grown (below_then (below_then (below_then BD.out (below_new _ (.cells #[.int .i64 (x : Int)] 3))) (below_new _ (.cells #[.slice (some ⟨wr.heap.size, 0, none⟩) 1 1, .int .u64 2] 64))) (below_new _ (.cells #[.int .i64 y] 3))) hgr6 ((below_then (below_then (below_then BD.out (below_new _ (.cells #[.int .i64 (x : Int)] 3))) (below_new _ (.cells #[.slice (some ⟨wr.heap.size, 0, none⟩) 1 1, .int .u64 2] 64))) (below_new _ (.cells #[.int .i64 y] 3)))).size (fun q hq => Nat.le_trans ((((H0.out.alloc (.cells #[.int .i64 (x : Int)] 3)).alloc (.cells #[.slice (some ⟨wr.heap.size, 0, none⟩) 1 1, .int .u64 2] 64)).alloc (.cells #[.int .i64 y] 3))).sz.2 (own_base ((((H0.out.alloc (.cells #[.int .i64 (x : Int)] 3)).alloc (.cells #[.slice (some ⟨wr.heap.size, 0, none⟩) 1 1, .int .u64 2] 64)).alloc (.cells #[.int .i64 y] 3))).ll (by rw [own_blk]; exact hq))))
                have PL6 := Lib.hid (show Blk u6 (wr.heap.size) 3 #[.int .i64 (x : Int)] from blk_grown (((Blk.made wr.drew _ _).alloc (.cells #[.slice (some ⟨wr.heap.size, 0, none⟩) 1 1, .int .u64 2] 64)).alloc (.cells #[.int .i64 y] 3)) ((((H0.out.alloc (.cells #[.int .i64 (x : Int)] 3)).alloc (.cells #[.slice (some ⟨wr.heap.size, 0, none⟩) 1 1, .int .u64 2] 64)).alloc (.cells #[.int .i64 y] 3))).ll (by decide) hgr6)
                have PD6 := Lib.hid (show Blk u6 (wr.heap.size + 1 + 1) 3 #[.int .i64 y] from blk_grown (blk_made2 wr.drew _ _ _ _) ((((H0.out.alloc (.cells #[.int .i64 (x : Int)] 3)).alloc (.cells #[.slice (some ⟨wr.heap.size, 0, none⟩) 1 1, .int .u64 2] 64)).alloc (.cells #[.int .i64 y] 3))).ll (by decide) hgr6)
                refine step_app_run (by rfl) (.tmp 105) (.tmp 109) 65 65 (by rfl) (.slice AL s.length cL) (.slice (some ⟨wr.heap.size + 1, 0, none⟩) 1 1) (by rfl) (by rfl) hrun6 ?_
                clear hrun6 hown6 hgr6 hat6
                refine hK.out _ _ ?_ (fun hHeld => ?_)
                · exact H6.out.cell HK9.out
                clear hK K
                try simp only [Act.put, List.setIfInBounds_toArray, List.set_cons_zero, List.set_cons_succ]
                refine wpAnyH_ready (rs := [7]) (by kernel_rfl) (by simp) ?_
                refine AllReadyH.cons (o := { dst := some 111, op := Op.buildSlice 56 1 #[(0, Operand.tmp 110)], type := 56, pos := _, after := #[{ on := 6, ground := Ground.data }], guard := none }) rfl (fun K hK => ?_) AllReadyH.nil
                go_simp
                refine hK.out _ _ ?_ (fun hHeld => ?_)
                · exact (H6.out.alloc (.cells #[.slice A6 (s.length + 1) c6] 65)).cell HK9.out
                clear hK K
                try simp only [Act.put, List.setIfInBounds_toArray, List.set_cons_zero, List.set_cons_succ]
                refine wpAnyH_ready (rs := [8]) (by kernel_rfl) (by simp) ?_
                refine AllReadyH.cons (o := { dst := some 112, op := Op.call { callee := Callee.builtin Builtin.append, args := #[Operand.tmp 104, Operand.tmp 111], argTypes := #[56, 56] }, type := 56, pos := _, after := #[{ on := 0, ground := Ground.data }, { on := 7, ground := Ground.data }, { on := 6, ground := Ground.chain }], guard := none }) rfl (fun K hK => ?_) AllReadyH.nil
                obtain ⟨A8, c8, u8, hrun8, hown8, hgr8, hat8⟩ := app_run 56 65 56 Tryz.underlying56 _ 1 24 cuts_info rfl (by decide) (by decide) w.heap.size (some ⟨go, 0, none⟩) x cB (qs.map crv) ((H6.out.alloc (.cells #[.slice A6 (s.length + 1) c6] 65))).oo ⟨u6.heap.size, 0, none⟩ 1 [.slice A6 (s.length + 1) c6] (rd_of_blk (Blk.made u6 _ _) 1 1 rfl) (fun u hu => by rw [List.mem_singleton] at hu; subst hu; rfl) (by omega) (Nat.le_trans ((H6.out.alloc (.cells #[.slice A6 (s.length + 1) c6] 65))).sz.2 ((H6.out.alloc (.cells #[.slice A6 (s.length + 1) c6] 65))).sz.1)
                have H8 := Lib.hid (((H6.out.alloc (.cells #[.slice A6 (s.length + 1) c6] 65))).appOut hown8 hgr8)
                have B8 := Lib.hid (Below.grown (below_then B6.out (below_new _ (.cells #[.slice A6 (s.length + 1) c6] 65))) hgr8 ((below_then B6.out (below_new _ (.cells #[.slice A6 (s.length + 1) c6] 65)))).size (fun q hq => own_base ((H6.out.alloc (.cells #[.slice A6 (s.length + 1) c6] 65))).oo (by rw [own_blk]; exact hq)))
                have PL8 := Lib.hid (show Blk u8 (wr.heap.size) 3 #[.int .i64 (x : Int)] from blk_grown (PL6.out.alloc (.cells #[.slice A6 (s.length + 1) c6] 65)) ((H6.out.alloc (.cells #[.slice A6 (s.length + 1) c6] 65))).oo (by decide) hgr8)
                have PD8 := Lib.hid (show Blk u8 (wr.heap.size + 1 + 1) 3 #[.int .i64 y] from blk_grown (PD6.out.alloc (.cells #[.slice A6 (s.length + 1) c6] 65)) ((H6.out.alloc (.cells #[.slice A6 (s.length + 1) c6] 65))).oo (by decide) hgr8)
                refine step_app_run (by rfl) (.tmp 104) (.tmp 111) 56 56 (by rfl) (.slice (some ⟨go, 0, none⟩) x cB) (.slice (some ⟨u6.heap.size, 0, none⟩) 1 1) (by rfl) (by rfl) hrun8 ?_
                clear hrun8 hown8 hgr8 hat8
                refine hK.out _ _ ?_ (fun hHeld => ?_)
                · exact H8.out.cell HK9.out
                clear hK K
                try simp only [Act.put, List.setIfInBounds_toArray, List.set_cons_zero, List.set_cons_succ]
                refine wpAnyH_ready (rs := [16]) (by kernel_rfl) (by simp) ?_
                refine AllReadyH.cons (o := { dst := some 120, op := Op.call { callee := Callee.builtin Builtin.append, args := #[Operand.tmp 113, Operand.tmp 119], argTypes := #[24, 24] }, type := 24, pos := _, after := #[{ on := 9, ground := Ground.data }, { on := 15, ground := Ground.data }, { on := 8, ground := Ground.chain }], guard := none }) rfl (fun K hK => ?_) AllReadyH.nil
                obtain ⟨A9, k9, u9, hrun9, hown9, hgr9, hat9⟩ := app_run 24 3 24 Tryz.underlying24 _ 1 8 int_infoA rfl (by decide) (by decide) w.heap.size AE x cE (ints (G.bothTo k y0).2) (H8.out).dd ⟨wr.heap.size + 1 + 1, 0, none⟩ 1 [.int .i64 y] (rd_of_blk PD8.out 1 1 rfl) (fun u hu => by rw [List.mem_singleton] at hu; subst hu; rfl) (by omega) (Nat.le_trans (H8.out).sz.2 (H8.out).sz.1)
                have H16 := Lib.hid ((H8.out).appDep hown9 hgr9 hat9)
                have BW9 := Lib.hid (Below.grown B8.out hgr9 (B8.out).size (fun q hq => own_base (H8.out).dd (by rw [own_blk]; exact hq)))
                have hnl : blkOf AE ≠ some (wr.heap.size) := fun e => by have h1 := HAL.out _ e; omega
                have PL9 := Lib.hid (show Blk u9 (wr.heap.size) 3 #[.int .i64 (x : Int)] from blk_dep PL8.out hgr9 hnl)
                have HN9 := Lib.hid (show blkOf A9 ≠ some (wr.heap.size) from fun e => by
                  rcases hat9 with e2 | e2
                  · exact hnl (e2.symm.trans e)
                  · rw [e2] at e
                    have h1 := PL8.out.lt
                    have h2 := Option.some.inj e
                    omega)
                refine step_app_run (by rfl) (.tmp 113) (.tmp 119) 24 24 (by rfl) (.slice AE x cE) (.slice (some ⟨wr.heap.size + 1 + 1, 0, none⟩) 1 1) (by rfl) (by rfl) hrun9 ?_
                clear hrun9 hown9 hgr9 hat9 hnl
                refine hK.out _ _ ?_ (fun hHeld => ?_)
                · exact H16.out.cell HK9.out
                clear hK K
                try simp only [Act.put, List.setIfInBounds_toArray, List.set_cons_zero, List.set_cons_succ]
                refine wpAnyH_take (i := 17) (oi := { dst := some 8, op := Op.assign (Operand.tmp 112), type := 56, pos := _, after := #[{ on := 8, ground := Ground.data }, { on := 16, ground := Ground.chain }, { on := 0, ground := Ground.phase }, { on := 1, ground := Ground.phase }, { on := 2, ground := Ground.phase }, { on := 3, ground := Ground.phase }, { on := 4, ground := Ground.phase }, { on := 5, ground := Ground.phase }, { on := 6, ground := Ground.phase }, { on := 7, ground := Ground.phase }, { on := 8, ground := Ground.phase }, { on := 9, ground := Ground.textOnly Departure.lateStores }, { on := 10, ground := Ground.textOnly Departure.lateStores }, { on := 11, ground := Ground.textOnly Departure.lateStores }, { on := 12, ground := Ground.textOnly Departure.lateStores }, { on := 13, ground := Ground.textOnly Departure.lateStores }, { on := 14, ground := Ground.textOnly Departure.lateStores }, { on := 15, ground := Ground.textOnly Departure.lateStores }, { on := 16, ground := Ground.textOnly Departure.lateStoresUnsure }], guard := none }) (v := ?_) rfl (by kernel_rfl) (by kernel_rfl) (by kernel_rfl) (fun _ _ _ h => h) (Or.inl ⟨by rfl, ?_⟩) (by assumption) ?_
                rotate_left
                · intro w hSw; (try dsimp only at hSw); go_simp; (try with_reducible rfl)
                try simp only [Act.put, List.setIfInBounds_toArray, List.set_cons_zero, List.set_cons_succ]
                refine wpAnyH_take (i := 18) (oi := { dst := some 9, op := Op.assign (Operand.tmp 120), type := 24, pos := _, after := #[{ on := 16, ground := Ground.data }, { on := 17, ground := Ground.chain }, { on := 0, ground := Ground.phase }, { on := 1, ground := Ground.phase }, { on := 2, ground := Ground.phase }, { on := 3, ground := Ground.phase }, { on := 4, ground := Ground.phase }, { on := 5, ground := Ground.phase }, { on := 6, ground := Ground.phase }, { on := 7, ground := Ground.phase }, { on := 8, ground := Ground.phase }, { on := 9, ground := Ground.phase }, { on := 10, ground := Ground.phase }, { on := 11, ground := Ground.phase }, { on := 12, ground := Ground.phase }, { on := 13, ground := Ground.phase }, { on := 14, ground := Ground.phase }, { on := 15, ground := Ground.phase }, { on := 16, ground := Ground.phase }, { on := 17, ground := Ground.phase }], guard := none }) (v := ?_) rfl (by kernel_rfl) (by kernel_rfl) (by kernel_rfl) (fun _ _ _ h => h) (Or.inl ⟨by rfl, ?_⟩) (by assumption) ?_
                rotate_left
                · intro w hSw; (try dsimp only at hSw); go_simp; (try with_reducible rfl)
                try simp only [Act.put, List.setIfInBounds_toArray, List.set_cons_zero, List.set_cons_succ]
                refine wpAnyH_done (by kernel_rfl) ?_ _
                have AM9 := Lib.hid (R23.done (d := (G.bothTo k (y0 + 1)).2) H16.out PL9.out (by have := SZW.out; simp; try omega) HN9.out HCL.out HRL.out (by rw [HDN.out.2, ints_append]; rfl) (by rw [G.bothTo_len k (y0 + 1) |>.2, hx]))
                have hpl : plainR (qs ++ [((A6, c6, cs ++ [(((some ⟨wr.heap.size, 0, none⟩, 1, [(x : Int)]) : SL), 2)]) : CR)]) = (G.bothTo k (y0 + 1)).1 := by rw [plainR_snoc, HPL.out, HDN.out.1]; simp [pcs]
                have hql : (qs ++ [((A6, c6, cs ++ [(((some ⟨wr.heap.size, 0, none⟩, 1, [(x : Int)]) : SL), 2)]) : CR)]).length = x + 1 := by rw [List.length_append, HRL.out]; rfl
                have HPLN := Lib.hid hpl
                have HQL := Lib.hid hql
                have X16 := Lib.hid H16.out.bx
                clear hpl hql
                go_wp2_with fail
                go_roundw
                case rel => exact ⟨i + 1, by omega, by go_num, ⟨A8, c8, _, A9, k9, by rw [HQL.out], by rw [HY1.out, G.bothTo_len k (y0 + 1) |>.2, hx], by rw [HY1.out]; exact AM9.out, by rw [HY1.out]; exact HPLN.out, X16.out, BW9.out⟩⟩
                case measure => simp [intOf]; omega
            · skip
              go_simp
              refine hK.out _ _ ?_ (fun hHeld => ?_)
              · exact ((H0.out.alloc (.cells #[.int .i64 (x : Int)] 3)).alloc (.cells #[.int .i64 y] 3)).cell HK9.out
              clear hK K
              try simp only [Act.put, List.setIfInBounds_toArray, List.set_cons_zero, List.set_cons_succ]
              refine wpAnyH_ready (rs := [5]) (by kernel_rfl) (by simp) ?_
              refine AllReadyH.cons (o := { dst := some 109, op := Op.buildSlice 65 1 #[(0, Operand.tmp 108)], type := 65, pos := _, after := #[{ on := 4, ground := Ground.data }], guard := none }) rfl (fun K hK => ?_) AllReadyH.nil
              go_simp
              refine hK.out _ _ ?_ (fun hHeld => ?_)
              · exact (((H0.out.alloc (.cells #[.int .i64 (x : Int)] 3)).alloc (.cells #[.int .i64 y] 3)).alloc (.cells #[.slice (some ⟨wr.heap.size, 0, none⟩) 1 1, .int .u64 2] 64)).cell HK9.out
              clear hK K
              try simp only [Act.put, List.setIfInBounds_toArray, List.set_cons_zero, List.set_cons_succ]
              refine wpAnyH_ready (rs := [6]) (by kernel_rfl) (by simp) ?_
              refine AllReadyH.cons (o := { dst := some 110, op := Op.call { callee := Callee.builtin Builtin.append, args := #[Operand.tmp 105, Operand.tmp 109], argTypes := #[65, 65] }, type := 65, pos := _, after := #[{ on := 1, ground := Ground.data }, { on := 5, ground := Ground.data }], guard := none }) rfl (fun K hK => ?_) AllReadyH.nil
              obtain ⟨A6, c6, u6, hrun6, hown6, hgr6, hat6⟩ := app_run 65 64 65 Tryz.underlying65 _ 2 32 cut_info rfl (by decide) (by decide) wo.heap.size AL s.length cL (cutC cs) ((((H0.out.alloc (.cells #[.int .i64 (x : Int)] 3)).alloc (.cells #[.int .i64 y] 3)).alloc (.cells #[.slice (some ⟨wr.heap.size, 0, none⟩) 1 1, .int .u64 2] 64))).ll ⟨wr.heap.size + 1 + 1, 0, none⟩ 1 [.slice (some ⟨wr.heap.size, 0, none⟩) 1 1, .int .u64 2] (rd_of_blk (blk_made2 wr.drew _ _ _ _) 2 1 rfl) (cut_one2 _ _) (by omega) ((((H0.out.alloc (.cells #[.int .i64 (x : Int)] 3)).alloc (.cells #[.int .i64 y] 3)).alloc (.cells #[.slice (some ⟨wr.heap.size, 0, none⟩) 1 1, .int .u64 2] 64))).sz.1
              have H6 := Lib.hid (((((H0.out.alloc (.cells #[.int .i64 (x : Int)] 3)).alloc (.cells #[.int .i64 y] 3)).alloc (.cells #[.slice (some ⟨wr.heap.size, 0, none⟩) 1 1, .int .u64 2] 64))).appRow hown6 hgr6)
              have B6 := Lib.hid (Below.grown (below_then (below_then (below_then BD.out (below_new _ (.cells #[.int .i64 (x : Int)] 3))) (below_new _ (.cells #[.int .i64 y] 3))) (below_new _ (.cells #[.slice (some ⟨wr.heap.size, 0, none⟩) 1 1, .int .u64 2] 64))) hgr6 ((below_then (below_then (below_then BD.out (below_new _ (.cells #[.int .i64 (x : Int)] 3))) (below_new _ (.cells #[.int .i64 y] 3))) (below_new _ (.cells #[.slice (some ⟨wr.heap.size, 0, none⟩) 1 1, .int .u64 2] 64)))).size (fun q hq => Nat.le_trans ((((H0.out.alloc (.cells #[.int .i64 (x : Int)] 3)).alloc (.cells #[.int .i64 y] 3)).alloc (.cells #[.slice (some ⟨wr.heap.size, 0, none⟩) 1 1, .int .u64 2] 64))).sz.2 (own_base ((((H0.out.alloc (.cells #[.int .i64 (x : Int)] 3)).alloc (.cells #[.int .i64 y] 3)).alloc (.cells #[.slice (some ⟨wr.heap.size, 0, none⟩) 1 1, .int .u64 2] 64))).ll (by rw [own_blk]; exact hq))))
              have PL6 := Lib.hid (show Blk u6 (wr.heap.size) 3 #[.int .i64 (x : Int)] from blk_grown (((Blk.made wr.drew _ _).alloc (.cells #[.int .i64 y] 3)).alloc (.cells #[.slice (some ⟨wr.heap.size, 0, none⟩) 1 1, .int .u64 2] 64)) ((((H0.out.alloc (.cells #[.int .i64 (x : Int)] 3)).alloc (.cells #[.int .i64 y] 3)).alloc (.cells #[.slice (some ⟨wr.heap.size, 0, none⟩) 1 1, .int .u64 2] 64))).ll (by decide) hgr6)
              have PD6 := Lib.hid (show Blk u6 (wr.heap.size + 1) 3 #[.int .i64 y] from blk_grown ((blk_made1 wr.drew _ _ _).alloc (.cells #[.slice (some ⟨wr.heap.size, 0, none⟩) 1 1, .int .u64 2] 64)) ((((H0.out.alloc (.cells #[.int .i64 (x : Int)] 3)).alloc (.cells #[.int .i64 y] 3)).alloc (.cells #[.slice (some ⟨wr.heap.size, 0, none⟩) 1 1, .int .u64 2] 64))).ll (by decide) hgr6)
              refine step_app_run (by rfl) (.tmp 105) (.tmp 109) 65 65 (by rfl) (.slice AL s.length cL) (.slice (some ⟨wr.heap.size + 1 + 1, 0, none⟩) 1 1) (by rfl) (by rfl) hrun6 ?_
              clear hrun6 hown6 hgr6 hat6
              refine hK.out _ _ ?_ (fun hHeld => ?_)
              · exact H6.out.cell HK9.out
              clear hK K
              try simp only [Act.put, List.setIfInBounds_toArray, List.set_cons_zero, List.set_cons_succ]
              refine wpAnyH_ready (rs := [7]) (by kernel_rfl) (by simp) ?_
              refine AllReadyH.cons (o := { dst := some 111, op := Op.buildSlice 56 1 #[(0, Operand.tmp 110)], type := 56, pos := _, after := #[{ on := 6, ground := Ground.data }], guard := none }) rfl (fun K hK => ?_) AllReadyH.nil
              go_simp
              refine hK.out _ _ ?_ (fun hHeld => ?_)
              · exact (H6.out.alloc (.cells #[.slice A6 (s.length + 1) c6] 65)).cell HK9.out
              clear hK K
              try simp only [Act.put, List.setIfInBounds_toArray, List.set_cons_zero, List.set_cons_succ]
              refine wpAnyH_ready (rs := [8]) (by kernel_rfl) (by simp) ?_
              refine AllReadyH.cons (o := { dst := some 112, op := Op.call { callee := Callee.builtin Builtin.append, args := #[Operand.tmp 104, Operand.tmp 111], argTypes := #[56, 56] }, type := 56, pos := _, after := #[{ on := 0, ground := Ground.data }, { on := 7, ground := Ground.data }, { on := 6, ground := Ground.chain }], guard := none }) rfl (fun K hK => ?_) AllReadyH.nil
              obtain ⟨A8, c8, u8, hrun8, hown8, hgr8, hat8⟩ := app_run 56 65 56 Tryz.underlying56 _ 1 24 cuts_info rfl (by decide) (by decide) w.heap.size (some ⟨go, 0, none⟩) x cB (qs.map crv) ((H6.out.alloc (.cells #[.slice A6 (s.length + 1) c6] 65))).oo ⟨u6.heap.size, 0, none⟩ 1 [.slice A6 (s.length + 1) c6] (rd_of_blk (Blk.made u6 _ _) 1 1 rfl) (fun u hu => by rw [List.mem_singleton] at hu; subst hu; rfl) (by omega) (Nat.le_trans ((H6.out.alloc (.cells #[.slice A6 (s.length + 1) c6] 65))).sz.2 ((H6.out.alloc (.cells #[.slice A6 (s.length + 1) c6] 65))).sz.1)
              have H8 := Lib.hid (((H6.out.alloc (.cells #[.slice A6 (s.length + 1) c6] 65))).appOut hown8 hgr8)
              have B8 := Lib.hid (Below.grown (below_then B6.out (below_new _ (.cells #[.slice A6 (s.length + 1) c6] 65))) hgr8 ((below_then B6.out (below_new _ (.cells #[.slice A6 (s.length + 1) c6] 65)))).size (fun q hq => own_base ((H6.out.alloc (.cells #[.slice A6 (s.length + 1) c6] 65))).oo (by rw [own_blk]; exact hq)))
              have PL8 := Lib.hid (show Blk u8 (wr.heap.size) 3 #[.int .i64 (x : Int)] from blk_grown (PL6.out.alloc (.cells #[.slice A6 (s.length + 1) c6] 65)) ((H6.out.alloc (.cells #[.slice A6 (s.length + 1) c6] 65))).oo (by decide) hgr8)
              have PD8 := Lib.hid (show Blk u8 (wr.heap.size + 1) 3 #[.int .i64 y] from blk_grown (PD6.out.alloc (.cells #[.slice A6 (s.length + 1) c6] 65)) ((H6.out.alloc (.cells #[.slice A6 (s.length + 1) c6] 65))).oo (by decide) hgr8)
              refine step_app_run (by rfl) (.tmp 104) (.tmp 111) 56 56 (by rfl) (.slice (some ⟨go, 0, none⟩) x cB) (.slice (some ⟨u6.heap.size, 0, none⟩) 1 1) (by rfl) (by rfl) hrun8 ?_
              clear hrun8 hown8 hgr8 hat8
              refine hK.out _ _ ?_ (fun hHeld => ?_)
              · exact H8.out.cell HK9.out
              clear hK K
              try simp only [Act.put, List.setIfInBounds_toArray, List.set_cons_zero, List.set_cons_succ]
              refine wpAnyH_ready (rs := [16]) (by kernel_rfl) (by simp) ?_
              refine AllReadyH.cons (o := { dst := some 120, op := Op.call { callee := Callee.builtin Builtin.append, args := #[Operand.tmp 113, Operand.tmp 119], argTypes := #[24, 24] }, type := 24, pos := _, after := #[{ on := 9, ground := Ground.data }, { on := 15, ground := Ground.data }, { on := 8, ground := Ground.chain }], guard := none }) rfl (fun K hK => ?_) AllReadyH.nil
              obtain ⟨A9, k9, u9, hrun9, hown9, hgr9, hat9⟩ := app_run 24 3 24 Tryz.underlying24 _ 1 8 int_infoA rfl (by decide) (by decide) w.heap.size AE x cE (ints (G.bothTo k y0).2) (H8.out).dd ⟨wr.heap.size + 1, 0, none⟩ 1 [.int .i64 y] (rd_of_blk PD8.out 1 1 rfl) (fun u hu => by rw [List.mem_singleton] at hu; subst hu; rfl) (by omega) (Nat.le_trans (H8.out).sz.2 (H8.out).sz.1)
              have H16 := Lib.hid ((H8.out).appDep hown9 hgr9 hat9)
              have BW9 := Lib.hid (Below.grown B8.out hgr9 (B8.out).size (fun q hq => own_base (H8.out).dd (by rw [own_blk]; exact hq)))
              have hnl : blkOf AE ≠ some (wr.heap.size) := fun e => by have h1 := HAL.out _ e; omega
              have PL9 := Lib.hid (show Blk u9 (wr.heap.size) 3 #[.int .i64 (x : Int)] from blk_dep PL8.out hgr9 hnl)
              have HN9 := Lib.hid (show blkOf A9 ≠ some (wr.heap.size) from fun e => by
                rcases hat9 with e2 | e2
                · exact hnl (e2.symm.trans e)
                · rw [e2] at e
                  have h1 := PL8.out.lt
                  have h2 := Option.some.inj e
                  omega)
              refine step_app_run (by rfl) (.tmp 113) (.tmp 119) 24 24 (by rfl) (.slice AE x cE) (.slice (some ⟨wr.heap.size + 1, 0, none⟩) 1 1) (by rfl) (by rfl) hrun9 ?_
              clear hrun9 hown9 hgr9 hat9 hnl
              refine hK.out _ _ ?_ (fun hHeld => ?_)
              · exact H16.out.cell HK9.out
              clear hK K
              try simp only [Act.put, List.setIfInBounds_toArray, List.set_cons_zero, List.set_cons_succ]
              refine wpAnyH_take (i := 17) (oi := { dst := some 8, op := Op.assign (Operand.tmp 112), type := 56, pos := _, after := #[{ on := 8, ground := Ground.data }, { on := 16, ground := Ground.chain }, { on := 0, ground := Ground.phase }, { on := 1, ground := Ground.phase }, { on := 2, ground := Ground.phase }, { on := 3, ground := Ground.phase }, { on := 4, ground := Ground.phase }, { on := 5, ground := Ground.phase }, { on := 6, ground := Ground.phase }, { on := 7, ground := Ground.phase }, { on := 8, ground := Ground.phase }, { on := 9, ground := Ground.textOnly Departure.lateStores }, { on := 10, ground := Ground.textOnly Departure.lateStores }, { on := 11, ground := Ground.textOnly Departure.lateStores }, { on := 12, ground := Ground.textOnly Departure.lateStores }, { on := 13, ground := Ground.textOnly Departure.lateStores }, { on := 14, ground := Ground.textOnly Departure.lateStores }, { on := 15, ground := Ground.textOnly Departure.lateStores }, { on := 16, ground := Ground.textOnly Departure.lateStoresUnsure }], guard := none }) (v := ?_) rfl (by kernel_rfl) (by kernel_rfl) (by kernel_rfl) (fun _ _ _ h => h) (Or.inl ⟨by rfl, ?_⟩) (by assumption) ?_
              rotate_left
              · intro w hSw; (try dsimp only at hSw); go_simp; (try with_reducible rfl)
              try simp only [Act.put, List.setIfInBounds_toArray, List.set_cons_zero, List.set_cons_succ]
              refine wpAnyH_take (i := 18) (oi := { dst := some 9, op := Op.assign (Operand.tmp 120), type := 24, pos := _, after := #[{ on := 16, ground := Ground.data }, { on := 17, ground := Ground.chain }, { on := 0, ground := Ground.phase }, { on := 1, ground := Ground.phase }, { on := 2, ground := Ground.phase }, { on := 3, ground := Ground.phase }, { on := 4, ground := Ground.phase }, { on := 5, ground := Ground.phase }, { on := 6, ground := Ground.phase }, { on := 7, ground := Ground.phase }, { on := 8, ground := Ground.phase }, { on := 9, ground := Ground.phase }, { on := 10, ground := Ground.phase }, { on := 11, ground := Ground.phase }, { on := 12, ground := Ground.phase }, { on := 13, ground := Ground.phase }, { on := 14, ground := Ground.phase }, { on := 15, ground := Ground.phase }, { on := 16, ground := Ground.phase }, { on := 17, ground := Ground.phase }], guard := none }) (v := ?_) rfl (by kernel_rfl) (by kernel_rfl) (by kernel_rfl) (fun _ _ _ h => h) (Or.inl ⟨by rfl, ?_⟩) (by assumption) ?_
              rotate_left
              · intro w hSw; (try dsimp only at hSw); go_simp; (try with_reducible rfl)
              try simp only [Act.put, List.setIfInBounds_toArray, List.set_cons_zero, List.set_cons_succ]
              refine wpAnyH_done (by kernel_rfl) ?_ _
              have AM9 := Lib.hid (R23.done (d := (G.bothTo k (y0 + 1)).2) H16.out PL9.out (by have := SZW.out; simp; try omega) HN9.out HCL.out HRL.out (by rw [HDN.out.2, ints_append]; rfl) (by rw [G.bothTo_len k (y0 + 1) |>.2, hx]))
              have hpl : plainR (qs ++ [((A6, c6, cs ++ [(((some ⟨wr.heap.size, 0, none⟩, 1, [(x : Int)]) : SL), 2)]) : CR)]) = (G.bothTo k (y0 + 1)).1 := by rw [plainR_snoc, HPL.out, HDN.out.1]; simp [pcs]
              have hql : (qs ++ [((A6, c6, cs ++ [(((some ⟨wr.heap.size, 0, none⟩, 1, [(x : Int)]) : SL), 2)]) : CR)]).length = x + 1 := by rw [List.length_append, HRL.out]; rfl
              have HPLN := Lib.hid hpl
              have HQL := Lib.hid hql
              have X16 := Lib.hid H16.out.bx
              clear hpl hql
              go_wp2_with fail
              go_roundw
              case rel => exact ⟨i + 1, by omega, by go_num, ⟨A8, c8, _, A9, k9, by rw [HQL.out], by rw [HY1.out, G.bothTo_len k (y0 + 1) |>.2, hx], by rw [HY1.out]; exact AM9.out, by rw [HY1.out]; exact HPLN.out, X16.out, BW9.out⟩⟩
              case measure => simp [intOf]; omega
          · skip
            go_simp
            refine hK.out _ _ ?_ (fun hHeld => ?_)
            · exact (H0.out.alloc (.cells #[.int .i64 y] 3)).cell HK9.out
            clear hK K
            try simp only [Act.put, List.setIfInBounds_toArray, List.set_cons_zero, List.set_cons_succ]
            refine wpAnyH_ready (rs := [3]) (by kernel_rfl) (by simp) ?_
            refine AllReadyH.cons (o := { dst := some 107, op := Op.buildSlice 24 1 #[(0, Operand.tmp 106)], type := 24, pos := _, after := #[{ on := 2, ground := Ground.data }], guard := none }) rfl (fun K hK => ?_) AllReadyH.nil
            go_simp
            refine hK.out _ _ ?_ (fun hHeld => ?_)
            · exact ((H0.out.alloc (.cells #[.int .i64 y] 3)).alloc (.cells #[.int .i64 (x : Int)] 3)).cell HK9.out
            clear hK K
            try simp only [Act.put, List.setIfInBounds_toArray, List.set_cons_zero, List.set_cons_succ]
            refine wpAnyH_take (i := 4) (oi := { dst := some 108, op := Op.build 64 #[(0, Operand.tmp 107), (1, Operand.const (Value.int IntKind.u64 2))], type := 64, pos := _, after := #[{ on := 3, ground := Ground.data }], guard := none }) (v := ?_) rfl (by kernel_rfl) (by kernel_rfl) (by kernel_rfl) (fun _ _ _ h => h) (Or.inl ⟨by rfl, ?_⟩) (by assumption) ?_
            rotate_left
            · intro w hSw; (try dsimp only at hSw); go_simp; (try with_reducible rfl)
            try simp only [Act.put, List.setIfInBounds_toArray, List.set_cons_zero, List.set_cons_succ]
            refine wpAnyH_ready (rs := [5]) (by kernel_rfl) (by simp) ?_
            refine AllReadyH.cons (o := { dst := some 109, op := Op.buildSlice 65 1 #[(0, Operand.tmp 108)], type := 65, pos := _, after := #[{ on := 4, ground := Ground.data }], guard := none }) rfl (fun K hK => ?_) AllReadyH.nil
            go_simp
            refine hK.out _ _ ?_ (fun hHeld => ?_)
            · exact (((H0.out.alloc (.cells #[.int .i64 y] 3)).alloc (.cells #[.int .i64 (x : Int)] 3)).alloc (.cells #[.slice (some ⟨wr.heap.size + 1, 0, none⟩) 1 1, .int .u64 2] 64)).cell HK9.out
            clear hK K
            try simp only [Act.put, List.setIfInBounds_toArray, List.set_cons_zero, List.set_cons_succ]
            refine wpAnyH_ready (rs := [6]) (by kernel_rfl) (by simp) ?_
            refine AllReadyH.cons (o := { dst := some 110, op := Op.call { callee := Callee.builtin Builtin.append, args := #[Operand.tmp 105, Operand.tmp 109], argTypes := #[65, 65] }, type := 65, pos := _, after := #[{ on := 1, ground := Ground.data }, { on := 5, ground := Ground.data }], guard := none }) rfl (fun K hK => ?_) AllReadyH.nil
            obtain ⟨A6, c6, u6, hrun6, hown6, hgr6, hat6⟩ := app_run 65 64 65 Tryz.underlying65 _ 2 32 cut_info rfl (by decide) (by decide) wo.heap.size AL s.length cL (cutC cs) ((((H0.out.alloc (.cells #[.int .i64 y] 3)).alloc (.cells #[.int .i64 (x : Int)] 3)).alloc (.cells #[.slice (some ⟨wr.heap.size + 1, 0, none⟩) 1 1, .int .u64 2] 64))).ll ⟨wr.heap.size + 1 + 1, 0, none⟩ 1 [.slice (some ⟨wr.heap.size + 1, 0, none⟩) 1 1, .int .u64 2] (rd_of_blk (blk_made2 wr.drew _ _ _ _) 2 1 rfl) (cut_one2 _ _) (by omega) ((((H0.out.alloc (.cells #[.int .i64 y] 3)).alloc (.cells #[.int .i64 (x : Int)] 3)).alloc (.cells #[.slice (some ⟨wr.heap.size + 1, 0, none⟩) 1 1, .int .u64 2] 64))).sz.1
            have H6 := Lib.hid (((((H0.out.alloc (.cells #[.int .i64 y] 3)).alloc (.cells #[.int .i64 (x : Int)] 3)).alloc (.cells #[.slice (some ⟨wr.heap.size + 1, 0, none⟩) 1 1, .int .u64 2] 64))).appRow hown6 hgr6)
            have B6 := Lib.hid (Below.grown (below_then (below_then (below_then BD.out (below_new _ (.cells #[.int .i64 y] 3))) (below_new _ (.cells #[.int .i64 (x : Int)] 3))) (below_new _ (.cells #[.slice (some ⟨wr.heap.size + 1, 0, none⟩) 1 1, .int .u64 2] 64))) hgr6 ((below_then (below_then (below_then BD.out (below_new _ (.cells #[.int .i64 y] 3))) (below_new _ (.cells #[.int .i64 (x : Int)] 3))) (below_new _ (.cells #[.slice (some ⟨wr.heap.size + 1, 0, none⟩) 1 1, .int .u64 2] 64)))).size (fun q hq => Nat.le_trans ((((H0.out.alloc (.cells #[.int .i64 y] 3)).alloc (.cells #[.int .i64 (x : Int)] 3)).alloc (.cells #[.slice (some ⟨wr.heap.size + 1, 0, none⟩) 1 1, .int .u64 2] 64))).sz.2 (own_base ((((H0.out.alloc (.cells #[.int .i64 y] 3)).alloc (.cells #[.int .i64 (x : Int)] 3)).alloc (.cells #[.slice (some ⟨wr.heap.size + 1, 0, none⟩) 1 1, .int .u64 2] 64))).ll (by rw [own_blk]; exact hq))))
            have PL6 := Lib.hid (show Blk u6 (wr.heap.size + 1) 3 #[.int .i64 (x : Int)] from blk_grown ((blk_made1 wr.drew _ _ _).alloc (.cells #[.slice (some ⟨wr.heap.size + 1, 0, none⟩) 1 1, .int .u64 2] 64)) ((((H0.out.alloc (.cells #[.int .i64 y] 3)).alloc (.cells #[.int .i64 (x : Int)] 3)).alloc (.cells #[.slice (some ⟨wr.heap.size + 1, 0, none⟩) 1 1, .int .u64 2] 64))).ll (by decide) hgr6)
            have PD6 := Lib.hid (show Blk u6 (wr.heap.size) 3 #[.int .i64 y] from blk_grown (((Blk.made wr.drew _ _).alloc (.cells #[.int .i64 (x : Int)] 3)).alloc (.cells #[.slice (some ⟨wr.heap.size + 1, 0, none⟩) 1 1, .int .u64 2] 64)) ((((H0.out.alloc (.cells #[.int .i64 y] 3)).alloc (.cells #[.int .i64 (x : Int)] 3)).alloc (.cells #[.slice (some ⟨wr.heap.size + 1, 0, none⟩) 1 1, .int .u64 2] 64))).ll (by decide) hgr6)
            refine step_app_run (by rfl) (.tmp 105) (.tmp 109) 65 65 (by rfl) (.slice AL s.length cL) (.slice (some ⟨wr.heap.size + 1 + 1, 0, none⟩) 1 1) (by rfl) (by rfl) hrun6 ?_
            clear hrun6 hown6 hgr6 hat6
            refine hK.out _ _ ?_ (fun hHeld => ?_)
            · exact H6.out.cell HK9.out
            clear hK K
            try simp only [Act.put, List.setIfInBounds_toArray, List.set_cons_zero, List.set_cons_succ]
            refine wpAnyH_ready (rs := [7]) (by kernel_rfl) (by simp) ?_
            refine AllReadyH.cons (o := { dst := some 111, op := Op.buildSlice 56 1 #[(0, Operand.tmp 110)], type := 56, pos := _, after := #[{ on := 6, ground := Ground.data }], guard := none }) rfl (fun K hK => ?_) AllReadyH.nil
            go_simp
            refine hK.out _ _ ?_ (fun hHeld => ?_)
            · exact (H6.out.alloc (.cells #[.slice A6 (s.length + 1) c6] 65)).cell HK9.out
            clear hK K
            try simp only [Act.put, List.setIfInBounds_toArray, List.set_cons_zero, List.set_cons_succ]
            refine wpAnyH_ready (rs := [8]) (by kernel_rfl) (by simp) ?_
            refine AllReadyH.cons (o := { dst := some 112, op := Op.call { callee := Callee.builtin Builtin.append, args := #[Operand.tmp 104, Operand.tmp 111], argTypes := #[56, 56] }, type := 56, pos := _, after := #[{ on := 0, ground := Ground.data }, { on := 7, ground := Ground.data }, { on := 6, ground := Ground.chain }], guard := none }) rfl (fun K hK => ?_) AllReadyH.nil
            obtain ⟨A8, c8, u8, hrun8, hown8, hgr8, hat8⟩ := app_run 56 65 56 Tryz.underlying56 _ 1 24 cuts_info rfl (by decide) (by decide) w.heap.size (some ⟨go, 0, none⟩) x cB (qs.map crv) ((H6.out.alloc (.cells #[.slice A6 (s.length + 1) c6] 65))).oo ⟨u6.heap.size, 0, none⟩ 1 [.slice A6 (s.length + 1) c6] (rd_of_blk (Blk.made u6 _ _) 1 1 rfl) (fun u hu => by rw [List.mem_singleton] at hu; subst hu; rfl) (by omega) (Nat.le_trans ((H6.out.alloc (.cells #[.slice A6 (s.length + 1) c6] 65))).sz.2 ((H6.out.alloc (.cells #[.slice A6 (s.length + 1) c6] 65))).sz.1)
            have H8 := Lib.hid (((H6.out.alloc (.cells #[.slice A6 (s.length + 1) c6] 65))).appOut hown8 hgr8)
            have B8 := Lib.hid (Below.grown (below_then B6.out (below_new _ (.cells #[.slice A6 (s.length + 1) c6] 65))) hgr8 ((below_then B6.out (below_new _ (.cells #[.slice A6 (s.length + 1) c6] 65)))).size (fun q hq => own_base ((H6.out.alloc (.cells #[.slice A6 (s.length + 1) c6] 65))).oo (by rw [own_blk]; exact hq)))
            have PL8 := Lib.hid (show Blk u8 (wr.heap.size + 1) 3 #[.int .i64 (x : Int)] from blk_grown (PL6.out.alloc (.cells #[.slice A6 (s.length + 1) c6] 65)) ((H6.out.alloc (.cells #[.slice A6 (s.length + 1) c6] 65))).oo (by decide) hgr8)
            have PD8 := Lib.hid (show Blk u8 (wr.heap.size) 3 #[.int .i64 y] from blk_grown (PD6.out.alloc (.cells #[.slice A6 (s.length + 1) c6] 65)) ((H6.out.alloc (.cells #[.slice A6 (s.length + 1) c6] 65))).oo (by decide) hgr8)
            refine step_app_run (by rfl) (.tmp 104) (.tmp 111) 56 56 (by rfl) (.slice (some ⟨go, 0, none⟩) x cB) (.slice (some ⟨u6.heap.size, 0, none⟩) 1 1) (by rfl) (by rfl) hrun8 ?_
            clear hrun8 hown8 hgr8 hat8
            refine hK.out _ _ ?_ (fun hHeld => ?_)
            · exact H8.out.cell HK9.out
            clear hK K
            try simp only [Act.put, List.setIfInBounds_toArray, List.set_cons_zero, List.set_cons_succ]
            refine wpAnyH_ready (rs := [16]) (by kernel_rfl) (by simp) ?_
            refine AllReadyH.cons (o := { dst := some 120, op := Op.call { callee := Callee.builtin Builtin.append, args := #[Operand.tmp 113, Operand.tmp 119], argTypes := #[24, 24] }, type := 24, pos := _, after := #[{ on := 9, ground := Ground.data }, { on := 15, ground := Ground.data }, { on := 8, ground := Ground.chain }], guard := none }) rfl (fun K hK => ?_) AllReadyH.nil
            obtain ⟨A9, k9, u9, hrun9, hown9, hgr9, hat9⟩ := app_run 24 3 24 Tryz.underlying24 _ 1 8 int_infoA rfl (by decide) (by decide) w.heap.size AE x cE (ints (G.bothTo k y0).2) (H8.out).dd ⟨wr.heap.size, 0, none⟩ 1 [.int .i64 y] (rd_of_blk PD8.out 1 1 rfl) (fun u hu => by rw [List.mem_singleton] at hu; subst hu; rfl) (by omega) (Nat.le_trans (H8.out).sz.2 (H8.out).sz.1)
            have H16 := Lib.hid ((H8.out).appDep hown9 hgr9 hat9)
            have BW9 := Lib.hid (Below.grown B8.out hgr9 (B8.out).size (fun q hq => own_base (H8.out).dd (by rw [own_blk]; exact hq)))
            have hnl : blkOf AE ≠ some (wr.heap.size + 1) := fun e => by have h1 := HAL.out _ e; omega
            have PL9 := Lib.hid (show Blk u9 (wr.heap.size + 1) 3 #[.int .i64 (x : Int)] from blk_dep PL8.out hgr9 hnl)
            have HN9 := Lib.hid (show blkOf A9 ≠ some (wr.heap.size + 1) from fun e => by
              rcases hat9 with e2 | e2
              · exact hnl (e2.symm.trans e)
              · rw [e2] at e
                have h1 := PL8.out.lt
                have h2 := Option.some.inj e
                omega)
            refine step_app_run (by rfl) (.tmp 113) (.tmp 119) 24 24 (by rfl) (.slice AE x cE) (.slice (some ⟨wr.heap.size, 0, none⟩) 1 1) (by rfl) (by rfl) hrun9 ?_
            clear hrun9 hown9 hgr9 hat9 hnl
            refine hK.out _ _ ?_ (fun hHeld => ?_)
            · exact H16.out.cell HK9.out
            clear hK K
            try simp only [Act.put, List.setIfInBounds_toArray, List.set_cons_zero, List.set_cons_succ]
            refine wpAnyH_take (i := 17) (oi := { dst := some 8, op := Op.assign (Operand.tmp 112), type := 56, pos := _, after := #[{ on := 8, ground := Ground.data }, { on := 16, ground := Ground.chain }, { on := 0, ground := Ground.phase }, { on := 1, ground := Ground.phase }, { on := 2, ground := Ground.phase }, { on := 3, ground := Ground.phase }, { on := 4, ground := Ground.phase }, { on := 5, ground := Ground.phase }, { on := 6, ground := Ground.phase }, { on := 7, ground := Ground.phase }, { on := 8, ground := Ground.phase }, { on := 9, ground := Ground.textOnly Departure.lateStores }, { on := 10, ground := Ground.textOnly Departure.lateStores }, { on := 11, ground := Ground.textOnly Departure.lateStores }, { on := 12, ground := Ground.textOnly Departure.lateStores }, { on := 13, ground := Ground.textOnly Departure.lateStores }, { on := 14, ground := Ground.textOnly Departure.lateStores }, { on := 15, ground := Ground.textOnly Departure.lateStores }, { on := 16, ground := Ground.textOnly Departure.lateStoresUnsure }], guard := none }) (v := ?_) rfl (by kernel_rfl) (by kernel_rfl) (by kernel_rfl) (fun _ _ _ h => h) (Or.inl ⟨by rfl, ?_⟩) (by assumption) ?_
            rotate_left
            · intro w hSw; (try dsimp only at hSw); go_simp; (try with_reducible rfl)
            try simp only [Act.put, List.setIfInBounds_toArray, List.set_cons_zero, List.set_cons_succ]
            refine wpAnyH_take (i := 18) (oi := { dst := some 9, op := Op.assign (Operand.tmp 120), type := 24, pos := _, after := #[{ on := 16, ground := Ground.data }, { on := 17, ground := Ground.chain }, { on := 0, ground := Ground.phase }, { on := 1, ground := Ground.phase }, { on := 2, ground := Ground.phase }, { on := 3, ground := Ground.phase }, { on := 4, ground := Ground.phase }, { on := 5, ground := Ground.phase }, { on := 6, ground := Ground.phase }, { on := 7, ground := Ground.phase }, { on := 8, ground := Ground.phase }, { on := 9, ground := Ground.phase }, { on := 10, ground := Ground.phase }, { on := 11, ground := Ground.phase }, { on := 12, ground := Ground.phase }, { on := 13, ground := Ground.phase }, { on := 14, ground := Ground.phase }, { on := 15, ground := Ground.phase }, { on := 16, ground := Ground.phase }, { on := 17, ground := Ground.phase }], guard := none }) (v := ?_) rfl (by kernel_rfl) (by kernel_rfl) (by kernel_rfl) (fun _ _ _ h => h) (Or.inl ⟨by rfl, ?_⟩) (by assumption) ?_
            rotate_left
            · intro w hSw; (try dsimp only at hSw); go_simp; (try with_reducible rfl)
            try simp only [Act.put, List.setIfInBounds_toArray, List.set_cons_zero, List.set_cons_succ]
            refine wpAnyH_done (by kernel_rfl) ?_ _
            have AM9 := Lib.hid (R23.done (d := (G.bothTo k (y0 + 1)).2) H16.out PL9.out (by have := SZW.out; simp; try omega) HN9.out HCL.out HRL.out (by rw [HDN.out.2, ints_append]; rfl) (by rw [G.bothTo_len k (y0 + 1) |>.2, hx]))
            have hpl : plainR (qs ++ [((A6, c6, cs ++ [(((some ⟨wr.heap.size + 1, 0, none⟩, 1, [(x : Int)]) : SL), 2)]) : CR)]) = (G.bothTo k (y0 + 1)).1 := by rw [plainR_snoc, HPL.out, HDN.out.1]; simp [pcs]
            have hql : (qs ++ [((A6, c6, cs ++ [(((some ⟨wr.heap.size + 1, 0, none⟩, 1, [(x : Int)]) : SL), 2)]) : CR)]).length = x + 1 := by rw [List.length_append, HRL.out]; rfl
            have HPLN := Lib.hid hpl
            have HQL := Lib.hid hql
            have X16 := Lib.hid H16.out.bx
            clear hpl hql
            go_wp2_with fail
            go_roundw
            case rel => exact ⟨i + 1, by omega, by go_num, ⟨A8, c8, _, A9, k9, by rw [HQL.out], by rw [HY1.out, G.bothTo_len k (y0 + 1) |>.2, hx], by rw [HY1.out]; exact AM9.out, by rw [HY1.out]; exact HPLN.out, X16.out, BW9.out⟩⟩
            case measure => simp [intOf]; omega
        have hjs : j < ls.length := by rw [HLL.out]; exact hjl
        have hlj : ls[j].2.2.2 = s[j] := by
          have h := HC9.out
          have h2 : (rlv ls)[j]'(by rw [rlv, List.length_map]; exact hjs) = ls[j].2.2.2 := by simp [rlv]
          simp only [h] at h2
          exact h2.symm
        have hmemj : ls[j].2.2.2 ∈ s := by rw [hlj]; exact List.getElem_mem hjl
        have htk : (s.take (j + 1)).map (fun l => (l, optV (G.good l (x : Int)))) = (s.take j).map (fun l => (l, optV (G.good l (x : Int)))) ++ [(ls[j].2.2.2, optV (G.good ls[j].2.2.2 (x : Int)))] := by
          rw [List.take_succ_eq_append_getElem hjl, List.map_append, hlj]; rfl
        have HTK := Lib.hid htk
        have BRX := Lib.hid (below_then BR9.out BX.out)
        have hgd := HGD.out _ hmemj
        have htb := fun (W : World) (hW : Below wr.heap.size wr W) => HTB.out W (below_then (below_then B1.out BRX.out) hW) ls[j].2.1 ls[j].2.2.1 ls[j].2.2.2 (Rd.later (HLS.out _ (List.getElem_mem hjs)).rd hW) hgd.1
        unfold CTabOut at htb
        rw [hgd.2] at htb
        have hvlt := optV_good_lt G ls[j].2.2.2 (x : Int) (HSM.out _ hmemj).2.2.1
        have HOJ := Lib.hid (HLS.out _ (List.getElem_mem hjs))
        obtain ⟨q, r0, r1, r2, r3, r4, r5, r6, r7, hA9, hqb, k0, k1, k2, k3, k4, k5, k6, k7, k8⟩ := nine_rd (RD9.out.later BX.out) hjs (by rw [HLL.out])
        obtain ⟨lj, hljj⟩ : ∃ l, ls[j].2 = l := ⟨_, rfl⟩
        rw [hljj] at k8 htb HTK hvlt HOJ
        obtain ⟨lA, lc, ll⟩ := lj
        simp only [slv] at k8 htb HTK hvlt
        obtain ⟨gv, hgv⟩ : ∃ o, G.good ll (x : Int) = o := ⟨_, rfl⟩
        rw [hgv] at htb HTK hvlt
        have HT7 := Lib.hid htb
        subst hA9
        have hjl' : (j : Int) < (s.length : Int) := by omega
        clear htb htk hgv hljj hmemj hlj hgd
        go_upto_region 20 with (fail)
        have CB := Lib.hid (below_new wr (.cells #[.int .i64 r0, .int .i64 r1, .int .i64 r2, .int .i64 r3, .int .i64 r4, .int .i64 r5, .int .i64 r6, .int .i64 r7, .slice lA ll.length lc] 102))
        have Y7 := Lib.hid (Blk.made wr 102 #[.int .i64 r0, .int .i64 r1, .int .i64 r2, .int .i64 r3, .int .i64 r4, .int .i64 r5, .int .i64 r6, .int .i64 r7, .slice lA ll.length lc])
        have X7 := Lib.hid ((X9.out.keep BX.out).alloc (.cells #[.int .i64 r0, .int .i64 r1, .int .i64 r2, .int .i64 r3, .int .i64 r4, .int .i64 r5, .int .i64 r6, .int .i64 r7, .slice lA ll.length lc] 102))
        have O6 := Lib.hid (HOL.out.alloc (.cells #[.int .i64 r0, .int .i64 r1, .int .i64 r2, .int .i64 r3, .int .i64 r4, .int .i64 r5, .int .i64 r6, .int .i64 r7, .slice lA ll.length lc] 102))
        have LV6 := Lib.hid (show ∀ c ∈ cs, OwnL wo.heap.size _ c.1 from fun c hc => (HLV.out c hc).later CB.out)
        have LS6 := Lib.hid (show ∀ l ∈ ls, OwnL wo.heap.size _ l.2 from fun l hl => (HLS.out l hl).later CB.out)
        have OJ6 := Lib.hid (HOJ.out.later CB.out)
        have B6 := Lib.hid (below_then BX.out CB.out)
        clear k0 k1 k2 k3 k4 k5 k6 k7 k8 HOL HLV HLS HOJ
        generalize hw6 : wr.alloc (.cells #[.int .i64 r0, .int .i64 r1, .int .i64 r2, .int .i64 r3, .int .i64 r4, .int .i64 r5, .int .i64 r6, .int .i64 r7, .slice lA ll.length lc] 102) = w6 at CB Y7 X7 O6 LV6 LS6 OJ6 B6 ⊢
        clear hw6
        obtain ⟨by7, hby⟩ : ∃ b, wr.heap.size = b := ⟨_, rfl⟩
        rw [hby] at Y7 ⊢
        have k8 := Y7.out.cell 8
        have c0 := X7.out.cell 0
        have c1 := X7.out.cell 1
        have c2 := X7.out.cell 2
        have c3 := X7.out.cell 3
        have HT8 := Lib.hid (HT7.out w6 CB.out)
        clear hby
        go_wp2_with fail
        refine HT8.out.mono ?_
        rintro e w7 ⟨rfl, hb7⟩
        have B7 := Lib.hid (below_then B6.out hb7)
        have O7 := Lib.hid (own_keep O6.out hb7)
        have Y8 := Lib.hid (Y7.out.keep hb7)
        have LV7 := Lib.hid (show ∀ c ∈ cs, OwnL wo.heap.size w7 c.1 from fun c hc => (LV6.out c hc).later hb7)
        have LS7 := Lib.hid (show ∀ l ∈ ls, OwnL wo.heap.size w7 l.2 from fun l hl => (LS6.out l hl).later hb7)
        have OJ7 := Lib.hid (OJ6.out.later hb7)
        clear hb7 c0 c1 c2 c3 k8 O6 LV6 LS6 OJ6 B6 Y7 X7 CB HT8 HT7
        have k8 := Y8.out.cell 8
        have S7 := Lib.hid B7.out.size
        go_wp2_with (at_builtin; refine wpList_app_at rfl (.tmp 96) (.tmp 101) 65 64 rfl Tryz.underlying65 _ 2 32 cut_info rfl (by decide) (by decide) w9.heap.size AL j cL (cutC cs) rfl (O7.out.alloc _) ⟨w7.heap.size, 0, none⟩ 1 [.slice lA ll.length lc, .int .u64 (optV gv : Int)] rfl (rd_of_blk (Blk.made _ _ _) 2 1 rfl) (cut_oneN _ _ _ _) (by omega) (Nat.le_trans S7.out (by simp)) ?_; intro A8 k9 u8 hown8 hgr8 _)
        have hcs8 : (cs ++ [(((lA, lc, ll) : SL), optV gv)]).length = j + 1 := by rw [List.length_append, HCL.out]; rfl
        have HC8 := Lib.hid hcs8
        have O8 := Lib.hid (show u8.ownsRow w9.heap.size 64 2 (.slice A8 (j + 1) k9) (j + 1) (cutC (cs ++ [(((lA, lc, ll) : SL), optV gv)])) by rw [cutC_append]; exact hown8)
        have P8 := Lib.hid (show pcs (cs ++ [(((lA, lc, ll) : SL), optV gv)]) = (s.take (j + 1)).map (fun l => (l, optV (G.good l (x : Int)))) by rw [HTK.out, ← HPC.out]; simp [pcs])
        have LV8 := Lib.hid (show ∀ c ∈ cs ++ [(((lA, lc, ll) : SL), optV gv)], OwnL wo.heap.size u8 c.1 from fun c hc => by
          rcases List.mem_append.1 hc with h | h
          · exact own_grown ((LV7.out c h).later (below_new _ _)) (O7.out.alloc (.cells #[.slice lA ll.length lc, .int .u64 (optV gv : Int)] 64)) (by decide) hgr8
          · rw [List.mem_singleton] at h
            subst h
            exact own_grown (OwnL.later (l := (lA, lc, ll)) OJ7.out (below_new _ _)) (O7.out.alloc (.cells #[.slice lA ll.length lc, .int .u64 (optV gv : Int)] 64)) (by decide) hgr8)
        have LS8 := Lib.hid (show ∀ l ∈ ls, OwnL wo.heap.size u8 l.2 from fun l hl => own_grown ((LS7.out l hl).later (below_new _ _)) (O7.out.alloc (.cells #[.slice lA ll.length lc, .int .u64 (optV gv : Int)] 64)) (by decide) hgr8)
        have B8 := Lib.hid ((below_then B7.out (below_new _ _)).grown hgr8 (Nat.le_trans S7.out (by simp)) (fun q hq => own_base O7.out (by rw [own_blk]; exact hq)))
        clear hown8 hgr8 hcs8 k8
        go_wp2_with fail
        go_roundw
        case rel => exact ⟨j + 1, A8, k9, _, by omega, by go_num, rfl, HC8.out, O8.out, P8.out, LV8.out, LS8.out, B8.out⟩
        case measure => simp [intOf]; omega
end Go.Proofs.YtaajnmggbhnndaaGreatDoor

namespace Go.Proofs.YtaajnmggbhnndaaGreatDoor
open Go.RowKit
set_option linter.unusedVariables false
set_option linter.unusedSimpArgs false
set_option maxRecDepth 100000 in
set_option maxHeartbeats 1000000 in
theorem call_any (G : AG) (k : Int) (w : World) (hin : G.In w) (hf : G.fit) (hw : G.wf) (hcols : COLS w) :
    Calls Tryz.prog 17 #[.agg #[.int .i64 G.I, .slice G.AF G.fl.length G.cF, .slice G.AA G.an.length G.cA, .slice G.AO G.ou.length G.cO], .int .i64 k] w (AllOut G k w) := by
  have X0 := Lib.hid (Blk.made w 26 #[.int .i64 G.I, .slice G.AF G.fl.length G.cF, .slice G.AA G.an.length G.cA, .slice G.AO G.ou.length G.cO])
  have B0 := Lib.hid (below_new w (.cells #[.int .i64 G.I, .slice G.AF G.fl.length G.cF, .slice G.AA G.an.length G.cA, .slice G.AO G.ou.length G.cO] 26))
  have c0 := X0.out.cell 0
  have c1 := X0.out.cell 1
  have c2 := X0.out.cell 2
  have c3 := X0.out.cell 3
  by_cases hm : G.may k
  case neg =>
    have HM := Lib.hid (fun (W : World) (hB : Below w.heap.size w W) => cboth_no G k W (hin.later hB) hf hw hm)
    have HN := Lib.hid hm
    clear hin hf hw hm hcols
    go_enter Tryz.func17, Tryz.ntmps17
    go_wp2_with fail
    refine (HM.out _ B0.out).mono ?_
    rintro e w1 ⟨rfl, hb1⟩
    have B1 := Lib.hid (below_then B0.out hb1)
    clear hb1
    go_wp2_with fail
    go_ret2
    exact ⟨fun h => absurd h HN.out, fun _ => ⟨rfl, B1.out⟩⟩
  have HB := Lib.hid (fun (W : World) (hB : Below w.heap.size w W) => cboth_yes G k W (hin.later hB) hf hw hm (hcols.below hB))
  have HY := Lib.hid hm
  clear hin hf hw hm hcols
  go_enter Tryz.func17, Tryz.ntmps17
  go_wp2_with fail
  refine (HB.out _ B0.out).mono ?_
  rintro e w2 ⟨AO, cO, rs, AD, cD, rfl, hst⟩
  have HS := Lib.hid (hst.back B0.out)
  clear hst c0 c1 c2 c3
  go_wp2_with fail
  go_ret2
  exact ⟨fun _ => ⟨AO, cO, rs, AD, cD, rfl, HS.out⟩, fun h => absurd HY.out h⟩
end Go.Proofs.YtaajnmggbhnndaaGreatDoor

namespace Go.Proofs.YtaajnmggbhnndaaGreatDoor
open Go.RowKit
set_option linter.unusedVariables false
set_option linter.unusedSimpArgs false
/-- rows of cuts that are read -/
structure RowsR (w : World) (A : Option Addr) (c : Nat) (rs : List CR) : Prop where
  row : Rd w 1 A rs.length c (rs.map crv)
  all : ∀ r ∈ rs, CutsIn w r.1 r.2.1 r.2.2
theorem RowsR.later {w w' : World} {A : Option Addr} {c : Nat} {rs : List CR} (h : RowsR w A c rs) (hb : Below w.heap.size w w') : RowsR w' A c rs := ⟨h.row.later hb, fun r hr => (h.all r hr).later hb⟩
theorem AllM.rows {base : Nat} {w : World} {AO : Option Addr} {cO : Nat} {rs : List CR} {AD : Option Addr} {cD : Nat} {d : List Int} (h : AllM base w AO cO rs AD cD d) : RowsR w AO cO rs := ⟨Rd.of_own h.out, fun r hr => (h.row r hr).1.in_⟩
theorem RowsR.at_ {w : World} {A : Option Addr} {c : Nat} {rs : List CR} (h : RowsR w A c rs) {k : Nat} (hk : k < rs.length) : ∃ a, A = some a ∧ a.block < w.heap.size ∧ w.cell? (a.add k) = some (crv rs[k]) ∧ CutsIn w rs[k].1 rs[k].2.1 rs[k].2.2 := by
  obtain ⟨a, hA, hb, hr⟩ := h.row.at1 hk
  refine ⟨a, hA, hb, ?_, h.all _ (List.getElem_mem hk)⟩
  rw [hr, List.getD_eq_getElem?_getD, List.getElem?_map, List.getElem?_eq_getElem hk]
  rfl
theorem plain_row {rs qs : List CR} (h : plainR rs = plainR qs) {i : Nat} (h1 : i < rs.length) (h2 : i < qs.length) : pcs rs[i].2.2 = pcs qs[i].2.2 := by
  have e := congrArg (fun l : List (List PC) => l[i]?) h
  simp only [plainR, List.getElem?_map, List.getElem?_eq_getElem h1, List.getElem?_eq_getElem h2, Option.map_some] at e
  exact Option.some.inj e
theorem plain_cut {a b : List CT} (h : pcs a = pcs b) {i : Nat} (h1 : i < a.length) (h2 : i < b.length) : a[i].1.2.2 = b[i].1.2.2 ∧ a[i].2 = b[i].2 := by
  have e := congrArg (fun l : List PC => l[i]?) h
  simp only [pcs, List.getElem?_map, List.getElem?_eq_getElem h1, List.getElem?_eq_getElem h2, Option.map_some] at e
  have := Option.some.inj e
  exact ⟨(Prod.mk.inj this).1, (Prod.mk.inj this).2⟩
end Go.Proofs.YtaajnmggbhnndaaGreatDoor
