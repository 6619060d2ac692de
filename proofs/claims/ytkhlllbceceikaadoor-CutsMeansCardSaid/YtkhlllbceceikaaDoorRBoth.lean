/- filigreeref24.both. -/
import Derived.Test.YtkhlllbceceikaaDoorBothM
namespace Go.Proofs.YtkhlllbceceikaaDoor
open Go.RowKit
set_option linter.unusedVariables false
set_option linter.unusedSimpArgs false
/-- what both tells -/
def BothSt (st : List (List PC) × List Int) (w : World) (AO : Option Addr) (cO : Nat) (rs : List CR) (AD : Option Addr) (cD : Nat) (w' : World) : Prop := Below w.heap.size w w' ∧ AllM w.heap.size w' AO cO rs AD cD st.2 ∧ plainR rs = st.1
def BothOut (st : List (List PC) × List Int) (w : World) (r : Ending) (w' : World) : Prop :=
  ∃ AO cO rs AD cD, r = .returned (.tuple #[.slice AO (rs : List CR).length cO, .slice AD st.2.length cD]) ∧ BothSt st w AO cO rs AD cD w'
theorem aig_two : ∀ (p : Addr), p.add 0 = p := fun p => rfl
set_option maxRecDepth 100000 in
set_option maxHeartbeats 8000000 in
theorem rboth_any (G : AG) (k : Int) (w : World) (hin : G.In w) (hf : G.fit) (hok : G.ok) (hk : 2 ≤ k ∧ k ≤ 6) :
    Calls Tryd.prog 45 #[.agg #[.int .i64 G.I, .slice G.AF G.fl.length G.cF, .slice G.AA G.an.length G.cA, .slice G.AO G.ou.length G.cO], .int .i64 k] w (BothOut (G.bothTo k (G.cn - 1)) w) := by
  have X0 := Lib.hid (Blk.made w 26 #[.int .i64 G.I, .slice G.AF G.fl.length G.cF, .slice G.AA G.an.length G.cA, .slice G.AO G.ou.length G.cO])
  have B0 := Lib.hid (below_new w (.cells #[.int .i64 G.I, .slice G.AF G.fl.length G.cF, .slice G.AA G.an.length G.cA, .slice G.AO G.ou.length G.cO] 26))
  have HCO := Lib.hid (fun (W : World) => rcount_any G W hok.1 hf)
  have hcn := hok.cnt
  have hcn2 : 1 + G.cnt = (G.cn : Int) := by omega
  rw [hcn2] at HCO
  have hfst := hok.firstN
  have hfst' : 1 + G.I + (G.fl.length : Int) = (G.fst : Int) := hfst
  have hcn3 : G.cn ≤ 3001 := by have := hf.i; have := hf.f; have := hf.a; have := hok.1; unfold AG.cn AG.fst; omega
  have hcn1 : 1 ≤ G.cn := by unfold AG.cn AG.fst; omega
  have hFn : G.fst ≤ G.cn := by unfold AG.cn; omega
  have hI0 := hok.1
  have hI1 := hf.i
  have hI2 := hf.f
  have HBO := Lib.hid (fun x (hx : x < G.cn) => G.bothTo_ok hk hok x hx)
  have HIN := Lib.hid hin
  have HF := Lib.hid hf
  have HOK := Lib.hid hok
  have HKK := Lib.hid hk
  obtain ⟨AF, hAF⟩ : ∃ A, G.AF = A := ⟨_, rfl⟩
  obtain ⟨AA, hAA⟩ : ∃ A, G.AA = A := ⟨_, rfl⟩
  obtain ⟨AO, hAO⟩ : ∃ A, G.AO = A := ⟨_, rfl⟩
  have HAF := Lib.hid hAF
  have HAA := Lib.hid hAA
  have HAO := Lib.hid hAO
  rw [hAF, hAA, hAO] at X0 B0 HCO ⊢
  have c0 := X0.out.cell 0
  have c1 := X0.out.cell 1
  have c2 := X0.out.cell 2
  have c3 := X0.out.cell 3
  clear hAF hAA hAO hin hf hok hcn hcn2 hfst
  go_enter Tryd.func45, Tryd.ntmps45
  go_wp2_with fail
  have hstart : AllM w.heap.size ((((w.alloc (.cells #[.int .i64 G.I, .slice AF G.fl.length G.cF, .slice AA G.an.length G.cA, .slice AO G.ou.length G.cO] 26)).alloc (.cells #[.slice none 0 0, .int .u64 0] 34)).alloc (.cells #[.slice (some ⟨w.heap.size + 1, 0, none⟩) 1 1] 47)).alloc (.cells #[.int .i64 0] 3)) (some ⟨w.heap.size + 1 + 1, 0, none⟩) 1 [((some ⟨w.heap.size + 1, 0, none⟩, 1, [((none, 0, []), 0)]) : CR)] (some ⟨w.heap.size + 1 + 1 + 1, 0, none⟩) 1 [0] := by
    refine ⟨own_of_blkN ((blk_made2 w _ _ _ _).alloc _) 1 1 rfl (by omega) (by omega), fun r hr => ?_, own_of_blkN (blk_made3 w _ _ _ _ _) 1 1 rfl (by omega) (by omega)⟩
    rw [List.mem_singleton] at hr
    subst hr
    refine ⟨⟨own_of_blkN (((blk_made1 w _ _ _).alloc _).alloc _) 2 1 rfl (by omega) (by omega), fun c hc => ?_⟩, fun c hc g hg => ?_⟩
    · rw [List.mem_singleton] at hc; subst hc; exact World.ownsRow_nil _ _ _ _
    · rw [List.mem_singleton] at hc; subst hc; cases hg
  have HST := Lib.hid hstart
  have XS := Lib.hid (((X0.out.alloc (.cells #[.slice none 0 0, .int .u64 0] 34)).alloc (.cells #[.slice (some ⟨w.heap.size + 1, 0, none⟩) 1 1] 47)).alloc (.cells #[.int .i64 0] 3))
  have BS := Lib.hid (below_then (below_then (below_then B0.out (below_new _ (.cells #[.slice none 0 0, .int .u64 0] 34))) (below_new _ (.cells #[.slice (some ⟨w.heap.size + 1, 0, none⟩) 1 1] 47))) (below_new _ (.cells #[.int .i64 0] 3)))
  clear hstart c0 c1 c2 c3 X0
  go_loopw [6, 7, 9] (fun v6 v7 v9 wx => ∃ (x0 : Nat) (OA : Option Addr) (cO : Nat) (rs : List CR) (AD : Option Addr) (cD : Nat), x0 + 1 ≤ G.cn ∧ v9 = .int .i64 ((x0 + 1 : Nat) : Int) ∧ v6 = .slice OA rs.length cO ∧ v7 = .slice AD (G.bothTo k x0).2.length cD ∧ AllM w.heap.size wx OA cO rs AD cD (G.bothTo k x0).2 ∧ plainR rs = (G.bothTo k x0).1 ∧ Blk wx w.heap.size 26 #[.int .i64 G.I, .slice AF G.fl.length G.cF, .slice AA G.an.length G.cA, .slice AO G.ou.length G.cO] ∧ Below w.heap.size w wx) (fun _ _ v9 _ => G.cn - (intOf v9).toNat)
  case atStart => exact ⟨0, _, _, _, _, _, hcn1, rfl, rfl, rfl, HST.out, rfl, XS.out, BS.out⟩
  case round =>
    obtain ⟨x0, OA, cO, rs, AD, cD, hx0, rfl, rfl, rfl, hAM, hPL, hX, hB⟩ := hrel
    obtain ⟨wo, hwo⟩ : ∃ W, W = wr := ⟨_, rfl⟩
    subst hwo
    have HAM := Lib.hid hAM
    have HPL := Lib.hid hPL
    have X0 := Lib.hid hX
    have B1 := Lib.hid hB
    have hrl0 : rs.length = x0 + 1 := by have h := congrArg List.length hPL; rw [plainR_len, (G.bothTo_len k x0).1] at h; exact h
    have hdl0 := (G.bothTo_len k x0).2
    obtain ⟨x, hx⟩ : ∃ x, x0 + 1 = x := ⟨_, rfl⟩
    rw [hx] at hrl0 hdl0 hx0
    have HRL := Lib.hid hrl0
    have HDL := Lib.hid hdl0
    rw [HRL.out, HDL.out, hx]
    have c0 := X0.out.cell 0
    have c1 := X0.out.cell 1
    have c2 := X0.out.cell 2
    have c3 := X0.out.cell 3
    clear hAM hPL hX hB hrl0 hdl0 HST XS BS
    go_wp2_with fail
    refine (HCO.out _).mono ?_
    rintro e w1 ⟨rfl, hb1⟩
    have BR := Lib.hid hb1
    have BW := Lib.hid (below_then B1.out hb1)
    clear hb1 c0 c1 c2 c3
    by_cases hlt : x < G.cn
    case neg =>
      obtain rfl : x = G.cn := by omega
      have hlt' : ¬ (G.cn : Int) < (G.cn : Int) := by omega
      have hxe : G.cn - 1 = x0 := by omega
      have HXE := Lib.hid hxe
      have HFI := Lib.hid (HAM.out.keep BR.out)
      clear hxe
      go_wp2_with fail
      go_ret2
      rw [HXE.out]
      exact ⟨OA, cO, rs, AD, cD, by rw [HRL.out, HDL.out]; rfl, BW.out, HFI.out, HPL.out⟩
    have hlt' : (x : Int) < (G.cn : Int) := by omega
    by_cases hlow : x < G.fst
    · have hlow' : ¬ (G.fst : Int) ≤ (x : Int) := by omega
      have hrow0 : G.cutRow k (G.bothTo k x0).1 (G.bothTo k x0).2 (x0 + 1) = ([([(x : Int)], 2)], 0) := by unfold AG.cutRow; rw [hx, if_pos hlow]
      have HR0 := Lib.hid hrow0
      have LN := Lib.hid (World.ownsRow_nil w1 wo.heap.size 34 2)
      have LV := Lib.hid (show ∀ c ∈ ([] : List CT), OwnL wo.heap.size w1 c.1 from fun c hc => by cases hc)
      clear hrow0
      go_upto_region 18 with (fail)
      have SZ := Lib.hid (BR.out.size)
      have SB := Lib.hid (Nat.le_trans B1.out.size BR.out.size)
      go_upto_region 19 with (at_builtin; refine wpList_app_at rfl (.tmp 89) (.tmp 93) 47 34 rfl Tryd.underlying47 _ 2 32 cut_info rfl (by decide) (by decide) wo.heap.size none 0 0 (cutC ([] : List CT)) rfl ((LN.out.alloc _).alloc _) ⟨w1.heap.size + 1, 0, none⟩ 1 [.slice (some ⟨w1.heap.size, 0, none⟩) 1 1, .int .u64 2] rfl (rd_of_blk (blk_made1 _ _ _ _) 2 1 rfl) (cut_one2 _ _) (by omega) (Nat.le_trans SZ.out (by simp; omega)) ?_; intro A1 k1 u1 hown1 hgr1 _)
      have BR1 := Lib.hid (Below.grown (below_then (below_then BR.out (below_new _ _)) (below_new _ _)) hgr1 (Nat.le_trans SZ.out (by simp; omega)) (fun q hq => own_base LN.out (by rw [own_blk]; exact hq)))
      have B2 := Lib.hid (below_then B1.out BR1.out)
      have hleaf := own_of_blkN (base := wo.heap.size) ((Blk.made w1 3 [.int .i64 (x : Int)].toArray).alloc (.cells #[.slice (some ⟨w1.heap.size, 0, none⟩) 1 1, .int .u64 2] 34)) 1 1 rfl SZ.out (by omega)
      have LF1 := Lib.hid (own_grown hleaf ((LN.out.alloc (.cells #[.int .i64 (x : Int)] 3)).alloc (.cells #[.slice (some ⟨w1.heap.size, 0, none⟩) 1 1, .int .u64 2] 34)) (by decide) hgr1)
      obtain ⟨bl, hbl⟩ : ∃ b, w1.heap.size = b := ⟨_, rfl⟩
      have hOR : OwnR wo.heap.size u1 (A1, k1, ([] : List CT) ++ [(((some ⟨bl, 0, none⟩, 1, [(x : Int)]) : SL), 2)]) := by
        refine ⟨?_, fun c hc => ?_⟩
        · show u1.ownsRow _ _ _ (.slice A1 (([] : List CT) ++ _).length k1) _ _
          rw [cutC_append, List.length_append, show ([] : List CT).length = 0 from rfl, ← hbl]
          exact hown1
        · rcases List.mem_append.1 hc with h | h
          · exact own_grown (OwnL.later (OwnL.later (LV.out c h) (below_new _ _)) (below_new _ _)) ((LN.out.alloc (.cells #[.int .i64 (x : Int)] 3)).alloc (.cells #[.slice (some ⟨w1.heap.size, 0, none⟩) 1 1, .int .u64 2] 34)) (by decide) hgr1
          · rw [List.mem_singleton] at h
            subst h
            rw [← hbl]; exact LF1.out
      have ORW := Lib.hid hOR
      have AM1 := Lib.hid (HAM.out.keep BR1.out)
      have X1 := Lib.hid (X0.out.keep BR1.out)
      clear hown1 hgr1 hleaf hOR hbl
      obtain ⟨R, hR⟩ : ∃ R : CR, (A1, k1, ([] : List CT) ++ [(((some ⟨bl, 0, none⟩, 1, [(x : Int)]) : SL), 2)]) = R := ⟨_, rfl⟩
      have hRv := Lib.hid (show crv R = Value.slice A1 1 k1 from by rw [← hR]; show Value.slice A1 (([] : List CT) ++ _).length k1 = _; rw [List.length_append, show ([] : List CT).length = 0 from rfl]; rfl)
      have HRP := Lib.hid (show pcs R.2.2 = pcs ([] : List CT) ++ [([(x : Int)], 2)] from by rw [← hR]; simp [pcs])
      rw [hR] at ORW
      have HOFF := Lib.hid (show ∀ c ∈ R.2.2, Off AD c.1 from fun c hc => off_own HAM.out.dep (ORW.out.all c hc))
      clear hR
      go_upto_region 20 with (at_builtin; refine wpList_app_at rfl (.tmp 95) (.tmp 97) 40 47 rfl Tryd.underlying40 _ 1 24 cuts_info rfl (by decide) (by decide) w.heap.size OA x cO (rs.map crv) rfl (by rw [← HRL.out]; exact AM1.out.out.alloc _) ⟨u1.heap.size, 0, none⟩ 1 [.slice A1 1 k1] rfl (rd_of_blk (Blk.made _ _ _) 1 1 rfl) (fun u hu => by rw [List.mem_singleton] at hu; subst hu; rfl) (by omega) (Nat.le_trans B2.out.size (by simp)) ?_; intro A2 k2 u2 hown2 hgr2 _)
      have AM2 := Lib.hid ((AM1.out.keep (below_new u1 (.cells #[.slice A1 1 k1] 47))).putOut (r := R) ((ORW.out.later (below_new _ _)).down B1.out.size) HOFF.out (by rw [HRL.out, hRv.out]; exact hown2) hgr2)
      have X2 := Lib.hid ((X1.out.alloc (.cells #[.slice A1 1 k1] 47)).grown hgr2 (fun h => own_other (AM1.out.out.alloc (.cells #[.slice A1 1 k1] 47)) (X1.out.alloc (.cells #[.slice A1 1 k1] 47)) (by decide) (by rw [own_blk]; exact h.symm)))
      have B3 := Lib.hid (Below.grown (below_then B2.out (below_new _ _)) hgr2 (Nat.le_trans B2.out.size (by simp)) (fun q hq => own_base AM1.out.out (by rw [own_blk]; exact hq)))
      clear hown2 hgr2 AM1 X1
      go_wp2_with (at_builtin; refine wpList_app_at rfl (.tmp 99) (.tmp 101) 24 3 rfl Tryd.underlying24 _ 1 8 int_infoA rfl (by decide) (by decide) w.heap.size AD x cD (ints (G.bothTo k x0).2) rfl (by rw [← HDL.out]; exact AM2.out.dep.alloc _) ⟨u2.heap.size, 0, none⟩ 1 [.int .i64 (0)] rfl (rd_of_blk (Blk.made _ _ _) 1 1 rfl) (fun u hu => by rw [List.mem_singleton] at hu; subst hu; rfl) (by omega) (Nat.le_trans B3.out.size (by simp)) ?_; intro A3 k3 u3 hown3 hgr3 hat3)
      have AM3 := Lib.hid ((AM2.out.keep (below_new u2 (.cells #[.int .i64 (0)] 3))).putDep (AD' := A3) (cD' := k3) (y := 0) (by rw [HDL.out]; exact hown3) hgr3 hat3)
      have X3 := Lib.hid ((X2.out.alloc (.cells #[.int .i64 (0)] 3)).grown hgr3 (fun h => own_other (AM2.out.dep.alloc (.cells #[.int .i64 (0)] 3)) (X2.out.alloc (.cells #[.int .i64 (0)] 3)) (by decide) (by rw [own_blk]; exact h.symm)))
      have B4 := Lib.hid (Below.grown (below_then B3.out (below_new _ _)) hgr3 (Nat.le_trans B3.out.size (by simp)) (fun q hq => own_base AM2.out.dep (by rw [own_blk]; exact hq)))
      clear hown3 hgr3 hat3 AM2 X2
      have hdone : (G.bothTo k (x0 + 1)).1 = plainR (rs ++ [R]) ∧ (G.bothTo k (x0 + 1)).2 = (G.bothTo k x0).2 ++ [0] := by
        have h := HR0.out
        constructor
        · rw [AG.bothTo, h]
          show (G.bothTo k x0).1 ++ [_] = plainR (rs ++ [R])
          rw [plainR_snoc, HRP.out, HPL.out]; try rfl
        · rw [AG.bothTo, h]
      have HDN := Lib.hid hdone
      have hrl : (rs ++ [R]).length = x + 1 := by rw [List.length_append, HRL.out]; rfl
      have HRL2 := Lib.hid hrl
      clear hdone hrl
      go_wp2_with fail
      go_roundw
      case rel => exact ⟨x0 + 1, A2, k2, rs ++ [R], A3, k3, by omega, by go_num, by rw [HRL2.out], by rw [G.bothTo_len k (x0 + 1) |>.2, hx], by rw [HDN.out.2]; exact AM3.out, HDN.out.1.symm, X3.out, B4.out⟩
      case measure => simp [intOf]; omega
    have hlow' : (G.fst : Int) ≤ (x : Int) := by omega
    obtain ⟨i, hi⟩ : ∃ i, x - G.fst = i := ⟨_, rfl⟩
    have hia : i < G.an.length := by have : G.cn = G.fst + G.an.length := rfl; omega
    obtain ⟨a, b, hg, hgs, ha, hb, ha3, hb3⟩ := HOK.out.gate hia
    have hxi : (x : Int) - (G.fst : Int) = (i : Int) := by omega
    have hwi : IntKind.i64.wrap (i : Int) = (i : Int) := IntWalk.i64_in _ (by omega)
    have hia' : (i : Int) < (G.an.length : Int) := by omega
    obtain ⟨pa, hPA, hpb, e0, e1⟩ := HIN.out.an.two (pc_get G.an i hia).1 (pc_get G.an i hia).2
    rw [hg] at e0 e1
    rw [HAA.out] at hPA
    subst hPA
    have f0 := (BW.out.cell (p := pa.add (i * 2)) (by rw [add_block]; exact hpb)).trans e0
    have f1 := (BW.out.cell (p := ⟨(pa.add (i * 2)).block, (pa.add (i * 2)).off + 1, none⟩) (by show (pa.add (i * 2)).block < _; rw [add_block]; exact hpb)).trans e1
    obtain ⟨a2, ha2⟩ : ∃ d, a / 2 = d := ⟨_, rfl⟩
    obtain ⟨b2, hb2⟩ : ∃ d, b / 2 = d := ⟨_, rfl⟩
    have hae : (a : Int) / 2 = (a2 : Int) := by omega
    have hbe : (b : Int) / 2 = (b2 : Int) := by omega
    have hax : a2 < x := by omega
    have hbx : b2 < x := by omega
    have har : a2 < rs.length := by rw [HRL.out]; exact hax
    have hbr : b2 < rs.length := by rw [HRL.out]; exact hbx
    have hbok := HBO.out x0 (by omega)
    have hrowA := (hbok.row a2 (by omega))
    have hrowB := (hbok.row b2 (by omega))
    rw [← HPL.out, plainR_at har] at hrowA
    rw [← HPL.out, plainR_at hbr] at hrowB
    have hlvA : LvIn x rs[a2].2.2 := fun c hc => by
      have h := hrowA.lv (c.1.2.2, c.2) (List.mem_map.2 ⟨c, hc, rfl⟩)
      exact ⟨h.1.mono (by omega), h.2.2.1⟩
    have hlvB : LvIn x rs[b2].2.2 := fun c hc => by
      have h := hrowB.lv (c.1.2.2, c.2) (List.mem_map.2 ⟨c, hc, rfl⟩)
      exact ⟨h.1.mono (by omega), h.2.2.1⟩
    have hlenA : rs[a2].2.2.length ≤ 50 := by have := hrowA.len.2; simp [pcs] at this; omega
    have hlenB : rs[b2].2.2.length ≤ 50 := by have := hrowB.len.2; simp [pcs] at this; omega
    have hdep : ∀ W, Below wo.heap.size wo W → DepIn W AD cD x (G.bothTo k x0).2 := fun W hW => by
      refine ⟨?_, fun y hy => ?_⟩
      · have h := Rd.of_own (HAM.out.keep hW).dep
        rw [HDL.out] at h; exact h
      · obtain ⟨j, hj, rfl⟩ := List.mem_iff_getElem.1 hy
        have h := (hbok.dep j (by rw [HDL.out] at hj; omega)).2
        rw [List.getD_eq_getElem?_getD, List.getElem?_eq_getElem hj] at h
        rw [HDL.out] at hj
        simp only [Option.getD_some] at h
        omega
    have HDI := Lib.hid hdep
    have hgate := fun (W : World) (hW : Below wo.heap.size wo W) => rgate_any AD rs[a2].1 rs[b2].1 cD rs[a2].2.1 rs[b2].2.1 x (G.bothTo k x0).2 rs[a2].2.2 rs[b2].2.2 k W (hdep W hW) ((HAM.out.keep hW).row _ (List.getElem_mem har)).1.in_ ((HAM.out.keep hW).row _ (List.getElem_mem hbr)).1.in_ hlvA hlvB hlenA hlenB
    have hne := gate_ne HKK.out hbok (a := a2) (b := b2) (by omega) (by omega) (G.bothTo k x0).2
    have hrow0 : ∀ s, Cut.gate (G.bothTo k x0).2 (lvs rs[a2].2.2) (lvs rs[b2].2.2) k = s → G.cutRow k (G.bothTo k x0).1 (G.bothTo k x0).2 (x0 + 1) = (s.map (fun l => (l, optV (G.good l (x : Int)))) ++ [([(x : Int)], 2)], Cut.deep (G.bothTo k x0).2 (s.headD [])) := fun s hs => by
      have hp : G.ands.getD (x - G.fst) (0, 0) = (a, b) := by rw [hi, List.getD_eq_getElem?_getD, hgs]; rfl
      unfold AG.cutRow
      rw [hx, if_neg hlow, hp]
      simp only [ha2, hb2, ← HPL.out, plainR_at har, plainR_at hbr, pcs_lvs, hs]
    rw [← HPL.out, plainR_at har, plainR_at hbr, pcs_lvs, pcs_lvs] at hne
    obtain ⟨go, hOA, hoc⟩ := (HAM.out.keep BR.out).cell (by omega)
    have g0 := hoc a2 har
    have g1 := hoc b2 hbr
    have hgo : go < w1.heap.size := World.block_lt_of_cell? _ _ g0
    have HROW := Lib.hid hrow0
    have HNE := Lib.hid hne
    have HGT := Lib.hid hgate
    have HLA := Lib.hid hlvA
    have HLB := Lib.hid hlvB
    have X1 := Lib.hid (X0.out.keep BR.out)
    have c2 := X1.out.cell 2
    generalize rs[a2] = ra at g0 HROW HNE HGT HLA
    generalize rs[b2] = rb at g1 HROW HNE HGT HLB
    clear hrow0 hne hgate hlvA hlvB hlenA hlenB hrowA hrowB hdep hoc e0 e1 hg hgs hbok
    obtain ⟨ra1, ra2, ra3⟩ := ra
    obtain ⟨rb1, rb2, rb3⟩ := rb
    simp only [crv] at g0 g1
    obtain ⟨s, hs⟩ : ∃ s, Cut.gate (G.bothTo k x0).2 (lvs ra3) (lvs rb3) k = s := ⟨_, rfl⟩
    have HR1 := Lib.hid (HROW.out s hs)
    have hgt := fun W hW => HGT.out W hW
    simp only [hs] at hgt
    unfold GateOut at hgt
    have HG2 := Lib.hid hgt
    have hs0 : s ≠ [] := fun e => HNE.out (hs.trans e)
    have HS0 := Lib.hid hs0
    have hsm : ∀ l ∈ s, NodesIn x l := fun l hl => by
      rw [← hs] at hl
      obtain ⟨p, hp, hm⟩ := mem_gate hl
      obtain ⟨h1, h2⟩ := pairs_mem hp
      obtain ⟨c, hc, q1⟩ := List.mem_map.1 h1
      obtain ⟨e, he, q2⟩ := List.mem_map.1 h2
      obtain ⟨-, -, -, -, m5⟩ := Cut.merge_mem hm
      intro z hz
      rcases m5 z hz with h3 | h3
      · rw [← q1] at h3; exact (HLA.out c hc).1 z h3
      · rw [← q2] at h3; exact (HLB.out e he).1 z h3
    have HSM := Lib.hid hsm
    have hsl : s.length ≤ 8 := by rw [← hs]; unfold Cut.gate; rw [List.length_take]; omega
    have hsl6 : ∀ l ∈ s, l.length ≤ 6 := fun l hl => by
      rw [← hs] at hl
      obtain ⟨p, hp, hm⟩ := mem_gate hl
      have := (Cut.merge_mem hm); omega
    have HSL6 := Lib.hid hsl6
    clear hgt hs HROW HGT HNE HLA HLB hs0 hsm hsl6
    have Z1 := Lib.hid (Blk.made w1 50 #[.int .i64 (a : Int), .int .i64 (b : Int)])
    have hax' : (a2 : Int) < (x : Int) := by omega
    have hbx' : (b2 : Int) < (x : Int) := by omega
    subst hOA
    go_upto_region 11 with (fail)
    have BR2 := Lib.hid (below_then BR.out (below_new w1 (.cells #[.int .i64 (a : Int), .int .i64 (b : Int)] 50)))
    have h0 := ((below_new w1 (.cells #[.int .i64 (a : Int), .int .i64 (b : Int)] 50)).cell (p := ⟨go, a2, none⟩) hgo).trans g0
    have h1 := ((below_new w1 (.cells #[.int .i64 (a : Int), .int .i64 (b : Int)] 50)).cell (p := ⟨go, b2, none⟩) hgo).trans g1
    have X2 := Lib.hid (X1.out.alloc (.cells #[.int .i64 (a : Int), .int .i64 (b : Int)] 50))
    have hgo2 : go < (w1.alloc (.cells #[.int .i64 (a : Int), .int .i64 (b : Int)] 50)).heap.size := by simp; omega
    clear f0 f1 g0 g1 c2 X1 BR BW hgo
    generalize w1.alloc (.cells #[.int .i64 (a : Int), .int .i64 (b : Int)] 50) = w2 at Z1 BR2 h0 h1 X2 hgo2 ⊢
    obtain ⟨bz, hbz⟩ : ∃ b, w1.heap.size = b := ⟨_, rfl⟩
    rw [hbz] at Z1 ⊢
    clear hbz
    have z0 : w2.cell? ⟨bz, 0, none⟩ = some (.int .i64 (a : Int)) := Z1.out.cell 0
    have z1 : w2.cell? ⟨bz, 1, none⟩ = some (.int .i64 (b : Int)) := Z1.out.cell 1
    have hbz2 := Z1.out.lt
    have td1 : (a : Int).tdiv 2 = (a2 : Int) := by rw [Int.tdiv_eq_ediv_of_nonneg (by omega)]; omega
    have td2 : (b : Int).tdiv 2 = (b2 : Int) := by rw [Int.tdiv_eq_ediv_of_nonneg (by omega)]; omega
    have tw1 : IntKind.i64.wrap (a2 : Int) = (a2 : Int) := IntWalk.i64_in _ (by omega)
    have tw2 : IntKind.i64.wrap (b2 : Int) = (b2 : Int) := IntWalk.i64_in _ (by omega)
    have HG3 := Lib.hid (HG2.out _ (below_then BR2.out (Below.refl w2.heap.size w2).drew))
    go_region_held3 (fun w' => w'.cell? ⟨bz, 0, none⟩ = some (.int .i64 (a : Int)) ∧ w'.cell? ⟨bz, 1, none⟩ = some (.int .i64 (b : Int)) ∧ w'.cell? ⟨go, a2, none⟩ = some (.slice ra1 ra3.length ra2) ∧ w'.cell? ⟨go, b2, none⟩ = some (.slice rb1 rb3.length rb2)) (go_keep) ((go_at_call 60; (with_reducible refine HG3.out.mono ?_); rintro e w9 ⟨A9, c9, ls, rfl, hb9, hsl9, hcon9, hol9⟩; have hb9 := below_of_drew hb9; have q0 := (hb9.cell hbz2).trans z0; have q1 := (hb9.cell hbz2).trans z1; have q2 := (hb9.cell hgo2).trans h0; have q3 := (hb9.cell hgo2).trans h1))
    have hb99 : Below w2.heap.size w2 w9 := hb9
    have BR9 := Lib.hid (below_then BR2.out hb99)
    have X9 := Lib.hid (X2.out.keep hb99)
    have SL9 := Lib.hid hsl9
    have hll : ls.length = s.length := by have h := congrArg List.length hcon9; rw [con_length] at h; exact h
    have HLL := Lib.hid hll
    have HC9 := Lib.hid hcon9
    have HO9 := Lib.hid (show ∀ l ∈ ls, OwnL wo.heap.size w9 l from fun l hl => own_down (hol9 l hl) BR2.out.size)
    rw [hll]
    clear q0 q1 q2 q3 hb99 hb9 z0 z1 h0 h1 hbz2 hgo2 hsl9 hol9 hll X2 Z1 BR2 HG3 HG2 hcon9
    have htb0 := (fun (W : World) (hW : Below w.heap.size w W) (X : Option Addr) (cx : Nat) (l : List Int) (h1 : Rd W 1 X l.length cx (ints l)) (h2 : l.length ≤ 6) => rtable_any G X cx l (x : Int) W (HIN.out.later hW) HF.out h1 (by omega))
    rw [HAF.out, HAA.out, HAO.out] at htb0
    have HTB := Lib.hid htb0
    clear htb0
    have B9 := Lib.hid (below_then B1.out BR9.out)
    go_wp2_with fail
    go_loopw [10, 14] (fun v10 v14 wx => ∃ (j : Nat) (AL : Option Addr) (cL : Nat) (cs : List CT), j ≤ s.length ∧ v14 = .int .i64 (j : Int) ∧ v10 = .slice AL j cL ∧ cs.length = j ∧ wx.ownsRow w9.heap.size 34 2 (.slice AL j cL) j (cutC cs) ∧ pcs cs = (s.take j).map (fun l => (l, optV (G.good l (x : Int)))) ∧ (∀ c ∈ cs, OwnL wo.heap.size wx c.1) ∧ (∀ l ∈ ls, OwnL wo.heap.size wx l) ∧ Below w9.heap.size w9 wx) (fun _ v14 _ => s.length - (intOf v14).toNat)
    case atStart => exact ⟨0, none, 0, [], by omega, rfl, rfl, rfl, World.ownsRow_nil _ _ _ _, by simp [pcs], fun c hc => (by cases hc), HO9.out, Below.refl _ _⟩
    case round =>
      obtain ⟨j, AL, cL, cs, hj, rfl, rfl, hcl, hown, hpc, hlv, hls, hB⟩ := hrel
      have HCL := Lib.hid hcl
      have HOL := Lib.hid hown
      have HPC := Lib.hid hpc
      have HLV := Lib.hid hlv
      have HLS := Lib.hid hls
      have BX := Lib.hid hB
      clear hcl hown hpc hlv hls hB
      by_cases hjl : j < s.length
      case neg =>
        obtain rfl : j = s.length := by omega
        have hpc2 : pcs cs = s.map (fun l => (l, optV (G.good l (x : Int)))) := by have h := HPC.out; rw [List.take_length] at h; exact h
        have hne0 : 0 < ls.length := by
          rw [HLL.out]
          rcases Nat.eq_zero_or_pos s.length with h0 | h0
          · exact absurd (List.eq_nil_of_length_eq_zero h0) HS0.out
          · exact h0
        have hhd : s.headD [] = ls[0].2.2 := by rw [← HC9.out]; exact head_con ls hne0
        have HR3 := Lib.hid (show G.cutRow k (G.bothTo k x0).1 (G.bothTo k x0).2 (x0 + 1) = (pcs cs ++ [([(x : Int)], 2)], Cut.deep (G.bothTo k x0).2 ls[0].2.2) by rw [HR1.out, hpc2, hhd])
        obtain ⟨q, hA9, hqb, d0, -⟩ := (SL9.out.later BX.out).at_ hne0
        have hmem0 : ls[0].2.2 ∈ s := by rw [← HC9.out]; exact List.mem_map.2 ⟨_, List.getElem_mem hne0, rfl⟩
        have BRX := Lib.hid (below_then BR9.out BX.out)
        have hdeep := fun (W : World) (hW : Below wr.heap.size wr W) => rdeep_any AD ls[0].1 cD ls[0].2.1 x (G.bothTo k x0).2 ls[0].2.2 W (HDI.out W (below_then BRX.out hW)) (Rd.later (SL9.out.all _ (List.getElem_mem hne0)) (below_then BX.out hW)) (HSM.out _ hmem0) (by have := HSL6.out _ hmem0; omega)
        obtain ⟨l0, hl0⟩ : ∃ l, ls[0] = l := ⟨_, rfl⟩
        rw [hl0] at HR3 d0 hdeep
        have hbk := Cut.deep_bound (d := (G.bothTo k x0).2) (l := l0.2.2) (M := 1000000) (by omega) (HDI.out _ BRX.out).small
        have HDP := Lib.hid hdeep
        have hsp : 0 < (s.length : Int) := by rw [HLL.out] at hne0; omega
        simp only [slv] at d0
        rw [show q.add 0 = q from rfl] at d0
        subst hA9
        clear hdeep hl0 hmem0 hhd hne0 hpc2
        generalize Cut.deep (G.bothTo k x0).2 l0.2.2 = y at HR3 HDP hbk
        go_wp2_with fail
        refine (HDP.out _ (Below.refl _ _)).mono ?_
        rintro e w5 ⟨rfl, hb5⟩
        have BR5 := Lib.hid (below_then BRX.out hb5)
        have BW5 := Lib.hid (below_then B1.out BR5.out)
        have L5 := Lib.hid (own_down (own_keep HOL.out hb5) (base' := wo.heap.size) BR9.out.size)
        have LV5 := Lib.hid (show ∀ c ∈ cs, OwnL wo.heap.size w5 c.1 from fun c hc => (HLV.out c hc).later hb5)
        clear hb5 d0 HOL HLV
        go_upto_region 18 with (fail)
        have SZ := Lib.hid (BR5.out.size)
        have SB := Lib.hid (Nat.le_trans B1.out.size BR5.out.size)
        go_upto_region 19 with (at_builtin; refine wpList_app_at rfl (.tmp 89) (.tmp 93) 47 34 rfl Tryd.underlying47 _ 2 32 cut_info rfl (by decide) (by decide) wo.heap.size AL s.length cL (cutC cs) rfl ((L5.out.alloc _).alloc _) ⟨w5.heap.size + 1, 0, none⟩ 1 [.slice (some ⟨w5.heap.size, 0, none⟩) 1 1, .int .u64 2] rfl (rd_of_blk (blk_made1 _ _ _ _) 2 1 rfl) (cut_one2 _ _) (by omega) (Nat.le_trans SZ.out (by simp; omega)) ?_; intro A1 k1 u1 hown1 hgr1 _)
        have BR1 := Lib.hid (Below.grown (below_then (below_then BR5.out (below_new _ _)) (below_new _ _)) hgr1 (Nat.le_trans SZ.out (by simp; omega)) (fun q hq => own_base L5.out (by rw [own_blk]; exact hq)))
        have B2 := Lib.hid (below_then B1.out BR1.out)
        have hleaf := own_of_blkN (base := wo.heap.size) ((Blk.made w5 3 [.int .i64 (x : Int)].toArray).alloc (.cells #[.slice (some ⟨w5.heap.size, 0, none⟩) 1 1, .int .u64 2] 34)) 1 1 rfl SZ.out (by omega)
        have LF1 := Lib.hid (own_grown hleaf ((L5.out.alloc (.cells #[.int .i64 (x : Int)] 3)).alloc (.cells #[.slice (some ⟨w5.heap.size, 0, none⟩) 1 1, .int .u64 2] 34)) (by decide) hgr1)
        obtain ⟨bl, hbl⟩ : ∃ b, w5.heap.size = b := ⟨_, rfl⟩
        have hOR : OwnR wo.heap.size u1 (A1, k1, cs ++ [(((some ⟨bl, 0, none⟩, 1, [(x : Int)]) : SL), 2)]) := by
          refine ⟨?_, fun c hc => ?_⟩
          · show u1.ownsRow _ _ _ (.slice A1 (cs ++ _).length k1) _ _
            rw [cutC_append, List.length_append, HCL.out, ← hbl]
            exact hown1
          · rcases List.mem_append.1 hc with h | h
            · exact own_grown (OwnL.later (OwnL.later (LV5.out c h) (below_new _ _)) (below_new _ _)) ((L5.out.alloc (.cells #[.int .i64 (x : Int)] 3)).alloc (.cells #[.slice (some ⟨w5.heap.size, 0, none⟩) 1 1, .int .u64 2] 34)) (by decide) hgr1
            · rw [List.mem_singleton] at h
              subst h
              rw [← hbl]; exact LF1.out
        have ORW := Lib.hid hOR
        have AM1 := Lib.hid (HAM.out.keep BR1.out)
        have X1 := Lib.hid (X0.out.keep BR1.out)
        clear hown1 hgr1 hleaf hOR hbl
        obtain ⟨R, hR⟩ : ∃ R : CR, (A1, k1, cs ++ [(((some ⟨bl, 0, none⟩, 1, [(x : Int)]) : SL), 2)]) = R := ⟨_, rfl⟩
        have hRv := Lib.hid (show crv R = Value.slice A1 (s.length + 1) k1 from by rw [← hR]; show Value.slice A1 (cs ++ _).length k1 = _; rw [List.length_append, HCL.out]; rfl)
        have HRP := Lib.hid (show pcs R.2.2 = pcs cs ++ [([(x : Int)], 2)] from by rw [← hR]; simp [pcs])
        rw [hR] at ORW
        have HOFF := Lib.hid (show ∀ c ∈ R.2.2, Off AD c.1 from fun c hc => off_own HAM.out.dep (ORW.out.all c hc))
        clear hR
        go_upto_region 20 with (at_builtin; refine wpList_app_at rfl (.tmp 95) (.tmp 97) 40 47 rfl Tryd.underlying40 _ 1 24 cuts_info rfl (by decide) (by decide) w.heap.size (some ⟨go, 0, none⟩) x cO (rs.map crv) rfl (by rw [← HRL.out]; exact AM1.out.out.alloc _) ⟨u1.heap.size, 0, none⟩ 1 [.slice A1 (s.length + 1) k1] rfl (rd_of_blk (Blk.made _ _ _) 1 1 rfl) (fun u hu => by rw [List.mem_singleton] at hu; subst hu; rfl) (by omega) (Nat.le_trans B2.out.size (by simp)) ?_; intro A2 k2 u2 hown2 hgr2 _)
        have AM2 := Lib.hid ((AM1.out.keep (below_new u1 (.cells #[.slice A1 (s.length + 1) k1] 47))).putOut (r := R) ((ORW.out.later (below_new _ _)).down B1.out.size) HOFF.out (by rw [HRL.out, hRv.out]; exact hown2) hgr2)
        have X2 := Lib.hid ((X1.out.alloc (.cells #[.slice A1 (s.length + 1) k1] 47)).grown hgr2 (fun h => own_other (AM1.out.out.alloc (.cells #[.slice A1 (s.length + 1) k1] 47)) (X1.out.alloc (.cells #[.slice A1 (s.length + 1) k1] 47)) (by decide) (by rw [own_blk]; exact h.symm)))
        have B3 := Lib.hid (Below.grown (below_then B2.out (below_new _ _)) hgr2 (Nat.le_trans B2.out.size (by simp)) (fun q hq => own_base AM1.out.out (by rw [own_blk]; exact hq)))
        clear hown2 hgr2 AM1 X1
        go_wp2_with (at_builtin; refine wpList_app_at rfl (.tmp 99) (.tmp 101) 24 3 rfl Tryd.underlying24 _ 1 8 int_infoA rfl (by decide) (by decide) w.heap.size AD x cD (ints (G.bothTo k x0).2) rfl (by rw [← HDL.out]; exact AM2.out.dep.alloc _) ⟨u2.heap.size, 0, none⟩ 1 [.int .i64 (y)] rfl (rd_of_blk (Blk.made _ _ _) 1 1 rfl) (fun u hu => by rw [List.mem_singleton] at hu; subst hu; rfl) (by omega) (Nat.le_trans B3.out.size (by simp)) ?_; intro A3 k3 u3 hown3 hgr3 hat3)
        have AM3 := Lib.hid ((AM2.out.keep (below_new u2 (.cells #[.int .i64 (y)] 3))).putDep (AD' := A3) (cD' := k3) (y := y) (by rw [HDL.out]; exact hown3) hgr3 hat3)
        have X3 := Lib.hid ((X2.out.alloc (.cells #[.int .i64 (y)] 3)).grown hgr3 (fun h => own_other (AM2.out.dep.alloc (.cells #[.int .i64 (y)] 3)) (X2.out.alloc (.cells #[.int .i64 (y)] 3)) (by decide) (by rw [own_blk]; exact h.symm)))
        have B4 := Lib.hid (Below.grown (below_then B3.out (below_new _ _)) hgr3 (Nat.le_trans B3.out.size (by simp)) (fun q hq => own_base AM2.out.dep (by rw [own_blk]; exact hq)))
        clear hown3 hgr3 hat3 AM2 X2
        have hdone : (G.bothTo k (x0 + 1)).1 = plainR (rs ++ [R]) ∧ (G.bothTo k (x0 + 1)).2 = (G.bothTo k x0).2 ++ [y] := by
          have h := HR3.out
          constructor
          · rw [AG.bothTo, h]
            show (G.bothTo k x0).1 ++ [_] = plainR (rs ++ [R])
            rw [plainR_snoc, HRP.out, HPL.out]; try rfl
          · rw [AG.bothTo, h]
        have HDN := Lib.hid hdone
        have hrl : (rs ++ [R]).length = x + 1 := by rw [List.length_append, HRL.out]; rfl
        have HRL2 := Lib.hid hrl
        clear hdone hrl
        go_wp2_with fail
        go_roundw
        case rel => exact ⟨x0 + 1, A2, k2, rs ++ [R], A3, k3, by omega, by go_num, by rw [HRL2.out], by rw [G.bothTo_len k (x0 + 1) |>.2, hx], by rw [HDN.out.2]; exact AM3.out, HDN.out.1.symm, X3.out, B4.out⟩
        case measure => simp [intOf]; omega
      obtain ⟨q, hA9, hqb, d0, -⟩ := (SL9.out.later BX.out).at_ (k := j) (by rw [HLL.out]; exact hjl)
      have hjs : j < ls.length := by rw [HLL.out]; exact hjl
      have hlj : ls[j].2.2 = s[j] := by
        have h := HC9.out
        have h2 := con_at hjs
        simp only [h] at h2
        exact h2.symm
      have hmemj : ls[j].2.2 ∈ s := by rw [hlj]; exact List.getElem_mem hjl
      have htk : (s.take (j + 1)).map (fun l => (l, optV (G.good l (x : Int)))) = (s.take j).map (fun l => (l, optV (G.good l (x : Int)))) ++ [(ls[j].2.2, optV (G.good ls[j].2.2 (x : Int)))] := by
        rw [List.take_succ_eq_append_getElem hjl, List.map_append, hlj]; rfl
      have HTK := Lib.hid htk
      have BRX := Lib.hid (below_then BR9.out BX.out)
      have htb := fun (W : World) (hW : Below wr.heap.size wr W) => HTB.out W (below_then (below_then B1.out BRX.out) hW) ls[j].1 ls[j].2.1 ls[j].2.2 (Rd.later (SL9.out.all _ (List.getElem_mem hjs)) (below_then BX.out hW)) (HSL6.out _ hmemj)
      unfold TblOut at htb
      have hvlt := optV_good_lt G ls[j].2.2 (x : Int) (HSL6.out _ hmemj)
      have HOJ := Lib.hid (HLS.out _ (List.getElem_mem hjs))
      obtain ⟨lj, hljj⟩ : ∃ l, ls[j] = l := ⟨_, rfl⟩
      rw [hljj] at d0 htb HTK hvlt HOJ
      obtain ⟨lA, lc, ll⟩ := lj
      simp only [slv] at d0 htb HTK hvlt
      obtain ⟨gv, hgv⟩ : ∃ o, G.good ll (x : Int) = o := ⟨_, rfl⟩
      rw [hgv] at htb HTK hvlt
      have HT7 := Lib.hid htb
      subst hA9
      have c0 := (X9.out.keep BX.out).cell 0
      have c1 := (X9.out.keep BX.out).cell 1
      have c2 := (X9.out.keep BX.out).cell 2
      have c3 := (X9.out.keep BX.out).cell 3
      have hqb2 : (q.add j).block < wr.heap.size := by rw [add_block]; exact hqb
      have hjl' : (j : Int) < (s.length : Int) := by omega
      clear htb htk hgv hljj hmemj hlj
      go_wp2_with fail
      refine wp_region_still_in (by kernel_rfl) (by kernel_rfl) fun St7 ne7 V7 hV7 hS7 => ?_
      have qc0 := still_cell hV7 c0
      have qc1 := still_cell hV7 c1
      have qc2 := still_cell hV7 c2
      have qc3 := still_cell hV7 c3
      have qd0 := still_cell hV7 d0
      repeat (first | go_big_quiet_step ((go_at_call 14; exact Calls.still hV7 hS7 (HT7.out _ (hV7 _)))) | quiet_step ((go_at_call 14; exact Calls.still hV7 hS7 (HT7.out _ (hV7 _)))))
      refine wpQuiet_nil ?_
      intro _ hw7
      obtain ⟨s7, rfl⟩ := hw7
      have hb7 := hV7 s7
      clear qc0 qc1 qc2 qc3 qd0 hS7
      generalize V7 s7 = w7 at hb7 ⊢
      clear hV7 s7 V7 ne7 St7
      have d7 := (hb7.cell hqb2).trans d0
      have B7 := Lib.hid (below_then BX.out hb7)
      have O7 := Lib.hid (own_keep HOL.out hb7)
      have LV7 := Lib.hid (show ∀ c ∈ cs, OwnL wo.heap.size w7 c.1 from fun c hc => (HLV.out c hc).later hb7)
      have LS7 := Lib.hid (show ∀ l ∈ ls, OwnL wo.heap.size w7 l from fun l hl => (HLS.out l hl).later hb7)
      have OJ7 := Lib.hid (HOJ.out.later hb7)
      clear hb7 d0 c0 c1 c2 c3 HOL HLV HLS HOJ
      have S7 := Lib.hid B7.out.size
      go_wp2_with (at_builtin; refine wpList_app_at rfl (.tmp 75) (.tmp 82) 47 34 rfl Tryd.underlying47 _ 2 32 cut_info rfl (by decide) (by decide) w9.heap.size AL j cL (cutC cs) rfl (O7.out.alloc _) ⟨w7.heap.size, 0, none⟩ 1 [.slice lA ll.length lc, .int .u64 (optV gv : Int)] rfl (rd_of_blk (Blk.made _ _ _) 2 1 rfl) (cut_oneN _ _ _ _) (by omega) (Nat.le_trans S7.out (by simp)) ?_; intro A8 k8 u8 hown8 hgr8 _)
      have hcs8 : (cs ++ [(((lA, lc, ll) : SL), optV gv)]).length = j + 1 := by rw [List.length_append, HCL.out]; rfl
      have HC8 := Lib.hid hcs8
      have O8 := Lib.hid (show u8.ownsRow w9.heap.size 34 2 (.slice A8 (j + 1) k8) (j + 1) (cutC (cs ++ [(((lA, lc, ll) : SL), optV gv)])) by rw [cutC_append]; exact hown8)
      have P8 := Lib.hid (show pcs (cs ++ [(((lA, lc, ll) : SL), optV gv)]) = (s.take (j + 1)).map (fun l => (l, optV (G.good l (x : Int)))) by rw [HTK.out, ← HPC.out]; simp [pcs])
      have LV8 := Lib.hid (show ∀ c ∈ cs ++ [(((lA, lc, ll) : SL), optV gv)], OwnL wo.heap.size u8 c.1 from fun c hc => by
        rcases List.mem_append.1 hc with h | h
        · exact own_grown ((LV7.out c h).later (below_new _ _)) (O7.out.alloc (.cells #[.slice lA ll.length lc, .int .u64 (optV gv : Int)] 34)) (by decide) hgr8
        · rw [List.mem_singleton] at h
          subst h
          exact own_grown (OwnL.later (l := (lA, lc, ll)) OJ7.out (below_new _ _)) (O7.out.alloc (.cells #[.slice lA ll.length lc, .int .u64 (optV gv : Int)] 34)) (by decide) hgr8)
      have LS8 := Lib.hid (show ∀ l ∈ ls, OwnL wo.heap.size u8 l from fun l hl => own_grown ((LS7.out l hl).later (below_new _ _)) (O7.out.alloc (.cells #[.slice lA ll.length lc, .int .u64 (optV gv : Int)] 34)) (by decide) hgr8)
      have B8 := Lib.hid ((below_then B7.out (below_new _ _)).grown hgr8 (Nat.le_trans S7.out (by simp)) (fun q hq => own_base O7.out (by rw [own_blk]; exact hq)))
      clear hown8 hgr8 hcs8
      go_wp2_with fail
      go_roundw
      case rel => exact ⟨j + 1, A8, k8, _, by omega, by go_num, rfl, HC8.out, O8.out, P8.out, LV8.out, LS8.out, B8.out⟩
      case measure => simp [intOf]; omega
end Go.Proofs.YtkhlllbceceikaaDoor
