/- filigree/aig.Eval. -/
import Derived.Test.YtebgihekgijpfaaDoorZANod
import Derived.Test.YtebgihekgijpfaaDoorZLRun
import Derived.Test.YtebgihekgijpfaaDoorZMapS
namespace Go.Proofs.YtebgihekgijpfaaDoor
open Go.RowKit Go.Shelf
set_option linter.unusedVariables false
set_option linter.unusedSimpArgs false
theorem AG.valTo_val {G : AG} (hok : G.ok) {ins st : List Bool} (hi : (ins.length : Int) = G.I) (hs : st.length = G.fl.length) : G.Val fun j => (G.valTo ins st G.an.length).getD j false := by
  have hF : G.fst = 1 + ins.length + st.length := by unfold AG.fst; omega
  refine ⟨?_, fun i a b hg => ?_⟩
  · rw [G.valTo_pre ins st (Nat.zero_le _) 0 (by omega)]; rfl
  · have hia : i < G.an.length := by
      have := (List.getElem?_eq_some_iff.1 hg).1
      simpa [AG.ands] using this
    obtain ⟨a', b', -, hgs, ha, hb, -, -⟩ := hok.gate hia
    rw [hg] at hgs
    obtain ⟨rfl, rfl⟩ := Prod.mk.inj (Option.some.inj hgs)
    rw [G.valTo_pre ins st (show i + 1 ≤ G.an.length by omega) _ (by omega), G.valTo_pre ins st (show i ≤ G.an.length by omega) _ (show a / 2 < _ by omega), G.valTo_pre ins st (show i ≤ G.an.length by omega) _ (show b / 2 < _ by omega)]
    have e : G.ands.getD i (0, 0) = (a, b) := by rw [List.getD_eq_getElem?_getD, hg]; rfl
    rw [AG.valTo, e, show G.fst + i = (G.valTo ins st i).length by rw [G.valTo_len]; omega, set_aux]
    rfl
/-- what gates tell, and keep -/
def AG.evO (G : AG) (ins st : List Bool) : List Bool := G.ou.map fun a => ofB (G.valTo ins st G.an.length) a.toNat
def AG.evN (G : AG) (ins st : List Bool) : List Bool := G.fl.map fun f => ofB (G.valTo ins st G.an.length) f.1.toNat
/-- a node's value in the net is its literal's -/
theorem NT.IsMap.vals {N : NT} {G : AG} {k : Int} (h : N.IsMap G k) (hm : G.ok ∧ 2 ≤ k ∧ k ≤ 6) {ins st : List Bool} (hi : (ins.length : Int) = G.I) (hs : st.length = G.fl.length) : ∀ a, (G.mp k).good a → (nvTo N.luts ins st N.ls.length).getD ((G.mp k).at_ a) false = ofB (G.valTo ins st G.an.length) a := by
  have hF : G.fst = 1 + ins.length + st.length := by unfold AG.fst; omega
  have hMF : (G.mp k).F = G.fst := rfl
  have hval := AG.valTo_val hm.1 hi hs
  have hll := h.len.2.2
  refine (AG.mp_ok hm).vals (fun j => (G.valTo ins st G.an.length).getD j false) _ hval.zero (fun x hx => ?_) (fun i hil => ?_) (fun x hx hx2 bs hbs => ?_)
  · rw [nvTo_pre N.luts ins st (Nat.zero_le _) x (by omega), G.valTo_pre ins st (Nat.zero_le _) x (by omega)]
    rfl
  · have hin : i < N.ls.length := by rw [hll]; exact hil
    have hiL : i < N.luts.length := by rw [N.luts_len]; exact hin
    obtain ⟨hl, e⟩ := h.lut_at hin
    have hlat : N.luts[i] = (G.mp k).lut (G.mp k).lits[i] := by rw [N.luts_at hin]; exact e
    obtain ⟨-, h2, h3⟩ := (AG.mp_ok hm).lits_at hl
    have hins := (AG.mp_ok hm).lut_in h2
    rw [h3] at hins
    rw [hMF, nvTo_pre N.luts ins st (show i + 1 ≤ N.ls.length by omega) _ (by omega), nvTo_next N.luts ins st hiL, hlat]
    rw [show G.fst + i = (nvTo N.luts ins st i).length by rw [nvTo_len]; omega, set_aux]
    congr 1
    unfold pickB
    refine List.map_congr_left fun y hy => ?_
    have := hins y hy
    exact (nvTo_pre N.luts ins st (show i ≤ N.ls.length by omega) _ (by omega)).symm
  · have hc := AG.c0_ok hm hx hx2
    have hbl : bs = pickB (G.valTo ins st G.an.length) (G.c0 k x).1 := by
      rw [hbs]
      show ((G.c0 k x).1.map Int.toNat).map _ = _
      unfold pickB
      rw [List.map_map]
      rfl
    rw [hbl, ← rowTo_all]
    exact AG.table_means hval hc.len.1 (rowTo_lt _ _ _) (fun i hi => rowTo_bit _ _ _ i hi) hc.tab
theorem NT.IsMap.evs {N : NT} {G : AG} {k : Int} (h : N.IsMap G k) (hm : G.ok ∧ 2 ≤ k ∧ k ≤ 6) {ins st : List Bool} (hi : (ins.length : Int) = G.I) (hs : st.length = G.fl.length) : pickB (nvTo N.luts ins st N.ls.length) N.ou = G.evO ins st ∧ pickB (nvTo N.luts ins st N.ls.length) (N.hs.map (·.1)) = G.evN ins st := by
  have hv := h.vals hm hi hs
  constructor
  · unfold pickB AG.evO
    rw [h.ou, List.map_map]
    exact List.map_congr_left fun a ha => hv _ (AG.mp_out hm ha)
  · unfold pickB AG.evN
    rw [h.hs, List.map_map, List.map_map]
    exact List.map_congr_left fun f hf => hv _ (AG.mp_next hm hf)
set_option maxRecDepth 100000 in
set_option maxHeartbeats 2000000 in
theorem aeval_no (G : AG) (A B : Option Addr) (c d : Nat) (ins st : List Bool) (w : World) (hin : G.In w) (hf : G.fit) (hw : G.wf) (hok : ¬ (G.ok ∧ (ins.length : Int) = G.I ∧ st.length = G.fl.length)) :
    Calls Tryd.prog 18 #[.agg #[.int .i64 G.I, .slice G.AF G.fl.length G.cF, .slice G.AA G.an.length G.cA, .slice G.AO G.ou.length G.cO], .slice A ins.length c, .slice B st.length d] w fun r w' => r = .returned (.tuple #[.slice none 0 0, .slice none 0 0, .int .i64 1]) ∧ Below w.heap.size w w' := by
  have X0 := Lib.hid (Blk.made w 26 #[.int .i64 G.I, .slice G.AF G.fl.length G.cF, .slice G.AA G.an.length G.cA, .slice G.AO G.ou.length G.cO])
  have Q0 := Lib.hid (below_new w (.cells #[.int .i64 G.I, .slice G.AF G.fl.length G.cF, .slice G.AA G.an.length G.cA, .slice G.AO G.ou.length G.cO] 26))
  have HK := Lib.hid (anodes_no G A B c d ins st _ (hin.later Q0.out) hf hw hok)
  clear hin hf hw hok
  have k0 := X0.out.cell 0
  have k1 := X0.out.cell 1
  have k2 := X0.out.cell 2
  have k3 := X0.out.cell 3
  generalize ins.length = n1 at *
  generalize st.length = n2 at *
  go_enter Tryd.func18, Tryd.ntmps18
  go_wp2_with fail
  refine HK.out.mono ?_
  rintro e w2 ⟨rfl, hb2⟩
  have Q2 := Lib.hid (below_then Q0.out hb2)
  clear hb2
  go_wp2_with fail
  go_ret3
  exact ⟨rfl, Q2.out⟩
set_option maxRecDepth 100000 in
set_option maxHeartbeats 4000000 in
theorem aeval_yes (G : AG) (A B : Option Addr) (c d : Nat) (ins st : List Bool) (w : World) (hin : G.In w) (hf : G.fit) (hw : G.wf) (hok : G.ok) (ha : Rd w 1 A ins.length c (bools ins)) (hb : Rd w 1 B st.length d (bools st)) (hi : (ins.length : Int) = G.I) (hs : st.length = G.fl.length) :
    Calls Tryd.prog 18 #[.agg #[.int .i64 G.I, .slice G.AF G.fl.length G.cF, .slice G.AA G.an.length G.cA, .slice G.AO G.ou.length G.cO], .slice A ins.length c, .slice B st.length d] w fun r w' => ∃ A c B d, r = .returned (.tuple #[.slice A G.ou.length c, .slice B G.fl.length d, .int .i64 0]) ∧ Below w.heap.size w w' ∧ w'.ownsRow w.heap.size 4 1 (.slice A G.ou.length c) G.ou.length (bools (G.evO ins st)) ∧ w'.ownsRow w.heap.size 4 1 (.slice B G.fl.length d) G.fl.length (bools (G.evN ins st)) := by
  have X0 := Lib.hid (Blk.made w 26 #[.int .i64 G.I, .slice G.AF G.fl.length G.cF, .slice G.AA G.an.length G.cA, .slice G.AO G.ou.length G.cO])
  have Q0 := Lib.hid (below_new w (.cells #[.int .i64 G.I, .slice G.AF G.fl.length G.cF, .slice G.AA G.an.length G.cA, .slice G.AO G.ou.length G.cO] 26))
  have HK := Lib.hid (anodes_yes G A B c d ins st _ (hin.later Q0.out) hf hw hok (ha.later Q0.out) (hb.later Q0.out) hi hs)
  have HIN := Lib.hid hin
  have HOK := Lib.hid hok
  have HEO := Lib.hid (show G.evO ins st = G.ou.map fun a => ofB (G.valTo ins st G.an.length) a.toNat from rfl)
  have HEN := Lib.hid (show G.evN ins st = G.fl.map fun f => ofB (G.valTo ins st G.an.length) f.1.toNat from rfl)
  have hcn : G.cn ≤ 3001 := by have := hf.i; have := hf.f; have := hf.a; have := hok.1; unfold AG.cn AG.fst; omega
  have hno3 := hf.o
  have hh3 := hf.f
  obtain ⟨no, hno⟩ : ∃ n, G.ou.length = n := ⟨_, rfl⟩
  obtain ⟨h, hh⟩ : ∃ n, G.fl.length = n := ⟨_, rfl⟩
  have HNO := Lib.hid hno
  have HH := Lib.hid hh
  rw [hno] at HK X0 Q0 hno3 ⊢
  rw [hh] at HK X0 Q0 hh3 ⊢
  obtain ⟨AO, hAO⟩ : ∃ A, G.AO = A := ⟨_, rfl⟩
  obtain ⟨AF, hAF⟩ : ∃ A, G.AF = A := ⟨_, rfl⟩
  have HAO := Lib.hid hAO
  have HAF := Lib.hid hAF
  rw [hAO, hAF] at HK X0 Q0
  rw [hAO, hAF]
  generalize G.valTo ins st G.an.length = v at HK HEO HEN
  generalize G.evO ins st = EO at HEO ⊢
  generalize G.evN ins st = EN at HEN ⊢
  obtain ⟨cn, hcnn⟩ : ∃ n, G.cn = n := ⟨_, rfl⟩
  have HCN := Lib.hid hcnn
  rw [hcnn] at HK hcn
  clear hin hf hw hok ha hb hi hs hno hh hAO hAF hcnn
  have k0 := X0.out.cell 0
  have k1 := X0.out.cell 1
  have k2 := X0.out.cell 2
  have k3 := X0.out.cell 3
  generalize ins.length = n1 at *
  generalize st.length = n2 at *
  go_enter Tryd.func18, Tryd.ntmps18
  go_wp2_with fail
  refine HK.out.mono ?_
  rintro e w2 ⟨AV, cV, rfl, hb2, hv⟩
  have Q2 := Lib.hid (below_then Q0.out hb2)
  have X2 := Lib.hid (X0.out.keep hb2)
  have V2 := Lib.hid hv
  clear hb2 hv k0 k1 k2 k3 HK
  have k3 := X2.out.cell 3
  go_wp2_with fail
  clear k3
  go_loopw [6, 27] (fun v6 v27 wx => ∃ (i : Nat) (A : Option Addr) (c : Nat), i ≤ no ∧ v27 = .int .i64 (i : Int) ∧ v6 = .slice A i c ∧ wx.ownsRow w2.heap.size 4 1 (.slice A i c) i (bools (EO.take i)) ∧ Below w2.heap.size w2 wx) (fun _ v27 _ => no - (intOf v27).toNat)
  case atStart => exact ⟨0, none, 0, by omega, rfl, rfl, by simpa [bools] using World.ownsRow_nil w2 w2.heap.size 4 1, Below.refl _ _⟩
  case round =>
    obtain ⟨i, A', c', hi, rfl, rfl, hown, hB⟩ := hrel
    have O1 := Lib.hid hown
    have B1 := Lib.hid hB
    clear hown hB
    by_cases hin : i < no
    case pos =>
      have hin' : (i : Int) < (no : Int) := by omega
      have hia : i < G.ou.length := by rw [HNO.out]; exact hin
      obtain ⟨h0, h1⟩ := HOK.out.lit (.inl (List.getElem_mem hia))
      obtain ⟨pa, hPA, hpb, e0⟩ := (HIN.out.ou.later (below_then Q2.out B1.out)).int (k := i) hia
      rw [HAO.out] at hPA
      subst hPA
      rw [List.getD_eq_getElem?_getD, List.getElem?_eq_getElem hia] at e0
      have hnx : EO.take (i + 1) = EO.take i ++ [ofB v G.ou[i].toNat] := by
        rw [HEO.out, List.take_succ_eq_append_getElem (by rw [List.length_map]; exact hia), List.getElem_map]
      obtain ⟨a, hga⟩ : ∃ a : Nat, G.ou[i] = (a : Int) := ⟨_, (Int.toNat_of_nonneg h0).symm⟩
      rw [hga] at h1 hnx
      have e1 : wr.cell? (pa.add i) = some (.int .i64 (a : Int)) := by rw [e0, ← hga]; rfl
      rw [Int.toNat_natCast] at h1 hnx
      rw [HCN.out] at h1
      have HNX := Lib.hid hnx
      have HCL := Lib.hid (aof_any AV cn cV a v wr (V2.out.later B1.out) (by omega) (by omega))
      generalize ofB v a = y at HCL HNX
      have hsz := B1.out.size
      clear e0 hnx h0 h1 hga
      go_wp2_with fail
      refine HCL.out.mono ?_
      rintro e w7 ⟨rfl, rfl⟩
      go_wp2_with (at_builtin; refine wpList_app_bools rfl (.tmp 31) (.tmp 35) rfl w2.heap.size A' i c' _ rfl (O1.out.alloc _) (some ⟨wr.heap.size, 0, none⟩) 1 1 [y] rfl (rd_of_blk (cs := bools [y]) (Blk.made wr 4 #[.bool y]) 1 1 rfl) (by omega) (by simp; omega) ?_)
      intro A9 c9 u9 hown9 hgr9
      have HO9 := Lib.hid (show u9.ownsRow w2.heap.size 4 1 (.slice A9 (i + 1) c9) (i + 1) (bools (EO.take (i + 1))) from by rw [HNX.out]; exact hown9)
      have HB9 := Lib.hid ((below_then B1.out (below_new wr _)).grown hgr9 (below_then B1.out (below_new wr _)).size (fun q hq => own_base O1.out hq))
      clear hown9 hgr9 e1 HCL
      go_wp2_with fail
      go_roundw
      case rel => exact ⟨i + 1, A9, c9, by omega, by go_num, rfl, HO9.out, HB9.out⟩
      case measure => simp [intOf]; omega
    obtain rfl : i = no := by omega
    have hlt : ¬ (i : Int) < (i : Int) := by omega
    have htk : EO.take i = EO := List.take_of_length_le (by rw [HEO.out, List.length_map, HNO.out]; exact Nat.le_refl _)
    rw [htk] at O1
    have k1 := (X2.out.keep B1.out).cell 1
    obtain ⟨AE, hAE⟩ : ∃ v, v = A' := ⟨_, rfl⟩
    obtain ⟨cE, hcE⟩ : ∃ v, v = c' := ⟨_, rfl⟩
    subst hAE
    subst hcE
    obtain ⟨wz, hwz⟩ : ∃ v, v = wr := ⟨_, rfl⟩
    subst hwz
    clear htk
    go_wp2_with fail
    clear k1 hlt hin
    go_loopw [7, 41] (fun v7 v41 wx => ∃ (i : Nat) (A : Option Addr) (c : Nat), i ≤ h ∧ v41 = .int .i64 (i : Int) ∧ v7 = .slice A i c ∧ wx.ownsRow wz.heap.size 4 1 (.slice A i c) i (bools (EN.take i)) ∧ Below wz.heap.size wz wx) (fun _ v41 _ => h - (intOf v41).toNat)
    case atStart => exact ⟨0, none, 0, by omega, rfl, rfl, by simpa [bools] using World.ownsRow_nil wz wz.heap.size 4 1, Below.refl _ _⟩
    case round =>
      obtain ⟨j, A', c', hj, rfl, rfl, hown, hB⟩ := hrel
      have O2 := Lib.hid hown
      have B2 := Lib.hid hB
      have QW := Lib.hid (below_then Q2.out (below_then B1.out B2.out))
      clear hown hB
      by_cases hjh : j < h
      case neg =>
        obtain rfl : j = h := by omega
        have hlt : ¬ (j : Int) < (j : Int) := by omega
        have htk : EN.take j = EN := List.take_of_length_le (by rw [HEN.out, List.length_map, HH.out]; exact Nat.le_refl _)
        rw [htk] at O2
        clear htk
        go_wp2_with fail
        go_ret3
        exact ⟨AE, cE, A', c', rfl, QW.out, own_down (own_keep O1.out B2.out) Q2.out.size, own_down O2.out (Nat.le_trans Q2.out.size B1.out.size)⟩
      have hjh' : (j : Int) < (h : Int) := by omega
      have hia : j < G.fl.length := by rw [HH.out]; exact hjh
      obtain ⟨h0, h1⟩ := HOK.out.lit (.inr ⟨_, List.getElem_mem hia, rfl⟩)
      obtain ⟨g1, g2⟩ := fc_get G.fl j hia
      obtain ⟨pa, hPA, hpb, e0, e1⟩ := HIN.out.fl.two g1 g2
      rw [HAF.out] at hPA
      subst hPA
      have hnx : EN.take (j + 1) = EN.take j ++ [ofB v G.fl[j].1.toNat] := by
        rw [HEN.out, List.take_succ_eq_append_getElem (by rw [List.length_map]; exact hia), List.getElem_map]
      obtain ⟨a, hga⟩ : ∃ a : Nat, G.fl[j].1 = (a : Int) := ⟨_, (Int.toNat_of_nonneg h0).symm⟩
      rw [hga] at h1 hnx e0
      generalize G.fl[j].2 = z at e1
      rw [Int.toNat_natCast] at h1 hnx
      rw [HCN.out] at h1
      obtain ⟨ga, hgaa⟩ : ∃ p, pa.add (j * 2) = p := ⟨_, rfl⟩
      have hgab : ga.block < w.heap.size := by rw [← hgaa, add_block]; exact hpb
      rw [hgaa] at e0 e1
      have e2 := (QW.out.cell hgab).trans e0
      have e3 := (QW.out.cell (p := ⟨ga.block, ga.off + 1, none⟩) hgab).trans e1
      have HNX := Lib.hid hnx
      have hbn := below_new wr (.cells #[.int .i64 (a : Int), .bool z] 38)
      have W8 := Lib.hid hbn
      have HCL := Lib.hid (aof_any AV cn cV a v (wr.alloc (.cells #[.int .i64 (a : Int), .bool z] 38)) (((V2.out.later B1.out).later B2.out).later hbn) (by omega) (by omega))
      generalize ofB v a = y at HCL HNX
      have O8 := Lib.hid (own_keep O2.out hbn)
      have y0 : (wr.alloc (.cells #[.int .i64 (a : Int), .bool z] 38)).cell? ⟨wr.heap.size, 0, none⟩ = some (.int .i64 (a : Int)) := (Blk.made wr _ _).cell 0
      have hsz := B2.out.size
      have B8 := Lib.hid (below_then B2.out hbn)
      clear e0 e1 hnx h0 h1 hga g1 g2 hbn
      go_wp2_with fail
      refine HCL.out.mono ?_
      rintro e w7 ⟨rfl, rfl⟩
      go_wp2_with (at_builtin; refine wpList_app_bools rfl (.tmp 45) (.tmp 50) rfl wz.heap.size A' j c' _ rfl (O8.out.alloc _) (some ⟨wr.heap.size + 1, 0, none⟩) 1 1 [y] rfl (rd_of_blk (cs := bools [y]) (blk_made1 wr _ 4 #[.bool y]) 1 1 rfl) (by omega) (by simp; omega) ?_)
      intro A9 c9 u9 hown9 hgr9
      have HO9 := Lib.hid (show u9.ownsRow wz.heap.size 4 1 (.slice A9 (j + 1) c9) (j + 1) (bools (EN.take (j + 1))) from by rw [HNX.out]; exact hown9)
      have HB9 := Lib.hid ((below_then B8.out (below_new _ _)).grown hgr9 (below_then B8.out (below_new _ _)).size (fun q hq => own_base O2.out hq))
      clear hown9 hgr9 e2 e3 HCL y0
      go_wp2_with fail
      go_roundw
      case rel => exact ⟨j + 1, A9, c9, by omega, by go_num, rfl, HO9.out, HB9.out⟩
      case measure => simp [intOf]; omega
end Go.Proofs.YtebgihekgijpfaaDoor
