/- filigree/aig.Nodes: what each node of gates is. -/
import Derived.Test.YtebgihekgijpfaaDoorZAig
import Derived.Test.YtebgihekgijpfaaDoorZRTbl
import Derived.Test.YtebgihekgijpfaaDoorZLVals
import Derived.Test.YtebgihekgijpfaaDoorZNet
namespace Go.Proofs.YtebgihekgijpfaaDoor
open Go.RowKit
set_option linter.unusedVariables false
set_option linter.unusedSimpArgs false
/-- a literal's value -/
def ofB (v : List Bool) (a : Nat) : Bool := v.getD (a / 2) false != decide (a % 2 = 1)
/-- the values of the nodes ahead of gate i -/
def AG.valTo (G : AG) (ins st : List Bool) : Nat → List Bool
  | 0 => [false] ++ ins ++ st
  | i + 1 => G.valTo ins st i ++ [ofB (G.valTo ins st i) (G.ands.getD i (0, 0)).1 && ofB (G.valTo ins st i) (G.ands.getD i (0, 0)).2]
theorem AG.valTo_len (G : AG) (ins st : List Bool) : ∀ i, (G.valTo ins st i).length = 1 + ins.length + st.length + i
  | 0 => by simp [AG.valTo]; omega
  | i + 1 => by simp [AG.valTo, G.valTo_len ins st i]; omega
theorem AG.valTo_pre (G : AG) (ins st : List Bool) {j : Nat} : ∀ {i : Nat}, j ≤ i → ∀ x, x < 1 + ins.length + st.length + j → (G.valTo ins st i).getD x false = (G.valTo ins st j).getD x false
  | 0, h, x, hx => by obtain rfl : j = 0 := by omega
                      rfl
  | i + 1, h, x, hx => by
    rcases Nat.lt_or_ge j (i + 1) with h1 | h1
    · rw [← G.valTo_pre ins st (show j ≤ i by omega) x hx]
      exact getD_left _ _ _ (by rw [G.valTo_len]; omega)
    · obtain rfl : j = i + 1 := by omega
      rfl
theorem set_aux {α : Type} (l : List α) (x d : α) : (l ++ [x]).getD l.length d = x := by
  rw [List.getD_eq_getElem?_getD, List.getElem?_append_right (Nat.le_refl _), Nat.sub_self]; rfl
set_option maxRecDepth 100000 in
theorem aof_any (A : Option Addr) (n c a : Nat) (v : List Bool) (w : World) (hv : Rd w 1 A n c (bools v)) (ha : a / 2 < n) (hn : n ≤ 1000000) :
    Calls Tryd.prog 44 #[.slice A n c, .int .i64 (a : Int)] w fun r w' => r = .returned (.bool (ofB v a)) ∧ w = w' := by
  obtain ⟨p, hA, hb, c0⟩ := hv.bool ha
  subst hA
  obtain ⟨a2, ha2⟩ : ∃ q, a / 2 = q := ⟨_, rfl⟩
  obtain ⟨pa, hpa⟩ : ∃ q, a % 2 = q := ⟨_, rfl⟩
  have h1 : bits .and .i64 (a : Int) 1 = (pa : Int) := by rw [and1_i64 a (by omega), hpa]
  have h2 : (a : Int) / 2 = (a2 : Int) := by omega
  obtain ⟨r, hr⟩ : ∃ r, ofB v a = r := ⟨_, rfl⟩
  have hr2 := hr
  unfold ofB at hr2
  rw [ha2, hpa] at hr2
  rw [hr]
  have HR := Lib.hid hr2
  rw [ha2] at c0 ha
  have hpa2 : pa = 0 ∨ pa = 1 := by omega
  clear hr hr2 hpa ha2
  generalize v.getD a2 false = x at c0 HR
  have hlt : (a2 : Int) < (n : Int) := by omega
  rcases hpa2 with rfl | rfl
  · have e : r = x := by rw [← HR.out]; simp
    have HE := Lib.hid e
    clear e
    go_enter Tryd.func44, Tryd.ntmps44
    go_wp2_with fail
    go_ret
    exact ⟨by rw [HE.out]; simp, rfl⟩
  · have e : r = !x := by rw [← HR.out]; cases x <;> rfl
    have HE := Lib.hid e
    clear e
    go_enter Tryd.func44, Tryd.ntmps44
    go_wp2_with fail
    go_ret
    exact ⟨by rw [HE.out]; simp, rfl⟩
set_option maxRecDepth 100000 in
set_option maxHeartbeats 1000000 in
theorem anodes_no (G : AG) (A B : Option Addr) (c d : Nat) (ins st : List Bool) (w : World) (hin : G.In w) (hf : G.fit) (hw : G.wf) (hok : ¬ (G.ok ∧ (ins.length : Int) = G.I ∧ st.length = G.fl.length)) :
    Calls Tryd.prog 43 #[.agg #[.int .i64 G.I, .slice G.AF G.fl.length G.cF, .slice G.AA G.an.length G.cA, .slice G.AO G.ou.length G.cO], .slice A ins.length c, .slice B st.length d] w fun r w' => r = .returned (.tuple #[.slice none 0 0, .int .i64 1]) ∧ Below w.heap.size w w' := by
  have Q0 := Lib.hid (below_new w (.cells #[.int .i64 G.I, .slice G.AF G.fl.length G.cF, .slice G.AA G.an.length G.cA, .slice G.AO G.ou.length G.cO] 26))
  have X0 := Lib.hid (Blk.made w 26 #[.int .i64 G.I, .slice G.AF G.fl.length G.cF, .slice G.AA G.an.length G.cA, .slice G.AO G.ou.length G.cO])
  have HE := Lib.hid (acheck_any G (w.alloc (.cells #[.int .i64 G.I, .slice G.AF G.fl.length G.cF, .slice G.AA G.an.length G.cA, .slice G.AO G.ou.length G.cO] 26)) (hin.later Q0.out) hf hw)
  clear hin hf hw
  by_cases h1 : G.ok
  case neg =>
    rw [show G.E = 1 from if_neg h1] at HE
    clear hok
    go_enter Tryd.func43, Tryd.ntmps43
    go_wp2_with fail
    refine HE.out.mono ?_
    rintro e w2 ⟨rfl, hb2⟩
    have Q2 := Lib.hid (below_then Q0.out hb2)
    clear hb2
    go_wp2_with fail
    go_ret2
    exact ⟨rfl, Q2.out⟩
  rw [show G.E = 0 from if_pos h1] at HE
  by_cases h2 : (ins.length : Int) = G.I
  case neg =>
    have hd : ((ins.length : Int) != G.I) = true := by rw [bne_iff_ne]; exact h2
    clear hok h2
    go_enter Tryd.func43, Tryd.ntmps43
    go_wp2_with fail
    refine HE.out.mono ?_
    rintro e w2 ⟨rfl, hb2⟩
    have Q2 := Lib.hid (below_then Q0.out hb2)
    have X2 := Lib.hid (X0.out.keep hb2)
    clear hb2
    have k0 := X2.out.cell 0
    go_wp2_with fail
    go_ret2
    exact ⟨rfl, Q2.out⟩
  have h3 : ¬ st.length = G.fl.length := fun h => hok ⟨h1, h2, h⟩
  have hd : ((ins.length : Int) != G.I) = false := by rw [h2]; simp
  have hd2 : ((st.length : Int) != (G.fl.length : Int)) = true := by rw [bne_iff_ne]; omega
  clear hok h2 h3
  go_enter Tryd.func43, Tryd.ntmps43
  go_wp2_with fail
  refine HE.out.mono ?_
  rintro e w2 ⟨rfl, hb2⟩
  have Q2 := Lib.hid (below_then Q0.out hb2)
  have X2 := Lib.hid (X0.out.keep hb2)
  clear hb2
  have k0 := X2.out.cell 0
  have k1 := X2.out.cell 1
  go_wp2_with fail
  go_ret2
  exact ⟨rfl, Q2.out⟩
set_option maxRecDepth 100000 in
set_option maxHeartbeats 4000000 in
theorem anodes_yes (G : AG) (A B : Option Addr) (c d : Nat) (ins st : List Bool) (w : World) (hin : G.In w) (hf : G.fit) (hw : G.wf) (hok : G.ok) (ha : Rd w 1 A ins.length c (bools ins)) (hb : Rd w 1 B st.length d (bools st)) (hi : (ins.length : Int) = G.I) (hs : st.length = G.fl.length) :
    Calls Tryd.prog 43 #[.agg #[.int .i64 G.I, .slice G.AF G.fl.length G.cF, .slice G.AA G.an.length G.cA, .slice G.AO G.ou.length G.cO], .slice A ins.length c, .slice B st.length d] w fun r w' => ∃ A c, r = .returned (.tuple #[.slice A G.cn c, .int .i64 0]) ∧ Below w.heap.size w w' ∧ Rd w' 1 A G.cn c (bools (G.valTo ins st G.an.length)) := by
  have Q0 := Lib.hid (below_new w (.cells #[.int .i64 G.I, .slice G.AF G.fl.length G.cF, .slice G.AA G.an.length G.cA, .slice G.AO G.ou.length G.cO] 26))
  have X0 := Lib.hid (Blk.made w 26 #[.int .i64 G.I, .slice G.AF G.fl.length G.cF, .slice G.AA G.an.length G.cA, .slice G.AO G.ou.length G.cO])
  have HE := Lib.hid (acheck_any G (w.alloc (.cells #[.int .i64 G.I, .slice G.AF G.fl.length G.cF, .slice G.AA G.an.length G.cA, .slice G.AO G.ou.length G.cO] 26)) (hin.later Q0.out) hf hw)
  rw [show G.E = 0 from if_pos hok] at HE
  have HIN := Lib.hid hin
  have HOK := Lib.hid hok
  have HA := Lib.hid ha
  have HB := Lib.hid hb
  obtain ⟨F, hF⟩ : ∃ F, G.fst = F := ⟨_, rfl⟩
  obtain ⟨n, hn⟩ : ∃ n, G.an.length = n := ⟨_, rfl⟩
  have hFe : F = 1 + ins.length + st.length := by rw [← hF]; unfold AG.fst; omega
  have HFE := Lib.hid hFe
  have HFF := Lib.hid hF
  have HN := Lib.hid hn
  have HCN := Lib.hid (show G.cn = F + n by rw [← hF, ← hn]; rfl)
  have hF3 : F ≤ 2001 := by have := hf.i; have := hf.f; rw [← hF]; unfold AG.fst; omega
  have hn3 : n ≤ 1000 := by have := hf.a; omega
  have NI := Lib.hid (show ins.length ≤ 1000 by have := hf.i; omega)
  have NS := Lib.hid (show st.length ≤ 1000 by have := hf.f; omega)
  have hd : ((ins.length : Int) != G.I) = false := by rw [hi]; simp
  have hd2 : ((st.length : Int) != (G.fl.length : Int)) = false := by rw [hs]; simp
  clear hin hf hw hok ha hb hi hs hF hn hFe
  go_enter Tryd.func43, Tryd.ntmps43
  go_wp2_with fail
  refine HE.out.mono ?_
  rintro e w2 ⟨rfl, hb2⟩
  have Q2 := Lib.hid (below_then Q0.out hb2)
  have X2 := Lib.hid (X0.out.keep hb2)
  clear hb2 HE
  have k0 := X2.out.cell 0
  have k1 := X2.out.cell 1
  go_wp2_with fail
  have hcat : catB [((some ⟨w2.heap.size, 0, none⟩, 1, [false]) : SB), (A, c, ins), (B, d, st)] = G.valTo ins st 0 := by simp [catB, AG.valTo]
  have hvl0 : (G.valTo ins st 0).length = F := by rw [G.valTo_len, HFE.out]; omega
  have hcc := concatB_any ((w2.alloc (.cells #[.bool false] 4)).alloc (.cells #[.slice (some ⟨w2.heap.size, 0, none⟩) 1 1, .slice A ins.length c, .slice B st.length d] 42)) (some ⟨w2.heap.size + 1, 0, none⟩) 3 3
    [((some ⟨w2.heap.size, 0, none⟩, 1, [false]) : SB), (A, c, ins), (B, d, st)] rfl
    (rd_of_blk (cs := [.slice (some ⟨w2.heap.size, 0, none⟩) 1 1, .slice A ins.length c, .slice B st.length d]) (blk_made1 w2 _ 42 #[.slice (some ⟨w2.heap.size, 0, none⟩) 1 1, .slice A ins.length c, .slice B st.length d]) 1 3 rfl)
    (by
      intro l hl
      simp only [List.mem_cons, List.not_mem_nil, or_false] at hl
      rcases hl with rfl | rfl | rfl
      · exact (rd_bool1 w2 4 false).later (below_new _ _)
      · exact HA.out.later (below_then Q2.out (below_then (below_new _ _) (below_new _ _)))
      · exact HB.out.later (below_then Q2.out (below_then (below_new _ _) (below_new _ _)))) (by decide) (by rw [hcat, hvl0]; omega)
  rw [hcat, hvl0] at hcc
  have HCC := Lib.hid hcc
  clear hcc hcat hvl0 k0 k1
  refine HCC.out.mono ?_
  rintro e w3 ⟨A3, c3, rfl, hb3, hown3⟩
  have hb3' := below_then (below_then (below_new w2 (.cells #[.bool false] 4)) (below_new _ (.cells #[.slice (some ⟨w2.heap.size, 0, none⟩) 1 1, .slice A ins.length c, .slice B st.length d] 42))) hb3
  have Q3 := Lib.hid (below_then Q2.out hb3')
  have X3 := Lib.hid (X2.out.keep hb3')
  have O3 := Lib.hid (own_down hown3 (show w.heap.size ≤ _ from (below_then Q2.out (below_then (below_new w2 (.cells #[.bool false] 4)) (below_new _ (.cells #[.slice (some ⟨w2.heap.size, 0, none⟩) 1 1, .slice A ins.length c, .slice B st.length d] 42)))).size))
  clear hb3 hb3' hown3 HCC
  have k2 : w3.cell? ⟨w.heap.size, 2, none⟩ = some (.slice G.AA G.an.length G.cA) := X3.out.cell 2
  rw [HN.out] at k2
  obtain ⟨AA, hAA⟩ : ∃ A, G.AA = A := ⟨_, rfl⟩
  have HAA := Lib.hid hAA
  rw [hAA] at k2
  clear hAA
  go_wp2_with fail
  go_loopw [9, 38] (fun v9 v38 wx => ∃ (i : Nat) (A : Option Addr) (c : Nat), i ≤ n ∧ v38 = .int .i64 (i : Int) ∧ v9 = .slice A (F + i) c ∧ wx.ownsRow w.heap.size 4 1 (.slice A (F + i) c) (F + i) (bools (G.valTo ins st i)) ∧ Below w.heap.size w wx) (fun _ v38 _ => n - (intOf v38).toNat)
  case atStart => exact ⟨0, _, _, by omega, rfl, rfl, O3.out, Q3.out⟩
  case round =>
    obtain ⟨i, A', c', hi, rfl, rfl, hown, hB⟩ := hrel
    have B6 := Lib.hid hB
    have O6 := Lib.hid hown
    clear hown hB
    by_cases hin : i < n
    case neg =>
      obtain rfl : i = n := by omega
      have hlt : ¬ (i : Int) < (i : Int) := by omega
      go_wp2_with fail
      go_ret2
      refine ⟨A', c', ?_, B6.out, ?_⟩
      · rw [HCN.out]; rfl
      · rw [HCN.out, HN.out]; exact Rd.of_own O6.out
    have hin' : (i : Int) < (n : Int) := by omega
    have hia : i < G.an.length := by rw [HN.out]; exact hin
    obtain ⟨a, b', hg, hgs, ha, hb, hal, hbl⟩ := HOK.out.gate hia
    obtain ⟨pa, hPA, hpb, e0, e1⟩ := HIN.out.an.two (pc_get G.an i hia).1 (pc_get G.an i hia).2
    rw [hg] at e0 e1
    rw [HAA.out] at hPA
    subst hPA
    obtain ⟨ga, hga⟩ : ∃ p, pa.add (i * 2) = p := ⟨_, rfl⟩
    have hgab : ga.block < w.heap.size := by rw [← hga, add_block]; exact hpb
    rw [hga] at e0 e1
    have e2 : wr.cell? ga = some (.int .i64 (a : Int)) := (B6.out.cell hgab).trans e0
    have e3 : wr.cell? ⟨ga.block, ga.off + 1, none⟩ = some (.int .i64 (b' : Int)) := (B6.out.cell (p := ⟨ga.block, ga.off + 1, none⟩) hgab).trans e1
    rw [HFF.out] at ha hb
    have hnx : G.valTo ins st (i + 1) = G.valTo ins st i ++ [ofB (G.valTo ins st i) a && ofB (G.valTo ins st i) b'] := by
      rw [AG.valTo, show G.ands.getD i (0, 0) = (a, b') by rw [List.getD_eq_getElem?_getD, hgs]; rfl]
    have HNX := Lib.hid hnx
    have H1 := Lib.hid (fun (W : World) (h : Below wr.heap.size wr W) => aof_any A' (F + i) c' a _ W ((Rd.of_own O6.out).later h) ha (by omega))
    have H2 := Lib.hid (fun (W : World) (h : Below wr.heap.size wr W) => aof_any A' (F + i) c' b' _ W ((Rd.of_own O6.out).later h) hb (by omega))
    have hsz := B6.out.size
    clear e0 e1 hg hgs hal hbl ha hb hnx
    generalize ofB (G.valTo ins st i) a = x1 at H1 HNX
    generalize ofB (G.valTo ins st i) b' = x2 at H2 HNX
    have B7 := Lib.hid (below_new wr (.cells #[.int .i64 (a : Int), .int .i64 (b' : Int)] 60))
    have y0 : (wr.alloc (.cells #[.int .i64 (a : Int), .int .i64 (b' : Int)] 60)).cell? ⟨wr.heap.size, 0, none⟩ = some (.int .i64 (a : Int)) := (Blk.made wr _ _).cell 0
    have y1 : (wr.alloc (.cells #[.int .i64 (a : Int), .int .i64 (b' : Int)] 60)).cell? ⟨wr.heap.size, 1, none⟩ = some (.int .i64 (b' : Int)) := (Blk.made wr _ _).cell 1
    go_wp2_with fail
    refine (H1.out _ B7.out).mono ?_
    rintro e w7 ⟨rfl, rfl⟩
    cases x1 with
    | false =>
      go_wp2_with (at_builtin; refine wpList_app_bools rfl (.tmp 42) (.tmp 53) rfl w.heap.size A' (F + i) c' _ rfl ((O6.out.alloc _).alloc _) (some ⟨wr.heap.size + 1, 0, none⟩) 1 1 [false] rfl (rd_of_blk (cs := bools [false]) (blk_made1 wr _ 4 #[.bool false]) 1 1 rfl) (by omega) (by simp; omega) ?_)
      intro A9 c9 u9 hown9 hgr9
      have HO9 := Lib.hid (show u9.ownsRow w.heap.size 4 1 (.slice A9 (F + i + 1) c9) (F + i + 1) (bools (G.valTo ins st (i + 1))) from by rw [HNX.out]; exact hown9)
      have HB9 := Lib.hid ((below_then (below_then B6.out B7.out) (below_new _ _)).grown hgr9 (below_then (below_then B6.out B7.out) (below_new _ _)).size (fun q hq => own_base O6.out hq))
      clear hown9 hgr9 y0 y1
      go_wp2_with fail
      go_roundw
      case rel => exact ⟨i + 1, A9, c9, by omega, by go_num, rfl, HO9.out, HB9.out⟩
      case measure => simp [intOf]; omega
    | true =>
      go_wp2_with fail
      refine (H2.out _ B7.out).mono ?_
      rintro e w7 ⟨rfl, rfl⟩
      go_wp2_with (at_builtin; refine wpList_app_bools rfl (.tmp 42) (.tmp 53) rfl w.heap.size A' (F + i) c' _ rfl ((O6.out.alloc _).alloc _) (some ⟨wr.heap.size + 1, 0, none⟩) 1 1 [x2] rfl (rd_of_blk (cs := bools [x2]) (blk_made1 wr _ 4 #[.bool x2]) 1 1 rfl) (by omega) (by simp; omega) ?_)
      intro A9 c9 u9 hown9 hgr9
      have HO9 := Lib.hid (show u9.ownsRow w.heap.size 4 1 (.slice A9 (F + i + 1) c9) (F + i + 1) (bools (G.valTo ins st (i + 1))) from by rw [HNX.out]; exact hown9)
      have HB9 := Lib.hid ((below_then (below_then B6.out B7.out) (below_new _ _)).grown hgr9 (below_then (below_then B6.out B7.out) (below_new _ _)).size (fun q hq => own_base O6.out hq))
      clear hown9 hgr9 y0 y1
      go_wp2_with fail
      go_roundw
      case rel => exact ⟨i + 1, A9, c9, by omega, by go_num, rfl, HO9.out, HB9.out⟩
      case measure => simp [intOf]; omega
end Go.Proofs.YtebgihekgijpfaaDoor
