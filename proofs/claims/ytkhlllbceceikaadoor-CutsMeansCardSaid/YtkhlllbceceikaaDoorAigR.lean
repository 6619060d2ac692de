/- Walk of filigreeref18.Check. -/
import Derived.Test.YtkhlllbceceikaaDoorAigD
namespace Go.Proofs.YtkhlllbceceikaaDoor
open Go.RowKit
set_option linter.unusedVariables false
set_option linter.unusedSimpArgs false

theorem litN_B (c a : Int) : litN (1 + c) a = litB c a := by
  unfold litN litB
  congr 1
  by_cases h : a < 2 * (1 + c)
  · rw [decide_eq_true h, decide_eq_true (by omega)]
  · rw [decide_eq_false h, decide_eq_false (by omega)]
theorem gate_lits (F : Int) (i : Nat) (p : Int × Int) : gateB F i p = false ↔ litN (F + (i : Int)) p.1 = true ∧ litN (F + (i : Int)) p.2 = true := by
  unfold gateB litN
  simp only [Bool.or_eq_false_iff, decide_eq_false_iff_not, Bool.and_eq_true, decide_eq_true_eq]
  omega
set_option maxRecDepth 100000 in
set_option maxHeartbeats 8000000 in
theorem rcheck18_any (G : AG) (w : World) (hin : G.In w) (hf : G.fit) :
    Calls Tryd.prog 36 #[.agg #[.int .i64 G.I, .slice G.AF G.fl.length G.cF, .slice G.AA G.an.length G.cA, .slice G.AO G.ou.length G.cO]] w fun r w' => r = .returned (.int .i64 G.E) ∧ Below w.heap.size w w' := by
  have b1 := below_new w (.cells #[.int .i64 G.I, .slice G.AF G.fl.length G.cF, .slice G.AA G.an.length G.cA, .slice G.AO G.ou.length G.cO] 26)
  have B1 := Lib.hid b1
  have X1 := Lib.hid (Blk.made w 26 #[.int .i64 G.I, .slice G.AF G.fl.length G.cF, .slice G.AA G.an.length G.cA, .slice G.AO G.ou.length G.cO])
  have HIN := Lib.hid hin
  have HF := Lib.hid hf
  obtain ⟨R, hR⟩ : ∃ R, G.E = R := ⟨_, rfl⟩
  have HR := Lib.hid hR
  rw [hR]
  have f1 := hf.i
  have f2 := hf.f
  have f3 := hf.a
  have f4 := hf.o
  have c0 := X1.out.cell 0
  clear hin hf b1 hR
  by_cases hi : G.I < 0
  · have hn : R = 1 := by rw [← HR.out]; exact if_neg fun h => by have := h.1; omega
    have HN := Lib.hid hn
    clear hn
    go_enter Tryd.func36, Tryd.ntmps36
    go_wp2_with fail
    go_ret
    exact ⟨by rw [HN.out]; rfl, B1.out⟩
  have hi0 : 0 ≤ G.I := by omega
  have c1 := X1.out.cell 1
  have c2 := X1.out.cell 2
  have c3 := X1.out.cell 3
  obtain ⟨AF, hAF⟩ : ∃ A, G.AF = A := ⟨_, rfl⟩
  obtain ⟨AA, hAA⟩ : ∃ A, G.AA = A := ⟨_, rfl⟩
  obtain ⟨AO, hAO⟩ : ∃ A, G.AO = A := ⟨_, rfl⟩
  have HAF := Lib.hid hAF
  have HAA := Lib.hid hAA
  have HAO := Lib.hid hAO
  rw [hAF, hAA, hAO]
  rw [hAF, hAA, hAO] at X1 B1
  clear hAF hAA hAO c0 c1 c2 c3
  have c0 := X1.out.cell 0
  have c1 := X1.out.cell 1
  have c2 := X1.out.cell 2
  have c3 := X1.out.cell 3
  obtain ⟨F, hF⟩ : ∃ F, G.first = F := ⟨_, rfl⟩
  have hF0 : 1 + G.I + (G.fl.length : Int) = F := hF
  have HFQ := Lib.hid hF
  have hF1 : 0 ≤ F ∧ F ≤ 10000 := by omega
  obtain ⟨hF1, hF2⟩ := hF1
  have HC := fun (W : World) => rcount_any G W hi0 HF.out
  rw [HAF.out, HAA.out, HAO.out] at HC
  obtain ⟨ct, hct⟩ : ∃ c, 1 + G.cnt = c := ⟨_, rfl⟩
  have hct1 : 0 ≤ ct ∧ ct ≤ 10000 := by rw [← hct]; unfold AG.cnt; omega
  obtain ⟨hct1, hct2⟩ := hct1
  rw [hct] at HC
  have HCT := Lib.hid hct
  have HC := Lib.hid HC
  have hlt := fun (a : Int) (W : World) => rlit_any ct a W ⟨by omega, by omega⟩
  have HLT := Lib.hid hlt
  clear hlt
  clear hF hct
  have n1 : ¬ 65536 < G.I := by omega
  have n2 : ¬ 65536 < G.I + (G.fl.length : Int) + (G.an.length : Int) := by omega
  have n3 : ¬ 65536 < (G.ou.length : Int) := by omega
  go_enter Tryd.func36, Tryd.ntmps36
  go_wp2_with fail
  clear n1 n2 n3 c0 c1 c2 c3
  generalize w.alloc (.cells #[.int .i64 G.I, .slice AF G.fl.length G.cF, .slice AA G.an.length G.cA, .slice AO G.ou.length G.cO] 26) = w1 at X1 B1 ⊢
  have C1 := Lib.hid (Below.refl w1.heap.size w1)
  go_loopw [4] (fun i wx => ∃ k : Nat, k ≤ G.an.length ∧ i = .int .i64 (k : Int) ∧ Below w1.heap.size w1 wx ∧ ∀ j (hj : j < G.an.length), j < k → gateB F j G.an[j] = false) (fun i _ => G.an.length - (intOf i).toNat)
  case atStart => exact ⟨0, by omega, rfl, C1.out, fun j _ hj => absurd hj (by omega)⟩
  case round =>
    obtain ⟨k, hk, rfl, hB, hg⟩ := hrel
    have B2 := Lib.hid (below_then B1.out hB)
    have C2 := Lib.hid hB
    have X2 := Lib.hid (X1.out.keep hB)
    have HG := Lib.hid hg
    clear hB hg C1
    have c0 := X2.out.cell 0
    have c1 := X2.out.cell 1
    have c2 := X2.out.cell 2
    have c3 := X2.out.cell 3
    by_cases hlt : k < G.an.length
    case neg =>
      obtain rfl : k = G.an.length := by omega
      have hgs : ∀ j (hj : j < G.an.length), gateB G.first j G.an[j] = false := fun j hj => by rw [HFQ.out]; exact HG.out j hj hj
      have HGS := Lib.hid hgs
      clear hgs HG
      go_wp2_with fail
      clear c0 c1 c2 c3
      obtain ⟨w2, hw2⟩ : ∃ x, x = wr := ⟨_, rfl⟩
      rw [← hw2] at B2 X2 C2
      rw [← hw2]
      clear hw2
      have C3 := Lib.hid (Below.refl w2.heap.size w2)
      go_loopw [5] (fun i wx => ∃ k : Nat, k ≤ G.fl.length ∧ i = .int .i64 (k : Int) ∧ Below w2.heap.size w2 wx ∧ ∀ f ∈ G.fl.take k, litB G.cnt f.1 = true) (fun i _ => G.fl.length - (intOf i).toNat)
      case atStart => exact ⟨0, by omega, rfl, C3.out, fun f hf => (nomatch hf)⟩
      case round =>
        obtain ⟨k, hk, rfl, hB, hg⟩ := hrel
        have B4 := Lib.hid (below_then B2.out hB)
        have C4 := Lib.hid hB
        have X4 := Lib.hid (X2.out.keep hB)
        have HG := Lib.hid hg
        clear hB hg C3
        have c0 := X4.out.cell 0
        have c1 := X4.out.cell 1
        have c2 := X4.out.cell 2
        have c3 := X4.out.cell 3
        by_cases hlt : k < G.fl.length
        case neg =>
          obtain rfl : k = G.fl.length := by omega
          have hfs : ∀ f ∈ G.fl, litB G.cnt f.1 = true := fun f hf => HG.out f (by rw [List.take_of_length_le (Nat.le_refl _)]; exact hf)
          have HFS := Lib.hid hfs
          clear hfs HG
          go_wp2_with fail
          clear c0 c1 c2 c3
          obtain ⟨w4, hw4⟩ : ∃ x, x = wr := ⟨_, rfl⟩
          rw [← hw4] at B4 X4 C4
          rw [← hw4]
          clear hw4
          have C5 := Lib.hid (Below.refl w4.heap.size w4)
          have B3 := B4
          have X3 := X4
          clear B4 X4 C4
          go_loopw [6] (fun i wx => ∃ k : Nat, k ≤ G.ou.length ∧ i = .int .i64 (k : Int) ∧ Below w4.heap.size w4 wx ∧ ∀ f ∈ G.ou.take k, litB G.cnt f = true) (fun i _ => G.ou.length - (intOf i).toNat)
          case atStart => exact ⟨0, by omega, rfl, C5.out, fun f hf => (nomatch hf)⟩
          case round =>
            obtain ⟨k, hk, rfl, hB, hg⟩ := hrel
            have B4 := Lib.hid (below_then B3.out hB)
            have C4 := Lib.hid hB
            have X4 := Lib.hid (X3.out.keep hB)
            have HG := Lib.hid hg
            clear hB hg C5
            have c0 := X4.out.cell 0
            have c1 := X4.out.cell 1
            have c2 := X4.out.cell 2
            have c3 := X4.out.cell 3
            by_cases hlt : k < G.ou.length
            case neg =>
              obtain rfl : k = G.ou.length := by omega
              have hn : R = 0 := by
                rw [← HR.out]
                exact if_pos ⟨hi0, HFS.out, fun f hf => HG.out f (by rw [List.take_of_length_le (Nat.le_refl _)]; exact hf), HGS.out⟩
              have HN := Lib.hid hn
              clear hn
              go_wp2_with fail
              go_ret
              exact ⟨by rw [HN.out]; rfl, B4.out⟩
            have hmem : G.ou.getD k 0 ∈ G.ou := by rw [List.getD_eq_getElem?_getD, List.getElem?_eq_getElem hlt]; exact List.getElem_mem hlt
            obtain ⟨a, hA, hab, d0⟩ := (HIN.out.ou.later B4.out).int hlt
            rw [HAO.out] at hA
            subst hA
            have htk := take_one hlt 0
            have hbad : litB G.cnt (G.ou.getD k 0) = false → R = 1 := fun hx => by
              rw [← HR.out]; exact if_neg fun h => by have := h.2.2.1 _ hmem; rw [hx] at this; cases this
            have HTK := Lib.hid htk
            have HBAD := Lib.hid hbad
            clear htk hbad hmem
            generalize G.ou.getD k 0 = x at d0 HTK HBAD
            obtain ⟨ad, had⟩ : ∃ ad, a.add k = ad := ⟨_, rfl⟩
            have hadb : ad.block < wr.heap.size := by rw [← had, add_block]; exact hab
            rw [had] at d0
            have HAD := Lib.hid had
            clear hab
            go_wp2_with fail
            go_region_held3 (fun w' => w'.cell? ⟨w.heap.size, 0, none⟩ = some (.int .i64 G.I) ∧ w'.cell? ⟨w.heap.size, 1, none⟩ = some (.slice AF G.fl.length G.cF) ∧ w'.cell? ⟨w.heap.size, 2, none⟩ = some (.slice AA G.an.length G.cA) ∧ w'.cell? ⟨w.heap.size, 3, none⟩ = some (.slice (some a) G.ou.length G.cO) ∧ w'.cell? ad = some (.int .i64 x)) (go_keep) ((first | (go_at_call 27; (with_reducible refine (HC.out _).mono ?_); rintro e5 w5 ⟨rfl, hb5⟩; have hb5 := below_of_drew hb5; have B5 := Lib.hid (below_then B4.out hb5); have C5 := Lib.hid (below_then C4.out hb5); have X5 := X4.out.keep hb5; have j0 := X5.cell 0; have j1 := X5.cell 1; have j2 := X5.cell 2; have j3 := X5.cell 3; have j4 := (hb5.cell (p := ad) hadb).trans d0; clear hb5 X5) | (go_at_call 53; (with_reducible refine (HLT.out _ _).mono ?_); rintro e6 w6 ⟨rfl, rfl⟩)))
            all_goals
              clear j0 j1 j2 j3 j4 c0 c1 c2 c3 d0
              cases h1 : litN ct x with
              | false =>
                have HN := Lib.hid (HBAD.out (by rw [← litN_B, HCT.out]; exact h1))
                clear h1
                go_wp2_with fail
                go_ret
                exact ⟨by rw [HN.out]; rfl, B5.out⟩
              | true =>
                have HN := Lib.hid (show litB G.cnt x = true by rw [← litN_B, HCT.out]; exact h1)
                clear h1
                go_wp2_with fail
                go_roundw
                case rel => exact ⟨k + 1, by omega, by go_num, C5.out, fun f hf => by
                  rw [HTK.out] at hf
                  rcases List.mem_append.1 hf with hf | hf
                  · exact HG.out f hf
                  · rw [List.mem_singleton.1 hf]; exact HN.out⟩
                case measure => simp [intOf]; omega
        have hmem : G.fl[k] ∈ G.fl := List.getElem_mem hlt
        obtain ⟨g1, g2⟩ := fc_get G.fl k hlt
        obtain ⟨a, hA, hab, d0, -⟩ := (HIN.out.fl.later B4.out).two g1 g2
        rw [HAF.out] at hA
        subst hA
        have htk : G.fl.take (k + 1) = G.fl.take k ++ [G.fl[k]] := by rw [List.take_add_one, List.getElem?_eq_getElem hlt]; rfl
        have hbad : litB G.cnt G.fl[k].1 = false → R = 1 := fun hx => by
          rw [← HR.out]; exact if_neg fun h => by have := h.2.1 _ hmem; rw [hx] at this; cases this
        have HTK := Lib.hid htk
        have HBAD := Lib.hid hbad
        clear htk hbad hmem g1 g2
        generalize G.fl[k] = p at d0 HTK HBAD
        obtain ⟨x, y⟩ := p
        simp only at d0
        have HBAD := Lib.hid (show litB G.cnt x = false → R = 1 from HBAD.out)
        obtain ⟨ad, had⟩ : ∃ ad, a.add (k * 2) = ad := ⟨_, rfl⟩
        have hadb : ad.block < wr.heap.size := by rw [← had, add_block]; exact hab
        rw [had] at d0
        have HAD := Lib.hid had
        clear hab
        go_wp2_with fail
        go_region_held3 (fun w' => w'.cell? ⟨w.heap.size, 0, none⟩ = some (.int .i64 G.I) ∧ w'.cell? ⟨w.heap.size, 1, none⟩ = some (.slice (some a) G.fl.length G.cF) ∧ w'.cell? ⟨w.heap.size, 2, none⟩ = some (.slice AA G.an.length G.cA) ∧ w'.cell? ⟨w.heap.size, 3, none⟩ = some (.slice AO G.ou.length G.cO) ∧ w'.cell? ad = some (.int .i64 x)) (go_keep) ((first | (go_at_call 27; (with_reducible refine (HC.out _).mono ?_); rintro e5 w5 ⟨rfl, hb5⟩; have hb5 := below_of_drew hb5; have B5 := Lib.hid (below_then B4.out hb5); have C5 := Lib.hid (below_then C4.out hb5); have X5 := X4.out.keep hb5; have j0 := X5.cell 0; have j1 := X5.cell 1; have j2 := X5.cell 2; have j3 := X5.cell 3; have j4 := (hb5.cell (p := ad) hadb).trans d0; clear hb5 X5) | (go_at_call 53; (with_reducible refine (HLT.out _ _).mono ?_); rintro e6 w6 ⟨rfl, rfl⟩)))
        all_goals
          clear j0 j1 j2 j3 j4 c0 c1 c2 c3 d0
          cases h1 : litN ct x with
          | false =>
            have HN := Lib.hid (HBAD.out (by rw [← litN_B, HCT.out]; exact h1))
            clear h1
            go_wp2_with fail
            go_ret
            exact ⟨by rw [HN.out]; rfl, B5.out⟩
          | true =>
            have HN := Lib.hid (show litB G.cnt x = true by rw [← litN_B, HCT.out]; exact h1)
            clear h1
            go_wp2_with fail
            go_roundw
            case rel => exact ⟨k + 1, by omega, by go_num, C5.out, fun f hf => by
              rw [HTK.out] at hf
              rcases List.mem_append.1 hf with hf | hf
              · exact HG.out f hf
              · rw [List.mem_singleton.1 hf]; exact HN.out⟩
            case measure => simp [intOf]; omega
    obtain ⟨g1, g2⟩ := pc_get G.an k hlt
    obtain ⟨a, hA, hab, d0, d1⟩ := (HIN.out.an.later B2.out).two g1 g2
    rw [HAA.out] at hA
    subst hA
    have hbad : gateB F k G.an[k] = true → R = 1 := fun hx => by
      rw [← HR.out]; exact if_neg fun h => by have := h.2.2.2 k hlt; rw [HFQ.out, hx] at this; cases this
    have hnext : gateB F k G.an[k] = false → ∀ j (hj : j < G.an.length), j < k + 1 → gateB F j G.an[j] = false := fun hx j hj hjk => by
      by_cases he : j = k
      · subst he; exact hx
      · exact HG.out j hj (by omega)
    have HBAD := Lib.hid hbad
    have HNXT := Lib.hid hnext
    clear hbad hnext g1 g2
    generalize G.an[k] = p at d0 d1 HBAD HNXT
    obtain ⟨x, y⟩ := p
    simp only at d0 d1
    have hgl := gate_lits F k (x, y)
    simp only at hgl
    have HGL := Lib.hid hgl
    have hwk : IntKind.i64.wrap (F + (k : Int)) = F + (k : Int) := IntWalk.i64_in _ (by omega)
    have hn : 0 ≤ F + (k : Int) ∧ F + (k : Int) ≤ 1000000 := by omega
    have HL := fun (a : Int) (W : World) => rlit_any (F + (k : Int)) a W hn
    have HL := Lib.hid HL
    clear hgl hn
    go_wp2_with fail
    refine (HL.out x _).mono ?_
    rintro e1 w3 ⟨rfl, rfl⟩
    cases h1 : litN (F + (k : Int)) x with
    | false =>
      have hg : gateB F k (x, y) = true := by
        cases hgb : gateB F k (x, y) with
        | true => rfl
        | false => have := (HGL.out.1 hgb).1; rw [h1] at this; cases this
      have HN := Lib.hid (HBAD.out hg)
      clear hg h1
      go_wp2_with fail
      go_ret
      exact ⟨by rw [HN.out]; rfl, B2.out⟩
    | true =>
      have H1 := Lib.hid h1
      clear h1
      go_wp2_with fail
      refine (HL.out y _).mono ?_
      rintro e1 w3 ⟨rfl, rfl⟩
      cases h2 : litN (F + (k : Int)) y with
      | false =>
        have hg : gateB F k (x, y) = true := by
          cases hgb : gateB F k (x, y) with
          | true => rfl
          | false => have := (HGL.out.1 hgb).2; rw [h2] at this; cases this
        have HN := Lib.hid (HBAD.out hg)
        clear hg h2
        go_wp2_with fail
        go_ret
        exact ⟨by rw [HN.out]; rfl, B2.out⟩
      | true =>
        have HN := Lib.hid (HNXT.out (HGL.out.2 ⟨H1.out, h2⟩))
        clear h2
        go_wp2_with fail
        go_roundw
        case rel => exact ⟨k + 1, by omega, by go_num, C2.out, HN.out⟩
        case measure => simp [intOf]; omega
end Go.Proofs.YtkhlllbceceikaaDoor
