/- Walks of filigree/aig.Check and what it calls; filigreeref18.Count, Lit. -/
import Derived.Test.YtkhlllbceceikaaDoorAig
namespace Go.Proofs.YtkhlllbceceikaaDoor
open Go.RowKit
set_option linter.unusedVariables false
set_option linter.unusedSimpArgs false

/-- all numbers of gates are numbers of the machine -/
structure AG.wf (G : AG) : Prop where
  fl : ∀ x ∈ G.fl, x.1 ≤ 9223372036854775807
  an : ∀ x ∈ G.an, x.1 ≤ 9223372036854775807 ∧ x.2 ≤ 9223372036854775807
  ou : ∀ x ∈ G.ou, x ≤ 9223372036854775807
set_option maxRecDepth 100000 in
theorem contains_out (G : AG) (e : Int) (b g : Nat) (w : World) (hin : G.In w) (hb : AWK G e w b) (hg : wBox b g w) (hi : 0 ≤ G.I) (hf : G.fit) (hw : G.wf) :
    Calls Tryd.prog 87 #[.slice G.AO G.ou.length G.cO, .func (.func 85) #[] #[.pointer (some ⟨g, 0, none⟩)]] w fun r w' => r = .returned (.bool (G.ou.any (badO G.cnt))) ∧ Below w.heap.size w w' := by
  have HX := Lib.hid (index_out G e b g w G.AO G.ou.length G.cO G.ou hin.ou (by have := hf.o; omega) hb hg hi hf hw.ou)
  obtain ⟨r, hr⟩ : ∃ r, G.ou.any (badO G.cnt) = r := ⟨_, rfl⟩
  rw [hr] at HX ⊢
  clear hin hb hg hi hf hw hr
  go_enter Tryd.func87, Tryd.ntmps87
  go_wp2_with fail
  refine HX.out.mono ?_
  rintro e w1 ⟨i, rfl, hx, hb1⟩
  have HI := Lib.hid hx
  have B1 := Lib.hid hb1
  clear hx hb1
  by_cases h0 : 0 ≤ i
  · have hd : decide (0 ≤ i) = true := decide_eq_true h0
    have HR := Lib.hid (HI.out.1 h0)
    go_wp2_with fail
    go_ret
    exact ⟨by rw [HR.out]; rfl, B1.out⟩
  · have hd : decide (0 ≤ i) = false := decide_eq_false h0
    have hr : r = false := by cases r with
      | false => rfl
      | true => exact absurd (HI.out.2 rfl) h0
    have HR := Lib.hid hr
    clear hr
    go_wp2_with fail
    go_ret
    exact ⟨by rw [HR.out]; rfl, B1.out⟩
set_option maxRecDepth 100000 in
theorem contains_next (G : AG) (e : Int) (b g : Nat) (w : World) (hin : G.In w) (hb : AWK G e w b) (hg : wBox b g w) (hi : 0 ≤ G.I) (hf : G.fit) (hw : G.wf) :
    Calls Tryd.prog 86 #[.slice G.AF G.fl.length G.cF, .func (.func 84) #[] #[.pointer (some ⟨g, 0, none⟩)]] w fun r w' => r = .returned (.bool (G.fl.any (badF G.cnt))) ∧ Below w.heap.size w w' := by
  have HX := Lib.hid (index_next G e b g w G.AF G.fl.length G.cF G.fl hin.fl (by have := hf.f; omega) hb hg hi hf hw.fl)
  obtain ⟨r, hr⟩ : ∃ r, G.fl.any (badF G.cnt) = r := ⟨_, rfl⟩
  rw [hr] at HX ⊢
  clear hin hb hg hi hf hw hr
  go_enter Tryd.func86, Tryd.ntmps86
  go_wp2_with fail
  refine HX.out.mono ?_
  rintro e w1 ⟨i, rfl, hx, hb1⟩
  have HI := Lib.hid hx
  have B1 := Lib.hid hb1
  clear hx hb1
  by_cases h0 : 0 ≤ i
  · have hd : decide (0 ≤ i) = true := decide_eq_true h0
    have HR := Lib.hid (HI.out.1 h0)
    go_wp2_with fail
    go_ret
    exact ⟨by rw [HR.out]; rfl, B1.out⟩
  · have hd : decide (0 ≤ i) = false := decide_eq_false h0
    have hr : r = false := by cases r with
      | false => rfl
      | true => exact absurd (HI.out.2 rfl) h0
    have HR := Lib.hid hr
    clear hr
    go_wp2_with fail
    go_ret
    exact ⟨by rw [HR.out]; rfl, B1.out⟩

def AG.E (G : AG) [Decidable G.ok] : Int := if G.ok then 0 else 1
instance (G : AG) : Decidable G.ok := by unfold AG.ok; infer_instance
theorem ok_any {G : AG} (h : G.ok) : G.fl.any (badF G.cnt) = false ∧ G.ou.any (badO G.cnt) = false := by
  refine ⟨List.any_eq_false.2 fun x hx => ?_, List.any_eq_false.2 fun x hx => ?_⟩
  · unfold badF; rw [h.2.1 x hx]; simp
  · unfold badO; rw [h.2.2.1 x hx]; simp
theorem any_ok {G : AG} (hi : 0 ≤ G.I) (h1 : G.fl.any (badF G.cnt) = false) (h2 : G.ou.any (badO G.cnt) = false) (h3 : ∀ i (h : i < G.an.length), gateB G.first i G.an[i] = false) : G.ok := by
  refine ⟨hi, fun x hx => ?_, fun x hx => ?_, h3⟩
  · have := List.any_eq_false.1 h1 x hx; unfold badF at this; simpa using this
  · have := List.any_eq_false.1 h2 x hx; unfold badO at this; simpa using this
set_option maxRecDepth 100000 in
set_option maxHeartbeats 4000000 in
theorem wcheck_any (G : AG) (e : Int) (b : Nat) (w : World) (hin : G.In w) (hb : AWK G e w b) (hf : G.fit) (hw : G.wf) :
    Calls Tryd.prog 62 #[.pointer (some ⟨b, 0, none⟩)] w fun r w' => r = .returned (.int .i64 G.E) ∧ Below w.heap.size w w' := by
  have hbn := below_new w (.cells #[.pointer (some ⟨b, 0, none⟩)] 79)
  have B0 := Lib.hid hbn
  have X0 := Lib.hid (Blk.made w 79 #[.pointer (some ⟨b, 0, none⟩)])
  have HB := Lib.hid hb
  have HIN := Lib.hid hin
  have HF := Lib.hid hf
  have HW := Lib.hid hw
  obtain ⟨R, hR⟩ : ∃ R, G.E = R := ⟨_, rfl⟩
  rw [hR]
  have HR := Lib.hid hR
  have f1 := hf.i
  have f2 := hf.f
  have f3 := hf.a
  have f4 := hf.o
  clear hin hb hf hw hR
  have k0 := X0.out.cell 0
  have c0 := (Blk.keep HB.out hbn).cell 0
  have c1 := (Blk.keep HB.out hbn).cell 1
  have c2 := (Blk.keep HB.out hbn).cell 2
  have c3 := (Blk.keep HB.out hbn).cell 3
  clear hbn
  by_cases hi : G.I < 0
  · have hn : R = 1 := by rw [← HR.out]; exact if_neg fun h => by have := h.1; omega
    have HN := Lib.hid hn
    clear hn
    go_enter Tryd.func62, Tryd.ntmps62
    go_wp2_with fail
    go_ret
    exact ⟨by rw [HN.out]; rfl, B0.out⟩
  have hi0 : 0 ≤ G.I := by omega
  have hcl : G.cnt ≤ 65536 := by unfold AG.cnt; omega
  have HC := fun (W : World) (hB : Below w.heap.size w W) => count_any G e b W (Blk.keep HB.out hB) hi0 HF.out
  have HC := Lib.hid HC
  obtain ⟨ct, hct⟩ : ∃ c, G.cnt = c := ⟨_, rfl⟩
  have hcl2 : ct ≤ 65536 := by omega
  have HCT := Lib.hid hct
  rw [hct] at HC
  clear hct hcl
  go_enter Tryd.func62, Tryd.ntmps62
  go_wp2_with fail
  refine (HC.out _ B0.out).mono ?_
  rintro e1 w1 ⟨rfl, hb1⟩
  have B1 := Lib.hid (below_then B0.out hb1)
  have X1 := Lib.hid (X0.out.keep hb1)
  clear hb1 k0 c0 c1 c2 c3
  have k0 := X1.out.cell 0
  have c0 := (Blk.keep HB.out B1.out).cell 0
  have c1 := (Blk.keep HB.out B1.out).cell 1
  have c2 := (Blk.keep HB.out B1.out).cell 2
  have c3 := (Blk.keep HB.out B1.out).cell 3
  have hnx := contains_next G e b w.heap.size w1 (HIN.out.later B1.out) (Blk.keep HB.out B1.out) ⟨X1.out.cell 0, X1.out.lt⟩ hi0 HF.out HW.out
  have HNX := Lib.hid hnx
  clear hnx
  go_wp2_with fail
  refine HNX.out.mono ?_
  rintro e2 w2 ⟨rfl, hb2⟩
  have B2 := Lib.hid (below_then B1.out hb2)
  have X2 := Lib.hid (X1.out.keep hb2)
  clear hb2 k0 c0 c1 c2 c3
  cases h1 : G.fl.any (badF G.cnt) with
  | true =>
    have hn : R = 1 := by rw [← HR.out]; exact if_neg fun h => by rw [(ok_any h).1] at h1; cases h1
    have HN := Lib.hid hn
    clear hn h1
    go_wp2_with fail
    go_ret
    exact ⟨by rw [HN.out]; rfl, B2.out⟩
  | false =>
    have H1 := Lib.hid h1
    clear h1
    have k0 := X2.out.cell 0
    have c0 := (Blk.keep HB.out B2.out).cell 0
    have c1 := (Blk.keep HB.out B2.out).cell 1
    have c2 := (Blk.keep HB.out B2.out).cell 2
    have c3 := (Blk.keep HB.out B2.out).cell 3
    have hox := contains_out G e b w.heap.size w2 (HIN.out.later B2.out) (Blk.keep HB.out B2.out) ⟨X2.out.cell 0, X2.out.lt⟩ hi0 HF.out HW.out
    have HOX := Lib.hid hox
    clear hox
    go_wp2_with fail
    refine HOX.out.mono ?_
    rintro e3 w3 ⟨rfl, hb3⟩
    have B3 := Lib.hid (below_then B2.out hb3)
    have X3 := Lib.hid (X2.out.keep hb3)
    clear hb3 k0 c0 c1 c2 c3
    cases h2 : G.ou.any (badO G.cnt) with
    | true =>
      have hn : R = 1 := by rw [← HR.out]; exact if_neg fun h => by rw [(ok_any h).2] at h2; cases h2
      have HN := Lib.hid hn
      clear hn h2
      go_wp2_with fail
      go_ret
      exact ⟨by rw [HN.out]; rfl, B3.out⟩
    | false =>
      have H2 := Lib.hid h2
      clear h2
      have k0 := X3.out.cell 0
      have c2 := (Blk.keep HB.out B3.out).cell 2
      obtain ⟨AA, hAA⟩ : ∃ A, G.AA = A := ⟨_, rfl⟩
      have HAA := Lib.hid hAA
      rw [hAA] at c2
      clear hAA
      obtain ⟨w3', hw3⟩ : ∃ x, x = w3 := ⟨_, rfl⟩
      have C3 := Lib.hid (Below.refl w3.heap.size w3)
      clear hw3
      go_wp2_with fail
      go_loopw [54] (fun i wx => ∃ k : Nat, k ≤ G.an.length ∧ i = .int .i64 (k : Int) ∧ Below w3.heap.size w3 wx ∧ ∀ j (hj : j < G.an.length), j < k → gateB G.first j G.an[j] = false) (fun i _ => G.an.length - (intOf i).toNat)
      case atStart => exact ⟨0, by omega, rfl, C3.out, fun j _ hj => absurd hj (by omega)⟩
      case round =>
        obtain ⟨k, hk, rfl, hB, hg⟩ := hrel
        have B4 := Lib.hid (below_then B3.out hB)
        have C4 := Lib.hid hB
        have X4 := Lib.hid (X3.out.keep hB)
        have HG := Lib.hid hg
        clear hB hg k0 c2
        by_cases hlt : k < G.an.length
        case neg =>
          obtain rfl : k = G.an.length := by omega
          have hn : R = 0 := by rw [← HR.out]; exact if_pos (any_ok hi0 H1.out H2.out fun j hj => HG.out j hj hj)
          have HN := Lib.hid hn
          clear hn
          go_wp2_with fail
          go_ret
          exact ⟨by rw [HN.out]; rfl, B4.out⟩
        obtain ⟨g1, g2⟩ := pc_get G.an k hlt
        obtain ⟨a, hA, hab, d0, d1⟩ := (HIN.out.an.later B4.out).two g1 g2
        rw [HAA.out] at hA
        subst hA
        have hbad : gateB G.first k G.an[k] = true → R = 1 := fun hx => by
          rw [← HR.out]; exact if_neg fun h => by rw [h.2.2.2 k hlt] at hx; cases hx
        have hnext : gateB G.first k G.an[k] = false → ∀ j (hj : j < G.an.length), j < k + 1 → gateB G.first j G.an[j] = false := fun hx j hj hjk => by
          by_cases he : j = k
          · subst he; exact hx
          · exact HG.out j hj (by omega)
        have hwx := HW.out.an _ (List.getElem_mem hlt)
        have HBAD := Lib.hid hbad
        have HNXT := Lib.hid hnext
        clear hbad hnext g1 g2
        generalize G.an[k] = p at d0 d1 hwx HBAD HNXT
        obtain ⟨x, y⟩ := p
        simp only at d0 d1 hwx
        have hbn := below_new wr (.cells #[.int .i64 x, .int .i64 y] 50)
        have B5 := Lib.hid (below_then B4.out hbn)
        have C5 := Lib.hid (below_then C4.out hbn)
        have X5 := Lib.hid (X4.out.keep hbn)
        have M5 := Lib.hid (Blk.made wr 50 #[.int .i64 x, .int .i64 y])
        have k0 := X5.out.cell 0
        have hfi := fun (W : World) (hB : Below w.heap.size w W) => first_any G e b W (Blk.keep HB.out hB) hi0 HF.out
        have hF0 : 0 ≤ G.first := by unfold AG.first; omega
        have hF1 : G.first ≤ 10000 := by unfold AG.first; omega
        obtain ⟨F, hF⟩ : ∃ F, G.first = F := ⟨_, rfl⟩
        rw [hF] at hfi hF0 hF1 HBAD HNXT
        have HFI := Lib.hid hfi
        have HFQ := Lib.hid hF
        clear hfi hbn hF
        have hw2 : IntKind.i64.wrap (2 * (F + (k : Int))) = 2 * (F + (k : Int)) := IntWalk.i64_in _ (by omega)
        have hw1 : IntKind.i64.wrap (F + (k : Int)) = F + (k : Int) := IntWalk.i64_in _ (by omega)
        rcases Int.lt_trichotomy x y with hxy | hxy | hxy
        · have hyx : (y < x) = False := eq_false (by omega)
          have hyx2 : (if y < x then y else x) = x := if_neg (by omega)
          have hmn : min x y = x := by omega
          have hmx : max x y = y := by omega
          have HMN := Lib.hid hmn
          have HMX := Lib.hid hmx
          clear hmn hmx
          by_cases hm : x < 0
          · have hd : decide (x < 0) = true := decide_eq_true hm
            have hn : R = 1 := HBAD.out (by unfold gateB; simp only; rw [HMN.out, hd]; rfl)
            have HN := Lib.hid hn
            clear hn
            go_wp2_with fail
            go_quiet (fail)
            go_wp2_with fail
            go_ret
            exact ⟨by rw [HN.out]; rfl, below_drewN B5.out _⟩
          have hd : decide (x < 0) = false := decide_eq_false hm
          have HD := Lib.hid hd
          go_wp2_with fail
          go_region_held3 (fun w' => w'.cell? ⟨wr.heap.size, 0, none⟩ = some (.int .i64 x) ∧ w'.cell? ⟨wr.heap.size, 1, none⟩ = some (.int .i64 y) ∧ w'.cell? ⟨w.heap.size, 0, none⟩ = some (.pointer (some ⟨b, 0, none⟩))) (go_keep) ((first | (go_at_call 47; (with_reducible refine (HFI.out _ ?_).mono ?_); (· exact below_drewN B5.out 1); rintro e9 w9 ⟨rfl, hb9⟩; have hb9 := below_of_drew hb9; have B9 := Lib.hid (below_then B5.out hb9); have C9 := Lib.hid (below_then C5.out hb9); have M9 := M5.out.keep hb9; have j0 := M9.cell 0; have j1 := M9.cell 1; have j2 := (X5.out.keep hb9).cell 0; clear hb9 M9)))
          all_goals
            clear k0
            by_cases hq : 2 * (F + (k : Int)) ≤ y
            · have hqd : decide (2 * (F + (k : Int)) ≤ y) = true := decide_eq_true hq
              have hn : R = 1 := HBAD.out (by unfold gateB; simp only; rw [HMX.out, hqd, Bool.or_true])
              have HN := Lib.hid hn
              clear hn j0 j1 j2
              go_wp2_with fail
              go_ret
              exact ⟨by rw [HN.out]; rfl, B9.out⟩
            · have hqd : decide (2 * (F + (k : Int)) ≤ y) = false := decide_eq_false hq
              have hn := HNXT.out (by unfold gateB; simp only; rw [HMN.out, HD.out, HMX.out, hqd]; rfl)
              have HN := Lib.hid hn
              clear hn j0 j1 j2
              go_wp2_with fail
              go_roundw
              case rel => exact ⟨k + 1, by omega, by go_num, C9.out, by rw [HFQ.out]; exact HN.out⟩
              case measure => simp [intOf]; omega
        · subst hxy
          have hyx : ¬ x < x := by omega
          have hmn : min x x = x := by omega
          have hmx : max x x = x := by omega
          have HMN := Lib.hid hmn
          have HMX := Lib.hid hmx
          clear hmn hmx
          by_cases hm : x < 0
          · have hd : decide (x < 0) = true := decide_eq_true hm
            have hn : R = 1 := HBAD.out (by unfold gateB; simp only; rw [HMN.out, hd]; rfl)
            have HN := Lib.hid hn
            clear hn
            go_wp2_with fail
            go_quiet (fail)
            go_wp2_with fail
            go_ret
            exact ⟨by rw [HN.out]; rfl, below_drewN B5.out _⟩
          have hd : decide (x < 0) = false := decide_eq_false hm
          have HD := Lib.hid hd
          go_wp2_with fail
          go_region_held3 (fun w' => w'.cell? ⟨wr.heap.size, 0, none⟩ = some (.int .i64 x) ∧ w'.cell? ⟨wr.heap.size, 1, none⟩ = some (.int .i64 x) ∧ w'.cell? ⟨w.heap.size, 0, none⟩ = some (.pointer (some ⟨b, 0, none⟩))) (go_keep) ((first | (go_at_call 47; (with_reducible refine (HFI.out _ ?_).mono ?_); (· exact below_drewN B5.out 1); rintro e9 w9 ⟨rfl, hb9⟩; have hb9 := below_of_drew hb9; have B9 := Lib.hid (below_then B5.out hb9); have C9 := Lib.hid (below_then C5.out hb9); have M9 := M5.out.keep hb9; have j0 := M9.cell 0; have j1 := M9.cell 1; have j2 := (X5.out.keep hb9).cell 0; clear hb9 M9)))
          all_goals
            clear k0
            by_cases hq : 2 * (F + (k : Int)) ≤ x
            · have hqd : decide (2 * (F + (k : Int)) ≤ x) = true := decide_eq_true hq
              have hn : R = 1 := HBAD.out (by unfold gateB; simp only; rw [HMX.out, hqd, Bool.or_true])
              have HN := Lib.hid hn
              clear hn j0 j1 j2
              go_wp2_with fail
              go_ret
              exact ⟨by rw [HN.out]; rfl, B9.out⟩
            · have hqd : decide (2 * (F + (k : Int)) ≤ x) = false := decide_eq_false hq
              have hn := HNXT.out (by unfold gateB; simp only; rw [HMN.out, HD.out, HMX.out, hqd]; rfl)
              have HN := Lib.hid hn
              clear hn j0 j1 j2
              go_wp2_with fail
              go_roundw
              case rel => exact ⟨k + 1, by omega, by go_num, C9.out, by rw [HFQ.out]; exact HN.out⟩
              case measure => simp [intOf]; omega
        · have hyx : ¬ x < y := by omega
          have hmn : min x y = y := by omega
          have hmx : max x y = x := by omega
          have HMN := Lib.hid hmn
          have HMX := Lib.hid hmx
          clear hmn hmx
          by_cases hm : y < 0
          · have hd : decide (y < 0) = true := decide_eq_true hm
            have hn : R = 1 := HBAD.out (by unfold gateB; simp only; rw [HMN.out, hd]; rfl)
            have HN := Lib.hid hn
            clear hn
            go_wp2_with fail
            go_quiet (fail)
            go_wp2_with fail
            go_ret
            exact ⟨by rw [HN.out]; rfl, below_drewN B5.out _⟩
          have hd : decide (y < 0) = false := decide_eq_false hm
          have HD := Lib.hid hd
          go_wp2_with fail
          go_region_held3 (fun w' => w'.cell? ⟨wr.heap.size, 0, none⟩ = some (.int .i64 x) ∧ w'.cell? ⟨wr.heap.size, 1, none⟩ = some (.int .i64 y) ∧ w'.cell? ⟨w.heap.size, 0, none⟩ = some (.pointer (some ⟨b, 0, none⟩))) (go_keep) ((first | (go_at_call 47; (with_reducible refine (HFI.out _ ?_).mono ?_); (· exact below_drewN B5.out 1); rintro e9 w9 ⟨rfl, hb9⟩; have hb9 := below_of_drew hb9; have B9 := Lib.hid (below_then B5.out hb9); have C9 := Lib.hid (below_then C5.out hb9); have M9 := M5.out.keep hb9; have j0 := M9.cell 0; have j1 := M9.cell 1; have j2 := (X5.out.keep hb9).cell 0; clear hb9 M9)))
          all_goals
            clear k0
            by_cases hq : 2 * (F + (k : Int)) ≤ x
            · have hqd : decide (2 * (F + (k : Int)) ≤ x) = true := decide_eq_true hq
              have hn : R = 1 := HBAD.out (by unfold gateB; simp only; rw [HMX.out, hqd, Bool.or_true])
              have HN := Lib.hid hn
              clear hn j0 j1 j2
              go_wp2_with fail
              go_ret
              exact ⟨by rw [HN.out]; rfl, B9.out⟩
            · have hqd : decide (2 * (F + (k : Int)) ≤ x) = false := decide_eq_false hq
              have hn := HNXT.out (by unfold gateB; simp only; rw [HMN.out, HD.out, HMX.out, hqd]; rfl)
              have HN := Lib.hid hn
              clear hn j0 j1 j2
              go_wp2_with fail
              go_roundw
              case rel => exact ⟨k + 1, by omega, by go_num, C9.out, by rw [HFQ.out]; exact HN.out⟩
              case measure => simp [intOf]; omega
end Go.Proofs.YtkhlllbceceikaaDoor
