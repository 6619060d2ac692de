/- Walks of filigree/aig.begin (no literals), Check; filigreeref18.Count, Lit, Ints. -/
import Derived.Test.YtkhlllbceceikaaDoorAigC
namespace Go.Proofs.YtkhlllbceceikaaDoor
open Go.RowKit
set_option linter.unusedVariables false
set_option linter.unusedSimpArgs false

set_option maxRecDepth 100000 in
set_option maxHeartbeats 2000000 in
theorem begin_any (G : AG) (w : World) (hin : G.In w) (hf : G.fit) (hw : G.wf) :
    Calls Tryd.prog 46 #[.agg #[.int .i64 G.I, .slice G.AF G.fl.length G.cF, .slice G.AA G.an.length G.cA, .slice G.AO G.ou.length G.cO], .slice none 0 0] w fun r w' => ∃ b : Nat, r = .returned (.pointer (some ⟨b, 0, none⟩)) ∧ Below w.heap.size w w' ∧ AWK G G.E w' b := by
  have b1 := below_new w (.cells #[.int .i64 G.I, .slice G.AF G.fl.length G.cF, .slice G.AA G.an.length G.cA, .slice G.AO G.ou.length G.cO] 26)
  have b2 := below_then b1 (below_new _ (.cells #[.int .i64 G.I, .slice G.AF G.fl.length G.cF, .slice G.AA G.an.length G.cA, .slice G.AO G.ou.length G.cO, .int .i64 0] 78))
  have X2 := Blk.made (w.alloc (.cells #[.int .i64 G.I, .slice G.AF G.fl.length G.cF, .slice G.AA G.an.length G.cA, .slice G.AO G.ou.length G.cO] 26)) 78 #[.int .i64 G.I, .slice G.AF G.fl.length G.cF, .slice G.AA G.an.length G.cA, .slice G.AO G.ou.length G.cO, .int .i64 0]
  rw [World.size_alloc] at X2
  have HC := Lib.hid (wcheck_any G 0 (w.heap.size + 1) _ (hin.later b2) X2 hf hw)
  have B2 := Lib.hid b2
  have X2 := Lib.hid X2
  obtain ⟨E, hE⟩ : ∃ E, G.E = E := ⟨_, rfl⟩
  rw [hE] at HC ⊢
  clear hin hf hw b1 b2 hE
  go_enter Tryd.func46, Tryd.ntmps46
  go_wp2_with fail
  refine HC.out.mono ?_
  rintro e w1 ⟨rfl, hb1⟩
  have B3 := Lib.hid (below_then B2.out hb1)
  have X3 := Lib.hid (X2.out.keep hb1)
  have c4 := X3.out.cell 4
  have f4 := X3.out.free 4
  have B4 := Lib.hid (B3.out.setCell (p := ⟨w.heap.size + 1, 4, none⟩) (by show w.heap.size ≤ w.heap.size + 1; omega) (.int .i64 E))
  have X4 := Lib.hid (X3.out.put 4 (.int .i64 E))
  clear hb1
  go_wp2_with fail
  go_loop [18] (fun i => i = .int .i64 0) (fun _ => 0)
  case atStart => rfl
  case round =>
    subst hrel
    go_wp2_with fail
    go_ret
    exact ⟨w.heap.size + 1, rfl, B4.out, X4.out⟩
set_option maxRecDepth 100000 in
set_option maxHeartbeats 1000000 in
theorem acheck_any (G : AG) (w : World) (hin : G.In w) (hf : G.fit) (hw : G.wf) :
    Calls Tryd.prog 26 #[.agg #[.int .i64 G.I, .slice G.AF G.fl.length G.cF, .slice G.AA G.an.length G.cA, .slice G.AO G.ou.length G.cO]] w fun r w' => r = .returned (.int .i64 G.E) ∧ Below w.heap.size w w' := by
  have b1 := below_new w (.cells #[.int .i64 G.I, .slice G.AF G.fl.length G.cF, .slice G.AA G.an.length G.cA, .slice G.AO G.ou.length G.cO] 26)
  have HC := Lib.hid (begin_any G _ (hin.later b1) hf hw)
  have B1 := Lib.hid b1
  obtain ⟨E, hE⟩ : ∃ E, G.E = E := ⟨_, rfl⟩
  rw [hE] at HC ⊢
  clear hin hf hw b1 hE
  go_enter Tryd.func26, Tryd.ntmps26
  go_wp2_with fail
  refine HC.out.mono ?_
  rintro e w1 ⟨b, rfl, hb1, hx⟩
  have B2 := Lib.hid (below_then B1.out hb1)
  have c4 := hx.cell 4
  clear hb1 hx
  go_wp2_with fail
  go_ret
  exact ⟨rfl, B2.out⟩
/-! ## The document's -/
def litN (n a : Int) : Bool := decide (0 ≤ a) && decide (a < 2 * n)
set_option maxRecDepth 100000 in
theorem rlit_any (n a : Int) (w : World) (hn : 0 ≤ n ∧ n ≤ 1000000) :
    Calls Tryd.prog 53 #[.int .i64 n, .int .i64 a] w fun r w' => r = .returned (.bool (litN n a)) ∧ w = w' := by
  obtain ⟨r, hr⟩ : ∃ r, litN n a = r := ⟨_, rfl⟩
  have HR := Lib.hid hr
  rw [hr]
  clear hr
  obtain ⟨h1, h2⟩ := hn
  by_cases h0 : 0 ≤ a
  · have hd : decide (0 ≤ a) = true := decide_eq_true h0
    have HD := Lib.hid hd
    go_enter Tryd.func53, Tryd.ntmps53
    go_wp2_with fail
    go_ret
    exact ⟨by rw [← HR.out]; unfold litN; rw [HD.out]; rfl, rfl⟩
  · have hd : decide (0 ≤ a) = false := decide_eq_false h0
    have HD := Lib.hid hd
    clear hd
    go_enter Tryd.func53, Tryd.ntmps53
    go_wp2_with fail
    go_ret
    exact ⟨by rw [← HR.out]; unfold litN; rw [HD.out]; rfl, rfl⟩
set_option maxRecDepth 100000 in
theorem rcount_any (G : AG) (w : World) (hi : 0 ≤ G.I) (hf : G.fit) :
    Calls Tryd.prog 27 #[.agg #[.int .i64 G.I, .slice G.AF G.fl.length G.cF, .slice G.AA G.an.length G.cA, .slice G.AO G.ou.length G.cO]] w fun r w' => r = .returned (.int .i64 (1 + G.cnt)) ∧ Below w.heap.size w w' := by
  have B1 := Lib.hid (below_new w (.cells #[.int .i64 G.I, .slice G.AF G.fl.length G.cF, .slice G.AA G.an.length G.cA, .slice G.AO G.ou.length G.cO] 26))
  have h1 := hf.i
  have h2 := hf.f
  have h3 := hf.a
  obtain ⟨c, hc⟩ : ∃ c, 1 + G.cnt = c := ⟨_, rfl⟩
  have HC := Lib.hid hc
  rw [hc]
  clear hf hc
  go_enter Tryd.func27, Tryd.ntmps27
  go_wp2_with fail
  go_ret
  exact ⟨by rw [← HC.out, show 1 + G.cnt = 1 + G.I + (G.fl.length : Int) + (G.an.length : Int) by unfold AG.cnt; omega]; rfl, B1.out⟩
set_option maxRecDepth 100000 in
set_option maxHeartbeats 1000000 in
theorem rints_any (w : World) (A B : Option Addr) (c d : Nat) (l m : List Int) (ha : Rd w 1 A l.length c (ints l)) (hb : Rd w 1 B m.length d (ints m)) (hn : l.length ≤ 100000000) :
    Calls Tryd.prog 19 #[.slice A l.length c, .slice B m.length d] w fun r w' => r = .returned (.bool (decide (l = m))) ∧ Below w.heap.size w w' := by
  have HA := Lib.hid ha
  have HB := Lib.hid hb
  obtain ⟨r, hr⟩ : ∃ r, decide (l = m) = r := ⟨_, rfl⟩
  have HR := Lib.hid hr
  rw [hr]
  clear ha hb hr
  obtain ⟨n, hnn⟩ : ∃ n, l.length = n := ⟨_, rfl⟩
  obtain ⟨k', hkk⟩ : ∃ n, m.length = n := ⟨_, rfl⟩
  have HL := Lib.hid hnn
  have HM := Lib.hid hkk
  rw [hnn] at hn
  rw [hnn, hkk]
  rw [hnn] at HA
  rw [hkk] at HB
  by_cases he : n = k'
  case neg =>
    have hne : ((n : Int) != (k' : Int)) = true := by rw [bne_iff_ne]; omega
    have hr : r = false := by rw [← HR.out]; exact decide_eq_false fun h => he (by rw [← hnn, ← hkk, h])
    have HF := Lib.hid hr
    clear hr hnn hkk he
    go_enter Tryd.func19, Tryd.ntmps19
    go_wp2_with fail
    go_ret
    exact ⟨by rw [HF.out]; rfl, Below.refl _ _⟩
  subst he
  clear hnn hkk
  have hne : ((n : Int) != (n : Int)) = false := by simp
  go_enter Tryd.func19, Tryd.ntmps19
  go_wp2_with fail
  go_loopw [5] (fun i wx => ∃ k : Nat, k ≤ n ∧ i = .int .i64 (k : Int) ∧ l.take k = m.take k ∧ Below w.heap.size w wx) (fun i _ => n - (intOf i).toNat)
  case atStart => exact ⟨0, by omega, rfl, rfl, Below.refl _ _⟩
  case round =>
    obtain ⟨k, hk, rfl, ht, hB⟩ := hrel
    have HT := Lib.hid ht
    have B1 := Lib.hid hB
    clear ht hB
    by_cases hlt : k < n
    case neg =>
      obtain rfl : k = n := by omega
      have hr : r = true := by
        rw [← HR.out]
        have h := HT.out
        rw [List.take_of_length_le (by rw [HL.out]; exact Nat.le_refl _), List.take_of_length_le (by rw [HM.out]; exact Nat.le_refl _)] at h
        exact decide_eq_true h
      have HF := Lib.hid hr
      clear hr
      go_wp2_with fail
      go_ret
      exact ⟨by rw [HF.out]; rfl, B1.out⟩
    obtain ⟨a, rfl, -, c0⟩ := (HA.out.later B1.out).int hlt
    obtain ⟨b, rfl, -, c1⟩ := (HB.out.later B1.out).int hlt
    have t1 := take_one (show k < l.length by rw [HL.out]; exact hlt) 0
    have t2 := take_one (show k < m.length by rw [HM.out]; exact hlt) 0
    have hne : l.getD k 0 ≠ m.getD k 0 → r = false := fun h => by
      rw [← HR.out]; exact decide_eq_false fun e => h (by rw [e])
    have T1 := Lib.hid t1
    have T2 := Lib.hid t2
    have HNE := Lib.hid hne
    clear t1 t2 hne
    generalize l.getD k 0 = x at c0 T1 HNE
    generalize m.getD k 0 = y at c1 T2 HNE
    by_cases hxy : x = y
    · subst hxy
      have hx : (x != x) = false := by simp
      go_wp2_with fail
      go_quiet (fail)
      go_wp2_with fail
      go_roundw
      case rel => exact ⟨k + 1, by omega, by go_num, by rw [T1.out, T2.out, HT.out], below_drewN B1.out _⟩
      case measure => simp [intOf]; omega
    · have hx : (x != y) = true := by rw [bne_iff_ne]; exact hxy
      have hr := HNE.out hxy
      have HF := Lib.hid hr
      clear hr hxy
      go_wp2_with fail
      go_quiet (fail)
      go_wp2_with fail
      go_ret
      exact ⟨by rw [HF.out]; rfl, below_drewN B1.out _⟩
end Go.Proofs.YtkhlllbceceikaaDoor
