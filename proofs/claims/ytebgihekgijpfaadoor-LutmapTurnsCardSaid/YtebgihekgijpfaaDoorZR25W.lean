/- filigreeref25.Few. -/
import Derived.Test.YtebgihekgijpfaaDoorZLRun
namespace Go.Proofs.YtebgihekgijpfaaDoor
open Go.RowKit Go.Shelf
set_option linter.unusedVariables false
set_option linter.unusedSimpArgs false
def fewN (N : NT) : Prop := ¬ (300 < N.I ∧ N.I ≤ 65536) ∧ N.hs.length ≤ 300 ∧ N.ls.length ≤ 300 ∧ N.ou.length ≤ 300 ∧ ∀ c ∈ N.ls, c.1.2.2.length ≤ 60
theorem fewN_fit {N : NT} (h : fewN N) : N.fit := ⟨by have := h.2.1; omega, by have := h.2.2.1; omega, by have := h.2.2.2.1; omega, fun c hc => by have := h.2.2.2.2 c hc; omega, by have := h.1; omega⟩
set_option maxRecDepth 100000 in
set_option maxHeartbeats 2000000 in
theorem few25_any (N : NT) (w : World) (hin : N.In w) :
    Calls Tryd.prog 13 #[.agg #[.int .i64 N.I, .slice N.AH N.hs.length N.cH, .slice N.AL N.ls.length N.cL, .slice N.AO N.ou.length N.cO]] w fun e w' => ∃ b : Bool, e = .returned (.bool b) ∧ (b = true → fewN N) ∧ Below w.heap.size w w' := by
  have Q0 := Lib.hid (below_new w (.cells #[.int .i64 N.I, .slice N.AH N.hs.length N.cH, .slice N.AL N.ls.length N.cL, .slice N.AO N.ou.length N.cO] 32))
  have X0 := Lib.hid (Blk.made w 32 #[.int .i64 N.I, .slice N.AH N.hs.length N.cH, .slice N.AL N.ls.length N.cL, .slice N.AO N.ou.length N.cO])
  have HIN := Lib.hid hin
  clear hin
  have k0 := X0.out.cell 0
  have k1 := X0.out.cell 1
  have k2 := X0.out.cell 2
  have k3 := X0.out.cell 3
  by_cases hd : ¬ (300 < N.I ∧ N.I ≤ 65536) ∧ N.hs.length ≤ 300 ∧ N.ls.length ≤ 300 ∧ N.ou.length ≤ 300
  case neg =>
    go_enter Tryd.func13, Tryd.ntmps13
    go_wp2_with fail
    all_goals first
      | (exfalso; omega)
      | (go_ret; first | exact .inl ⟨rfl, Q0.out⟩ | exact ⟨false, rfl, (fun h => (nomatch h)), Q0.out⟩)
  have HD := Lib.hid hd
  obtain ⟨h1, h2, h3, h4⟩ := hd
  clear h1
  have h1 : ¬ 300 < N.I ∨ ¬ N.I ≤ 65536 := by have := HD.out.1; omega
  have f2 : ¬ (300 : Int) < (N.hs.length : Int) := by omega
  have f3 : ¬ (300 : Int) < (N.ls.length : Int) := by omega
  have f4 : ¬ (300 : Int) < (N.ou.length : Int) := by omega
  by_cases g1 : 300 < N.I
  case pos =>
    have g2 : ¬ N.I ≤ 65536 := by omega
    clear h1
    go_enter Tryd.func13, Tryd.ntmps13
    go_wp2_with fail
    obtain ⟨w1, hw1⟩ : ∃ x, x = (w.alloc (.cells #[.int .i64 N.I, .slice N.AH N.hs.length N.cH, .slice N.AL N.ls.length N.cL, .slice N.AO N.ou.length N.cO] 32)) := ⟨_, rfl⟩
    rw [← hw1] at Q0 X0 ⊢
    clear hw1 k0 k1 k2 k3
    have k2 := X0.out.cell 2
    go_loopw [3] (fun v3 wx => ∃ i : Nat, i ≤ N.ls.length ∧ v3 = .int .i64 (i : Int) ∧ (∀ j (h : j < N.ls.length), j < i → N.ls[j].1.2.2.length ≤ 60) ∧ wx = w1) (fun v3 _ => N.ls.length - (intOf v3).toNat)
    case atStart => exact ⟨0, by omega, rfl, fun j _ hj => absurd hj (Nat.not_lt_zero _), rfl⟩
    case round =>
      obtain ⟨i, hi, rfl, hg, rfl⟩ := hrel
      have HG := Lib.hid hg
      clear hg
      by_cases hin : i < N.ls.length
      case neg =>
        have hlt : ¬ (i : Int) < (N.ls.length : Int) := by omega
        go_wp2_with fail
        go_ret
        refine .inr ⟨rfl, ?_, Q0.out⟩
        refine ⟨HD.out.1, HD.out.2.1, HD.out.2.2.1, HD.out.2.2.2, fun c hc => ?_⟩
        obtain ⟨j, hj, rfl⟩ := List.mem_iff_getElem.1 hc
        exact HG.out j hj (by omega)
      have hin' : (i : Int) < (N.ls.length : Int) := by omega
      obtain ⟨pa, hPA, hpb, e0, -, -⟩ := HIN.out.ls.at_ hin
      rw [hPA] at k2
      clear hPA
      have HY := Lib.hid (show N.ls[i].1.2.2.length ≤ 60 → ∀ j (h : j < N.ls.length), j < i + 1 → N.ls[j].1.2.2.length ≤ 60 from fun hy j h hj => by
        rcases Nat.lt_succ_iff_lt_or_eq.1 hj with h1 | rfl
        · exact HG.out j h h1
        · exact hy)
      generalize N.ls[i] = ci at e0 HY
      obtain ⟨⟨l1, l2, l3⟩, t⟩ := ci
      simp only [slv] at e0 HY
      obtain ⟨ga, hga⟩ : ∃ p, pa.add (i * 2) = p := ⟨_, rfl⟩
      have hgab : ga.block < w.heap.size := by rw [← hga, add_block]; exact hpb
      rw [hga] at e0
      have e2 := (Q0.out.cell hgab).trans e0
      clear e0
      by_cases h6 : l3.length ≤ 60
      case neg =>
        have hd6 : (60 : Int) < (l3.length : Int) := by omega
        clear h6
        go_wp2_with fail
        go_ret
        first | exact .inl ⟨rfl, Q0.out⟩ | exact ⟨false, rfl, (fun h => (nomatch h)), Q0.out⟩
      have HN := Lib.hid (HY.out h6)
      have hd6 : ¬ (60 : Int) < (l3.length : Int) := by omega
      clear h6
      go_wp2_with fail
      go_roundw
      case rel => exact ⟨i + 1, by omega, by go_num, HN.out, trivial⟩
      case measure => simp [intOf]; omega
  case neg =>
    clear h1
    go_enter Tryd.func13, Tryd.ntmps13
    go_wp2_with fail
    obtain ⟨w1, hw1⟩ : ∃ x, x = (w.alloc (.cells #[.int .i64 N.I, .slice N.AH N.hs.length N.cH, .slice N.AL N.ls.length N.cL, .slice N.AO N.ou.length N.cO] 32)) := ⟨_, rfl⟩
    rw [← hw1] at Q0 X0 ⊢
    clear hw1 k0 k1 k2 k3
    have k2 := X0.out.cell 2
    go_loopw [3] (fun v3 wx => ∃ i : Nat, i ≤ N.ls.length ∧ v3 = .int .i64 (i : Int) ∧ (∀ j (h : j < N.ls.length), j < i → N.ls[j].1.2.2.length ≤ 60) ∧ wx = w1) (fun v3 _ => N.ls.length - (intOf v3).toNat)
    case atStart => exact ⟨0, by omega, rfl, fun j _ hj => absurd hj (Nat.not_lt_zero _), rfl⟩
    case round =>
      obtain ⟨i, hi, rfl, hg, rfl⟩ := hrel
      have HG := Lib.hid hg
      clear hg
      by_cases hin : i < N.ls.length
      case neg =>
        have hlt : ¬ (i : Int) < (N.ls.length : Int) := by omega
        go_wp2_with fail
        go_ret
        refine .inr ⟨rfl, ?_, Q0.out⟩
        refine ⟨HD.out.1, HD.out.2.1, HD.out.2.2.1, HD.out.2.2.2, fun c hc => ?_⟩
        obtain ⟨j, hj, rfl⟩ := List.mem_iff_getElem.1 hc
        exact HG.out j hj (by omega)
      have hin' : (i : Int) < (N.ls.length : Int) := by omega
      obtain ⟨pa, hPA, hpb, e0, -, -⟩ := HIN.out.ls.at_ hin
      rw [hPA] at k2
      clear hPA
      have HY := Lib.hid (show N.ls[i].1.2.2.length ≤ 60 → ∀ j (h : j < N.ls.length), j < i + 1 → N.ls[j].1.2.2.length ≤ 60 from fun hy j h hj => by
        rcases Nat.lt_succ_iff_lt_or_eq.1 hj with h1 | rfl
        · exact HG.out j h h1
        · exact hy)
      generalize N.ls[i] = ci at e0 HY
      obtain ⟨⟨l1, l2, l3⟩, t⟩ := ci
      simp only [slv] at e0 HY
      obtain ⟨ga, hga⟩ : ∃ p, pa.add (i * 2) = p := ⟨_, rfl⟩
      have hgab : ga.block < w.heap.size := by rw [← hga, add_block]; exact hpb
      rw [hga] at e0
      have e2 := (Q0.out.cell hgab).trans e0
      clear e0
      by_cases h6 : l3.length ≤ 60
      case neg =>
        have hd6 : (60 : Int) < (l3.length : Int) := by omega
        clear h6
        go_wp2_with fail
        go_ret
        first | exact .inl ⟨rfl, Q0.out⟩ | exact ⟨false, rfl, (fun h => (nomatch h)), Q0.out⟩
      have HN := Lib.hid (HY.out h6)
      have hd6 : ¬ (60 : Int) < (l3.length : Int) := by omega
      clear h6
      go_wp2_with fail
      go_roundw
      case rel => exact ⟨i + 1, by omega, by go_num, HN.out, trivial⟩
      case measure => simp [intOf]; omega
end Go.Proofs.YtebgihekgijpfaaDoor
