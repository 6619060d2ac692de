/- The plain law of a fabric's nodes: each node is what is told of it, and what is told of anything that there is is its node. No program here. -/
import Derived.Test.YtakccepilbmmlaaFabP
namespace Go.Proofs.Ytakccepilbmmlaa
set_option linter.unusedVariables false
set_option linter.unusedSimpArgs false

theorem nodeAt_what {W H T : Int} (h : okA W H T) {k : Nat} (hk : k < 5) {x y t : Int} (hg : inG W H T k x y t) :
    isN W H T (nodeAt W H T k x y t) ∧ gk W H T (nodeAt W H T k x y t) = k ∧ wx W H T (nodeAt W H T k x y t) = x ∧ wy W H T (nodeAt W H T k x y t) = y ∧ wt W H T (nodeAt W H T k x y t) = t := by
  obtain ⟨a1, a2⟩ := nodeAt_in hg
  have hgk := gk_eq h hk a1 a2
  have hm := gat_mono h
  have b1 := gat_bd h (k := k) (by omega)
  have hlast : gat W H T (k + 1) ≤ gat W H T 5 := by
    rcases lt5 hk with rfl | rfl | rfl | rfl | rfl <;> simp only [Nat.reduceAdd] <;> omega
  have hb := g_bd h hk
  obtain ⟨⟨h1, h2⟩, ⟨h3, h4⟩, h5, h6⟩ := hg
  have hq : wq W H T (nodeAt W H T k x y t) = t + (y * gw W H k + x) * gd T k := by
    unfold wq; rw [hgk]; unfold nodeAt; omega
  have e1 : (t + (y * gw W H k + x) * gd T k) / gd T k = y * gw W H k + x := by
    rw [Int.add_mul_ediv_right _ _ (by omega), Int.ediv_eq_zero_of_lt h5 h6]; omega
  have e2 : (t + (y * gw W H k + x) * gd T k) % gd T k = t := by
    rw [Int.add_mul_emod_self_right, Int.emod_eq_of_lt h5 h6]
  have e3 : (y * gw W H k + x) / gw W H k = y := by
    rw [Int.add_comm, Int.add_mul_ediv_right _ _ (by omega), Int.ediv_eq_zero_of_lt h1 h2]; omega
  have e4 : (y * gw W H k + x) % gw W H k = x := by
    rw [Int.add_comm, Int.add_mul_emod_self_right, Int.emod_eq_of_lt h1 h2]
  refine ⟨⟨h, by omega, by unfold nodesI; omega⟩, hgk, ?_, ?_, ?_⟩
  · simp only [wx, hgk, hq, e1, e4]
  · simp only [wy, hgk, hq, e1, e3]
  · simp only [wt, hgk, hq, e2]

theorem what_nodeAt {W H T n : Int} (h : isN W H T n) :
    gk W H T n < 5 ∧ inG W H T (gk W H T n) (wx W H T n) (wy W H T n) (wt W H T n) ∧ nodeAt W H T (gk W H T n) (wx W H T n) (wy W H T n) (wt W H T n) = n := by
  obtain ⟨ho, h0, hm⟩ := h
  obtain ⟨a1, a2, hk⟩ := gk_in h0 hm
  have hb := g_bd ho hk
  have hq0 : 0 ≤ wq W H T n := by unfold wq; omega
  have hq1 : wq W H T n < gw W H (gk W H T n) * gh H (gk W H T n) * gd T (gk W H T n) := by
    have : gat W H T (gk W H T n + 1) = gat W H T (gk W H T n) + gw W H (gk W H T n) * gh H (gk W H T n) * gd T (gk W H T n) := rfl
    unfold wq; omega
  have d1 : 0 ≤ wq W H T n / gd T (gk W H T n) := Int.ediv_nonneg hq0 (by omega)
  have d2 : wq W H T n / gd T (gk W H T n) < gh H (gk W H T n) * gw W H (gk W H T n) := Int.ediv_lt_of_lt_mul (by omega) (by rw [Int.mul_comm (gh H _)]; exact hq1)
  refine ⟨hk, ⟨⟨?_, ?_⟩, ⟨?_, ?_⟩, ?_, ?_⟩, ?_⟩
  · exact Int.emod_nonneg _ (by omega)
  · exact Int.emod_lt_of_pos _ (by omega)
  · exact Int.ediv_nonneg d1 (by omega)
  · exact Int.ediv_lt_of_lt_mul (by omega) d2
  · exact Int.emod_nonneg _ (by omega)
  · exact Int.emod_lt_of_pos _ (by omega)
  · have e1 : wy W H T n * gw W H (gk W H T n) + wx W H T n = wq W H T n / gd T (gk W H T n) := by
      unfold wy wx; rw [Int.mul_comm]; exact Int.mul_ediv_add_emod _ _
    have e2 : wq W H T n / gd T (gk W H T n) * gd T (gk W H T n) + wt W H T n = wq W H T n := by
      unfold wt; rw [Int.mul_comm]; exact Int.mul_ediv_add_emod _ _
    unfold nodeAt
    rw [e1]
    have e3 : wq W H T n = n - gat W H T (gk W H T n) := rfl
    omega

/-- which node a kind at a place is, and whether there is one, as the law's own 'of' tells -/
def adjY (c : Nat) (y : Int) : Int := if c = 2 then 0 else y
def adjT (c : Nat) (t : Int) : Int := if c = 0 ∨ c = 2 then 0 else t
def ofN (W H T kd x y t : Int) : Int := if 1 ≤ kd ∧ kd ≤ 5 then nodeN W H T (kd - 1).toNat x (adjY (kd - 1).toNat y) (adjT (kd - 1).toNat t) else 0
def ofB (W H T kd x y t : Int) : Bool := if 1 ≤ kd ∧ kd ≤ 5 then nodeE W H T (kd - 1).toNat x (adjY (kd - 1).toNat y) (adjT (kd - 1).toNat t) == 0 else false

theorem wh_yes {W H T n : Int} (h : isN W H T n) : whK W H T n = (gk W H T n : Int) + 1 ∧ whX W H T n = wx W H T n ∧ whY W H T n = wy W H T n ∧ whT W H T n = wt W H T n ∧ whE W H T n = 0 := by
  simp only [whK, whX, whY, whT, whE, if_pos h, and_self]

/-- each node is what is told of it -/
theorem of_what {W H T n : Int} (h : isN W H T n) : ofN W H T (whK W H T n) (whX W H T n) (whY W H T n) (whT W H T n) = n ∧ ofB W H T (whK W H T n) (whX W H T n) (whY W H T n) (whT W H T n) = true := by
  obtain ⟨v1, v2, v3, v4, -⟩ := wh_yes h
  obtain ⟨hk, hg, hn⟩ := what_nodeAt h
  rw [v1, v2, v3, v4]
  have hkd : 1 ≤ (gk W H T n : Int) + 1 ∧ (gk W H T n : Int) + 1 ≤ 5 := by omega
  have ek : ((gk W H T n : Int) + 1 - 1).toNat = gk W H T n := by omega
  have ey : adjY (gk W H T n) (wy W H T n) = wy W H T n := by
    unfold adjY
    split
    · rename_i e
      have := hg.2.1
      rw [e] at this
      simp only [gh] at this
      omega
    · rfl
  have et : adjT (gk W H T n) (wt W H T n) = wt W H T n := by
    unfold adjT
    split
    · rename_i e
      have := hg.2.2
      rcases e with e | e <;> rw [e] at this <;> simp only [gd] at this <;> omega
    · rfl
  unfold ofN ofB
  rw [if_pos hkd, if_pos hkd, ek, ey, et]
  unfold nodeN nodeE
  rw [if_pos ⟨h.1, hg⟩, if_pos ⟨h.1, hg⟩]
  exact ⟨hn, rfl⟩

/-- what is told of anything that there is is its node -/
theorem what_of {W H T kd x y t : Int} (h : ofB W H T kd x y t = true) :
    whE W H T (ofN W H T kd x y t) = 0 ∧ whK W H T (ofN W H T kd x y t) = kd ∧ whX W H T (ofN W H T kd x y t) = x ∧ (kd = 3 ∨ (whY W H T (ofN W H T kd x y t) = y ∧ (kd = 1 ∨ whT W H T (ofN W H T kd x y t) = t))) := by
  unfold ofB at h
  by_cases hkd : 1 ≤ kd ∧ kd ≤ 5
  · rw [if_pos hkd] at h
    unfold ofN
    rw [if_pos hkd]
    unfold nodeE at h
    by_cases hh : okA W H T ∧ inG W H T (kd - 1).toNat x (adjY (kd - 1).toNat y) (adjT (kd - 1).toNat t)
    · unfold nodeN
      rw [if_pos hh]
      obtain ⟨hN, b1, b2, b3, b4⟩ := nodeAt_what hh.1 (by omega) hh.2
      obtain ⟨v1, v2, v3, v4, v5⟩ := wh_yes hN
      rw [v1, v2, v3, v4, v5, b1, b2, b3, b4]
      refine ⟨rfl, by omega, rfl, ?_⟩
      by_cases h3 : kd = 3
      · exact Or.inl h3
      · refine Or.inr ⟨by unfold adjY; rw [if_neg (by omega)], ?_⟩
        by_cases h1 : kd = 1
        · exact Or.inl h1
        · exact Or.inr (by unfold adjT; rw [if_neg (by omega)])
    · rw [if_neg hh] at h
      cases h
  · rw [if_neg hkd] at h
    cases h
theorem of_none {W H T kd x y t : Int} (h : ofB W H T kd x y t = false) : ofN W H T kd x y t = 0 := by
  unfold ofB at h
  unfold ofN
  by_cases hkd : 1 ≤ kd ∧ kd ≤ 5
  · rw [if_pos hkd] at h ⊢
    unfold nodeE at h
    unfold nodeN
    by_cases hh : okA W H T ∧ inG W H T (kd - 1).toNat x (adjY (kd - 1).toNat y) (adjT (kd - 1).toNat t)
    · rw [if_pos hh] at h
      cases h
    · rw [if_neg hh]
  · rw [if_neg hkd]
end Go.Proofs.Ytakccepilbmmlaa
