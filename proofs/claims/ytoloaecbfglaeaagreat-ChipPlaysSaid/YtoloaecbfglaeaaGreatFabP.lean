/- The plain numbers of a fabric: no program here. · The plain law of a fabric's nodes: each node is what is told of it, and what is told of anything that there is is its node. No program here. -/
import Derived.Test.YtoloaecbfglaeaaGreatBase

namespace Go.Proofs.YtoloaecbfglaeaaGreat
open Go.RowKit
set_option linter.unusedVariables false
set_option linter.unusedSimpArgs false

abbrev pairV (a b : Int) : Value := .tuple #[.int .i64 a, .int .i64 b]
abbrev whatV (a b c d e : Int) : Value := .tuple #[.int .i64 a, .int .i64 b, .int .i64 c, .int .i64 d, .int .i64 e]

/-- columns, rows and layers of grid k (k from 0 on) -/
def gw (W H : Int) : Nat → Int
  | 0 => W
  | 1 => W
  | 2 => 2 * W + 2 * H
  | 3 => W
  | _ => W + 1
def gh (H : Int) : Nat → Int
  | 0 => H
  | 1 => H
  | 2 => 1
  | 3 => H + 1
  | _ => H
def gd (T : Int) : Nat → Int
  | 0 => 1
  | 1 => 4
  | 2 => 1
  | _ => T
def gmany (W H T : Int) (k : Nat) : Int := gw W H k * gh H k * gd T k
/-- where grid k begins -/
def gat (W H T : Int) : Nat → Int
  | 0 => 0
  | k + 1 => gat W H T k + gmany W H T k
/-- how many nodes -/
def nodesI (W H T : Int) : Int := gat W H T 5

def okA (W H T : Int) : Prop := (1 ≤ W ∧ W ≤ 16) ∧ (1 ≤ H ∧ H ≤ 16) ∧ (1 ≤ T ∧ T ≤ 16)
instance (W H T : Int) : Decidable (okA W H T) := by unfold okA; infer_instance

theorem mul_bd {a b A B : Int} (ha : 0 ≤ a) (ha' : a ≤ A) (hb : 0 ≤ b) (hb' : b ≤ B) : 0 ≤ a * b ∧ a * b ≤ A * B :=
  ⟨Int.mul_nonneg ha hb, Int.mul_le_mul ha' hb' hb (by omega)⟩

theorem lt5 {k : Nat} (h : k < 5) : k = 0 ∨ k = 1 ∨ k = 2 ∨ k = 3 ∨ k = 4 := by omega

theorem g_bd {W H T : Int} (h : okA W H T) {k : Nat} (hk : k < 5) : (1 ≤ gw W H k ∧ gw W H k ≤ 64) ∧ (1 ≤ gh H k ∧ gh H k ≤ 17) ∧ (1 ≤ gd T k ∧ gd T k ≤ 16) := by
  unfold okA at h
  rcases lt5 hk with rfl | rfl | rfl | rfl | rfl <;> simp only [gw, gh, gd] <;> omega
theorem g_bd2 {W H T : Int} (h : okA W H T) {k : Nat} (hk : k < 5) : (0 ≤ gw W H k * gh H k ∧ gw W H k * gh H k ≤ 1088) ∧ (0 ≤ gw W H k * gh H k * gd T k ∧ gw W H k * gh H k * gd T k ≤ 17408) := by
  obtain ⟨h1, h2, h3⟩ := g_bd h hk
  have a := mul_bd (by omega) h1.2 (by omega : 0 ≤ gh H k) h2.2
  have b := mul_bd a.1 a.2 (by omega : 0 ≤ gd T k) h3.2
  omega
theorem gat_bd {W H T : Int} (h : okA W H T) : ∀ {k : Nat}, k ≤ 5 → 0 ≤ gat W H T k ∧ gat W H T k ≤ 17408 * k
  | 0, _ => by simp [gat]
  | k + 1, hk => by
    have a := gat_bd h (k := k) (by omega)
    have b := g_bd2 h (k := k) (by omega)
    simp only [gat, gmany]
    omega
theorem nodes_bd {W H T : Int} (h : okA W H T) : 0 ≤ nodesI W H T ∧ nodesI W H T ≤ 87040 := by
  have := gat_bd h (k := 5) (by omega)
  unfold nodesI
  omega
/-- in which grid a node lies -/
def gk (W H T n : Int) : Nat := if n < gat W H T 1 then 0 else if n < gat W H T 2 then 1 else if n < gat W H T 3 then 2 else if n < gat W H T 4 then 3 else 4
/-- its place there -/
def wq (W H T n : Int) : Int := n - gat W H T (gk W H T n)
def wx (W H T n : Int) : Int := wq W H T n / gd T (gk W H T n) % gw W H (gk W H T n)
def wy (W H T n : Int) : Int := wq W H T n / gd T (gk W H T n) / gw W H (gk W H T n)
def wt (W H T n : Int) : Int := wq W H T n % gd T (gk W H T n)
theorem gat_mono {W H T : Int} (h : okA W H T) : gat W H T 0 ≤ gat W H T 1 ∧ gat W H T 1 ≤ gat W H T 2 ∧ gat W H T 2 ≤ gat W H T 3 ∧ gat W H T 3 ≤ gat W H T 4 ∧ gat W H T 4 ≤ gat W H T 5 := by
  have h0 := g_bd2 h (k := 0) (by omega)
  have h1 := g_bd2 h (k := 1) (by omega)
  have h2 := g_bd2 h (k := 2) (by omega)
  have h3 := g_bd2 h (k := 3) (by omega)
  have h4 := g_bd2 h (k := 4) (by omega)
  simp only [gat, gmany]
  omega
theorem gk_eq {W H T n : Int} (h : okA W H T) {k : Nat} (hk : k < 5) (h1 : gat W H T k ≤ n) (h2 : n < gat W H T (k + 1)) : gk W H T n = k := by
  have hm := gat_mono h
  unfold gk
  rcases lt5 hk with rfl | rfl | rfl | rfl | rfl
  · rw [if_pos (by omega)]
  · rw [if_neg (by omega), if_pos (by omega)]
  · rw [if_neg (by omega), if_neg (by omega), if_pos (by omega)]
  · rw [if_neg (by omega), if_neg (by omega), if_neg (by omega), if_pos (by omega)]
  · rw [if_neg (by omega), if_neg (by omega), if_neg (by omega), if_neg (by omega)]
theorem gk_in {W H T n : Int} (h0 : 0 ≤ n) (hm : n < nodesI W H T) : gat W H T (gk W H T n) ≤ n ∧ n < gat W H T (gk W H T n + 1) ∧ gk W H T n < 5 := by
  unfold gk
  have e0 : gat W H T 0 = 0 := rfl
  unfold nodesI at hm
  repeat' split
  all_goals simp only [Nat.reduceAdd]
  all_goals omega
/-- a place of grid k -/
def inG (W H T : Int) (k : Nat) (x y t : Int) : Prop := (0 ≤ x ∧ x < gw W H k) ∧ (0 ≤ y ∧ y < gh H k) ∧ (0 ≤ t ∧ t < gd T k)
instance (W H T : Int) (k : Nat) (x y t : Int) : Decidable (inG W H T k x y t) := by unfold inG; infer_instance
def nodeAt (W H T : Int) (k : Nat) (x y t : Int) : Int := gat W H T k + (y * gw W H k + x) * gd T k + t
theorem row_lt {x y a b : Int} (hx : 0 ≤ x) (hx' : x < a) (hy : 0 ≤ y) (hy' : y < b) : 0 ≤ y * a + x ∧ y * a + x < a * b := by
  have h1 : 0 ≤ y * a := Int.mul_nonneg hy (by omega)
  have h2 : (y + 1) * a ≤ b * a := Int.mul_le_mul_of_nonneg_right (by omega) (by omega)
  rw [Int.add_mul, Int.one_mul] at h2
  rw [Int.mul_comm b a] at h2
  omega
theorem nodeAt_in {W H T : Int} {k : Nat} {x y t : Int} (h : inG W H T k x y t) : gat W H T k ≤ nodeAt W H T k x y t ∧ nodeAt W H T k x y t < gat W H T (k + 1) := by
  obtain ⟨⟨h1, h2⟩, ⟨h3, h4⟩, h5, h6⟩ := h
  have a := row_lt h1 h2 h3 h4
  have b := row_lt h5 h6 a.1 a.2
  simp only [nodeAt, gat, gmany]
  rw [Int.mul_comm (gd T k)] at b
  omega
/-- what the stage's functions tell, errors and all -/
def chkE (W H T : Int) : Int := if okA W H T then 0 else 1
def nodesO (W H T : Int) : Int := if okA W H T then nodesI W H T else 0
def padsO (W H T : Int) : Int := if okA W H T then 2 * W + 2 * H else 0
def nodeN (W H T : Int) (k : Nat) (x y t : Int) : Int := if okA W H T ∧ inG W H T k x y t then nodeAt W H T k x y t else 0
def nodeE (W H T : Int) (k : Nat) (x y t : Int) : Int := if okA W H T ∧ inG W H T k x y t then 0 else 1
def isN (W H T n : Int) : Prop := okA W H T ∧ 0 ≤ n ∧ n < nodesI W H T
instance (W H T n : Int) : Decidable (isN W H T n) := by unfold isN; infer_instance
def whK (W H T n : Int) : Int := if isN W H T n then (gk W H T n : Int) + 1 else 0
def whX (W H T n : Int) : Int := if isN W H T n then wx W H T n else 0
def whY (W H T n : Int) : Int := if isN W H T n then wy W H T n else 0
def whT (W H T n : Int) : Int := if isN W H T n then wt W H T n else 0
def whE (W H T n : Int) : Int := if isN W H T n then 0 else 1
end Go.Proofs.YtoloaecbfglaeaaGreat

namespace Go.Proofs.YtoloaecbfglaeaaGreat
set_option linter.unusedVariables false
set_option linter.unusedSimpArgs false

theorem nodeAt_what {W H T : Int} (h : okA W H T) {k : Nat} (hk : k < 5) {x y t : Int} (hg : inG W H T k x y t) :
    isN W H T (nodeAt W H T k x y t) ∧ gk W H T (nodeAt W H T k x y t) = k ∧ wx W H T (nodeAt W H T k x y t) = x ∧ wy W H T (nodeAt W H T k x y t) = y ∧ wt W H T (nodeAt W H T k x y t) = t := by
  obtain ⟨a1, a2⟩ := nodeAt_in hg
  have hgk := gk_eq h hk a1 a2
  have hm := gat_mono h
  have b1 := gat_bd h (k := k) (by omega)
  have hlast : gat W H T (k + 1) ≤ gat W H T 5 := by
    rcases lt5 hk with rfl | rfl | rfl | rfl | rfl <;> simp only [Nat.reduceAdd] <;> omega
  have hb := g_bd h hk
  obtain ⟨⟨h1, h2⟩, ⟨h3, h4⟩, h5, h6⟩ := hg
  have hq : wq W H T (nodeAt W H T k x y t) = t + (y * gw W H k + x) * gd T k := by
    unfold wq; rw [hgk]; unfold nodeAt; omega
  have e1 : (t + (y * gw W H k + x) * gd T k) / gd T k = y * gw W H k + x := by
    rw [Int.add_mul_ediv_right _ _ (by omega), Int.ediv_eq_zero_of_lt h5 h6]; omega
  have e2 : (t + (y * gw W H k + x) * gd T k) % gd T k = t := by
    rw [Int.add_mul_emod_self_right, Int.emod_eq_of_lt h5 h6]
  have e3 : (y * gw W H k + x) / gw W H k = y := by
    rw [Int.add_comm, Int.add_mul_ediv_right _ _ (by omega), Int.ediv_eq_zero_of_lt h1 h2]; omega
  have e4 : (y * gw W H k + x) % gw W H k = x := by
    rw [Int.add_comm, Int.add_mul_emod_self_right, Int.emod_eq_of_lt h1 h2]
  refine ⟨⟨h, by omega, by unfold nodesI; omega⟩, hgk, ?_, ?_, ?_⟩
  · simp only [wx, hgk, hq, e1, e4]
  · simp only [wy, hgk, hq, e1, e3]
  · simp only [wt, hgk, hq, e2]

theorem what_nodeAt {W H T n : Int} (h : isN W H T n) :
    gk W H T n < 5 ∧ inG W H T (gk W H T n) (wx W H T n) (wy W H T n) (wt W H T n) ∧ nodeAt W H T (gk W H T n) (wx W H T n) (wy W H T n) (wt W H T n) = n := by
  obtain ⟨ho, h0, hm⟩ := h
  obtain ⟨a1, a2, hk⟩ := gk_in h0 hm
  have hb := g_bd ho hk
  have hq0 : 0 ≤ wq W H T n := by unfold wq; omega
  have hq1 : wq W H T n < gw W H (gk W H T n) * gh H (gk W H T n) * gd T (gk W H T n) := by
    have : gat W H T (gk W H T n + 1) = gat W H T (gk W H T n) + gw W H (gk W H T n) * gh H (gk W H T n) * gd T (gk W H T n) := rfl
    unfold wq; omega
  have d1 : 0 ≤ wq W H T n / gd T (gk W H T n) := Int.ediv_nonneg hq0 (by omega)
  have d2 : wq W H T n / gd T (gk W H T n) < gh H (gk W H T n) * gw W H (gk W H T n) := Int.ediv_lt_of_lt_mul (by omega) (by rw [Int.mul_comm (gh H _)]; exact hq1)
  refine ⟨hk, ⟨⟨?_, ?_⟩, ⟨?_, ?_⟩, ?_, ?_⟩, ?_⟩
  · exact Int.emod_nonneg _ (by omega)
  · exact Int.emod_lt_of_pos _ (by omega)
  · exact Int.ediv_nonneg d1 (by omega)
  · exact Int.ediv_lt_of_lt_mul (by omega) d2
  · exact Int.emod_nonneg _ (by omega)
  · exact Int.emod_lt_of_pos _ (by omega)
  · have e1 : wy W H T n * gw W H (gk W H T n) + wx W H T n = wq W H T n / gd T (gk W H T n) := by
      unfold wy wx; rw [Int.mul_comm]; exact Int.mul_ediv_add_emod _ _
    have e2 : wq W H T n / gd T (gk W H T n) * gd T (gk W H T n) + wt W H T n = wq W H T n := by
      unfold wt; rw [Int.mul_comm]; exact Int.mul_ediv_add_emod _ _
    unfold nodeAt
    rw [e1]
    have e3 : wq W H T n = n - gat W H T (gk W H T n) := rfl
    omega

/-- which node a kind at a place is, and whether there is one, as the law's own 'of' tells -/
def adjY (c : Nat) (y : Int) : Int := if c = 2 then 0 else y
def adjT (c : Nat) (t : Int) : Int := if c = 0 ∨ c = 2 then 0 else t
def ofN (W H T kd x y t : Int) : Int := if 1 ≤ kd ∧ kd ≤ 5 then nodeN W H T (kd - 1).toNat x (adjY (kd - 1).toNat y) (adjT (kd - 1).toNat t) else 0
def ofB (W H T kd x y t : Int) : Bool := if 1 ≤ kd ∧ kd ≤ 5 then nodeE W H T (kd - 1).toNat x (adjY (kd - 1).toNat y) (adjT (kd - 1).toNat t) == 0 else false

theorem wh_yes {W H T n : Int} (h : isN W H T n) : whK W H T n = (gk W H T n : Int) + 1 ∧ whX W H T n = wx W H T n ∧ whY W H T n = wy W H T n ∧ whT W H T n = wt W H T n ∧ whE W H T n = 0 := by
  simp only [whK, whX, whY, whT, whE, if_pos h, and_self]

/-- each node is what is told of it -/
theorem of_what {W H T n : Int} (h : isN W H T n) : ofN W H T (whK W H T n) (whX W H T n) (whY W H T n) (whT W H T n) = n ∧ ofB W H T (whK W H T n) (whX W H T n) (whY W H T n) (whT W H T n) = true := by
  obtain ⟨v1, v2, v3, v4, -⟩ := wh_yes h
  obtain ⟨hk, hg, hn⟩ := what_nodeAt h
  rw [v1, v2, v3, v4]
  have hkd : 1 ≤ (gk W H T n : Int) + 1 ∧ (gk W H T n : Int) + 1 ≤ 5 := by omega
  have ek : ((gk W H T n : Int) + 1 - 1).toNat = gk W H T n := by omega
  have ey : adjY (gk W H T n) (wy W H T n) = wy W H T n := by
    unfold adjY
    split
    · rename_i e
      have := hg.2.1
      rw [e] at this
      simp only [gh] at this
      omega
    · rfl
  have et : adjT (gk W H T n) (wt W H T n) = wt W H T n := by
    unfold adjT
    split
    · rename_i e
      have := hg.2.2
      rcases e with e | e <;> rw [e] at this <;> simp only [gd] at this <;> omega
    · rfl
  unfold ofN ofB
  rw [if_pos hkd, if_pos hkd, ek, ey, et]
  unfold nodeN nodeE
  rw [if_pos ⟨h.1, hg⟩, if_pos ⟨h.1, hg⟩]
  exact ⟨hn, rfl⟩

/-- what is told of anything that there is is its node -/
theorem what_of {W H T kd x y t : Int} (h : ofB W H T kd x y t = true) :
    whE W H T (ofN W H T kd x y t) = 0 ∧ whK W H T (ofN W H T kd x y t) = kd ∧ whX W H T (ofN W H T kd x y t) = x ∧ (kd = 3 ∨ (whY W H T (ofN W H T kd x y t) = y ∧ (kd = 1 ∨ whT W H T (ofN W H T kd x y t) = t))) := by
  unfold ofB at h
  by_cases hkd : 1 ≤ kd ∧ kd ≤ 5
  · rw [if_pos hkd] at h
    unfold ofN
    rw [if_pos hkd]
    unfold nodeE at h
    by_cases hh : okA W H T ∧ inG W H T (kd - 1).toNat x (adjY (kd - 1).toNat y) (adjT (kd - 1).toNat t)
    · unfold nodeN
      rw [if_pos hh]
      obtain ⟨hN, b1, b2, b3, b4⟩ := nodeAt_what hh.1 (by omega) hh.2
      obtain ⟨v1, v2, v3, v4, v5⟩ := wh_yes hN
      rw [v1, v2, v3, v4, v5, b1, b2, b3, b4]
      refine ⟨rfl, by omega, rfl, ?_⟩
      by_cases h3 : kd = 3
      · exact Or.inl h3
      · refine Or.inr ⟨by unfold adjY; rw [if_neg (by omega)], ?_⟩
        by_cases h1 : kd = 1
        · exact Or.inl h1
        · exact Or.inr (by unfold adjT; rw [if_neg (by omega)])
    · rw [if_neg hh] at h
      cases h
  · rw [if_neg hkd] at h
    cases h
theorem of_none {W H T kd x y t : Int} (h : ofB W H T kd x y t = false) : ofN W H T kd x y t = 0 := by
  unfold ofB at h
  unfold ofN
  by_cases hkd : 1 ≤ kd ∧ kd ≤ 5
  · rw [if_pos hkd] at h ⊢
    unfold nodeE at h
    unfold nodeN
    by_cases hh : okA W H T ∧ inG W H T (kd - 1).toNat x (adjY (kd - 1).toNat y) (adjT (kd - 1).toNat t)
    · rw [if_pos hh] at h
      cases h
    · rw [if_neg hh]
  · rw [if_neg hkd]
end Go.Proofs.YtoloaecbfglaeaaGreat
