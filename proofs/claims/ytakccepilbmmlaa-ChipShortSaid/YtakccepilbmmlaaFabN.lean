/- How many switches a fabric has: plain, no program here. -/
import Derived.Test.YtakccepilbmmlaaEdH
namespace Go.Proofs.Ytakccepilbmmlaa
set_option linter.unusedVariables false
set_option linter.unusedSimpArgs false

/-- is there a place of tracks? -/
def okP (W H : Int) (c : Nat) (x y : Int) : Prop := (0 ≤ x ∧ x < gw W H c) ∧ (0 ≤ y ∧ y < gh H c)
theorem track_E {W H T : Int} (h : okA W H T) {c : Nat} (hc : c = 3 ∨ c = 4) {x y t : Int} (ht : 0 ≤ t ∧ t < T) : nodeE W H T c x y t = 0 ↔ okP W H c x y := by
  have hgd : gd T c = T := by rcases hc with rfl | rfl <;> rfl
  unfold nodeE okP
  constructor
  · intro he
    split at he
    · rename_i hh; exact ⟨hh.2.1, hh.2.2.1⟩
    · cases he
  · intro hp
    rw [if_pos ⟨h, hp.1, hp.2, ht.1, by rw [hgd]; exact ht.2⟩]
theorem meetTo_count {W H T n : Int} (h : okA W H T) {c : Nat} (hc : c = 3 ∨ c = 4) {x y : Int} (hp : okP W H c x y) : ∀ k : Nat, (k : Int) ≤ T → (meetTo W H T n c x y k).length = k
  | 0, _ => rfl
  | k + 1, hk => by
    have ih := meetTo_count (n := n) h hc hp k (by omega)
    have he := (track_E h hc (t := (k : Int)) ⟨by omega, by omega⟩).2 hp
    simp only [meetTo, if_pos he, List.length_append, ih, List.length_singleton]
theorem arC_34 (k : Nat) : arC k = 3 ∨ arC k = 4 := by
  rcases k with _ | _ | _ | k <;> simp [arC]
theorem brC_34 (W H p : Int) : brC W H p = 3 ∨ brC W H p = 4 := by unfold brC; split <;> simp
theorem around_ok {W H x y : Int} (hx : 0 ≤ x ∧ x < W) (hy : 0 ≤ y ∧ y < H) (k : Nat) : okP W H (arC k) (arX x k) (arY y k) := by
  rcases k with _ | _ | _ | k <;> simp only [okP, arC, arX, arY, gw, gh] <;> omega
theorem border_ok {W H p : Int} (hW : 1 ≤ W) (hH : 1 ≤ H) (hp : 0 ≤ p ∧ p < 2 * W + 2 * H) : okP W H (brC W H p) (brX W H p) (brY W H p) := by
  unfold okP brC brX brY
  by_cases c1 : p < W
  · simp only [if_pos c1, if_pos (show p < 2 * W by omega), gw, gh]; omega
  · by_cases c2 : p < 2 * W
    · simp only [if_neg c1, if_pos c2, gw, gh]; omega
    · by_cases c3 : p < 2 * W + H
      · simp only [if_neg c1, if_neg c2, if_pos c3, gw, gh]; omega
      · simp only [if_neg c1, if_neg c2, if_neg c3, gw, gh]; omega
theorem arTo_count {W H T n x y : Int} (h : okA W H T) (hx : 0 ≤ x ∧ x < W) (hy : 0 ≤ y ∧ y < H) : ∀ k : Nat, (arTo W H T n x y k).length = k * T.toNat
  | 0 => by simp [arTo]
  | k + 1 => by
    have hh := h
    unfold okA at hh
    simp only [arTo, List.length_append, arTo_count h hx hy k, meetTo_count (n := n) h (arC_34 k) (around_ok hx hy k) T.toNat (by omega)]
    rw [Nat.add_mul, Nat.one_mul]

/-- a node's own switches, counted -/
theorem nodeL_count {W H T n : Int} (hN : isN W H T n) : (nodeL W H T n).length = (if n < gat W H T 1 then 4 else if n < gat W H T 3 then 1 else 0) * T.toNat := by
  have h := hN.1
  have hh := h
  unfold okA at hh
  obtain ⟨v1, v2, v3, v4, -⟩ := wh_yes hN
  obtain ⟨hk, hin, -⟩ := what_nodeAt hN
  obtain ⟨i1, i2, -⟩ := gk_in hN.2.1 hN.2.2
  have hm := gat_mono h
  obtain ⟨⟨b1, b2⟩, ⟨b3, b4⟩, b5, b6⟩ := hin
  unfold nodeL
  rw [v1, v2, v3, v4]
  rcases lt5 hk with e | e | e | e | e <;> rw [e] at i1 i2 b2 b4 b6 <;> simp only [Nat.reduceAdd, gw, gh, gd] at i1 i2 b2 b4 b6 <;> rw [e]
  · rw [if_pos (by rfl), if_pos (by omega), arTo_count h ⟨b1, b2⟩ ⟨b3, b4⟩ 4]
  · rw [if_neg (by omega), if_pos (by rfl), if_neg (by omega), if_pos (by omega), Nat.one_mul]
    exact meetTo_count h (arC_34 _) (around_ok ⟨b1, b2⟩ ⟨b3, b4⟩ _) _ (by omega)
  · rw [if_neg (by omega), if_neg (by omega), if_pos (by rfl), if_neg (by omega), if_pos (by omega), Nat.one_mul]
    exact meetTo_count h (brC_34 _ _ _) (border_ok (by omega) (by omega) ⟨b1, b2⟩) _ (by omega)
  · rw [if_neg (by omega), if_neg (by omega), if_neg (by omega), if_neg (by omega), if_neg (by omega)]; simp
  · rw [if_neg (by omega), if_neg (by omega), if_neg (by omega), if_neg (by omega), if_neg (by omega)]; simp

theorem loop1_count {W H T : Int} (h : okA W H T) : ∀ k : Nat, (k : Int) ≤ nodesI W H T → ((loop1 W H T k).length : Int) = (4 * min (k : Int) (gat W H T 1) + (min (k : Int) (gat W H T 3) - min (k : Int) (gat W H T 1))) * T
  | 0, _ => by
    have hm := gat_mono h
    have e0 : gat W H T 0 = 0 := rfl
    have e1 : min (((0 : Nat) : Int)) (gat W H T 1) = 0 := by omega
    have e3 : min (((0 : Nat) : Int)) (gat W H T 3) = 0 := by omega
    rw [e1, e3]
    simp [loop1]
  | k + 1, hk => by
    have hh := h
    unfold okA at hh
    have hm := gat_mono h
    have ih := loop1_count h k (by omega)
    have hc := nodeL_count (W := W) (H := H) (T := T) (n := (k : Int)) ⟨h, by omega, by omega⟩
    obtain ⟨N, rfl⟩ : ∃ N : Nat, T = (N : Int) := ⟨T.toNat, by omega⟩
    rw [Int.toNat_natCast] at hc
    simp only [loop1, List.length_append]
    rw [Int.natCast_add, ih, hc]
    by_cases c1 : (k : Int) < gat W H (N : Int) 1
    · rw [if_pos c1]
      have e1 : min (((k + 1 : Nat) : Int)) (gat W H (N : Int) 1) = min (k : Int) (gat W H (N : Int) 1) + 1 := by omega
      have e3 : min (((k + 1 : Nat) : Int)) (gat W H (N : Int) 3) = min (k : Int) (gat W H (N : Int) 3) + 1 := by omega
      rw [e1, e3, Int.natCast_mul, ← Int.add_mul]
      congr 1
      omega
    · rw [if_neg c1]
      have e1 : min (((k + 1 : Nat) : Int)) (gat W H (N : Int) 1) = min (k : Int) (gat W H (N : Int) 1) := by omega
      by_cases c3 : (k : Int) < gat W H (N : Int) 3
      · rw [if_pos c3]
        have e3 : min (((k + 1 : Nat) : Int)) (gat W H (N : Int) 3) = min (k : Int) (gat W H (N : Int) 3) + 1 := by omega
        rw [e1, e3, Int.natCast_mul, ← Int.add_mul]
        congr 1
        omega
      · rw [if_neg c3]
        have e3 : min (((k + 1 : Nat) : Int)) (gat W H (N : Int) 3) = min (k : Int) (gat W H (N : Int) 3) := by omega
        rw [e1, e3]
        simp
/-- the switches of a corner, for one t -/
def cq (W H x y : Int) : Int :=
  (if 1 ≤ x then (if x < W then 1 else 0) else 0) + (if 1 ≤ y then (if 1 ≤ x then 1 else 0) + (if x < W then 1 else 0) else 0) + (if y < H then (if 1 ≤ x then 1 else 0) + (if x < W then 1 else 0) + (if 1 ≤ y then 1 else 0) else 0)
theorem corner_count {W H T x y t : Int} (h : okA W H T) (hx : 0 ≤ x ∧ x ≤ W) (hy : 0 ≤ y ∧ y ≤ H) (ht : 0 ≤ t ∧ t < T) : ((cornerTo W H T x y t 4).length : Int) = cq W H x y := by
  have p0 : nodeE W H T (coC 0) (coX x 0) (coY y 0) t = 0 ↔ 1 ≤ x := (track_E h (.inl rfl) ht).trans (by simp only [okP, coX, coY, gw, gh]; omega)
  have p1 : nodeE W H T (coC 1) (coX x 1) (coY y 1) t = 0 ↔ x < W := (track_E h (.inl rfl) ht).trans (by simp only [okP, coX, coY, gw, gh]; omega)
  have p2 : nodeE W H T (coC 2) (coX x 2) (coY y 2) t = 0 ↔ 1 ≤ y := (track_E h (.inr rfl) ht).trans (by simp only [okP, coX, coY, gw, gh]; omega)
  have p3 : nodeE W H T (coC 3) (coX x 3) (coY y 3) t = 0 ↔ y < H := (track_E h (.inr rfl) ht).trans (by simp only [okP, coX, coY, gw, gh]; omega)
  simp only [cornerTo, hereTo, p0, p1, p2, p3, cq]
  by_cases a : 1 ≤ x <;> by_cases b : x < W <;> by_cases c : 1 ≤ y <;> by_cases d : y < H <;> simp [a, b, c, d]
theorem tTo_count {W H T x y : Int} (h : okA W H T) (hx : 0 ≤ x ∧ x ≤ W) (hy : 0 ≤ y ∧ y ≤ H) : ∀ k : Nat, (k : Int) ≤ T → ((tTo W H T x y k).length : Int) = cq W H x y * k
  | 0, _ => by simp [tTo]
  | k + 1, hk => by
    simp only [tTo, List.length_append]
    rw [Int.natCast_add, tTo_count h hx hy k (by omega), corner_count h hx hy ⟨by omega, by omega⟩, show ((k + 1 : Nat) : Int) = (k : Int) + 1 from by omega, Int.mul_add, Int.mul_one]
/-- .. of a column's first k corners -/
def cy (W H x : Int) : Nat → Int
  | 0 => 0
  | k + 1 => cy W H x k + cq W H x (k : Int)
theorem yTo_count {W H T x : Int} (h : okA W H T) (hx : 0 ≤ x ∧ x ≤ W) : ∀ k : Nat, (k : Int) ≤ H + 1 → ((yTo W H T x k).length : Int) = cy W H x k * T
  | 0, _ => by simp [yTo, cy]
  | k + 1, hk => by
    have hh := h
    unfold okA at hh
    simp only [yTo, List.length_append, cy]
    rw [Int.natCast_add, yTo_count h hx k (by omega), tTo_count h hx ⟨by omega, by omega⟩ _ (by omega), Int.toNat_of_nonneg (by omega), Int.add_mul]
def cx (W H : Int) : Nat → Int
  | 0 => 0
  | k + 1 => cx W H k + cy W H (k : Int) (H + 1).toNat
theorem xTo_count {W H T : Int} (h : okA W H T) : ∀ k : Nat, (k : Int) ≤ W + 1 → ((xTo W H T k).length : Int) = cx W H k * T
  | 0, _ => by simp [xTo, cx]
  | k + 1, hk => by
    have hh := h
    unfold okA at hh
    simp only [xTo, List.length_append, cx]
    rw [Int.natCast_add, xTo_count h k (by omega), yTo_count h ⟨by omega, by omega⟩ _ (by omega), Int.add_mul]

/-- closed forms -/
theorem cy_eq {W H x : Int} (hW : 1 ≤ W) (hH : 1 ≤ H) (hx : 0 ≤ x ∧ x ≤ W) : ∀ k : Nat, (k : Int) ≤ H + 1 → cy W H x k =
    (if 1 ≤ x ∧ x < W then (k : Int) + 2 * (if 1 ≤ k then (k : Int) - 1 else 0) + 2 * min (k : Int) H + (if 1 ≤ min (k : Int) H then min (k : Int) H - 1 else 0)
     else (if 1 ≤ k then (k : Int) - 1 else 0) + min (k : Int) H + (if 1 ≤ min (k : Int) H then min (k : Int) H - 1 else 0))
  | 0, _ => by
    have : min (((0 : Nat) : Int)) H = 0 := by omega
    simp only [cy, this]
    simp
  | k + 1, hk => by
    rw [cy, cy_eq hW hH hx k (by omega)]
    unfold cq
    by_cases a : 1 ≤ x <;> by_cases b : x < W <;> by_cases c : 1 ≤ (k : Int) <;> by_cases d : (k : Int) < H <;> simp only [a, b, c, d, true_and, false_and, and_self, if_true, if_false] <;> (repeat' split) <;> omega
theorem cy_full {W H x : Int} (hW : 1 ≤ W) (hH : 1 ≤ H) (hx : 0 ≤ x ∧ x ≤ W) : cy W H x (H + 1).toNat = if 1 ≤ x ∧ x < W then 6 * H else 3 * H - 1 := by
  rw [cy_eq hW hH hx _ (by omega)]
  have e : (((H + 1).toNat : Nat) : Int) = H + 1 := by omega
  have m : min (H + 1) H = H := by omega
  rw [e, m, if_pos (show 1 ≤ (H + 1).toNat by omega), if_pos hH]
  split <;> omega
theorem cx_eq {W H : Int} (hW : 1 ≤ W) (hH : 1 ≤ H) : ∀ k : Nat, (k : Int) ≤ W → cx W H (k + 1) = 3 * H - 1 + (if (k : Int) < W then (k : Int) * (6 * H) else ((k : Int) - 1) * (6 * H) + (3 * H - 1))
  | 0, _ => by
    rw [cx, cx, cy_full hW hH ⟨by omega, by omega⟩, if_neg (by omega), if_pos (by omega)]
    simp
  | k + 1, hk => by
    rw [cx, cx_eq hW hH k (by omega), cy_full hW hH ⟨by omega, by omega⟩, if_pos (show (k : Int) < W by omega)]
    by_cases c : ((k + 1 : Nat) : Int) < W
    · rw [if_pos ⟨by omega, c⟩, if_pos c, show ((k + 1 : Nat) : Int) = (k : Int) + 1 from by omega, Int.add_mul, Int.one_mul]
      omega
    · rw [if_neg (by omega), if_neg c, show ((k + 1 : Nat) : Int) - 1 = (k : Int) from by omega]
      omega
theorem rawL_count {W H T : Int} (h : okA W H T) : ((rawL W H T).length : Int) = T * (8 * W * H + (2 * W + 2 * H) + 6 * (W - 1) * (H - 1) + 3 * (2 * (W - 1) + 2 * (H - 1)) + 4) := by
  have hh := h
  unfold okA at hh
  have hm := gat_mono h
  have hnb := nodes_bd h
  have e0 : gat W H T 0 = 0 := rfl
  have e1 : gat W H T 1 = gat W H T 0 + W * H * 1 := rfl
  have e2 : gat W H T 2 = gat W H T 1 + W * H * 4 := rfl
  have e3 : gat W H T 3 = gat W H T 2 + (2 * W + 2 * H) * 1 * 1 := rfl
  have hN : (((nodesI W H T).toNat : Nat) : Int) = nodesI W H T := by omega
  obtain ⟨k, hk⟩ : ∃ k : Nat, (W + 1).toNat = k + 1 := ⟨W.toNat, by omega⟩
  have hkW : (k : Int) = W := by omega
  unfold rawL
  rw [List.length_append, Int.natCast_add, loop1_count h _ (by omega), hN, xTo_count h _ (by omega), hk, cx_eq (by omega) (by omega) k (by omega), if_neg (by omega), hkW]
  have m1 : min (nodesI W H T) (gat W H T 1) = gat W H T 1 := by unfold nodesI; omega
  have m3 : min (nodesI W H T) (gat W H T 3) = gat W H T 3 := by unfold nodesI; omega
  rw [m1, m3, ← Int.add_mul, Int.mul_comm _ T]
  congr 1
  have f1 : (W - 1) * (6 * H) = 6 * (W * H) - 6 * H := by rw [Int.sub_mul, Int.one_mul, Int.mul_left_comm]
  have f2 : 8 * W * H = 8 * (W * H) := Int.mul_assoc 8 W H
  have f3 : 6 * (W - 1) * (H - 1) = 6 * (W * H) - 6 * W - 6 * H + 6 := by
    have g : W * (H - 1) = W * H - W := by rw [Int.mul_sub, Int.mul_one]
    rw [Int.mul_assoc, Int.sub_mul, Int.one_mul, g]; omega
  rw [f1, f2, f3]
  omega
end Go.Proofs.Ytakccepilbmmlaa
