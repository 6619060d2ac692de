/- There is a switch in every fabric. -/
import Derived.Test.YtakccepilbmmlaaEdD
import Derived.Test.YtakccepilbmmlaaFabQ
namespace Go.Proofs.Ytakccepilbmmlaa
set_option linter.unusedVariables false

theorem meetTo_mono (W H T n : Int) (c : Nat) (x y : Int) : ∀ k, (meetTo W H T n c x y 1).length ≤ (meetTo W H T n c x y (k + 1)).length
  | 0 => Nat.le_refl _
  | k + 1 => by
    have := meetTo_mono W H T n c x y k
    rw [show meetTo W H T n c x y (k + 1 + 1) = meetTo W H T n c x y (k + 1) ++ _ from rfl, List.length_append]
    omega
theorem loop1_mono (W H T : Int) : ∀ k, (loop1 W H T 1).length ≤ (loop1 W H T (k + 1)).length
  | 0 => Nat.le_refl _
  | k + 1 => by
    have := loop1_mono W H T k
    rw [show loop1 W H T (k + 1 + 1) = loop1 W H T (k + 1) ++ nodeL W H T ((k + 1 : Nat) : Int) from rfl, List.length_append]
    omega
theorem rawL_pos {W H T : Int} (h : okA W H T) : 0 < (rawL W H T).length := by
  have hh := h
  unfold okA at hh
  have hm := gat_mono h
  have e0 : gat W H T 0 = 0 := rfl
  have e1 : gat W H T 1 = gat W H T 0 + W * H * 1 := rfl
  have hp : 0 < W * H := Int.mul_pos (by omega) (by omega)
  have hN : isN W H T 0 := ⟨h, by omega, by unfold nodesI; omega⟩
  have hg : gk W H T 0 = 0 := gk_eq h (by omega) (by omega) (by simp only [Nat.zero_add]; omega)
  obtain ⟨v1, v2, v3, -, -⟩ := wh_yes hN
  obtain ⟨-, hin, -⟩ := what_nodeAt hN
  rw [hg] at hin
  obtain ⟨⟨a1, a2⟩, ⟨a3, a4⟩, -⟩ := hin
  simp only [gw, gh] at a2 a4
  have hin3 : inG W H T 3 (wx W H T 0) (wy W H T 0) 0 := ⟨⟨a1, by simpa [gw] using a2⟩, ⟨a3, by simp only [gh]; omega⟩, by omega, by simp only [gd]; omega⟩
  have hm1 : 0 < (meetTo W H T 0 3 (wx W H T 0) (wy W H T 0) 1).length := by
    have : nodeE W H T 3 (wx W H T 0) (wy W H T 0) ((0 : Nat) : Int) = 0 := by unfold nodeE; rw [if_pos ⟨h, by simpa using hin3⟩]
    simp only [meetTo, if_pos this]
    simp
  have hm2 : 0 < (meetTo W H T 0 3 (wx W H T 0) (wy W H T 0) T.toNat).length := by
    obtain ⟨t, ht⟩ : ∃ t, T.toNat = t + 1 := ⟨T.toNat - 1, by omega⟩
    rw [ht]
    have := meetTo_mono W H T 0 3 (wx W H T 0) (wy W H T 0) t
    omega
  have hn : 0 < (loop1 W H T 1).length := by
    have e : loop1 W H T 1 = [] ++ nodeL W H T ((0 : Nat) : Int) := rfl
    have hk : whK W H T ((0 : Nat) : Int) = 1 := by rw [show ((0 : Nat) : Int) = 0 from rfl, v1, hg]; rfl
    rw [e, List.nil_append]
    unfold nodeL
    rw [if_pos hk, show ((0 : Nat) : Int) = 0 from rfl, v2, v3]
    simp only [arTo, List.length_append, List.length_nil, arC, arX, arY]
    omega
  obtain ⟨k, hk⟩ : ∃ k, (nodesI W H T).toNat = k + 1 := ⟨(nodesI W H T).toNat - 1, by unfold nodesI; omega⟩
  unfold rawL
  rw [hk, List.length_append]
  have := loop1_mono W H T k
  omega
theorem rawL_len {W H T : Int} (h : okA W H T) : (rawL W H T).length ≤ 6000000 := by
  have hh := h
  unfold okA at hh
  have a := loop1_len (W := W) (H := H) (T := T) hh.2.2.2 (nodesI W H T).toNat
  have b := xTo_len (W := W) (H := H) (T := T) hh.2.1.2 hh.2.2.2 (W + 1).toNat
  have c := nodes_bd h
  unfold rawL
  rw [List.length_append]
  omega
end Go.Proofs.Ytakccepilbmmlaa
