/- Walks of container/heap over filigree/pack's least: up, down, Push, Pop. -/
import Derived.Test.YtoloaecbfglaeaaHeap
namespace Go.Proofs.Ytoloaecbfglaeaa
open Go.RowKit
set_option linter.unusedVariables false
set_option linter.unusedSimpArgs false

theorem HQ.cell {w : World} {base R : Nat} {A : Option Addr} {c : Nat} {l : List Int} (h : HQ w base R A c l) : w.cell? ⟨R, 0, none⟩ = some (.slice A l.length c) := h.box.cell 0
theorem swapL_length (l : List Int) (i j : Nat) : (swapL l i j).length = l.length := by simp [swapL]
theorem HQ.swapped {w w' : World} {base R g c : Nat} {l : List Int} {i j : Nat} {e : Ending} (h : HQ w base R (some ⟨g, 0, none⟩) c l) (hs : SwapOut base g l.length c l i j w e w') : HQ w' base R (some ⟨g, 0, none⟩) c (swapL l i j) ∧ HK w w' R (some g) :=
  ⟨h.turned (swapL_length l i j) rfl hs.2.1 hs.2.2, HK.grown hs.2.2 R⟩
/-- an exchange of two of the first n -/
theorem set_perm : ∀ (l : List Int) (i j : Nat) (hi : i < l.length) (hj : j < l.length), (swapL l i j).Perm l
  | [], i, j, hi, _ => by simp at hi
  | a :: l, 0, 0, _, _ => by simp [swapL]
  | a :: l, 0, j + 1, _, hj => by
    have hj' : j < l.length := by simpa using hj
    have e : swapL (a :: l) 0 (j + 1) = l.getD j 0 :: l.set j a := by simp [swapL]
    rw [e]
    have h1 : l.getD j 0 = l[j] := by rw [List.getD_eq_getElem?_getD, List.getElem?_eq_getElem hj']; rfl
    rw [h1]
    have h2 : (l[j] :: l.set j a).Perm (a :: l) := by
      have e2 : l.set j a = l.take j ++ a :: l.drop (j + 1) := List.set_eq_take_append_cons_drop .. |>.trans (by rw [if_pos hj'])
      have e3 : l = l.take j ++ l[j] :: l.drop (j + 1) := by rw [List.getElem_cons_drop, List.take_append_drop]
      rw [e2]
      conv => rhs; rw [e3]
      refine ((List.perm_middle (a := a) (l₁ := l.take j) (l₂ := l.drop (j + 1))).cons l[j]).trans ?_
      refine (List.Perm.swap a l[j] _).trans ?_
      exact ((List.perm_middle (a := l[j]) (l₁ := l.take j) (l₂ := l.drop (j + 1))).symm).cons a
    exact h2
  | a :: l, i + 1, 0, hi, _ => by
    have hi' : i < l.length := by simpa using hi
    have h := set_perm (a :: l) 0 (i + 1) (by simp) (by simpa using hi')
    have e : swapL (a :: l) (i + 1) 0 = swapL (a :: l) 0 (i + 1) := by simp [swapL]
    rw [e]
    exact h
  | a :: l, i + 1, j + 1, hi, hj => by
    have e : swapL (a :: l) (i + 1) (j + 1) = a :: swapL l i j := by simp [swapL]
    rw [e]
    exact (set_perm l i j (by simpa using hi) (by simpa using hj)).cons a
theorem getD_swap (l : List Int) (i j k : Nat) (hi : k ≠ i) (hj : k ≠ j) : (swapL l i j).getD k 0 = l.getD k 0 := by
  simp only [swapL, List.getD_eq_getElem?_getD, List.getElem?_set]
  rw [if_neg (fun e => hj e.symm), if_neg (fun e => hi e.symm)]
/-- the first n in another order, the others as they were -/
def Shuf (n : Nat) (l m : List Int) : Prop := m.length = l.length ∧ m.Perm l ∧ ∀ k, n ≤ k → m.getD k 0 = l.getD k 0
theorem Shuf.refl (n : Nat) (l : List Int) : Shuf n l l := ⟨rfl, List.Perm.refl l, fun _ _ => rfl⟩
theorem Shuf.swap {n : Nat} {l m : List Int} (h : Shuf n l m) {i j : Nat} (hi : i < n) (hj : j < n) (hn : n ≤ l.length) : Shuf n l (swapL m i j) :=
  ⟨by rw [swapL_length]; exact h.1, (set_perm m i j (by rw [h.1]; omega) (by rw [h.1]; omega)).trans h.2.1, fun k hk => by rw [getD_swap m i j k (by omega) (by omega)]; exact h.2.2 k hk⟩
/-- what up and down leave -/
def HeapOut (base R g c n : Nat) (l : List Int) (w : World) (e : Ending) (w' : World) : Prop :=
  e = .returned (.tuple #[]) ∧ ∃ m, Shuf n l m ∧ HQ w' base R (some ⟨g, 0, none⟩) c m ∧ HK w w' R (some g)
def DownOut (base R g c n : Nat) (l : List Int) (w : World) (e : Ending) (w' : World) : Prop :=
  ∃ b, e = .returned (.bool b) ∧ ∃ m, Shuf n l m ∧ HQ w' base R (some ⟨g, 0, none⟩) c m ∧ HK w w' R (some g)

set_option maxRecDepth 100000 in
set_option maxHeartbeats 4000000 in
theorem heapUp_any (base R g c : Nat) (l : List Int) (j : Nat) (w : World) (h : HQ w base R (some ⟨g, 0, none⟩) c l) (hj : j < l.length) (hn : l.length ≤ 1000000) :
    Calls Try.prog 118 #[.iface 142 (.pointer (some ⟨R, 0, none⟩)), .int .i64 (j : Int)] w (HeapOut base R g c l.length l w) := by
  have H := Lib.hid h
  have HJ := Lib.hid hj
  obtain ⟨n, hN⟩ : ∃ n, l.length = n := ⟨_, rfl⟩
  rw [hN] at hj hn ⊢
  have HN := Lib.hid hN
  clear h hN
  go_enter Try.func118, Try.ntmps118
  go_wp2_with fail
  go_loopw [1] (fun i wx => ∃ (k : Nat) (m : List Int), k < n ∧ i = .int .i64 (k : Int) ∧ Shuf n l m ∧ HQ wx base R (some ⟨g, 0, none⟩) c m ∧ HK w wx R (some g)) (fun i _ => (intOf i).toNat)
  case atStart => exact ⟨j, l, hj, rfl, Shuf.refl n l, H.out, HK.refl _ _ _⟩
  case round =>
    obtain ⟨k, m, hk, rfl, hS, hQ, hK⟩ := hrel
    have HS := Lib.hid hS
    have HQ1 := Lib.hid hQ
    have HK1 := Lib.hid hK
    have hml := Lib.hid (hS.1.trans HN.out)
    have k0 := hQ.cell
    rw [hml.out] at k0
    have hl := fun k => m_less k R wr _ _ _ k0
    clear hS hQ hK
    by_cases hz : k = 0
    · subst hz
      go_wp2_with fail
      go_end0
      exact ⟨rfl, m, HS.out, HQ1.out, HK1.out⟩
    · obtain ⟨p, hp⟩ : ∃ p : Nat, ((k : Int) - 1) / 2 = (p : Int) := ⟨((k - 1) / 2), by omega⟩
      have hpk : p < k := by omega
      have hk1 : 1 ≤ (k : Int) := by omega
      have hne : ((p : Int) == (k : Int)) = false := by simp; omega
      have hpk' : (p : Int) < (k : Int) := by omega
      go_wp2_with fail
      refine (hless_any _ n c m k p wr (by have := Rd.of_own HQ1.out.row; rw [hml.out] at this; exact this) hk (by omega) (by omega)).mono ?_
      generalize decide (m.getD k 0 < m.getD p 0) = r
      rintro e w1 ⟨rfl, q, rfl⟩
      have k1 : (wr.drewN q).cell? ⟨R, 0, none⟩ = some (.slice (some ⟨g, 0, none⟩) n c) := k0
      have hs := fun k => m_swap k R (wr.drewN q) _ _ _ k1
      have HQ2 := Lib.hid (HQ1.out.drew q)
      have HK2 := Lib.hid (HK1.out.drew q)
      clear hl k0 HQ1 HK1
      cases r with
      | false =>
        go_wp2_with fail
        go_end0
        exact ⟨rfl, m, HS.out, HQ2.out, HK2.out⟩
      | true =>
        go_wp2_with fail
        refine (hswap_any base g n c m p k _ (by have := HQ2.out.row; rw [hml.out] at this; exact this) (by omega) hk (by omega)).mono ?_
        rintro e w2 hsw
        have hsw' : SwapOut base g m.length c m p k (wr.drewN q) e w2 := by rw [hml.out]; exact hsw
        obtain ⟨hQ3, hK3⟩ := HQ2.out.swapped hsw'
        obtain rfl := hsw.1
        have HQ3 := Lib.hid hQ3
        have HK3 := Lib.hid (HK2.out.trans hK3)
        clear hsw hsw' hQ3 hK3 hs
        go_wp2_with fail
        go_roundw
        case rel => exact ⟨p, swapL m p k, by omega, rfl, HS.out.swap (by omega) hk (by rw [HN.out]; exact Nat.le_refl _), HQ3.out, HK3.out⟩
        case measure => simp [intOf]; omega

set_option maxRecDepth 100000 in
set_option maxHeartbeats 4000000 in
theorem heapDown_any (base R g c t : Nat) (l : List Int) (w : World) (h : HQ w base R (some ⟨g, 0, none⟩) c l) (ht : t ≤ l.length) (hn : l.length ≤ 1000000) :
    Calls Try.prog 119 #[.iface 142 (.pointer (some ⟨R, 0, none⟩)), .int .i64 0, .int .i64 (t : Int)] w (DownOut base R g c t l w) := by
  have H := Lib.hid h
  have HT := Lib.hid ht
  obtain ⟨n, hN⟩ : ∃ n, l.length = n := ⟨_, rfl⟩
  rw [hN] at ht hn
  have HN := Lib.hid hN
  clear h hN
  go_enter Try.func119, Try.ntmps119
  go_wp2_with fail
  go_loopw [7] (fun i wx => ∃ (k : Nat) (m : List Int), (k < t ∨ k = 0) ∧ i = .int .i64 (k : Int) ∧ Shuf t l m ∧ HQ wx base R (some ⟨g, 0, none⟩) c m ∧ HK w wx R (some g)) (fun i _ => t - (intOf i).toNat)
  case atStart => exact ⟨0, l, .inr rfl, rfl, Shuf.refl t l, H.out, HK.refl _ _ _⟩
  case round =>
    obtain ⟨k, m, hk, rfl, hS, hQ, hK⟩ := hrel
    have HS := Lib.hid hS
    have HQ1 := Lib.hid hQ
    have HK1 := Lib.hid hK
    have hml := Lib.hid (hS.1.trans HN.out)
    have k0 := hQ.cell
    rw [hml.out] at k0
    have hk8 : k ≤ 1000000 := by omega
    have HKK := Lib.hid hk
    clear hS hQ hK hk
    by_cases h1 : t ≤ 2 * k + 1
    · have h1' : (t : Int) ≤ 2 * (k : Int) + 1 := by omega
      clear h1
      go_wp2_with fail
      go_ret
      exact ⟨_, rfl, m, HS.out, HQ1.out, HK1.out⟩
    have h1' : ¬ (t : Int) ≤ 2 * (k : Int) + 1 := by omega
    have hkt : k < t := by omega
    by_cases h2 : 2 * k + 2 < t
    · have h2' : 2 * (k : Int) + 1 + 1 < (t : Int) := by omega
      have hl := fun k => m_less k R wr _ _ _ k0
      go_wp2_with fail
      refine (hless_any _ n c m (2 * k + 1 + 1) (2 * k + 1) _ (by have := Rd.of_own HQ1.out.row; rw [hml.out] at this; exact this) (by omega) (by omega) (by omega)).mono ?_
      generalize decide (m.getD (2 * k + 1 + 1) 0 < m.getD (2 * k + 1) 0) = r1
      rintro e w1 ⟨rfl, q1, hw1⟩
      have HQ2 := Lib.hid (show HQ w1 base R (some ⟨g, 0, none⟩) c m by rw [hw1]; exact HQ1.out.drew q1)
      have HK2 := Lib.hid (show HK w w1 R (some g) by rw [hw1]; exact HK1.out.drew q1)
      have k0 := HQ2.out.cell
      rw [hml.out] at k0
      clear hl hw1
      cases r1 with
      | false =>
        have kk1 : (w1).cell? ⟨R, 0, none⟩ = some (.slice (some ⟨g, 0, none⟩) n c) := k0
        have hl := fun k => m_less k R (w1) _ _ _ kk1
        go_wp2_with fail
        refine (hless_any _ n c m (2 * k + 1) k _ (by have := Rd.of_own HQ2.out.row; rw [hml.out] at this; exact this) (by omega) (by omega) (by omega)).mono ?_
        generalize decide (m.getD (2 * k + 1) 0 < m.getD k 0) = r2
        rintro e w3 ⟨rfl, q2, hw3⟩
        have HQ3 := Lib.hid (show HQ w3 base R (some ⟨g, 0, none⟩) c m by rw [hw3]; exact HQ2.out.drew q2)
        have HK3 := Lib.hid (show HK w w3 R (some g) by rw [hw3]; exact HK2.out.drew q2)
        have kk2 := HQ3.out.cell
        rw [hml.out] at kk2
        have hs := fun k => m_swap k R w3 _ _ _ kk2
        clear hl kk1 hw3
        cases r2 with
        | false =>
          go_wp2_with fail
          go_ret
          exact ⟨_, rfl, m, HS.out, HQ3.out, HK3.out⟩
        | true =>
          go_wp2_with fail
          refine (hswap_any base g n c m k (2 * k + 1) _ (by have := HQ3.out.row; rw [hml.out] at this; exact this) (by omega) (by omega) (by omega)).mono ?_
          rintro e w4 hsw
          have hsw' : SwapOut base g m.length c m k (2 * k + 1) w3 e w4 := by rw [hml.out]; exact hsw
          obtain ⟨hQ5, hK5⟩ := HQ3.out.swapped hsw'
          obtain rfl := hsw.1
          have HQ5 := Lib.hid hQ5
          have HK5 := Lib.hid (HK3.out.trans hK5)
          clear hsw hsw' hQ5 hK5 hs
          go_wp2_with fail
          go_roundw
          case rel => exact ⟨2 * k + 1, swapL m k (2 * k + 1), .inl (by omega), by go_num, HS.out.swap (by omega) (by omega) HT.out, HQ5.out, HK5.out⟩
          case measure => simp [intOf]; omega
      | true =>
        have kk1 : (w1).cell? ⟨R, 0, none⟩ = some (.slice (some ⟨g, 0, none⟩) n c) := k0
        have hl := fun k => m_less k R (w1) _ _ _ kk1
        go_wp2_with fail
        refine (hless_any _ n c m (2 * k + 1 + 1) k _ (by have := Rd.of_own HQ2.out.row; rw [hml.out] at this; exact this) (by omega) (by omega) (by omega)).mono ?_
        generalize decide (m.getD (2 * k + 1 + 1) 0 < m.getD k 0) = r2
        rintro e w3 ⟨rfl, q2, hw3⟩
        have HQ3 := Lib.hid (show HQ w3 base R (some ⟨g, 0, none⟩) c m by rw [hw3]; exact HQ2.out.drew q2)
        have HK3 := Lib.hid (show HK w w3 R (some g) by rw [hw3]; exact HK2.out.drew q2)
        have kk2 := HQ3.out.cell
        rw [hml.out] at kk2
        have hs := fun k => m_swap k R w3 _ _ _ kk2
        clear hl kk1 hw3
        cases r2 with
        | false =>
          go_wp2_with fail
          go_ret
          exact ⟨_, rfl, m, HS.out, HQ3.out, HK3.out⟩
        | true =>
          go_wp2_with fail
          refine (hswap_any base g n c m k (2 * k + 1 + 1) _ (by have := HQ3.out.row; rw [hml.out] at this; exact this) (by omega) (by omega) (by omega)).mono ?_
          rintro e w4 hsw
          have hsw' : SwapOut base g m.length c m k (2 * k + 1 + 1) w3 e w4 := by rw [hml.out]; exact hsw
          obtain ⟨hQ5, hK5⟩ := HQ3.out.swapped hsw'
          obtain rfl := hsw.1
          have HQ5 := Lib.hid hQ5
          have HK5 := Lib.hid (HK3.out.trans hK5)
          clear hsw hsw' hQ5 hK5 hs
          go_wp2_with fail
          go_roundw
          case rel => exact ⟨2 * k + 1 + 1, swapL m k (2 * k + 1 + 1), .inl (by omega), by go_num, HS.out.swap (by omega) (by omega) HT.out, HQ5.out, HK5.out⟩
          case measure => simp [intOf]; omega
    · have h2' : ¬ 2 * (k : Int) + 1 + 1 < (t : Int) := by omega
      have h2'' : decide (2 * (k : Int) + 1 + 1 < (t : Int)) = false := decide_eq_false h2'
      have kk1 : (wr).cell? ⟨R, 0, none⟩ = some (.slice (some ⟨g, 0, none⟩) n c) := k0
      have hl := fun k => m_less k R (wr) _ _ _ kk1
      go_wp2_with fail
      refine (hless_any _ n c m (2 * k + 1) k _ (by have := Rd.of_own HQ1.out.row; rw [hml.out] at this; exact this) (by omega) (by omega) (by omega)).mono ?_
      generalize decide (m.getD (2 * k + 1) 0 < m.getD k 0) = r2
      rintro e w3 ⟨rfl, q2, hw3⟩
      have HQ3 := Lib.hid (show HQ w3 base R (some ⟨g, 0, none⟩) c m by rw [hw3]; exact HQ1.out.drew q2)
      have HK3 := Lib.hid (show HK w w3 R (some g) by rw [hw3]; exact HK1.out.drew q2)
      have kk2 := HQ3.out.cell
      rw [hml.out] at kk2
      have hs := fun k => m_swap k R w3 _ _ _ kk2
      clear hl kk1 hw3
      cases r2 with
      | false =>
        go_wp2_with fail
        go_ret
        exact ⟨_, rfl, m, HS.out, HQ3.out, HK3.out⟩
      | true =>
        go_wp2_with fail
        refine (hswap_any base g n c m k (2 * k + 1) _ (by have := HQ3.out.row; rw [hml.out] at this; exact this) (by omega) (by omega) (by omega)).mono ?_
        rintro e w4 hsw
        have hsw' : SwapOut base g m.length c m k (2 * k + 1) w3 e w4 := by rw [hml.out]; exact hsw
        obtain ⟨hQ5, hK5⟩ := HQ3.out.swapped hsw'
        obtain rfl := hsw.1
        have HQ5 := Lib.hid hQ5
        have HK5 := Lib.hid (HK3.out.trans hK5)
        clear hsw hsw' hQ5 hK5 hs
        go_wp2_with fail
        go_roundw
        case rel => exact ⟨2 * k + 1, swapL m k (2 * k + 1), .inl (by omega), by go_num, HS.out.swap (by omega) (by omega) HT.out, HQ5.out, HK5.out⟩
        case measure => simp [intOf]; omega

def HPushOut (base R : Nat) (A : Option Addr) (c : Nat) (l : List Int) (x : Int) (w : World) (e : Ending) (w' : World) : Prop :=
  e = .returned (.tuple #[]) ∧ ∃ A' c' m, m.Perm (l ++ [x]) ∧ HQ w' base R A' c' m ∧ HK w w' R (Value.slice A l.length c).ownBlock ∧ ((Value.slice A' m.length c').ownBlock = (Value.slice A l.length c).ownBlock ∨ ∀ g, (Value.slice A' m.length c').ownBlock = some g → w.heap.size ≤ g)
set_option maxRecDepth 100000 in
set_option maxHeartbeats 1000000 in
theorem heapPush_any (base R : Nat) (A : Option Addr) (c : Nat) (l : List Int) (x : Int) (w : World) (h : HQ w base R A c l) (hn : l.length ≤ 100000) (hb : base ≤ w.heap.size) :
    Calls Try.prog 99 #[.iface 142 (.pointer (some ⟨R, 0, none⟩)), .iface 3 (.int .i64 x)] w (HPushOut base R A c l x w) := by
  have H := Lib.hid h
  have hm := fun k w => m_push k R w
  clear h
  go_enter Try.func99, Try.ntmps99
  go_wp2_with fail
  refine (hpush_any base R 0 _ _ _ _ _ H.out (by omega) hb).mono ?_
  rintro e w1 ⟨rfl, A1, c1, H1, K1, q1⟩
  obtain ⟨g, rfl, hg1, hg2⟩ := H1.head (by simp)
  have k0 := H1.cell
  have hll : (l ++ [x]).length = l.length + 1 := by simp
  rw [hll] at k0
  have hl := fun k => m_len k R w1 _ _ _ k0
  have HH1 := Lib.hid H1
  have HK1 := Lib.hid K1
  have Q1 := Lib.hid q1
  have HLL := Lib.hid hll
  clear H1 K1 q1 hll
  go_wp2_with fail
  refine (hlen_any _ _ _ _ (by omega)).mono ?_
  rintro e w2 ⟨rfl, rfl⟩
  go_wp2_with fail
  refine (heapUp_any base R g c1 (l ++ [x]) l.length _ HH1.out (by rw [HLL.out]; omega) (by rw [HLL.out]; omega)).mono ?_
  rintro e w3 ⟨rfl, m, hS, hQ, hK⟩
  have HS := Lib.hid hS
  have HQ3 := Lib.hid hQ
  have HK3 := Lib.hid hK
  clear hS hQ hK
  go_wp2_with fail
  go_end0
  refine ⟨rfl, some ⟨g, 0, none⟩, c1, m, HS.out.2.1, HQ3.out, HK1.out.trans_new HK3.out ?_, ?_⟩
  · exact Q1.out
  · exact Q1.out
def HPopOut (base R g c : Nat) (l : List Int) (w : World) (e : Ending) (w' : World) : Prop :=
  ∃ x m, e = .returned (.iface 3 (.int .i64 x)) ∧ (x :: m).Perm l ∧ HQ w' base R (some ⟨g, 0, none⟩) c m ∧ HK w w' R (some g)
set_option maxRecDepth 100000 in
set_option maxHeartbeats 1000000 in
theorem heapPop_any (base R g c n : Nat) (l : List Int) (w : World) (h : HQ w base R (some ⟨g, 0, none⟩) c l) (hl : l.length = n + 1) (hn : n ≤ 100000) :
    Calls Try.prog 100 #[.iface 142 (.pointer (some ⟨R, 0, none⟩))] w (HPopOut base R g c l w) := by
  have H := Lib.hid h
  have k0 := h.cell
  rw [hl] at k0
  have hm := fun k => m_len k R w _ _ _ k0
  have hs := fun k => m_swap k R w _ _ _ k0
  have hp := fun k w => m_pop k R w
  have HL := Lib.hid hl
  clear h hl
  go_enter Try.func100, Try.ntmps100
  go_wp2_with fail
  refine (hlen_any _ _ _ _ (by omega)).mono ?_
  rintro e w2 ⟨rfl, rfl⟩
  go_wp2_with fail
  refine (hswap_any base g (n + 1) c l 0 n _ (by have := H.out.row; rw [HL.out] at this; exact this) (by omega) (by omega) (by omega)).mono ?_
  rintro e w2 hsw
  have hsw' : SwapOut base g l.length c l 0 n w e w2 := by rw [HL.out]; exact hsw
  obtain ⟨hQ2, hK2⟩ := H.out.swapped hsw'
  obtain rfl := hsw.1
  have HQ2 := Lib.hid hQ2
  have HK2 := Lib.hid hK2
  clear hsw hsw' hQ2 hK2 hs hm
  go_wp2_with fail
  refine (heapDown_any base R g c n (swapL l 0 n) _ HQ2.out (by rw [swapL_length, HL.out]; omega) (by rw [swapL_length, HL.out]; omega)).mono ?_
  rintro e w3 ⟨b, rfl, m, hS, hQ, hK⟩
  obtain ⟨m3, x, rfl⟩ : ∃ m3 x, m = m3 ++ [x] := by
    rcases List.eq_nil_or_concat m with h | ⟨m3, x, h⟩
    · have := hS.1
      rw [h, swapL_length, HL.out] at this
      cases this
    · exact ⟨m3, x, by rw [h]; simp⟩
  have hlen : m3.length = n := by have := hS.1; rw [swapL_length, HL.out] at this; simpa using this
  have HS := Lib.hid hS
  have HQ3 := Lib.hid hQ
  have HK3 := Lib.hid (HK2.out.trans hK)
  have HLEN := Lib.hid hlen
  clear hS hQ hK hlen
  go_wp2_with fail
  refine (hpopm_any base R g c m3 x _ HQ3.out (by rw [HLEN.out]; omega)).mono ?_
  rintro e w4 ⟨rfl, hQ, hK⟩
  have HQ4 := Lib.hid hQ
  have HK4 := Lib.hid (HK3.out.trans hK)
  clear hQ hK
  go_wp2_with fail
  go_ret
  refine ⟨x, m3, rfl, ?_, HQ4.out, HK4.out⟩
  have h1 := HS.out.2.1
  have h2 := set_perm l 0 n (by rw [HL.out]; omega) (by rw [HL.out]; omega)
  have h3 : (x :: m3).Perm (m3 ++ [x]) := by have := List.perm_append_comm (l₁ := [x]) (l₂ := m3); simpa using this
  exact h3.trans (h1.trans h2)
end Go.Proofs.Ytoloaecbfglaeaa
