/- What the laws of chapter 24 call beside: rises, has, all, row, deepest. -/
import Derived.Test.YtkhlllbceceikaaDoorBothP
namespace Go.Proofs.YtkhlllbceceikaaDoor
open Go.RowKit
set_option linter.unusedVariables false
set_option linter.unusedSimpArgs false
set_option maxRecDepth 100000 in
theorem lrises_yes (A : Option Addr) (c : Nat) (l : List Int) (x : Int) (w : World) (hr : Rd w 1 A l.length c (ints l)) (hn : l.length ≤ 1000000) (hri : Cut.Rises l) (hx : ∀ z ∈ l, 1 ≤ z ∧ z ≤ x) :
    Calls Tryd.prog 25 #[.slice A l.length c, .int .i64 x] w fun r w' => r = .returned (.bool true) ∧ Below w.heap.size w w' := by
  have HA := Lib.hid hr
  have HRI := Lib.hid hri
  have HX := Lib.hid hx
  obtain ⟨n, hnn⟩ : ∃ n, l.length = n := ⟨_, rfl⟩
  have HN := Lib.hid hnn
  rw [hnn] at hn HA ⊢
  clear hr hri hx hnn
  go_enter Tryd.func25, Tryd.ntmps25
  go_wp2_with fail
  go_loopw [5] (fun i wx => ∃ k : Nat, k ≤ n ∧ i = .int .i64 (k : Int) ∧ Below w.heap.size w wx) (fun i _ => n - (intOf i).toNat)
  case atStart => exact ⟨0, by omega, rfl, Below.refl _ _⟩
  case round =>
    obtain ⟨k, hk, rfl, hB⟩ := hrel
    have B1 := Lib.hid hB
    clear hB
    by_cases hlt : k < n
    case neg =>
      obtain rfl : k = n := by omega
      go_wp2_with fail
      go_ret
      exact ⟨rfl, B1.out⟩
    have hm := HX.out _ (getD_mem (l := l) (k := k) (by rw [HN.out]; exact hlt))
    obtain ⟨a, hA, hab, d0⟩ := (HA.out.later B1.out).int (k := k) hlt
    subst hA
    have hlt' : (k : Int) < (n : Int) := by omega
    rcases Nat.eq_zero_or_pos k with h0 | h0
    · subst h0
      generalize l.getD 0 0 = y at hm d0
      rw [show a.add 0 = a from if_pos rfl] at d0
      have h1 : decide (y < 1) = false := decide_eq_false (by omega)
      have h2 : decide (x < y) = false := decide_eq_false (by omega)
      obtain ⟨h3, h4⟩ := hm
      go_wp2_with fail
      go_quiet (fail)
      go_wp2_with fail
      go_roundw
      case rel => exact ⟨1, by omega, by go_num, below_drewN B1.out _⟩
      case measure => simp [intOf]; omega
    · obtain ⟨j, rfl⟩ : ∃ j, k = j + 1 := ⟨k - 1, by omega⟩
      obtain ⟨a2, e2, -, d1⟩ := (HA.out.later B1.out).int (k := j) (by omega)
      obtain rfl := Option.some.inj e2
      have hlx := rises_at HRI.out (show j < j + 1 by omega) (by rw [HN.out]; exact hlt)
      generalize l.getD (j + 1) 0 = y at hm d0 hlx
      generalize l.getD j 0 = z at d1 hlx
      obtain ⟨m, hmm⟩ : ∃ m : Nat, j + 1 = m := ⟨_, rfl⟩
      have hm1 : (m : Int) - 1 = (j : Int) := by omega
      have hm2 : 0 < m := by omega
      have hjn : (j : Int) < (n : Int) := by omega
      have hjw : IntKind.i64.wrap (j : Int) = (j : Int) := IntWalk.i64_in _ (by omega)
      rw [hmm] at d0 hlt' hlt ⊢
      clear hmm e2
      have h1 : decide (y < 1) = false := decide_eq_false (by omega)
      have h2 : decide (x < y) = false := decide_eq_false (by omega)
      have h5 : decide (0 < m) = true := decide_eq_true (by omega)
      have h6 : decide (y ≤ z) = false := decide_eq_false (by omega)
      obtain ⟨h3, h4⟩ := hm
      go_wp2_with fail
      go_quiet (fail)
      go_wp2_with fail
      go_roundw
      case rel => exact ⟨m + 1, by omega, by go_num, below_drewN B1.out _⟩
      case measure => simp [intOf]; omega
set_option maxRecDepth 100000 in
theorem has_any (A : Option Addr) (c : Nat) (l : List Int) (x : Int) (w : World) (hr : Rd w 1 A l.length c (ints l)) (hn : l.length ≤ 1000000) :
    Calls Tryd.prog 28 #[.slice A l.length c, .int .i64 x] w fun r w' => r = .returned (.bool (decide (x ∈ l))) ∧ Below w.heap.size w w' := by
  obtain ⟨r, hrr⟩ : ∃ r, decide (x ∈ l) = r := ⟨_, rfl⟩
  have HR := Lib.hid hrr
  rw [hrr]
  have HA := Lib.hid hr
  obtain ⟨n, hnn⟩ : ∃ n, l.length = n := ⟨_, rfl⟩
  have HN := Lib.hid hnn
  rw [hnn] at hn HA ⊢
  clear hr hnn hrr
  go_enter Tryd.func28, Tryd.ntmps28
  go_wp2_with fail
  go_loopw [5] (fun i wx => ∃ k : Nat, k ≤ n ∧ i = .int .i64 (k : Int) ∧ x ∉ l.take k ∧ Below w.heap.size w wx) (fun i _ => n - (intOf i).toNat)
  case atStart => exact ⟨0, by omega, rfl, by simp, Below.refl _ _⟩
  case round =>
    obtain ⟨k, hk, rfl, hno, hB⟩ := hrel
    have B1 := Lib.hid hB
    have NO := Lib.hid hno
    clear hB hno
    by_cases hlt : k < n
    case neg =>
      obtain rfl : k = n := by omega
      have h1 : r = false := by
        rw [← HR.out]
        have := NO.out
        rw [List.take_of_length_le (by rw [HN.out]; exact Nat.le_refl _)] at this
        exact decide_eq_false this
      have H1 := Lib.hid h1
      clear h1
      go_wp2_with fail
      go_ret
      exact ⟨by rw [H1.out]; rfl, B1.out⟩
    obtain ⟨a, hA, hab, d0⟩ := (HA.out.later B1.out).int (k := k) hlt
    subst hA
    have hlt' : (k : Int) < (n : Int) := by omega
    by_cases he : l.getD k 0 = x
    · have h1 : r = true := by
        rw [← HR.out, ← he]
        exact decide_eq_true (getD_mem (by rw [HN.out]; exact hlt))
      have H1 := Lib.hid h1
      rw [he] at d0
      have hd : (x == x) = true := by simp
      clear h1 he
      go_wp2_with fail
      go_ret
      exact ⟨by rw [H1.out]; rfl, B1.out⟩
    · have HNX := Lib.hid (show x ∉ l.take (k + 1) by
        rw [take_one (d := 0) (by rw [HN.out]; exact hlt)]
        simp only [List.mem_append, List.mem_singleton, not_or]
        exact ⟨NO.out, fun e => he e.symm⟩)
      generalize l.getD k 0 = y at d0 he
      have hd : (y == x) = false := by simpa using he
      clear he
      go_wp2_with fail
      go_roundw
      case rel => exact ⟨k + 1, by omega, by go_num, HNX.out, B1.out⟩
      case measure => simp [intOf]; omega
set_option maxRecDepth 100000 in
theorem all_yes (A B : Option Addr) (c d : Nat) (l m : List Int) (w : World) (ha : Rd w 1 A l.length c (ints l)) (hb : Rd w 1 B m.length d (ints m)) (hn : l.length ≤ 1000000) (hm : m.length ≤ 1000000) (h : ∀ z ∈ m, z ∈ l) :
    Calls Tryd.prog 29 #[.slice A l.length c, .slice B m.length d] w fun r w' => r = .returned (.bool true) ∧ Below w.heap.size w w' := by
  have HH := Lib.hid (fun z W (hz : z ∈ m) (hw : Below w.heap.size w W) => (show Calls Tryd.prog 28 #[.slice A l.length c, .int .i64 z] W fun r w' => r = .returned (.bool true) ∧ Below W.heap.size W w' by
    have h1 := has_any A c l z W (ha.later hw) hn
    rwa [show decide (z ∈ l) = true from decide_eq_true (h z hz)] at h1))
  have HB := Lib.hid hb
  obtain ⟨n, hnn⟩ : ∃ n, m.length = n := ⟨_, rfl⟩
  have HN := Lib.hid hnn
  rw [hnn] at hm HB ⊢
  generalize l.length = q at HH ⊢
  clear ha hb hnn h hn
  go_enter Tryd.func29, Tryd.ntmps29
  go_wp2_with fail
  go_loopw [5] (fun i wx => ∃ k : Nat, k ≤ n ∧ i = .int .i64 (k : Int) ∧ Below w.heap.size w wx) (fun i _ => n - (intOf i).toNat)
  case atStart => exact ⟨0, by omega, rfl, Below.refl _ _⟩
  case round =>
    obtain ⟨k, hk, rfl, hB⟩ := hrel
    have B1 := Lib.hid hB
    clear hB
    by_cases hlt : k < n
    case neg =>
      obtain rfl : k = n := by omega
      go_wp2_with fail
      go_ret
      exact ⟨rfl, B1.out⟩
    obtain ⟨a, hA, hab, d0⟩ := (HB.out.later B1.out).int (k := k) hlt
    have hmem := getD_mem (l := m) (k := k) (by rw [HN.out]; exact hlt)
    have HC := Lib.hid (HH.out _ _ hmem B1.out)
    subst hA
    have hlt' : (k : Int) < (n : Int) := by omega
    clear hmem
    generalize m.getD k 0 = y at d0 HC
    go_wp2_with fail
    refine HC.out.mono ?_
    rintro e w2 ⟨rfl, hb2⟩
    have B2 := Lib.hid (below_then B1.out hb2)
    clear hb2
    go_wp2_with fail
    go_roundw
    case rel => exact ⟨k + 1, by omega, by go_num, B2.out⟩
    case measure => simp [intOf]; omega
/-- which row leaves' values are, as far as k -/
def rowTo (v : List Bool) (l : List Int) : Nat → Nat
  | 0 => 0
  | k + 1 => if v.getD (l.getD k 0).toNat false then rowTo v l k + 2 ^ k else rowTo v l k
theorem rowTo_lt (v : List Bool) (l : List Int) : ∀ k, rowTo v l k < 2 ^ k
  | 0 => by simp [rowTo]
  | k + 1 => by
    have ih := rowTo_lt v l k
    rw [Nat.pow_succ]
    unfold rowTo
    split <;> omega
theorem rowTo_bit (v : List Bool) (l : List Int) : ∀ k i, i < k → decide (rowTo v l k / 2 ^ i % 2 = 1) = v.getD (l.getD i 0).toNat false
  | 0, i, h => absurd h (by omega)
  | k + 1, i, h => by
    have hlt := rowTo_lt v l k
    rcases Nat.lt_or_ge i k with hi | hi
    · have ih := rowTo_bit v l k i hi
      have hp : 0 < 2 ^ i := Nat.pow_pos (by omega)
      obtain ⟨j, rfl⟩ : ∃ j, k = i + 1 + j := ⟨k - i - 1, by omega⟩
      rw [← ih]
      have e1 : rowTo v l (i + 1 + j + 1) = if v.getD (l.getD (i + 1 + j) 0).toNat false then rowTo v l (i + 1 + j) + 2 ^ (i + 1 + j) else rowTo v l (i + 1 + j) := rfl
      rw [e1]
      split
      · have e : (2 : Nat) ^ (i + 1 + j) = 2 ^ i * (2 * 2 ^ j) := by rw [Nat.pow_add, Nat.pow_add]; simp [Nat.mul_assoc, Nat.mul_comm, Nat.mul_left_comm]
        rw [e, Nat.add_mul_div_left _ _ hp, Nat.add_mul_mod_self_left]
      · rfl
    · obtain rfl : i = k := by omega
      unfold rowTo
      have hp : 0 < 2 ^ i := Nat.pow_pos (by omega)
      cases hv : v.getD (l.getD i 0).toNat false with
      | true =>
        rw [if_pos rfl, show (rowTo v l i + 2 ^ i) / 2 ^ i = 1 by rw [Nat.add_div_right _ hp, Nat.div_eq_of_lt hlt]]
        rfl
      | false =>
        rw [if_neg (by simp), Nat.div_eq_of_lt hlt]
        rfl
set_option maxRecDepth 100000 in
theorem row_any (A B : Option Addr) (c d : Nat) (v : List Bool) (l : List Int) (w : World) (ha : Rd w 1 A v.length c (bools v)) (hb : Rd w 1 B l.length d (ints l)) (hn : v.length ≤ 1000000) (hl : l.length ≤ 6) (h : NodesIn v.length l) :
    Calls Tryd.prog 33 #[.slice A v.length c, .slice B l.length d] w fun r w' => r = .returned (.int .i64 (rowTo v l l.length : Int)) ∧ Below w.heap.size w w' := by
  obtain ⟨r, hrr⟩ : ∃ r, rowTo v l l.length = r := ⟨_, rfl⟩
  have HR := Lib.hid hrr
  rw [hrr]
  have HA := Lib.hid ha
  have HB := Lib.hid hb
  have HH := Lib.hid h
  obtain ⟨n, hnn⟩ : ∃ n, l.length = n := ⟨_, rfl⟩
  have HN := Lib.hid hnn
  rw [hnn] at hl HB HR ⊢
  obtain ⟨N, hNN⟩ : ∃ n, v.length = n := ⟨_, rfl⟩
  rw [hNN] at hn HA HH ⊢
  clear ha hb hnn h hNN hrr
  go_enter Tryd.func33, Tryd.ntmps33
  go_wp2_with fail
  go_loopw [5, 6] (fun s i wx => ∃ k : Nat, k ≤ n ∧ i = .int .i64 (k : Int) ∧ s = .int .i64 (rowTo v l k : Int) ∧ Below w.heap.size w wx) (fun _ i _ => n - (intOf i).toNat)
  case atStart => exact ⟨0, by omega, rfl, rfl, Below.refl _ _⟩
  case round =>
    obtain ⟨k, hk, rfl, rfl, hB⟩ := hrel
    have B1 := Lib.hid hB
    clear hB
    by_cases hlt : k < n
    case neg =>
      obtain rfl : k = n := by omega
      have hr := HR.out
      have HR2 := Lib.hid hr
      clear hr
      generalize rowTo v l k = q at HR2
      go_wp2_with fail
      go_ret
      exact ⟨by rw [← HR2.out]; rfl, B1.out⟩
    have hm := HH.out _ (getD_mem (l := l) (k := k) (by rw [HN.out]; exact hlt))
    obtain ⟨z, hz⟩ : ∃ z : Nat, l.getD k 0 = (z : Int) := ⟨(l.getD k 0).toNat, by omega⟩
    obtain ⟨a, hA, hab, d0⟩ := (HB.out.later B1.out).int (k := k) hlt
    obtain ⟨a2, hA2, hab2, d1⟩ := (HA.out.later B1.out).bool (k := z) (by omega)
    subst hA
    subst hA2
    have hst : rowTo v l (k + 1) = if v.getD z false then rowTo v l k + 2 ^ k else rowTo v l k := by simp only [rowTo, hz, Int.toNat_natCast]
    have HST := Lib.hid hst
    have hlt' : (k : Int) < (n : Int) := by omega
    have h6 : decide ((k : Int) < 6) = true := decide_eq_true (by omega)
    have hzN : (z : Int) < (N : Int) := by omega
    have hzd : decide ((z : Int) < (N : Int)) = true := decide_eq_true hzN
    have hz0 : decide (0 ≤ (z : Int)) = true := decide_eq_true (by omega)
    have hb := rowTo_lt v l k
    obtain ⟨p, hp⟩ : ∃ p, 2 ^ k = p := ⟨_, rfl⟩
    have hp6 : p ≤ 64 := by
      rw [← hp]
      have : 2 ^ k ≤ 2 ^ 6 := Nat.pow_le_pow_right (by omega) (by omega)
      omega
    have hpi : (2 : Int) ^ k = (p : Int) := pow_nat hp
    rw [hp] at hb HST
    rw [hz] at d0
    clear hst hm hz hp
    cases hv : v.getD z false with
    | true =>
      rw [hv] at d1 HST
      clear hv
      generalize rowTo v l k = q at hb HST
      go_wp2_with fail
      go_roundw
      case rel => exact ⟨k + 1, by omega, by go_num, by rw [HST.out, if_pos rfl]; go_num, B1.out⟩
      case measure => simp [intOf]; omega
    | false =>
      rw [hv] at d1 HST
      clear hv
      generalize rowTo v l k = q at hb HST
      go_wp2_with fail
      go_roundw
      case rel => exact ⟨k + 1, by omega, by go_num, by rw [HST.out, if_neg (by simp)], B1.out⟩
      case measure => simp [intOf]; omega
set_option maxRecDepth 100000 in
theorem deepest_any (D A : Option Addr) (cd c N : Nat) (d l : List Int) (w : World) (hd : DepIn w D cd N d) (hl : Rd w 1 A l.length c (ints l)) (hn : NodesIn N l) (hll : l.length ≤ 1000000) :
    Calls Tryd.prog 31 #[.slice D N cd, .slice A l.length c] w fun r w' => r = .returned (.int .i64 (Cut.deepTo d l l.length)) ∧ Below w.heap.size w w' := by
  obtain ⟨r, hr⟩ : ∃ r, Cut.deepTo d l l.length = r := ⟨_, rfl⟩
  have HR := Lib.hid hr
  rw [hr]
  have HD := Lib.hid hd
  have HL := Lib.hid hl
  have HN := Lib.hid hn
  obtain ⟨m, hm⟩ : ∃ n, l.length = n := ⟨_, rfl⟩
  have HM := Lib.hid hm
  rw [hm] at HL hll HR ⊢
  have HB := Lib.hid (fun k => Cut.deepTo_bound (d := d) (l := l) (M := 1000000) (by omega) hd.small k)
  clear hd hl hn hr hm
  go_enter Tryd.func31, Tryd.ntmps31
  go_wp2_with fail
  go_loopw [5, 6] (fun v5 v6 wx => ∃ k : Nat, k ≤ m ∧ v6 = .int .i64 (k : Int) ∧ v5 = .int .i64 (Cut.deepTo d l k) ∧ Below w.heap.size w wx) (fun _ v6 _ => m - (intOf v6).toNat)
  case atStart => exact ⟨0, by omega, rfl, rfl, Below.refl _ _⟩
  case round =>
    obtain ⟨k, hk, rfl, rfl, hbe⟩ := hrel
    have B3 := Lib.hid hbe
    clear hbe
    by_cases hlt : k < m
    case neg =>
      obtain rfl : k = m := by omega
      have hr := HR.out
      have HRR := Lib.hid hr
      clear hr
      generalize Cut.deepTo d l k = t at HRR
      go_wp2_with fail
      go_ret
      exact ⟨by rw [← HRR.out]; rfl, B3.out⟩
    have hnod := HN.out _ (getD_mem (l := l) (k := k) (by rw [HM.out]; exact hlt))
    obtain ⟨x, hx⟩ : ∃ x : Nat, l.getD k 0 = (x : Int) := ⟨(l.getD k 0).toNat, by omega⟩
    obtain ⟨pa, hA, hab, d0⟩ := (HL.out.later B3.out).int (k := k) hlt
    obtain ⟨pd, hD, hdb, e0⟩ := (HD.out.rd.later B3.out).int (k := x) (by omega)
    have hst : Cut.deepTo d l (k + 1) = max (Cut.deepTo d l k) (d.getD x 0) := by simp only [Cut.deepTo, hx, Int.toNat_natCast]
    have HST := Lib.hid hst
    have hb := HB.out k
    have hxN : (x : Int) < (N : Int) := by omega
    have hkm : (k : Int) < (m : Int) := by omega
    have hxd : decide ((x : Int) < (N : Int)) = true := decide_eq_true hxN
    have hx0 : decide (0 ≤ (x : Int)) = true := decide_eq_true (by omega)
    rw [hx] at d0
    clear hst hnod hx
    subst hA
    subst hD
    generalize Cut.deepTo d l k = t at hb HST
    generalize d.getD x 0 = y at e0 HST
    obtain ⟨hb0, hb1⟩ := hb
    go_wp2_with fail
    go_roundw
    case rel => exact ⟨k + 1, by omega, by go_num, by rw [HST.out], B3.out⟩
    case measure => simp [intOf]; omega
end Go.Proofs.YtkhlllbceceikaaDoor
