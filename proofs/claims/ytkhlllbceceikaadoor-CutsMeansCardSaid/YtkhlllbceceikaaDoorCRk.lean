/- cmp.Compare, slices.Compare, and the two closures of cuts.sets. -/
import Derived.Test.YtkhlllbceceikaaDoorRank
import Derived.BigQuiet
import Derived.Deep.QuietTactic
import Derived.Deep.RegionHeld3
import Derived.Deep.DrawnRows
namespace Go.Proofs.YtkhlllbceceikaaDoor
open Go.RowKit Go.Shelf Go.Lib Go.Sort
set_option linter.unusedVariables false
set_option linter.unusedSimpArgs false

theorem isNaN_any (a : Int) (w : World) : Calls Tryd.prog 93 #[.int .i64 a] w fun e w' => e = .returned (.bool false) ∧ w = w' := by
  go_enter Tryd.func93, Tryd.ntmps93
  go_wp2
  go_ret
  exact ⟨by simp, rfl⟩
theorem compare_any (a b : Int) (w : World) : Calls Tryd.prog 95 #[.int .i64 a, .int .i64 b] w fun e w' => e = .returned (.int .i64 (Cut.cmpI a b)) ∧ w = w' := by
  by_cases h1 : a < b
  · have e : Cut.cmpI a b = -1 := if_pos h1
    rw [e]; clear e
    go_enter Tryd.func95, Tryd.ntmps95
    go_wp2_with (go_at_call 93; refine (isNaN_any _ _).mono ?_; rintro e w1 ⟨rfl, rfl⟩)
    go_ret
    exact ⟨rfl, rfl⟩
  · by_cases h2 : b < a
    · have e : Cut.cmpI a b = 1 := by unfold Cut.cmpI; rw [if_neg h1, if_pos h2]
      rw [e]; clear e
      go_enter Tryd.func95, Tryd.ntmps95
      go_wp2_with (go_at_call 93; refine (isNaN_any _ _).mono ?_; rintro e w1 ⟨rfl, rfl⟩)
      go_ret
      exact ⟨rfl, rfl⟩
    · have e : Cut.cmpI a b = 0 := by unfold Cut.cmpI; rw [if_neg h1, if_neg (by omega)]
      rw [e]; clear e
      go_enter Tryd.func95, Tryd.ntmps95
      go_wp2_with (go_at_call 93; refine (isNaN_any _ _).mono ?_; rintro e w1 ⟨rfl, rfl⟩)
      go_ret
      exact ⟨rfl, rfl⟩
theorem cmpL_step {l m : List Int} {k : Nat} (h1 : k < l.length) (h2 : k < m.length) : Cut.cmpL (l.drop k) (m.drop k) = if Cut.cmpI (l.getD k 0) (m.getD k 0) ≠ 0 then Cut.cmpI (l.getD k 0) (m.getD k 0) else Cut.cmpL (l.drop (k + 1)) (m.drop (k + 1)) := by
  rw [Cut.drop_at h1, Cut.drop_at h2, Cut.cmpL]
set_option maxRecDepth 100000 in
set_option maxHeartbeats 2000000 in
theorem compares_any (A B : Option Addr) (c d : Nat) (l m : List Int) (w : World) (ha : Rd w 1 A l.length c (ints l)) (hb : Rd w 1 B m.length d (ints m)) (hl : l.length ≤ 1000000) (hm : m.length ≤ 1000000) :
    Calls Tryd.prog 80 #[.slice A l.length c, .slice B m.length d] w fun e w' => e = .returned (.int .i64 (Cut.cmpL l m)) ∧ w = w' := by
  obtain ⟨r, hr⟩ : ∃ r, Cut.cmpL l m = r := ⟨_, rfl⟩
  have HR := Lib.hid hr
  rw [hr]
  obtain ⟨n, hn⟩ : ∃ n, l.length = n := ⟨_, rfl⟩
  obtain ⟨q, hq⟩ : ∃ n, m.length = n := ⟨_, rfl⟩
  have HN := Lib.hid hn
  have HQ := Lib.hid hq
  have HA := Lib.hid ha
  have HB := Lib.hid hb
  rw [hn] at HA hl ⊢
  rw [hq] at HB hm ⊢
  clear ha hb hn hq hr
  go_enter Tryd.func80, Tryd.ntmps80
  go_wp2_with fail
  go_loop [11] (fun i => ∃ k : Nat, k ≤ n ∧ k ≤ q ∧ i = .int .i64 (k : Int) ∧ Cut.cmpL (l.drop k) (m.drop k) = r) (fun i => n - (intOf i).toNat)
  case atStart => exact ⟨0, by omega, by omega, rfl, by simpa using HR.out⟩
  case round =>
    obtain ⟨k, hk, hkq, rfl, hc⟩ := hrel
    by_cases h1 : k < n
    case neg =>
      obtain rfl : k = n := by omega
      have e1 : l.drop k = [] := List.drop_eq_nil_of_le (by rw [HN.out]; exact Nat.le_refl _)
      rw [e1] at hc
      by_cases h2 : k < q
      · have hr1 : r = -1 := by
          rw [← hc, Cut.drop_at (by rw [HQ.out]; exact h2)]; rfl
        have HR1 := Lib.hid hr1
        have h2' : (k : Int) < (q : Int) := by omega
        clear hc hr1
        go_wp2_with fail
        go_ret
        exact ⟨by rw [HR1.out]; rfl, rfl⟩
      · have hr1 : r = 0 := by
          rw [← hc, List.drop_eq_nil_of_le (by rw [HQ.out]; omega)]; rfl
        have HR1 := Lib.hid hr1
        have h2' : ¬ (k : Int) < (q : Int) := by omega
        clear hc hr1
        go_wp2_with fail
        go_ret
        exact ⟨by rw [HR1.out]; rfl, rfl⟩
    have h1' : (k : Int) < (n : Int) := by omega
    obtain ⟨pa, hA, hab, d0⟩ := HA.out.int (k := k) h1
    subst hA
    by_cases h2 : k < q
    case neg =>
      have hr1 : r = 1 := by
        rw [← hc, show m.drop k = [] from List.drop_eq_nil_of_le (by rw [HQ.out]; omega), Cut.drop_at (show k < l.length by rw [HN.out]; exact h1)]; rfl
      have HR1 := Lib.hid hr1
      have h2' : (q : Int) ≤ (k : Int) := by omega
      clear hc hr1
      go_wp2_with fail
      go_ret
      exact ⟨by rw [HR1.out]; rfl, rfl⟩
    have h2' : ¬ (q : Int) ≤ (k : Int) := by omega
    have h2'' : (k : Int) < (q : Int) := by omega
    obtain ⟨pb, hB, hbb, e0⟩ := HB.out.int (k := k) h2
    subst hB
    rw [cmpL_step (by rw [HN.out]; exact h1) (by rw [HQ.out]; exact h2)] at hc
    generalize l.getD k 0 = u at d0 hc
    generalize m.getD k 0 = v at e0 hc
    have HCC := Lib.hid (fun (W : World) => compare_any u v W)
    generalize Cut.cmpI u v = z at hc HCC
    by_cases hz : z = 0
    · subst hz
      rw [if_neg (by simp)] at hc
      have HC := Lib.hid hc
      clear hc
      go_wp2_with (go_at_call 95; refine (HCC.out _).mono ?_; rintro e w1 ⟨rfl, rfl⟩)
      go_round
      case rel => exact ⟨k + 1, by omega, by omega, by go_num, HC.out⟩
      case measure => simp [intOf]; omega
    · rw [if_pos hz] at hc
      have HC := Lib.hid hc
      have hz' : (z != 0) = true := by simp [hz]
      clear hc
      go_wp2_with (go_at_call 95; refine (HCC.out _).mono ?_; rintro e w1 ⟨rfl, rfl⟩)
      go_ret
      exact ⟨by rw [← HC.out]; rfl, rfl⟩
theorem grow_two (w : World) (a b : Obj) : ((w.alloc a).alloc b).drew = grow (w.drewN 1) #[a, b] := by
  unfold grow World.alloc World.drewN World.drew
  simp
  rfl
theorem rd_first {w : World} {g : Nat} {t : TypeId} {cs : List Value} {n : Nat} (h : Blk w g t cs.toArray) (hn : n ≤ cs.length) : Rd w 1 (some ⟨g, 0, none⟩) n n (cs.take n) := by
  refine ⟨by simp; omega, Nat.le_refl _, (fun e => nomatch e), fun j u hj => ⟨⟨g, 0, none⟩, rfl, h.lt, ?_⟩⟩
  have hjn : j < n := by
    rcases Nat.lt_or_ge j n with h1 | h1
    · exact h1
    · rw [List.getElem?_eq_none (by simp; omega)] at hj; cases hj
  rw [List.getElem?_take_of_lt hjn] at hj
  have := h.cell j
  rw [Addr.add_lit]
  simpa using this.trans (by simpa using hj)
set_option maxRecDepth 100000 in
set_option maxHeartbeats 2000000 in
theorem sets1_any (a0 a1 a2 a3 a4 a5 a6 a7 b0 b1 b2 b3 b4 b5 b6 b7 : Int) (x y : Value) (w : World) :
    Calls Tryd.prog 79 #[.agg #[.int .i64 a0, .int .i64 a1, .int .i64 a2, .int .i64 a3, .int .i64 a4, .int .i64 a5, .int .i64 a6, .int .i64 a7, x], .agg #[.int .i64 b0, .int .i64 b1, .int .i64 b2, .int .i64 b3, .int .i64 b4, .int .i64 b5, .int .i64 b6, .int .i64 b7, y]] w fun e w' => e = .returned (.int .i64 (Cut.cmpL [a0, a1, a2, a3, a4, a5, a6, a7] [b0, b1, b2, b3, b4, b5, b6, b7])) ∧ w' = grow (w.drewN 1) #[.cells #[.int .i64 a0, .int .i64 a1, .int .i64 a2, .int .i64 a3, .int .i64 a4, .int .i64 a5, .int .i64 a6, .int .i64 a7, x] 105, .cells #[.int .i64 b0, .int .i64 b1, .int .i64 b2, .int .i64 b3, .int .i64 b4, .int .i64 b5, .int .i64 b6, .int .i64 b7, y] 105] := by
  have X1 : Blk ((w.alloc (.cells #[.int .i64 a0, .int .i64 a1, .int .i64 a2, .int .i64 a3, .int .i64 a4, .int .i64 a5, .int .i64 a6, .int .i64 a7, x] 105)).alloc (.cells #[.int .i64 b0, .int .i64 b1, .int .i64 b2, .int .i64 b3, .int .i64 b4, .int .i64 b5, .int .i64 b6, .int .i64 b7, y] 105)).drew w.heap.size 105 #[.int .i64 a0, .int .i64 a1, .int .i64 a2, .int .i64 a3, .int .i64 a4, .int .i64 a5, .int .i64 a6, .int .i64 a7, x] := ((Blk.made w _ _).alloc _)
  have Y1 : Blk ((w.alloc (.cells #[.int .i64 a0, .int .i64 a1, .int .i64 a2, .int .i64 a3, .int .i64 a4, .int .i64 a5, .int .i64 a6, .int .i64 a7, x] 105)).alloc (.cells #[.int .i64 b0, .int .i64 b1, .int .i64 b2, .int .i64 b3, .int .i64 b4, .int .i64 b5, .int .i64 b6, .int .i64 b7, y] 105)).drew (w.heap.size + 1) 105 #[.int .i64 b0, .int .i64 b1, .int .i64 b2, .int .i64 b3, .int .i64 b4, .int .i64 b5, .int .i64 b6, .int .i64 b7, y] := by
    have h := Blk.made (w.alloc (.cells #[.int .i64 a0, .int .i64 a1, .int .i64 a2, .int .i64 a3, .int .i64 a4, .int .i64 a5, .int .i64 a6, .int .i64 a7, x] 105)) 105 #[.int .i64 b0, .int .i64 b1, .int .i64 b2, .int .i64 b3, .int .i64 b4, .int .i64 b5, .int .i64 b6, .int .i64 b7, y]
    rw [World.size_alloc] at h
    exact h
  have R1 := rd_first (cs := [.int .i64 a0, .int .i64 a1, .int .i64 a2, .int .i64 a3, .int .i64 a4, .int .i64 a5, .int .i64 a6, .int .i64 a7, x]) X1 (n := 8) (by simp)
  have R2 := rd_first (cs := [.int .i64 b0, .int .i64 b1, .int .i64 b2, .int .i64 b3, .int .i64 b4, .int .i64 b5, .int .i64 b6, .int .i64 b7, y]) Y1 (n := 8) (by simp)
  have HC := Lib.hid (compares_any _ _ 8 8 [a0, a1, a2, a3, a4, a5, a6, a7] [b0, b1, b2, b3, b4, b5, b6, b7] _ R1 R2 (by simp) (by simp))
  have hw : ((w.alloc (.cells #[.int .i64 a0, .int .i64 a1, .int .i64 a2, .int .i64 a3, .int .i64 a4, .int .i64 a5, .int .i64 a6, .int .i64 a7, x] 105)).alloc (.cells #[.int .i64 b0, .int .i64 b1, .int .i64 b2, .int .i64 b3, .int .i64 b4, .int .i64 b5, .int .i64 b6, .int .i64 b7, y] 105)).drew = grow (w.drewN 1) #[.cells #[.int .i64 a0, .int .i64 a1, .int .i64 a2, .int .i64 a3, .int .i64 a4, .int .i64 a5, .int .i64 a6, .int .i64 a7, x] 105, .cells #[.int .i64 b0, .int .i64 b1, .int .i64 b2, .int .i64 b3, .int .i64 b4, .int .i64 b5, .int .i64 b6, .int .i64 b7, y] 105] := by
    exact grow_two _ _ _
  have HW := Lib.hid hw
  obtain ⟨r, hr⟩ : ∃ r, Cut.cmpL [a0, a1, a2, a3, a4, a5, a6, a7] [b0, b1, b2, b3, b4, b5, b6, b7] = r := ⟨_, rfl⟩
  rw [hr] at HC ⊢
  clear R1 R2 X1 Y1 hr hw
  go_enter Tryd.func79, Tryd.ntmps79
  go_wp2_with fail
  go_region_with (go_at_call 80; refine HC.out.mono ?_; rintro e w9 ⟨rfl, rfl⟩)
  go_wp2_with fail
  go_ret
  exact ⟨rfl, HW.out⟩
theorem rank_eq (a0 a1 a2 a3 a4 a5 a6 a7 b0 b1 b2 b3 b4 b5 b6 b7 : Int) (w : World) : (Op.equalIn 10000 103 (.agg #[.int .i64 a0, .int .i64 a1, .int .i64 a2, .int .i64 a3, .int .i64 a4, .int .i64 a5, .int .i64 a6, .int .i64 a7]) (.agg #[.int .i64 b0, .int .i64 b1, .int .i64 b2, .int .i64 b3, .int .i64 b4, .int .i64 b5, .int .i64 b6, .int .i64 b7])).run Tryd.prog w = .ok (decide ([a0, a1, a2, a3, a4, a5, a6, a7] = [b0, b1, b2, b3, b4, b5, b6, b7])) w := by
  have iu := Tryd.underlying3
  have ia := Tryd.isAgg3
  have iz := Tryd.sizeOf3
  rw [show (10000 : Nat) = 9999 + 1 from rfl, Op.equalIn]
  simp only [Sem.run_bind, run_underlying Tryd.underlying103, Result.andThen_ok]
  simp only [Std.Legacy.Range.forIn_eq_forIn_range', Std.Legacy.Range.size, Nat.sub_zero, Nat.add_sub_cancel, Nat.div_one, List.range'_succ, List.range'_zero, List.forIn_cons, List.forIn_nil]
  go_simp
  by_cases h0 : a0 = b0
  case neg => simp [h0]
  by_cases h1 : a1 = b1
  case neg => simp [h0, h1]
  by_cases h2 : a2 = b2
  case neg => simp [h0, h1, h2]
  by_cases h3 : a3 = b3
  case neg => simp [h0, h1, h2, h3]
  by_cases h4 : a4 = b4
  case neg => simp [h0, h1, h2, h3, h4]
  by_cases h5 : a5 = b5
  case neg => simp [h0, h1, h2, h3, h4, h5]
  by_cases h6 : a6 = b6
  case neg => simp [h0, h1, h2, h3, h4, h5, h6]
  by_cases h7 : a7 = b7
  case neg => simp [h0, h1, h2, h3, h4, h5, h6, h7]
  simp [h0, h1, h2, h3, h4, h5, h6, h7]
set_option maxRecDepth 100000 in
set_option maxHeartbeats 2000000 in
theorem sets2_any (a0 a1 a2 a3 a4 a5 a6 a7 b0 b1 b2 b3 b4 b5 b6 b7 : Int) (x y : Value) (w : World) :
    Calls Tryd.prog 82 #[.agg #[.int .i64 a0, .int .i64 a1, .int .i64 a2, .int .i64 a3, .int .i64 a4, .int .i64 a5, .int .i64 a6, .int .i64 a7, x], .agg #[.int .i64 b0, .int .i64 b1, .int .i64 b2, .int .i64 b3, .int .i64 b4, .int .i64 b5, .int .i64 b6, .int .i64 b7, y]] w fun e w' => e = .returned (.bool (decide ([a0, a1, a2, a3, a4, a5, a6, a7] = [b0, b1, b2, b3, b4, b5, b6, b7]))) ∧ Below w.heap.size w w' := by
  have HE := fun W => rank_eq a0 a1 a2 a3 a4 a5 a6 a7 b0 b1 b2 b3 b4 b5 b6 b7 W
  obtain ⟨r, hr⟩ : ∃ r, decide ([a0, a1, a2, a3, a4, a5, a6, a7] = [b0, b1, b2, b3, b4, b5, b6, b7]) = r := ⟨_, rfl⟩
  rw [hr] at HE ⊢
  have B1 := Lib.hid (below_then (below_new w (.cells #[.int .i64 a0, .int .i64 a1, .int .i64 a2, .int .i64 a3, .int .i64 a4, .int .i64 a5, .int .i64 a6, .int .i64 a7, x] 105)) (below_new _ (.cells #[.int .i64 b0, .int .i64 b1, .int .i64 b2, .int .i64 b3, .int .i64 b4, .int .i64 b5, .int .i64 b6, .int .i64 b7, y] 105)))
  go_enter Tryd.func82, Tryd.ntmps82
  go_wp2_with fail
  go_ret
  exact ⟨rfl, B1.out⟩
end Go.Proofs.YtkhlllbceceikaaDoor
