/- Walks of filigreeref31: switches, alone, pads. -/
import Derived.Test.YtoloaecbfglaeaaGreatRefE
import Derived.Test.YtoloaecbfglaeaaGreatBchk
import Derived.BigQuiet
import Derived.Deep.QuietTactic
namespace Go.Proofs.YtoloaecbfglaeaaGreat
open Go.RowKit
set_option linter.unusedVariables false
set_option linter.unusedSimpArgs false

theorem rswitches_yes (W H T : Int) (w : World) (h : okA W H T) :
    Calls Tryz.prog 48 #[.agg #[.int .i64 W, .int .i64 H, .int .i64 T]] w fun e w' => e = .returned (.int .i64 ((edgesL W H T).length : Int)) ∧ Below w.heap.size w w' := by
  have Q0 := below_new w (.cells #[.int .i64 W, .int .i64 H, .int .i64 T] 23)
  have HO := Lib.hid h
  clear h
  go_enter Tryz.func48, Tryz.ntmps48
  go_wp2_with fail
  refine (redges_yes _ _ _ _ HO.out).mono ?_
  rintro e w1 ⟨v, rfl, hb1, hown⟩
  obtain ⟨AA, c, hv⟩ := own_slice hown
  subst hv
  have Q1 := below_then Q0 hb1
  clear hb1 hown
  go_wp2_with fail
  go_ret
  exact ⟨rfl, Q1⟩

/-! ### alone -/
theorem pads_next {m : Int} {l : List Int} {i : Nat} (h : padsOk m (l.take i)) (hi : i < l.length) (h0 : 0 ≤ l.getD i 0) (h1 : l.getD i 0 < m) (hd : ∀ q, q < i → l.getD q 0 ≠ l.getD i 0) : padsOk m (l.take (i + 1)) := by
  have e : l.getD i 0 = l[i] := by rw [List.getD_eq_getElem?_getD, List.getElem?_eq_getElem hi]; rfl
  rw [e] at h0 h1 hd
  rw [List.take_succ_eq_append_getElem hi]
  refine ⟨fun p hp => ?_, ?_⟩
  · rcases List.mem_append.1 hp with hp | hp
    · exact h.1 p hp
    · simp at hp; subst hp; exact ⟨h0, h1⟩
  · rw [List.nodup_append]
    refine ⟨h.2, by simp, fun a ha b hb hab => ?_⟩
    simp at hb
    subst hb
    subst hab
    obtain ⟨q, hq, e2⟩ := List.mem_iff_getElem.1 ha
    rw [List.length_take] at hq
    refine hd q (by omega) ?_
    rw [List.getD_eq_getElem?_getD, List.getElem?_eq_getElem (show q < l.length by omega)]
    rw [List.getElem_take] at e2
    exact e2
theorem pads_out {m : Int} {l : List Int} {i : Nat} (hi : i < l.length) (h : l.getD i 0 < 0 ∨ m ≤ l.getD i 0) : ¬ padsOk m l := by
  have e : l.getD i 0 = l[i] := by rw [List.getD_eq_getElem?_getD, List.getElem?_eq_getElem hi]; rfl
  rw [e] at h
  intro hp
  have := hp.1 l[i] (List.getElem_mem hi)
  omega
theorem pads_twice {m : Int} {l : List Int} {i q : Nat} (hi : i < l.length) (hq : q < i) (h : l.getD q 0 = l.getD i 0) : ¬ padsOk m l := by
  intro hp
  rw [List.getD_eq_getElem?_getD, List.getD_eq_getElem?_getD, List.getElem?_eq_getElem hi, List.getElem?_eq_getElem (show q < l.length by omega)] at h
  exact List.pairwise_iff_getElem.1 hp.2 q i (by omega) hi hq h

set_option maxRecDepth 100000 in
set_option maxHeartbeats 1000000 in
theorem alone_any (w : World) (A : Option Addr) (n c : Nat) (l : List Int) (m : Int) (b : Bool) (hb : decide (padsOk m l) = b) (hr : Rd w 1 A n c (ints l)) (hn : n ≤ 100000000) :
    Calls Tryz.prog 49 #[.slice A n c, .int .i64 m] w fun e w' => e = .returned (.bool b) ∧ Below w.heap.size w w' := by
  have hl : l.length = n := by have := hr.len; rw [ints_length] at this; omega
  have HB := Lib.hid hb
  have HR := Lib.hid hr
  have HL := Lib.hid hl
  clear hb hr hl
  go_enter Tryz.func49, Tryz.ntmps49
  go_wp2_with fail
  go_loopw [5] (fun i wx => ∃ k : Nat, k ≤ n ∧ i = .int .i64 (k : Int) ∧ Below w.heap.size w wx ∧ padsOk m (l.take k)) (fun i _ => n - (intOf i).toNat)
  case atStart => exact ⟨0, by omega, rfl, Below.refl _ _, by constructor <;> simp⟩
  case round =>
    obtain ⟨k, hk, rfl, hbb, hp⟩ := hrel
    have HBB := Lib.hid hbb
    have HP := Lib.hid hp
    clear hbb hp
    by_cases hlt : k < n
    · obtain ⟨a, rfl, hab, c0⟩ := (HR.out.later HBB.out).int hlt
      have hkl : k < l.length := by rw [HL.out]; exact hlt
      obtain ⟨z, hz⟩ : ∃ z, l.getD k 0 = z := ⟨_, rfl⟩
      rw [hz] at c0
      have HZ := Lib.hid hz
      clear hz
      by_cases h0 : z < 0
      · have he : b = false := by rw [← HB.out]; exact decide_eq_false (pads_out hkl (.inl (by rw [HZ.out]; exact h0)))
        have HE := Lib.hid he
        clear he
        go_wp2_with fail
        go_ret
        exact ⟨by rw [HE.out]; rfl, HBB.out⟩
      · have h0' : decide (z < 0) = false := decide_eq_false h0
        by_cases h1 : m ≤ z
        · have he : b = false := by rw [← HB.out]; exact decide_eq_false (pads_out hkl (.inr (by rw [HZ.out]; exact h1)))
          have HE := Lib.hid he
          have h1' : decide (m ≤ z) = true := decide_eq_true h1
          clear he
          go_wp2_with fail
          go_ret
          exact ⟨by rw [HE.out]; rfl, HBB.out⟩
        · have h1' : decide (m ≤ z) = false := decide_eq_false h1
          go_wp2_with fail
          go_loopw [6] (fun i wx => ∃ q : Nat, q ≤ k ∧ i = .int .i64 (q : Int) ∧ Below w.heap.size w wx ∧ Hid (∀ r, r < q → l.getD r 0 ≠ z)) (fun i _ => k - (intOf i).toNat)
          case atStart => exact ⟨0, by omega, rfl, HBB.out, Lib.hid (fun r hr => by omega)⟩
          case round =>
            clear HBB c0
            obtain ⟨q, hq, rfl, hbb, hd⟩ := hrel
            have HBB := Lib.hid hbb
            clear hbb
            by_cases hqk : q < k
            · obtain ⟨a2, e2, -, c1⟩ := (HR.out.later HBB.out).int (k := q) (by omega)
              obtain rfl := Option.some.inj e2
              obtain ⟨a3, e3, -, c0⟩ := (HR.out.later HBB.out).int hlt
              obtain rfl := Option.some.inj e3
              rw [HZ.out] at c0
              obtain ⟨y, hy⟩ : ∃ y, l.getD q 0 = y := ⟨_, rfl⟩
              rw [hy] at c1
              have HY := Lib.hid hy
              clear hy e2 e3
              have i0 : (0 : Int) ≤ (q : Int) := by omega
              have i1 : (q : Int) < (n : Int) := by omega
              have i2 : (0 : Int) ≤ (k : Int) := by omega
              have i3 : (k : Int) < (n : Int) := by omega
              by_cases he : y = z
              · have hee : b = false := by rw [← HB.out]; exact decide_eq_false (pads_twice hkl hqk (by rw [HY.out, HZ.out]; exact he))
                have HE := Lib.hid hee
                have hyz : (y == z) = true := by simpa using he
                clear hee he
                go_wp2_with fail
                go_quiet (fail)
                go_wp2_with fail
                go_ret
                exact ⟨by rw [HE.out]; rfl, below_drewN HBB.out _⟩
              · have hyz : (y == z) = false := by simpa using he
                go_wp2_with fail
                go_quiet (fail)
                go_wp2_with fail
                go_roundw
                case rel => exact ⟨q + 1, by omega, by go_num, below_drewN HBB.out _, Lib.hid (fun r hr => by
                  by_cases e : r = q
                  · subst e; rw [HY.out]; exact he
                  · exact hd.out r (by omega))⟩
                case measure => simp [intOf]; omega
            · obtain rfl : q = k := by omega
              go_wp2_with fail
              go_roundw
              case rel => exact ⟨q + 1, by omega, by go_num, HBB.out, pads_next HP.out hkl (by rw [HZ.out]; omega) (by rw [HZ.out]; omega) (by rw [HZ.out]; exact hd.out)⟩
              case measure => simp [intOf]; omega
    · obtain rfl : k = n := by omega
      have he : b = true := by
        have := HP.out
        rw [List.take_of_length_le (by rw [HL.out]; exact Nat.le_refl _)] at this
        rw [← HB.out]; exact decide_eq_true this
      have HE := Lib.hid he
      clear he
      go_wp2_with fail
      go_ret
      exact ⟨by rw [HE.out]; rfl, HBB.out⟩
end Go.Proofs.YtoloaecbfglaeaaGreat
