/- filigreeref24.full, turned, values. -/
import Derived.Test.YtkhlllbceceikaaDoorRVal
namespace Go.Proofs.YtkhlllbceceikaaDoor
open Go.RowKit
set_option linter.unusedVariables false
set_option linter.unusedSimpArgs false

set_option maxRecDepth 100000 in
theorem full_any (n : Nat) (w : World) (hn : n ≤ 6) :
    Calls Tryd.prog 65 #[.int .i64 (n : Int)] w fun r w' => r = .returned (.int .u64 (Cut.rows n : Int)) ∧ w = w' := by
  obtain ⟨x, hx⟩ : ∃ x, Cut.colM 0 n = x := ⟨_, rfl⟩
  have hx64 : x < 18446744073709551616 := by rw [← hx]; exact Cut.colM_lt 0 n hn
  have hf := Cut.full_eq n hn
  rw [hx] at hf
  obtain ⟨d, hd⟩ : ∃ d, x / 2 = d := ⟨_, rfl⟩
  have hd64 : d < 18446744073709551616 := by omega
  have HD : (x : Int) / 2 = (d : Int) := by rw [← hd]; rfl
  have HO1 := u64_or_nat x d hx64 hd64
  rw [hd] at hf
  obtain ⟨y, hy⟩ : ∃ y, x ||| d = y := ⟨_, rfl⟩
  rw [hy] at HO1 hf
  have hy64 : y < 18446744073709551616 := by rw [← hy]; exact Nat.or_lt_two_pow (n := 64) hx64 hd64
  have HO2 := u64_or_nat y 1 hy64 (by omega)
  rw [hf] at HO2
  have HO2' : bits .or .u64 (y : Int) 1 = (Cut.rows n : Int) := HO2
  have HC := Lib.hid (fun (W : World) => hx ▸ column_any 0 n W (by omega) hn)
  clear hx hf hd hy HO2
  generalize Cut.rows n = R at HO2' ⊢
  go_enter Tryd.func65, Tryd.ntmps65
  go_wp2_with fail
  refine (HC.out _).mono ?_
  rintro e w1 ⟨rfl, rfl⟩
  go_wp2_with fail
  refine (HC.out _).mono ?_
  rintro e w1 ⟨rfl, rfl⟩
  go_wp2_with fail
  go_ret
  exact ⟨rfl, rfl⟩
theorem u64_not_nat (a : Nat) (ha : a < 18446744073709551616) : bits .xor .u64 18446744073709551615 (a : Int) = ((a ^^^ Cut.ones : Nat) : Int) := by
  have e : bits .xor .u64 18446744073709551615 (a : Int) = IntKind.u64.wrap ((BitVec.ofInt 64 18446744073709551615 ^^^ BitVec.ofInt 64 (a : Int)).toNat : Int) := rfl
  have e1 : (BitVec.ofInt 64 (a : Int)).toNat = a := by simp; omega
  have e2 : (BitVec.ofInt 64 18446744073709551615).toNat = Cut.ones := by decide
  have h : Cut.ones ^^^ a < 2 ^ 64 := Nat.xor_lt_two_pow (by decide) (by omega)
  rw [e, BitVec.toNat_xor, e1, e2, Nat.xor_comm]
  rw [Nat.xor_comm] at h
  show ((a ^^^ Cut.ones : Nat) : Int) % 18446744073709551616 = _
  omega
theorem xor_ones_lt (a : Nat) (ha : a < 18446744073709551616) : a ^^^ Cut.ones < 18446744073709551616 := Nat.xor_lt_two_pow (n := 64) (by omega) (by decide)
def u64s (l : List Nat) : List Value := l.map fun (n : Nat) => .int .u64 (n : Int)
theorem Rd.u64 {w : World} {A : Option Addr} {n c : Nat} {l : List Nat} (h : Rd w 1 A n c (u64s l)) {k : Nat} (hk : k < n) : ∃ a, A = some a ∧ a.block < w.heap.size ∧ w.cell? (a.add k) = some (.int .u64 (l.getD k 0 : Int)) := by
  obtain ⟨a, hA, hb, hc⟩ := h.at1 hk
  refine ⟨a, hA, hb, hc.trans ?_⟩
  have := h.len
  simp only [u64s, List.length_map, Nat.mul_one] at this
  simp [u64s, List.getD_eq_getElem?_getD, List.getElem?_map, List.getElem?_eq_getElem (show k < l.length by omega)]
set_option maxRecDepth 100000 in
set_option maxHeartbeats 1000000 in
theorem turned_any (A : Option Addr) (N c : Nat) (l : List Nat) (a n : Nat) (w : World) (hr : Rd w 1 A N c (u64s l)) (ha : a / 2 < N) (hN : N ≤ 1000000) (hn : n ≤ 6) (hl : ∀ x ∈ l, x < 18446744073709551616) :
    Calls Tryd.prog 55 #[.slice A N c, .int .i64 (a : Int), .int .i64 (n : Int)] w fun r w' => r = .returned (.int .u64 (Cut.litM (Cut.rows n) (l.getD (a / 2) 0) a : Int)) ∧ Below w.heap.size w w' := by
  have hlen := hr.len
  simp only [u64s, List.length_map, Nat.mul_one] at hlen
  have hx64 : l.getD (a / 2) 0 < 18446744073709551616 := hl _ (nat_getD_mem (by omega))
  obtain ⟨b, hA, hbb, d0⟩ := hr.u64 ha
  subst hA
  obtain ⟨d, hd⟩ : ∃ d, a / 2 = d := ⟨_, rfl⟩
  rw [hd] at d0 ha hx64 ⊢
  generalize l.getD d 0 = x at d0 hx64 ⊢
  have HX : bits .xor .u64 IntKind.u64.max (x : Int) = ((x ^^^ Cut.ones : Nat) : Int) := u64_not_nat x hx64
  have hy64 := xor_ones_lt x hx64
  have hR := Cut.rows_lt n hn
  have HFU := Lib.hid (fun (W : World) => full_any n W hn)
  have hx2 := hx64
  have htm : Int.tmod (a : Int) 2 = ((a % 2 : Nat) : Int) := by rw [Int.tmod_eq_emod_of_nonneg (by omega)]; omega
  have htd : Int.tdiv (a : Int) 2 = (d : Int) := by rw [Int.tdiv_eq_ediv_of_nonneg (by omega)]; omega
  have hwd : IntKind.i64.wrap (d : Int) = (d : Int) := IntWalk.i64_in _ (by omega)
  have had : (a : Int) / 2 = (d : Int) := by omega
  have hdN : (d : Int) < (N : Int) := by omega
  have HRES := Lib.hid (show Cut.litM (Cut.rows n) x a = if a % 2 = 1 then (x ^^^ Cut.ones) &&& Cut.rows n else x from rfl)
  by_cases ho : a % 2 = 1
  · have HH := Lib.hid (show Cut.litM (Cut.rows n) x a = (x ^^^ Cut.ones) &&& Cut.rows n by rw [HRES.out, if_pos ho])
    rw [ho] at htm
    have HA := u64_and_nat (x ^^^ Cut.ones) (Cut.rows n) hy64 hR
    have hae : (a : Int) % 2 = 1 := by omega
    generalize x ^^^ Cut.ones = y at HX HA HH hy64
    generalize Cut.rows n = R at HA HH HFU hR
    generalize Cut.litM R x a = res at HH HRES ⊢
    clear HRES ho hd hr hl hlen
    go_enter Tryd.func55, Tryd.ntmps55
    go_wp2_with fail
    refine wp_region_still_in (by kernel_rfl) (by kernel_rfl) fun St9 ne9 V9 hV9 hS9 => ?_
    have qd0 := still_cell hV9 d0
    repeat (first | go_big_quiet_step (first | (go_at_call 65; exact Calls.still_same hS9 (HFU.out _))) | quiet_step (first | (go_at_call 65; exact Calls.still_same hS9 (HFU.out _))))
    refine wpQuiet_nil ?_
    intro _ hw9
    obtain ⟨s9, rfl⟩ := hw9
    have hb9 := hV9 s9
    clear qd0 hS9
    generalize V9 s9 = w9 at hb9 ⊢
    clear hV9 s9 V9 ne9 St9
    go_wp2_with fail
    go_ret
    exact ⟨by rw [HH.out]; rfl, hb9⟩
  · have HH := Lib.hid (show Cut.litM (Cut.rows n) x a = x by rw [HRES.out, if_neg ho])
    rw [HH.out]
    have h0 : a % 2 = 0 := by omega
    rw [h0] at htm
    have hae : (a : Int) % 2 = 0 := by omega
    clear HRES ho h0 hd hr hl hlen HH
    go_enter Tryd.func55, Tryd.ntmps55
    go_wp2_with fail
    go_ret
    exact ⟨rfl, Below.refl _ _⟩
end Go.Proofs.YtkhlllbceceikaaDoor
