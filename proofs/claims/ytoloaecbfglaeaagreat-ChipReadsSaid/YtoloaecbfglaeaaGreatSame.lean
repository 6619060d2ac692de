/- Walk of filigreeref27.SameInts, of two lists that are alike. -/
import Derived.Test.YtoloaecbfglaeaaGreatBase
import Derived.BigQuiet
import Derived.Deep.QuietTactic
namespace Go.Proofs.YtoloaecbfglaeaaGreat
open Go.RowKit
set_option linter.unusedVariables false
set_option linter.unusedSimpArgs false

set_option maxRecDepth 100000 in
set_option maxHeartbeats 1000000 in
theorem sameInts_yes (w : World) (A B : Option Addr) (n c d : Nat) (l : List Int) (ha : Rd w 1 A n c (ints l)) (hb : Rd w 1 B n d (ints l)) (hn : n ≤ 100000000) :
    Calls Tryz.prog 35 #[.slice A n c, .slice B n d] w fun e w' => e = .returned (.bool true) ∧ Below w.heap.size w w' := by
  have HA := Lib.hid ha
  have HB := Lib.hid hb
  clear ha hb
  go_enter Tryz.func35, Tryz.ntmps35
  go_wp2_with fail
  go_loopw [13] (fun i wx => ∃ k : Nat, k ≤ n ∧ i = .int .i64 (k : Int) ∧ Below w.heap.size w wx) (fun i _ => n - (intOf i).toNat)
  case atStart => exact ⟨0, by omega, rfl, Below.refl _ _⟩
  case round =>
    obtain ⟨k, hk, rfl, hbb⟩ := hrel
    have HBB := Lib.hid hbb
    clear hbb
    by_cases hlt : k < n
    · obtain ⟨a, rfl, -, c0⟩ := (HA.out.later HBB.out).int hlt
      obtain ⟨b, rfl, -, c1⟩ := (HB.out.later HBB.out).int hlt
      generalize l.getD k 0 = z at c0 c1
      have h0 : (0 : Int) ≤ (k : Int) := by omega
      have h1 : (k : Int) < (n : Int) := by omega
      go_wp2_with fail
      go_quiet (fail)
      go_wp2_with fail
      go_roundw
      case rel => exact ⟨k + 1, by omega, by go_num, below_drewN HBB.out _⟩
      case measure => simp [intOf]; omega
    · obtain rfl : k = n := by omega
      go_wp2_with fail
      go_ret
      exact ⟨rfl, HBB.out⟩
end Go.Proofs.YtoloaecbfglaeaaGreat
