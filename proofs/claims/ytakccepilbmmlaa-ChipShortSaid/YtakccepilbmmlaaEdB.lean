/- Walks of filigree/fabric: Edges' closure 'meet', around, border. -/
import Derived.Test.YtakccepilbmmlaaEdA
namespace Go.Proofs.Ytakccepilbmmlaa
open Go.RowKit
set_option linter.unusedVariables false
set_option linter.unusedSimpArgs false

/-- the switches between node n and the first k tracks of a place of grid c -/
def meetTo (W H T n : Int) (c : Nat) (x y : Int) : Nat → List (Int × Int)
  | 0 => []
  | k + 1 => meetTo W H T n c x y k ++ (if nodeE W H T c x y (k : Int) = 0 then [(lo n (nodeN W H T c x y (k : Int)), hi n (nodeN W H T c x y (k : Int)))] else [])
theorem meetTo_len (W H T n : Int) (c : Nat) (x y : Int) (k : Nat) : (meetTo W H T n c x y k).length ≤ k := by
  induction k with
  | zero => simp [meetTo]
  | succ k ih =>
    simp only [meetTo, List.length_append]
    split <;> simp <;> omega
theorem nodeE_01 (W H T : Int) (c : Nat) (x y t : Int) : nodeE W H T c x y t = 0 ∨ nodeE W H T c x y t = 1 := by
  unfold nodeE; split <;> simp

set_option maxRecDepth 100000 in
set_option maxHeartbeats 1000000 in
theorem meet_any (w0 w : World) (B A J : Nat) (W H T n x y : Int) (c : Nat) (xs : List (Int × Int)) (hx : EW w0 w B A J W H T xs) (hok : okA W H T) (hc : c < 5) (hlen : xs.length ≤ 90000000) :
    Calls Try.prog 50 #[.int .i64 n, .agg #[.int .i64 ((c : Int) + 1), .int .i64 x, .int .i64 y], .pointer (some ⟨A, 0, none⟩), .pointer (some ⟨J, 0, none⟩)] w fun e w' => e = .returned (.tuple #[]) ∧ EW w0 w' B A J W H T (xs ++ meetTo W H T n c x y T.toNat) ∧ Keeps w w' := by
  have hh := hok
  unfold okA at hh
  obtain ⟨N, rfl⟩ : ∃ N : Nat, T = (N : Int) := ⟨T.toNat, by omega⟩
  have hN : N ≤ 16 := by omega
  have HOK := Lib.hid hok
  have HX := Lib.hid (hx.keep (below_new w (.cells #[.int .i64 ((c : Int) + 1), .int .i64 x, .int .i64 y] 72)))
  have HP := Lib.hid (Blk.made w 72 #[.int .i64 ((c : Int) + 1), .int .i64 x, .int .i64 y])
  have k0 : w.cell? ⟨A, 0, none⟩ = some (.int .i64 W) := hx.arch.cell 0
  have k1 : w.cell? ⟨A, 1, none⟩ = some (.int .i64 H) := hx.arch.cell 1
  have k2 : w.cell? ⟨A, 2, none⟩ = some (.int .i64 (N : Int)) := hx.arch.cell 2
  have hA : A < w.heap.size := hx.arch.lt
  clear hx hok hh
  go_enter Try.func50, Try.ntmps50
  go_wp2
  go_loopw [6, 7, 8, 11] (fun _ _ _ i wr => ∃ k : Nat, k ≤ N ∧ i = .int .i64 (k : Int) ∧ EW w0 wr B A J W H (N : Int) (xs ++ meetTo W H (N : Int) n c x y k) ∧ Keeps (w.alloc (.cells #[.int .i64 ((c : Int) + 1), .int .i64 x, .int .i64 y] 72)) wr) (fun _ _ _ i _ => N - (intOf i).toNat)
  case atStart => exact ⟨0, by omega, rfl, by simpa [meetTo] using HX.out, Keeps.refl _⟩
  case round =>
    obtain ⟨k, hk, rfl, hw, hkp⟩ := hrel
    clear k0 k1 k2 hA
    by_cases hlt : k < N
    · have a0 : wr.cell? ⟨A, 0, none⟩ = some (.int .i64 W) := hw.arch.cell 0
      have a1 : wr.cell? ⟨A, 1, none⟩ = some (.int .i64 H) := hw.arch.cell 1
      have a2 : wr.cell? ⟨A, 2, none⟩ = some (.int .i64 (N : Int)) := hw.arch.cell 2
      have hp := hkp.2 _ _ _ HP.out (by decide) (by decide)
      have p0 : wr.cell? ⟨w.heap.size, 0, none⟩ = some (.int .i64 ((c : Int) + 1)) := hp.cell 0
      have p1 : wr.cell? ⟨w.heap.size, 1, none⟩ = some (.int .i64 x) := hp.cell 1
      have p2 : wr.cell? ⟨w.heap.size, 2, none⟩ = some (.int .i64 y) := hp.cell 2
      have HW := Lib.hid hw
      have HK := Lib.hid hkp
      clear hw hkp hp
      rcases nodeE_01 W H (N : Int) c x y (k : Int) with he | he
      · go_wp2_with (first
          | (go_at_call 51; refine (node_any _ _ _ _ _ _ c _ hc).mono ?_; rintro e w1 ⟨rfl, hb1⟩; have E1 := HW.out.keep hb1; have j0 : w1.cell? ⟨J, 0, none⟩ = some (.func (.func 49) #[] #[.pointer (some ⟨B, 0, none⟩)]) := E1.join.cell 0; have HE1 := Lib.hid E1; clear E1)
          | (go_at_call 49; refine (join_any w0 _ B A J W H (N : Int) _ _ _ HE1.out (by have := meetTo_len W H (N : Int) n c x y k; simp; omega)).mono ?_; rintro e w2 ⟨rfl, hw2, hk2⟩))
        go_roundw
        case rel =>
          refine ⟨k + 1, by omega, by go_num, ?_, (HK.out.trans (Keeps.of_below hb1)).trans hk2⟩
          simp only [meetTo, if_pos he]
          rw [← List.append_assoc]
          exact hw2
        case measure => simp [intOf]; omega
      · go_wp2_with (go_at_call 51; refine (node_any _ _ _ _ _ _ c _ hc).mono ?_; rintro e w1 ⟨rfl, hb1⟩)
        go_roundw
        case rel =>
          refine ⟨k + 1, by omega, by go_num, ?_, HK.out.trans (Keeps.of_below hb1)⟩
          simp only [meetTo, if_neg (show ¬ nodeE W H (N : Int) c x y (k : Int) = 0 from by omega), List.append_nil]
          exact HW.out.keep hb1
        case measure => simp [intOf]; omega
    · obtain rfl : k = N := by omega
      have HW := Lib.hid hw
      have HK := Lib.hid hkp
      clear hw hkp
      go_wp2
      go_end0
      exact ⟨rfl, by simpa using HW.out, (Keeps.of_below (below_new w _)).trans HK.out⟩
end Go.Proofs.Ytakccepilbmmlaa
