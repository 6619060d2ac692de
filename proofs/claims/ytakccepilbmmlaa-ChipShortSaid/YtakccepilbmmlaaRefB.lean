/- Walks of the reference of layer 28: begin. -/
import Derived.Test.YtakccepilbmmlaaRefA
namespace Go.Proofs.Ytakccepilbmmlaa
open Go.RowKit
set_option linter.unusedVariables false
set_option linter.unusedSimpArgs false
attribute [local go_sem ↓] Go.wp_at_zero Go.wp_at_succ

def rb (W H T : Int) : Nat → Int
  | 0 => 0
  | k + 1 => gat W H T k
def re (W H T : Int) : Nat → Int
  | 0 => 0
  | 1 => W * H
  | 2 => 4 * W * H
  | 3 => 2 * W + 2 * H
  | 4 => W * (H + 1) * T
  | _ => (W + 1) * H * T
theorem lt6 {k : Nat} (h : k < 6) : k = 0 ∨ k = 1 ∨ k = 2 ∨ k = 3 ∨ k = 4 ∨ k = 5 := by omega
theorem rb_succ (W H T : Int) {k : Nat} (hk : k < 6) : rb W H T (k + 1) = rb W H T k + re W H T k := by
  rcases lt6 hk with rfl | rfl | rfl | rfl | rfl | rfl
  · rfl
  · simp [rb, re, gat, gmany, gw, gh, gd]
  · simp only [rb, re, gat, gmany, gw, gh, gd]
    rw [Int.mul_assoc 4 W H, Int.mul_comm 4]
  · simp [rb, re, gat, gmany, gw, gh, gd]
  · simp [rb, re, gat, gmany, gw, gh, gd]
  · simp [rb, re, gat, gmany, gw, gh, gd]
theorem rb_bd {W H T : Int} (h : okA W H T) {k : Nat} (hk : k ≤ 6) : 0 ≤ rb W H T k ∧ rb W H T k ≤ 87040 := by
  rcases k with _ | k
  · simp [rb]
  · have := gat_bd h (k := k) (by omega)
    simp only [rb]; omega
theorem re_bd {W H T : Int} (h : okA W H T) {k : Nat} (hk : k < 6) : 0 ≤ re W H T k ∧ re W H T k ≤ 17408 := by
  rcases k with _ | k
  · simp [re]
  · have := g_bd2 h (k := k) (by omega)
    have e := rb_succ W H T hk
    simp only [rb, gat, gmany] at e
    omega
theorem re_cell (W H T : Int) {k : Nat} (hk : k < 6) (h : k < [Value.int .i64 0, .int .i64 (W * H), .int .i64 (4 * W * H), .int .i64 (2 * W + 2 * H), .int .i64 (W * (H + 1) * T), .int .i64 ((W + 1) * H * T)].length) :
    [Value.int .i64 0, .int .i64 (W * H), .int .i64 (4 * W * H), .int .i64 (2 * W + 2 * H), .int .i64 (W * (H + 1) * T), .int .i64 ((W + 1) * H * T)][k]'h = .int .i64 (re W H T k) := by
  rcases lt6 hk with rfl | rfl | rfl | rfl | rfl | rfl <;> rfl

set_option maxRecDepth 100000 in
set_option maxHeartbeats 1000000 in
theorem begin_yes (W H T : Int) (c : Nat) (w : World) (h : okA W H T) (hc : c ≤ 6) :
    Calls Try.prog 91 #[.agg #[.int .i64 W, .int .i64 H, .int .i64 T], .int .i64 (c : Int)] w fun e w' => e = .returned (.int .i64 (rb W H T c)) ∧ Below w.heap.size w w' := by
  have HO := Lib.hid h
  have hh := h
  unfold okA at hh
  have p0 := g_bd2 h (k := 0) (by omega)
  have p3 := g_bd2 h (k := 3) (by omega)
  have p4 := g_bd2 h (k := 4) (by omega)
  have q2 := re_bd h (k := 2) (by omega)
  simp only [gw, gh, gd, re] at p0 p3 p4 q2
  have e1 : IntKind.i64.wrap (W * H) = W * H := IntWalk.i64_in _ (by omega)
  have e2 : IntKind.i64.wrap (4 * W) = 4 * W := IntWalk.i64_in _ (by omega)
  have e3 : IntKind.i64.wrap (4 * W * H) = 4 * W * H := IntWalk.i64_in _ (by omega)
  have e4 : IntKind.i64.wrap (H + 1) = H + 1 := IntWalk.i64_in _ (by omega)
  have e5 : IntKind.i64.wrap (W * (H + 1)) = W * (H + 1) := IntWalk.i64_in _ (by omega)
  have e6 : IntKind.i64.wrap (W * (H + 1) * T) = W * (H + 1) * T := IntWalk.i64_in _ (by omega)
  have e7 : IntKind.i64.wrap (W + 1) = W + 1 := IntWalk.i64_in _ (by omega)
  have e8 : IntKind.i64.wrap ((W + 1) * H) = (W + 1) * H := IntWalk.i64_in _ (by omega)
  have e9 : IntKind.i64.wrap ((W + 1) * H * T) = (W + 1) * H * T := IntWalk.i64_in _ (by omega)
  go_enter Try.func91, Try.ntmps91
  go_wp2
  go_region_held3 (fun w' => w'.cell? ⟨w.heap.size, 0, none⟩ = some (.int .i64 W) ∧ w'.cell? ⟨w.heap.size, 1, none⟩ = some (.int .i64 H) ∧ w'.cell? ⟨w.heap.size, 2, none⟩ = some (.int .i64 T)) (go_keep) ((go_at_call 69; refine (rpads_yes _ _ _ _ HO.out).mono ?_; rintro e w3 ⟨rfl, hb3⟩; obtain ⟨hc3, hf3⟩ := bcell hb3))
  clear e1 e2 e3 e4 e5 e6 e7 e8 e9 hc3 hf3
  have hbx : Below w.heap.size w w3 := ((Below.refl _ _).alloc (Nat.le_refl _) _).drew.trans (hb3.mono (B' := w.heap.size) (by simp))
  clear hb3
  have hci : (0 : Int) ≤ (c : Int) := by omega
  have hci2 : (c : Int) ≤ 6 := by omega
  go_wp2
  go_loop [6, 45] (fun n i => ∃ k : Nat, k ≤ c ∧ i = .int .i64 (k : Int) ∧ n = .int .i64 (rb W H T k)) (fun _ i => c - (intOf i).toNat)
  case atStart => exact ⟨0, by omega, rfl, rfl⟩
  case round =>
    obtain ⟨k, hk, rfl, rfl⟩ := hrel
    by_cases hlt : k < c
    · have hk6 : k < 6 := by omega
      have hcl := re_cell W H T (k := k) (by omega)
      have hq := rb_bd HO.out (k := k) (by omega)
      have hq2 := re_bd HO.out (k := k) (by omega)
      go_wp2
      go_round
      case rel => exact ⟨k + 1, by omega, by go_num, by rw [rb_succ W H T (by omega)]⟩
      case measure => simp [intOf]; omega
    · obtain rfl : k = c := by omega
      go_wp2
      go_ret
      exact ⟨rfl, hbx.alloc hbx.size _⟩
end Go.Proofs.Ytakccepilbmmlaa
