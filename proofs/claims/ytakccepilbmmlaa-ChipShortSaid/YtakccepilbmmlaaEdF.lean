/- Walks: cmp.Compare, cmp.Or, and the comparison that Edges sorts by. -/
import Derived.Test.YtakccepilbmmlaaBase
import Derived.BigQuiet
import Derived.Deep.QuietTactic
import Derived.Deep.RegionHeld3
import Derived.Deep.DrawnRows
import Derived.Shelf.SlSortCmp.WholeK
namespace Go.Proofs.Ytakccepilbmmlaa
open Go.RowKit Go.Shelf Go.Lib Go.Sort
set_option linter.unusedVariables false
set_option linter.unusedSimpArgs false
attribute [local go_sem ↓] Go.wp_at_zero Go.wp_at_succ

def cmpI (a b : Int) : Int := if a < b then -1 else if a > b then 1 else 0
def pcmp (x y : Int × Int) : Int := if cmpI x.1 y.1 ≠ 0 then cmpI x.1 y.1 else cmpI x.2 y.2

theorem isNaN_any (a : Int) (w : World) : Calls Try.prog 98 #[.int .i64 a] w fun e w' => e = .returned (.bool false) ∧ w = w' := by
  go_enter Try.func98, Try.ntmps98
  go_wp2
  go_ret
  exact ⟨by simp, rfl⟩
theorem compare_any (a b : Int) (w : World) : Calls Try.prog 57 #[.int .i64 a, .int .i64 b] w fun e w' => e = .returned (.int .i64 (cmpI a b)) ∧ w = w' := by
  by_cases h1 : a < b
  · have e : cmpI a b = -1 := if_pos h1
    rw [e]; clear e
    go_enter Try.func57, Try.ntmps57
    go_wp2_with (go_at_call 98; refine (isNaN_any _ _).mono ?_; rintro e w1 ⟨rfl, rfl⟩)
    go_ret
    exact ⟨rfl, rfl⟩
  · by_cases h2 : b < a
    · have e : cmpI a b = 1 := by unfold cmpI; rw [if_neg h1, if_pos h2]
      rw [e]; clear e
      go_enter Try.func57, Try.ntmps57
      go_wp2_with (go_at_call 98; refine (isNaN_any _ _).mono ?_; rintro e w1 ⟨rfl, rfl⟩)
      go_ret
      exact ⟨rfl, rfl⟩
    · have e : cmpI a b = 0 := by unfold cmpI; rw [if_neg h1, if_neg (by omega)]
      rw [e]; clear e
      go_enter Try.func57, Try.ntmps57
      go_wp2_with (go_at_call 98; refine (isNaN_any _ _).mono ?_; rintro e w1 ⟨rfl, rfl⟩)
      go_ret
      exact ⟨rfl, rfl⟩

def or2 (p q : Int) : Int := if p ≠ 0 then p else q
theorem or_any (p q : Int) (g : Nat) (w : World) (h0 : w.cell? ⟨g, 0, none⟩ = some (.int .i64 p)) (h1 : w.cell? ⟨g, 1, none⟩ = some (.int .i64 q)) :
    Calls Try.prog 56 #[.slice (some ⟨g, 0, none⟩) 2 2] w fun e w' => e = .returned (.int .i64 (or2 p q)) ∧ w = w' := by
  by_cases hp : p = 0
  · subst hp
    have e : or2 0 q = q := rfl
    rw [e]; clear e
    by_cases hq : q = 0
    · subst hq
      go_enter Try.func56, Try.ntmps56
      go_wp2
      go_loop [5, 8] (fun _ i => ∃ k : Nat, k ≤ 2 ∧ i = .int .i64 (k : Int)) (fun _ i => 2 - (intOf i).toNat)
      case atStart => exact ⟨0, by omega, rfl⟩
      case round =>
        obtain ⟨k, hk, rfl⟩ := hrel
        have hk3 : k = 0 ∨ k = 1 ∨ k = 2 := by omega
        rcases hk3 with rfl | rfl | rfl
        · go_wp2
          go_round
          case rel => exact ⟨1, by omega, rfl⟩
          case measure => simp [intOf]
        · go_wp2
          go_round
          case rel => exact ⟨2, by omega, rfl⟩
          case measure => simp [intOf]
        · go_wp2
          go_ret
          exact ⟨rfl, rfl⟩
    · have hq' : (q != 0) = true := by simpa using hq
      clear hq
      go_enter Try.func56, Try.ntmps56
      go_wp2
      go_loop [5, 8] (fun _ i => ∃ k : Nat, k ≤ 1 ∧ i = .int .i64 (k : Int)) (fun _ i => 2 - (intOf i).toNat)
      case atStart => exact ⟨0, by omega, rfl⟩
      case round =>
        obtain ⟨k, hk, rfl⟩ := hrel
        have hk3 : k = 0 ∨ k = 1 := by omega
        rcases hk3 with rfl | rfl
        · go_wp2
          go_round
          case rel => exact ⟨1, by omega, rfl⟩
          case measure => simp [intOf]
        · go_wp2
          go_ret
          exact ⟨rfl, rfl⟩
  · have e : or2 p q = p := if_pos hp
    rw [e]; clear e
    have hp' : (p != 0) = true := by simpa using hp
    clear hp
    go_enter Try.func56, Try.ntmps56
    go_wp2
    go_loop [5, 8] (fun _ i => i = .int .i64 0) (fun _ i => 2 - (intOf i).toNat)
    case atStart => rfl
    case round =>
      subst hrel
      go_wp2
      go_ret
      exact ⟨rfl, rfl⟩

set_option maxHeartbeats 1000000 in
theorem pcmp_any (x y : Int × Int) (w : World) : Calls Try.prog 55 #[.agg #[.int .i64 x.1, .int .i64 x.2], .agg #[.int .i64 y.1, .int .i64 y.2]] w fun e w' => e = .returned (.int .i64 (pcmp x y)) ∧ ∃ q os', w' = grow (w.drewN q) os' := by
  obtain ⟨x1, x2⟩ := x
  obtain ⟨y1, y2⟩ := y
  have e : pcmp (x1, x2) (y1, y2) = or2 (cmpI x1 y1) (cmpI x2 y2) := rfl
  rw [e]; clear e
  go_enter Try.func55, Try.ntmps55
  go_wp2
  go_region_held3 (fun w' => w'.cell? ⟨w.heap.size, 0, none⟩ = some (.int .i64 x1) ∧ w'.cell? ⟨w.heap.size, 1, none⟩ = some (.int .i64 x2) ∧ w'.cell? ⟨w.heap.size + 1, 0, none⟩ = some (.int .i64 y1) ∧ w'.cell? ⟨w.heap.size + 1, 1, none⟩ = some (.int .i64 y2)) (go_keep) ((first | (go_at_call 57; refine (compare_any _ _ _).mono ?_; rintro e w1 ⟨rfl, rfl⟩) | (go_at_call 56; refine (or_any (cmpI x1 y1) (cmpI x2 y2) (w.heap.size + 1 + 1) _ (by exact World.cell?_alloc_at _ _ _ _ (by simp)) (by exact World.cell?_alloc_at _ _ _ _ (by simp))).mono ?_; rintro e w1 ⟨rfl, rfl⟩)))
  all_goals go_wp2
  all_goals go_ret
  all_goals exact ⟨rfl, 1, _, by rw [← World.alloc_drew, ← World.alloc_drew, ← World.alloc_drew, alloc_eq_grow, alloc_eq_grow, alloc_eq_grow, grow_grow, grow_grow]; rfl⟩
end Go.Proofs.Ytakccepilbmmlaa
