/- Walks of the reference of layer 28: Nodes, Out, In, Pad, Hor, Ver. -/
import Derived.Test.YtakccepilbmmlaaRefB
namespace Go.Proofs.Ytakccepilbmmlaa
open Go.RowKit
set_option linter.unusedVariables false
set_option linter.unusedSimpArgs false
attribute [local go_sem ↓] Go.wp_at_zero Go.wp_at_succ

theorem begin_i (W H T : Int) (c : Nat) (z : Int) (hz : z = (c : Int)) (w : World) (h : okA W H T) (hc : c ≤ 6) :
    Calls Try.prog 91 #[.agg #[.int .i64 W, .int .i64 H, .int .i64 T], .int .i64 z] w fun e w' => e = .returned (.int .i64 (rb W H T c)) ∧ Below w.heap.size w w' := by
  subst hz
  exact begin_yes W H T c w h hc

theorem rnodes_any (W H T : Int) (w : World) :
    Calls Try.prog 45 #[.agg #[.int .i64 W, .int .i64 H, .int .i64 T]] w fun e w' => e = .returned (.int .i64 (nodesO W H T)) ∧ Below w.heap.size w w' := by
  unfold nodesO
  by_cases h : okA W H T
  · rw [if_pos h]
    go_enter Try.func45, Try.ntmps45
    go_wp2_with (first
      | (go_at_call 65; refine (rcheck_yes W H T _ h).mono ?_; rintro e w1 ⟨rfl, hb1⟩; obtain ⟨hc1, hf1⟩ := bcell hb1)
      | (go_at_call 91; refine (begin_i W H T 6 _ rfl _ h (by omega)).mono ?_; rintro e w2 ⟨rfl, hb2⟩))
    go_ret
    exact ⟨rfl, (((Below.refl _ _).alloc (Nat.le_refl _) _).trans (hb1.mono (by simp))).trans (hb2.mono (by have := hb1.size; simp at this; omega))⟩
  · rw [if_neg h]
    go_enter Try.func45, Try.ntmps45
    go_wp2_with (go_at_call 65; refine (rcheck_no W H T _ h).mono ?_; rintro e w1 ⟨rfl, hb1⟩)
    go_ret
    exact ⟨rfl, ((Below.refl _ _).alloc (Nat.le_refl _) _).trans (hb1.mono (by simp))⟩


theorem rout_bad (W H T x y : Int) (w : World) (h : ¬ okA W H T) :
    Calls Try.prog 95 #[.agg #[.int .i64 W, .int .i64 H, .int .i64 T], .int .i64 x, .int .i64 y] w fun e w' => e = .returned (pairV (nodeN W H T 0 x y 0) (nodeE W H T 0 x y 0)) ∧ Below w.heap.size w w' := by
  have HN := Lib.hid (show nodeN W H T 0 x y 0 = 0 from by unfold nodeN; rw [if_neg (fun hh => h hh.1)])
  have HE := Lib.hid (show nodeE W H T 0 x y 0 = 1 from by unfold nodeE; rw [if_neg (fun hh => h hh.1)])
  go_enter Try.func95, Try.ntmps95
  go_wp2_with (go_at_call 65; refine (rcheck_no W H T _ h).mono ?_; rintro e w1 ⟨rfl, hb1⟩)
  go_ret2
  exact ⟨by rw [HN.out, HE.out]; rfl, ((Below.refl _ _).alloc (Nat.le_refl _) _).trans (hb1.mono (by simp))⟩

set_option maxHeartbeats 400000 in
theorem rout_o0 (W H T x y : Int) (w : World) (h : okA W H T) (t0 : inB x (W) = false) :
    Calls Try.prog 95 #[.agg #[.int .i64 W, .int .i64 H, .int .i64 T], .int .i64 x, .int .i64 y] w fun e w' => e = .returned (pairV (nodeN W H T 0 x y 0) (nodeE W H T 0 x y 0)) ∧ Below w.heap.size w w' := by
  have hno : ¬ inG W H T 0 x y 0 := by unfold inG; simp only [inB, decide_eq_true_eq, decide_eq_false_iff_not, gw, gh, gd] at *; omega
  have HN := Lib.hid (show nodeN W H T 0 x y 0 = 0 from by unfold nodeN; rw [if_neg (fun hh => hno hh.2)])
  have HE := Lib.hid (show nodeE W H T 0 x y 0 = 1 from by unfold nodeE; rw [if_neg (fun hh => hno hh.2)])
  clear hno
  have hh := h
  unfold okA at hh
  go_enter Try.func95, Try.ntmps95
  go_wp2_with (first
    | (go_at_call 65; refine (rcheck_yes W H T _ h).mono ?_; rintro e w1 ⟨rfl, hb1⟩; obtain ⟨hc1, hf1⟩ := bcell hb1)
    | (go_at_call 90; refine (in_any _ _ _).mono ?_; rintro e wi ⟨rfl, rfl⟩))
  go_ret2
  exact ⟨by rw [HN.out, HE.out]; rfl, ((Below.refl _ _).alloc (Nat.le_refl _) _).trans (hb1.mono (by simp))⟩

set_option maxHeartbeats 400000 in
theorem rout_o1 (W H T x y : Int) (w : World) (h : okA W H T) (t0 : inB x (W) = true) (t1 : inB y (H) = false) :
    Calls Try.prog 95 #[.agg #[.int .i64 W, .int .i64 H, .int .i64 T], .int .i64 x, .int .i64 y] w fun e w' => e = .returned (pairV (nodeN W H T 0 x y 0) (nodeE W H T 0 x y 0)) ∧ Below w.heap.size w w' := by
  have hno : ¬ inG W H T 0 x y 0 := by unfold inG; simp only [inB, decide_eq_true_eq, decide_eq_false_iff_not, gw, gh, gd] at *; omega
  have HN := Lib.hid (show nodeN W H T 0 x y 0 = 0 from by unfold nodeN; rw [if_neg (fun hh => hno hh.2)])
  have HE := Lib.hid (show nodeE W H T 0 x y 0 = 1 from by unfold nodeE; rw [if_neg (fun hh => hno hh.2)])
  clear hno
  have hh := h
  unfold okA at hh
  go_enter Try.func95, Try.ntmps95
  go_wp2_with (first
    | (go_at_call 65; refine (rcheck_yes W H T _ h).mono ?_; rintro e w1 ⟨rfl, hb1⟩; obtain ⟨hc1, hf1⟩ := bcell hb1)
    | (go_at_call 90; refine (in_any _ _ _).mono ?_; rintro e wi ⟨rfl, rfl⟩))
  go_ret2
  exact ⟨by rw [HN.out, HE.out]; rfl, ((Below.refl _ _).alloc (Nat.le_refl _) _).trans (hb1.mono (by simp))⟩

set_option maxHeartbeats 1000000 in
theorem rout_in (W H T x y : Int) (w : World) (h : okA W H T) (t0 : inB x (W) = true) (t1 : inB y (H) = true) :
    Calls Try.prog 95 #[.agg #[.int .i64 W, .int .i64 H, .int .i64 T], .int .i64 x, .int .i64 y] w fun e w' => e = .returned (pairV (nodeN W H T 0 x y 0) (nodeE W H T 0 x y 0)) ∧ Below w.heap.size w w' := by
  have hg : inG W H T 0 x y 0 := by unfold inG; simp only [inB, decide_eq_true_eq, decide_eq_false_iff_not, gw, gh, gd] at *; omega
  have HN := Lib.hid (show nodeN W H T 0 x y 0 = rb W H T 1 + y * W + x from by unfold nodeN; rw [if_pos ⟨h, hg⟩]; simp only [nodeAt, rb, gw, gd] <;> omega)
  have HE := Lib.hid (show nodeE W H T 0 x y 0 = 0 from by unfold nodeE; rw [if_pos ⟨h, hg⟩])
  have hh := h
  unfold okA at hh
  have hn := nodeAt_in hg
  have hr := rb_bd h (k := 1) (by omega)
  have hz := gat_bd h (k := 1) (by omega)
  obtain ⟨⟨g1, g2⟩, ⟨g3, g4⟩, g5, g6⟩ := hg
  simp only [gw, gh, gd] at g2 g4 g6
  have r1 := row_lt g1 g2 g3 g4
  have r2 := row_lt g5 g6 r1.1 r1.2
  have pb := g_bd2 h (k := 0) (by omega)
  simp only [gw, gh, gd] at pb
  have r3 : 0 ≤ y * W := Int.mul_nonneg g3 (by omega)
  simp only [nodeAt, gw, gd] at hn
  have hrb : rb W H T 1 = gat W H T 0 := rfl
  have e0 : IntKind.i64.wrap (y * W) = y * W := IntWalk.i64_in _ (by omega)
  have e1 : IntKind.i64.wrap (rb W H T 1 + y * W) = rb W H T 1 + y * W := IntWalk.i64_in _ (by omega)
  have e2 : IntKind.i64.wrap (rb W H T 1 + y * W + x) = rb W H T 1 + y * W + x := IntWalk.i64_in _ (by omega)
  clear hrb hn hr hz r1 r2 pb r3
  go_enter Try.func95, Try.ntmps95
  go_wp2_with (first
    | (go_at_call 65; refine (rcheck_yes W H T _ h).mono ?_; rintro e w1 ⟨rfl, hb1⟩; obtain ⟨hc1, hf1⟩ := bcell hb1)
    | (go_at_call 90; refine (in_any _ _ _).mono ?_; rintro e wi ⟨rfl, rfl⟩))
  have hz1 : w.heap.size < w1.heap.size := by have := hb1.size; simp at this; omega
  have k0 : w1.cell? ⟨w.heap.size, 0, none⟩ = some (.int .i64 W) := by rw [hc1 _ _ (by simp)]; go_simp
  have k1 : w1.cell? ⟨w.heap.size, 1, none⟩ = some (.int .i64 H) := by rw [hc1 _ _ (by simp)]; go_simp
  have k2 : w1.cell? ⟨w.heap.size, 2, none⟩ = some (.int .i64 T) := by rw [hc1 _ _ (by simp)]; go_simp
  clear hc1 hf1
  go_region_held3 (fun w' => w'.cell? ⟨w.heap.size, 0, none⟩ = some (.int .i64 W) ∧ w'.cell? ⟨w.heap.size, 1, none⟩ = some (.int .i64 H) ∧ w'.cell? ⟨w.heap.size, 2, none⟩ = some (.int .i64 T)) (go_keep) ((go_at_call 91; refine (begin_i W H T 1 _ rfl _ h (by omega)).mono ?_; rintro e w3 ⟨rfl, hb3⟩; have q0 := (hb3.cell (p := ⟨w.heap.size, 0, none⟩) hz1).trans k0; have q1 := (hb3.cell (p := ⟨w.heap.size, 1, none⟩) hz1).trans k1; have q2 := (hb3.cell (p := ⟨w.heap.size, 2, none⟩) hz1).trans k2))
  go_wp2
  go_ret2
  exact ⟨by rw [HN.out, HE.out]; rfl, (((Below.refl _ _).alloc (Nat.le_refl _) _).trans (hb1.mono (by simp))).drew.trans (hb3.mono (B' := w.heap.size) (by simp; omega))⟩

theorem rout_any (W H T x y : Int) (w : World) :
    Calls Try.prog 95 #[.agg #[.int .i64 W, .int .i64 H, .int .i64 T], .int .i64 x, .int .i64 y] w fun e w' => e = .returned (pairV (nodeN W H T 0 x y 0) (nodeE W H T 0 x y 0)) ∧ Below w.heap.size w w' := by
  by_cases h : okA W H T
  · cases t0 : inB x (W)
    · exact rout_o0 W H T x y w h t0
    · cases t1 : inB y (H)
      · exact rout_o1 W H T x y w h t0 t1
      · exact rout_in W H T x y w h t0 t1
  · exact rout_bad W H T x y w h







theorem rhor_bad (W H T x y t : Int) (w : World) (h : ¬ okA W H T) :
    Calls Try.prog 135 #[.agg #[.int .i64 W, .int .i64 H, .int .i64 T], .int .i64 x, .int .i64 y, .int .i64 t] w fun e w' => e = .returned (pairV (nodeN W H T 3 x y t) (nodeE W H T 3 x y t)) ∧ Below w.heap.size w w' := by
  have HN := Lib.hid (show nodeN W H T 3 x y t = 0 from by unfold nodeN; rw [if_neg (fun hh => h hh.1)])
  have HE := Lib.hid (show nodeE W H T 3 x y t = 1 from by unfold nodeE; rw [if_neg (fun hh => h hh.1)])
  go_enter Try.func135, Try.ntmps135
  go_wp2_with (go_at_call 65; refine (rcheck_no W H T _ h).mono ?_; rintro e w1 ⟨rfl, hb1⟩)
  go_ret2
  exact ⟨by rw [HN.out, HE.out]; rfl, ((Below.refl _ _).alloc (Nat.le_refl _) _).trans (hb1.mono (by simp))⟩

set_option maxHeartbeats 400000 in
theorem rhor_o0 (W H T x y t : Int) (w : World) (h : okA W H T) (t0 : inB x (W) = false) :
    Calls Try.prog 135 #[.agg #[.int .i64 W, .int .i64 H, .int .i64 T], .int .i64 x, .int .i64 y, .int .i64 t] w fun e w' => e = .returned (pairV (nodeN W H T 3 x y t) (nodeE W H T 3 x y t)) ∧ Below w.heap.size w w' := by
  have hno : ¬ inG W H T 3 x y t := by unfold inG; simp only [inB, decide_eq_true_eq, decide_eq_false_iff_not, gw, gh, gd] at *; omega
  have HN := Lib.hid (show nodeN W H T 3 x y t = 0 from by unfold nodeN; rw [if_neg (fun hh => hno hh.2)])
  have HE := Lib.hid (show nodeE W H T 3 x y t = 1 from by unfold nodeE; rw [if_neg (fun hh => hno hh.2)])
  clear hno
  have hh := h
  unfold okA at hh
  go_enter Try.func135, Try.ntmps135
  go_wp2_with (first
    | (go_at_call 65; refine (rcheck_yes W H T _ h).mono ?_; rintro e w1 ⟨rfl, hb1⟩; obtain ⟨hc1, hf1⟩ := bcell hb1)
    | (go_at_call 90; refine (in_any _ _ _).mono ?_; rintro e wi ⟨rfl, rfl⟩))
  go_ret2
  exact ⟨by rw [HN.out, HE.out]; rfl, ((Below.refl _ _).alloc (Nat.le_refl _) _).trans (hb1.mono (by simp))⟩

set_option maxHeartbeats 400000 in
theorem rhor_o1 (W H T x y t : Int) (w : World) (h : okA W H T) (t0 : inB x (W) = true) (t1 : inB y (H + 1) = false) :
    Calls Try.prog 135 #[.agg #[.int .i64 W, .int .i64 H, .int .i64 T], .int .i64 x, .int .i64 y, .int .i64 t] w fun e w' => e = .returned (pairV (nodeN W H T 3 x y t) (nodeE W H T 3 x y t)) ∧ Below w.heap.size w w' := by
  have hno : ¬ inG W H T 3 x y t := by unfold inG; simp only [inB, decide_eq_true_eq, decide_eq_false_iff_not, gw, gh, gd] at *; omega
  have HN := Lib.hid (show nodeN W H T 3 x y t = 0 from by unfold nodeN; rw [if_neg (fun hh => hno hh.2)])
  have HE := Lib.hid (show nodeE W H T 3 x y t = 1 from by unfold nodeE; rw [if_neg (fun hh => hno hh.2)])
  clear hno
  have hh := h
  unfold okA at hh
  go_enter Try.func135, Try.ntmps135
  go_wp2_with (first
    | (go_at_call 65; refine (rcheck_yes W H T _ h).mono ?_; rintro e w1 ⟨rfl, hb1⟩; obtain ⟨hc1, hf1⟩ := bcell hb1)
    | (go_at_call 90; refine (in_any _ _ _).mono ?_; rintro e wi ⟨rfl, rfl⟩))
  go_ret2
  exact ⟨by rw [HN.out, HE.out]; rfl, ((Below.refl _ _).alloc (Nat.le_refl _) _).trans (hb1.mono (by simp))⟩

set_option maxHeartbeats 400000 in
theorem rhor_o2 (W H T x y t : Int) (w : World) (h : okA W H T) (t0 : inB x (W) = true) (t1 : inB y (H + 1) = true) (t2 : inB t (T) = false) :
    Calls Try.prog 135 #[.agg #[.int .i64 W, .int .i64 H, .int .i64 T], .int .i64 x, .int .i64 y, .int .i64 t] w fun e w' => e = .returned (pairV (nodeN W H T 3 x y t) (nodeE W H T 3 x y t)) ∧ Below w.heap.size w w' := by
  have hno : ¬ inG W H T 3 x y t := by unfold inG; simp only [inB, decide_eq_true_eq, decide_eq_false_iff_not, gw, gh, gd] at *; omega
  have HN := Lib.hid (show nodeN W H T 3 x y t = 0 from by unfold nodeN; rw [if_neg (fun hh => hno hh.2)])
  have HE := Lib.hid (show nodeE W H T 3 x y t = 1 from by unfold nodeE; rw [if_neg (fun hh => hno hh.2)])
  clear hno
  have hh := h
  unfold okA at hh
  go_enter Try.func135, Try.ntmps135
  go_wp2_with (first
    | (go_at_call 65; refine (rcheck_yes W H T _ h).mono ?_; rintro e w1 ⟨rfl, hb1⟩; obtain ⟨hc1, hf1⟩ := bcell hb1)
    | (go_at_call 90; refine (in_any _ _ _).mono ?_; rintro e wi ⟨rfl, rfl⟩))
  go_ret2
  exact ⟨by rw [HN.out, HE.out]; rfl, ((Below.refl _ _).alloc (Nat.le_refl _) _).trans (hb1.mono (by simp))⟩

set_option maxHeartbeats 1000000 in
theorem rhor_in (W H T x y t : Int) (w : World) (h : okA W H T) (t0 : inB x (W) = true) (t1 : inB y (H + 1) = true) (t2 : inB t (T) = true) :
    Calls Try.prog 135 #[.agg #[.int .i64 W, .int .i64 H, .int .i64 T], .int .i64 x, .int .i64 y, .int .i64 t] w fun e w' => e = .returned (pairV (nodeN W H T 3 x y t) (nodeE W H T 3 x y t)) ∧ Below w.heap.size w w' := by
  have hg : inG W H T 3 x y t := by unfold inG; simp only [inB, decide_eq_true_eq, decide_eq_false_iff_not, gw, gh, gd] at *; omega
  have HN := Lib.hid (show nodeN W H T 3 x y t = rb W H T 4 + (y * W + x) * T + t from by unfold nodeN; rw [if_pos ⟨h, hg⟩]; simp only [nodeAt, rb, gw, gd] <;> omega)
  have HE := Lib.hid (show nodeE W H T 3 x y t = 0 from by unfold nodeE; rw [if_pos ⟨h, hg⟩])
  have hh := h
  unfold okA at hh
  have hn := nodeAt_in hg
  have hr := rb_bd h (k := 4) (by omega)
  have hz := gat_bd h (k := 4) (by omega)
  obtain ⟨⟨g1, g2⟩, ⟨g3, g4⟩, g5, g6⟩ := hg
  simp only [gw, gh, gd] at g2 g4 g6
  have r1 := row_lt g1 g2 g3 g4
  have r2 := row_lt g5 g6 r1.1 r1.2
  have pb := g_bd2 h (k := 3) (by omega)
  simp only [gw, gh, gd] at pb
  rw [Int.mul_comm T] at r2
  have r3 : 0 ≤ y * W := Int.mul_nonneg g3 (by omega)
  have r4 : 0 ≤ (y * W + x) * T := Int.mul_nonneg r1.1 (by omega)
  simp only [nodeAt, gw, gd] at hn
  have hrb : rb W H T 4 = gat W H T 3 := rfl
  have e0 : IntKind.i64.wrap (H + 1) = H + 1 := IntWalk.i64_in _ (by omega)
  have e1 : IntKind.i64.wrap (y * W) = y * W := IntWalk.i64_in _ (by omega)
  have e2 : IntKind.i64.wrap (y * W + x) = y * W + x := IntWalk.i64_in _ (by omega)
  have e3 : IntKind.i64.wrap ((y * W + x) * T) = (y * W + x) * T := IntWalk.i64_in _ (by omega)
  have e4 : IntKind.i64.wrap (rb W H T 4 + (y * W + x) * T) = rb W H T 4 + (y * W + x) * T := IntWalk.i64_in _ (by omega)
  have e5 : IntKind.i64.wrap (rb W H T 4 + (y * W + x) * T + t) = rb W H T 4 + (y * W + x) * T + t := IntWalk.i64_in _ (by omega)
  clear hrb hn hr hz r1 r2 pb r3 r4
  go_enter Try.func135, Try.ntmps135
  go_wp2_with (first
    | (go_at_call 65; refine (rcheck_yes W H T _ h).mono ?_; rintro e w1 ⟨rfl, hb1⟩; obtain ⟨hc1, hf1⟩ := bcell hb1)
    | (go_at_call 90; refine (in_any _ _ _).mono ?_; rintro e wi ⟨rfl, rfl⟩))
  have hz1 : w.heap.size < w1.heap.size := by have := hb1.size; simp at this; omega
  have k0 : w1.cell? ⟨w.heap.size, 0, none⟩ = some (.int .i64 W) := by rw [hc1 _ _ (by simp)]; go_simp
  have k1 : w1.cell? ⟨w.heap.size, 1, none⟩ = some (.int .i64 H) := by rw [hc1 _ _ (by simp)]; go_simp
  have k2 : w1.cell? ⟨w.heap.size, 2, none⟩ = some (.int .i64 T) := by rw [hc1 _ _ (by simp)]; go_simp
  clear hc1 hf1
  go_region_held3 (fun w' => w'.cell? ⟨w.heap.size, 0, none⟩ = some (.int .i64 W) ∧ w'.cell? ⟨w.heap.size, 1, none⟩ = some (.int .i64 H) ∧ w'.cell? ⟨w.heap.size, 2, none⟩ = some (.int .i64 T)) (go_keep) ((go_at_call 91; refine (begin_i W H T 4 _ rfl _ h (by omega)).mono ?_; rintro e w3 ⟨rfl, hb3⟩; have q0 := (hb3.cell (p := ⟨w.heap.size, 0, none⟩) hz1).trans k0; have q1 := (hb3.cell (p := ⟨w.heap.size, 1, none⟩) hz1).trans k1; have q2 := (hb3.cell (p := ⟨w.heap.size, 2, none⟩) hz1).trans k2))
  go_wp2
  go_ret2
  exact ⟨by rw [HN.out, HE.out]; rfl, (((Below.refl _ _).alloc (Nat.le_refl _) _).trans (hb1.mono (by simp))).drew.trans (hb3.mono (B' := w.heap.size) (by simp; omega))⟩

theorem rhor_any (W H T x y t : Int) (w : World) :
    Calls Try.prog 135 #[.agg #[.int .i64 W, .int .i64 H, .int .i64 T], .int .i64 x, .int .i64 y, .int .i64 t] w fun e w' => e = .returned (pairV (nodeN W H T 3 x y t) (nodeE W H T 3 x y t)) ∧ Below w.heap.size w w' := by
  by_cases h : okA W H T
  · cases t0 : inB x (W)
    · exact rhor_o0 W H T x y t w h t0
    · cases t1 : inB y (H + 1)
      · exact rhor_o1 W H T x y t w h t0 t1
      · cases t2 : inB t (T)
        · exact rhor_o2 W H T x y t w h t0 t1 t2
        · exact rhor_in W H T x y t w h t0 t1 t2
  · exact rhor_bad W H T x y t w h

theorem rver_bad (W H T x y t : Int) (w : World) (h : ¬ okA W H T) :
    Calls Try.prog 134 #[.agg #[.int .i64 W, .int .i64 H, .int .i64 T], .int .i64 x, .int .i64 y, .int .i64 t] w fun e w' => e = .returned (pairV (nodeN W H T 4 x y t) (nodeE W H T 4 x y t)) ∧ Below w.heap.size w w' := by
  have HN := Lib.hid (show nodeN W H T 4 x y t = 0 from by unfold nodeN; rw [if_neg (fun hh => h hh.1)])
  have HE := Lib.hid (show nodeE W H T 4 x y t = 1 from by unfold nodeE; rw [if_neg (fun hh => h hh.1)])
  go_enter Try.func134, Try.ntmps134
  go_wp2_with (go_at_call 65; refine (rcheck_no W H T _ h).mono ?_; rintro e w1 ⟨rfl, hb1⟩)
  go_ret2
  exact ⟨by rw [HN.out, HE.out]; rfl, ((Below.refl _ _).alloc (Nat.le_refl _) _).trans (hb1.mono (by simp))⟩

set_option maxHeartbeats 400000 in
theorem rver_o0 (W H T x y t : Int) (w : World) (h : okA W H T) (t0 : inB x (W + 1) = false) :
    Calls Try.prog 134 #[.agg #[.int .i64 W, .int .i64 H, .int .i64 T], .int .i64 x, .int .i64 y, .int .i64 t] w fun e w' => e = .returned (pairV (nodeN W H T 4 x y t) (nodeE W H T 4 x y t)) ∧ Below w.heap.size w w' := by
  have hno : ¬ inG W H T 4 x y t := by unfold inG; simp only [inB, decide_eq_true_eq, decide_eq_false_iff_not, gw, gh, gd] at *; omega
  have HN := Lib.hid (show nodeN W H T 4 x y t = 0 from by unfold nodeN; rw [if_neg (fun hh => hno hh.2)])
  have HE := Lib.hid (show nodeE W H T 4 x y t = 1 from by unfold nodeE; rw [if_neg (fun hh => hno hh.2)])
  clear hno
  have hh := h
  unfold okA at hh
  go_enter Try.func134, Try.ntmps134
  go_wp2_with (first
    | (go_at_call 65; refine (rcheck_yes W H T _ h).mono ?_; rintro e w1 ⟨rfl, hb1⟩; obtain ⟨hc1, hf1⟩ := bcell hb1)
    | (go_at_call 90; refine (in_any _ _ _).mono ?_; rintro e wi ⟨rfl, rfl⟩))
  go_ret2
  exact ⟨by rw [HN.out, HE.out]; rfl, ((Below.refl _ _).alloc (Nat.le_refl _) _).trans (hb1.mono (by simp))⟩

set_option maxHeartbeats 400000 in
theorem rver_o1 (W H T x y t : Int) (w : World) (h : okA W H T) (t0 : inB x (W + 1) = true) (t1 : inB y (H) = false) :
    Calls Try.prog 134 #[.agg #[.int .i64 W, .int .i64 H, .int .i64 T], .int .i64 x, .int .i64 y, .int .i64 t] w fun e w' => e = .returned (pairV (nodeN W H T 4 x y t) (nodeE W H T 4 x y t)) ∧ Below w.heap.size w w' := by
  have hno : ¬ inG W H T 4 x y t := by unfold inG; simp only [inB, decide_eq_true_eq, decide_eq_false_iff_not, gw, gh, gd] at *; omega
  have HN := Lib.hid (show nodeN W H T 4 x y t = 0 from by unfold nodeN; rw [if_neg (fun hh => hno hh.2)])
  have HE := Lib.hid (show nodeE W H T 4 x y t = 1 from by unfold nodeE; rw [if_neg (fun hh => hno hh.2)])
  clear hno
  have hh := h
  unfold okA at hh
  go_enter Try.func134, Try.ntmps134
  go_wp2_with (first
    | (go_at_call 65; refine (rcheck_yes W H T _ h).mono ?_; rintro e w1 ⟨rfl, hb1⟩; obtain ⟨hc1, hf1⟩ := bcell hb1)
    | (go_at_call 90; refine (in_any _ _ _).mono ?_; rintro e wi ⟨rfl, rfl⟩))
  go_ret2
  exact ⟨by rw [HN.out, HE.out]; rfl, ((Below.refl _ _).alloc (Nat.le_refl _) _).trans (hb1.mono (by simp))⟩

set_option maxHeartbeats 400000 in
theorem rver_o2 (W H T x y t : Int) (w : World) (h : okA W H T) (t0 : inB x (W + 1) = true) (t1 : inB y (H) = true) (t2 : inB t (T) = false) :
    Calls Try.prog 134 #[.agg #[.int .i64 W, .int .i64 H, .int .i64 T], .int .i64 x, .int .i64 y, .int .i64 t] w fun e w' => e = .returned (pairV (nodeN W H T 4 x y t) (nodeE W H T 4 x y t)) ∧ Below w.heap.size w w' := by
  have hno : ¬ inG W H T 4 x y t := by unfold inG; simp only [inB, decide_eq_true_eq, decide_eq_false_iff_not, gw, gh, gd] at *; omega
  have HN := Lib.hid (show nodeN W H T 4 x y t = 0 from by unfold nodeN; rw [if_neg (fun hh => hno hh.2)])
  have HE := Lib.hid (show nodeE W H T 4 x y t = 1 from by unfold nodeE; rw [if_neg (fun hh => hno hh.2)])
  clear hno
  have hh := h
  unfold okA at hh
  go_enter Try.func134, Try.ntmps134
  go_wp2_with (first
    | (go_at_call 65; refine (rcheck_yes W H T _ h).mono ?_; rintro e w1 ⟨rfl, hb1⟩; obtain ⟨hc1, hf1⟩ := bcell hb1)
    | (go_at_call 90; refine (in_any _ _ _).mono ?_; rintro e wi ⟨rfl, rfl⟩))
  go_ret2
  exact ⟨by rw [HN.out, HE.out]; rfl, ((Below.refl _ _).alloc (Nat.le_refl _) _).trans (hb1.mono (by simp))⟩

set_option maxHeartbeats 1000000 in
theorem rver_in (W H T x y t : Int) (w : World) (h : okA W H T) (t0 : inB x (W + 1) = true) (t1 : inB y (H) = true) (t2 : inB t (T) = true) :
    Calls Try.prog 134 #[.agg #[.int .i64 W, .int .i64 H, .int .i64 T], .int .i64 x, .int .i64 y, .int .i64 t] w fun e w' => e = .returned (pairV (nodeN W H T 4 x y t) (nodeE W H T 4 x y t)) ∧ Below w.heap.size w w' := by
  have hg : inG W H T 4 x y t := by unfold inG; simp only [inB, decide_eq_true_eq, decide_eq_false_iff_not, gw, gh, gd] at *; omega
  have HN := Lib.hid (show nodeN W H T 4 x y t = rb W H T 5 + (y * (W + 1) + x) * T + t from by unfold nodeN; rw [if_pos ⟨h, hg⟩]; simp only [nodeAt, rb, gw, gd] <;> omega)
  have HE := Lib.hid (show nodeE W H T 4 x y t = 0 from by unfold nodeE; rw [if_pos ⟨h, hg⟩])
  have hh := h
  unfold okA at hh
  have hn := nodeAt_in hg
  have hr := rb_bd h (k := 5) (by omega)
  have hz := gat_bd h (k := 5) (by omega)
  obtain ⟨⟨g1, g2⟩, ⟨g3, g4⟩, g5, g6⟩ := hg
  simp only [gw, gh, gd] at g2 g4 g6
  have r1 := row_lt g1 g2 g3 g4
  have r2 := row_lt g5 g6 r1.1 r1.2
  have pb := g_bd2 h (k := 4) (by omega)
  simp only [gw, gh, gd] at pb
  rw [Int.mul_comm T] at r2
  have r3 : 0 ≤ y * (W + 1) := Int.mul_nonneg g3 (by omega)
  have r4 : 0 ≤ (y * (W + 1) + x) * T := Int.mul_nonneg r1.1 (by omega)
  simp only [nodeAt, gw, gd] at hn
  have hrb : rb W H T 5 = gat W H T 4 := rfl
  have e0 : IntKind.i64.wrap (W + 1) = W + 1 := IntWalk.i64_in _ (by omega)
  have e1 : IntKind.i64.wrap (y * (W + 1)) = y * (W + 1) := IntWalk.i64_in _ (by omega)
  have e2 : IntKind.i64.wrap (y * (W + 1) + x) = y * (W + 1) + x := IntWalk.i64_in _ (by omega)
  have e3 : IntKind.i64.wrap ((y * (W + 1) + x) * T) = (y * (W + 1) + x) * T := IntWalk.i64_in _ (by omega)
  have e4 : IntKind.i64.wrap (rb W H T 5 + (y * (W + 1) + x) * T) = rb W H T 5 + (y * (W + 1) + x) * T := IntWalk.i64_in _ (by omega)
  have e5 : IntKind.i64.wrap (rb W H T 5 + (y * (W + 1) + x) * T + t) = rb W H T 5 + (y * (W + 1) + x) * T + t := IntWalk.i64_in _ (by omega)
  clear hrb hn hr hz r1 r2 pb r3 r4
  go_enter Try.func134, Try.ntmps134
  go_wp2_with (first
    | (go_at_call 65; refine (rcheck_yes W H T _ h).mono ?_; rintro e w1 ⟨rfl, hb1⟩; obtain ⟨hc1, hf1⟩ := bcell hb1)
    | (go_at_call 90; refine (in_any _ _ _).mono ?_; rintro e wi ⟨rfl, rfl⟩))
  have hz1 : w.heap.size < w1.heap.size := by have := hb1.size; simp at this; omega
  have k0 : w1.cell? ⟨w.heap.size, 0, none⟩ = some (.int .i64 W) := by rw [hc1 _ _ (by simp)]; go_simp
  have k1 : w1.cell? ⟨w.heap.size, 1, none⟩ = some (.int .i64 H) := by rw [hc1 _ _ (by simp)]; go_simp
  have k2 : w1.cell? ⟨w.heap.size, 2, none⟩ = some (.int .i64 T) := by rw [hc1 _ _ (by simp)]; go_simp
  clear hc1 hf1
  go_region_held3 (fun w' => w'.cell? ⟨w.heap.size, 0, none⟩ = some (.int .i64 W) ∧ w'.cell? ⟨w.heap.size, 1, none⟩ = some (.int .i64 H) ∧ w'.cell? ⟨w.heap.size, 2, none⟩ = some (.int .i64 T)) (go_keep) ((go_at_call 91; refine (begin_i W H T 5 _ rfl _ h (by omega)).mono ?_; rintro e w3 ⟨rfl, hb3⟩; have q0 := (hb3.cell (p := ⟨w.heap.size, 0, none⟩) hz1).trans k0; have q1 := (hb3.cell (p := ⟨w.heap.size, 1, none⟩) hz1).trans k1; have q2 := (hb3.cell (p := ⟨w.heap.size, 2, none⟩) hz1).trans k2))
  go_wp2
  go_ret2
  exact ⟨by rw [HN.out, HE.out]; rfl, (((Below.refl _ _).alloc (Nat.le_refl _) _).trans (hb1.mono (by simp))).drew.trans (hb3.mono (B' := w.heap.size) (by simp; omega))⟩

theorem rver_any (W H T x y t : Int) (w : World) :
    Calls Try.prog 134 #[.agg #[.int .i64 W, .int .i64 H, .int .i64 T], .int .i64 x, .int .i64 y, .int .i64 t] w fun e w' => e = .returned (pairV (nodeN W H T 4 x y t) (nodeE W H T 4 x y t)) ∧ Below w.heap.size w w' := by
  by_cases h : okA W H T
  · cases t0 : inB x (W + 1)
    · exact rver_o0 W H T x y t w h t0
    · cases t1 : inB y (H)
      · exact rver_o1 W H T x y t w h t0 t1
      · cases t2 : inB t (T)
        · exact rver_o2 W H T x y t w h t0 t1 t2
        · exact rver_in W H T x y t w h t0 t1 t2
  · exact rver_bad W H T x y t w h

theorem rpad_bad (W H T x : Int) (w : World) (h : ¬ okA W H T) :
    Calls Try.prog 94 #[.agg #[.int .i64 W, .int .i64 H, .int .i64 T], .int .i64 x] w fun e w' => e = .returned (pairV (nodeN W H T 2 x 0 0) (nodeE W H T 2 x 0 0)) ∧ Below w.heap.size w w' := by
  have HN := Lib.hid (show nodeN W H T 2 x 0 0 = 0 from by unfold nodeN; rw [if_neg (fun hh => h hh.1)])
  have HE := Lib.hid (show nodeE W H T 2 x 0 0 = 1 from by unfold nodeE; rw [if_neg (fun hh => h hh.1)])
  go_enter Try.func94, Try.ntmps94
  go_wp2_with (go_at_call 65; refine (rcheck_no W H T _ h).mono ?_; rintro e w1 ⟨rfl, hb1⟩)
  go_ret2
  exact ⟨by rw [HN.out, HE.out]; rfl, ((Below.refl _ _).alloc (Nat.le_refl _) _).trans (hb1.mono (by simp))⟩

set_option maxHeartbeats 400000 in
theorem rpad_o0 (W H T x : Int) (w : World) (h : okA W H T) (t0 : inB x (2 * W + 2 * H) = false) :
    Calls Try.prog 94 #[.agg #[.int .i64 W, .int .i64 H, .int .i64 T], .int .i64 x] w fun e w' => e = .returned (pairV (nodeN W H T 2 x 0 0) (nodeE W H T 2 x 0 0)) ∧ Below w.heap.size w w' := by
  have hno : ¬ inG W H T 2 x 0 0 := by unfold inG; simp only [inB, decide_eq_true_eq, decide_eq_false_iff_not, gw, gh, gd] at *; omega
  have HN := Lib.hid (show nodeN W H T 2 x 0 0 = 0 from by unfold nodeN; rw [if_neg (fun hh => hno hh.2)])
  have HE := Lib.hid (show nodeE W H T 2 x 0 0 = 1 from by unfold nodeE; rw [if_neg (fun hh => hno hh.2)])
  clear hno
  go_enter Try.func94, Try.ntmps94
  go_wp2_with (first
    | (go_at_call 65; refine (rcheck_yes W H T _ h).mono ?_; rintro e w1 ⟨rfl, hb1⟩; obtain ⟨hc1, hf1⟩ := bcell hb1)
    | (go_at_call 69; refine (rpads_yes W H T _ h).mono ?_; rintro e w2 ⟨rfl, hb2⟩)
    | (go_at_call 90; refine (in_any _ _ _).mono ?_; rintro e wi ⟨rfl, rfl⟩))
  go_ret2
  exact ⟨by rw [HN.out, HE.out]; rfl, (((Below.refl _ _).alloc (Nat.le_refl _) _).trans (hb1.mono (by simp))).trans (hb2.mono (by have := hb1.size; simp at this; omega))⟩

set_option maxHeartbeats 400000 in
theorem rpad_in (W H T x : Int) (w : World) (h : okA W H T) (t0 : inB x (2 * W + 2 * H) = true) :
    Calls Try.prog 94 #[.agg #[.int .i64 W, .int .i64 H, .int .i64 T], .int .i64 x] w fun e w' => e = .returned (pairV (nodeN W H T 2 x 0 0) (nodeE W H T 2 x 0 0)) ∧ Below w.heap.size w w' := by
  have hg : inG W H T 2 x 0 0 := by unfold inG; simp only [inB, decide_eq_true_eq, decide_eq_false_iff_not, gw, gh, gd] at *; omega
  have HN := Lib.hid (show nodeN W H T 2 x 0 0 = rb W H T 3 + x from by unfold nodeN; rw [if_pos ⟨h, hg⟩]; simp only [nodeAt, rb, gw, gd] <;> omega)
  have HE := Lib.hid (show nodeE W H T 2 x 0 0 = 0 from by unfold nodeE; rw [if_pos ⟨h, hg⟩])
  have hr := rb_bd h (k := 3) (by omega)
  obtain ⟨⟨g1, g2⟩, -, -⟩ := hg
  have pb := g_bd h (k := 2) (by omega)
  have e0 : IntKind.i64.wrap (rb W H T 3 + x) = rb W H T 3 + x := IntWalk.i64_in _ (by omega)
  clear hr g1 g2 pb
  go_enter Try.func94, Try.ntmps94
  go_wp2_with (first
    | (go_at_call 65; refine (rcheck_yes W H T _ h).mono ?_; rintro e w1 ⟨rfl, hb1⟩; obtain ⟨hc1, hf1⟩ := bcell hb1)
    | (go_at_call 69; refine (rpads_yes W H T _ h).mono ?_; rintro e w2 ⟨rfl, hb2⟩; obtain ⟨hc2, hf2⟩ := bcell hb2; have hz1 : w.heap.size < w1.heap.size := by have := hb1.size; simp at this; omega)
    | (go_at_call 90; refine (in_any _ _ _).mono ?_; rintro e wi ⟨rfl, rfl⟩)
    | (go_at_call 91; refine (begin_i W H T 3 _ rfl _ h (by omega)).mono ?_; rintro e w3 ⟨rfl, hb3⟩))
  go_ret2
  have h12 : Below w.heap.size w w2 := (((Below.refl _ _).alloc (Nat.le_refl _) _).trans (hb1.mono (by simp))).trans (hb2.mono (by have := hb1.size; simp at this; omega))
  exact ⟨by rw [HN.out, HE.out]; rfl, h12.trans (hb3.mono h12.size)⟩

theorem rpad_any (W H T x : Int) (w : World) :
    Calls Try.prog 94 #[.agg #[.int .i64 W, .int .i64 H, .int .i64 T], .int .i64 x] w fun e w' => e = .returned (pairV (nodeN W H T 2 x 0 0) (nodeE W H T 2 x 0 0)) ∧ Below w.heap.size w w' := by
  by_cases h : okA W H T
  · cases t0 : inB x (2 * W + 2 * H)
    · exact rpad_o0 W H T x w h t0
    · exact rpad_in W H T x w h t0
  · exact rpad_bad W H T x w h
end Go.Proofs.Ytakccepilbmmlaa
