/- Walks of the reference of layer 28: What. -/
import Derived.Test.YtakccepilbmmlaaRefC
namespace Go.Proofs.Ytakccepilbmmlaa
open Go.RowKit
set_option linter.unusedVariables false
set_option linter.unusedSimpArgs false


theorem wh_no {W H T n : Int} (h : ¬ isN W H T n) : whK W H T n = 0 ∧ whX W H T n = 0 ∧ whY W H T n = 0 ∧ whT W H T n = 0 ∧ whE W H T n = 1 := by
  simp only [whK, whX, whY, whT, whE, if_neg h, and_self]

theorem rwhat_bad (W H T n : Int) (w : World) (h : ¬ okA W H T) :
    Calls Try.prog 116 #[.agg #[.int .i64 W, .int .i64 H, .int .i64 T], .int .i64 n] w fun e w' => e = .returned (whatV 0 0 0 0 1) ∧ Below w.heap.size w w' := by
  go_enter Try.func116, Try.ntmps116
  go_wp2_with (go_at_call 65; refine (rcheck_no W H T _ h).mono ?_; rintro e w1 ⟨rfl, hb1⟩)
  refine bodyPost_ret (results_tmp5 rfl _ _ _) rfl ?_
  exact ⟨rfl, ((Below.refl _ _).alloc (Nat.le_refl _) _).trans (hb1.mono (by simp))⟩

set_option maxHeartbeats 400000 in
theorem rwhat_out (W H T n : Int) (w : World) (h : okA W H T) (t : inB n (nodesO W H T) = false) :
    Calls Try.prog 116 #[.agg #[.int .i64 W, .int .i64 H, .int .i64 T], .int .i64 n] w fun e w' => e = .returned (whatV 0 0 0 0 1) ∧ Below w.heap.size w w' := by
  go_enter Try.func116, Try.ntmps116
  go_wp2_with (first
    | (go_at_call 65; refine (rcheck_yes W H T _ h).mono ?_; rintro e w1 ⟨rfl, hb1⟩; obtain ⟨hc1, hf1⟩ := bcell hb1)
    | (go_at_call 45; refine (rnodes_any W H T _).mono ?_; rintro e w2 ⟨rfl, hb2⟩)
    | (go_at_call 90; refine (in_any _ _ _).mono ?_; rintro e wi ⟨rfl, rfl⟩))
  refine bodyPost_ret (results_tmp5 rfl _ _ _) rfl ?_
  exact ⟨rfl, (((Below.refl _ _).alloc (Nat.le_refl _) _).trans (hb1.mono (by simp))).trans (hb2.mono (by have := hb1.size; simp at this; omega))⟩

theorem wh_0 {W H T n r : Int} (h : okA W H T) (hr : r = n - gat W H T 0) (h1 : gat W H T 0 ≤ n) (h2 : n < gat W H T 1) : whK W H T n = 1 ∧ whX W H T n = r % W ∧ whY W H T n = r / W ∧ whT W H T n = 0 ∧ whE W H T n = 0 := by
  have hm := gat_mono h
  have e0 : gat W H T 0 = 0 := rfl
  have hN : isN W H T n := ⟨h, by omega, by unfold nodesI; omega⟩
  have hg : gk W H T n = 0 := gk_eq h (by omega) h1 (by simpa using h2)
  subst hr
  simp only [whK, whX, whY, whT, whE, if_pos hN, wx, wy, wt, wq, hg, gd, gw]
  simp [Int.emod_one]
theorem wh_1 {W H T n r : Int} (h : okA W H T) (hr : r = n - gat W H T 1) (h1 : gat W H T 1 ≤ n) (h2 : n < gat W H T 2) : whK W H T n = 2 ∧ whX W H T n = r / 4 % W ∧ whY W H T n = r / 4 / W ∧ whT W H T n = r % 4 ∧ whE W H T n = 0 := by
  have hm := gat_mono h
  have e0 : gat W H T 0 = 0 := rfl
  have hN : isN W H T n := ⟨h, by omega, by unfold nodesI; omega⟩
  have hg : gk W H T n = 1 := gk_eq h (by omega) h1 (by simpa using h2)
  subst hr
  simp only [whK, whX, whY, whT, whE, if_pos hN, wx, wy, wt, wq, hg, gd, gw]
  simp
theorem wh_2 {W H T n r : Int} (h : okA W H T) (hr : r = n - gat W H T 2) (h1 : gat W H T 2 ≤ n) (h2 : n < gat W H T 3) : whK W H T n = 3 ∧ whX W H T n = r ∧ whY W H T n = 0 ∧ whT W H T n = 0 ∧ whE W H T n = 0 := by
  have hm := gat_mono h
  have e0 : gat W H T 0 = 0 := rfl
  have hN : isN W H T n := ⟨h, by omega, by unfold nodesI; omega⟩
  have hg : gk W H T n = 2 := gk_eq h (by omega) h1 (by simpa using h2)
  subst hr
  simp only [whK, whX, whY, whT, whE, if_pos hN, wx, wy, wt, wq, hg, gd, gw]
  have hh : n - gat W H T 2 < 2 * W + 2 * H := by
    have : gat W H T 3 = gat W H T 2 + (2 * W + 2 * H) * 1 * 1 := rfl
    omega
  refine ⟨by simp, ?_, ?_, Int.emod_one _, trivial⟩
  · rw [Int.ediv_one]; exact Int.emod_eq_of_lt (by omega) hh
  · rw [Int.ediv_one]; exact Int.ediv_eq_zero_of_lt (by omega) hh
theorem wh_3 {W H T n r : Int} (h : okA W H T) (hr : r = n - gat W H T 3) (h1 : gat W H T 3 ≤ n) (h2 : n < gat W H T 4) : whK W H T n = 4 ∧ whX W H T n = r / T % W ∧ whY W H T n = r / T / W ∧ whT W H T n = r % T ∧ whE W H T n = 0 := by
  have hm := gat_mono h
  have e0 : gat W H T 0 = 0 := rfl
  have hN : isN W H T n := ⟨h, by omega, by unfold nodesI; omega⟩
  have hg : gk W H T n = 3 := gk_eq h (by omega) h1 (by simpa using h2)
  subst hr
  simp only [whK, whX, whY, whT, whE, if_pos hN, wx, wy, wt, wq, hg, gd, gw]
  simp
theorem wh_4 {W H T n r : Int} (h : okA W H T) (hr : r = n - gat W H T 4) (h1 : gat W H T 4 ≤ n) (h2 : n < gat W H T 5) : whK W H T n = 5 ∧ whX W H T n = r / T % (W + 1) ∧ whY W H T n = r / T / (W + 1) ∧ whT W H T n = r % T ∧ whE W H T n = 0 := by
  have hm := gat_mono h
  have e0 : gat W H T 0 = 0 := rfl
  have hN : isN W H T n := ⟨h, by omega, by unfold nodesI; omega⟩
  have hg : gk W H T n = 4 := gk_eq h (by omega) h1 (by simpa using h2)
  subst hr
  simp only [whK, whX, whY, whT, whE, if_pos hN, wx, wy, wt, wq, hg, gd, gw]
  simp

set_option maxHeartbeats 2000000 in
theorem rwhat_in (W H T n : Int) (w : World) (h : okA W H T) (t : inB n (nodesO W H T) = true) :
    Calls Try.prog 116 #[.agg #[.int .i64 W, .int .i64 H, .int .i64 T], .int .i64 n] w fun e w' => e = .returned (whatV (whK W H T n) (whX W H T n) (whY W H T n) (whT W H T n) (whE W H T n)) ∧ Below w.heap.size w w' := by
  have hn : 0 ≤ n ∧ n < rb W H T 6 := by have t2 := t; simp [inB, nodesO, h] at t2; exact t2
  have HN := Lib.hid hn
  have hh := h
  unfold okA at hh
  have hnb := rb_bd h (k := 6) (by omega)
  have hn1 : 0 ≤ n ∧ n ≤ 87040 := by omega
  clear hn hnb
  go_enter Try.func116, Try.ntmps116
  go_wp2_with (first
    | (go_at_call 65; refine (rcheck_yes W H T _ h).mono ?_; rintro e w1 ⟨rfl, hb1⟩; obtain ⟨hc1, hf1⟩ := bcell hb1)
    | (go_at_call 45; refine (rnodes_any W H T _).mono ?_; rintro e w2 ⟨rfl, hb2⟩)
    | (go_at_call 90; refine (in_any _ _ _).mono ?_; rintro e wi ⟨rfl, rfl⟩))
  clear hc1 hf1
  have hz1 : w.heap.size < w1.heap.size := by have := hb1.size; simp at this; omega
  have hB : Below (w.heap.size + 1) (w.alloc (.cells #[.int .i64 W, .int .i64 H, .int .i64 T] 23)) w2 := (hb1.mono (by simp)).trans (hb2.mono (by omega))
  have HO := Lib.hid h
  clear h hb1 hb2 t
  go_loopw [9] (fun v wr => ∃ j : Nat, 1 ≤ j ∧ j ≤ 5 ∧ n < rb W H T (j + 1) ∧ v = .int .i64 (j : Int) ∧ Below (w.heap.size + 1) (w.alloc (.cells #[.int .i64 W, .int .i64 H, .int .i64 T] 23)) wr) (fun v _ => (intOf v).toNat)
  case atStart => exact ⟨5, by omega, by omega, HN.out.2, rfl, hB⟩
  case round =>
    obtain ⟨j, hj1, hj2, hup, rfl, hbr⟩ := hrel
    have hzr : w.heap.size < wr.heap.size := by have := hbr.size; simp at this; omega
    have hW0 : Below w.heap.size w wr := ((Below.refl _ _).alloc (Nat.le_refl _) _).trans (hbr.mono (by omega))
    have kk : wr.cell? ⟨w.heap.size, 0, none⟩ = some (.int .i64 W) ∧ wr.cell? ⟨w.heap.size, 1, none⟩ = some (.int .i64 H) ∧ wr.cell? ⟨w.heap.size, 2, none⟩ = some (.int .i64 T) := by
      refine ⟨?_, ?_, ?_⟩ <;> (rw [hbr.cell (by simp)]; go_simp)
    obtain ⟨k0, k1, k2⟩ := kk
    have hrb := rb_bd HO.out (k := j) (by omega)
    by_cases hlt : n < rb W H T j
    · go_wp2_with (go_at_call 91; refine (begin_i W H T j _ rfl _ HO.out (by omega)).mono ?_; rintro e w3 ⟨rfl, hb3⟩)
      go_roundw
      case rel =>
        have hj0 : j ≠ 1 := by rintro rfl; have e0 : rb W H T 1 = 0 := rfl; omega
        refine ⟨j - 1, by omega, by omega, ?_, ?_, hbr.trans (hb3.mono (by omega))⟩
        · rw [show j - 1 + 1 = j from by omega]; exact hlt
        · rw [show ((j - 1 : Nat) : Int) = (j : Int) - 1 from by omega]
      case measure => simp [intOf]; omega
    · have hge : rb W H T j ≤ n := by omega
      have HL := Lib.hid hge
      have HU := Lib.hid hup
      clear hge hup
      have hj : j = 1 ∨ j = 2 ∨ j = 3 ∨ j = 4 ∨ j = 5 := by omega
      rcases hj with rfl | rfl | rfl | rfl | rfl
      · have hp0 : 0 ≤ n - rb W H T 1 := by omega
        have hp3 : 0 ≤ (n - rb W H T 1) / W := Int.ediv_nonneg hp0 (by omega)
        have hp4 : (n - rb W H T 1) / W ≤ (n - rb W H T 1) := Int.ediv_le_self _ hp0
        have HV := Lib.hid (wh_0 (r := n - rb W H T 1) HO.out rfl HL.out HU.out)
        go_wp2_with fail
        refine (begin_i W H T 1 _ rfl _ HO.out (by omega)).mono ?_
        rintro e w3 ⟨rfl, hb3⟩
        have q0 := (hb3.cell (p := ⟨w.heap.size, 0, none⟩) hzr).trans k0
        have q1 := (hb3.cell (p := ⟨w.heap.size, 1, none⟩) hzr).trans k1
        have q2 := (hb3.cell (p := ⟨w.heap.size, 2, none⟩) hzr).trans k2
        have hz3 : w.heap.size < w3.heap.size := by have := hb3.size; omega
        go_wp2_with fail
        refine (begin_i W H T 1 _ rfl _ HO.out (by omega)).mono ?_
        rintro e w4 ⟨rfl, hb4⟩
        have s0 := (hb4.cell (p := ⟨w.heap.size, 0, none⟩) hz3).trans q0
        have s1 := (hb4.cell (p := ⟨w.heap.size, 1, none⟩) hz3).trans q1
        have s2 := (hb4.cell (p := ⟨w.heap.size, 2, none⟩) hz3).trans q2
        have hb43 := hb4.mono (B' := w.heap.size) (by omega)
        have hb33 := hb3.mono (B' := w.heap.size) (by omega)
        clear hb4 hb3
        go_wp2
        go_quiet (fail)
        go_wp2
        refine bodyPost_ret (results_tmp5 rfl _ _ _) rfl ?_
        obtain ⟨v1, v2, v3, v4, v5⟩ := HV.out
        exact ⟨by rw [v1, v2, v3, v4, v5]; rfl, below_drewN ((hW0.trans hb33).trans hb43) _⟩
      · have hp0 : 0 ≤ n - rb W H T 2 := by omega
        have hp1 : 0 ≤ (n - rb W H T 2) / 4 := Int.ediv_nonneg hp0 (by omega)
        have hp2 : (n - rb W H T 2) / 4 ≤ (n - rb W H T 2) := Int.ediv_le_self _ hp0
        have hp3 : 0 ≤ (n - rb W H T 2) / 4 / W := Int.ediv_nonneg hp1 (by omega)
        have hp4 : (n - rb W H T 2) / 4 / W ≤ (n - rb W H T 2) / 4 := Int.ediv_le_self _ hp1
        have HV := Lib.hid (wh_1 (r := n - rb W H T 2) HO.out rfl HL.out HU.out)
        go_wp2_with fail
        refine (begin_i W H T 2 _ rfl _ HO.out (by omega)).mono ?_
        rintro e w3 ⟨rfl, hb3⟩
        have q0 := (hb3.cell (p := ⟨w.heap.size, 0, none⟩) hzr).trans k0
        have q1 := (hb3.cell (p := ⟨w.heap.size, 1, none⟩) hzr).trans k1
        have q2 := (hb3.cell (p := ⟨w.heap.size, 2, none⟩) hzr).trans k2
        have hz3 : w.heap.size < w3.heap.size := by have := hb3.size; omega
        go_wp2_with fail
        refine (begin_i W H T 2 _ rfl _ HO.out (by omega)).mono ?_
        rintro e w4 ⟨rfl, hb4⟩
        have s0 := (hb4.cell (p := ⟨w.heap.size, 0, none⟩) hz3).trans q0
        have s1 := (hb4.cell (p := ⟨w.heap.size, 1, none⟩) hz3).trans q1
        have s2 := (hb4.cell (p := ⟨w.heap.size, 2, none⟩) hz3).trans q2
        have hb43 := hb4.mono (B' := w.heap.size) (by omega)
        have hb33 := hb3.mono (B' := w.heap.size) (by omega)
        clear hb4 hb3
        go_wp2
        go_quiet (fail)
        go_wp2
        refine bodyPost_ret (results_tmp5 rfl _ _ _) rfl ?_
        obtain ⟨v1, v2, v3, v4, v5⟩ := HV.out
        exact ⟨by rw [v1, v2, v3, v4, v5]; rfl, below_drewN ((hW0.trans hb33).trans hb43) _⟩
      · have hp0 : 0 ≤ n - rb W H T 3 := by omega
        have HV := Lib.hid (wh_2 (r := n - rb W H T 3) HO.out rfl HL.out HU.out)
        go_wp2_with fail
        refine (begin_i W H T 3 _ rfl _ HO.out (by omega)).mono ?_
        rintro e w3 ⟨rfl, hb3⟩
        have q0 := (hb3.cell (p := ⟨w.heap.size, 0, none⟩) hzr).trans k0
        have q1 := (hb3.cell (p := ⟨w.heap.size, 1, none⟩) hzr).trans k1
        have q2 := (hb3.cell (p := ⟨w.heap.size, 2, none⟩) hzr).trans k2
        have hz3 : w.heap.size < w3.heap.size := by have := hb3.size; omega
        go_wp2_with fail
        refine (begin_i W H T 3 _ rfl _ HO.out (by omega)).mono ?_
        rintro e w4 ⟨rfl, hb4⟩
        have s0 := (hb4.cell (p := ⟨w.heap.size, 0, none⟩) hz3).trans q0
        have s1 := (hb4.cell (p := ⟨w.heap.size, 1, none⟩) hz3).trans q1
        have s2 := (hb4.cell (p := ⟨w.heap.size, 2, none⟩) hz3).trans q2
        have hb43 := hb4.mono (B' := w.heap.size) (by omega)
        have hb33 := hb3.mono (B' := w.heap.size) (by omega)
        clear hb4 hb3
        go_wp2
        refine bodyPost_ret (results_tmp5 rfl _ _ _) rfl ?_
        obtain ⟨v1, v2, v3, v4, v5⟩ := HV.out
        exact ⟨by rw [v1, v2, v3, v4, v5]; rfl, (hW0.trans hb33).trans hb43⟩
      · have hp0 : 0 ≤ n - rb W H T 4 := by omega
        have hp1 : 0 ≤ (n - rb W H T 4) / T := Int.ediv_nonneg hp0 (by omega)
        have hp2 : (n - rb W H T 4) / T ≤ (n - rb W H T 4) := Int.ediv_le_self _ hp0
        have hp3 : 0 ≤ (n - rb W H T 4) / T / W := Int.ediv_nonneg hp1 (by omega)
        have hp4 : (n - rb W H T 4) / T / W ≤ (n - rb W H T 4) / T := Int.ediv_le_self _ hp1
        have HV := Lib.hid (wh_3 (r := n - rb W H T 4) HO.out rfl HL.out HU.out)
        go_wp2_with fail
        refine (begin_i W H T 4 _ rfl _ HO.out (by omega)).mono ?_
        rintro e w3 ⟨rfl, hb3⟩
        have q0 := (hb3.cell (p := ⟨w.heap.size, 0, none⟩) hzr).trans k0
        have q1 := (hb3.cell (p := ⟨w.heap.size, 1, none⟩) hzr).trans k1
        have q2 := (hb3.cell (p := ⟨w.heap.size, 2, none⟩) hzr).trans k2
        have hz3 : w.heap.size < w3.heap.size := by have := hb3.size; omega
        go_wp2_with fail
        refine (begin_i W H T 4 _ rfl _ HO.out (by omega)).mono ?_
        rintro e w4 ⟨rfl, hb4⟩
        have s0 := (hb4.cell (p := ⟨w.heap.size, 0, none⟩) hz3).trans q0
        have s1 := (hb4.cell (p := ⟨w.heap.size, 1, none⟩) hz3).trans q1
        have s2 := (hb4.cell (p := ⟨w.heap.size, 2, none⟩) hz3).trans q2
        have hb43 := hb4.mono (B' := w.heap.size) (by omega)
        have hb33 := hb3.mono (B' := w.heap.size) (by omega)
        clear hb4 hb3
        go_wp2
        go_quiet (fail)
        go_wp2
        refine bodyPost_ret (results_tmp5 rfl _ _ _) rfl ?_
        obtain ⟨v1, v2, v3, v4, v5⟩ := HV.out
        exact ⟨by rw [v1, v2, v3, v4, v5]; rfl, below_drewN ((hW0.trans hb33).trans hb43) _⟩
      · have hp0 : 0 ≤ n - rb W H T 5 := by omega
        have hp1 : 0 ≤ (n - rb W H T 5) / T := Int.ediv_nonneg hp0 (by omega)
        have hp2 : (n - rb W H T 5) / T ≤ (n - rb W H T 5) := Int.ediv_le_self _ hp0
        have hp3 : 0 ≤ (n - rb W H T 5) / T / (W + 1) := Int.ediv_nonneg hp1 (by omega)
        have hp4 : (n - rb W H T 5) / T / (W + 1) ≤ (n - rb W H T 5) / T := Int.ediv_le_self _ hp1
        have ew : IntKind.i64.wrap (W + 1) = W + 1 := IntWalk.i64_in _ (by omega)
        have HV := Lib.hid (wh_4 (r := n - rb W H T 5) HO.out rfl HL.out HU.out)
        go_wp2_with fail
        refine (begin_i W H T 5 _ rfl _ HO.out (by omega)).mono ?_
        rintro e w3 ⟨rfl, hb3⟩
        have q0 := (hb3.cell (p := ⟨w.heap.size, 0, none⟩) hzr).trans k0
        have q1 := (hb3.cell (p := ⟨w.heap.size, 1, none⟩) hzr).trans k1
        have q2 := (hb3.cell (p := ⟨w.heap.size, 2, none⟩) hzr).trans k2
        have hz3 : w.heap.size < w3.heap.size := by have := hb3.size; omega
        go_wp2_with fail
        refine (begin_i W H T 5 _ rfl _ HO.out (by omega)).mono ?_
        rintro e w4 ⟨rfl, hb4⟩
        have s0 := (hb4.cell (p := ⟨w.heap.size, 0, none⟩) hz3).trans q0
        have s1 := (hb4.cell (p := ⟨w.heap.size, 1, none⟩) hz3).trans q1
        have s2 := (hb4.cell (p := ⟨w.heap.size, 2, none⟩) hz3).trans q2
        have hb43 := hb4.mono (B' := w.heap.size) (by omega)
        have hb33 := hb3.mono (B' := w.heap.size) (by omega)
        clear hb4 hb3
        go_wp2
        go_quiet (fail)
        go_wp2
        refine bodyPost_ret (results_tmp5 rfl _ _ _) rfl ?_
        obtain ⟨v1, v2, v3, v4, v5⟩ := HV.out
        exact ⟨by rw [v1, v2, v3, v4, v5]; rfl, below_drewN ((hW0.trans hb33).trans hb43) _⟩

theorem rwhat_any (W H T n : Int) (w : World) :
    Calls Try.prog 116 #[.agg #[.int .i64 W, .int .i64 H, .int .i64 T], .int .i64 n] w fun e w' => e = .returned (whatV (whK W H T n) (whX W H T n) (whY W H T n) (whT W H T n) (whE W H T n)) ∧ Below w.heap.size w w' := by
  by_cases h : okA W H T
  · cases t : inB n (nodesO W H T)
    · have hn : ¬ isN W H T n := by
        intro hh
        have := hh.2
        simp [inB, nodesO, h] at t
        omega
      obtain ⟨v1, v2, v3, v4, v5⟩ := wh_no hn
      rw [v1, v2, v3, v4, v5]
      exact rwhat_out W H T n w h t
    · exact rwhat_in W H T n w h t
  · obtain ⟨v1, v2, v3, v4, v5⟩ := wh_no (fun hh => h hh.1)
    rw [v1, v2, v3, v4, v5]
    exact rwhat_bad W H T n w h
end Go.Proofs.Ytakccepilbmmlaa
