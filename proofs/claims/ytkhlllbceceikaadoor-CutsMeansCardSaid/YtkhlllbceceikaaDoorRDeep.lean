/- filigreeref24.deep, ahead; which set of leaves is ahead of another, plainly. -/
import Derived.Test.YtkhlllbceceikaaDoorRMrg
namespace Go.Proofs.YtkhlllbceceikaaDoor.Cut
set_option linter.unusedVariables false
set_option linter.unusedSimpArgs false
/-- the depth of a set of leaves -/
def deepTo (d : List Int) (l : List Int) : Nat → Int
  | 0 => 0
  | k + 1 => max (deepTo d l k) (d.getD (l.getD k 0).toNat 0)
def deep (d l : List Int) : Int := deepTo d l l.length + 1
/-- by the first place where they differ -/
def lexB : List Int → List Int → Bool
  | x :: a, y :: b => if x ≠ y then decide (x < y) else lexB a b
  | _, _ => false
def aheadB (d a b : List Int) : Bool := if deep d a ≠ deep d b then decide (deep d a < deep d b) else if a.length ≠ b.length then decide (a.length < b.length) else lexB a b
theorem deepTo_bound {d l : List Int} {M : Int} (h0 : 0 ≤ M) (h : ∀ x ∈ d, x ≤ M) : ∀ k, 0 ≤ deepTo d l k ∧ deepTo d l k ≤ M
  | 0 => ⟨Int.le_refl _, h0⟩
  | k + 1 => by
    have ih := deepTo_bound h0 h (l := l) k
    have hd : d.getD (l.getD k 0).toNat 0 ≤ M := by
      rw [List.getD_eq_getElem?_getD]
      cases hg : d[(l.getD k 0).toNat]? with
      | none => exact h0
      | some v => exact h v (List.mem_of_getElem? hg)
    simp only [deepTo]
    omega
theorem deep_bound {d l : List Int} {M : Int} (h0 : 0 ≤ M) (h : ∀ x ∈ d, x ≤ M) : 1 ≤ deep d l ∧ deep d l ≤ M + 1 := by
  have := deepTo_bound h0 h (l := l) l.length
  unfold deep; omega
theorem lexB_step {a b : List Int} {i : Nat} (ha : i < a.length) (hb : i < b.length) : lexB (a.drop i) (b.drop i) = if a.getD i 0 ≠ b.getD i 0 then decide (a.getD i 0 < b.getD i 0) else lexB (a.drop (i + 1)) (b.drop (i + 1)) := by
  rw [drop_at ha, drop_at hb, lexB]
theorem lexB_end {a b : List Int} {i : Nat} (ha : a.length ≤ i) : lexB (a.drop i) (b.drop i) = false := by
  rw [List.drop_eq_nil_of_le ha, lexB]
  intro x a' y b' h; cases h
end Go.Proofs.YtkhlllbceceikaaDoor.Cut
namespace Go.Proofs.YtkhlllbceceikaaDoor
open Go.RowKit
set_option linter.unusedVariables false
set_option linter.unusedSimpArgs false
/-- depths: of so many nodes, small -/
structure DepIn (w : World) (A : Option Addr) (c N : Nat) (d : List Int) : Prop where
  rd : Rd w 1 A N c (ints d)
  small : ∀ x ∈ d, x ≤ 1000000
theorem DepIn.later {w w' : World} {A : Option Addr} {c N : Nat} {d : List Int} (h : DepIn w A c N d) (hb : Below w.heap.size w w') : DepIn w' A c N d := ⟨h.rd.later hb, h.small⟩
/-- all of them are nodes of those -/
def NodesIn (N : Nat) (l : List Int) : Prop := ∀ x ∈ l, 0 ≤ x ∧ x < (N : Int)
theorem getD_mem {l : List Int} {k : Nat} (h : k < l.length) : l.getD k 0 ∈ l := by
  rw [List.getD_eq_getElem?_getD, List.getElem?_eq_getElem h]; exact List.getElem_mem h
set_option maxRecDepth 100000 in
set_option maxHeartbeats 2000000 in
theorem rdeep_any (D A : Option Addr) (cd c N : Nat) (d l : List Int) (w : World) (hd : DepIn w D cd N d) (hl : Rd w 1 A l.length c (ints l)) (hn : NodesIn N l) (hll : l.length ≤ 1000000) :
    Calls Tryd.prog 61 #[.slice D N cd, .slice A l.length c] w fun r w' => r = .returned (.int .i64 (Cut.deep d l)) ∧ Below w.heap.size w w' := by
  obtain ⟨r, hr⟩ : ∃ r, Cut.deep d l = r := ⟨_, rfl⟩
  have HR := Lib.hid hr
  rw [hr]
  have HD := Lib.hid hd
  have HL := Lib.hid hl
  have HN := Lib.hid hn
  obtain ⟨m, hm⟩ : ∃ n, l.length = n := ⟨_, rfl⟩
  have HM := Lib.hid hm
  rw [hm] at HL hll ⊢
  have HB := Lib.hid (fun k => Cut.deepTo_bound (d := d) (l := l) (M := 1000000) (by omega) hd.small k)
  clear hd hl hn hr hm
  go_enter Tryd.func61, Tryd.ntmps61
  go_wp2_with fail
  go_loopw [5, 6] (fun v5 v6 wx => ∃ k : Nat, k ≤ m ∧ v6 = .int .i64 (k : Int) ∧ v5 = .int .i64 (Cut.deepTo d l k) ∧ Below w.heap.size w wx) (fun _ v6 _ => m - (intOf v6).toNat)
  case atStart => exact ⟨0, by omega, rfl, rfl, Below.refl _ _⟩
  case round =>
    obtain ⟨k, hk, rfl, rfl, hbe⟩ := hrel
    have B3 := Lib.hid hbe
    clear hbe
    by_cases hlt : k < m
    case neg =>
      obtain rfl : k = m := by omega
      have hb := HB.out k
      have hr : Cut.deepTo d l k + 1 = r := by rw [← HR.out]; unfold Cut.deep; rw [HM.out]
      have HRR := Lib.hid hr
      generalize Cut.deepTo d l k = t at hb HRR
      obtain ⟨hb0, hb1⟩ := hb
      go_wp2_with fail
      go_ret
      exact ⟨by rw [← HRR.out]; rfl, B3.out⟩
    have hnod := HN.out _ (getD_mem (l := l) (k := k) (by rw [HM.out]; exact hlt))
    obtain ⟨x, hx⟩ : ∃ x : Nat, l.getD k 0 = (x : Int) := ⟨(l.getD k 0).toNat, by omega⟩
    obtain ⟨pa, hA, hab, d0⟩ := (HL.out.later B3.out).int (k := k) hlt
    obtain ⟨pd, hD, hdb, e0⟩ := (HD.out.rd.later B3.out).int (k := x) (by omega)
    have hst : Cut.deepTo d l (k + 1) = max (Cut.deepTo d l k) (d.getD x 0) := by simp only [Cut.deepTo, hx, Int.toNat_natCast]
    have HST := Lib.hid hst
    have hb := HB.out k
    have hxN : (x : Int) < (N : Int) := by omega
    have hkm : (k : Int) < (m : Int) := by omega
    rw [hx] at d0
    clear hst hnod hx
    subst hA
    subst hD
    generalize Cut.deepTo d l k = t at hb HST
    generalize d.getD x 0 = y at e0 HST
    obtain ⟨hb0, hb1⟩ := hb
    go_wp2_with fail
    go_roundw
    case rel => exact ⟨k + 1, by omega, by go_num, by rw [HST.out], B3.out⟩
    case measure => simp [intOf]; omega
set_option maxRecDepth 100000 in
set_option maxHeartbeats 2000000 in
theorem ahead_any (D A B : Option Addr) (cd c e N : Nat) (d a b : List Int) (w : World) (hd : DepIn w D cd N d) (ha : Rd w 1 A a.length c (ints a)) (hb : Rd w 1 B b.length e (ints b)) (hna : NodesIn N a) (hnb : NodesIn N b) (hla : a.length ≤ 1000000) (hlb : b.length ≤ 1000000) :
    Calls Tryd.prog 96 #[.slice D N cd, .slice A a.length c, .slice B b.length e] w fun r w' => r = .returned (.bool (Cut.aheadB d a b)) ∧ Below w.heap.size w w' := by
  obtain ⟨r, hr⟩ : ∃ r, Cut.aheadB d a b = r := ⟨_, rfl⟩
  have HR := Lib.hid hr
  rw [hr]
  have HDA := Lib.hid (fun (W : World) (hB : Below w.heap.size w W) => rdeep_any D A cd c N d a W (hd.later hB) (ha.later hB) hna hla)
  have HDB := Lib.hid (fun (W : World) (hB : Below w.heap.size w W) => rdeep_any D B cd e N d b W (hd.later hB) (hb.later hB) hnb hlb)
  have h1 := Cut.deep_bound (d := d) (l := a) (M := 1000000) (by omega) hd.small
  have h2 := Cut.deep_bound (d := d) (l := b) (M := 1000000) (by omega) hd.small
  have HA := Lib.hid ha
  have HB := Lib.hid hb
  obtain ⟨x, hx⟩ : ∃ x, Cut.deep d a = x := ⟨_, rfl⟩
  obtain ⟨y, hy⟩ : ∃ x, Cut.deep d b = x := ⟨_, rfl⟩
  obtain ⟨n, hn⟩ : ∃ x, a.length = x := ⟨_, rfl⟩
  obtain ⟨m, hm⟩ : ∃ x, b.length = x := ⟨_, rfl⟩
  unfold Cut.aheadB at hr
  rw [hx, hy, hn, hm] at hr
  have HX := Lib.hid (And.intro hn hm)
  rw [hx] at HDA h1
  rw [hy] at HDB h2
  rw [hn] at HDA HA hla ⊢
  rw [hm] at HDB HB hlb ⊢
  clear hd ha hb hna hnb HR hx hy hn hm
  obtain ⟨h11, h12⟩ := h1
  obtain ⟨h21, h22⟩ := h2
  by_cases hxy : x = y
  case neg =>
    rw [if_pos hxy] at hr
    have HR := Lib.hid hr
    have hne : (x != y) = true := by simp [hxy]
    clear hr
    go_enter Tryd.func96, Tryd.ntmps96
    go_wp2_with fail
    refine (HDA.out _ (Below.refl _ _)).mono ?_
    rintro e w1 ⟨rfl, hb1⟩
    have B1 := Lib.hid hb1
    clear hb1
    go_wp2_with fail
    refine (HDB.out _ B1.out).mono ?_
    rintro e w2 ⟨rfl, hb2⟩
    have B2 := Lib.hid (below_then B1.out hb2)
    clear hb2
    go_wp2_with fail
    refine (HDA.out _ B2.out).mono ?_
    rintro e w3 ⟨rfl, hb3⟩
    have B3 := Lib.hid (below_then B2.out hb3)
    clear hb3
    go_wp2_with fail
    refine (HDB.out _ B3.out).mono ?_
    rintro e w4 ⟨rfl, hb4⟩
    have B4 := Lib.hid (below_then B3.out hb4)
    clear hb4
    go_wp2_with fail
    go_ret
    exact ⟨by rw [← HR.out]; rfl, B4.out⟩
  subst hxy
  rw [if_neg (by simp)] at hr
  by_cases hnm : n = m
  case neg =>
    rw [if_pos hnm] at hr
    have HR := Lib.hid hr
    have hne : ((n : Int) != (m : Int)) = true := by simp; omega
    have hdc : decide (n < m) = decide ((n : Int) < (m : Int)) := by simp
    have HDC := Lib.hid hdc
    clear hr hdc
    go_enter Tryd.func96, Tryd.ntmps96
    go_wp2_with fail
    refine (HDA.out _ (Below.refl _ _)).mono ?_
    rintro e w1 ⟨rfl, hb1⟩
    have B1 := Lib.hid hb1
    clear hb1
    go_wp2_with fail
    refine (HDB.out _ B1.out).mono ?_
    rintro e w2 ⟨rfl, hb2⟩
    have B2 := Lib.hid (below_then B1.out hb2)
    clear hb2
    go_wp2_with fail
    go_ret
    exact ⟨by rw [← HR.out, HDC.out]; rfl, B2.out⟩
  subst hnm
  rw [if_neg (by simp)] at hr
  have HR := Lib.hid hr
  clear hr
  go_enter Tryd.func96, Tryd.ntmps96
  go_wp2_with fail
  refine (HDA.out _ (Below.refl _ _)).mono ?_
  rintro e w1 ⟨rfl, hb1⟩
  have B1 := Lib.hid hb1
  clear hb1
  go_wp2_with fail
  refine (HDB.out _ B1.out).mono ?_
  rintro e w2 ⟨rfl, hb2⟩
  have B2 := Lib.hid (below_then B1.out hb2)
  clear hb2 B1
  go_wp2_with fail
  go_loopw [7] (fun v7 wx => ∃ k : Nat, k ≤ n ∧ v7 = .int .i64 (k : Int) ∧ Cut.lexB (a.drop k) (b.drop k) = r ∧ Below w.heap.size w wx) (fun v7 _ => n - (intOf v7).toNat)
  case atStart => exact ⟨0, by omega, rfl, by simpa using HR.out, B2.out⟩
  case round =>
    obtain ⟨k, hk, rfl, hlx, hbe⟩ := hrel
    have B3 := Lib.hid hbe
    clear hbe
    by_cases hlt : k < n
    case neg =>
      have hrf : r = false := by rw [← hlx, Cut.lexB_end (by rw [HX.out.1]; omega)]
      have HRF := Lib.hid hrf
      have hlt' : ¬ (k : Int) < (n : Int) := by omega
      clear hlx hrf
      go_wp2_with fail
      go_ret
      exact ⟨by rw [HRF.out]; rfl, B3.out⟩
    rw [Cut.lexB_step (by rw [HX.out.1]; exact hlt) (by rw [HX.out.2]; exact hlt)] at hlx
    obtain ⟨pa, hA, hab, d0⟩ := (HA.out.later B3.out).int (k := k) hlt
    obtain ⟨pb, hB, hbb, e0⟩ := (HB.out.later B3.out).int (k := k) hlt
    subst hA
    subst hB
    have hkm : (k : Int) < (n : Int) := by omega
    generalize a.getD k 0 = u at hlx d0
    generalize b.getD k 0 = v at hlx e0
    by_cases huv : u = v
    · subst huv
      rw [if_neg (by simp)] at hlx
      have HLX := Lib.hid hlx
      clear hlx
      go_wp2_with fail
      refine wp_region_still_in (by kernel_rfl) (by kernel_rfl) fun St9 ne9 V9 hV9 hS9 => ?_
      have qd0 := still_cell hV9 d0
      have qe0 := still_cell hV9 e0
      repeat (first | go_big_quiet_step (fail) | quiet_step (fail))
      refine wpQuiet_nil ?_
      intro _ hw9
      obtain ⟨s9, rfl⟩ := hw9
      have hb9 := hV9 s9
      clear qd0 qe0 hS9
      generalize V9 s9 = w9 at hb9 ⊢
      clear hV9 s9 V9 ne9 St9
      have B9 := Lib.hid (below_then B3.out hb9)
      clear hb9
      go_wp2_with fail
      go_roundw
      case rel => exact ⟨k + 1, by omega, by go_num, HLX.out, B9.out⟩
      case measure => simp [intOf]; omega
    · rw [if_pos huv] at hlx
      have HLX := Lib.hid hlx
      have hne : (u != v) = true := by simp [huv]
      clear hlx
      go_wp2_with fail
      refine wp_region_still_in (by kernel_rfl) (by kernel_rfl) fun St9 ne9 V9 hV9 hS9 => ?_
      have qd0 := still_cell hV9 d0
      have qe0 := still_cell hV9 e0
      repeat (first | go_big_quiet_step (fail) | quiet_step (fail))
      refine wpQuiet_nil ?_
      intro _ hw9
      obtain ⟨s9, rfl⟩ := hw9
      have hb9 := hV9 s9
      clear qd0 qe0 hS9
      generalize V9 s9 = w9 at hb9 ⊢
      clear hV9 s9 V9 ne9 St9
      have d9 := (hb9.cell (p := pa.add k) (by rw [add_block]; exact hab)).trans d0
      have e9 := (hb9.cell (p := pb.add k) (by rw [add_block]; exact hbb)).trans e0
      have B9 := Lib.hid (below_then B3.out hb9)
      clear hb9 d0 e0
      go_wp2_with fail
      refine wp_region_still_in (by kernel_rfl) (by kernel_rfl) fun St8 ne8 V8 hV8 hS8 => ?_
      have qd9 := still_cell hV8 d9
      have qe9 := still_cell hV8 e9
      repeat (first | go_big_quiet_step (fail) | quiet_step (fail))
      refine wpQuiet_nil ?_
      intro _ hw8
      obtain ⟨s8, rfl⟩ := hw8
      have hb8 := hV8 s8
      clear qd9 qe9 hS8
      generalize V8 s8 = w8 at hb8 ⊢
      clear hV8 s8 V8 ne8 St8
      have B8 := Lib.hid (below_then B9.out hb8)
      clear hb8
      go_wp2_with fail
      go_ret
      exact ⟨by rw [← HLX.out]; rfl, B8.out⟩
end Go.Proofs.YtkhlllbceceikaaDoor
