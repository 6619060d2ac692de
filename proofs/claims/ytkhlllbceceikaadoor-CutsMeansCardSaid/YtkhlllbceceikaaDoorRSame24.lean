/- filigreeref24.Same, of what is the same. -/
import Derived.Test.YtkhlllbceceikaaDoorCAll
namespace Go.Proofs.YtkhlllbceceikaaDoor
open Go.RowKit
set_option linter.unusedVariables false
set_option linter.unusedSimpArgs false
/-- rows of cuts that are read -/
structure RowsR (w : World) (A : Option Addr) (c : Nat) (rs : List CR) : Prop where
  row : Rd w 1 A rs.length c (rs.map crv)
  all : ∀ r ∈ rs, CutsIn w r.1 r.2.1 r.2.2
theorem RowsR.later {w w' : World} {A : Option Addr} {c : Nat} {rs : List CR} (h : RowsR w A c rs) (hb : Below w.heap.size w w') : RowsR w' A c rs := ⟨h.row.later hb, fun r hr => (h.all r hr).later hb⟩
theorem AllM.rows {base : Nat} {w : World} {AO : Option Addr} {cO : Nat} {rs : List CR} {AD : Option Addr} {cD : Nat} {d : List Int} (h : AllM base w AO cO rs AD cD d) : RowsR w AO cO rs := ⟨Rd.of_own h.out, fun r hr => (h.row r hr).1.in_⟩
theorem RowsR.at_ {w : World} {A : Option Addr} {c : Nat} {rs : List CR} (h : RowsR w A c rs) {k : Nat} (hk : k < rs.length) : ∃ a, A = some a ∧ a.block < w.heap.size ∧ w.cell? (a.add k) = some (crv rs[k]) ∧ CutsIn w rs[k].1 rs[k].2.1 rs[k].2.2 := by
  obtain ⟨a, hA, hb, hr⟩ := h.row.at1 hk
  refine ⟨a, hA, hb, ?_, h.all _ (List.getElem_mem hk)⟩
  rw [hr, List.getD_eq_getElem?_getD, List.getElem?_map, List.getElem?_eq_getElem hk]
  rfl
theorem plain_row {rs qs : List CR} (h : plainR rs = plainR qs) {i : Nat} (h1 : i < rs.length) (h2 : i < qs.length) : pcs rs[i].2.2 = pcs qs[i].2.2 := by
  have e := congrArg (fun l : List (List PC) => l[i]?) h
  simp only [plainR, List.getElem?_map, List.getElem?_eq_getElem h1, List.getElem?_eq_getElem h2, Option.map_some] at e
  exact Option.some.inj e
theorem plain_cut {a b : List CT} (h : pcs a = pcs b) {i : Nat} (h1 : i < a.length) (h2 : i < b.length) : a[i].1.2.2 = b[i].1.2.2 ∧ a[i].2 = b[i].2 := by
  have e := congrArg (fun l : List PC => l[i]?) h
  simp only [pcs, List.getElem?_map, List.getElem?_eq_getElem h1, List.getElem?_eq_getElem h2, Option.map_some] at e
  have := Option.some.inj e
  exact ⟨(Prod.mk.inj this).1, (Prod.mk.inj this).2⟩
set_option maxRecDepth 100000 in
set_option maxHeartbeats 4000000 in
theorem rsame24_yes (A B : Option Addr) (ca cb : Nat) (rs qs : List CR) (w : World) (ha : RowsR w A ca rs) (hb : RowsR w B cb qs) (h : plainR rs = plainR qs) (hn : rs.length ≤ 1000000) (hr : ∀ r ∈ rs, r.2.2.length ≤ 1000000 ∧ ∀ c ∈ r.2.2, c.1.2.2.length ≤ 1000000) :
    Calls Tryd.prog 24 #[.slice A rs.length ca, .slice B qs.length cb] w fun r w' => r = .returned (.bool true) ∧ Below w.heap.size w w' := by
  have hq : qs.length = rs.length := by have e := congrArg List.length h; rw [plainR_len, plainR_len] at e; exact e.symm
  have HQ := Lib.hid hq
  have HA := Lib.hid ha
  have HB := Lib.hid hb
  have HP := Lib.hid h
  have HR := Lib.hid hr
  rw [hq]
  obtain ⟨n, hnn⟩ : ∃ n, rs.length = n := ⟨_, rfl⟩
  have HN := Lib.hid hnn
  rw [hnn] at hn ⊢
  clear ha hb h hq hr hnn
  go_enter Tryd.func24, Tryd.ntmps24
  go_wp2_with fail
  go_loopw [5] (fun v5 wx => ∃ i : Nat, i ≤ n ∧ v5 = .int .i64 (i : Int) ∧ Below w.heap.size w wx) (fun v5 _ => n - (intOf v5).toNat)
  case atStart => exact ⟨0, by omega, rfl, Below.refl _ _⟩
  case round =>
    obtain ⟨i, hi, rfl, hB⟩ := hrel
    have B1 := Lib.hid hB
    clear hB
    by_cases hin : i < n
    case neg =>
      have hlt : ¬ (i : Int) < (n : Int) := by omega
      go_wp2_with fail
      go_ret
      exact ⟨rfl, B1.out⟩
    have hin' : (i : Int) < (n : Int) := by omega
    have h1 : i < rs.length := by rw [HN.out]; exact hin
    have h2 : i < qs.length := by rw [HQ.out]; exact h1
    obtain ⟨pa, hA, hab, d0, hca⟩ := HA.out.at_ h1
    obtain ⟨pb, hBB, hbb, e0, hcb⟩ := HB.out.at_ h2
    have d1 := (B1.out.cell (p := pa.add i) (by rw [add_block]; exact hab)).trans d0
    have e1 := (B1.out.cell (p := pb.add i) (by rw [add_block]; exact hbb)).trans e0
    have hpl := plain_row HP.out h1 h2
    have hrl := HR.out _ (List.getElem_mem h1)
    subst hA
    subst hBB
    clear d0 e0
    have HCA := Lib.hid hca
    have HCB := Lib.hid hcb
    have HPL := Lib.hid hpl
    have HRL := Lib.hid hrl
    clear hca hcb hpl hrl
    generalize rs[i] = ra at d1 HCA HPL HRL
    generalize qs[i] = rb at e1 HCB HPL
    obtain ⟨a1, a2, a3⟩ := ra
    obtain ⟨b1, b2, b3⟩ := rb
    simp only [crv] at d1 e1 HCA HCB HPL HRL
    have hlen : b3.length = a3.length := by have e := congrArg List.length HPL.out; simp [pcs] at e; exact e.symm
    have HLEN := Lib.hid hlen
    rw [hlen] at e1
    obtain ⟨m, hm⟩ : ∃ m, a3.length = m := ⟨_, rfl⟩
    have HM := Lib.hid hm
    have hm1 : m ≤ 1000000 := by rw [← hm]; exact HRL.out.1
    rw [hm] at d1 e1
    clear hlen hm
    have hba : (pa.add i).block < wr.heap.size := by rw [add_block]; exact Nat.lt_of_lt_of_le hab B1.out.size
    have hbb2 : (pb.add i).block < wr.heap.size := by rw [add_block]; exact Nat.lt_of_lt_of_le hbb B1.out.size
    go_wp2_with fail
    refine wp_region_still_in (by kernel_rfl) (by kernel_rfl) fun St9 ne9 V9 hV9 hS9 => ?_
    have qd1 := still_cell hV9 d1
    have qe1 := still_cell hV9 e1
    repeat (first | go_big_quiet_step (fail) | quiet_step (fail))
    refine wpQuiet_nil ?_
    intro _ hw9
    obtain ⟨s9, rfl⟩ := hw9
    have hb9 := hV9 s9
    clear qd1 qe1 hS9
    generalize V9 s9 = w9 at hb9 ⊢
    clear hV9 s9 V9 ne9 St9
    have B9 := Lib.hid (below_then B1.out hb9)
    have D9 := Lib.hid ((hb9.cell hba).trans d1)
    have E9 := Lib.hid ((hb9.cell hbb2).trans e1)
    have S9 := Lib.hid hb9.size
    clear hb9 d1 e1
    go_wp2_with fail
    go_loopw [6] (fun v6 wx => ∃ j : Nat, j ≤ m ∧ v6 = .int .i64 (j : Int) ∧ Below w9.heap.size w9 wx) (fun v6 _ => m - (intOf v6).toNat)
    case atStart => exact ⟨0, by omega, rfl, Below.refl _ _⟩
    case round =>
      obtain ⟨j, hj, rfl, hB⟩ := hrel
      have B2 := Lib.hid hB
      clear hB
      have d2 := (B2.out.cell (p := pa.add i) (Nat.lt_of_lt_of_le hba S9.out)).trans D9.out
      have e2 := (B2.out.cell (p := pb.add i) (Nat.lt_of_lt_of_le hbb2 S9.out)).trans E9.out
      by_cases hjm : j < m
      case neg =>
        have hlt : ¬ (j : Int) < (m : Int) := by omega
        have B3 := Lib.hid (below_then B9.out B2.out)
        go_wp2_with fail
        go_roundw
        case rel => exact ⟨i + 1, by omega, by go_num, B3.out⟩
        case measure => simp [intOf]; omega
      have hjm' : (j : Int) < (m : Int) := by omega
      have B3 := Lib.hid (below_then B9.out B2.out)
      have j1 : j < a3.length := by rw [HM.out]; exact hjm
      have j2 : j < b3.length := by rw [HLEN.out]; exact j1
      obtain ⟨ua, hua, hub, f0, f1, -⟩ := (HCA.out.later B3.out).at_ j1
      obtain ⟨ub, hua2, hub2, g0, g1, -⟩ := (HCB.out.later B3.out).at_ j2
      obtain ⟨q1, q2⟩ := plain_cut HPL.out j1 j2
      have hint := fun (W : World) (hW : Below wr.heap.size wr W) => rints_any W a3[j].1.1 b3[j].1.1 a3[j].1.2.1 b3[j].1.2.1 a3[j].1.2.2 b3[j].1.2.2 (Rd.later (HCA.out.all _ (List.getElem_mem j1)) (below_then B3.out hW)) (Rd.later (HCB.out.all _ (List.getElem_mem j2)) (below_then B3.out hW)) (by have := HRL.out.2 _ (List.getElem_mem j1); omega)
      rw [decide_eq_true q1] at hint
      rw [← q2] at g1
      subst hua
      subst hua2
      generalize a3[j] = ca at f0 f1 hint g1
      generalize b3[j] = cb at g0 hint
      obtain ⟨⟨x1, x2, x3⟩, xt⟩ := ca
      obtain ⟨⟨y1, y2, y3⟩, yt⟩ := cb
      simp only [slv] at f0 f1 g0 g1 hint
      have HI := Lib.hid hint
      clear hint q1 q2
      go_wp2_with fail
      refine wp_region_still_in (by kernel_rfl) (by kernel_rfl) fun St8 ne8 V8 hV8 hS8 => ?_
      have qd2 := still_cell hV8 d2
      have qe2 := still_cell hV8 e2
      have qf0 := still_cell hV8 f0
      have qf1 := still_cell hV8 f1
      have qg0 := still_cell hV8 g0
      have qg1 := still_cell hV8 g1
      repeat (first | go_big_quiet_step ((go_at_call 19; exact Calls.still hV8 hS8 (HI.out _ (hV8 _)))) | quiet_step ((go_at_call 19; exact Calls.still hV8 hS8 (HI.out _ (hV8 _)))))
      refine wpQuiet_nil ?_
      intro _ hw8
      obtain ⟨s8, rfl⟩ := hw8
      have hb8 := hV8 s8
      clear qd2 qe2 qf0 qf1 qg0 qg1 hS8
      generalize V8 s8 = w8 at hb8 ⊢
      clear hV8 s8 V8 ne8 St8
      have B8 := Lib.hid (below_then B2.out hb8)
      clear hb8 f0 f1 g0 g1
      go_wp2_with fail
      go_roundw
      case rel => exact ⟨j + 1, by omega, by go_num, B8.out⟩
      case measure => simp [intOf]; omega
end Go.Proofs.YtkhlllbceceikaaDoor
