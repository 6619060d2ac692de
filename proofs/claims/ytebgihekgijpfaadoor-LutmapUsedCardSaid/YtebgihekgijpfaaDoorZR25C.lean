/- filigreeref25.rows, Count, table. · filigreeref25.Check. -/
import Derived.Test.YtebgihekgijpfaaDoorZLRun
import Derived.BigQuiet
namespace Go.Proofs.YtebgihekgijpfaaDoor
open Go.RowKit Go.Shelf
set_option linter.unusedVariables false
set_option linter.unusedSimpArgs false
section
attribute [local go_sem] Oper.semAt_some
set_option maxRecDepth 100000 in
theorem rrows25_any (n : Nat) (w : World) (hn : n ≤ 6) :
    Calls Tryd.prog 48 #[.int .i64 (n : Int)] w fun r w' => r = .returned (.int .u64 (Cut.rows n : Int)) ∧ w = w' := by
  rcases (show n = 0 ∨ n = 1 ∨ n = 2 ∨ n = 3 ∨ n = 4 ∨ n = 5 ∨ n = 6 by omega) with rfl | rfl | rfl | rfl | rfl | rfl | rfl
  all_goals
    go_enter Tryd.func48, Tryd.ntmps48
    go_wp2_with fail
    go_ret
    exact ⟨rfl, rfl⟩
end
set_option maxRecDepth 100000 in
theorem rcount25_any (N : NT) (w : World) (hi : 0 ≤ N.I ∧ N.I ≤ 65536) (hf : N.fit) :
    Calls Tryd.prog 36 #[.agg #[.int .i64 N.I, .slice N.AH N.hs.length N.cH, .slice N.AL N.ls.length N.cL, .slice N.AO N.ou.length N.cO]] w fun r w' => r = .returned (.int .i64 N.tot) ∧ Below w.heap.size w w' := by
  have Q0 := Lib.hid (below_new w (.cells #[.int .i64 N.I, .slice N.AH N.hs.length N.cH, .slice N.AL N.ls.length N.cL, .slice N.AO N.ou.length N.cO] 32))
  have X0 := Blk.made w 32 #[.int .i64 N.I, .slice N.AH N.hs.length N.cH, .slice N.AL N.ls.length N.cL, .slice N.AO N.ou.length N.cO]
  have k0 := X0.cell 0
  have k1 := X0.cell 1
  have k2 := X0.cell 2
  have h1 := hf.hs
  have h2 := hf.ls
  unfold NT.tot NT.fst
  clear hf
  generalize N.hs.length = h at *
  generalize N.ls.length = l at *
  generalize N.I = I at *
  go_enter Tryd.func36, Tryd.ntmps36
  go_wp2_with fail
  go_ret
  exact ⟨rfl, Q0.out⟩
set_option maxRecDepth 100000 in
set_option maxHeartbeats 2000000 in
theorem rtable25_any (A : Option Addr) (c : Nat) (l : List Int) (t : Nat) (at_ k : Int) (w : World) (hr : Rd w 1 A l.length c (ints l)) (hl : l.length ≤ 1000) (ht : t < 18446744073709551616) (hk : 2 ≤ k ∧ k ≤ 6) :
    Calls Tryd.prog 35 #[.agg #[.slice A l.length c, .int .u64 (t : Int)], .int .i64 at_, .int .i64 k] w fun r w' => r = .returned (.bool (lutB k at_ (l, t))) ∧ Below w.heap.size w w' := by
  have Q0 := Lib.hid (below_new w (.cells #[.slice A l.length c, .int .u64 (t : Int)] 45))
  have X0 := Lib.hid (Blk.made w 45 #[.slice A l.length c, .int .u64 (t : Int)])
  have HR := Lib.hid hr
  obtain ⟨q, hq⟩ : ∃ q, l.length = q := ⟨_, rfl⟩
  have HQ := Lib.hid hq
  have HLB := Lib.hid (show lutB k at_ (l, t) = (decide ((q : Int) ≤ k) && decide (t < 2 ^ 2 ^ q) && l.all (nodeB at_)) by unfold lutB; rw [hq])
  rw [hq] at Q0 X0 HR hl ⊢
  clear hr hq
  have k0 := X0.out.cell 0
  have k1 := X0.out.cell 1
  by_cases hqk : (q : Int) ≤ k
  case neg =>
    have hd : decide ((q : Int) > k) = true := decide_eq_true (by omega)
    have hd2 : k < (q : Int) := by omega
    have HB := Lib.hid (show lutB k at_ (l, t) = false by rw [HLB.out, decide_eq_false hqk]; rfl)
    clear hqk HLB
    go_enter Tryd.func35, Tryd.ntmps35
    go_wp2_with fail
    go_quiet (fail)
    go_wp2_with fail
    go_ret
    exact ⟨by rw [HB.out]; rfl, below_drewN Q0.out _⟩
  have hq6 : q ≤ 6 := by omega
  have han := andNot_rows t q ht hq6
  have HRW := Lib.hid (fun W => rrows25_any q W hq6)
  generalize (Cut.rows q : Int) = rw_ at han HRW
  have hd : decide ((q : Int) > k) = false := decide_eq_false (by omega)
  have hd2 : ¬ k < (q : Int) := by omega
  clear hqk
  cases hlt : decide (t < 2 ^ 2 ^ q) with
  | false =>
    have HB := Lib.hid (show lutB k at_ (l, t) = false by rw [HLB.out, hlt]; simp)
    rw [hlt] at han
    clear hlt HLB
    have han : (bits .andNot .u64 (t : Int) rw_ != 0) = true := han
    go_enter Tryd.func35, Tryd.ntmps35
    go_wp2_with fail
    refine wp_region_still_in (by kernel_rfl) (by kernel_rfl) fun St9 ne9 V9 hV9 hS9 => ?_
    have qk0 := still_cell hV9 k0
    have qk1 := still_cell hV9 k1
    repeat (first | go_big_quiet_step (first | (go_at_call 48; with_reducible exact Calls.still_same hS9 (HRW.out _))) | quiet_step (first | (go_at_call 48; with_reducible exact Calls.still_same hS9 (HRW.out _))))
    refine wpQuiet_nil ?_
    intro _ hw9
    obtain ⟨s9, rfl⟩ := hw9
    have hb9 := hV9 s9
    clear qk0 qk1 hS9
    generalize V9 s9 = w9 at hb9 ⊢
    clear hV9 s9 V9 ne9 St9
    go_wp2_with fail
    go_ret
    exact ⟨by rw [HB.out]; rfl, below_then Q0.out hb9⟩
  | true =>
    have HLC := Lib.hid (show lutB k at_ (l, t) = l.all (nodeB at_) by rw [HLB.out, hlt, decide_eq_true (by omega)]; rfl)
    rw [hlt] at han
    clear hlt HLB
    have han : (bits .andNot .u64 (t : Int) rw_ != 0) = false := han
    go_enter Tryd.func35, Tryd.ntmps35
    go_wp2_with fail
    refine wp_region_still_in (by kernel_rfl) (by kernel_rfl) fun St9 ne9 V9 hV9 hS9 => ?_
    have qk0 := still_cell hV9 k0
    have qk1 := still_cell hV9 k1
    repeat (first | go_big_quiet_step (first | (go_at_call 48; with_reducible exact Calls.still_same hS9 (HRW.out _))) | quiet_step (first | (go_at_call 48; with_reducible exact Calls.still_same hS9 (HRW.out _))))
    refine wpQuiet_nil ?_
    intro _ hw9
    obtain ⟨s9, rfl⟩ := hw9
    have hb9 := hV9 s9
    clear qk0 qk1 hS9
    generalize V9 s9 = w9 at hb9 ⊢
    clear hV9 s9 V9 ne9 St9
    have Q9 := Lib.hid (below_then Q0.out hb9)
    have X9 := Lib.hid (X0.out.keep hb9)
    clear hb9 k0 k1
    go_wp2_with fail
    go_loopw [7] (fun v7 wx => ∃ i : Nat, i ≤ q ∧ v7 = .int .i64 (i : Int) ∧ wx = w9 ∧ ∀ j, j < i → nodeB at_ (l.getD j 0) = true) (fun v7 _ => q - (intOf v7).toNat)
    case atStart => exact ⟨0, by omega, rfl, rfl, fun j hj => absurd hj (Nat.not_lt_zero _)⟩
    case round =>
      obtain ⟨i, hi, rfl, rfl, hg⟩ := hrel
      have HG := Lib.hid hg
      have k0 := X9.out.cell 0
      clear hg
      by_cases hin : i < q
      case neg =>
        obtain rfl : i = q := by omega
        have hlt : ¬ (i : Int) < (i : Int) := by omega
        go_wp2_with fail
        go_ret
        refine ⟨?_, Q9.out⟩
        rw [HLC.out, List.all_eq_true.2 (fun x hx => by
          obtain ⟨j, hj, rfl⟩ := List.mem_iff_getElem.1 hx
          have h := HG.out j (by rw [HQ.out] at hj; exact hj)
          rw [List.getD_eq_getElem?_getD, List.getElem?_eq_getElem hj] at h
          exact h)]
        rfl
      have hin' : (i : Int) < (q : Int) := by omega
      obtain ⟨pa, hPA, hpb, d0⟩ := (HR.out.later Q9.out).int hin
      subst hPA
      have hno : nodeB at_ (l.getD i 0) = false → lutB k at_ (l, t) = false := fun h => by
        rw [HLC.out]
        refine Bool.eq_false_iff.2 fun ha => ?_
        have := List.all_eq_true.1 ha (l.getD i 0) (by rw [List.getD_eq_getElem?_getD, List.getElem?_eq_getElem (by rw [HQ.out]; exact hin)]; exact List.getElem_mem _)
        rw [h] at this; cases this
      have hyes : nodeB at_ (l.getD i 0) = true → ∀ j, j < i + 1 → nodeB at_ (l.getD j 0) = true := fun h j hj => by
        rcases Nat.lt_succ_iff_lt_or_eq.1 hj with h1 | rfl
        · exact HG.out j h1
        · exact h
      have HNO := Lib.hid hno
      have HYES := Lib.hid hyes
      clear hno hyes
      generalize l.getD i 0 = x at d0 HNO HYES
      by_cases h0 : x < 0
      case pos =>
        have HN := Lib.hid (HNO.out (by simp [nodeB]; omega))
        have hd0 : decide (x < 0) = true := decide_eq_true h0
        go_wp2_with fail
        go_ret
        exact ⟨by rw [HN.out]; rfl, Q9.out⟩
      by_cases h1 : x < at_
      case neg =>
        have HN := Lib.hid (HNO.out (by simp [nodeB]; omega))
        have hd0 : decide (x < 0) = false := decide_eq_false h0
        have hd1 : x ≥ at_ := by omega
        go_wp2_with fail
        go_ret
        exact ⟨by rw [HN.out]; rfl, Q9.out⟩
      have HN := Lib.hid (HYES.out (by simp [nodeB]; omega))
      have hd1 : ¬ x ≥ at_ := by omega
      go_wp2_with fail
      go_roundw
      case rel => exact ⟨i + 1, by omega, by go_num, trivial, HN.out⟩
      case measure => simp [intOf]; omega
end Go.Proofs.YtebgihekgijpfaaDoor

namespace Go.Proofs.YtebgihekgijpfaaDoor
open Go.RowKit Go.Shelf
set_option linter.unusedVariables false
set_option linter.unusedSimpArgs false
set_option maxRecDepth 100000 in
set_option maxHeartbeats 2000000 in
theorem rcheck25_out (N : NT) (k : Int) (w : World) (hf : N.fit) (h : k < 2 ∨ 6 < k ∨ N.I < 0 ∨ 65536 < N.I) (hwf : N.wf) :
    Calls Tryd.prog 12 #[.agg #[.int .i64 N.I, .slice N.AH N.hs.length N.cH, .slice N.AL N.ls.length N.cL, .slice N.AO N.ou.length N.cO], .int .i64 k] w fun r w' => r = .returned (.int .i64 (N.chk k)) ∧ Below w.heap.size w w' := by
  have Q0 := Lib.hid (below_new w (.cells #[.int .i64 N.I, .slice N.AH N.hs.length N.cH, .slice N.AL N.ls.length N.cL, .slice N.AO N.ou.length N.cO] 32))
  have X0 := Lib.hid (Blk.made w 32 #[.int .i64 N.I, .slice N.AH N.hs.length N.cH, .slice N.AL N.ls.length N.cL, .slice N.AO N.ou.length N.cO])
  have k0 := X0.out.cell 0
  have k1 := X0.out.cell 1
  have k2 := X0.out.cell 2
  have k3 := X0.out.cell 3
  have f1 := hf.hs
  have f2 := hf.ls
  have f3 := hf.ou
  have hib := hwf.i
  obtain ⟨r, hr⟩ : ∃ r, N.chk k = r := ⟨_, rfl⟩
  rw [hr]
  by_cases h1 : k < 2
  · have HR := Lib.hid (show r = 1 by rw [← hr]; exact if_pos (.inl h1))
    clear hr h hf hwf
    go_enter Tryd.func12, Tryd.ntmps12
    go_wp2_with fail
    go_ret
    exact ⟨by rw [HR.out]; rfl, Q0.out⟩
  by_cases h2 : 6 < k
  · have HR := Lib.hid (show r = 1 by rw [← hr]; exact if_pos (.inr (.inl h2)))
    clear hr h hf hwf
    go_enter Tryd.func12, Tryd.ntmps12
    go_wp2_with fail
    go_ret
    exact ⟨by rw [HR.out]; rfl, Q0.out⟩
  by_cases h3 : N.I < 0
  · have HR := Lib.hid (show r = 1 by rw [← hr]; exact if_pos (.inr (.inr h3)))
    have hd : decide (N.I < 0) = true := decide_eq_true h3
    clear hr h hf hwf
    go_enter Tryd.func12, Tryd.ntmps12
    go_wp2_with fail
    go_ret
    exact ⟨by rw [HR.out]; rfl, Q0.out⟩
  have h4 : 65536 < N.I := by omega
  have HR := Lib.hid (show r = 2 by rw [← hr]; unfold NT.chk; rw [if_neg (by omega), if_pos h4])
  have hd : decide (N.I < 0) = false := decide_eq_false h3
  have hd2 : decide (65536 < N.I) = true := decide_eq_true h4
  clear hr h hf hwf
  go_enter Tryd.func12, Tryd.ntmps12
  go_wp2_with fail
  all_goals
    go_ret
    exact ⟨by rw [HR.out]; rfl, Q0.out⟩
set_option maxRecDepth 100000 in
set_option maxHeartbeats 4000000 in
theorem rcheck25_in (N : NT) (k : Int) (w : World) (hin : N.In w) (hf : N.fit) (hwf : N.wf) (hk : 2 ≤ k ∧ k ≤ 6) (hi : 0 ≤ N.I ∧ N.I ≤ 1000) :
    Calls Tryd.prog 12 #[.agg #[.int .i64 N.I, .slice N.AH N.hs.length N.cH, .slice N.AL N.ls.length N.cL, .slice N.AO N.ou.length N.cO], .int .i64 k] w fun r w' => r = .returned (.int .i64 (N.chk k)) ∧ Below w.heap.size w w' := by
  have Q0 := Lib.hid (below_new w (.cells #[.int .i64 N.I, .slice N.AH N.hs.length N.cH, .slice N.AL N.ls.length N.cL, .slice N.AO N.ou.length N.cO] 32))
  have X0 := Lib.hid (Blk.made w 32 #[.int .i64 N.I, .slice N.AH N.hs.length N.cH, .slice N.AL N.ls.length N.cL, .slice N.AO N.ou.length N.cO])
  obtain ⟨r, hr⟩ : ∃ r, N.chk k = r := ⟨_, rfl⟩
  have hif : N.chk k = if N.okk k then 0 else 1 := by unfold NT.chk; rw [if_neg (by omega), if_neg (by omega)]
  rw [hr] at hif ⊢
  have HB1 := Lib.hid (fun (i : Nat) (h : i < N.ls.length) (hb : lutB k (N.fst + (i : Int)) (N.ls[i].1.2.2, N.ls[i].2) = false) => show r = 1 from by
    rw [hif]; exact if_neg fun ho => by have := ho.1 i h; rw [hb] at this; cases this)
  have HB2 := Lib.hid (fun (h : Int × Bool) (hm : h ∈ N.hs) (hb : nodeB N.tot h.1 = false) => show r = 1 from by
    rw [hif]; exact if_neg fun ho => by have := ho.2.1 h hm; rw [hb] at this; cases this)
  have HB3 := Lib.hid (fun (x : Int) (hm : x ∈ N.ou) (hb : nodeB N.tot x = false) => show r = 1 from by
    rw [hif]; exact if_neg fun ho => by have := ho.2.2 x hm; rw [hb] at this; cases this)
  have HOK := Lib.hid (fun (h : N.okk k) => show r = 0 from by rw [hif]; exact if_pos h)
  have HT := Lib.hid (fun A c l t (at_ : Int) W hr hl ht => rtable25_any A c l t at_ k W hr hl ht hk)
  have HCT := Lib.hid (fun W => rcount25_any N W ⟨hi.1, by omega⟩ hf)
  have f1 := hf.hs
  have f2 := hf.ls
  have f3 := hf.ou
  have HLI := Lib.hid hf.li
  have HIN := Lib.hid hin
  have HWF := Lib.hid hwf
  obtain ⟨T, hT⟩ : ∃ T, N.tot = T := ⟨_, rfl⟩
  have HTT := Lib.hid hT
  rw [hT] at HCT HB2 HB3
  clear hin hf hwf hr hif hT
  have k0 := X0.out.cell 0
  have k1 := X0.out.cell 1
  have k2 := X0.out.cell 2
  have k3 := X0.out.cell 3
  go_enter Tryd.func12, Tryd.ntmps12
  go_wp2_with fail
  go_loopw [6] (fun v6 wx => ∃ i : Nat, i ≤ N.ls.length ∧ v6 = .int .i64 (i : Int) ∧ Below (w.alloc (.cells #[.int .i64 N.I, .slice N.AH N.hs.length N.cH, .slice N.AL N.ls.length N.cL, .slice N.AO N.ou.length N.cO] 32)).heap.size (w.alloc (.cells #[.int .i64 N.I, .slice N.AH N.hs.length N.cH, .slice N.AL N.ls.length N.cL, .slice N.AO N.ou.length N.cO] 32)) wx ∧ ∀ j (h : j < N.ls.length), j < i → lutB k (N.fst + (j : Int)) (N.ls[j].1.2.2, N.ls[j].2) = true) (fun v6 _ => N.ls.length - (intOf v6).toNat)
  case atStart => exact ⟨0, by omega, rfl, Below.refl _ _, fun j _ hj => absurd hj (Nat.not_lt_zero _)⟩
  case round =>
    obtain ⟨i, hi', rfl, hB, hg⟩ := hrel
    have B6 := Lib.hid hB
    have Q6 := Lib.hid (below_then Q0.out hB)
    have X6 := Lib.hid (X0.out.keep hB)
    have HG := Lib.hid hg
    clear hB hg k0 k1 k2 k3
    have k0 := X6.out.cell 0
    have k1 := X6.out.cell 1
    have k2 := X6.out.cell 2
    have k3 := X6.out.cell 3
    by_cases hin : i < N.ls.length
    case neg =>
      have HG1 := Lib.hid (show ∀ j (h : j < N.ls.length), lutB k (N.fst + (j : Int)) (N.ls[j].1.2.2, N.ls[j].2) = true from fun j h => HG.out j h (by omega))
      have hlt : ¬ (i : Int) < (N.ls.length : Int) := by omega
      have Q7 := Q6
      have X7 := X6
      clear HG B6 Q6 X6
      go_wp2_with fail
      obtain ⟨w4, hw4⟩ : ∃ x, x = wr := ⟨_, rfl⟩
      rw [← hw4] at Q7 X7
      rw [← hw4]
      clear hw4 k0 k1 k2 k3 hlt
      have k0 := X7.out.cell 0
      have k1 := X7.out.cell 1
      have k2 := X7.out.cell 2
      have k3 := X7.out.cell 3
      go_loopw [7] (fun v7 wx => ∃ i : Nat, i ≤ N.hs.length ∧ v7 = .int .i64 (i : Int) ∧ Below w4.heap.size w4 wx ∧ ∀ h ∈ N.hs.take i, nodeB T h.1 = true) (fun v7 _ => N.hs.length - (intOf v7).toNat)
      case atStart => exact ⟨0, by omega, rfl, Below.refl _ _, fun h hh => (nomatch hh)⟩
      case round =>
        obtain ⟨i, hi', rfl, hB, hg⟩ := hrel
        have B6 := Lib.hid hB
        have Q6 := Lib.hid (below_then Q7.out hB)
        have X6 := Lib.hid (X7.out.keep hB)
        have HG := Lib.hid hg
        clear hB hg k0 k1 k2 k3
        have k0 := X6.out.cell 0
        have k1 := X6.out.cell 1
        have k2 := X6.out.cell 2
        have k3 := X6.out.cell 3
        by_cases hin : i < N.hs.length
        case neg =>
          have HG2 := Lib.hid (show ∀ h ∈ N.hs, nodeB T h.1 = true from fun h hh => HG.out h (by rw [List.take_of_length_le (by omega)]; exact hh))
          have hlt : ¬ (i : Int) < (N.hs.length : Int) := by omega
          have Q8 := Q6
          have X8 := X6
          clear HG B6 Q6 X6
          go_wp2_with fail
          obtain ⟨w5, hw4⟩ : ∃ x, x = wr := ⟨_, rfl⟩
          rw [← hw4] at Q8 X8
          rw [← hw4]
          clear hw4 k0 k1 k2 k3 hlt
          have k0 := X8.out.cell 0
          have k1 := X8.out.cell 1
          have k2 := X8.out.cell 2
          have k3 := X8.out.cell 3
          go_loopw [8] (fun v7 wx => ∃ i : Nat, i ≤ N.ou.length ∧ v7 = .int .i64 (i : Int) ∧ Below w5.heap.size w5 wx ∧ ∀ h ∈ N.ou.take i, nodeB T h = true) (fun v7 _ => N.ou.length - (intOf v7).toNat)
          case atStart => exact ⟨0, by omega, rfl, Below.refl _ _, fun h hh => (nomatch hh)⟩
          case round =>
            obtain ⟨i, hi', rfl, hB, hg⟩ := hrel
            have B6 := Lib.hid hB
            have Q6 := Lib.hid (below_then Q8.out hB)
            have X6 := Lib.hid (X8.out.keep hB)
            have HG := Lib.hid hg
            clear hB hg k0 k1 k2 k3
            have k0 := X6.out.cell 0
            have k1 := X6.out.cell 1
            have k2 := X6.out.cell 2
            have k3 := X6.out.cell 3
            by_cases hin : i < N.ou.length
            case neg =>
              have HG3 := Lib.hid (show ∀ h ∈ N.ou, nodeB T h = true from fun h hh => HG.out h (by rw [List.take_of_length_le (by omega)]; exact hh))
              have hlt : ¬ (i : Int) < (N.ou.length : Int) := by omega
              have hok : N.okk k := ⟨HG1.out, fun h hh => by rw [HTT.out]; exact HG2.out h hh, fun x hx => by rw [HTT.out]; exact HG3.out x hx⟩
              have HN := Lib.hid (HOK.out hok)
              clear hok
              go_wp2_with fail
              go_ret
              exact ⟨by rw [HN.out]; rfl, Q6.out⟩
            have hin' : (i : Int) < (N.ou.length : Int) := by omega
            obtain ⟨pa, hPA, hpb, d0⟩ := (HIN.out.ou.later Q6.out).int hin
            rw [show N.ou.getD i 0 = N.ou[i] by rw [List.getD_eq_getElem?_getD, List.getElem?_eq_getElem hin]; rfl] at d0
            have HC2 := HCT
            rw [hPA] at k3 HC2
            clear hPA
            have htk : N.ou.take (i + 1) = N.ou.take i ++ [N.ou[i]] := by rw [List.take_add_one, List.getElem?_eq_getElem hin]; rfl
            have hno := HB3.out _ (List.getElem_mem hin)
            have hyes : nodeB T N.ou[i] = true → ∀ h ∈ N.ou.take (i + 1), nodeB T h = true := fun hy h hh => by
              rw [htk] at hh
              rcases List.mem_append.1 hh with h1 | h1
              · exact HG.out h h1
              · rw [List.mem_singleton.1 h1]; exact hy
            have HNO := Lib.hid hno
            have HYES := Lib.hid hyes
            clear hno hyes htk
            generalize N.ou[i] = x at d0 HNO HYES
            obtain ⟨ad, had⟩ : ∃ ad, pa.add i = ad := ⟨_, rfl⟩
            rw [had] at d0
            by_cases h0 : x < 0
            case pos =>
              have HN := Lib.hid (HNO.out (by simp [nodeB]; omega))
              have hd0 : decide (x < 0) = true := decide_eq_true h0
              clear h0
              go_wp2_with fail
              refine wp_region_still_in (by kernel_rfl) (by kernel_rfl) fun St9 ne9 V9 hV9 hS9 => ?_
              have qk3 := still_cell hV9 k3
              have qd0 := still_cell hV9 d0
              repeat (first | go_big_quiet_step (first | (go_at_call 36; with_reducible exact Calls.still hV9 hS9 (HC2.out _))) | quiet_step (first | (go_at_call 36; with_reducible exact Calls.still hV9 hS9 (HC2.out _))))
              refine wpQuiet_nil ?_
              intro _ hw9
              obtain ⟨s9, rfl⟩ := hw9
              have hb9 := hV9 s9
              clear qk3 qd0 hS9
              generalize V9 s9 = w9 at hb9 ⊢
              clear hV9 s9 V9 ne9 St9
              go_wp2_with fail
              go_ret
              exact ⟨by rw [HN.out]; rfl, below_then Q6.out hb9⟩
            have hd0 : decide (x < 0) = false := decide_eq_false h0
            by_cases h1 : x < T
            case neg =>
              have HN := Lib.hid (HNO.out (by simp [nodeB]; omega))
              have hd1 : decide (T ≤ x) = true := decide_eq_true (by omega)
              clear h0 h1
              go_wp2_with fail
              refine wp_region_still_in (by kernel_rfl) (by kernel_rfl) fun St9 ne9 V9 hV9 hS9 => ?_
              have qk0 := still_cell hV9 k0
              have qk1 := still_cell hV9 k1
              have qk2 := still_cell hV9 k2
              have qk3 := still_cell hV9 k3
              have qd0 := still_cell hV9 d0
              repeat (first | go_big_quiet_step (first | (go_at_call 36; with_reducible exact Calls.still hV9 hS9 (HC2.out _))) | quiet_step (first | (go_at_call 36; with_reducible exact Calls.still hV9 hS9 (HC2.out _))))
              refine wpQuiet_nil ?_
              intro _ hw9
              obtain ⟨s9, rfl⟩ := hw9
              have hb9 := hV9 s9
              clear qk0 qk1 qk2 qk3 qd0 hS9
              generalize V9 s9 = w9 at hb9 ⊢
              clear hV9 s9 V9 ne9 St9
              go_wp2_with fail
              go_ret
              exact ⟨by rw [HN.out]; rfl, below_then Q6.out hb9⟩
            have HN := Lib.hid (HYES.out (by simp [nodeB]; omega))
            have hd1 : decide (T ≤ x) = false := decide_eq_false (by omega)
            clear h0 h1
            go_wp2_with fail
            refine wp_region_still_in (by kernel_rfl) (by kernel_rfl) fun St9 ne9 V9 hV9 hS9 => ?_
            have qk0 := still_cell hV9 k0
            have qk1 := still_cell hV9 k1
            have qk2 := still_cell hV9 k2
            have qk3 := still_cell hV9 k3
            have qd0 := still_cell hV9 d0
            repeat (first | go_big_quiet_step (first | (go_at_call 36; with_reducible exact Calls.still hV9 hS9 (HC2.out _))) | quiet_step (first | (go_at_call 36; with_reducible exact Calls.still hV9 hS9 (HC2.out _))))
            refine wpQuiet_nil ?_
            intro _ hw9
            obtain ⟨s9, rfl⟩ := hw9
            have hb9 := hV9 s9
            clear qk0 qk1 qk2 qk3 qd0 hS9
            generalize V9 s9 = w9 at hb9 ⊢
            clear hV9 s9 V9 ne9 St9
            have B9 := Lib.hid (below_then B6.out hb9)
            clear hb9
            go_wp2_with fail
            go_roundw
            case rel => exact ⟨i + 1, by omega, by go_num, B9.out, HN.out⟩
            case measure => simp [intOf]; omega
        have hin' : (i : Int) < (N.hs.length : Int) := by omega
        obtain ⟨g1, g2⟩ := fc_get N.hs i hin
        obtain ⟨pa, hPA, hpb, d0, -⟩ := (HIN.out.hs.later Q6.out).two g1 g2
        clear g1 g2
        have HC2 := HCT
        rw [hPA] at k1 HC2
        clear hPA
        have htk : N.hs.take (i + 1) = N.hs.take i ++ [N.hs[i]] := by rw [List.take_add_one, List.getElem?_eq_getElem hin]; rfl
        have hno := HB2.out _ (List.getElem_mem hin)
        have hyes : nodeB T (N.hs[i]).1 = true → ∀ h ∈ N.hs.take (i + 1), nodeB T h.1 = true := fun hy h hh => by
          rw [htk] at hh
          rcases List.mem_append.1 hh with h1 | h1
          · exact HG.out h h1
          · rw [List.mem_singleton.1 h1]; exact hy
        have HNO := Lib.hid hno
        have HYES := Lib.hid hyes
        clear hno hyes htk
        generalize N.hs[i].1 = x at d0 HNO HYES
        obtain ⟨ad, had⟩ : ∃ ad, pa.add (i * 2) = ad := ⟨_, rfl⟩
        rw [had] at d0
        by_cases h0 : x < 0
        case pos =>
          have HN := Lib.hid (HNO.out (by simp [nodeB]; omega))
          have hd0 : decide (x < 0) = true := decide_eq_true h0
          clear h0
          go_wp2_with fail
          refine wp_region_still_in (by kernel_rfl) (by kernel_rfl) fun St9 ne9 V9 hV9 hS9 => ?_
          have qk1 := still_cell hV9 k1
          have qd0 := still_cell hV9 d0
          repeat (first | go_big_quiet_step (first | (go_at_call 36; with_reducible exact Calls.still hV9 hS9 (HC2.out _))) | quiet_step (first | (go_at_call 36; with_reducible exact Calls.still hV9 hS9 (HC2.out _))))
          refine wpQuiet_nil ?_
          intro _ hw9
          obtain ⟨s9, rfl⟩ := hw9
          have hb9 := hV9 s9
          clear qk1 qd0 hS9
          generalize V9 s9 = w9 at hb9 ⊢
          clear hV9 s9 V9 ne9 St9
          go_wp2_with fail
          go_ret
          exact ⟨by rw [HN.out]; rfl, below_then Q6.out hb9⟩
        have hd0 : decide (x < 0) = false := decide_eq_false h0
        by_cases h1 : x < T
        case neg =>
          have HN := Lib.hid (HNO.out (by simp [nodeB]; omega))
          have hd1 : decide (T ≤ x) = true := decide_eq_true (by omega)
          clear h0 h1
          go_wp2_with fail
          refine wp_region_still_in (by kernel_rfl) (by kernel_rfl) fun St9 ne9 V9 hV9 hS9 => ?_
          have qk0 := still_cell hV9 k0
          have qk1 := still_cell hV9 k1
          have qk2 := still_cell hV9 k2
          have qk3 := still_cell hV9 k3
          have qd0 := still_cell hV9 d0
          repeat (first | go_big_quiet_step (first | (go_at_call 36; with_reducible exact Calls.still hV9 hS9 (HC2.out _))) | quiet_step (first | (go_at_call 36; with_reducible exact Calls.still hV9 hS9 (HC2.out _))))
          refine wpQuiet_nil ?_
          intro _ hw9
          obtain ⟨s9, rfl⟩ := hw9
          have hb9 := hV9 s9
          clear qk0 qk1 qk2 qk3 qd0 hS9
          generalize V9 s9 = w9 at hb9 ⊢
          clear hV9 s9 V9 ne9 St9
          go_wp2_with fail
          go_ret
          exact ⟨by rw [HN.out]; rfl, below_then Q6.out hb9⟩
        have HN := Lib.hid (HYES.out (by simp [nodeB]; omega))
        have hd1 : decide (T ≤ x) = false := decide_eq_false (by omega)
        clear h0 h1
        go_wp2_with fail
        refine wp_region_still_in (by kernel_rfl) (by kernel_rfl) fun St9 ne9 V9 hV9 hS9 => ?_
        have qk0 := still_cell hV9 k0
        have qk1 := still_cell hV9 k1
        have qk2 := still_cell hV9 k2
        have qk3 := still_cell hV9 k3
        have qd0 := still_cell hV9 d0
        repeat (first | go_big_quiet_step (first | (go_at_call 36; with_reducible exact Calls.still hV9 hS9 (HC2.out _))) | quiet_step (first | (go_at_call 36; with_reducible exact Calls.still hV9 hS9 (HC2.out _))))
        refine wpQuiet_nil ?_
        intro _ hw9
        obtain ⟨s9, rfl⟩ := hw9
        have hb9 := hV9 s9
        clear qk0 qk1 qk2 qk3 qd0 hS9
        generalize V9 s9 = w9 at hb9 ⊢
        clear hV9 s9 V9 ne9 St9
        have B9 := Lib.hid (below_then B6.out hb9)
        clear hb9
        go_wp2_with fail
        go_roundw
        case rel => exact ⟨i + 1, by omega, by go_num, B9.out, HN.out⟩
        case measure => simp [intOf]; omega
    have hin' : (i : Int) < (N.ls.length : Int) := by omega
    obtain ⟨pa, hPA, hpb, e0, e1, hsl⟩ := HIN.out.ls.at_ hin
    have htw := (HWF.out.ls _ (List.getElem_mem hin)).2
    have hli := HLI.out _ (List.getElem_mem hin)
    have hno := HB1.out i hin
    have hyes : lutB k (N.fst + (i : Int)) (N.ls[i].1.2.2, N.ls[i].2) = true → ∀ j (h : j < N.ls.length), j < i + 1 → lutB k (N.fst + (j : Int)) (N.ls[j].1.2.2, N.ls[j].2) = true := fun h j hj hji => by
      rcases Nat.lt_succ_iff_lt_or_eq.1 hji with h1 | rfl
      · exact HG.out j hj h1
      · exact h
    have HNO := Lib.hid hno
    have HYES := Lib.hid hyes
    clear hno hyes
    obtain ⟨AL, hAL⟩ : ∃ A, N.AL = A := ⟨_, rfl⟩
    rw [hAL] at hPA
    have HAL := Lib.hid hAL
    rw [hAL] at k2
    subst hPA
    clear hAL
    generalize N.ls[i] = ci at e0 e1 hsl htw hli HNO HYES
    obtain ⟨⟨l1, l2, l3⟩, t⟩ := ci
    simp only [slv] at e0 e1 hsl htw hli HNO HYES
    obtain ⟨ga, hga⟩ : ∃ p, pa.add (i * 2) = p := ⟨_, rfl⟩
    have hgab : ga.block < w.heap.size := by rw [← hga, add_block]; exact hpb
    rw [hga] at e0 e1
    have e2 := (Q6.out.cell hgab).trans e0
    have e3 := (Q6.out.cell (p := ⟨ga.block, ga.off + 1, none⟩) hgab).trans e1
    have HTC := Lib.hid (HT.out l1 l2 l3 t (N.fst + (i : Int)) wr (hsl.later Q6.out) hli htw)
    unfold NT.fst at HTC HNO HYES
    clear e0 e1 hsl
    generalize lutB k (1 + N.I + (N.hs.length : Int) + (i : Int)) (l3, t) = b at HTC HNO HYES
    go_wp2_with fail
    refine HTC.out.mono ?_
    rintro e w7 ⟨rfl, hb7⟩
    have B7 := Lib.hid (below_then B6.out hb7)
    have Q7 := Lib.hid (below_then Q6.out hb7)
    clear hb7 HTC
    cases b with
    | false =>
      have HN := Lib.hid (HNO.out rfl)
      go_wp2_with fail
      go_ret
      exact ⟨by rw [HN.out]; rfl, Q7.out⟩
    | true =>
      have HN := Lib.hid (HYES.out rfl)
      go_wp2_with fail
      go_roundw
      case rel => exact ⟨i + 1, by omega, by go_num, B7.out, HN.out⟩
      case measure => simp [intOf]; omega
theorem rcheck25_any (N : NT) (k : Int) (w : World) (hin : N.In w) (hf : N.fit) (hwf : N.wf) :
    Calls Tryd.prog 12 #[.agg #[.int .i64 N.I, .slice N.AH N.hs.length N.cH, .slice N.AL N.ls.length N.cL, .slice N.AO N.ou.length N.cO], .int .i64 k] w fun r w' => r = .returned (.int .i64 (N.chk k)) ∧ Below w.heap.size w w' := by
  by_cases h : k < 2 ∨ 6 < k ∨ N.I < 0 ∨ 65536 < N.I
  · exact rcheck25_out N k w hf h hwf
  · exact rcheck25_in N k w hin hf hwf (by omega) (by have := hf.i; omega)
end Go.Proofs.YtebgihekgijpfaaDoor
