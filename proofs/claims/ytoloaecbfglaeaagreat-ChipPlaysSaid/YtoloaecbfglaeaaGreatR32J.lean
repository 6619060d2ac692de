/- Walks of filigreeref32: which nodes are joined, by labels that go down till nothing turns; who drives each node. -/
import Derived.Test.YtoloaecbfglaeaaGreatR32
import Derived.Test.YtoloaecbfglaeaaGreatRchkB
namespace Go.Proofs.YtoloaecbfglaeaaGreat
open Go.RowKit
set_option linter.unusedVariables false
set_option linter.unusedSimpArgs false

section
variable {w0 wx wy : World} {C : Cfg} {AA : Option Addr} {L : List (Int × Int)} {c base g N : Nat} {S S' : List Nat}
theorem JW.drewN (h : JW w0 wx C AA L c base g N S) (n : Nat) : JW w0 (wx.drewN n) C AA L c base g N S := h.keep (below_drewN (Below.refl _ _) n)
theorem JW.store2 (h : JW w0 wx C AA L c base g N S) {m n v : Nat} (hm : m < N) (hn : n < N) (h1 : v ≤ m) (h2 : v ≤ n) :
    JW w0 ((wx.setCell ⟨g, m, none⟩ (.int .i64 (v : Int))).setCell ⟨g, n, none⟩ (.int .i64 (v : Int))) C AA L c base g N ((S.set m v).set n v) := by
  have a := h.sets.store hm h1
  have J := h.turned a.1 a.2
  have b := J.sets.store hn h2
  exact J.turned b.1 b.2
end
theorem min_cast (a b : Nat) : min (a : Int) (b : Int) = ((min a b : Nat) : Int) := by omega

def RJND (C : Cfg) (w : World) (R : Ending → World → Prop) : Prop :=
  Calls Tryz.prog 63 #[.agg #[.int .i64 C.W, .int .i64 C.H, .int .i64 C.T, .slice C.AT C.tiles.length C.cT, .slice C.AO C.on.length C.cO, .slice C.AI C.ins.length C.cI, .slice C.AU C.outs.length C.cU]] w R
set_option maxRecDepth 100000 in
set_option maxHeartbeats 1000000 in
theorem rjoined_no (C : Cfg) (w : World) (hin : C.In w) (hf : C.few) (h : ¬ C.ok) : RJND C w fun e w' => e = .returned (.tuple #[.slice none 0 0, .int .i64 1]) ∧ Below w.heap.size w w' := by
  unfold RJND
  have hE : C.E = 1 := if_neg h
  have HE := Lib.hid hE
  have hin1 := hin.later (below_new w (.cells #[.int .i64 C.W, .int .i64 C.H, .int .i64 C.T, .slice C.AT C.tiles.length C.cT, .slice C.AO C.on.length C.cO, .slice C.AI C.ins.length C.cI, .slice C.AU C.outs.length C.cU] 28))
  have hb := rcheck31_any C _ hin1 hf
  unfold RCH at hb
  rw [hE] at hb
  have HB := Lib.hid hb
  have Q0 := below_new w (.cells #[.int .i64 C.W, .int .i64 C.H, .int .i64 C.T, .slice C.AT C.tiles.length C.cT, .slice C.AO C.on.length C.cO, .slice C.AI C.ins.length C.cI, .slice C.AU C.outs.length C.cU] 28)
  clear hb hin1 hE
  go_enter Tryz.func63, Tryz.ntmps63
  go_wp2_with fail
  refine (HB.out).mono ?_
  rintro e w1 ⟨rfl, hb1⟩
  have Q1 := below_then Q0 hb1
  clear hb1
  go_wp2_with fail
  go_ret2
  exact ⟨rfl, Q1⟩

set_option maxRecDepth 100000 in
set_option maxHeartbeats 8000000 in
theorem rjoined_yes (C : Cfg) (w : World) (hin : C.In w) (hf : C.few) (h : C.ok) : RJND C w (JoinedOut C w) := by
  unfold RJND
  have hE : C.E = 0 := if_pos h
  have hin1 := hin.later (below_new w (.cells #[.int .i64 C.W, .int .i64 C.H, .int .i64 C.T, .slice C.AT C.tiles.length C.cT, .slice C.AO C.on.length C.cO, .slice C.AI C.ins.length C.cI, .slice C.AU C.outs.length C.cU] 28))
  have hb := rcheck31_any C _ hin1 hf
  unfold RCH at hb
  rw [hE] at hb
  have HB := Lib.hid hb
  have HH := Lib.hid h.1
  have HI := Lib.hid hin
  obtain ⟨L, hL⟩ : ∃ L, edgesL C.W C.H C.T = L := ⟨_, rfl⟩
  have HL := Lib.hid hL
  have hlen : L.length ≤ 6000000 := by have := rawL_len h.1; rw [← hL]; unfold edgesL; rw [sortP_length]; exact this
  have hon : C.on.length = L.length := by rw [← hL]; exact h.2.2.2.1
  have HON := Lib.hid hon
  have hnb := nodes_bd h.1
  obtain ⟨N, hN⟩ : ∃ N : Nat, nodesI C.W C.H C.T = (N : Int) := ⟨(nodesI C.W C.H C.T).toNat, by omega⟩
  have HN := Lib.hid hN
  have hN2 : N ≤ 87040 := by omega
  have hno : nodesO C.W C.H C.T = (N : Int) := by unfold nodesO; rw [if_pos h.1]; exact hN
  have HNO := Lib.hid hno
  have hJL : joinedL C = (List.range N).map (joinAll L C.on L.length) := by unfold joinedL joinedR; rw [hL, hN]; rfl
  have HJL := Lib.hid hJL
  obtain ⟨R, hR⟩ : ∃ R, JoinedOut C w = R := ⟨_, rfl⟩
  rw [hR]
  have HR := Lib.hid hR
  have Q0 := below_new w (.cells #[.int .i64 C.W, .int .i64 C.H, .int .i64 C.T, .slice C.AT C.tiles.length C.cT, .slice C.AO C.on.length C.cO, .slice C.AI C.ins.length C.cI, .slice C.AU C.outs.length C.cU] 28)
  have B0 := Box7.new w C 28
  clear hR hb hin1 hE h hin hf hL hon hnb hN hno hJL
  go_enter Tryz.func63, Tryz.ntmps63
  go_wp2_with fail
  refine (HB.out).mono ?_
  rintro e w1 ⟨rfl, hb1⟩
  have Q1 := below_then Q0 hb1
  have B1 := Box7.below B0 hb1
  clear hb1 HB
  obtain ⟨z1, k10, k11, k12, k13, k14, k15, k16⟩ := id B1
  go_wp2_with fail
  refine (redges_yes _ _ _ _ HH.out).mono ?_
  rintro e w2 ⟨v, rfl, hb2, hown⟩
  rw [HL.out] at hown
  obtain ⟨AA, c, hv⟩ := own_slice hown
  subst hv
  have O2 := Lib.hid hown
  have Q2 := below_then Q1 hb2
  have B2 := Box7.below B1 hb2
  clear hb2 hown B1 z1 k10 k11 k12 k13 k14 k15 k16
  obtain ⟨z2, k20, k21, k22, k23, k24, k25, k26⟩ := id B2
  go_wp2_with fail
  refine (rnodes_any _ _ _ _).mono ?_
  rintro e w3 ⟨rfl, hb3⟩
  rw [HNO.out]
  have O3 := Lib.hid (own_keep O2.out hb3)
  have Q3 := below_then Q2 hb3
  have B3 := Box7.below B2 hb3
  clear hb3 B2 z2 k20 k21 k22 k23 k24 k25 k26 O2
  obtain ⟨i0, hi0, hz0, hz1, hz2⟩ := info_parts int_info
  have HI0 := Lib.hid hi0
  have HZ0 := Lib.hid hz0
  have HZ1 := Lib.hid hz1
  have HZ2 := Lib.hid hz2
  clear hi0 hz0 hz1 hz2
  go_wp2_with ((with_reducible refine wpList_make_full _ rfl (.tmp 24) (.tmp 24) 26 rfl w3.heap.size 3 i0 (.int .i64 0) 1 Tryz.underlying26 HI0.out HZ0.out HZ1.out .i64 .i64 (N : Int) (N : Int) N rfl rfl rfl rfl ?c1 ?c2 (Nat.le_refl _) ?_))
  case c1 => rw [HZ2.out]; omega
  case c2 => unfold maxLen; omega
  intro w4 hm4 hg4
  have hb4 : Below w3.heap.size w3 w4 := (Below.refl _ _).grown hg4 (Nat.le_refl _) (fun _ h => by cases h)
  rw [show (madeCells #[Value.int .i64 0] N).toList = nats (List.replicate N 0) by rw [toList_madeCells_one]; simp [nats]] at hm4
  have S4 : Sets w4 w3.heap.size N (firstL N 0) := by
    rw [firstL_zero]
    exact ⟨hm4, fun i hi => by simp only [List.getD_eq_getElem?_getD, List.getElem?_replicate]; split <;> simp⟩
  have J4 : Hid (JW w w4 C AA L c w1.heap.size w3.heap.size N (firstL N 0)) := Lib.hid
    ⟨below_then Q3 hb4, B3.below hb4, own_keep O3.out hb4, S4, B3.lt, fun e => by have := (O3.out.lt _ e).2; omega⟩
  clear hm4 hg4 hb4 S4 Q3 B3 O3 Q0 B0 Q1 Q2
  go_wp2_with fail
  go_loopw [28] (fun i wx => ∃ k : Nat, k ≤ N ∧ i = .int .i64 (k : Int) ∧ JW w wx C AA L c w1.heap.size w3.heap.size N (firstL N k)) (fun i _ => N - (intOf i).toNat)
  case atStart => exact ⟨0, by omega, rfl, J4.out⟩
  case round =>
    clear J4
    obtain ⟨k, hk, rfl, hj⟩ := hrel
    have HJ := Lib.hid hj
    clear hj
    by_cases hlt : k < N
    · have c0 := HJ.out.sets.cell hlt
      have f0 := HJ.out.sets.free k
      have hst := HJ.out.sets.store hlt (Nat.le_refl k)
      rw [firstL_set N k hlt] at hst
      have J5 := Lib.hid (HJ.out.turned hst.1 hst.2)
      clear hst
      generalize (firstL N k).getD k 0 = u at c0
      go_wp2_with fail
      go_roundw
      case rel => exact ⟨k + 1, by omega, by go_num, J5.out⟩
      case measure => simp [intOf]; omega
    · obtain rfl : k = N := by omega
      have hfl : firstL k k = List.range k := by
        apply List.ext_getElem
        · simp [firstL]
        · intro i h1 h2
          simp at h2
          simp [firstL, h2]
      have hlab := Lab.start L C.on k
      rw [← hfl] at hlab
      have HLAB := Lib.hid hlab
      clear hfl hlab
      go_wp2_with fail
      go_loopg [8] ((firstL k k).sum + 1) (fun gh ch wx => ∃ S c', ch = .bool c' ∧ JW w wx C AA L c w1.heap.size w3.heap.size k S ∧ Lab L C.on k S ∧ (c' = true → S.sum < gh) ∧ (c' = false → S = joinedL C))
      case atStart => exact ⟨firstL k k, true, rfl, HJ.out, HLAB.out, fun _ => by omega, fun h => by cases h⟩
      case round =>
        clear HJ HLAB
        obtain ⟨S, c', rfl, hj, hla, hms, hall⟩ := hrel
        have HJ := Lib.hid hj
        have HLA := Lib.hid hla
        clear hj hla
        cases c' with
        | false =>
          have hSJ := hall rfl
          have hend : JoinedOut C w (.returned (.tuple #[.slice (some ⟨w3.heap.size, 0, none⟩) k k, .int .i64 0])) wr :=
            ⟨w3.heap.size, k, rfl, HN.out, by have := HJ.out.hg; omega, HJ.out.below, by rw [← hSJ]; exact HJ.out.sets.row⟩
          rw [HR.out] at hend
          have HEND := Lib.hid hend
          clear hend hSJ hall hms
          go_wp2_with fail
          exact HEND.out
        | true =>
          have hms2 := hms rfl
          have hgo := LabGo.start HLA.out
          have HGO := Lib.hid hgo
          clear hall hms hgo
          obtain ⟨F, hF⟩ : ∃ F, S.sum = F := ⟨_, rfl⟩
          rw [hF] at hms2 HGO
          clear hF HLA
          go_wp2_with fail
          go_loopw [8, 39] (fun ch i wx => ∃ (q : Nat) (S' : List Nat) (c' : Bool), q ≤ L.length ∧ i = .int .i64 (q : Int) ∧ ch = .bool c' ∧ JW w wx C AA L c w1.heap.size w3.heap.size k S' ∧ LabGo L C.on k F S' c' q) (fun _ i _ => L.length - (intOf i).toNat)
          case atStart => exact ⟨0, S, false, by omega, rfl, rfl, HJ.out, HGO.out⟩
          case round =>
            clear HJ HGO
            obtain ⟨q, S', c', hq, rfl, rfl, hj, hgo⟩ := hrel
            have HJ := Lib.hid hj
            have HGO := Lib.hid hgo
            clear hj hgo
            by_cases hql : q < L.length
            · obtain ⟨g, rfl, hcl⟩ := own_pair HJ.out.edges (by omega)
              obtain ⟨c0, c1⟩ := hcl q hql
              clear hcl
              obtain ⟨ao, hao, hab, hoc⟩ := (HI.out.on).bool (k := q) (by rw [HON.out]; exact hql)
              have hql2 : q < C.on.length := by rw [HON.out]; exact hql
              have hmem : L[q]! ∈ edgesL C.W C.H C.T := by rw [HL.out, getElem!_pos L q hql]; exact List.getElem_mem hql
              obtain ⟨r1, r2⟩ := edges_nodes HH.out hmem
              have hlt3 := (edges_kinds HH.out hmem).1
              have e1 : 0 ≤ (L[q]!).1 := r1.2.1
              have e2 : (L[q]!).1 < (k : Int) := by have := r1.2.2; rw [HN.out] at this; exact this
              have e3 : 0 ≤ (L[q]!).2 := r2.2.1
              have e4 : (L[q]!).2 < (k : Int) := by have := r2.2.2; rw [HN.out] at this; exact this
              have HAO := Lib.hid hao
              clear hmem r1 r2 hao
              obtain ⟨ab, hab2⟩ : ∃ ab, L[q]! = ab := ⟨_, rfl⟩
              have HAB := Lib.hid hab2
              rw [hab2] at c0 c1 e1 e2 e3 e4 hlt3
              clear hab2
              obtain ⟨a, b⟩ := ab
              simp only at c0 c1 e1 e2 e3 e4 hlt3
              obtain ⟨m, rfl⟩ : ∃ m : Nat, a = (m : Int) := ⟨a.toNat, by omega⟩
              obtain ⟨n, rfl⟩ : ∃ n : Nat, b = (n : Int) := ⟨b.toNat, by omega⟩
              have hm : m < k := by omega
              have hn : n < k := by omega
              have hmn : m ≠ n := by omega
              have p0 : (0 : Int) ≤ (m : Int) := by omega
              have p1 : (m : Int) < (k : Int) := by omega
              have p2 : (0 : Int) ≤ (n : Int) := by omega
              have p3 : (n : Int) < (k : Int) := by omega
              clear e1 e2 e3 e4 hlt3
              have J1 := Lib.hid (HJ.out.keep (below_new wr (.cells #[.int .i64 (m : Int), .int .i64 (n : Int)] 95)))
              have hoc2 := (J1.out.below.cell (p := ao.add q) (by rw [add_block]; exact hab)).trans hoc
              obtain ⟨z, k0, k1, k2, k3, k4, k5, k6⟩ := J1.out.box
              rw [HAO.out] at k4
              clear hoc
              have hgl : w3.heap.size < wr.heap.size := HJ.out.sets.glt
              have d0 := J1.out.sets.cell hm
              have d1 := J1.out.sets.cell hn
              have f0 := J1.out.sets.free m
              have f1 := J1.out.sets.free n
              by_cases hcond : C.on.getD q false = true ∧ S'.getD m 0 ≠ S'.getD n 0
              · obtain ⟨ho, hne⟩ := hcond
                have hstep := HGO.out.step hql ho (a := m) (b := n) (by rw [HAB.out]) (by rw [HAB.out]) hm hn hne
                have hlem := HGO.out.lab.le m hm
                have hlen2 := HGO.out.lab.le n hn
                have hmin := min_cast (S'.getD m 0) (S'.getD n 0)
                have t1 : min (S'.getD m 0) (S'.getD n 0) ≤ m := Nat.le_trans (Nat.min_le_left _ _) hlem
                have t2 : min (S'.getD m 0) (S'.getD n 0) ≤ n := Nat.le_trans (Nat.min_le_right _ _) hlen2
                have HST := Lib.hid hstep
                rw [ho] at hoc2
                have hne2 : (((S'.getD m 0 : Nat) : Int) != ((S'.getD n 0 : Nat) : Int)) = true := bne_iff_ne.2 fun h => hne (by omega)
                clear hstep ho hne hlem hlen2
                generalize min (S'.getD m 0) (S'.getD n 0) = t at hmin HST t1 t2
                generalize S'.getD m 0 = u at d0 hmin hne2
                generalize S'.getD n 0 = v at d1 hmin hne2
                go_wp2_with fail
                go_quiet (fail)
                go_wp2_with fail
                go_roundw
                case rel => exact ⟨q + 1, _, true, by omega, by go_num, rfl, (J1.out.drewN _).store2 hm hn t1 t2, HST.out⟩
                case measure => simp [intOf]; omega
              · have hskip := HGO.out.skip (fun ho => by rw [HAB.out]; exact Decidable.byContradiction fun hne => hcond ⟨ho, hne⟩)
                have HSK := Lib.hid hskip
                have hcd : C.on.getD q false = false ∨ (C.on.getD q false = true ∧ (((S'.getD m 0 : Nat) : Int) != ((S'.getD n 0 : Nat) : Int)) = false) := by
                  cases ho : C.on.getD q false with
                  | false => exact .inl rfl
                  | true => refine .inr ⟨rfl, ?_⟩; rw [ho] at hcond; simp at hcond; simp [hcond]
                clear hskip hcond
                generalize S'.getD m 0 = u at d0 hcd
                generalize S'.getD n 0 = v at d1 hcd
                rcases hcd with ho | ⟨ho, hne⟩
                · rw [ho] at hoc2
                  clear ho
                  go_wp2_with fail
                  go_quiet (fail)
                  go_wp2_with fail
                  go_roundw
                  case rel => exact ⟨q + 1, S', c', by omega, by go_num, rfl, J1.out.drewN _, HSK.out⟩
                  case measure => simp [intOf]; omega
                · rw [ho] at hoc2
                  clear ho
                  go_wp2_with fail
                  go_quiet (fail)
                  go_wp2_with fail
                  go_roundw
                  case rel => exact ⟨q + 1, S', c', by omega, by go_num, rfl, J1.out.drewN _, HSK.out⟩
                  case measure => simp [intOf]; omega
            · have hqe : q = L.length := by omega
              have HQE := Lib.hid hqe
              clear hqe
              go_wp2_with fail
              go_roundg F
              case measure => omega
              case rel => exact ⟨S', c', rfl, HJ.out, HGO.out.lab, fun h => by subst h; exact HGO.out.lt rfl, fun h => by subst h; rw [HJL.out]; exact HGO.out.list HQE.out⟩

/-! ### who drives each node -/
theorem whoseOf_snoc (l : List Nat) (m n : Nat) : whoseOf (l ++ [m]) n = if whoseOf l n = -1 then (if n = m then (l.length : Int) else -1) else whoseOf l n := by
  unfold whoseOf
  rw [List.findIdx?_append]
  cases h : l.findIdx? (· == n) with
  | some w =>
    simp only [Option.some_or]
    rw [if_neg (by omega)]
  | none =>
    simp only [Option.none_or, if_true, List.findIdx?_cons, List.findIdx?_nil]
    by_cases e : m = n
    · subst e; simp
    · have e2 : ¬ n = m := fun h => e h.symm
      simp [e, e2]
theorem whoseOf_neg {l : List Nat} {n : Nat} : whoseOf l n = -1 ↔ ¬ n ∈ l := by
  unfold whoseOf
  cases h : l.findIdx? (· == n) with
  | some w =>
    have := List.findIdx?_eq_some_iff_getElem.1 h
    obtain ⟨hw, hp, -⟩ := this
    have hm : n ∈ l := by
      have : l[w] = n := by simpa using hp
      rw [← this]; exact List.getElem_mem hw
    simp only [hm, not_true_eq_false, iff_false]
    omega
  | none =>
    have := List.findIdx?_eq_none_iff.1 h
    simp only [true_iff]
    intro hm
    have := this n hm
    simp at this
/-- the wires of labels, of the first k nodes of wires -/
def whoL (N : Nat) (l : List Nat) : List Int := (List.range N).map (whoseOf l)
theorem whoL_length (N : Nat) (l : List Nat) : (whoL N l).length = N := by simp [whoL]
theorem whoL_getD {N : Nat} (l : List Nat) {m : Nat} (h : m < N) : (whoL N l).getD m 0 = whoseOf l m := by
  simp [whoL, List.getD_eq_getElem?_getD, h]
theorem whoL_zero (N : Nat) : whoL N [] = List.replicate N (-1) := by
  apply List.ext_getElem
  · simp [whoL]
  · intro i h1 h2; simp [whoL, whoseOf]
theorem whoL_next {N : Nat} {l : List Nat} {m : Nat} (hm : m < N) (h : ¬ m ∈ l) : (whoL N l).set m (l.length : Int) = whoL N (l ++ [m]) := by
  apply List.ext_getElem
  · simp [whoL]
  · intro i h1 h2
    simp [whoL] at h2
    rw [List.getElem_set]
    simp only [whoL, List.getElem_map, List.getElem_range]
    rw [whoseOf_snoc]
    by_cases e : m = i
    · subst e
      rw [if_pos rfl, if_pos (whoseOf_neg.2 h), if_pos rfl]
    · rw [if_neg e]
      by_cases c : whoseOf l i = -1
      · rw [if_pos c, if_neg (fun x => e x.symm), c]
      · rw [if_neg c]
/-- the first k are told -1 -/
def negL (N k : Nat) : List Int := List.replicate k (-1) ++ List.replicate (N - k) 0
theorem negL_length {N k : Nat} (h : k ≤ N) : (negL N k).length = N := by simp [negL]; omega
theorem negL_zero (N : Nat) : negL N 0 = List.replicate N 0 := by simp [negL]
theorem negL_full (N : Nat) : negL N N = whoL N [] := by rw [whoL_zero]; simp [negL]
theorem negL_next {N k : Nat} (h : k < N) : (negL N k).set k (-1) = negL N (k + 1) := by
  unfold negL
  rw [List.set_append_right _ _ (by simp), List.length_replicate, Nat.sub_self, show N - k = (N - (k + 1)) + 1 by omega, List.replicate_succ, List.set_cons_zero, List.replicate_succ']
  simp

def RDRV (C : Cfg) (w : World) (R : Ending → World → Prop) : Prop :=
  Calls Tryz.prog 30 #[.agg #[.int .i64 C.W, .int .i64 C.H, .int .i64 C.T, .slice C.AT C.tiles.length C.cT, .slice C.AO C.on.length C.cO, .slice C.AI C.ins.length C.cI, .slice C.AU C.outs.length C.cU]] w R
def RDrvOut (C : Cfg) (w : World) (e : Ending) (w' : World) : Prop :=
  Below w.heap.size w w' ∧ (¬ (labs C).Nodup → e = .returned (.tuple #[.slice none 0 0, .int .i64 320])) ∧
  ((labs C).Nodup → ∃ A c, e = .returned (.tuple #[.slice A (driversL C).length c, .int .i64 0]) ∧ w'.ownsRow w.heap.size 3 1 (.slice A (driversL C).length c) (driversL C).length (ints (driversL C)))
set_option maxRecDepth 100000 in
set_option maxHeartbeats 1000000 in
theorem rdrivers_no (C : Cfg) (w : World) (hin : C.In w) (hf : C.few) (h : ¬ C.ok) : RDRV C w fun e w' => e = .returned (.tuple #[.slice none 0 0, .int .i64 1]) ∧ Below w.heap.size w w' := by
  unfold RDRV
  have hb := rjoined_no C _ (hin.later (below_new w (.cells #[.int .i64 C.W, .int .i64 C.H, .int .i64 C.T, .slice C.AT C.tiles.length C.cT, .slice C.AO C.on.length C.cO, .slice C.AI C.ins.length C.cI, .slice C.AU C.outs.length C.cU] 28))) hf h
  unfold RJND at hb
  have HB := Lib.hid hb
  have Q0 := below_new w (.cells #[.int .i64 C.W, .int .i64 C.H, .int .i64 C.T, .slice C.AT C.tiles.length C.cT, .slice C.AO C.on.length C.cO, .slice C.AI C.ins.length C.cI, .slice C.AU C.outs.length C.cU] 28)
  clear hb
  go_enter Tryz.func30, Tryz.ntmps30
  go_wp2_with fail
  refine (HB.out).mono ?_
  rintro e w1 ⟨rfl, hb1⟩
  have Q1 := below_then Q0 hb1
  clear hb1
  go_wp2_with fail
  go_ret2
  exact ⟨rfl, Q1⟩

/-- WHAT THE DOCUMENT's Drivers HOLDS -/
structure RD (w0 wx : World) (g N : Nat) (L : List Int) (AE : Option Addr) (n cE base : Nat) (E : List Int) (g2 : Nat) (V : List Int) : Prop where
  below : Below w0.heap.size w0 wx
  row : wx.ownsRow g 3 1 (.slice (some ⟨g, 0, none⟩) N N) N (ints L)
  ends : wx.ownsRow base 3 1 (.slice AE n cE) n (ints E)
  who : wx.ownsRow g2 3 1 (.slice (some ⟨g2, 0, none⟩) N N) N (ints V)
  hg : w0.heap.size ≤ g2
  ne : g ≠ g2
  eg : (Value.slice AE n cE).ownBlock ≠ some g2
section
variable {w0 wx wy : World} {g N : Nat} {L : List Int} {AE : Option Addr} {n cE base : Nat} {E : List Int} {g2 : Nat} {V : List Int}
theorem RD.store (h : RD w0 wx g N L AE n cE base E g2 V) (j : Nat) (x : Int) : RD w0 (wx.setCell ⟨g2, j, none⟩ (.int .i64 x)) g N L AE n cE base E g2 (V.set j x) := by
  obtain ⟨h1, h2⟩ := h.who.stored j (.int .i64 x)
  have e : (ints V).set j (.int .i64 x) = ints (V.set j x) := by simp [ints, List.map_set]
  rw [e] at h1
  exact ⟨h.below.grown h2 h.below.size (fun j hj => by injection hj with hj; have := h.hg; omega), own_kept h.row h2 (fun e => h.ne (by simpa [Value.ownBlock] using e)), own_kept h.ends h2 h.eg, h1, h.hg, h.ne, h.eg⟩
theorem RD.keep (h : RD w0 wx g N L AE n cE base E g2 V) (hb : Below wx.heap.size wx wy) : RD w0 wy g N L AE n cE base E g2 V :=
  ⟨below_then h.below hb, own_keep h.row hb, own_keep h.ends hb, own_keep h.who hb, h.hg, h.ne, h.eg⟩
theorem int_cell {w : World} {base k : Nat} {l : List Int} (h : w.ownsRow base 3 1 (.slice (some ⟨base, 0, none⟩) N k) N (ints l)) {j : Nat} (hj : j < N) : w.cell? ⟨base, j, none⟩ = some (.int .i64 (l.getD j 0)) ∧ w.frozen? ⟨base, j, none⟩ = false := by
  have hl : l.length = N := by have := h.1; rw [ints_length] at this; omega
  refine ⟨?_, h.frozenAt j⟩
  rw [h.cellAt j (by omega)]
  simp [ints, List.getD_eq_getElem?_getD, List.getElem?_eq_getElem (show j < l.length by omega)]
end

set_option maxRecDepth 100000 in
set_option maxHeartbeats 8000000 in
theorem rdrivers_yes (C : Cfg) (w : World) (hin : C.In w) (hf : C.few) (h : C.ok) : RDRV C w (RDrvOut C w) := by
  unfold RDRV
  have hj := fun (w' : World) (hb : Below w.heap.size w w') => rjoined_yes C w' (hin.later hb) hf h
  have he := fun (w' : World) (hb : Below w.heap.size w w') => rnodes32 C w' (hin.later hb) hf h
  simp only [RJND] at hj
  simp only [RNODES] at he
  have HJ := Lib.hid hj
  have HE := Lib.hid he
  have hel : (endsL C).length ≤ 6000 := by rw [endsL_length]; have := hf.1; have := hf.2.2.1; omega
  have hei : ∀ k, k < (endsL C).length → 0 ≤ (endsL C).getD k 0 ∧ (endsL C).getD k 0 < nodesI C.W C.H C.T ∧ (labs C)[k]? = some ((joinedL C).getD ((endsL C).getD k 0).toNat 0) := by
    intro k hk
    have e : (endsL C).getD k 0 = (endsL C)[k] := by rw [List.getD_eq_getElem?_getD, List.getElem?_eq_getElem hk]; rfl
    have := ends_in h (List.getElem_mem hk)
    rw [e]
    exact ⟨this.1, this.2, by simp [labs, hk]⟩
  have HEI := Lib.hid hei
  have hll : (labs C).length = (endsL C).length := by simp [labs]
  have HLL := Lib.hid hll
  obtain ⟨R, hR⟩ : ∃ R, RDrvOut C w = R := ⟨_, rfl⟩
  rw [hR]
  have HR := Lib.hid hR
  have Q0 := below_new w (.cells #[.int .i64 C.W, .int .i64 C.H, .int .i64 C.T, .slice C.AT C.tiles.length C.cT, .slice C.AO C.on.length C.cO, .slice C.AI C.ins.length C.cI, .slice C.AU C.outs.length C.cU] 28)
  have B0 := Box7.new w C 28
  have HOK := Lib.hid h.1
  clear hj he hei hll hR h hf hin
  go_enter Tryz.func30, Tryz.ntmps30
  go_wp2_with fail
  refine (HJ.out _ Q0).mono ?_
  rintro e w1 ⟨g, N, rfl, hN, hg, hb1, hown1⟩
  have HN := Lib.hid hN
  have Q1 := below_then Q0 hb1
  have B1 := Box7.below B0 hb1
  have hlm : (labI C).length = N := by simp only [labI, List.length_map, joinedL, List.length_range]; rw [hN]; simp
  have hN2 : N ≤ 87040 := by have := nodes_bd HOK.out; rw [hN] at this; omega
  have HLM := Lib.hid hlm
  rw [← labI_ints] at hown1
  have O1 := Lib.hid hown1
  have hgl : g < w1.heap.size := (hown1.lt g rfl).2
  clear hb1 hown1 hN B0 Q0 HJ hg hlm
  obtain ⟨z1, k10, k11, k12, k13, k14, k15, k16⟩ := id B1
  obtain ⟨i0, hi0, hz0, hz1, hz2⟩ := info_parts int_info
  have HI0 := Lib.hid hi0
  have HZ0 := Lib.hid hz0
  have HZ1 := Lib.hid hz1
  have HZ2 := Lib.hid hz2
  clear hi0 hz0 hz1 hz2
  go_wp2_with ((with_reducible refine wpList_make_full _ rfl (.tmp 22) (.tmp 22) 26 rfl w1.heap.size 3 i0 (.int .i64 0) 1 Tryz.underlying26 HI0.out HZ0.out HZ1.out .i64 .i64 (N : Int) (N : Int) N rfl rfl rfl rfl ?c1 ?c2 (Nat.le_refl _) ?_))
  case c1 => rw [HZ2.out]; omega
  case c2 => unfold maxLen; omega
  intro w2 hm2 hg2
  have hb2 : Below w1.heap.size w1 w2 := (Below.refl _ _).grown hg2 (Nat.le_refl _) (fun _ h => by cases h)
  rw [show (madeCells #[Value.int .i64 0] N).toList = ints (negL N 0) by rw [toList_madeCells_one, negL_zero]; simp [ints]] at hm2
  have hgn : g ≠ w1.heap.size := by omega
  have D2 : Hid (RD w w2 g N (labI C) none 0 0 w1.heap.size [] w1.heap.size (negL N 0)) := Lib.hid
    ⟨below_then Q1 hb2, own_keep O1.out hb2, by simpa [ints] using World.ownsRow_nil _ _ _ _, hm2, Q1.size, hgn, by simp [Value.ownBlock]⟩
  have B2 := Lib.hid (Box7.below B1 hb2)
  have hw1 : w.heap.size < w1.heap.size := B1.lt
  clear hm2 hg2 hb2 Q1 B1 z1 k10 k11 k12 k13 k14 k15 k16 O1
  go_wp2_with fail
  go_loopw [26] (fun i wx => ∃ k : Nat, k ≤ N ∧ i = .int .i64 (k : Int) ∧ RD w wx g N (labI C) none 0 0 w1.heap.size [] w1.heap.size (negL N k) ∧ Box7 wx w.heap.size C) (fun i _ => N - (intOf i).toNat)
  case atStart => exact ⟨0, by omega, rfl, D2.out, B2.out⟩
  case round =>
    clear D2 B2
    obtain ⟨k, hk, rfl, hd, hb⟩ := hrel
    have HD := Lib.hid hd
    have HB := Lib.hid hb
    clear hd hb
    by_cases hlt : k < N
    · obtain ⟨c0, f0⟩ := int_cell HD.out.who hlt
      have D3 := HD.out.store k (-1)
      rw [negL_next hlt] at D3
      have hb3 : Below w1.heap.size wr (wr.setCell ⟨w1.heap.size, k, none⟩ (.int .i64 (-1))) := (Below.refl _ _).setCell (p := ⟨w1.heap.size, k, none⟩) (Nat.le_refl _) _
      have B3 := Lib.hid (box7_low HB.out hb3 hw1)
      have HD3 := Lib.hid D3
      clear D3 hb3
      generalize (negL N k).getD k 0 = u at c0
      go_wp2_with fail
      go_roundw
      case rel => exact ⟨k + 1, by omega, by go_num, HD3.out, B3.out⟩
      case measure => simp [intOf]; omega
    · obtain rfl : k = N := by omega
      obtain ⟨z1, k10, k11, k12, k13, k14, k15, k16⟩ := id HB.out
      go_wp2_with fail
      refine (HE.out _ HD.out.below).mono ?_
      rintro e w3 ⟨AE, cE, rfl, hb3, hown3⟩
      have D3 := HD.out.keep hb3
      have hsz : w1.heap.size < wr.heap.size := (HD.out.who.lt _ rfl).2
      have D4 : Hid (RD w w3 g k (labI C) AE (endsL C).length cE wr.heap.size (endsL C) w1.heap.size (whoL k ((labs C).take 0))) := Lib.hid
        ⟨D3.below, D3.row, hown3, by rw [List.take_zero, ← negL_full]; exact D3.who, D3.hg, D3.ne, fun e => by have := (hown3.lt _ e).1; omega⟩
      clear hb3 hown3 D3 z1 k10 k11 k12 k13 k14 k15 k16 HE HD HB
      obtain ⟨n, hn⟩ : ∃ n, (endsL C).length = n := ⟨_, rfl⟩
      have HNL := Lib.hid hn
      rw [hn] at D4 hel
      simp only [hn]
      clear hn
      generalize wr.heap.size = base at D4
      go_wp2_with fail
      go_loopw [36] (fun i wx => ∃ q : Nat, q ≤ n ∧ i = .int .i64 (q : Int) ∧ RD w wx g k (labI C) AE n cE base (endsL C) w1.heap.size (whoL k ((labs C).take q)) ∧ ((labs C).take q).Nodup) (fun i _ => n - (intOf i).toNat)
      case atStart => exact ⟨0, by omega, rfl, D4.out, by simp⟩
      case round =>
        clear D4
        obtain ⟨q, hq, rfl, hd, hnd⟩ := hrel
        have HD := Lib.hid hd
        have HND := Lib.hid hnd
        clear hd hnd
        by_cases hlt2 : q < n
        · obtain ⟨ge, rfl, hce⟩ := own_cell HD.out.ends hlt2
          obtain ⟨e1, e2, e3⟩ := HEI.out q (by rw [HNL.out]; exact hlt2)
          rw [HN.out] at e2
          have HE3 := Lib.hid e3
          clear e3
          generalize (endsL C).getD q 0 = e at hce e1 e2 HE3
          obtain ⟨e, rfl⟩ : ∃ x : Nat, e = (x : Int) := ⟨e.toNat, by omega⟩
          have he : e < k := by omega
          obtain ⟨c0, -⟩ := int_cell HD.out.row he
          rw [labI_getD] at c0
          have hle := jl_le C e
          have he4 : (labs C)[q]? = some ((joinedL C).getD e 0) := by have := HE3.out; simpa using this
          have HE4 := Lib.hid he4
          clear he4 HE3 e1 e2
          generalize (joinedL C).getD e 0 = m at c0 hle HE4
          have hmk : m < k := by omega
          obtain ⟨c1, f1⟩ := int_cell HD.out.who hmk
          rw [whoL_getD _ hmk] at c1
          have hkl : q < (labs C).length := (List.getElem?_eq_some_iff.1 HE4.out).1
          have hkv : (labs C)[q] = m := (List.getElem?_eq_some_iff.1 HE4.out).2
          by_cases hin : m ∈ (labs C).take q
          · have hw : whoseOf ((labs C).take q) m ≠ -1 := fun hx => whoseOf_neg.1 hx hin
            have hne : (whoseOf ((labs C).take q) m != -1) = true := bne_iff_ne.2 hw
            have hnn : ¬ (labs C).Nodup := by
              intro hx
              obtain ⟨w', hw', hv⟩ := List.mem_iff_getElem.1 hin
              have hwk : w' < q := by rw [List.length_take] at hw'; omega
              rw [List.getElem_take] at hv
              exact List.pairwise_iff_getElem.1 hx w' q (by omega) hkl hwk (by rw [hv, hkv])
            have hend : RDrvOut C w (.returned (.tuple #[.slice none 0 0, .int .i64 320])) wr := ⟨HD.out.below, fun _ => rfl, fun hx => absurd hx hnn⟩
            rw [HR.out] at hend
            have HEND := Lib.hid hend
            clear hin hnn hend hw
            generalize whoseOf ((labs C).take q) m = u at c1 hne
            go_wp2_with fail
            exact HEND.out
          · have hw : whoseOf ((labs C).take q) m = -1 := whoseOf_neg.2 hin
            rw [hw] at c1
            have hnd2 : ((labs C).take (q + 1)).Nodup := by
              rw [List.take_succ_eq_append_getElem hkl, hkv]
              exact List.nodup_append.2 ⟨HND.out, by simp, fun a ha b hb => by simp at hb; subst hb; rintro rfl; exact hin ha⟩
            have hwn := whoL_next (N := k) hmk hin
            have htl : ((labs C).take q).length = q := by rw [List.length_take]; omega
            rw [htl] at hwn
            have hts : (labs C).take q ++ [m] = (labs C).take (q + 1) := by rw [List.take_succ_eq_append_getElem hkl, hkv]
            rw [hts] at hwn
            have D5 := HD.out.store m (q : Int)
            rw [hwn] at D5
            have HD5 := Lib.hid D5
            have HND2 := Lib.hid hnd2
            clear hw hnd2 hwn htl hts D5 hin hkv
            go_wp2_with fail
            go_roundw
            case rel => exact ⟨q + 1, by omega, by go_num, HD5.out, HND2.out⟩
            case measure => simp [intOf]; omega
        · obtain rfl : q = n := by omega
          have hll2 : (labs C).length = q := by rw [HLL.out, HNL.out]
          have hndf : (labs C).Nodup := by have := HND.out; rwa [List.take_of_length_le (by omega)] at this
          have hd0 : RD w wr g k (labI C) AE q cE base (endsL C) w1.heap.size (whoL k (labs C)) := by have := HD.out; rwa [List.take_of_length_le (by omega)] at this
          have HNF := Lib.hid hndf
          have HD0 := Lib.hid hd0
          have hdl : (driversL C).length = k := by rw [drv_length, HLM.out]
          have HDL := Lib.hid hdl
          clear hll2 hndf hd0 HD HND
          obtain ⟨W0, hW0⟩ : ∃ W0, W0 = wr := ⟨wr, rfl⟩
          subst hW0
          go_wp2_with fail
          go_loopw [10, 59] (fun v i wx => ∃ j : Nat, j ≤ k ∧ i = .int .i64 (j : Int) ∧ Below W0.heap.size W0 wx ∧ wx.ownsRow W0.heap.size 3 1 v j (ints ((driversL C).take j))) (fun _ i _ => k - (intOf i).toNat)
          case atStart => exact ⟨0, by omega, rfl, Below.refl _ _, by simpa [ints] using World.ownsRow_nil _ _ _ _⟩
          case round =>
            obtain ⟨j, hj, rfl, hb, hown⟩ := hrel
            obtain ⟨A6, c6, rfl⟩ := own_slice hown
            have HB := Lib.hid hb
            have HO := Lib.hid hown
            have hsz2 : W0.heap.size ≤ wr.heap.size := hb.size
            clear hb hown
            by_cases hjl : j < k
            · obtain ⟨c0', -⟩ := int_cell HD0.out.row hjl
              rw [labI_getD] at c0'
              have c0 := (HB.out.cell (p := ⟨g, j, none⟩) (HD0.out.row.lt _ rfl).2).trans c0'
              have hle := jl_le C j
              have hjd : j < (driversL C).length := by rw [HDL.out]; exact hjl
              have hjj : j < (joinedL C).length := by rw [← HDL.out] at hjl; simpa [driversL] using hjl
              have hdv : (driversL C)[j] = whoseOf (labs C) ((joinedL C).getD j 0) := by
                simp [driversL, List.getD_eq_getElem?_getD, List.getElem?_eq_getElem hjj]
              have htk : (driversL C).take (j + 1) = (driversL C).take j ++ [whoseOf (labs C) ((joinedL C).getD j 0)] := by
                rw [List.take_succ_eq_append_getElem hjd, hdv]
              have HTK := Lib.hid htk
              clear hdv htk hjd hjj c0'
              generalize (joinedL C).getD j 0 = m at c0 hle HTK
              have hmk : m < k := by omega
              obtain ⟨c1', -⟩ := int_cell HD0.out.who hmk
              rw [whoL_getD _ hmk] at c1'
              have c1 := (HB.out.cell (p := ⟨w1.heap.size, m, none⟩) (HD0.out.who.lt _ rfl).2).trans c1'
              clear c1'
              generalize whoseOf (labs C) m = u at c1 HTK
              go_wp2_with (at_builtin; refine wpList_app_int rfl (.tmp 63) (.tmp 68) rfl W0.heap.size A6 j c6 _ rfl HO.out u rfl (by omega) hsz2 ?_)
              intro A7 c7 w7 hown7 hg7
              have B7 := Lib.hid ((HB.out.alloc hsz2 (.cells #[.int .i64 u] 3)).grown hg7 (by simp; omega) (fun j hj => own_base HO.out hj))
              have O7 := Lib.hid hown7
              clear hown7 hg7
              go_wp2_with fail
              go_roundw
              case rel => exact ⟨j + 1, by omega, by go_num, B7.out, by rw [HTK.out]; exact O7.out⟩
              case measure => simp [intOf]; omega
            · obtain rfl : j = k := by omega
              have hft : (driversL C).take j = driversL C := List.take_of_length_le (by rw [HDL.out]; exact Nat.le_refl _)
              have hend : RDrvOut C w (.returned (.tuple #[.slice A6 j c6, .int .i64 0])) wr := by
                refine ⟨HD0.out.below.trans (HB.out.mono HD0.out.below.size), fun hx => absurd HNF.out hx, fun _ => ⟨A6, c6, by rw [HDL.out], ?_⟩⟩
                have := (HO.out).mono (base' := w.heap.size) HD0.out.below.size
                rw [hft] at this
                rw [HDL.out]
                exact this
              rw [HR.out] at hend
              have HEND := Lib.hid hend
              clear hend hft
              go_wp2_with fail
              exact HEND.out
end Go.Proofs.YtoloaecbfglaeaaGreat
