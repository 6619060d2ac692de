/- filigreeref24.Table, Check. -/
import Derived.Test.YtkhlllbceceikaaDoorRVals
namespace Go.Proofs.YtkhlllbceceikaaDoor
open Go.RowKit
set_option linter.unusedVariables false
set_option linter.unusedSimpArgs false

open Classical in
/-- by which table a node hangs on leaves, of any gates: none, if it does not -/
noncomputable def AG.good (G : AG) (l : List Int) (node : Int) : Option Nat := if G.ok ∧ 0 ≤ node ∧ node ≤ G.cnt ∧ leavesB G.cnt l = true then G.table l node.toNat else none
def optV (o : Option Nat) : Nat := o.getD 0
def optE (o : Option Nat) : Int := if o.isSome then 0 else 1
theorem AG.good_yes {G : AG} {l : List Int} {node : Int} (h : G.ok ∧ 0 ≤ node ∧ node ≤ G.cnt ∧ leavesB G.cnt l = true) : G.good l node = G.table l node.toNat := if_pos h
theorem AG.good_no {G : AG} {l : List Int} {node : Int} (h : ¬ (G.ok ∧ 0 ≤ node ∧ node ≤ G.cnt ∧ leavesB G.cnt l = true)) : G.good l node = none := if_neg h
def TblOut (o : Option Nat) (w : World) (r : Ending) (w' : World) : Prop := r = .returned (.tuple #[.int .u64 (optV o : Int), .int .i64 (optE o)]) ∧ Below w.heap.size w w'
set_option maxRecDepth 100000 in
set_option maxHeartbeats 1000000 in
theorem rtable_any (G : AG) (A : Option Addr) (c : Nat) (l : List Int) (node : Int) (w : World) (hin : G.In w) (hf : G.fit) (hr : Rd w 1 A l.length c (ints l)) (hl : l.length ≤ 1000000) :
    Calls Tryd.prog 14 #[.agg #[.int .i64 G.I, .slice G.AF G.fl.length G.cF, .slice G.AA G.an.length G.cA, .slice G.AO G.ou.length G.cO], .int .i64 node, .slice A l.length c] w (TblOut (G.good l node) w) := by
  classical
  have X0 := Lib.hid (Blk.made w 26 #[.int .i64 G.I, .slice G.AF G.fl.length G.cF, .slice G.AA G.an.length G.cA, .slice G.AO G.ou.length G.cO])
  have B0 := Lib.hid (below_new w (.cells #[.int .i64 G.I, .slice G.AF G.fl.length G.cF, .slice G.AA G.an.length G.cA, .slice G.AO G.ou.length G.cO] 26))
  have HCH := fun (W : World) (hB : Below w.heap.size w W) => rcheck18_any G W (hin.later hB) hf
  unfold TblOut
  obtain ⟨o, ho⟩ : ∃ o, G.good l node = o := ⟨_, rfl⟩
  rw [ho]
  by_cases hok : G.ok
  case neg =>
    have hE : G.E = 1 := if_neg hok
    have ho1 : o = none := by rw [← ho]; exact AG.good_no fun h => hok h.1
    subst ho1
    rw [hE] at HCH
    have HCH := Lib.hid HCH
    clear hE ho
    go_enter Tryd.func14, Tryd.ntmps14
    have c0 := X0.out.cell 0
    have c1 := X0.out.cell 1
    have c2 := X0.out.cell 2
    have c3 := X0.out.cell 3
    go_wp2_with fail
    refine (HCH.out _ B0.out).mono ?_
    rintro e w1 ⟨rfl, hb1⟩
    have B1 := Lib.hid (below_then B0.out hb1)
    clear hb1 c0 c1 c2 c3
    go_wp2_with fail
    go_ret2
    exact ⟨rfl, B1.out⟩
  have hE : G.E = 0 := if_pos hok
  rw [hE] at HCH
  have HCH := Lib.hid HCH
  have HCO := Lib.hid (fun (W : World) => rcount_any G W hok.1 hf)
  have HLE := Lib.hid (fun (W : World) (hB : Below w.heap.size w W) => leaves_any G A c l W (hr.later hB) hl hok.1 hf)
  have hcn := hok.cnt
  obtain ⟨ct, hct⟩ : ∃ c, G.cnt = c := ⟨_, rfl⟩
  rw [hct] at HCO hcn HLE
  have HCT := Lib.hid hct
  clear hct hE
  by_cases hn0 : node < 0
  · have ho1 : o = none := by rw [← ho]; exact AG.good_no fun h => by have := h.2.1; omega
    subst ho1
    clear ho
    go_enter Tryd.func14, Tryd.ntmps14
    have c0 := X0.out.cell 0
    have c1 := X0.out.cell 1
    have c2 := X0.out.cell 2
    have c3 := X0.out.cell 3
    go_wp2_with fail
    refine (HCH.out _ B0.out).mono ?_
    rintro e w1 ⟨rfl, hb1⟩
    have B1 := Lib.hid (below_then B0.out hb1)
    clear hb1 c0 c1 c2 c3
    go_wp2_with fail
    go_ret2
    exact ⟨rfl, B1.out⟩
  by_cases hnc : ct < node
  · have ho1 : o = none := by rw [← ho]; exact AG.good_no fun h => by have := h.2.2.1; rw [HCT.out] at this; omega
    subst ho1
    have hge : 1 + ct ≤ node := by omega
    clear ho
    go_enter Tryd.func14, Tryd.ntmps14
    have c0 := X0.out.cell 0
    have c1 := X0.out.cell 1
    have c2 := X0.out.cell 2
    have c3 := X0.out.cell 3
    go_wp2_with fail
    refine (HCH.out _ B0.out).mono ?_
    rintro e w1 ⟨rfl, hb1⟩
    have B1 := Lib.hid (below_then B0.out hb1)
    have X1 := Lib.hid (X0.out.keep hb1)
    clear hb1 c0 c1 c2 c3
    have c0 := X1.out.cell 0
    have c1 := X1.out.cell 1
    have c2 := X1.out.cell 2
    have c3 := X1.out.cell 3
    go_wp2_with fail
    refine (HCO.out _).mono ?_
    rintro e w2 ⟨rfl, hb2⟩
    have B2 := Lib.hid (below_then B1.out hb2)
    clear hb2 c0 c1 c2 c3
    go_wp2_with fail
    go_ret2
    exact ⟨rfl, B2.out⟩
  have hnl : ¬ 1 + ct ≤ node := by omega
  cases hle : leavesB ct l with
  | false =>
    have ho1 : o = none := by rw [← ho]; exact AG.good_no fun h => by have := h.2.2.2; rw [HCT.out, hle] at this; cases this
    subst ho1
    rw [hle] at HLE
    clear ho hle
    go_enter Tryd.func14, Tryd.ntmps14
    have c0 := X0.out.cell 0
    have c1 := X0.out.cell 1
    have c2 := X0.out.cell 2
    have c3 := X0.out.cell 3
    go_wp2_with fail
    refine (HCH.out _ B0.out).mono ?_
    rintro e w1 ⟨rfl, hb1⟩
    have B1 := Lib.hid (below_then B0.out hb1)
    have X1 := Lib.hid (X0.out.keep hb1)
    clear hb1 c0 c1 c2 c3
    have c0 := X1.out.cell 0
    have c1 := X1.out.cell 1
    have c2 := X1.out.cell 2
    have c3 := X1.out.cell 3
    go_wp2_with fail
    refine (HCO.out _).mono ?_
    rintro e w2 ⟨rfl, hb2⟩
    have B2 := Lib.hid (below_then B1.out hb2)
    have X2 := Lib.hid (X1.out.keep hb2)
    clear hb2 c0 c1 c2 c3
    have c0 := X2.out.cell 0
    have c1 := X2.out.cell 1
    have c2 := X2.out.cell 2
    have c3 := X2.out.cell 3
    go_wp2_with fail
    refine (HLE.out _ B2.out).mono ?_
    rintro e w3 ⟨rfl, hb3⟩
    have B3 := Lib.hid (below_then B2.out hb3)
    clear hb3 c0 c1 c2 c3
    go_wp2_with fail
    go_ret2
    exact ⟨rfl, B3.out⟩
  | true =>
    obtain ⟨nd, hnd⟩ : ∃ nd : Nat, node = (nd : Int) := ⟨node.toNat, by omega⟩
    subst hnd
    have hot : o = G.table l nd := by rw [← ho]; exact (AG.good_yes ⟨hok, by omega, by rw [HCT.out]; omega, by rw [HCT.out]; exact hle⟩)
    have hndN : nd < G.cn := by omega
    have hva := fun (W : World) (hB : Below w.heap.size w W) => values_any G A c l nd W (hin.later hB) hf hok (hr.later hB) (by rw [HCT.out]; exact hle) hndN
    unfold ValsOut at hva
    have HVA := Lib.hid hva
    clear hva
    have hsp : G.spec l (max G.fst (nd + 1)) nd = o := by rw [hot]; exact if_pos (by omega)
    have HSP := Lib.hid hsp
    rw [hle] at HLE
    obtain ⟨N, hN⟩ : ∃ N, G.cn = N := ⟨_, rfl⟩
    rw [hN] at HVA hndN
    have hndN' : (nd : Int) < (N : Int) := by omega
    have hN1 : N ≤ 100000 := by have := hf.i; have := hf.f; have := hf.a; have := hok.1; rw [← hN]; unfold AG.cn AG.fst; omega
    clear ho hle hot hN hsp hcn
    go_enter Tryd.func14, Tryd.ntmps14
    have c0 := X0.out.cell 0
    have c1 := X0.out.cell 1
    have c2 := X0.out.cell 2
    have c3 := X0.out.cell 3
    go_wp2_with fail
    refine (HCH.out _ B0.out).mono ?_
    rintro e w1 ⟨rfl, hb1⟩
    have B1 := Lib.hid (below_then B0.out hb1)
    have X1 := Lib.hid (X0.out.keep hb1)
    clear hb1 c0 c1 c2 c3
    have c0 := X1.out.cell 0
    have c1 := X1.out.cell 1
    have c2 := X1.out.cell 2
    have c3 := X1.out.cell 3
    go_wp2_with fail
    refine (HCO.out _).mono ?_
    rintro e w2 ⟨rfl, hb2⟩
    have B2 := Lib.hid (below_then B1.out hb2)
    have X2 := Lib.hid (X1.out.keep hb2)
    clear hb2 c0 c1 c2 c3
    have c0 := X2.out.cell 0
    have c1 := X2.out.cell 1
    have c2 := X2.out.cell 2
    have c3 := X2.out.cell 3
    go_wp2_with fail
    refine (HLE.out _ B2.out).mono ?_
    rintro e w3 ⟨rfl, hb3⟩
    have B3 := Lib.hid (below_then B2.out hb3)
    have X3 := Lib.hid (X2.out.keep hb3)
    clear hb3 c0 c1 c2 c3
    have c0 := X3.out.cell 0
    have c1 := X3.out.cell 1
    have c2 := X3.out.cell 2
    have c3 := X3.out.cell 3
    go_wp2_with fail
    refine (HVA.out _ B3.out).mono ?_
    rintro e w4 ⟨g1, g2, rfl, hb4, hV⟩
    have B4 := Lib.hid (below_then B3.out hb4)
    have o1 : w4.cell? ⟨g1, nd, none⟩ = some (.bool _) := (hV.ok.cell nd).trans (bools_get _ hndN)
    have o2 : w4.cell? ⟨g2, nd, none⟩ = some (.int .u64 _) := (hV.v.cell nd).trans (u64s_get _ hndN)
    rw [HSP.out] at o1 o2
    clear hb4 hV c0 c1 c2 c3
    cases o with
    | none =>
      have o1' : w4.cell? ⟨g1, nd, none⟩ = some (.bool false) := o1
      clear o1
      go_wp2_with fail
      go_ret2
      exact ⟨rfl, B4.out⟩
    | some v =>
      have o1' : w4.cell? ⟨g1, nd, none⟩ = some (.bool true) := o1
      have o2' : w4.cell? ⟨g2, nd, none⟩ = some (.int .u64 (v : Int)) := o2
      clear o1 o2
      go_wp2_with fail
      go_ret2
      exact ⟨rfl, B4.out⟩
end Go.Proofs.YtkhlllbceceikaaDoor
