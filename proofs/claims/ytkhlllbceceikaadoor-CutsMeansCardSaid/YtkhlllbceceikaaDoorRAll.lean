/- filigreeref24.may, All, Depths. -/
import Derived.Test.YtkhlllbceceikaaDoorRBoth
namespace Go.Proofs.YtkhlllbceceikaaDoor
open Go.RowKit
set_option linter.unusedVariables false
set_option linter.unusedSimpArgs false
/-- may cuts be told -/
def AG.may (G : AG) (k : Int) : Prop := G.ok ∧ 2 ≤ k ∧ k ≤ 6
instance (G : AG) (k : Int) : Decidable (G.may k) := by unfold AG.may; infer_instance
def AG.mayE (G : AG) (k : Int) : Int := if G.may k then 0 else 1
def AllOut (G : AG) (k : Int) (w : World) (r : Ending) (w' : World) : Prop :=
  (G.may k → ∃ AO cO rs AD cD, r = .returned (.tuple #[.slice AO (rs : List CR).length cO, .int .i64 0]) ∧ BothSt (G.bothTo k (G.cn - 1)) w AO cO rs AD cD w') ∧ (¬ G.may k → r = .returned (.tuple #[.slice none 0 0, .int .i64 1]) ∧ Below w.heap.size w w')
def DepOut (G : AG) (k : Int) (w : World) (r : Ending) (w' : World) : Prop :=
  (G.may k → ∃ AO cO rs AD cD, r = .returned (.tuple #[.slice AD (G.bothTo k (G.cn - 1)).2.length cD, .int .i64 0]) ∧ BothSt (G.bothTo k (G.cn - 1)) w AO cO rs AD cD w') ∧ (¬ G.may k → r = .returned (.tuple #[.slice none 0 0, .int .i64 1]) ∧ Below w.heap.size w w')
set_option maxRecDepth 100000 in
set_option maxHeartbeats 1000000 in
theorem rmay24_any (G : AG) (k : Int) (w : World) (hin : G.In w) (hf : G.fit) :
    Calls Tryd.prog 44 #[.agg #[.int .i64 G.I, .slice G.AF G.fl.length G.cF, .slice G.AA G.an.length G.cA, .slice G.AO G.ou.length G.cO], .int .i64 k] w fun r w' => r = .returned (.int .i64 (G.mayE k)) ∧ Below w.heap.size w w' := by
  have X0 := Lib.hid (Blk.made w 26 #[.int .i64 G.I, .slice G.AF G.fl.length G.cF, .slice G.AA G.an.length G.cA, .slice G.AO G.ou.length G.cO])
  have B0 := Lib.hid (below_new w (.cells #[.int .i64 G.I, .slice G.AF G.fl.length G.cF, .slice G.AA G.an.length G.cA, .slice G.AO G.ou.length G.cO] 26))
  have HCH := fun (W : World) (hB : Below w.heap.size w W) => rcheck18_any G W (hin.later hB) hf
  obtain ⟨r, hr⟩ : ∃ r, G.mayE k = r := ⟨_, rfl⟩
  rw [hr]
  have c0 := X0.out.cell 0
  have c1 := X0.out.cell 1
  have c2 := X0.out.cell 2
  have c3 := X0.out.cell 3
  by_cases hok : G.ok
  case neg =>
    have hE : G.E = 1 := if_neg hok
    have HR := Lib.hid (show r = 1 by rw [← hr]; exact if_neg (fun h => hok h.1))
    rw [hE] at HCH
    have HC := Lib.hid HCH
    clear hr hE hin hf HCH
    go_enter Tryd.func44, Tryd.ntmps44
    go_wp2_with fail
    refine (HC.out _ B0.out).mono ?_
    rintro e w1 ⟨rfl, hb1⟩
    have B1 := Lib.hid (below_then B0.out hb1)
    clear hb1
    go_wp2_with fail
    go_ret
    exact ⟨by rw [HR.out]; rfl, B1.out⟩
  have hE : G.E = 0 := if_pos hok
  rw [hE] at HCH
  have HC := Lib.hid HCH
  by_cases hk2 : k < 2
  · have HR := Lib.hid (show r = 1 by rw [← hr]; exact if_neg (fun h => by have := h.2.1; omega))
    clear hr hE hin hf HCH hok
    go_enter Tryd.func44, Tryd.ntmps44
    go_wp2_with fail
    refine (HC.out _ B0.out).mono ?_
    rintro e w1 ⟨rfl, hb1⟩
    have B1 := Lib.hid (below_then B0.out hb1)
    clear hb1
    go_wp2_with fail
    go_ret
    exact ⟨by rw [HR.out]; rfl, B1.out⟩
  by_cases hk6 : 6 < k
  · have HR := Lib.hid (show r = 1 by rw [← hr]; exact if_neg (fun h => by have := h.2.2; omega))
    clear hr hE hin hf HCH hok
    go_enter Tryd.func44, Tryd.ntmps44
    go_wp2_with fail
    refine (HC.out _ B0.out).mono ?_
    rintro e w1 ⟨rfl, hb1⟩
    have B1 := Lib.hid (below_then B0.out hb1)
    clear hb1
    go_wp2_with fail
    go_ret
    exact ⟨by rw [HR.out]; rfl, B1.out⟩
  · have HR := Lib.hid (show r = 0 by rw [← hr]; exact if_pos ⟨hok, by omega, by omega⟩)
    clear hr hE hin hf HCH hok
    go_enter Tryd.func44, Tryd.ntmps44
    go_wp2_with fail
    refine (HC.out _ B0.out).mono ?_
    rintro e w1 ⟨rfl, hb1⟩
    have B1 := Lib.hid (below_then B0.out hb1)
    clear hb1
    go_wp2_with fail
    go_ret
    exact ⟨by rw [HR.out]; rfl, B1.out⟩
theorem BothSt.back {st : List (List PC) × List Int} {w w0 w' : World} {AO : Option Addr} {cO : Nat} {rs : List CR} {AD : Option Addr} {cD : Nat} (h : BothSt st w0 AO cO rs AD cD w') (hb : Below w.heap.size w w0) : BothSt st w AO cO rs AD cD w' :=
  ⟨below_then hb h.1, ⟨own_down h.2.1.out hb.size, fun r hr => ⟨(h.2.1.row r hr).1.down hb.size, (h.2.1.row r hr).2⟩, own_down h.2.1.dep hb.size⟩, h.2.2⟩
set_option maxRecDepth 100000 in
set_option maxHeartbeats 1000000 in
theorem rall24_any (G : AG) (k : Int) (w : World) (hin : G.In w) (hf : G.fit) :
    Calls Tryd.prog 21 #[.agg #[.int .i64 G.I, .slice G.AF G.fl.length G.cF, .slice G.AA G.an.length G.cA, .slice G.AO G.ou.length G.cO], .int .i64 k] w (AllOut G k w) := by
  have X0 := Lib.hid (Blk.made w 26 #[.int .i64 G.I, .slice G.AF G.fl.length G.cF, .slice G.AA G.an.length G.cA, .slice G.AO G.ou.length G.cO])
  have B0 := Lib.hid (below_new w (.cells #[.int .i64 G.I, .slice G.AF G.fl.length G.cF, .slice G.AA G.an.length G.cA, .slice G.AO G.ou.length G.cO] 26))
  have HMA := fun (W : World) (hB : Below w.heap.size w W) => rmay24_any G k W (hin.later hB) hf
  have c0 := X0.out.cell 0
  have c1 := X0.out.cell 1
  have c2 := X0.out.cell 2
  have c3 := X0.out.cell 3
  by_cases hm : G.may k
  case neg =>
    have hE : G.mayE k = 1 := if_neg hm
    rw [hE] at HMA
    have HM := Lib.hid HMA
    have HN := Lib.hid hm
    clear hE hin hf HMA hm
    go_enter Tryd.func21, Tryd.ntmps21
    go_wp2_with fail
    refine (HM.out _ B0.out).mono ?_
    rintro e w1 ⟨rfl, hb1⟩
    have B1 := Lib.hid (below_then B0.out hb1)
    clear hb1
    go_wp2_with fail
    go_ret2
    exact ⟨fun h => absurd h HN.out, fun _ => ⟨rfl, B1.out⟩⟩
  have hE : G.mayE k = 0 := if_pos hm
  rw [hE] at HMA
  have HM := Lib.hid HMA
  have HBO := fun (W : World) (hB : Below w.heap.size w W) => rboth_any G k W (hin.later hB) hf hm.1 hm.2
  unfold BothOut at HBO
  have HB := Lib.hid HBO
  have HY := Lib.hid hm
  clear hE hin hf HMA hm HBO
  go_enter Tryd.func21, Tryd.ntmps21
  go_wp2_with fail
  refine (HM.out _ B0.out).mono ?_
  rintro e w1 ⟨rfl, hb1⟩
  have B1 := Lib.hid (below_then B0.out hb1)
  have X1 := Lib.hid (X0.out.keep hb1)
  clear hb1 c0 c1 c2 c3
  have c0 := X1.out.cell 0
  have c1 := X1.out.cell 1
  have c2 := X1.out.cell 2
  have c3 := X1.out.cell 3
  go_wp2_with fail
  refine (HB.out _ B1.out).mono ?_
  rintro e w2 ⟨AO, cO, rs, AD, cD, rfl, hst⟩
  have HS := Lib.hid (hst.back B1.out)
  clear hst c0 c1 c2 c3
  go_wp2_with fail
  go_ret2
  exact ⟨fun _ => ⟨AO, cO, rs, AD, cD, rfl, HS.out⟩, fun h => absurd HY.out h⟩
set_option maxRecDepth 100000 in
set_option maxHeartbeats 1000000 in
theorem rdepths24_any (G : AG) (k : Int) (w : World) (hin : G.In w) (hf : G.fit) :
    Calls Tryd.prog 23 #[.agg #[.int .i64 G.I, .slice G.AF G.fl.length G.cF, .slice G.AA G.an.length G.cA, .slice G.AO G.ou.length G.cO], .int .i64 k] w (DepOut G k w) := by
  have X0 := Lib.hid (Blk.made w 26 #[.int .i64 G.I, .slice G.AF G.fl.length G.cF, .slice G.AA G.an.length G.cA, .slice G.AO G.ou.length G.cO])
  have B0 := Lib.hid (below_new w (.cells #[.int .i64 G.I, .slice G.AF G.fl.length G.cF, .slice G.AA G.an.length G.cA, .slice G.AO G.ou.length G.cO] 26))
  have HMA := fun (W : World) (hB : Below w.heap.size w W) => rmay24_any G k W (hin.later hB) hf
  have c0 := X0.out.cell 0
  have c1 := X0.out.cell 1
  have c2 := X0.out.cell 2
  have c3 := X0.out.cell 3
  by_cases hm : G.may k
  case neg =>
    have hE : G.mayE k = 1 := if_neg hm
    rw [hE] at HMA
    have HM := Lib.hid HMA
    have HN := Lib.hid hm
    clear hE hin hf HMA hm
    go_enter Tryd.func23, Tryd.ntmps23
    go_wp2_with fail
    refine (HM.out _ B0.out).mono ?_
    rintro e w1 ⟨rfl, hb1⟩
    have B1 := Lib.hid (below_then B0.out hb1)
    clear hb1
    go_wp2_with fail
    go_ret2
    exact ⟨fun h => absurd h HN.out, fun _ => ⟨rfl, B1.out⟩⟩
  have hE : G.mayE k = 0 := if_pos hm
  rw [hE] at HMA
  have HM := Lib.hid HMA
  have HBO := fun (W : World) (hB : Below w.heap.size w W) => rboth_any G k W (hin.later hB) hf hm.1 hm.2
  unfold BothOut at HBO
  have HB := Lib.hid HBO
  have HY := Lib.hid hm
  clear hE hin hf HMA hm HBO
  go_enter Tryd.func23, Tryd.ntmps23
  go_wp2_with fail
  refine (HM.out _ B0.out).mono ?_
  rintro e w1 ⟨rfl, hb1⟩
  have B1 := Lib.hid (below_then B0.out hb1)
  have X1 := Lib.hid (X0.out.keep hb1)
  clear hb1 c0 c1 c2 c3
  have c0 := X1.out.cell 0
  have c1 := X1.out.cell 1
  have c2 := X1.out.cell 2
  have c3 := X1.out.cell 3
  go_wp2_with fail
  refine (HB.out _ B1.out).mono ?_
  rintro e w2 ⟨AO, cO, rs, AD, cD, rfl, hst⟩
  have HS := Lib.hid (hst.back B1.out)
  clear hst c0 c1 c2 c3
  go_wp2_with fail
  go_ret2
  exact ⟨fun _ => ⟨AO, cO, rs, AD, cD, rfl, HS.out⟩, fun h => absurd HY.out h⟩
end Go.Proofs.YtkhlllbceceikaaDoor
