/- A configuration that is an argument: opened to what it reads as. · A configuration that is an argument: opened. · Walks of the reference's own Few of chapter 32: is a configuration small enough? -/
import Derived.Test.YtoloaecbfglaeaaGreatCfg
import Derived.Test.YtoloaecbfglaeaaGreatFrame
import Derived.Deep.Slices
import Derived.Deep.Grids
import Derived.Deep.Fields

namespace Go.Proofs.YtoloaecbfglaeaaGreat
open Go.ChangeShapes Go.WideShapes Go.ChangeAt Go.RowKit Go.Joins Go.Deep
set_option linter.unusedVariables false
set_option linter.unusedSimpArgs false

section
variable {H : Type} {enc : TypeId × Value → H} {P : Program} {w : World} {base : Nat} {held : Bool}
theorem rd_ints {t e : TypeId} {fuel : Nat} {v : Value} {y : DataW H × List MemPlace} (ht : P.underlying t = some (.slice e)) (he : P.underlying e = some (.int .i64)) (hc : P.cellsOf e = 1)
    (h : DataW.trod enc P w base (fun _ => true) held fuel t [v] = some y) : ∃ A c l, v = .slice A l.length c ∧ Rd w 1 A l.length c (ints l) ∧ ∀ n ∈ l, (Lit.int .i64 n).wf = true := by
  rcases open_ints ht he hc h with ⟨h1, -⟩ | ⟨a, len, cap, zs, h1, hb, hl, hm, hz, -, hcell, hwf⟩
  · injection h1 with h1
    exact ⟨none, 0, [], h1, by simpa [ints] using Rd.empty, fun n hn => by cases hn⟩
  · injection h1 with h1
    simp only [if_true] at hz
    have hlen : (zs.take len).length = len := by rw [List.length_take]; omega
    refine ⟨some a, cap, zs.take len, by rw [hlen]; exact h1, ⟨by rw [ints_length, hlen]; omega, by omega, (fun h => by cases h), ?_⟩, fun n hn => hwf n (List.mem_of_mem_take hn)⟩
    intro j u hj
    have hjl : j < len := by have := (List.getElem?_eq_some_iff.1 hj).1; rw [ints_length, hlen] at this; exact this
    have hc := hcell j (by omega)
    refine ⟨a, rfl, ?_, ?_⟩
    · have := block_lt_of_cell hc; rwa [add_block] at this
    · rw [hc, ← hj]
      simp [ints, List.getD_eq_getElem?_getD, List.getElem?_take, hjl, List.getElem?_eq_getElem (show j < zs.length by omega)]
theorem rd_bools {t e : TypeId} {fuel : Nat} {v : Value} {y : DataW H × List MemPlace} (ht : P.underlying t = some (.slice e)) (he : P.underlying e = some .bool) (hc : P.cellsOf e = 1)
    (h : DataW.trod enc P w base (fun _ => true) held fuel t [v] = some y) : ∃ A c l, v = .slice A l.length c ∧ Rd w 1 A l.length c (bools l) := by
  rcases open_bools ht he hc h with ⟨h1, -⟩ | ⟨a, len, cap, B, h1, hb, hl, hm, -, hcell⟩
  · injection h1 with h1
    exact ⟨none, 0, [], h1, by simpa [bools] using Rd.empty⟩
  · injection h1 with h1
    refine ⟨some a, cap, (List.range len).map B, by simpa using h1, ⟨by simp [bools_length], by simp; omega, (fun h => by cases h), ?_⟩⟩
    intro j u hj
    have hjl : j < len := by have := (List.getElem?_eq_some_iff.1 hj).1; simpa [bools_length] using this
    have hc := hcell j (by omega)
    refine ⟨a, rfl, ?_, ?_⟩
    · have := block_lt_of_cell hc; rwa [add_block] at this
    · rw [hc, ← hj]
      simp [bools, hjl]
theorem rd_tiles {t e : TypeId} {fuel : Nat} {v : Value} {y : DataW H × List MemPlace} {f0 f1 f2 : Field} (ht : P.underlying t = some (.slice e)) (he : P.underlying e = some (.struct #[f0, f1, f2])) (hC : P.cellsOf e = 3) (hone : oneCellFields P #[f0, f1, f2] = true)
    (h0 : P.underlying f0.type = some (.int .i64)) (h1 : P.underlying f1.type = some .bool) (h2 : P.underlying f2.type = some .bool)
    (h : DataW.trod enc P w base (fun _ => true) held fuel t [v] = some y) : ∃ A c l, v = .slice A l.length c ∧ Rd w 3 A l.length c (tiles3 l) ∧ ∀ t ∈ l, (Lit.int .i64 t.1).wf = true := by
  rcases open_slice ht h with ⟨g1, -⟩ | ⟨a, len, cap, m, n, D, Pl, g1, hb, hl, hm, hmm, -, hcell⟩
  · injection g1 with g1
    exact ⟨none, 0, [], g1, by simpa [tiles3] using Rd.empty, fun n hn => by cases hn⟩
  · injection g1 with g1
    simp only [if_true] at hmm
    subst hmm
    have key : ∀ i, i < m → ∃ t : TL, w.cell? (a.add (i * 3)) = some (.int .i64 t.1) ∧ w.cell? (a.add (i * 3 + 1)) = some (.bool t.2.1) ∧ w.cell? (a.add (i * 3 + 2)) = some (.bool t.2.2) ∧ (Lit.int .i64 t.1).wf = true := by
      intro i hi
      obtain ⟨cs', hc, ht'⟩ := hcell i hi
      rw [hC] at hc
      obtain ⟨_, hcl, hat⟩ := World.cells?_some hc
      obtain ⟨ys, n', hn', hy, hlen, hyl, hf⟩ := DataW.trod_struct he ht'
      match cs', hcl with
      | [c0, c1, c2], _ =>
        obtain ⟨o0, k0⟩ := hone_of hone 0 f0 rfl
        obtain ⟨o1, k1⟩ := hone_of hone 1 f1 rfl
        obtain ⟨o2, k2⟩ := hone_of hone 2 f2 rfl
        match ys, hyl with
        | [y0, y1, y2], _ =>
          have e0 : DataW.trod enc P w base (fun _ => true) held n' f0.type [c0] = some y0 := by simpa [o0, k0] using hf 0 f0 rfl
          have e1 : DataW.trod enc P w base (fun _ => true) held n' f1.type [c1] = some y1 := by simpa [o1, k1] using hf 1 f1 rfl
          have e2 : DataW.trod enc P w base (fun _ => true) held n' f2.type [c2] = some y2 := by simpa [o2, k2] using hf 2 f2 rfl
          obtain ⟨z, g0, -, hz⟩ := DataW.trod_int h0 e0
          obtain ⟨b1, g1', -⟩ := DataW.trod_bool h1 e1
          obtain ⟨b2, g2', -⟩ := DataW.trod_bool h2 e2
          simp at g0 g1' g2'
          subst g0 g1' g2'
          refine ⟨(z, b1, b2), ?_, ?_, ?_, hz⟩
          · have := hat 0 (by omega); rw [Go.Deep.add_add] at this; simpa using this
          · have := hat 1 (by omega); rw [Go.Deep.add_add] at this; simpa using this
          · have := hat 2 (by omega); rw [Go.Deep.add_add] at this; simpa using this
    obtain ⟨F, hF⟩ : ∃ F : Nat → TL, ∀ i, i < m → w.cell? (a.add (i * 3)) = some (.int .i64 (F i).1) ∧ w.cell? (a.add (i * 3 + 1)) = some (.bool (F i).2.1) ∧ w.cell? (a.add (i * 3 + 2)) = some (.bool (F i).2.2) ∧ (Lit.int .i64 (F i).1).wf = true := by
      refine ⟨fun i => if h : i < m then Classical.choose (key i h) else (0, false, false), fun i hi => ?_⟩
      simp only [dif_pos hi]
      exact Classical.choose_spec (key i hi)
    have hll : ((List.range len).map F).length = len := by simp
    refine ⟨some a, m, (List.range len).map F, by rw [hll]; exact g1, ⟨tiles3_length _, by omega, (fun h => by cases h), ?_⟩, fun t ht => ?_⟩
    · intro j u hj
      have hjl : j < len * 3 := by have := (List.getElem?_eq_some_iff.1 hj).1; rw [tiles3_length, hll] at this; exact this
      obtain ⟨g0, g1', g2', -⟩ := hF (j / 3) (by omega)
      obtain ⟨t0, t1, t2⟩ := tiles3_get ((List.range len).map F) (j / 3) (by rw [hll]; omega)
      have hel : ((List.range len).map F)[j / 3]! = F (j / 3) := by
        rw [getElem!_pos _ _ (by rw [hll]; omega)]; simp
      rw [hel] at t0 t1 t2
      refine ⟨a, rfl, ?_, ?_⟩
      · have := block_lt_of_cell g0; rwa [add_block] at this
      · rcases (show j = j / 3 * 3 ∨ j = j / 3 * 3 + 1 ∨ j = j / 3 * 3 + 2 by omega) with e | e | e
        · rw [e] at hj ⊢; rw [← hj, t0]; simpa using g0
        · rw [e] at hj ⊢; rw [← hj]; generalize j / 3 = q at *; rw [t1]; exact g1'
        · rw [e] at hj ⊢; rw [← hj]; generalize j / 3 = q at *; rw [t2]; exact g2'
    · obtain ⟨i, hi, rfl⟩ := List.mem_map.1 ht
      exact (hF i (by have := List.mem_range.1 hi; omega)).2.2.2
end
end Go.Proofs.YtoloaecbfglaeaaGreat

namespace Go.Proofs.YtoloaecbfglaeaaGreat
open Go.ChangeShapes Go.WideShapes Go.ChangeAt Go.RowKit Go.Joins Go.Deep
set_option linter.unusedVariables false
set_option linter.unusedSimpArgs false

/-- its numbers fit -/
structure Cfg.wf (C : Cfg) : Prop where
  W : (Lit.int .i64 C.W).wf = true
  H : (Lit.int .i64 C.H).wf = true
  T : (Lit.int .i64 C.T).wf = true
  tiles : ∀ t ∈ C.tiles, (Lit.int .i64 t.1).wf = true
  ins : ∀ n ∈ C.ins, (Lit.int .i64 n).wf = true
  outs : ∀ n ∈ C.outs, (Lit.int .i64 n).wf = true

set_option maxRecDepth 100000 in
theorem open_cfg {H : Type} {enc : TypeId × Value → H} {w : World} {base b0 : Nat} {held : Bool} {r : Reach} {v : Value} {d : DataW H} {p : List MemPlace}
    (hv : Value.okWide Tryz.prog w r b0 28 v) (h : DataW.Trod enc Tryz.prog w base (fun _ => true) held 28 v d p) :
    ∃ C : Cfg, v = .agg #[.int .i64 C.W, .int .i64 C.H, .int .i64 C.T, .slice C.AT C.tiles.length C.cT, .slice C.AO C.on.length C.cO, .slice C.AI C.ins.length C.cI, .slice C.AU C.outs.length C.cU] ∧ C.In w ∧ C.wf := by
  obtain ⟨cs, rfl, hsz⟩ := okWide_struct Tryz.underlying28 hv
  obtain ⟨l⟩ := cs
  have kA : Tryz.prog.cellsOf 23 = 3 := by kernel_rfl
  have kT : Tryz.prog.cellsOf 24 = 1 := by kernel_rfl
  have kB : Tryz.prog.cellsOf 25 = 1 := by kernel_rfl
  have kI : Tryz.prog.cellsOf 26 = 1 := by kernel_rfl
  have k1 : Tryz.prog.cellsOf 3 = 1 := by kernel_rfl
  match l, hsz.trans (by kernel_rfl : Tryz.prog.cellsOf 28 = 7) with
  | [c0, c1, c2, c3, c4, c5, c6], _ =>
    obtain ⟨fuel, hf⟩ := h
    obtain ⟨xs, n, _, hx, _, hlen, hg⟩ := DataW.trod_struct Tryz.underlying28 hf
    match xs, hlen with
    | [y0, y1, y2, y3, y4], _ =>
      have g0 : DataW.trod enc Tryz.prog w base (fun _ => true) held n 23 [c0, c1, c2] = some y0 := by simpa [Value.cells, kA] using hg 0 _ rfl
      have g1 : DataW.trod enc Tryz.prog w base (fun _ => true) held n 24 [c3] = some y1 := by simpa [Value.cells, kT] using hg 1 _ rfl
      have g2 : DataW.trod enc Tryz.prog w base (fun _ => true) held n 25 [c4] = some y2 := by simpa [Value.cells, kB] using hg 2 _ rfl
      have g3 : DataW.trod enc Tryz.prog w base (fun _ => true) held n 26 [c5] = some y3 := by simpa [Value.cells, kI] using hg 3 _ rfl
      have g4 : DataW.trod enc Tryz.prog w base (fun _ => true) held n 26 [c6] = some y4 := by simpa [Value.cells, kI] using hg 4 _ rfl
      obtain ⟨zs, m, _, hz, _, hzl, hzg⟩ := DataW.trod_struct Tryz.underlying23 g0
      match zs, hzl with
      | [z0, z1, z2], _ =>
        have e0 : DataW.trod enc Tryz.prog w base (fun _ => true) held m 3 [c0] = some z0 := by simpa [Value.cells, k1] using hzg 0 _ rfl
        have e1 : DataW.trod enc Tryz.prog w base (fun _ => true) held m 3 [c1] = some z1 := by simpa [Value.cells, k1] using hzg 1 _ rfl
        have e2 : DataW.trod enc Tryz.prog w base (fun _ => true) held m 3 [c2] = some z2 := by simpa [Value.cells, k1] using hzg 2 _ rfl
        obtain ⟨a0, q0, -, w0⟩ := DataW.trod_int Tryz.underlying3 e0
        obtain ⟨a1, q1, -, w1⟩ := DataW.trod_int Tryz.underlying3 e1
        obtain ⟨a2, q2, -, w2⟩ := DataW.trod_int Tryz.underlying3 e2
        simp at q0 q1 q2
        subst q0 q1 q2
        obtain ⟨AT, cT, tiles, rfl, hT, wT⟩ := rd_tiles Tryz.underlying24 Tryz.underlying61 (by kernel_rfl) (by kernel_rfl) Tryz.underlying3 Tryz.underlying4 Tryz.underlying4 g1
        obtain ⟨AO, cO, on, rfl, hO⟩ := rd_bools Tryz.underlying25 Tryz.underlying4 (by kernel_rfl) g2
        obtain ⟨AI, cI, ins, rfl, hI, wI⟩ := rd_ints Tryz.underlying26 Tryz.underlying3 k1 g3
        obtain ⟨AU, cU, outs, rfl, hU, wU⟩ := rd_ints Tryz.underlying26 Tryz.underlying3 k1 g4
        exact ⟨{ W := a0, H := a1, T := a2, AT := AT, cT := cT, tiles := tiles, AO := AO, cO := cO, on := on, AI := AI, cI := cI, ins := ins, AU := AU, cU := cU, outs := outs }, rfl, ⟨hT, hO, hI, hU⟩, ⟨w0, w1, w2, wT, wI, wU⟩⟩
end Go.Proofs.YtoloaecbfglaeaaGreat

namespace Go.Proofs.YtoloaecbfglaeaaGreat
open Go.RowKit
set_option linter.unusedVariables false
set_option linter.unusedSimpArgs false

/-- few enough, as the law tells -/
def few32 (C : Cfg) : Prop := C.W ≤ 6 ∧ C.H ≤ 6 ∧ C.T ≤ 8 ∧ C.tiles.length ≤ 100 ∧ C.on.length ≤ 20000 ∧ C.ins.length ≤ 50 ∧ C.outs.length ≤ 50
instance (C : Cfg) : Decidable (few32 C) := by unfold few32; infer_instance
set_option maxRecDepth 100000 in
set_option maxHeartbeats 1000000 in
theorem few32_yes (C : Cfg) (w : World) (h : few32 C) :
    Calls Tryz.prog 8 #[.agg #[.int .i64 C.W, .int .i64 C.H, .int .i64 C.T, .slice C.AT C.tiles.length C.cT, .slice C.AO C.on.length C.cO, .slice C.AI C.ins.length C.cI, .slice C.AU C.outs.length C.cU]] w fun e w' => e = .returned (.bool true) ∧ Below w.heap.size w w' := by
  obtain ⟨h0, h1, h2, h3, h4, h5, h6⟩ := h
  have hd : decide ((C.outs.length : Int) ≤ 50) = true := decide_eq_true (by omega)
  go_enter Tryz.func8, Tryz.ntmps8
  go_wp2_with fail
  go_ret
  exact ⟨rfl, below_new w _⟩
set_option maxRecDepth 100000 in
set_option maxHeartbeats 1000000 in
theorem few32_no0 (C : Cfg) (w : World)  (g : ¬ C.W ≤ 6) :
    Calls Tryz.prog 8 #[.agg #[.int .i64 C.W, .int .i64 C.H, .int .i64 C.T, .slice C.AT C.tiles.length C.cT, .slice C.AO C.on.length C.cO, .slice C.AI C.ins.length C.cI, .slice C.AU C.outs.length C.cU]] w fun e w' => e = .returned (.bool false) ∧ Below w.heap.size w w' := by
  go_enter Tryz.func8, Tryz.ntmps8
  go_wp2_with fail
  go_ret
  exact ⟨rfl, below_new w _⟩
set_option maxRecDepth 100000 in
set_option maxHeartbeats 1000000 in
theorem few32_no1 (C : Cfg) (w : World) (h0 : C.W ≤ 6) (g : ¬ C.H ≤ 6) :
    Calls Tryz.prog 8 #[.agg #[.int .i64 C.W, .int .i64 C.H, .int .i64 C.T, .slice C.AT C.tiles.length C.cT, .slice C.AO C.on.length C.cO, .slice C.AI C.ins.length C.cI, .slice C.AU C.outs.length C.cU]] w fun e w' => e = .returned (.bool false) ∧ Below w.heap.size w w' := by
  go_enter Tryz.func8, Tryz.ntmps8
  go_wp2_with fail
  go_ret
  exact ⟨rfl, below_new w _⟩
set_option maxRecDepth 100000 in
set_option maxHeartbeats 1000000 in
theorem few32_no2 (C : Cfg) (w : World) (h0 : C.W ≤ 6) (h1 : C.H ≤ 6) (g : ¬ C.T ≤ 8) :
    Calls Tryz.prog 8 #[.agg #[.int .i64 C.W, .int .i64 C.H, .int .i64 C.T, .slice C.AT C.tiles.length C.cT, .slice C.AO C.on.length C.cO, .slice C.AI C.ins.length C.cI, .slice C.AU C.outs.length C.cU]] w fun e w' => e = .returned (.bool false) ∧ Below w.heap.size w w' := by
  go_enter Tryz.func8, Tryz.ntmps8
  go_wp2_with fail
  go_ret
  exact ⟨rfl, below_new w _⟩
set_option maxRecDepth 100000 in
set_option maxHeartbeats 1000000 in
theorem few32_no3 (C : Cfg) (w : World) (h0 : C.W ≤ 6) (h1 : C.H ≤ 6) (h2 : C.T ≤ 8) (g : ¬ C.tiles.length ≤ 100) :
    Calls Tryz.prog 8 #[.agg #[.int .i64 C.W, .int .i64 C.H, .int .i64 C.T, .slice C.AT C.tiles.length C.cT, .slice C.AO C.on.length C.cO, .slice C.AI C.ins.length C.cI, .slice C.AU C.outs.length C.cU]] w fun e w' => e = .returned (.bool false) ∧ Below w.heap.size w w' := by
  go_enter Tryz.func8, Tryz.ntmps8
  go_wp2_with fail
  go_ret
  exact ⟨rfl, below_new w _⟩
set_option maxRecDepth 100000 in
set_option maxHeartbeats 1000000 in
theorem few32_no4 (C : Cfg) (w : World) (h0 : C.W ≤ 6) (h1 : C.H ≤ 6) (h2 : C.T ≤ 8) (h3 : C.tiles.length ≤ 100) (g : ¬ C.on.length ≤ 20000) :
    Calls Tryz.prog 8 #[.agg #[.int .i64 C.W, .int .i64 C.H, .int .i64 C.T, .slice C.AT C.tiles.length C.cT, .slice C.AO C.on.length C.cO, .slice C.AI C.ins.length C.cI, .slice C.AU C.outs.length C.cU]] w fun e w' => e = .returned (.bool false) ∧ Below w.heap.size w w' := by
  go_enter Tryz.func8, Tryz.ntmps8
  go_wp2_with fail
  go_ret
  exact ⟨rfl, below_new w _⟩
set_option maxRecDepth 100000 in
set_option maxHeartbeats 1000000 in
theorem few32_no5 (C : Cfg) (w : World) (h0 : C.W ≤ 6) (h1 : C.H ≤ 6) (h2 : C.T ≤ 8) (h3 : C.tiles.length ≤ 100) (h4 : C.on.length ≤ 20000) (g : ¬ C.ins.length ≤ 50) :
    Calls Tryz.prog 8 #[.agg #[.int .i64 C.W, .int .i64 C.H, .int .i64 C.T, .slice C.AT C.tiles.length C.cT, .slice C.AO C.on.length C.cO, .slice C.AI C.ins.length C.cI, .slice C.AU C.outs.length C.cU]] w fun e w' => e = .returned (.bool false) ∧ Below w.heap.size w w' := by
  go_enter Tryz.func8, Tryz.ntmps8
  go_wp2_with fail
  go_ret
  exact ⟨rfl, below_new w _⟩
set_option maxRecDepth 100000 in
set_option maxHeartbeats 1000000 in
theorem few32_no6 (C : Cfg) (w : World) (h0 : C.W ≤ 6) (h1 : C.H ≤ 6) (h2 : C.T ≤ 8) (h3 : C.tiles.length ≤ 100) (h4 : C.on.length ≤ 20000) (h5 : C.ins.length ≤ 50) (g : ¬ C.outs.length ≤ 50) :
    Calls Tryz.prog 8 #[.agg #[.int .i64 C.W, .int .i64 C.H, .int .i64 C.T, .slice C.AT C.tiles.length C.cT, .slice C.AO C.on.length C.cO, .slice C.AI C.ins.length C.cI, .slice C.AU C.outs.length C.cU]] w fun e w' => e = .returned (.bool false) ∧ Below w.heap.size w w' := by
  have hd : decide ((C.outs.length : Int) ≤ 50) = false := decide_eq_false (by omega)
  go_enter Tryz.func8, Tryz.ntmps8
  go_wp2_with fail
  go_ret
  exact ⟨rfl, below_new w _⟩
theorem few32_no (C : Cfg) (w : World) (h : ¬ few32 C) :
    Calls Tryz.prog 8 #[.agg #[.int .i64 C.W, .int .i64 C.H, .int .i64 C.T, .slice C.AT C.tiles.length C.cT, .slice C.AO C.on.length C.cO, .slice C.AI C.ins.length C.cI, .slice C.AU C.outs.length C.cU]] w fun e w' => e = .returned (.bool false) ∧ Below w.heap.size w w' := by
  unfold few32 at h
  by_cases h0 : C.W ≤ 6
  case neg => exact few32_no0 C w  h0
  by_cases h1 : C.H ≤ 6
  case neg => exact few32_no1 C w h0 h1
  by_cases h2 : C.T ≤ 8
  case neg => exact few32_no2 C w h0 h1 h2
  by_cases h3 : C.tiles.length ≤ 100
  case neg => exact few32_no3 C w h0 h1 h2 h3
  by_cases h4 : C.on.length ≤ 20000
  case neg => exact few32_no4 C w h0 h1 h2 h3 h4
  by_cases h5 : C.ins.length ≤ 50
  case neg => exact few32_no5 C w h0 h1 h2 h3 h4 h5
  exact few32_no6 C w h0 h1 h2 h3 h4 h5 (fun g => h ⟨h0, h1, h2, h3, h4, h5, g⟩)
theorem few32_few {C : Cfg} (h : few32 C) : C.few := by unfold few32 at h; unfold Cfg.few; omega
end Go.Proofs.YtoloaecbfglaeaaGreat
