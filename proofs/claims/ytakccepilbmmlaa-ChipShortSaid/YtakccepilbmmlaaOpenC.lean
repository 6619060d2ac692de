/- A configuration that is an argument: opened. -/
import Derived.Test.YtakccepilbmmlaaOpen
namespace Go.Proofs.Ytakccepilbmmlaa
open Go.ChangeShapes Go.WideShapes Go.ChangeAt Go.RowKit Go.Joins Go.Deep
set_option linter.unusedVariables false
set_option linter.unusedSimpArgs false

/-- its numbers fit -/
structure Cfg.wf (C : Cfg) : Prop where
  W : (Lit.int .i64 C.W).wf = true
  H : (Lit.int .i64 C.H).wf = true
  T : (Lit.int .i64 C.T).wf = true
  tiles : ∀ t ∈ C.tiles, (Lit.int .i64 t.1).wf = true
  ins : ∀ n ∈ C.ins, (Lit.int .i64 n).wf = true
  outs : ∀ n ∈ C.outs, (Lit.int .i64 n).wf = true

set_option maxRecDepth 100000 in
theorem open_cfg {H : Type} {enc : TypeId × Value → H} {w : World} {base b0 : Nat} {held : Bool} {r : Reach} {v : Value} {d : DataW H} {p : List MemPlace}
    (hv : Value.okWide Try.prog w r b0 28 v) (h : DataW.Trod enc Try.prog w base (fun _ => true) held 28 v d p) :
    ∃ C : Cfg, v = .agg #[.int .i64 C.W, .int .i64 C.H, .int .i64 C.T, .slice C.AT C.tiles.length C.cT, .slice C.AO C.on.length C.cO, .slice C.AI C.ins.length C.cI, .slice C.AU C.outs.length C.cU] ∧ C.In w ∧ C.wf := by
  obtain ⟨cs, rfl, hsz⟩ := okWide_struct Try.underlying28 hv
  obtain ⟨l⟩ := cs
  have kA : Try.prog.cellsOf 23 = 3 := by kernel_rfl
  have kT : Try.prog.cellsOf 24 = 1 := by kernel_rfl
  have kB : Try.prog.cellsOf 25 = 1 := by kernel_rfl
  have kI : Try.prog.cellsOf 26 = 1 := by kernel_rfl
  have k1 : Try.prog.cellsOf 3 = 1 := by kernel_rfl
  match l, hsz.trans (by kernel_rfl : Try.prog.cellsOf 28 = 7) with
  | [c0, c1, c2, c3, c4, c5, c6], _ =>
    obtain ⟨fuel, hf⟩ := h
    obtain ⟨xs, n, _, hx, _, hlen, hg⟩ := DataW.trod_struct Try.underlying28 hf
    match xs, hlen with
    | [y0, y1, y2, y3, y4], _ =>
      have g0 : DataW.trod enc Try.prog w base (fun _ => true) held n 23 [c0, c1, c2] = some y0 := by simpa [Value.cells, kA] using hg 0 _ rfl
      have g1 : DataW.trod enc Try.prog w base (fun _ => true) held n 24 [c3] = some y1 := by simpa [Value.cells, kT] using hg 1 _ rfl
      have g2 : DataW.trod enc Try.prog w base (fun _ => true) held n 25 [c4] = some y2 := by simpa [Value.cells, kB] using hg 2 _ rfl
      have g3 : DataW.trod enc Try.prog w base (fun _ => true) held n 26 [c5] = some y3 := by simpa [Value.cells, kI] using hg 3 _ rfl
      have g4 : DataW.trod enc Try.prog w base (fun _ => true) held n 26 [c6] = some y4 := by simpa [Value.cells, kI] using hg 4 _ rfl
      obtain ⟨zs, m, _, hz, _, hzl, hzg⟩ := DataW.trod_struct Try.underlying23 g0
      match zs, hzl with
      | [z0, z1, z2], _ =>
        have e0 : DataW.trod enc Try.prog w base (fun _ => true) held m 3 [c0] = some z0 := by simpa [Value.cells, k1] using hzg 0 _ rfl
        have e1 : DataW.trod enc Try.prog w base (fun _ => true) held m 3 [c1] = some z1 := by simpa [Value.cells, k1] using hzg 1 _ rfl
        have e2 : DataW.trod enc Try.prog w base (fun _ => true) held m 3 [c2] = some z2 := by simpa [Value.cells, k1] using hzg 2 _ rfl
        obtain ⟨a0, q0, -, w0⟩ := DataW.trod_int Try.underlying3 e0
        obtain ⟨a1, q1, -, w1⟩ := DataW.trod_int Try.underlying3 e1
        obtain ⟨a2, q2, -, w2⟩ := DataW.trod_int Try.underlying3 e2
        simp at q0 q1 q2
        subst q0 q1 q2
        obtain ⟨AT, cT, tiles, rfl, hT, wT⟩ := rd_tiles Try.underlying24 Try.underlying89 (by kernel_rfl) (by kernel_rfl) Try.underlying3 Try.underlying4 Try.underlying4 g1
        obtain ⟨AO, cO, on, rfl, hO⟩ := rd_bools Try.underlying25 Try.underlying4 (by kernel_rfl) g2
        obtain ⟨AI, cI, ins, rfl, hI, wI⟩ := rd_ints Try.underlying26 Try.underlying3 k1 g3
        obtain ⟨AU, cU, outs, rfl, hU, wU⟩ := rd_ints Try.underlying26 Try.underlying3 k1 g4
        exact ⟨{ W := a0, H := a1, T := a2, AT := AT, cT := cT, tiles := tiles, AO := AO, cO := cO, on := on, AI := AI, cI := cI, ins := ins, AU := AU, cU := cU, outs := outs }, rfl, ⟨hT, hO, hI, hU⟩, ⟨w0, w1, w2, wT, wI, wU⟩⟩
end Go.Proofs.Ytakccepilbmmlaa
