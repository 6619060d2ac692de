/- Nets, and rows of bits, that are arguments: opened. -/
import Derived.Test.YtaajnmggbhnndaaGreatDoorZOpenG
import Derived.Test.YtaajnmggbhnndaaGreatDoorZLRun
namespace Go.Proofs.YtaajnmggbhnndaaGreatDoor
open Go.ChangeShapes Go.WideShapes Go.ChangeAt Go.RowKit Go.Joins Go.Deep
set_option linter.unusedVariables false
set_option linter.unusedSimpArgs false
set_option maxRecDepth 100000 in
theorem open_net {H : Type} {enc : TypeId × Value → H} {w : World} {base b0 : Nat} {held : Bool} {r : Reach} {v : Value} {d : DataW H} {p : List MemPlace}
    (hv : Value.okWide Tryz.prog w r b0 32 v) (h : DataW.Trod enc Tryz.prog w base (fun _ => true) held 32 v d p) :
    ∃ N : NT, v = .agg #[.int .i64 N.I, .slice N.AH N.hs.length N.cH, .slice N.AL N.ls.length N.cL, .slice N.AO N.ou.length N.cO] ∧ N.In w ∧ N.wf := by
  obtain ⟨cs, rfl, hsz⟩ := okWide_struct Tryz.underlying32 hv
  obtain ⟨l⟩ := cs
  have kF : Tryz.prog.cellsOf 29 = 1 := by kernel_rfl
  have kA : Tryz.prog.cellsOf 30 = 1 := by kernel_rfl
  have kI : Tryz.prog.cellsOf 24 = 1 := by kernel_rfl
  have k1 : Tryz.prog.cellsOf 3 = 1 := by kernel_rfl
  have kb : Tryz.prog.cellsOf 4 = 1 := by kernel_rfl
  have ku : Tryz.prog.cellsOf 39 = 1 := by kernel_rfl
  match l, hsz.trans (by kernel_rfl : Tryz.prog.cellsOf 32 = 4) with
  | [c0, c1, c2, c3], _ =>
    obtain ⟨fuel, hf⟩ := h
    obtain ⟨xs, n, _, hx, _, hlen, hg⟩ := DataW.trod_struct Tryz.underlying32 hf
    match xs, hlen with
    | [y0, y1, y2, y3], _ =>
      have g0 : DataW.trod enc Tryz.prog w base (fun _ => true) held n 3 [c0] = some y0 := by simpa [Value.cells, k1] using hg 0 _ rfl
      have g1 : DataW.trod enc Tryz.prog w base (fun _ => true) held n 29 [c1] = some y1 := by simpa [Value.cells, kF] using hg 1 _ rfl
      have g2 : DataW.trod enc Tryz.prog w base (fun _ => true) held n 30 [c2] = some y2 := by simpa [Value.cells, kA] using hg 2 _ rfl
      have g3 : DataW.trod enc Tryz.prog w base (fun _ => true) held n 24 [c3] = some y3 := by simpa [Value.cells, kI] using hg 3 _ rfl
      obtain ⟨a0, q0, -, w0⟩ := DataW.trod_int Tryz.underlying3 g0
      simp at q0
      subst q0
      obtain ⟨AF, cF, fl, rfl, hF, wF⟩ := rd_two (α := Int × Bool) (fun p => (.int .i64 p.1, .bool p.2)) (fun p => (Lit.int .i64 p.1).wf = true) Tryz.underlying29 (by kernel_rfl) (by
        intro n cs y hl2 hy
        obtain ⟨zs, m, _, hz, _, hzl, hzg⟩ := DataW.trod_struct Tryz.underlying71 hy
        match cs, hl2, zs, hzl with
        | [u0, u1], _, [z0, z1], _ =>
          have e0 : DataW.trod enc Tryz.prog w base (fun _ => true) held m 3 [u0] = some z0 := by simpa [Value.cells, k1] using hzg 0 _ rfl
          have e1 : DataW.trod enc Tryz.prog w base (fun _ => true) held m 4 [u1] = some z1 := by simpa [Value.cells, kb] using hzg 1 _ rfl
          obtain ⟨i0, r0, -, v0⟩ := DataW.trod_int Tryz.underlying3 e0
          obtain ⟨b1, r1, -⟩ := DataW.trod_bool Tryz.underlying4 e1
          simp at r0 r1
          subst r0 r1
          exact ⟨(i0, b1), rfl, v0⟩) g1
      obtain ⟨AA, cA, an, rfl, hA, wA⟩ := rd_two (α := CT) (fun c => (slv c.1, .int .u64 (c.2 : Int))) (fun c => SLIn w c.1 ∧ (∀ x ∈ c.1.2.2, inI x) ∧ c.2 < 18446744073709551616) Tryz.underlying30 (by kernel_rfl) (by
        intro n cs y hl2 hy
        obtain ⟨zs, m, _, hz, _, hzl, hzg⟩ := DataW.trod_struct Tryz.underlying41 hy
        match cs, hl2, zs, hzl with
        | [u0, u1], _, [z0, z1], _ =>
          have e0 : DataW.trod enc Tryz.prog w base (fun _ => true) held m 24 [u0] = some z0 := by simpa [Value.cells, kI] using hzg 0 _ rfl
          have e1 : DataW.trod enc Tryz.prog w base (fun _ => true) held m 39 [u1] = some z1 := by simpa [Value.cells, ku] using hzg 1 _ rfl
          obtain ⟨A0, n0, l0, rfl, hR, wR⟩ := rd_ints Tryz.underlying24 Tryz.underlying3 k1 e0
          obtain ⟨i1, r1, -, v1⟩ := DataW.trod_int Tryz.underlying39 e1
          simp at r1
          subst r1
          obtain ⟨m1, rfl, hm1⟩ := lit_u64 v1
          exact ⟨((A0, n0, l0), m1), rfl, hR, fun x hx => lit_i64 (wR x hx), hm1⟩) g2
      obtain ⟨AO, cO, ou, rfl, hO, wO⟩ := rd_ints Tryz.underlying24 Tryz.underlying3 k1 g3
      exact ⟨{ I := a0, AH := AF, cH := cF, hs := fl, AL := AA, cL := cA, ls := an, AO := AO, cO := cO, ou := ou }, rfl, ⟨hF, ⟨hA, fun c hc => (wA c hc).1⟩, hO⟩,
        ⟨lit_i64 w0, fun x hx => lit_i64 (wF x hx), fun c hc => (wA c hc).2, fun x hx => lit_i64 (wO x hx)⟩⟩
set_option maxRecDepth 100000 in
theorem open_rowsB {H : Type} {enc : TypeId × Value → H} {w : World} {base b0 : Nat} {held : Bool} {r : Reach} {v : Value} {d : DataW H} {p : List MemPlace}
    (hv : Value.okWide Tryz.prog w r b0 47 v) (h : DataW.Trod enc Tryz.prog w base (fun _ => true) held 47 v d p) :
    ∃ A c L, v = .slice A (L : List SB).length c ∧ RowsB w A c L := by
  have he : Tryz.prog.cellsOf 42 = 1 := by kernel_rfl
  have hq : Tryz.prog.cellsOf 4 = 1 := by kernel_rfl
  obtain ⟨a1, len, cap, rfl⟩ := okWide_slice Tryz.underlying47 hv
  obtain ⟨fuel, hf⟩ := h
  rcases open_bool_rows Tryz.underlying47 Tryz.underlying42 Tryz.underlying4 he hq hf with ⟨hcs, -⟩ | ⟨a, len', cap', A, L, C, B, hcs, hb, hl, hm, -, hcell⟩
  · simp [Value.cells] at hcs
    obtain ⟨rfl, rfl, rfl⟩ := hcs
    exact ⟨none, 0, [], rfl, rowsB_nil _⟩
  · simp [Value.cells] at hcs
    obtain ⟨rfl, rfl, rfl⟩ := hcs
    refine ⟨some a, cap, (List.range len).map (fun r => ((A r, C r, (List.range (L r)).map (B r)) : SB)), by simp, ⟨⟨by simp, by simpa using hl, (fun h => by cases h), ?_⟩, ?_⟩⟩
    · intro j u hj
      have hjl : j < len := by have := (List.getElem?_eq_some_iff.1 hj).1; simpa using this
      have hc := (hcell j (by omega)).1
      refine ⟨a, rfl, ?_, ?_⟩
      · have := block_lt_of_cell hc; rwa [add_block] at this
      · rw [hc, ← hj]
        simp [slvB, hjl]
    · intro b hb
      obtain ⟨r, hr, rfl⟩ := List.mem_map.1 hb
      have hrl := List.mem_range.1 hr
      obtain ⟨-, h1, h2, h3, h4⟩ := hcell r (by omega)
      refine ⟨by simp [bools_length], by simpa using h1, h3, ?_⟩
      intro j u hj
      have hjl : j < L r := by have := (List.getElem?_eq_some_iff.1 hj).1; simpa [bools_length] using this
      cases hA : A r with
      | none => have := h3 hA; omega
      | some a' =>
        have hc := (h4 a' hA).2 j (by omega)
        refine ⟨a', rfl, ?_, ?_⟩
        · have := block_lt_of_cell hc; rwa [add_block] at this
        · rw [hc, ← hj]
          simp [bools, hjl]
end Go.Proofs.YtaajnmggbhnndaaGreatDoor
