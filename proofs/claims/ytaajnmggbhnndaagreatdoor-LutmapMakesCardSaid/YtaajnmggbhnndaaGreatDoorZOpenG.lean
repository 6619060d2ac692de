/- Gates and numbers that are arguments: opened; the package's row of columns, as the row tells it; the frame of a card. -/
import Derived.Test.YtaajnmggbhnndaaGreatDoorZCTab
import Derived.Test.YtaajnmggbhnndaaGreatDoorZAig
import Derived.Test.YtaajnmggbhnndaaGreatDoorZFrame
import Derived.Deep.Slices
import Derived.Deep.Grids
import Derived.LaidMore
import Derived.Stop.Joined
import Derived.SevenTiedAt
import Derived.Test.YtaajnmggbhnndaaGreatDoorTie
import Derived.Test.YtaajnmggbhnndaaGreatDoorCards
namespace Go.Proofs.YtaajnmggbhnndaaGreatDoor
open Go.ChangeShapes Go.WideShapes Go.ChangeAt Go.RowKit Go.Joins Go.Deep
set_option linter.unusedVariables false
set_option linter.unusedSimpArgs false

section
variable {H : Type} {enc : TypeId × Value → H} {P : Program} {w : World} {base : Nat} {held : Bool}
theorem rd_ints {t e : TypeId} {fuel : Nat} {v : Value} {y : DataW H × List MemPlace} (ht : P.underlying t = some (.slice e)) (he : P.underlying e = some (.int .i64)) (hc : P.cellsOf e = 1)
    (h : DataW.trod enc P w base (fun _ => true) held fuel t [v] = some y) : ∃ A c l, v = .slice A l.length c ∧ Rd w 1 A l.length c (ints l) ∧ ∀ n ∈ l, (Lit.int .i64 n).wf = true := by
  rcases open_ints ht he hc h with ⟨h1, -⟩ | ⟨a, len, cap, zs, h1, hb, hl, hm, hz, -, hcell, hwf⟩
  · injection h1 with h1
    exact ⟨none, 0, [], h1, by simpa [ints] using Rd.empty, fun n hn => by cases hn⟩
  · injection h1 with h1
    simp only [if_true] at hz
    have hlen : (zs.take len).length = len := by rw [List.length_take]; omega
    refine ⟨some a, cap, zs.take len, by rw [hlen]; exact h1, ⟨by rw [ints_length, hlen]; omega, by omega, (fun h => by cases h), ?_⟩, fun n hn => hwf n (List.mem_of_mem_take hn)⟩
    intro j u hj
    have hjl : j < len := by have := (List.getElem?_eq_some_iff.1 hj).1; rw [ints_length, hlen] at this; exact this
    have hc := hcell j (by omega)
    refine ⟨a, rfl, ?_, ?_⟩
    · have := block_lt_of_cell hc; rwa [add_block] at this
    · rw [hc, ← hj]
      simp [ints, List.getD_eq_getElem?_getD, List.getElem?_take, hjl, List.getElem?_eq_getElem (show j < zs.length by omega)]
theorem rd_bools {t e : TypeId} {fuel : Nat} {v : Value} {y : DataW H × List MemPlace} (ht : P.underlying t = some (.slice e)) (he : P.underlying e = some .bool) (hc : P.cellsOf e = 1)
    (h : DataW.trod enc P w base (fun _ => true) held fuel t [v] = some y) : ∃ A c l, v = .slice A l.length c ∧ Rd w 1 A l.length c (bools l) := by
  rcases open_bools ht he hc h with ⟨h1, -⟩ | ⟨a, len, cap, B, h1, hb, hl, hm, -, hcell⟩
  · injection h1 with h1
    exact ⟨none, 0, [], h1, by simpa [bools] using Rd.empty⟩
  · injection h1 with h1
    refine ⟨some a, cap, (List.range len).map B, by simpa using h1, ⟨by simp [bools_length], by simp; omega, (fun h => by cases h), ?_⟩⟩
    intro j u hj
    have hjl : j < len := by have := (List.getElem?_eq_some_iff.1 hj).1; simpa [bools_length] using this
    have hc := hcell j (by omega)
    refine ⟨a, rfl, ?_, ?_⟩
    · have := block_lt_of_cell hc; rwa [add_block] at this
    · rw [hc, ← hj]
      simp [bools, hjl]
theorem two_len {α : Type} (f : α → Value × Value) (l : List α) : (l.flatMap fun a => [(f a).1, (f a).2]).length = l.length * 2 := by
  induction l with
  | nil => rfl
  | cons x l ih => simp only [List.flatMap_cons, List.length_append] at ih ⊢; simp only [List.length_cons, List.length_nil] at ih ⊢; omega
theorem two_get {α : Type} (f : α → Value × Value) : ∀ (l : List α) (k : Nat) (hk : k < l.length), (l.flatMap fun a => [(f a).1, (f a).2])[k * 2]? = some (f l[k]).1 ∧ (l.flatMap fun a => [(f a).1, (f a).2])[k * 2 + 1]? = some (f l[k]).2
  | x :: l, 0, _ => ⟨rfl, rfl⟩
  | x :: l, k + 1, hk => by
    have ih := two_get f l k (by simpa using hk)
    have e : ((x :: l).flatMap fun a => [(f a).1, (f a).2]) = [(f x).1, (f x).2] ++ l.flatMap fun a => [(f a).1, (f a).2] := rfl
    rw [e, List.getElem?_append_right (by simp; omega), List.getElem?_append_right (by simp; omega)]
    simp only [List.length_cons, List.length_nil, List.getElem_cons_succ]
    rw [show (k + 1) * 2 - (0 + 1 + 1) = k * 2 by omega, show (k + 1) * 2 + 1 - (0 + 1 + 1) = k * 2 + 1 by omega]
    exact ih
/-- a slice of elements of two cells -/
theorem rd_two {α : Type} [Inhabited α] (f : α → Value × Value) (Q : α → Prop) {t e : TypeId} {fuel : Nat} {v : Value} {y : DataW H × List MemPlace} (ht : P.underlying t = some (.slice e)) (hC : P.cellsOf e = 2)
    (hel : ∀ n cs y, cs.length = 2 → DataW.trod enc P w base (fun _ => true) held n e cs = some y → ∃ a, cs = [(f a).1, (f a).2] ∧ Q a)
    (h : DataW.trod enc P w base (fun _ => true) held fuel t [v] = some y) : ∃ (A : Option Addr) (c : Nat) (l : List α), v = .slice A l.length c ∧ Rd w 2 A l.length c (l.flatMap fun a => [(f a).1, (f a).2]) ∧ ∀ a ∈ l, Q a := by
  rcases open_slice ht h with ⟨g1, -⟩ | ⟨a, len, cap, m, n, D, Pl, g1, hb, hl, hm, hmm, -, hcell⟩
  · injection g1 with g1
    exact ⟨none, 0, [], g1, by simpa using Rd.empty, fun n hn => by cases hn⟩
  · injection g1 with g1
    simp only [if_true] at hmm
    subst hmm
    have key : ∀ i, i < m → ∃ t : α, w.cell? (a.add (i * 2)) = some (f t).1 ∧ w.cell? (a.add (i * 2 + 1)) = some (f t).2 ∧ Q t := by
      intro i hi
      obtain ⟨cs', hc, ht'⟩ := hcell i hi
      rw [hC] at hc
      obtain ⟨_, hcl, hat⟩ := World.cells?_some hc
      obtain ⟨t, hcs, hq⟩ := hel _ _ _ hcl ht'
      subst hcs
      refine ⟨t, ?_, ?_, hq⟩
      · have := hat 0 (by omega); rw [Go.Deep.add_add] at this; simpa using this
      · have := hat 1 (by omega); rw [Go.Deep.add_add] at this; simpa using this
    obtain ⟨F, hF⟩ : ∃ F : Nat → α, ∀ i, i < m → w.cell? (a.add (i * 2)) = some (f (F i)).1 ∧ w.cell? (a.add (i * 2 + 1)) = some (f (F i)).2 ∧ Q (F i) := by
      refine ⟨fun i => if h : i < m then Classical.choose (key i h) else default, fun i hi => ?_⟩
      simp only [dif_pos hi]
      exact Classical.choose_spec (key i hi)
    have hll : ((List.range len).map F).length = len := by simp
    refine ⟨some a, m, (List.range len).map F, by rw [hll]; exact g1, ⟨two_len f _, by omega, (fun h => by cases h), ?_⟩, fun t ht => ?_⟩
    · intro j u hj
      have hjl : j < len * 2 := by have := (List.getElem?_eq_some_iff.1 hj).1; rw [two_len, hll] at this; exact this
      obtain ⟨q, hq⟩ : ∃ q, j / 2 = q := ⟨_, rfl⟩
      obtain ⟨g0, g1', -⟩ := hF q (by omega)
      obtain ⟨t0, t1⟩ := two_get f ((List.range len).map F) q (by rw [hll]; omega)
      have hel : ((List.range len).map F)[q]'(by rw [hll]; omega) = F q := by simp
      rw [hel] at t0 t1
      refine ⟨a, rfl, ?_, ?_⟩
      · have := block_lt_of_cell g0; rwa [add_block] at this
      · rcases (show j = q * 2 ∨ j = q * 2 + 1 by omega) with rfl | rfl
        · rw [← hj, t0]; exact g0
        · rw [← hj, t1]; exact g1'
    · obtain ⟨i, hi, rfl⟩ := List.mem_map.1 ht
      exact (hF i (by have := List.mem_range.1 hi; omega)).2.2
end

theorem lit_i64 {n : Int} (h : (Lit.int .i64 n).wf = true) : -9223372036854775808 ≤ n ∧ n ≤ 9223372036854775807 := by
  have h1 : IntKind.i64.min = -9223372036854775808 := rfl
  have h2 : IntKind.i64.max = 9223372036854775807 := rfl
  simp [Lit.wf] at h
  omega
theorem lit_u64 {n : Int} (h : (Lit.int .u64 n).wf = true) : ∃ m : Nat, n = (m : Int) ∧ m < 18446744073709551616 := by
  have h1 : IntKind.u64.min = 0 := rfl
  have h2 : IntKind.u64.max = 18446744073709551615 := rfl
  simp [Lit.wf] at h
  exact ⟨n.toNat, by omega, by omega⟩
set_option maxRecDepth 100000 in
theorem open_list {H : Type} {enc : TypeId × Value → H} {w : World} {base b0 : Nat} {held : Bool} {r : Reach} {v : Value} {d : DataW H} {p : List MemPlace}
    (hv : Value.okWide Tryz.prog w r b0 24 v) (h : DataW.Trod enc Tryz.prog w base (fun _ => true) held 24 v d p) :
    ∃ A c l, v = .slice A (l : List Int).length c ∧ Rd w 1 A l.length c (ints l) ∧ ∀ x ∈ l, -9223372036854775808 ≤ x ∧ x ≤ 9223372036854775807 := by
  have he : Tryz.prog.cellsOf 3 = 1 := by kernel_rfl
  obtain ⟨a1, len, cap, rfl⟩ := okWide_slice Tryz.underlying24 hv
  obtain ⟨fuel, hf⟩ := h
  obtain ⟨A, c, l, h1, h2, h3⟩ := rd_ints Tryz.underlying24 Tryz.underlying3 he hf
  exact ⟨A, c, l, h1, h2, fun x hx => lit_i64 (h3 x hx)⟩
set_option maxRecDepth 100000 in
theorem open_bits {H : Type} {enc : TypeId × Value → H} {w : World} {base b0 : Nat} {held : Bool} {r : Reach} {v : Value} {d : DataW H} {p : List MemPlace}
    (hv : Value.okWide Tryz.prog w r b0 42 v) (h : DataW.Trod enc Tryz.prog w base (fun _ => true) held 42 v d p) :
    ∃ A c l, v = .slice A (l : List Bool).length c ∧ Rd w 1 A l.length c (bools l) := by
  have he : Tryz.prog.cellsOf 4 = 1 := by kernel_rfl
  obtain ⟨a1, len, cap, rfl⟩ := okWide_slice Tryz.underlying42 hv
  obtain ⟨fuel, hf⟩ := h
  exact rd_bools Tryz.underlying42 Tryz.underlying4 he hf
set_option maxRecDepth 100000 in
theorem open_aig {H : Type} {enc : TypeId × Value → H} {w : World} {base b0 : Nat} {held : Bool} {r : Reach} {v : Value} {d : DataW H} {p : List MemPlace}
    (hv : Value.okWide Tryz.prog w r b0 26 v) (h : DataW.Trod enc Tryz.prog w base (fun _ => true) held 26 v d p) :
    ∃ G : AG, v = .agg #[.int .i64 G.I, .slice G.AF G.fl.length G.cF, .slice G.AA G.an.length G.cA, .slice G.AO G.ou.length G.cO] ∧ G.In w ∧ G.wf := by
  obtain ⟨cs, rfl, hsz⟩ := okWide_struct Tryz.underlying26 hv
  obtain ⟨l⟩ := cs
  have kF : Tryz.prog.cellsOf 22 = 1 := by kernel_rfl
  have kA : Tryz.prog.cellsOf 23 = 1 := by kernel_rfl
  have kI : Tryz.prog.cellsOf 24 = 1 := by kernel_rfl
  have k1 : Tryz.prog.cellsOf 3 = 1 := by kernel_rfl
  have kb : Tryz.prog.cellsOf 4 = 1 := by kernel_rfl
  match l, hsz.trans (by kernel_rfl : Tryz.prog.cellsOf 26 = 4) with
  | [c0, c1, c2, c3], _ =>
    obtain ⟨fuel, hf⟩ := h
    obtain ⟨xs, n, _, hx, _, hlen, hg⟩ := DataW.trod_struct Tryz.underlying26 hf
    match xs, hlen with
    | [y0, y1, y2, y3], _ =>
      have g0 : DataW.trod enc Tryz.prog w base (fun _ => true) held n 3 [c0] = some y0 := by simpa [Value.cells, k1] using hg 0 _ rfl
      have g1 : DataW.trod enc Tryz.prog w base (fun _ => true) held n 22 [c1] = some y1 := by simpa [Value.cells, kF] using hg 1 _ rfl
      have g2 : DataW.trod enc Tryz.prog w base (fun _ => true) held n 23 [c2] = some y2 := by simpa [Value.cells, kA] using hg 2 _ rfl
      have g3 : DataW.trod enc Tryz.prog w base (fun _ => true) held n 24 [c3] = some y3 := by simpa [Value.cells, kI] using hg 3 _ rfl
      obtain ⟨a0, q0, -, w0⟩ := DataW.trod_int Tryz.underlying3 g0
      simp at q0
      subst q0
      obtain ⟨AF, cF, fl, rfl, hF, wF⟩ := rd_two (α := Int × Bool) (fun p => (.int .i64 p.1, .bool p.2)) (fun p => (Lit.int .i64 p.1).wf = true) Tryz.underlying22 (by kernel_rfl) (by
        intro n cs y hl2 hy
        obtain ⟨zs, m, _, hz, _, hzl, hzg⟩ := DataW.trod_struct Tryz.underlying62 hy
        match cs, hl2, zs, hzl with
        | [u0, u1], _, [z0, z1], _ =>
          have e0 : DataW.trod enc Tryz.prog w base (fun _ => true) held m 3 [u0] = some z0 := by simpa [Value.cells, k1] using hzg 0 _ rfl
          have e1 : DataW.trod enc Tryz.prog w base (fun _ => true) held m 4 [u1] = some z1 := by simpa [Value.cells, kb] using hzg 1 _ rfl
          obtain ⟨i0, r0, -, v0⟩ := DataW.trod_int Tryz.underlying3 e0
          obtain ⟨b1, r1, -⟩ := DataW.trod_bool Tryz.underlying4 e1
          simp at r0 r1
          subst r0 r1
          exact ⟨(i0, b1), rfl, v0⟩) g1
      obtain ⟨AA, cA, an, rfl, hA, wA⟩ := rd_two (α := Int × Int) (fun p => (.int .i64 p.1, .int .i64 p.2)) (fun p => (Lit.int .i64 p.1).wf = true ∧ (Lit.int .i64 p.2).wf = true) Tryz.underlying23 (by kernel_rfl) (by
        intro n cs y hl2 hy
        obtain ⟨zs, m, _, hz, _, hzl, hzg⟩ := DataW.trod_array Tryz.underlying38 hy
        rw [k1] at hzg
        match cs, hl2, zs, hzl with
        | [u0, u1], _, [z0, z1], _ =>
          have e0 : DataW.trod enc Tryz.prog w base (fun _ => true) held m 3 [u0] = some z0 := by simpa using hzg 0 (by omega)
          have e1 : DataW.trod enc Tryz.prog w base (fun _ => true) held m 3 [u1] = some z1 := by simpa using hzg 1 (by omega)
          obtain ⟨i0, r0, -, v0⟩ := DataW.trod_int Tryz.underlying3 e0
          obtain ⟨i1, r1, -, v1⟩ := DataW.trod_int Tryz.underlying3 e1
          simp at r0 r1
          subst r0 r1
          exact ⟨(i0, i1), rfl, v0, v1⟩) g2
      obtain ⟨AO, cO, ou, rfl, hO, wO⟩ := rd_ints Tryz.underlying24 Tryz.underlying3 k1 g3
      exact ⟨{ I := a0, AF := AF, cF := cF, fl := fl, AA := AA, cA := cA, an := an, AO := AO, cO := cO, ou := ou }, rfl, ⟨hF, hA, hO⟩,
        ⟨fun x hx => (lit_i64 (wF x hx)).2, fun x hx => ⟨(lit_i64 (wA x hx).1).2, (lit_i64 (wA x hx).2).2⟩, fun x hx => (lit_i64 (wO x hx)).2⟩⟩

/-! ### the package's row of columns -/
theorem own : ownKnob Tryz.prog.godebug = none := by kernel_rfl
theorem laidOut : laidOutB Tryz.prog = true := by kernel_rfl
def laidC : List (String × DataW Unit) := [("filigree/cuts.columns", Rows.laid_filigree_cuts_columns)]
theorem gCols : Tryz.prog.globalNamed "filigree/cuts.columns" = some 0 := by kernel_rfl
theorem tCols : (Tryz.prog.globals[0]?).map (·.type) = some 128 := by kernel_rfl
theorem door_met (os : Os) (args : Array Value) : laidMetH Tryz.prog laidC ((World.doorLaid Tryz.prog 400 os).forCall (fun _ _ => 0) ⟨#[], args, []⟩).memory :=
  laidMetH_of_parts3 (fuel := 8) (laidMet_of_run' 8 (by kernel_rfl) (by kernel_rfl)) (by kernel_rfl) (by kernel_rfl)
set_option maxRecDepth 100000 in
theorem cols_of_laid {W : World} (h : laidMetH Tryz.prog laidC W) : COLS W := by
  rw [MakeChecks.laidMetH_plain _ _ _ (by kernel_rfl)] at h
  obtain ⟨ps, ⟨g0, t0, cs0, f0, p0, q0, hg0, ht0, hv0, hd0, _, _⟩, _, _⟩ := h
  obtain rfl := Option.some.inj (gCols.symm.trans hg0)
  obtain rfl := Option.some.inj (tCols.symm.trans ht0)
  obtain ⟨xs, m1, rfl, hx1, hlen, hn, hel⟩ := DataW.trod_array Tryz.underlying128 hd0
  have c1 : Tryz.prog.cellsOf 39 = 1 := by kernel_rfl
  have c6 : Tryz.prog.cellsOf 128 = 6 := by kernel_rfl
  rw [c1] at hel
  rw [c6] at hlen
  simp only [Prod.mk.injEq, Rows.laid_filigree_cuts_columns, DataW.agg.injEq] at hx1
  obtain ⟨l0⟩ := cs0
  have key : ∀ i, i < 6 → W.cell? ⟨0, i, none⟩ = some (.int .u64 (Cut.col i : Int)) := by
    intro i hi
    have hw := World.var?_cell hg0 hv0 i
    match l0, hlen, xs, hn, hx1.1 with
    | [u0, u1, u2, u3, u4, u5], _, [x0, x1, x2, x3, x4, x5], _, hx =>
      simp only [List.map_cons, List.map_nil, List.cons.injEq, and_true] at hx
      obtain ⟨hx0, hx1, hx2, hx3, hx4, hx5⟩ := hx
      have hi' : i = 0 ∨ i = 1 ∨ i = 2 ∨ i = 3 ∨ i = 4 ∨ i = 5 := by omega
      rcases hi' with rfl | rfl | rfl | rfl | rfl | rfl
      all_goals first
        | (have h := hel 0 (by omega)
           obtain ⟨k, e1, e2, _⟩ := DataW.trod_int Tryz.underlying39 (show DataW.trod _ Tryz.prog W 0 _ false m1 39 [u0] = some x0 by simpa using h)
           rw [e2] at hx0
           simp at e1 hx0
           subst e1 hx0
           simpa [Cut.col] using hw)
        | (have h := hel 1 (by omega)
           obtain ⟨k, e1, e2, _⟩ := DataW.trod_int Tryz.underlying39 (show DataW.trod _ Tryz.prog W 0 _ false m1 39 [u1] = some x1 by simpa using h)
           rw [e2] at hx1
           simp at e1 hx1
           subst e1 hx1
           simpa [Cut.col] using hw)
        | (have h := hel 2 (by omega)
           obtain ⟨k, e1, e2, _⟩ := DataW.trod_int Tryz.underlying39 (show DataW.trod _ Tryz.prog W 0 _ false m1 39 [u2] = some x2 by simpa using h)
           rw [e2] at hx2
           simp at e1 hx2
           subst e1 hx2
           simpa [Cut.col] using hw)
        | (have h := hel 3 (by omega)
           obtain ⟨k, e1, e2, _⟩ := DataW.trod_int Tryz.underlying39 (show DataW.trod _ Tryz.prog W 0 _ false m1 39 [u3] = some x3 by simpa using h)
           rw [e2] at hx3
           simp at e1 hx3
           subst e1 hx3
           simpa [Cut.col] using hw)
        | (have h := hel 4 (by omega)
           obtain ⟨k, e1, e2, _⟩ := DataW.trod_int Tryz.underlying39 (show DataW.trod _ Tryz.prog W 0 _ false m1 39 [u4] = some x4 by simpa using h)
           rw [e2] at hx4
           simp at e1 hx4
           subst e1 hx4
           simpa [Cut.col] using hw)
        | (have h := hel 5 (by omega)
           obtain ⟨k, e1, e2, _⟩ := DataW.trod_int Tryz.underlying39 (show DataW.trod _ Tryz.prog W 0 _ false m1 39 [u5] = some x5 by simpa using h)
           rw [e2] at hx5
           simp at e1 hx5
           subst e1 hx5
           simpa [Cut.col] using hw)
  exact ⟨block_lt_of_cell (key 0 (by omega)), key⟩
end Go.Proofs.YtaajnmggbhnndaaGreatDoor
