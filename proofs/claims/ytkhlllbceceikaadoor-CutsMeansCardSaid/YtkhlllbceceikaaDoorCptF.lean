/- slices.CompactFunc at ranked sets. -/
import Derived.Test.YtkhlllbceceikaaDoorCRk
import Derived.Test.YtkhlllbceceikaaDoorCpt
namespace Go.Proofs.YtkhlllbceceikaaDoor
open Go.RowKit
set_option linter.unusedVariables false
set_option linter.unusedSimpArgs false

/-- ranked sets: their ranks, and where the leaves lie -/
abbrev RK : Type := List Int × SL
def r8 (l : List Int) : List Int := (List.range 8).map fun i => l.getD i 0
def kof (x : RK) : List Int := r8 x.1
def encR (x : RK) : List Value := ints (r8 x.1) ++ [slv x.2]
theorem encR_len (x : RK) : (encR x).length = 9 := rfl
def rkC (L : List RK) : List Value := L.flatMap encR
theorem rkC_length (L : List RK) : (rkC L).length = L.length * 9 := by
  induction L with
  | nil => rfl
  | cons x L ih => simp only [rkC, List.flatMap_cons, List.length_append, encR_len, List.length_cons] at *; omega
theorem rkC_append (a b : List RK) : rkC (a ++ b) = rkC a ++ rkC b := by simp [rkC]
theorem rkC_get : ∀ (L : List RK) (k i : Nat) (hk : k < L.length), i < 9 → (rkC L)[k * 9 + i]? = (encR L[k])[i]?
  | x :: L, 0, i, _, hi => by
    rw [Nat.zero_mul, Nat.zero_add]
    simp only [rkC, List.flatMap_cons]
    rw [List.getElem?_append_left (by rw [encR_len]; exact hi)]
    rfl
  | x :: L, k + 1, i, hk, hi => by
    have ih := rkC_get L k i (by simpa using hk) hi
    have e : (k + 1) * 9 + i = 9 + (k * 9 + i) := by omega
    simp only [rkC, List.flatMap_cons] at *
    rw [e, List.getElem?_append_right (by rw [encR_len]; omega), encR_len, show 9 + (k * 9 + i) - 9 = k * 9 + i by omega, ih]
    rfl
theorem rkC_one (L : List RK) : ∀ u ∈ rkC L, u.oneCell' = true := by
  intro u hu
  obtain ⟨x, -, hx⟩ := List.mem_flatMap.1 hu
  rcases List.mem_append.1 hx with h | h
  · exact ints_one h
  · rw [List.mem_singleton] at h; subst h; rfl
theorem encR_one (x : RK) : ∀ u ∈ encR x, u.oneCell' = true := fun u hu => rkC_one [x] u (by simpa [rkC] using hu)
/-- the nine cells of one of them -/
structure Nine (w : World) (g o : Nat) (a0 a1 a2 a3 a4 a5 a6 a7 : Int) (l : Value) : Prop where
  c0 : w.cell? ⟨g, o, none⟩ = some (.int .i64 a0)
  c1 : w.cell? ⟨g, o + 1, none⟩ = some (.int .i64 a1)
  c2 : w.cell? ⟨g, o + 2, none⟩ = some (.int .i64 a2)
  c3 : w.cell? ⟨g, o + 3, none⟩ = some (.int .i64 a3)
  c4 : w.cell? ⟨g, o + 4, none⟩ = some (.int .i64 a4)
  c5 : w.cell? ⟨g, o + 5, none⟩ = some (.int .i64 a5)
  c6 : w.cell? ⟨g, o + 6, none⟩ = some (.int .i64 a6)
  c7 : w.cell? ⟨g, o + 7, none⟩ = some (.int .i64 a7)
  c8 : w.cell? ⟨g, o + 8, none⟩ = some l
theorem nine_of {w : World} {g o : Nat} {x : RK} (h : ∀ i, i < 9 → w.cell? ⟨g, o + i, none⟩ = (encR x)[i]?) : ∃ a0 a1 a2 a3 a4 a5 a6 a7, kof x = [a0, a1, a2, a3, a4, a5, a6, a7] ∧ Nine w g o a0 a1 a2 a3 a4 a5 a6 a7 (slv x.2) :=
  ⟨_, _, _, _, _, _, _, _, rfl, h 0 (by omega), h 1 (by omega), h 2 (by omega), h 3 (by omega), h 4 (by omega), h 5 (by omega), h 6 (by omega), h 7 (by omega), h 8 (by omega)⟩
theorem Nine.keep {w w' : World} {g o : Nat} {a0 a1 a2 a3 a4 a5 a6 a7 : Int} {l : Value} (h : Nine w g o a0 a1 a2 a3 a4 a5 a6 a7 l) (hg : g < w.heap.size) (hb : Below w.heap.size w w') : Nine w' g o a0 a1 a2 a3 a4 a5 a6 a7 l :=
  ⟨(hb.cell hg).trans h.c0, (hb.cell hg).trans h.c1, (hb.cell hg).trans h.c2, (hb.cell hg).trans h.c3, (hb.cell hg).trans h.c4, (hb.cell hg).trans h.c5, (hb.cell hg).trans h.c6, (hb.cell hg).trans h.c7, (hb.cell hg).trans h.c8⟩
theorem run_clear_rows (w : World) (t e ty : TypeId) (z : Value) (sz : Nat) (ht : Tryd.prog.underlying t = some (.slice e)) (hv : ∀ w, (zeroValue e).run Tryd.prog w = .ok z w) (hz : ∀ n, (Builtin.zeroCells z.cells n).size = n * sz) (h1 : ∀ n, ∀ v ∈ (Builtin.zeroCells z.cells n).toList, v.oneCell' = true) (b o n c : Nat) (hn : 0 < n)
    (hc : ∀ j, j < n * sz → (w.cell? ⟨b, o + j, none⟩).isSome = true) (hf : ∀ j, j < n * sz → w.frozen? ⟨b, o + j, none⟩ = false) :
    (Builtin.clear_ #[t] ty #[.slice (some ⟨b, o, none⟩) n c]).run Tryd.prog w = .ok (.tuple #[]) (w.setCells b o (Builtin.zeroCells z.cells n).toList) := by
  have hst := run_storeCells_cells (P := Tryd.prog) b o (Builtin.zeroCells z.cells n).toList 0 w (by simpa [hz] using hc) (by simpa [hz] using hf) (h1 n)
  simp only [Nat.add_zero] at hst
  obtain ⟨m, rfl⟩ : ∃ m, n = m + 1 := ⟨n - 1, by omega⟩
  simp [Builtin.clear_, run_underlying ht, hv, hst]
theorem zero_ranked (w : World) : (zeroValue 105).run Tryd.prog w = .ok (.agg #[.int .i64 0, .int .i64 0, .int .i64 0, .int .i64 0, .int .i64 0, .int .i64 0, .int .i64 0, .int .i64 0, .slice none 0 0]) w := by kernel_rfl
theorem zero9_size (n : Nat) : (Builtin.zeroCells (Value.agg #[.int .i64 0, .int .i64 0, .int .i64 0, .int .i64 0, .int .i64 0, .int .i64 0, .int .i64 0, .int .i64 0, .slice none 0 0]).cells n).size = n * 9 := by
  simp [Builtin.zeroCells, Value.cells]
theorem zero9_one (n : Nat) : ∀ v ∈ (Builtin.zeroCells (Value.agg #[.int .i64 0, .int .i64 0, .int .i64 0, .int .i64 0, .int .i64 0, .int .i64 0, .int .i64 0, .int .i64 0, .slice none 0 0]).cells n).toList, v.oneCell' = true := by
  intro v hv
  obtain ⟨i, hi, rfl⟩ : ∃ i : Nat, True ∧ (#[Value.int .i64 0, .int .i64 0, .int .i64 0, .int .i64 0, .int .i64 0, .int .i64 0, .int .i64 0, .int .i64 0, .slice none 0 0] : Array Value)[i % 9]! = v := by
    simp [Builtin.zeroCells, Value.cells] at hv
    obtain ⟨i, -, h⟩ := hv
    exact ⟨i, trivial, by rw [← h]; simp⟩
  have hd : ∀ j, j < 9 → ((#[Value.int .i64 0, .int .i64 0, .int .i64 0, .int .i64 0, .int .i64 0, .int .i64 0, .int .i64 0, .int .i64 0, .slice none 0 0] : Array Value)[j]!).oneCell' = true := by decide
  exact hd _ (Nat.mod_lt _ (by omega))
instance : Inhabited RK := ⟨([], (none, 0, []))⟩
theorem chg_below {w w' : World} (h : Below w.heap.size w w') (X : Nat → Prop) : Chg w w' X := ⟨h.os, h.tape, h.output, h.size, fun k hk _ => h.block k hk⟩
theorem chg_on {a w w' : World} {X : Nat → Prop} (h : Chg a w X) (k : Below w.heap.size w w') : Chg a w' X := (h.trans (chg_below k X)).wide (fun i hi => by rcases hi with h | h <;> exact h)
theorem chg_two {a w w' : World} {X : Nat → Prop} (h : Chg a w X) (k : Chg w w' X) : Chg a w' X := (h.trans k).wide (fun i hi => by rcases hi with h | h <;> exact h)
def CptROut (base : Nat) (A : Option Addr) (c : Nat) (L : List RK) (w : World) (r : Ending) (w' : World) : Prop :=
  r = .returned (.slice A (cpt kof L).length c) ∧ w'.ownsRow base 105 9 (.slice A (cpt kof L).length c) (cpt kof L).length (rkC (cpt kof L)) ∧ Chg w w' (fun k => some k = blkOf A)
theorem cptR_same {L : List RK} (h : ∀ j, 0 < j → j < L.length → kof (L.getD j default) ≠ kof (L.getD (j - 1) default)) : cpt kof L = L := by
  unfold cpt
  rw [cptTo_all (f := kof) (L := L) L.length (Nat.le_refl _) h, List.take_length]
theorem rk_getD {L : List RK} {k : Nat} (h : k < L.length) : L.getD k default = L[k] := by
  rw [List.getD_eq_getElem?_getD, List.getElem?_eq_getElem h]; rfl
set_option maxRecDepth 100000 in
set_option maxHeartbeats 8000000 in
theorem compactF_any (w : World) (base : Nat) (A : Option Addr) (n c : Nat) (L : List RK) (ho : w.ownsRow base 105 9 (.slice A n c) n (rkC L)) (hb : base ≤ w.heap.size) (hn : n ≤ 1000000) :
    Calls Tryd.prog 81 #[.slice A n c, .func (.func 82) #[] #[]] w (CptROut base A c L w) := by
  have hl : L.length = n := by have := ho.1; rw [rkC_length] at this; omega
  have HO := Lib.hid ho
  have HL := Lib.hid hl
  have hsame : (∀ j, 0 < j → j < n → kof (L.getD j default) ≠ kof (L.getD (j - 1) default)) → ∀ w', Below w.heap.size w w' → CptROut base A c L w (.returned (.slice A n c)) w' := fun h w' hw => by
    unfold CptROut
    rw [cptR_same (by rw [hl]; exact h), hl]
    exact ⟨rfl, own_keep ho hw, chg_below hw _⟩
  have HS := Lib.hid hsame
  have hrd := Rd.of_own ho
  have HR := Lib.hid hrd
  have hnc := hrd.cap
  by_cases h2 : n < 2
  · have h2' : (n : Int) < 2 := by omega
    clear ho hsame hrd hl
    go_enter Tryd.func81, Tryd.ntmps81
    go_wp2_with fail
    go_ret
    exact HS.out (fun j h1 h2 => by omega) _ (Below.refl _ _)
  obtain ⟨g, hA, hgb, hgl⟩ := own_some ho (by omega)
  subst hA
  obtain ⟨O, hO, hOt, hcs, hcm⟩ : ∃ O : List Value, Blk w g 105 O.toArray ∧ O.take (n * 9) = rkC L ∧ O.length = c * 9 ∧ c ≤ maxLen := by
    rcases ho.2 with ⟨hv, hz⟩ | ⟨g', cap, cur, hv, hg', hh, h1, h2, h3, h4⟩
    · omega
    · injection hv with e1 e2 e3
      injection e1 with e1
      injection e1 with e1
      subst e1 e3
      refine ⟨cur.toList, ?_, by simpa using h4, by simpa using h3, h2⟩
      simpa using (show Blk w g 105 cur from hh)
  have HOB := Lib.hid hO
  have HOT := Lib.hid hOt
  have hg63 : c ≤ 9223372036854775807 := by unfold maxLen at hcm; omega
  have HCM := Lib.hid hcm
  have h2' : ¬ (n : Int) < 2 := by omega
  have hOget : ∀ j (hj : j < n) i, i < 9 → O[j * 9 + i]? = (encR (L.getD j default))[i]? := fun j hj i hi => by
    have h := congrArg (fun l : List Value => l[j * 9 + i]?) hOt
    simp only [List.getElem?_take_of_lt (show j * 9 + i < n * 9 by omega)] at h
    rw [h, rkC_get L j i (by omega) hi, rk_getD (by omega)]
  have HG := Lib.hid hOget
  have HEQ := Lib.hid (fun (a0 a1 a2 a3 a4 a5 a6 a7 b0 b1 b2 b3 b4 b5 b6 b7 : Int) (x y : Value) (W : World) => sets2_any a0 a1 a2 a3 a4 a5 a6 a7 b0 b1 b2 b3 b4 b5 b6 b7 x y W)
  clear ho hsame hrd hl hO hOt hcm hOget
  go_enter Tryd.func81, Tryd.ntmps81
  go_wp2_with fail
  go_loopw [5] (fun i wx => ∃ k : Nat, 1 ≤ k ∧ k ≤ n ∧ i = .int .i64 (k : Int) ∧ (∀ j, 0 < j → j < k → kof (L.getD j default) ≠ kof (L.getD (j - 1) default)) ∧ Below w.heap.size w wx) (fun i _ => n - (intOf i).toNat)
  case atStart => exact ⟨1, by omega, by omega, rfl, fun j h1 h2 => absurd h2 (by omega), Below.refl _ _⟩
  case round =>
    obtain ⟨k, hk1, hk, rfl, hdis, hB⟩ := hrel
    have B1 := Lib.hid hB
    have HD := Lib.hid hdis
    clear hB hdis
    by_cases hlt : k < n
    case neg =>
      obtain rfl : k = n := by omega
      go_wp2_with fail
      go_ret
      exact HS.out HD.out _ B1.out
    have hlt' : (k : Int) < (n : Int) := by omega
    obtain ⟨k0, hk0⟩ : ∃ q, k - 1 = q := ⟨_, rfl⟩
    have hk0' : (k : Int) - 1 = (k0 : Int) := by omega
    have hkw : IntKind.i64.wrap (k0 : Int) = (k0 : Int) := IntWalk.i64_in _ (by omega)
    have hk0n : (k0 : Int) < (n : Int) := by omega
    obtain ⟨a0, a1, a2, a3, a4, a5, a6, a7, hka, ⟨c0, c1, c2, c3, c4, c5, c6, c7, c8⟩⟩ := nine_of (w := wr) (g := g) (o := k * 9) (x := L.getD k default) (fun i hi => (B1.out.cell hgl).trans ((HOB.out.cell _).trans (by simpa using HG.out k hlt i hi)))
    obtain ⟨b0, b1, b2, b3, b4, b5, b6, b7, hkb, ⟨d0, d1, d2, d3, d4, d5, d6, d7, d8⟩⟩ := nine_of (w := wr) (g := g) (o := k0 * 9) (x := L.getD k0 default) (fun i hi => (B1.out.cell hgl).trans ((HOB.out.cell _).trans (by simpa using HG.out k0 (by omega) i hi)))
    have HCE := Lib.hid (fun (W : World) => HEQ.out a0 a1 a2 a3 a4 a5 a6 a7 b0 b1 b2 b3 b4 b5 b6 b7 (slv (L.getD k default).2) (slv (L.getD k0 default).2) W)
    have HE2 := Lib.hid (show [a0, a1, a2, a3, a4, a5, a6, a7] = [b0, b1, b2, b3, b4, b5, b6, b7] → kof (L.getD k default) = kof (L.getD (k - 1) default) by rw [hk0, hka, hkb]; exact id)
    have HNE := Lib.hid (show [a0, a1, a2, a3, a4, a5, a6, a7] ≠ [b0, b1, b2, b3, b4, b5, b6, b7] → ∀ j, 0 < j → j < k + 1 → kof (L.getD j default) ≠ kof (L.getD (j - 1) default) from fun h j h1 h2 => by
      rcases Nat.lt_or_ge j k with h3 | h3
      · exact HD.out j h1 h3
      · obtain rfl : j = k := by omega
        rw [hk0, hka, hkb]; exact h)
    obtain ⟨r, hr⟩ : ∃ r, decide ([a0, a1, a2, a3, a4, a5, a6, a7] = [b0, b1, b2, b3, b4, b5, b6, b7]) = r := ⟨_, rfl⟩
    rw [hr] at HCE
    have HRR := Lib.hid hr
    clear hr hka hkb
    generalize slv (L.getD k default).2 = sx at c8 HCE
    generalize slv (L.getD k0 default).2 = sy at d8 HCE
    cases r with
    | false =>
      have HNX := Lib.hid (HNE.out (of_decide_eq_false HRR.out))
      clear HNE HE2 HRR
      go_wp2_with fail
      refine wp_region_still_in (by kernel_rfl) (by kernel_rfl) fun St9 ne9 V9 hV9 hS9 => ?_
      have qc0 := still_cell hV9 c0
      have qc1 := still_cell hV9 c1
      have qc2 := still_cell hV9 c2
      have qc3 := still_cell hV9 c3
      have qc4 := still_cell hV9 c4
      have qc5 := still_cell hV9 c5
      have qc6 := still_cell hV9 c6
      have qc7 := still_cell hV9 c7
      have qc8 := still_cell hV9 c8
      have qd0 := still_cell hV9 d0
      have qd1 := still_cell hV9 d1
      have qd2 := still_cell hV9 d2
      have qd3 := still_cell hV9 d3
      have qd4 := still_cell hV9 d4
      have qd5 := still_cell hV9 d5
      have qd6 := still_cell hV9 d6
      have qd7 := still_cell hV9 d7
      have qd8 := still_cell hV9 d8
      repeat (first | go_big_quiet_step ((go_at_call 82; exact Calls.still hV9 hS9 (HCE.out _))) | quiet_step ((go_at_call 82; exact Calls.still hV9 hS9 (HCE.out _))))
      refine wpQuiet_nil ?_
      intro _ hw9
      obtain ⟨s9, rfl⟩ := hw9
      have hb9 := hV9 s9
      clear qc0 qc1 qc2 qc3 qc4 qc5 qc6 qc7 qc8 qd0 qd1 qd2 qd3 qd4 qd5 qd6 qd7 qd8 hS9
      generalize V9 s9 = w9 at hb9 ⊢
      clear hV9 s9 V9 ne9 St9
      have B9 := Lib.hid (below_then B1.out hb9)
      clear hb9 c0 c1 c2 c3 c4 c5 c6 c7 c8 d0 d1 d2 d3 d4 d5 d6 d7 d8
      go_wp2_with fail
      go_roundw
      case rel => exact ⟨k + 1, by omega, by omega, by go_num, HNX.out, B9.out⟩
      case measure => simp [intOf]; omega
    | true =>
    have HQ := Lib.hid (HE2.out (of_decide_eq_true HRR.out))
    clear HNE HE2 HRR
    go_wp2_with fail
    refine wp_region_still_in (by kernel_rfl) (by kernel_rfl) fun St9 ne9 V9 hV9 hS9 => ?_
    have qc0 := still_cell hV9 c0
    have qc1 := still_cell hV9 c1
    have qc2 := still_cell hV9 c2
    have qc3 := still_cell hV9 c3
    have qc4 := still_cell hV9 c4
    have qc5 := still_cell hV9 c5
    have qc6 := still_cell hV9 c6
    have qc7 := still_cell hV9 c7
    have qc8 := still_cell hV9 c8
    have qd0 := still_cell hV9 d0
    have qd1 := still_cell hV9 d1
    have qd2 := still_cell hV9 d2
    have qd3 := still_cell hV9 d3
    have qd4 := still_cell hV9 d4
    have qd5 := still_cell hV9 d5
    have qd6 := still_cell hV9 d6
    have qd7 := still_cell hV9 d7
    have qd8 := still_cell hV9 d8
    repeat (first | go_big_quiet_step ((go_at_call 82; exact Calls.still hV9 hS9 (HCE.out _))) | quiet_step ((go_at_call 82; exact Calls.still hV9 hS9 (HCE.out _))))
    refine wpQuiet_nil ?_
    intro _ hw9
    obtain ⟨s9, rfl⟩ := hw9
    have hb9 := hV9 s9
    clear qc0 qc1 qc2 qc3 qc4 qc5 qc6 qc7 qc8 qd0 qd1 qd2 qd3 qd4 qd5 qd6 qd7 qd8 hS9
    generalize V9 s9 = w9 at hb9 ⊢
    clear hV9 s9 V9 ne9 St9
    have B9 := Lib.hid (below_then B1.out hb9)
    clear hb9 c0 c1 c2 c3 c4 c5 c6 c7 c8 d0 d1 d2 d3 d4 d5 d6 d7 d8 HCE
    go_wp2_with fail
    have hpre : cptTo kof L (k + 1) = L.take k := by
      rw [cptTo_old (f := kof) (by omega) HQ.out, cptTo_all (f := kof) k (by rw [HL.out]; omega) (fun j h1 h2 => HD.out j h1 h2)]
    have hst : CptM w9 g 105 O 9 (rkC (cptTo kof L (k + 1))) (k + 1) := by
      refine CptM.start (HOB.out.keep B9.out) ?_
      rw [hpre, rkC_length, List.length_take, Nat.min_eq_left (by rw [HL.out]; omega)]
      have h := congrArg (List.take (k * 9)) HOT.out
      rw [List.take_take, Nat.min_eq_left (by omega)] at h
      rw [h]
      have e : rkC L = rkC (L.take k) ++ rkC (L.drop k) := by rw [← rkC_append, List.take_append_drop]
      rw [e, List.take_append_of_le_length (by rw [rkC_length, List.length_take, HL.out]; omega), List.take_of_length_le (by rw [rkC_length, List.length_take, HL.out]; omega)]
    have hq0 : (cptTo kof L (k + 1)).length = k := by rw [hpre, List.length_take, HL.out, Nat.min_eq_left (by omega)]
    have HST := Lib.hid hst
    have HQ0 := Lib.hid hq0
    clear hpre hst hq0 hk0 hk0' hkw hk0n
    go_loopw [5, 7] (fun v3 v5 wx => ∃ (q e : Nat), 1 ≤ e ∧ k + e ≤ n ∧ q + 1 ≤ k + e ∧ v3 = .int .i64 (q : Int) ∧ v5 = .int .i64 (e : Int) ∧ (cptTo kof L (k + e)).length = q ∧ CptM wx g 105 O 9 (rkC (cptTo kof L (k + e))) (k + e) ∧ Chg w wx (fun j => some j = some g)) (fun _ v5 _ => n - k - (intOf v5).toNat)
    case atStart => exact ⟨k, 1, by omega, by omega, by omega, rfl, rfl, HQ0.out, HST.out, chg_below B9.out _⟩
    case round =>
      obtain ⟨q, e, he1, hen, hqe, rfl, rfl, hql, hM, hBB⟩ := hrel
      have M3 := Lib.hid hM
      have B3 := Lib.hid hBB
      have HQL := Lib.hid hql
      clear hM hBB hql HST HQ0
      by_cases hend : k + e < n
      case neg =>
        have he2 : k + e = n := by omega
        have hlt3 : ¬ (e : Int) < ((n - k : Nat) : Int) := by omega
        have hsub : ((n - k : Nat) : Int) = (e : Int) := by omega
        have hfin : cpt kof L = cptTo kof L (k + e) := by unfold cpt; rw [HL.out, he2]
        have HF := Lib.hid hfin
        have hcl : ∀ ty, (Builtin.clear_ #[100] ty #[.slice (some ⟨g, q * 9, none⟩) (n - q) (c - q)]).run Tryd.prog wr = .ok (.tuple #[]) (wr.setCells g (q * 9) (Builtin.zeroCells (Value.agg #[.int .i64 0, .int .i64 0, .int .i64 0, .int .i64 0, .int .i64 0, .int .i64 0, .int .i64 0, .int .i64 0, .slice none 0 0]).cells (n - q)).toList) := fun ty => by
          refine run_clear_rows wr 100 105 ty _ 9 Tryd.underlying100 zero_ranked zero9_size zero9_one g (q * 9) (n - q) (c - q) (by omega) (fun j hj => ?_) (fun j hj => ?_)
          · obtain ⟨v, h1, -⟩ := M3.out.there (i := q * 9 + j) (by omega)
            rw [h1]; rfl
          · obtain ⟨v, -, h1⟩ := M3.out.there (i := q * 9 + j) (by omega)
            exact h1
        have HOWN := Lib.hid (M3.out.own (k := q) (c := c) (base := base) (Builtin.zeroCells (Value.agg #[.int .i64 0, .int .i64 0, .int .i64 0, .int .i64 0, .int .i64 0, .int .i64 0, .int .i64 0, .int .i64 0, .slice none 0 0]).cells (n - q)).toList (by rw [rkC_length, HQL.out]) (by rw [Array.length_toList, zero9_size]; omega) hcs (by omega) HCM.out hgb)
        have hqn : (q : Int) ≤ (n : Int) := by omega
        have hqc : (q : Int) ≤ (c : Int) := by omega
        clear hfin
        generalize (Builtin.zeroCells (Value.agg #[.int .i64 0, .int .i64 0, .int .i64 0, .int .i64 0, .int .i64 0, .int .i64 0, .int .i64 0, .int .i64 0, .slice none 0 0]).cells (n - q)).toList = zs at hcl HOWN
        go_wp2_with (simp only [hcl])
        go_ret
        unfold CptROut
        rw [HF.out, HQL.out]
        exact ⟨rfl, HOWN.out, (chg_two B3.out ((Chg.setCells g _ _ _).wide (Y := fun j => some j = some g) (fun j hj => by rw [hj]))).wide (fun j hj => hj)⟩
      have hlt3 : (e : Int) < ((n - k : Nat) : Int) := by omega
      obtain ⟨e0, he0⟩ : ∃ q, e - 1 = q := ⟨_, rfl⟩
      have he0' : (e : Int) - 1 = (e0 : Int) := by omega
      have hew : IntKind.i64.wrap (e0 : Int) = (e0 : Int) := IntWalk.i64_in _ (by omega)
      have he0n : (e0 : Int) < ((n - k : Nat) : Int) := by omega
      have hke0 : k + e - 1 = k + e0 := by omega
      obtain ⟨a0, a1, a2, a3, a4, a5, a6, a7, hka, hNA⟩ := nine_of (w := wr) (g := g) (o := k * 9 + e * 9) (x := L.getD (k + e) default) (fun i hi => (M3.out.cell (i := k * 9 + e * 9 + i) (by omega)).trans (by rw [← HG.out (k + e) hend i hi, Nat.add_mul]))
      obtain ⟨b0, b1, b2, b3, b4, b5, b6, b7, hkb, hNB⟩ := nine_of (w := wr) (g := g) (o := k * 9 + e0 * 9) (x := L.getD (k + e0) default) (fun i hi => (M3.out.cell (i := k * 9 + e0 * 9 + i) (by omega)).trans (by rw [← HG.out (k + e0) (by omega) i hi, Nat.add_mul]))
      have HNA := Lib.hid hNA
      obtain ⟨c0, c1, c2, c3, c4, c5, c6, c7, c8⟩ := hNA
      obtain ⟨d0, d1, d2, d3, d4, d5, d6, d7, d8⟩ := hNB
      have HCE := Lib.hid (fun (W : World) => HEQ.out a0 a1 a2 a3 a4 a5 a6 a7 b0 b1 b2 b3 b4 b5 b6 b7 (slv (L.getD (k + e) default).2) (slv (L.getD (k + e0) default).2) W)
      have HSM1 := Lib.hid (show [a0, a1, a2, a3, a4, a5, a6, a7] = [b0, b1, b2, b3, b4, b5, b6, b7] → cptTo kof L (k + (e + 1)) = cptTo kof L (k + e) from fun h => cptTo_old (f := kof) (m := k + e) (by omega) (by rw [hke0, hka, hkb]; exact h))
      have HSM2 := Lib.hid (show [a0, a1, a2, a3, a4, a5, a6, a7] ≠ [b0, b1, b2, b3, b4, b5, b6, b7] → cptTo kof L (k + (e + 1)) = cptTo kof L (k + e) ++ [L.getD (k + e) default] from fun h => cptTo_new (f := kof) (m := k + e) (.inr (by rw [hke0, hka, hkb]; exact h)))
      have HENC := Lib.hid (show rkC [L.getD (k + e) default] = [.int .i64 a0, .int .i64 a1, .int .i64 a2, .int .i64 a3, .int .i64 a4, .int .i64 a5, .int .i64 a6, .int .i64 a7, slv (L.getD (k + e) default).2] from by
        have h := congrArg ints hka
        simp only [rkC, List.flatMap_cons, List.flatMap_nil, List.append_nil, encR]
        rw [show ints (r8 (L.getD (k + e) default).1) = ints [a0, a1, a2, a3, a4, a5, a6, a7] from h]; rfl)
      obtain ⟨r, hr⟩ : ∃ r, decide ([a0, a1, a2, a3, a4, a5, a6, a7] = [b0, b1, b2, b3, b4, b5, b6, b7]) = r := ⟨_, rfl⟩
      rw [hr] at HCE
      have HRR := Lib.hid hr
      clear hr hka hkb
      generalize slv (L.getD (k + e) default).2 = sx at c8 HCE HENC HNA
      generalize slv (L.getD (k + e0) default).2 = sy at d8 HCE
      cases r with
      | true =>
        have HSM := Lib.hid (HSM1.out (of_decide_eq_true HRR.out))
        clear HSM1 HSM2 HENC HNA HRR
        go_wp2_with fail
        refine wp_region_still_in (by kernel_rfl) (by kernel_rfl) fun St8 ne8 V8 hV8 hS8 => ?_
        have qc0 := still_cell hV8 c0
        have qc1 := still_cell hV8 c1
        have qc2 := still_cell hV8 c2
        have qc3 := still_cell hV8 c3
        have qc4 := still_cell hV8 c4
        have qc5 := still_cell hV8 c5
        have qc6 := still_cell hV8 c6
        have qc7 := still_cell hV8 c7
        have qc8 := still_cell hV8 c8
        have qd0 := still_cell hV8 d0
        have qd1 := still_cell hV8 d1
        have qd2 := still_cell hV8 d2
        have qd3 := still_cell hV8 d3
        have qd4 := still_cell hV8 d4
        have qd5 := still_cell hV8 d5
        have qd6 := still_cell hV8 d6
        have qd7 := still_cell hV8 d7
        have qd8 := still_cell hV8 d8
        repeat (first | go_big_quiet_step ((go_at_call 82; exact Calls.still hV8 hS8 (HCE.out _))) | quiet_step ((go_at_call 82; exact Calls.still hV8 hS8 (HCE.out _))))
        refine wpQuiet_nil ?_
        intro _ hw8
        obtain ⟨s8, rfl⟩ := hw8
        have hb8 := hV8 s8
        clear qc0 qc1 qc2 qc3 qc4 qc5 qc6 qc7 qc8 qd0 qd1 qd2 qd3 qd4 qd5 qd6 qd7 qd8 hS8
        generalize V8 s8 = w8 at hb8 ⊢
        clear hV8 s8 V8 ne8 St8
        have BB8 := Lib.hid ((chg_on B3.out hb8))
        have M8 := Lib.hid ((M3.out.keep hb8).more (show k + e ≤ k + (e + 1) by omega))
        clear hb8 c0 c1 c2 c3 c4 c5 c6 c7 c8 d0 d1 d2 d3 d4 d5 d6 d7 d8
        go_wp2_with fail
        go_roundw
        case rel => exact ⟨q, e + 1, by omega, by omega, by omega, rfl, by go_num, by rw [HSM.out]; exact HQL.out, by rw [HSM.out]; exact M8.out, BB8.out⟩
        case measure => simp [intOf]; omega
      | false =>
        have HSM := Lib.hid (HSM2.out (of_decide_eq_false HRR.out))
        clear HSM1 HSM2 HRR
        go_wp2_with fail
        refine wp_region_still_in (by kernel_rfl) (by kernel_rfl) fun St8 ne8 V8 hV8 hS8 => ?_
        have qc0 := still_cell hV8 c0
        have qc1 := still_cell hV8 c1
        have qc2 := still_cell hV8 c2
        have qc3 := still_cell hV8 c3
        have qc4 := still_cell hV8 c4
        have qc5 := still_cell hV8 c5
        have qc6 := still_cell hV8 c6
        have qc7 := still_cell hV8 c7
        have qc8 := still_cell hV8 c8
        have qd0 := still_cell hV8 d0
        have qd1 := still_cell hV8 d1
        have qd2 := still_cell hV8 d2
        have qd3 := still_cell hV8 d3
        have qd4 := still_cell hV8 d4
        have qd5 := still_cell hV8 d5
        have qd6 := still_cell hV8 d6
        have qd7 := still_cell hV8 d7
        have qd8 := still_cell hV8 d8
        repeat (first | go_big_quiet_step ((go_at_call 82; exact Calls.still hV8 hS8 (HCE.out _))) | quiet_step ((go_at_call 82; exact Calls.still hV8 hS8 (HCE.out _))))
        refine wpQuiet_nil ?_
        intro _ hw8
        obtain ⟨s8, rfl⟩ := hw8
        have hb8 := hV8 s8
        clear qc0 qc1 qc2 qc3 qc4 qc5 qc6 qc7 qc8 qd0 qd1 qd2 qd3 qd4 qd5 qd6 qd7 qd8 hS8
        generalize V8 s8 = w8 at hb8 ⊢
        clear hV8 s8 V8 ne8 St8
        clear c0 c1 c2 c3 c4 c5 c6 c7 c8 d0 d1 d2 d3 d4 d5 d6 d7 d8
        obtain ⟨c0, c1, c2, c3, c4, c5, c6, c7, c8⟩ := HNA.out.keep M3.out.lt hb8
        have BB8 := Lib.hid ((chg_on B3.out hb8))
        have M8 := Lib.hid (M3.out.keep hb8)
        have hth : w8.there g (q * 9) 9 := fun j hj => by
          obtain ⟨v, h1, h2⟩ := M8.out.there (i := q * 9 + j) (by omega)
          exact ⟨by rw [h1]; rfl, h2⟩
        have HTH := Lib.hid hth
        have M9 := M8.out.put [.int .i64 a0, .int .i64 a1, .int .i64 a2, .int .i64 a3, .int .i64 a4, .int .i64 a5, .int .i64 a6, .int .i64 a7, sx] rfl (by rw [rkC_length, HQL.out]; omega) (by omega)
        have e9 : rkC (cptTo kof L (k + e)) ++ [.int .i64 a0, .int .i64 a1, .int .i64 a2, .int .i64 a3, .int .i64 a4, .int .i64 a5, .int .i64 a6, .int .i64 a7, sx] = rkC (cptTo kof L (k + (e + 1))) := by rw [HSM.out, rkC_append, HENC.out]
        rw [rkC_length, HQL.out, e9] at M9
        have M9' := Lib.hid (show CptM (w8.setCells g (q * 9) [.int .i64 a0, .int .i64 a1, .int .i64 a2, .int .i64 a3, .int .i64 a4, .int .i64 a5, .int .i64 a6, .int .i64 a7, sx]) g 105 O 9 (rkC (cptTo kof L (k + (e + 1)))) (k + (e + 1)) from M9)
        have B9' := Lib.hid (chg_two BB8.out ((Chg.setCells g [.int .i64 a0, .int .i64 a1, .int .i64 a2, .int .i64 a3, .int .i64 a4, .int .i64 a5, .int .i64 a6, .int .i64 a7, sx] (q * 9) w8).wide (Y := fun j => some j = some g) (fun j hj => by rw [hj])))
        have hqn : (q : Int) < (n : Int) := by omega
        clear hb8 M9 e9 hth
        have hall : (#[Value.int .i64 a0, .int .i64 a1, .int .i64 a2, .int .i64 a3, .int .i64 a4, .int .i64 a5, .int .i64 a6, .int .i64 a7, sx] : Array Value).all (·.oneCell') = true := all_oneCell_toArray (cs := [Value.int .i64 a0, .int .i64 a1, .int .i64 a2, .int .i64 a3, .int .i64 a4, .int .i64 a5, .int .i64 a6, .int .i64 a7, sx]) (fun v hv => rkC_one [L.getD (k + e) default] v (by rw [HENC.out]; exact hv))
        have HALL := Lib.hid hall
        clear hall
        go_wp2_with ((with_reducible apply wpList_store_mid (cells := #[.int .i64 a0, .int .i64 a1, .int .i64 a2, .int .i64 a3, .int .i64 a4, .int .i64 a5, .int .i64 a6, .int .i64 a7, sx]) (b := g) (o := q * 9) rfl 105 (.tmp 56) (.tmp 55) rfl); (case hx => exact rfl); (case hy => exact rfl); (case ht => exact HTH.out); (case hi => kernel_rfl); (case h1 => exact HALL.out))
        go_roundw
        case rel => exact ⟨q + 1, e + 1, by omega, by omega, by omega, by go_num, by go_num, by rw [HSM.out, List.length_append, HQL.out]; rfl, M9'.out, B9'.out⟩
        case measure => simp [intOf]; omega
end Go.Proofs.YtkhlllbceceikaaDoor
