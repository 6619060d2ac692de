/- slices.CompactFunc at ranked sets. · cuts.depth; the sort of ranked sets. · cuts.sets: the sets of a gate, by their ranks. -/
import Derived.Test.YtaajnmggbhnndaaGreatDoorZCRk
import Derived.Lib.OwnBridge
import Derived.Sort.LotA
namespace Go.Proofs.YtaajnmggbhnndaaGreatDoor
open Go.RowKit
set_option linter.unusedVariables false
set_option linter.unusedSimpArgs false

/-- ranked sets: their ranks, and where the leaves lie -/
abbrev RK : Type := List Int × SL
def r8 (l : List Int) : List Int := (List.range 8).map fun i => l.getD i 0
def kof (x : RK) : List Int := r8 x.1
def encR (x : RK) : List Value := ints (r8 x.1) ++ [slv x.2]
theorem encR_len (x : RK) : (encR x).length = 9 := rfl
def rkC (L : List RK) : List Value := L.flatMap encR
theorem rkC_length (L : List RK) : (rkC L).length = L.length * 9 := by
  induction L with
  | nil => rfl
  | cons x L ih => simp only [rkC, List.flatMap_cons, List.length_append, encR_len, List.length_cons] at *; omega
theorem rkC_append (a b : List RK) : rkC (a ++ b) = rkC a ++ rkC b := by simp [rkC]
theorem rkC_get : ∀ (L : List RK) (k i : Nat) (hk : k < L.length), i < 9 → (rkC L)[k * 9 + i]? = (encR L[k])[i]?
  | x :: L, 0, i, _, hi => by
    rw [Nat.zero_mul, Nat.zero_add]
    simp only [rkC, List.flatMap_cons]
    rw [List.getElem?_append_left (by rw [encR_len]; exact hi)]
    rfl
  | x :: L, k + 1, i, hk, hi => by
    have ih := rkC_get L k i (by simpa using hk) hi
    have e : (k + 1) * 9 + i = 9 + (k * 9 + i) := by omega
    simp only [rkC, List.flatMap_cons] at *
    rw [e, List.getElem?_append_right (by rw [encR_len]; omega), encR_len, show 9 + (k * 9 + i) - 9 = k * 9 + i by omega, ih]
    rfl
theorem rkC_one (L : List RK) : ∀ u ∈ rkC L, u.oneCell' = true := by
  intro u hu
  obtain ⟨x, -, hx⟩ := List.mem_flatMap.1 hu
  rcases List.mem_append.1 hx with h | h
  · exact ints_one h
  · rw [List.mem_singleton] at h; subst h; rfl
theorem encR_one (x : RK) : ∀ u ∈ encR x, u.oneCell' = true := fun u hu => rkC_one [x] u (by simpa [rkC] using hu)
/-- the nine cells of one of them -/
structure Nine (w : World) (g o : Nat) (a0 a1 a2 a3 a4 a5 a6 a7 : Int) (l : Value) : Prop where
  c0 : w.cell? ⟨g, o, none⟩ = some (.int .i64 a0)
  c1 : w.cell? ⟨g, o + 1, none⟩ = some (.int .i64 a1)
  c2 : w.cell? ⟨g, o + 2, none⟩ = some (.int .i64 a2)
  c3 : w.cell? ⟨g, o + 3, none⟩ = some (.int .i64 a3)
  c4 : w.cell? ⟨g, o + 4, none⟩ = some (.int .i64 a4)
  c5 : w.cell? ⟨g, o + 5, none⟩ = some (.int .i64 a5)
  c6 : w.cell? ⟨g, o + 6, none⟩ = some (.int .i64 a6)
  c7 : w.cell? ⟨g, o + 7, none⟩ = some (.int .i64 a7)
  c8 : w.cell? ⟨g, o + 8, none⟩ = some l
theorem nine_of {w : World} {g o : Nat} {x : RK} (h : ∀ i, i < 9 → w.cell? ⟨g, o + i, none⟩ = (encR x)[i]?) : ∃ a0 a1 a2 a3 a4 a5 a6 a7, kof x = [a0, a1, a2, a3, a4, a5, a6, a7] ∧ Nine w g o a0 a1 a2 a3 a4 a5 a6 a7 (slv x.2) :=
  ⟨_, _, _, _, _, _, _, _, rfl, h 0 (by omega), h 1 (by omega), h 2 (by omega), h 3 (by omega), h 4 (by omega), h 5 (by omega), h 6 (by omega), h 7 (by omega), h 8 (by omega)⟩
theorem Nine.keep {w w' : World} {g o : Nat} {a0 a1 a2 a3 a4 a5 a6 a7 : Int} {l : Value} (h : Nine w g o a0 a1 a2 a3 a4 a5 a6 a7 l) (hg : g < w.heap.size) (hb : Below w.heap.size w w') : Nine w' g o a0 a1 a2 a3 a4 a5 a6 a7 l :=
  ⟨(hb.cell hg).trans h.c0, (hb.cell hg).trans h.c1, (hb.cell hg).trans h.c2, (hb.cell hg).trans h.c3, (hb.cell hg).trans h.c4, (hb.cell hg).trans h.c5, (hb.cell hg).trans h.c6, (hb.cell hg).trans h.c7, (hb.cell hg).trans h.c8⟩
theorem run_clear_rows (w : World) (t e ty : TypeId) (z : Value) (sz : Nat) (ht : Tryz.prog.underlying t = some (.slice e)) (hv : ∀ w, (zeroValue e).run Tryz.prog w = .ok z w) (hz : ∀ n, (Builtin.zeroCells z.cells n).size = n * sz) (h1 : ∀ n, ∀ v ∈ (Builtin.zeroCells z.cells n).toList, v.oneCell' = true) (b o n c : Nat) (hn : 0 < n)
    (hc : ∀ j, j < n * sz → (w.cell? ⟨b, o + j, none⟩).isSome = true) (hf : ∀ j, j < n * sz → w.frozen? ⟨b, o + j, none⟩ = false) :
    (Builtin.clear_ #[t] ty #[.slice (some ⟨b, o, none⟩) n c]).run Tryz.prog w = .ok (.tuple #[]) (w.setCells b o (Builtin.zeroCells z.cells n).toList) := by
  have hst := run_storeCells_cells (P := Tryz.prog) b o (Builtin.zeroCells z.cells n).toList 0 w (by simpa [hz] using hc) (by simpa [hz] using hf) (h1 n)
  simp only [Nat.add_zero] at hst
  obtain ⟨m, rfl⟩ : ∃ m, n = m + 1 := ⟨n - 1, by omega⟩
  simp [Builtin.clear_, run_underlying ht, hv, hst]
theorem zero_ranked (w : World) : (zeroValue 102).run Tryz.prog w = .ok (.agg #[.int .i64 0, .int .i64 0, .int .i64 0, .int .i64 0, .int .i64 0, .int .i64 0, .int .i64 0, .int .i64 0, .slice none 0 0]) w := by kernel_rfl
theorem zero9_size (n : Nat) : (Builtin.zeroCells (Value.agg #[.int .i64 0, .int .i64 0, .int .i64 0, .int .i64 0, .int .i64 0, .int .i64 0, .int .i64 0, .int .i64 0, .slice none 0 0]).cells n).size = n * 9 := by
  simp [Builtin.zeroCells, Value.cells]
theorem zero9_one (n : Nat) : ∀ v ∈ (Builtin.zeroCells (Value.agg #[.int .i64 0, .int .i64 0, .int .i64 0, .int .i64 0, .int .i64 0, .int .i64 0, .int .i64 0, .int .i64 0, .slice none 0 0]).cells n).toList, v.oneCell' = true := by
  intro v hv
  obtain ⟨i, hi, rfl⟩ : ∃ i : Nat, True ∧ (#[Value.int .i64 0, .int .i64 0, .int .i64 0, .int .i64 0, .int .i64 0, .int .i64 0, .int .i64 0, .int .i64 0, .slice none 0 0] : Array Value)[i % 9]! = v := by
    simp [Builtin.zeroCells, Value.cells] at hv
    obtain ⟨i, -, h⟩ := hv
    exact ⟨i, trivial, by rw [← h]; simp⟩
  have hd : ∀ j, j < 9 → ((#[Value.int .i64 0, .int .i64 0, .int .i64 0, .int .i64 0, .int .i64 0, .int .i64 0, .int .i64 0, .int .i64 0, .slice none 0 0] : Array Value)[j]!).oneCell' = true := by decide
  exact hd _ (Nat.mod_lt _ (by omega))
instance : Inhabited RK := ⟨([], (none, 0, []))⟩
theorem chg_below {w w' : World} (h : Below w.heap.size w w') (X : Nat → Prop) : Chg w w' X := ⟨h.os, h.tape, h.output, h.size, fun k hk _ => h.block k hk⟩
theorem chg_on {a w w' : World} {X : Nat → Prop} (h : Chg a w X) (k : Below w.heap.size w w') : Chg a w' X := (h.trans (chg_below k X)).wide (fun i hi => by rcases hi with h | h <;> exact h)
theorem chg_two {a w w' : World} {X : Nat → Prop} (h : Chg a w X) (k : Chg w w' X) : Chg a w' X := (h.trans k).wide (fun i hi => by rcases hi with h | h <;> exact h)
def CptROut (base : Nat) (A : Option Addr) (c : Nat) (L : List RK) (w : World) (r : Ending) (w' : World) : Prop :=
  r = .returned (.slice A (cpt kof L).length c) ∧ w'.ownsRow base 102 9 (.slice A (cpt kof L).length c) (cpt kof L).length (rkC (cpt kof L)) ∧ Chg w w' (fun k => some k = blkOf A)
theorem cptR_same {L : List RK} (h : ∀ j, 0 < j → j < L.length → kof (L.getD j default) ≠ kof (L.getD (j - 1) default)) : cpt kof L = L := by
  unfold cpt
  rw [cptTo_all (f := kof) (L := L) L.length (Nat.le_refl _) h, List.take_length]
theorem rk_getD {L : List RK} {k : Nat} (h : k < L.length) : L.getD k default = L[k] := by
  rw [List.getD_eq_getElem?_getD, List.getElem?_eq_getElem h]; rfl
set_option maxRecDepth 100000 in
set_option maxHeartbeats 8000000 in
theorem compactF_any (w : World) (base : Nat) (A : Option Addr) (n c : Nat) (L : List RK) (ho : w.ownsRow base 102 9 (.slice A n c) n (rkC L)) (hb : base ≤ w.heap.size) (hn : n ≤ 1000000) :
    Calls Tryz.prog 61 #[.slice A n c, .func (.func 62) #[] #[]] w (CptROut base A c L w) := by
  have hl : L.length = n := by have := ho.1; rw [rkC_length] at this; omega
  have HO := Lib.hid ho
  have HL := Lib.hid hl
  have hsame : (∀ j, 0 < j → j < n → kof (L.getD j default) ≠ kof (L.getD (j - 1) default)) → ∀ w', Below w.heap.size w w' → CptROut base A c L w (.returned (.slice A n c)) w' := fun h w' hw => by
    unfold CptROut
    rw [cptR_same (by rw [hl]; exact h), hl]
    exact ⟨rfl, own_keep ho hw, chg_below hw _⟩
  have HS := Lib.hid hsame
  have hrd := Rd.of_own ho
  have HR := Lib.hid hrd
  have hnc := hrd.cap
  by_cases h2 : n < 2
  · have h2' : (n : Int) < 2 := by omega
    clear ho hsame hrd hl
    go_enter Tryz.func61, Tryz.ntmps61
    go_wp2_with fail
    go_ret
    exact HS.out (fun j h1 h2 => by omega) _ (Below.refl _ _)
  obtain ⟨g, hA, hgb, hgl⟩ := own_some ho (by omega)
  subst hA
  obtain ⟨O, hO, hOt, hcs, hcm⟩ : ∃ O : List Value, Blk w g 102 O.toArray ∧ O.take (n * 9) = rkC L ∧ O.length = c * 9 ∧ c ≤ maxLen := by
    rcases ho.2 with ⟨hv, hz⟩ | ⟨g', cap, cur, hv, hg', hh, h1, h2, h3, h4⟩
    · omega
    · injection hv with e1 e2 e3
      injection e1 with e1
      injection e1 with e1
      subst e1 e3
      refine ⟨cur.toList, ?_, by simpa using h4, by simpa using h3, h2⟩
      simpa using (show Blk w g 102 cur from hh)
  have HOB := Lib.hid hO
  have HOT := Lib.hid hOt
  have hg63 : c ≤ 9223372036854775807 := by unfold maxLen at hcm; omega
  have HCM := Lib.hid hcm
  have h2' : ¬ (n : Int) < 2 := by omega
  have hOget : ∀ j (hj : j < n) i, i < 9 → O[j * 9 + i]? = (encR (L.getD j default))[i]? := fun j hj i hi => by
    have h := congrArg (fun l : List Value => l[j * 9 + i]?) hOt
    simp only [List.getElem?_take_of_lt (show j * 9 + i < n * 9 by omega)] at h
    rw [h, rkC_get L j i (by omega) hi, rk_getD (by omega)]
  have HG := Lib.hid hOget
  have HEQ := Lib.hid (fun (a0 a1 a2 a3 a4 a5 a6 a7 b0 b1 b2 b3 b4 b5 b6 b7 : Int) (x y : Value) (W : World) => sets2_any a0 a1 a2 a3 a4 a5 a6 a7 b0 b1 b2 b3 b4 b5 b6 b7 x y W)
  clear ho hsame hrd hl hO hOt hcm hOget
  go_enter Tryz.func61, Tryz.ntmps61
  go_wp2_with fail
  go_loopw [5] (fun i wx => ∃ k : Nat, 1 ≤ k ∧ k ≤ n ∧ i = .int .i64 (k : Int) ∧ (∀ j, 0 < j → j < k → kof (L.getD j default) ≠ kof (L.getD (j - 1) default)) ∧ Below w.heap.size w wx) (fun i _ => n - (intOf i).toNat)
  case atStart => exact ⟨1, by omega, by omega, rfl, fun j h1 h2 => absurd h2 (by omega), Below.refl _ _⟩
  case round =>
    obtain ⟨k, hk1, hk, rfl, hdis, hB⟩ := hrel
    have B1 := Lib.hid hB
    have HD := Lib.hid hdis
    clear hB hdis
    by_cases hlt : k < n
    case neg =>
      obtain rfl : k = n := by omega
      go_wp2_with fail
      go_ret
      exact HS.out HD.out _ B1.out
    have hlt' : (k : Int) < (n : Int) := by omega
    obtain ⟨k0, hk0⟩ : ∃ q, k - 1 = q := ⟨_, rfl⟩
    have hk0' : (k : Int) - 1 = (k0 : Int) := by omega
    have hkw : IntKind.i64.wrap (k0 : Int) = (k0 : Int) := IntWalk.i64_in _ (by omega)
    have hk0n : (k0 : Int) < (n : Int) := by omega
    obtain ⟨a0, a1, a2, a3, a4, a5, a6, a7, hka, ⟨c0, c1, c2, c3, c4, c5, c6, c7, c8⟩⟩ := nine_of (w := wr) (g := g) (o := k * 9) (x := L.getD k default) (fun i hi => (B1.out.cell hgl).trans ((HOB.out.cell _).trans (by simpa using HG.out k hlt i hi)))
    obtain ⟨b0, b1, b2, b3, b4, b5, b6, b7, hkb, ⟨d0, d1, d2, d3, d4, d5, d6, d7, d8⟩⟩ := nine_of (w := wr) (g := g) (o := k0 * 9) (x := L.getD k0 default) (fun i hi => (B1.out.cell hgl).trans ((HOB.out.cell _).trans (by simpa using HG.out k0 (by omega) i hi)))
    have HCE := Lib.hid (fun (W : World) => HEQ.out a0 a1 a2 a3 a4 a5 a6 a7 b0 b1 b2 b3 b4 b5 b6 b7 (slv (L.getD k default).2) (slv (L.getD k0 default).2) W)
    have HE2 := Lib.hid (show [a0, a1, a2, a3, a4, a5, a6, a7] = [b0, b1, b2, b3, b4, b5, b6, b7] → kof (L.getD k default) = kof (L.getD (k - 1) default) by rw [hk0, hka, hkb]; exact id)
    have HNE := Lib.hid (show [a0, a1, a2, a3, a4, a5, a6, a7] ≠ [b0, b1, b2, b3, b4, b5, b6, b7] → ∀ j, 0 < j → j < k + 1 → kof (L.getD j default) ≠ kof (L.getD (j - 1) default) from fun h j h1 h2 => by
      rcases Nat.lt_or_ge j k with h3 | h3
      · exact HD.out j h1 h3
      · obtain rfl : j = k := by omega
        rw [hk0, hka, hkb]; exact h)
    obtain ⟨r, hr⟩ : ∃ r, decide ([a0, a1, a2, a3, a4, a5, a6, a7] = [b0, b1, b2, b3, b4, b5, b6, b7]) = r := ⟨_, rfl⟩
    rw [hr] at HCE
    have HRR := Lib.hid hr
    clear hr hka hkb
    generalize slv (L.getD k default).2 = sx at c8 HCE
    generalize slv (L.getD k0 default).2 = sy at d8 HCE
    cases r with
    | false =>
      have HNX := Lib.hid (HNE.out (of_decide_eq_false HRR.out))
      clear HNE HE2 HRR
      go_wp2_with fail
      refine wp_region_still_in (by kernel_rfl) (by kernel_rfl) fun St9 ne9 V9 hV9 hS9 => ?_
      have qc0 := still_cell hV9 c0
      have qc1 := still_cell hV9 c1
      have qc2 := still_cell hV9 c2
      have qc3 := still_cell hV9 c3
      have qc4 := still_cell hV9 c4
      have qc5 := still_cell hV9 c5
      have qc6 := still_cell hV9 c6
      have qc7 := still_cell hV9 c7
      have qc8 := still_cell hV9 c8
      have qd0 := still_cell hV9 d0
      have qd1 := still_cell hV9 d1
      have qd2 := still_cell hV9 d2
      have qd3 := still_cell hV9 d3
      have qd4 := still_cell hV9 d4
      have qd5 := still_cell hV9 d5
      have qd6 := still_cell hV9 d6
      have qd7 := still_cell hV9 d7
      have qd8 := still_cell hV9 d8
      repeat (first | go_big_quiet_step ((go_at_call 62; exact Calls.still hV9 hS9 (HCE.out _))) | quiet_step ((go_at_call 62; exact Calls.still hV9 hS9 (HCE.out _))))
      refine wpQuiet_nil ?_
      intro _ hw9
      obtain ⟨s9, rfl⟩ := hw9
      have hb9 := hV9 s9
      clear qc0 qc1 qc2 qc3 qc4 qc5 qc6 qc7 qc8 qd0 qd1 qd2 qd3 qd4 qd5 qd6 qd7 qd8 hS9
      generalize V9 s9 = w9 at hb9 ⊢
      clear hV9 s9 V9 ne9 St9
      have B9 := Lib.hid (below_then B1.out hb9)
      clear hb9 c0 c1 c2 c3 c4 c5 c6 c7 c8 d0 d1 d2 d3 d4 d5 d6 d7 d8
      go_wp2_with fail
      go_roundw
      case rel => exact ⟨k + 1, by omega, by omega, by go_num, HNX.out, B9.out⟩
      case measure => simp [intOf]; omega
    | true =>
    have HQ := Lib.hid (HE2.out (of_decide_eq_true HRR.out))
    clear HNE HE2 HRR
    go_wp2_with fail
    refine wp_region_still_in (by kernel_rfl) (by kernel_rfl) fun St9 ne9 V9 hV9 hS9 => ?_
    have qc0 := still_cell hV9 c0
    have qc1 := still_cell hV9 c1
    have qc2 := still_cell hV9 c2
    have qc3 := still_cell hV9 c3
    have qc4 := still_cell hV9 c4
    have qc5 := still_cell hV9 c5
    have qc6 := still_cell hV9 c6
    have qc7 := still_cell hV9 c7
    have qc8 := still_cell hV9 c8
    have qd0 := still_cell hV9 d0
    have qd1 := still_cell hV9 d1
    have qd2 := still_cell hV9 d2
    have qd3 := still_cell hV9 d3
    have qd4 := still_cell hV9 d4
    have qd5 := still_cell hV9 d5
    have qd6 := still_cell hV9 d6
    have qd7 := still_cell hV9 d7
    have qd8 := still_cell hV9 d8
    repeat (first | go_big_quiet_step ((go_at_call 62; exact Calls.still hV9 hS9 (HCE.out _))) | quiet_step ((go_at_call 62; exact Calls.still hV9 hS9 (HCE.out _))))
    refine wpQuiet_nil ?_
    intro _ hw9
    obtain ⟨s9, rfl⟩ := hw9
    have hb9 := hV9 s9
    clear qc0 qc1 qc2 qc3 qc4 qc5 qc6 qc7 qc8 qd0 qd1 qd2 qd3 qd4 qd5 qd6 qd7 qd8 hS9
    generalize V9 s9 = w9 at hb9 ⊢
    clear hV9 s9 V9 ne9 St9
    have B9 := Lib.hid (below_then B1.out hb9)
    clear hb9 c0 c1 c2 c3 c4 c5 c6 c7 c8 d0 d1 d2 d3 d4 d5 d6 d7 d8 HCE
    go_wp2_with fail
    have hpre : cptTo kof L (k + 1) = L.take k := by
      rw [cptTo_old (f := kof) (by omega) HQ.out, cptTo_all (f := kof) k (by rw [HL.out]; omega) (fun j h1 h2 => HD.out j h1 h2)]
    have hst : CptM w9 g 102 O 9 (rkC (cptTo kof L (k + 1))) (k + 1) := by
      refine CptM.start (HOB.out.keep B9.out) ?_
      rw [hpre, rkC_length, List.length_take, Nat.min_eq_left (by rw [HL.out]; omega)]
      have h := congrArg (List.take (k * 9)) HOT.out
      rw [List.take_take, Nat.min_eq_left (by omega)] at h
      rw [h]
      have e : rkC L = rkC (L.take k) ++ rkC (L.drop k) := by rw [← rkC_append, List.take_append_drop]
      rw [e, List.take_append_of_le_length (by rw [rkC_length, List.length_take, HL.out]; omega), List.take_of_length_le (by rw [rkC_length, List.length_take, HL.out]; omega)]
    have hq0 : (cptTo kof L (k + 1)).length = k := by rw [hpre, List.length_take, HL.out, Nat.min_eq_left (by omega)]
    have HST := Lib.hid hst
    have HQ0 := Lib.hid hq0
    clear hpre hst hq0 hk0 hk0' hkw hk0n
    go_loopw [5, 7] (fun v3 v5 wx => ∃ (q e : Nat), 1 ≤ e ∧ k + e ≤ n ∧ q + 1 ≤ k + e ∧ v3 = .int .i64 (q : Int) ∧ v5 = .int .i64 (e : Int) ∧ (cptTo kof L (k + e)).length = q ∧ CptM wx g 102 O 9 (rkC (cptTo kof L (k + e))) (k + e) ∧ Chg w wx (fun j => some j = some g)) (fun _ v5 _ => n - k - (intOf v5).toNat)
    case atStart => exact ⟨k, 1, by omega, by omega, by omega, rfl, rfl, HQ0.out, HST.out, chg_below B9.out _⟩
    case round =>
      obtain ⟨q, e, he1, hen, hqe, rfl, rfl, hql, hM, hBB⟩ := hrel
      have M3 := Lib.hid hM
      have B3 := Lib.hid hBB
      have HQL := Lib.hid hql
      clear hM hBB hql HST HQ0
      by_cases hend : k + e < n
      case neg =>
        have he2 : k + e = n := by omega
        have hlt3 : ¬ (e : Int) < ((n - k : Nat) : Int) := by omega
        have hsub : ((n - k : Nat) : Int) = (e : Int) := by omega
        have hfin : cpt kof L = cptTo kof L (k + e) := by unfold cpt; rw [HL.out, he2]
        have HF := Lib.hid hfin
        have hcl : ∀ ty, (Builtin.clear_ #[97] ty #[.slice (some ⟨g, q * 9, none⟩) (n - q) (c - q)]).run Tryz.prog wr = .ok (.tuple #[]) (wr.setCells g (q * 9) (Builtin.zeroCells (Value.agg #[.int .i64 0, .int .i64 0, .int .i64 0, .int .i64 0, .int .i64 0, .int .i64 0, .int .i64 0, .int .i64 0, .slice none 0 0]).cells (n - q)).toList) := fun ty => by
          refine run_clear_rows wr 97 102 ty _ 9 Tryz.underlying97 zero_ranked zero9_size zero9_one g (q * 9) (n - q) (c - q) (by omega) (fun j hj => ?_) (fun j hj => ?_)
          · obtain ⟨v, h1, -⟩ := M3.out.there (i := q * 9 + j) (by omega)
            rw [h1]; rfl
          · obtain ⟨v, -, h1⟩ := M3.out.there (i := q * 9 + j) (by omega)
            exact h1
        have HOWN := Lib.hid (M3.out.own (k := q) (c := c) (base := base) (Builtin.zeroCells (Value.agg #[.int .i64 0, .int .i64 0, .int .i64 0, .int .i64 0, .int .i64 0, .int .i64 0, .int .i64 0, .int .i64 0, .slice none 0 0]).cells (n - q)).toList (by rw [rkC_length, HQL.out]) (by rw [Array.length_toList, zero9_size]; omega) hcs (by omega) HCM.out hgb)
        have hqn : (q : Int) ≤ (n : Int) := by omega
        have hqc : (q : Int) ≤ (c : Int) := by omega
        clear hfin
        generalize (Builtin.zeroCells (Value.agg #[.int .i64 0, .int .i64 0, .int .i64 0, .int .i64 0, .int .i64 0, .int .i64 0, .int .i64 0, .int .i64 0, .slice none 0 0]).cells (n - q)).toList = zs at hcl HOWN
        go_wp2_with (simp only [hcl])
        go_ret
        unfold CptROut
        rw [HF.out, HQL.out]
        exact ⟨rfl, HOWN.out, (chg_two B3.out ((Chg.setCells g _ _ _).wide (Y := fun j => some j = some g) (fun j hj => by rw [hj]))).wide (fun j hj => hj)⟩
      have hlt3 : (e : Int) < ((n - k : Nat) : Int) := by omega
      obtain ⟨e0, he0⟩ : ∃ q, e - 1 = q := ⟨_, rfl⟩
      have he0' : (e : Int) - 1 = (e0 : Int) := by omega
      have hew : IntKind.i64.wrap (e0 : Int) = (e0 : Int) := IntWalk.i64_in _ (by omega)
      have he0n : (e0 : Int) < ((n - k : Nat) : Int) := by omega
      have hke0 : k + e - 1 = k + e0 := by omega
      obtain ⟨a0, a1, a2, a3, a4, a5, a6, a7, hka, hNA⟩ := nine_of (w := wr) (g := g) (o := k * 9 + e * 9) (x := L.getD (k + e) default) (fun i hi => (M3.out.cell (i := k * 9 + e * 9 + i) (by omega)).trans (by rw [← HG.out (k + e) hend i hi, Nat.add_mul]))
      obtain ⟨b0, b1, b2, b3, b4, b5, b6, b7, hkb, hNB⟩ := nine_of (w := wr) (g := g) (o := k * 9 + e0 * 9) (x := L.getD (k + e0) default) (fun i hi => (M3.out.cell (i := k * 9 + e0 * 9 + i) (by omega)).trans (by rw [← HG.out (k + e0) (by omega) i hi, Nat.add_mul]))
      have HNA := Lib.hid hNA
      obtain ⟨c0, c1, c2, c3, c4, c5, c6, c7, c8⟩ := hNA
      obtain ⟨d0, d1, d2, d3, d4, d5, d6, d7, d8⟩ := hNB
      have HCE := Lib.hid (fun (W : World) => HEQ.out a0 a1 a2 a3 a4 a5 a6 a7 b0 b1 b2 b3 b4 b5 b6 b7 (slv (L.getD (k + e) default).2) (slv (L.getD (k + e0) default).2) W)
      have HSM1 := Lib.hid (show [a0, a1, a2, a3, a4, a5, a6, a7] = [b0, b1, b2, b3, b4, b5, b6, b7] → cptTo kof L (k + (e + 1)) = cptTo kof L (k + e) from fun h => cptTo_old (f := kof) (m := k + e) (by omega) (by rw [hke0, hka, hkb]; exact h))
      have HSM2 := Lib.hid (show [a0, a1, a2, a3, a4, a5, a6, a7] ≠ [b0, b1, b2, b3, b4, b5, b6, b7] → cptTo kof L (k + (e + 1)) = cptTo kof L (k + e) ++ [L.getD (k + e) default] from fun h => cptTo_new (f := kof) (m := k + e) (.inr (by rw [hke0, hka, hkb]; exact h)))
      have HENC := Lib.hid (show rkC [L.getD (k + e) default] = [.int .i64 a0, .int .i64 a1, .int .i64 a2, .int .i64 a3, .int .i64 a4, .int .i64 a5, .int .i64 a6, .int .i64 a7, slv (L.getD (k + e) default).2] from by
        have h := congrArg ints hka
        simp only [rkC, List.flatMap_cons, List.flatMap_nil, List.append_nil, encR]
        rw [show ints (r8 (L.getD (k + e) default).1) = ints [a0, a1, a2, a3, a4, a5, a6, a7] from h]; rfl)
      obtain ⟨r, hr⟩ : ∃ r, decide ([a0, a1, a2, a3, a4, a5, a6, a7] = [b0, b1, b2, b3, b4, b5, b6, b7]) = r := ⟨_, rfl⟩
      rw [hr] at HCE
      have HRR := Lib.hid hr
      clear hr hka hkb
      generalize slv (L.getD (k + e) default).2 = sx at c8 HCE HENC HNA
      generalize slv (L.getD (k + e0) default).2 = sy at d8 HCE
      cases r with
      | true =>
        have HSM := Lib.hid (HSM1.out (of_decide_eq_true HRR.out))
        clear HSM1 HSM2 HENC HNA HRR
        go_wp2_with fail
        refine wp_region_still_in (by kernel_rfl) (by kernel_rfl) fun St8 ne8 V8 hV8 hS8 => ?_
        have qc0 := still_cell hV8 c0
        have qc1 := still_cell hV8 c1
        have qc2 := still_cell hV8 c2
        have qc3 := still_cell hV8 c3
        have qc4 := still_cell hV8 c4
        have qc5 := still_cell hV8 c5
        have qc6 := still_cell hV8 c6
        have qc7 := still_cell hV8 c7
        have qc8 := still_cell hV8 c8
        have qd0 := still_cell hV8 d0
        have qd1 := still_cell hV8 d1
        have qd2 := still_cell hV8 d2
        have qd3 := still_cell hV8 d3
        have qd4 := still_cell hV8 d4
        have qd5 := still_cell hV8 d5
        have qd6 := still_cell hV8 d6
        have qd7 := still_cell hV8 d7
        have qd8 := still_cell hV8 d8
        repeat (first | go_big_quiet_step ((go_at_call 62; exact Calls.still hV8 hS8 (HCE.out _))) | quiet_step ((go_at_call 62; exact Calls.still hV8 hS8 (HCE.out _))))
        refine wpQuiet_nil ?_
        intro _ hw8
        obtain ⟨s8, rfl⟩ := hw8
        have hb8 := hV8 s8
        clear qc0 qc1 qc2 qc3 qc4 qc5 qc6 qc7 qc8 qd0 qd1 qd2 qd3 qd4 qd5 qd6 qd7 qd8 hS8
        generalize V8 s8 = w8 at hb8 ⊢
        clear hV8 s8 V8 ne8 St8
        have BB8 := Lib.hid ((chg_on B3.out hb8))
        have M8 := Lib.hid ((M3.out.keep hb8).more (show k + e ≤ k + (e + 1) by omega))
        clear hb8 c0 c1 c2 c3 c4 c5 c6 c7 c8 d0 d1 d2 d3 d4 d5 d6 d7 d8
        go_wp2_with fail
        go_roundw
        case rel => exact ⟨q, e + 1, by omega, by omega, by omega, rfl, by go_num, by rw [HSM.out]; exact HQL.out, by rw [HSM.out]; exact M8.out, BB8.out⟩
        case measure => simp [intOf]; omega
      | false =>
        have HSM := Lib.hid (HSM2.out (of_decide_eq_false HRR.out))
        clear HSM1 HSM2 HRR
        go_wp2_with fail
        refine wp_region_still_in (by kernel_rfl) (by kernel_rfl) fun St8 ne8 V8 hV8 hS8 => ?_
        have qc0 := still_cell hV8 c0
        have qc1 := still_cell hV8 c1
        have qc2 := still_cell hV8 c2
        have qc3 := still_cell hV8 c3
        have qc4 := still_cell hV8 c4
        have qc5 := still_cell hV8 c5
        have qc6 := still_cell hV8 c6
        have qc7 := still_cell hV8 c7
        have qc8 := still_cell hV8 c8
        have qd0 := still_cell hV8 d0
        have qd1 := still_cell hV8 d1
        have qd2 := still_cell hV8 d2
        have qd3 := still_cell hV8 d3
        have qd4 := still_cell hV8 d4
        have qd5 := still_cell hV8 d5
        have qd6 := still_cell hV8 d6
        have qd7 := still_cell hV8 d7
        have qd8 := still_cell hV8 d8
        repeat (first | go_big_quiet_step ((go_at_call 62; exact Calls.still hV8 hS8 (HCE.out _))) | quiet_step ((go_at_call 62; exact Calls.still hV8 hS8 (HCE.out _))))
        refine wpQuiet_nil ?_
        intro _ hw8
        obtain ⟨s8, rfl⟩ := hw8
        have hb8 := hV8 s8
        clear qc0 qc1 qc2 qc3 qc4 qc5 qc6 qc7 qc8 qd0 qd1 qd2 qd3 qd4 qd5 qd6 qd7 qd8 hS8
        generalize V8 s8 = w8 at hb8 ⊢
        clear hV8 s8 V8 ne8 St8
        clear c0 c1 c2 c3 c4 c5 c6 c7 c8 d0 d1 d2 d3 d4 d5 d6 d7 d8
        obtain ⟨c0, c1, c2, c3, c4, c5, c6, c7, c8⟩ := HNA.out.keep M3.out.lt hb8
        have BB8 := Lib.hid ((chg_on B3.out hb8))
        have M8 := Lib.hid (M3.out.keep hb8)
        have hth : w8.there g (q * 9) 9 := fun j hj => by
          obtain ⟨v, h1, h2⟩ := M8.out.there (i := q * 9 + j) (by omega)
          exact ⟨by rw [h1]; rfl, h2⟩
        have HTH := Lib.hid hth
        have M9 := M8.out.put [.int .i64 a0, .int .i64 a1, .int .i64 a2, .int .i64 a3, .int .i64 a4, .int .i64 a5, .int .i64 a6, .int .i64 a7, sx] rfl (by rw [rkC_length, HQL.out]; omega) (by omega)
        have e9 : rkC (cptTo kof L (k + e)) ++ [.int .i64 a0, .int .i64 a1, .int .i64 a2, .int .i64 a3, .int .i64 a4, .int .i64 a5, .int .i64 a6, .int .i64 a7, sx] = rkC (cptTo kof L (k + (e + 1))) := by rw [HSM.out, rkC_append, HENC.out]
        rw [rkC_length, HQL.out, e9] at M9
        have M9' := Lib.hid (show CptM (w8.setCells g (q * 9) [.int .i64 a0, .int .i64 a1, .int .i64 a2, .int .i64 a3, .int .i64 a4, .int .i64 a5, .int .i64 a6, .int .i64 a7, sx]) g 102 O 9 (rkC (cptTo kof L (k + (e + 1)))) (k + (e + 1)) from M9)
        have B9' := Lib.hid (chg_two BB8.out ((Chg.setCells g [.int .i64 a0, .int .i64 a1, .int .i64 a2, .int .i64 a3, .int .i64 a4, .int .i64 a5, .int .i64 a6, .int .i64 a7, sx] (q * 9) w8).wide (Y := fun j => some j = some g) (fun j hj => by rw [hj])))
        have hqn : (q : Int) < (n : Int) := by omega
        clear hb8 M9 e9 hth
        have hall : (#[Value.int .i64 a0, .int .i64 a1, .int .i64 a2, .int .i64 a3, .int .i64 a4, .int .i64 a5, .int .i64 a6, .int .i64 a7, sx] : Array Value).all (·.oneCell') = true := all_oneCell_toArray (cs := [Value.int .i64 a0, .int .i64 a1, .int .i64 a2, .int .i64 a3, .int .i64 a4, .int .i64 a5, .int .i64 a6, .int .i64 a7, sx]) (fun v hv => rkC_one [L.getD (k + e) default] v (by rw [HENC.out]; exact hv))
        have HALL := Lib.hid hall
        clear hall
        go_wp2_with ((with_reducible apply wpList_store_mid (cells := #[.int .i64 a0, .int .i64 a1, .int .i64 a2, .int .i64 a3, .int .i64 a4, .int .i64 a5, .int .i64 a6, .int .i64 a7, sx]) (b := g) (o := q * 9) rfl 102 (.tmp 56) (.tmp 55) rfl); (case hx => exact rfl); (case hy => exact rfl); (case ht => exact HTH.out); (case hi => kernel_rfl); (case h1 => exact HALL.out))
        go_roundw
        case rel => exact ⟨q + 1, e + 1, by omega, by omega, by omega, by go_num, by go_num, by rw [HSM.out, List.length_append, HQL.out]; rfl, M9'.out, B9'.out⟩
        case measure => simp [intOf]; omega
end Go.Proofs.YtaajnmggbhnndaaGreatDoor

namespace Go.Proofs.YtaajnmggbhnndaaGreatDoor
open Go.RowKit Go.Shelf Go.Lib Go.Sort
set_option linter.unusedVariables false
set_option linter.unusedSimpArgs false

set_option maxRecDepth 100000 in
set_option maxHeartbeats 2000000 in
theorem cdepth_any (D A : Option Addr) (cd c N : Nat) (d l : List Int) (w : World) (hd : DepIn w D cd N d) (hl : Rd w 1 A l.length c (ints l)) (hn : NodesIn N l) (hll : l.length ≤ 1000000) :
    Calls Tryz.prog 57 #[.slice D N cd, .slice A l.length c] w fun r w' => r = .returned (.int .i64 (Cut.deep d l)) ∧ Below w.heap.size w w' := by
  obtain ⟨r, hr⟩ : ∃ r, Cut.deep d l = r := ⟨_, rfl⟩
  have HR := Lib.hid hr
  rw [hr]
  have HD := Lib.hid hd
  have HL := Lib.hid hl
  have HN := Lib.hid hn
  obtain ⟨m, hm⟩ : ∃ n, l.length = n := ⟨_, rfl⟩
  have HM := Lib.hid hm
  rw [hm] at HL hll ⊢
  have HB := Lib.hid (fun k => Cut.deepTo_bound (d := d) (l := l) (M := 1000000) (by omega) hd.small k)
  clear hd hl hn hr hm
  go_enter Tryz.func57, Tryz.ntmps57
  go_wp2_with fail
  go_loopw [5, 10] (fun v5 v6 wx => ∃ k : Nat, k ≤ m ∧ v6 = .int .i64 (k : Int) ∧ v5 = .int .i64 (Cut.deepTo d l k) ∧ Below w.heap.size w wx) (fun _ v6 _ => m - (intOf v6).toNat)
  case atStart => exact ⟨0, by omega, rfl, rfl, Below.refl _ _⟩
  case round =>
    obtain ⟨k, hk, rfl, rfl, hbe⟩ := hrel
    have B3 := Lib.hid hbe
    clear hbe
    by_cases hlt : k < m
    case neg =>
      obtain rfl : k = m := by omega
      have hb := HB.out k
      have hr : Cut.deepTo d l k + 1 = r := by rw [← HR.out]; unfold Cut.deep; rw [HM.out]
      have HRR := Lib.hid hr
      generalize Cut.deepTo d l k = t at hb HRR
      obtain ⟨hb0, hb1⟩ := hb
      go_wp2_with fail
      go_ret
      exact ⟨by rw [← HRR.out]; rfl, B3.out⟩
    have hnod := HN.out _ (getD_mem (l := l) (k := k) (by rw [HM.out]; exact hlt))
    obtain ⟨x, hx⟩ : ∃ x : Nat, l.getD k 0 = (x : Int) := ⟨(l.getD k 0).toNat, by omega⟩
    obtain ⟨pa, hA, hab, d0⟩ := (HL.out.later B3.out).int (k := k) hlt
    obtain ⟨pd, hD, hdb, e0⟩ := (HD.out.rd.later B3.out).int (k := x) (by omega)
    have hst : Cut.deepTo d l (k + 1) = max (Cut.deepTo d l k) (d.getD x 0) := by simp only [Cut.deepTo, hx, Int.toNat_natCast]
    have HST := Lib.hid hst
    have hb := HB.out k
    have hxN : (x : Int) < (N : Int) := by omega
    have hkm : (k : Int) < (m : Int) := by omega
    rw [hx] at d0
    clear hst hnod hx
    subst hA
    subst hD
    generalize Cut.deepTo d l k = t at hb HST
    generalize d.getD x 0 = y at e0 HST
    obtain ⟨hb0, hb1⟩ := hb
    go_wp2_with fail
    go_roundw
    case rel => exact ⟨k + 1, by omega, by go_num, by rw [HST.out], B3.out⟩
    case measure => simp [intOf]; omega
/-- how ranked sets compare -/
def cmpR (x y : RK) : Int := Cut.cmpL (kof x) (kof y)
theorem cmpR_swo : SWO (ltOf cmpR) where
  irrefl x := by unfold ltOf cmpR; rw [(Cut.cmpL_eq _ _).2 rfl]; simp
  trans x y z h1 h2 := by
    unfold ltOf cmpR at *
    simp only [decide_eq_true_eq] at *
    exact (Cut.cmpL_trans _ _ _ (Int.le_of_lt h1) (Int.le_of_lt h2)).2 (.inl h1)
  ntrans x y z h1 h2 := by
    unfold ltOf cmpR at *
    simp only [decide_eq_false_iff_not] at *
    have s1 := Cut.cmpL_swap (kof x) (kof y)
    have s2 := Cut.cmpL_swap (kof y) (kof z)
    have s3 := Cut.cmpL_swap (kof x) (kof z)
    have := (Cut.cmpL_trans (kof z) (kof y) (kof x) (by omega) (by omega)).1
    omega
theorem cmpR_lays (blk off size : Nat) (w : World) : CmpLays Tryz.prog 59 #[] encR 9 cmpR blk off size w :=
  fun _ _ _ _ x y => (sets1_any _ _ _ _ _ _ _ _ _ _ _ _ _ _ _ _ (slv x.2) (slv y.2) _).mono fun e w' ⟨he, hw⟩ => ⟨he, 1, _, hw⟩
theorem rkC_at (xs : List RK) (t : Nat) (h : t < xs.length * 9) : (rkC xs)[t]? = some ((encR xs[t / 9]!)[t % 9]!) := by
  have e : t = t / 9 * 9 + t % 9 := by omega
  have h1 : t / 9 < xs.length := by omega
  have h2 := rkC_get xs (t / 9) (t % 9) h1 (Nat.mod_lt _ (by omega))
  rw [← e] at h2
  rw [h2, getElem!_pos xs (t / 9) h1]
  have h3 : t % 9 < (encR xs[t / 9]).length := by rw [encR_len]; exact Nat.mod_lt _ (by omega)
  rw [List.getElem?_eq_getElem h3]
  exact congrArg some (getElem!_pos (encR xs[t / 9]) (t % 9) h3).symm
theorem flat_rk (xs : List RK) : (flatK encR 9 xs.toArray).toList = rkC xs := by
  apply List.ext_getElem?
  intro t
  by_cases h : t < xs.length * 9
  · rw [rkC_at xs t h]
    have hs : t < (flatK encR 9 xs.toArray).size := by simpa using h
    rw [Array.getElem?_toList, Array.getElem?_eq_getElem hs]
    have := get_flatK encR 9 xs.toArray t (by simpa using h)
    rw [getElem!_pos _ t hs] at this
    rw [this]
    simp
  · have a : (flatK encR 9 xs.toArray).toList[t]? = none := List.getElem?_eq_none (by simp; omega)
    have b : (rkC xs)[t]? = none := List.getElem?_eq_none (by rw [rkC_length]; omega)
    rw [a, b]
theorem holds_ownR {w : World} {base g n cap : Nat} {e : TypeId} {xs : List RK} (h : w.ownsRow base e 9 (.slice (some ⟨g, 0, none⟩) n cap) n (rkC xs)) : HoldsK encR 9 w g 0 xs.toArray := by
  have hl : xs.length = n := by have := h.1; rw [rkC_length] at this; omega
  rcases h.2 with ⟨e0, _⟩ | ⟨g', cap', cur, e0, hb, hg, hn, hm, hs, ht⟩
  · cases e0
  · injection e0 with e1 _ e3
    injection e1 with e1
    injection e1 with e1
    subst e1; subst e3
    intro j hj
    have hj' : j < xs.length * 9 := by simpa using hj
    refine ⟨?_, by simp [World.frozen?, hg]⟩
    have e1 : (cur.toList.take (n * 9))[j]? = (rkC xs)[j]? := by rw [ht]
    rw [List.getElem?_take, if_pos (by omega), Array.getElem?_toList, rkC_at xs j hj'] at e1
    simp only [World.cell?, hg, Nat.zero_add]
    simp only [Option.isSome_none, Bool.false_eq_true, if_false]
    rw [e1, get_flatK encR 9 xs.toArray j (by simpa using hj')]
    simp
theorem own_sortedK {w : World} {base g n cap q sz : Nat} {e : TypeId} {cells : List Value} {ys : Array Value} {os : Array Obj} (h : w.ownsRow base e sz (.slice (some ⟨g, 0, none⟩) n cap) n cells) (hy : ys.size = n * sz) :
    (grow (putRow id (Sort.ahead w q) g 0 ys) os).ownsRow base e sz (.slice (some ⟨g, 0, none⟩) n cap) n ys.toList := by
  rcases h.2 with ⟨e0, _⟩ | ⟨g', cap', cur, e0, hb, hg, hn, hm, hs, ht⟩
  · cases e0
  · injection e0 with e1 _ e3
    injection e1 with e1
    injection e1 with e1
    subst e1; subst e3
    have hlt : g < w.heap.size := lt_of_block hg
    refine ⟨by simpa using hy, .inr ⟨g, cap, putCells id 0 ys cur, rfl, hb, ?_, hn, hm, by simpa [putCells] using hs, ?_⟩⟩
    · show ((w.heap.modify g (onCells (putCells id 0 ys))) ++ os)[g]? = _
      rw [Array.getElem?_append_left (by simpa using hlt), Array.getElem?_modify]
      simp [hg, onCells]
    · apply List.ext_getElem?
      intro j
      rw [List.getElem?_take, Array.getElem?_toList, Array.getElem?_toList]
      by_cases hj : j < n * sz
      · have hjc : j < cur.size := by have : n * sz ≤ cap * sz := Nat.mul_le_mul_right sz hn; omega
        simp only [if_pos hj, putCells, Array.getElem?_mapIdx, Array.getElem?_eq_getElem hjc, Option.map_some]
        rw [if_pos (by simp; omega), Array.getElem?_eq_getElem (by omega)]
        simp [getElem!_pos, show j < ys.size by omega]
      · simp [hj]; omega

theorem below_sortedK {B : Nat} {w0 w : World} {g q : Nat} {ys : Array Value} {os : Array Obj} (h : Below B w0 w) (hg : B ≤ g) (hB : B ≤ w.heap.size) : Below B w0 (grow (putRow id (Sort.ahead w q) g 0 ys) os) :=
  ⟨h.os, h.tape, h.output, by have := h.size; simp [grow, putRow, mapBlock, Sort.ahead]; omega, fun k hk => by
    rw [← h.block k hk]
    show ((w.heap.modify g (onCells (putCells id 0 ys))) ++ os)[k]? = _
    rw [Array.getElem?_append_left (by simp; omega), Array.getElem?_modify, if_neg (by omega)]⟩

theorem sortR_any (w : World) (base : Nat) (A : Option Addr) (n c : Nat) (L : List RK) (ho : w.ownsRow base 102 9 (.slice A n c) n (rkC L)) (hb : base ≤ w.heap.size) (hn : n ≤ 1000000) (h0 : 0 < n) :
    Calls Tryz.prog 58 #[.slice A n c, .func (.func 59) #[] #[]] w fun e w' => e = .returned (.tuple #[]) ∧ ∃ L' : List RK, w'.ownsRow base 102 9 (.slice A n c) n (rkC L') ∧ (∀ x, x ∈ L' ↔ x ∈ L) ∧ L'.length = n ∧ (∀ i j, i < j → j < L'.length → ltOf cmpR (L'.getD j default) (L'.getD i default) = false) ∧ Chg w w' (fun k => some k = blkOf A) := by
  have hl : L.length = n := by have := ho.1; rw [rkC_length] at this; omega
  · obtain ⟨g, cap, hv, hbase, hlt⟩ := ho.form h0
    injection hv with h1 h2 h3
    subst h1 h3
    have eg : ∀ args w, (callFunc 59 args).run Tryz.prog w = .ok (.enter 59 args) w := enters_of Tryz.func59 (by kernel_rfl) rfl
    have hcon := AnyQ.slices_SortFunc Tryz.sortRank 9 (fun _ => by kernel_rfl) (fun _ => by kernel_rfl) encR (fun _ => rfl) (fun x v hv => encR_one x v hv) cmpR cmpR_swo 59 #[] g 0 c L.toArray w eg (cmpR_lays _ _ _ _)
    have hcon := hcon (holds_ownR ho) hlt (by simp; omega)
    change Calls Tryz.prog 58 _ _ _ at hcon
    rw [List.size_toArray, hl] at hcon
    refine hcon.mono fun e w' ⟨he, d', q, os, hp, hs, hw⟩ => ?_
    subst hw
    obtain ⟨hsz0, -, hperm⟩ := hp
    have hsz : d'.size = n := by rw [hsz0]; simpa using hl
    have e1 : d'.extract 0 n = d' := by rw [← hsz]; exact Array.extract_size
    have e2 : L.toArray.extract 0 n = L.toArray := by rw [show n = L.toArray.size by simpa using hl.symm]; exact Array.extract_size
    rw [e1, e2] at hperm
    have hmem : ∀ x, x ∈ d'.toList ↔ x ∈ L := fun x => hperm.mem_iff
    have hgd : ∀ i, i < n → d'.toList.getD i default = d'[i]! := fun i hi => by
      rw [List.getD_eq_getElem?_getD, List.getElem?_eq_getElem (by simpa [hsz] using hi), getElem!_pos d' i (by rw [hsz]; exact hi)]
      simp
    refine ⟨he, d'.toList, ?_, hmem, by simpa using hsz, fun i j hij hj => ?_, ?_⟩
    · have h9 := own_sortedK (q := q) (os := os) (ys := flatK encR 9 d') ho (by simp [hsz])
      rw [show (flatK encR 9 d').toList = rkC d'.toList from by have := flat_rk d'.toList; simpa using this] at h9
      exact h9
    · have hj' : j < n := by simpa [hsz] using hj
      rw [hgd i (by omega), hgd j hj']
      exact hs i j (Nat.zero_le _) hij hj'
    · have hbs := below_sortedK (q := q) (os := os) (ys := flatK encR 9 d') (RowKit.Below.refl base w) hbase hb
      refine ⟨rfl, rfl, rfl, hbs.size, fun k hk hne => ?_⟩
      have hkg : g ≠ k := fun e => hne (by subst e; rfl)
      show ((w.heap.modify g (onCells (putCells id 0 (flatK encR 9 d')))) ++ os)[k]? = _
      rw [Array.getElem?_append_left (by simpa using hk), Array.getElem?_modify, if_neg hkg]
end Go.Proofs.YtaajnmggbhnndaaGreatDoor

namespace Go.Proofs.YtaajnmggbhnndaaGreatDoor.Cut
set_option linter.unusedVariables false
set_option linter.unusedSimpArgs false
theorem r8_rank (d l : List Int) : r8 (rankOf d l) = rankOf d l := rfl
/-- what is made of so many pairs, one by one -/
def msTo (a b : List (List Int)) (k : Int) (n : Nat) : List (List Int) := ((pairs a b).take n).filterMap fun p => merge p.1 p.2 k
theorem msTo_next {a b : List (List Int)} {k : Int} {i j : Nat} (hi : i < a.length) (hj : j < b.length) : msTo a b k (i * b.length + j + 1) = match merge a[i] b[j] k with
    | none => msTo a b k (i * b.length + j)
    | some x => msTo a b k (i * b.length + j) ++ [x] := by
  unfold msTo
  have h := pairs_at a b i j hi hj
  obtain ⟨hlt, he⟩ := List.getElem?_eq_some_iff.1 h
  rw [List.take_succ_eq_append_getElem hlt, List.filterMap_append, he]
  cases hm : merge a[i] b[j] k <;> simp [hm]
theorem msTo_all (a b : List (List Int)) (k : Int) (y : List Int) : y ∈ msTo a b k (a.length * b.length) ↔ ∃ p ∈ pairs a b, merge p.1 p.2 k = some y := by
  unfold msTo
  rw [← pairs_len, List.take_length, List.mem_filterMap]
end Go.Proofs.YtaajnmggbhnndaaGreatDoor.Cut
namespace Go.Proofs.YtaajnmggbhnndaaGreatDoor
open Go.RowKit Go.Shelf Go.Lib Go.Sort
set_option linter.unusedVariables false
set_option linter.unusedSimpArgs false
/-- ranked sets as they should be -/
def RkOk (d : List Int) (N : Nat) (rs : List RK) : Prop := ∀ x ∈ rs, x.1 = Cut.rankOf d x.2.2.2 ∧ NodesIn N x.2.2.2 ∧ x.2.2.2.length ≤ 6
def rlv (rs : List RK) : List (List Int) := rs.map fun x => x.2.2.2
theorem kof_ok {d : List Int} {N : Nat} {rs : List RK} (h : RkOk d N rs) {x : RK} (hx : x ∈ rs) : kof x = Cut.rankOf d x.2.2.2 := by
  unfold kof; rw [(h x hx).1, Cut.r8_rank]
/-- put in order, those alike made one: the sets of a gate -/
theorem cpt_gate {d : List Int} {N : Nat} {k : Int} {a b : List (List Int)} {rs L : List RK} (hok : RkOk d N rs) (hrs : rlv rs = Cut.msTo a b k (a.length * b.length)) (hmem : ∀ x, x ∈ L ↔ x ∈ rs)
    (hs : ∀ i j, i < j → j < L.length → ltOf cmpR (L.getD j default) (L.getD i default) = false) : rlv (cpt kof L) = Cut.gateAll d a b k := by
  have hokL : RkOk d N L := fun x hx => hok x ((hmem x).1 hx)
  have hsub : ∀ x ∈ cpt kof L, x ∈ L := fun x hx => by
    have := cptTo_mem (f := kof) (L := L) L.length (Nat.le_refl _) x hx
    rwa [List.take_length] at this
  have hf := Cut.fold_sorted d k (Cut.pairs a b) [] (by simp) (by simp)
  refine Cut.sorted_uniq (Cut.Lt d) (Cut.Lt.irrefl d) (fun x y z => Cut.Lt.trans) ?_ hf.1 (fun y => ?_)
  · have hr := cptTo_rise (f := kof) (L := L) (fun u v => Cut.cmpL u v < 0) (fun u v z h1 h2 => (Cut.cmpL_trans u v z (Int.le_of_lt h1) (Int.le_of_lt h2)).2 (.inl h1)) (fun i j hij hj => by
      have h := hs i j hij hj
      unfold ltOf cmpR at h
      have h1 := of_decide_eq_false h
      have s1 := Cut.cmpL_swap (kof (L.getD i default)) (kof (L.getD j default))
      have s2 := Cut.cmpL_eq (kof (L.getD i default)) (kof (L.getD j default))
      by_cases h0 : Cut.cmpL (kof (L.getD i default)) (kof (L.getD j default)) = 0
      · exact .inr (s2.1 h0)
      · exact .inl (by omega)) L.length (Nat.le_refl _)
    unfold rlv
    rw [List.pairwise_map]
    refine List.Pairwise.imp_of_mem (fun {x y} hx hy h => ?_) hr
    unfold Cut.Lt
    rw [← kof_ok hokL (hsub x hx), ← kof_ok hokL (hsub y hy)]
    exact h
  · show y ∈ rlv (cpt kof L) ↔ y ∈ (Cut.pairs a b).foldl (Cut.putM d k) []
    rw [hf.2 y, ← Cut.msTo_all, ← hrs]
    constructor
    · intro h
      obtain ⟨x, hx, rfl⟩ := List.mem_map.1 h
      exact .inr (List.mem_map.2 ⟨x, (hmem x).1 (hsub x hx), rfl⟩)
    · rintro (h | h)
      · cases h
      · obtain ⟨x, hx, rfl⟩ := List.mem_map.1 h
        have hxL := (hmem x).2 hx
        obtain ⟨z, hz, e⟩ := cptTo_key (f := kof) (L := L) L.length (Nat.le_refl _) x (by rwa [List.take_length])
        refine List.mem_map.2 ⟨z, hz, ?_⟩
        have hzL := hsub z hz
        rw [kof_ok hokL hzL, kof_ok hokL hxL] at e
        exact Cut.rank_inj d (hokL z hzL).2.2 (hokL x hxL).2.2 e
theorem OwnL.sl {base : Nat} {w : World} {l : SL} (h : OwnL base w l) : SLIn w l := Rd.of_own h
theorem own_types {w : World} {b b' s s' n n' g : Nat} {e e' : TypeId} {v v' : Value} {xs xs' : List Value} (h : w.ownsRow b e s v n xs) (h' : w.ownsRow b' e' s' v' n' xs') (hne : e ≠ e') (hg : v.ownBlock = some g) : v'.ownBlock ≠ some g := by
  intro hg'
  obtain ⟨cs, hb⟩ := own_int h hg
  obtain ⟨cs', hb'⟩ := own_int h' hg'
  exact Blk.other hb hb' hne rfl
theorem OwnL.grown {base : Nat} {w w' : World} {l : SL} (h : OwnL base w l) {b s n : Nat} {v : Value} {xs : List Value} (ho : w.ownsRow b 102 s v n xs) (hg : w.grownBy w' v.ownBlock) : OwnL base w' l := by
  refine h.kept hg ?_
  cases hl : (slv l).ownBlock with
  | none => exact .inl rfl
  | some gl => exact .inr (fun e => own_types ho h (by decide) e.symm hl)
theorem OwnL.chg {base : Nat} {w w' : World} {l : SL} (h : OwnL base w l) {b s n c k : Nat} {A : Option Addr} {xs : List Value} (ho : w.ownsRow b 102 s (.slice A k c) n xs) (hg : Chg w w' fun k => some k = blkOf A) : OwnL base w' l := by
  refine hg.own h (fun g hgl he => ?_)
  have := own_types ho h (by decide) (g := g) (by rw [own_blk]; exact he.symm)
  exact this hgl
theorem size_int1 : (Tryz.prog.info? 3).map (·.size) = some 1 := by kernel_rfl
theorem six_splice (dz n : Int) : ∀ z : List Int, z.length ≤ 6 → splice [.int .i64 dz, .int .i64 n, .int .i64 0, .int .i64 0, .int .i64 0, .int .i64 0, .int .i64 0, .int .i64 0] 2 (ints z) = ints (dz :: n :: (List.range 6).map fun i => z.getD i 0)
  | [], _ => rfl
  | [_], _ => rfl
  | [_, _], _ => rfl
  | [_, _, _], _ => rfl
  | [_, _, _, _], _ => rfl
  | [_, _, _, _, _], _ => rfl
  | [_, _, _, _, _, _], _ => rfl
  | _ :: _ :: _ :: _ :: _ :: _ :: _ :: _, h => absurd h (by simp)
theorem rd_newK (w : World) (t : TypeId) (cs : List Value) (sz n : Nat) (h : cs.length = n * sz) : Rd (w.alloc (.cells cs.toArray t)) sz (some ⟨w.heap.size, 0, none⟩) n n cs := by
  refine ⟨h, Nat.le_refl _, fun h => (by cases h), fun j u hj => ?_⟩
  exact (rd_new w t cs).read j u hj
theorem cells9_one (r0 r1 r2 r3 r4 r5 r6 r7 : Int) (A : Option Addr) (n c : Nat) : ∀ u ∈ [Value.int .i64 r0, .int .i64 r1, .int .i64 r2, .int .i64 r3, .int .i64 r4, .int .i64 r5, .int .i64 r6, .int .i64 r7, .slice A n c], u.oneCell' = true := by
  intro u hu
  simp at hu
  rcases hu with rfl | rfl | rfl | rfl | rfl | rfl | rfl | rfl | rfl <;> rfl
def SetsOut (d : List Int) (N : Nat) (L : List (List Int)) (w : World) (r : Ending) (w' : World) : Prop :=
  ∃ A c rs, r = .returned (.slice A (rs : List RK).length c) ∧ Below w.heap.size w w' ∧ w'.ownsRow w.heap.size 102 9 (.slice A rs.length c) rs.length (rkC rs) ∧ (∀ x ∈ rs, OwnL w.heap.size w' x.2) ∧ RkOk d N rs ∧ rlv rs = L
theorem cutZero (w : World) : (zeroValue 64).run Tryz.prog w = .ok (.agg #[.slice none 0 0, .int .u64 0]) w := by kernel_rfl
theorem ranked_info : (Tryz.prog.info? 102).map (fun i => (i.zero, i.size, i.bytes)) = some (some (.agg #[.int .i64 0, .int .i64 0, .int .i64 0, .int .i64 0, .int .i64 0, .int .i64 0, .int .i64 0, .int .i64 0, .slice none 0 0]), 9, 88) := by kernel_rfl
set_option maxRecDepth 100000 in
set_option maxHeartbeats 8000000 in
theorem csets_any (D A B : Option Addr) (cd ca cb N : Nat) (d : List Int) (xs ys : List CT) (k : Int) (w : World) (hd : DepIn w D cd N d) (ha : CutsIn w A ca xs) (hb : CutsIn w B cb ys) (hla : LvIn N xs) (hlb : LvIn N ys) (hna : xs.length ≤ 50) (hnb : ys.length ≤ 50) (hne : Cut.msTo (lvs xs) (lvs ys) k (xs.length * ys.length) ≠ []) :
    Calls Tryz.prog 47 #[.slice D N cd, .slice A xs.length ca, .slice B ys.length cb, .int .i64 k] w (SetsOut d N (Cut.gate d (lvs xs) (lvs ys) k) w) := by
  have HMG := Lib.hid (fun (W : World) (hB : Below w.heap.size w W) (i j : Nat) (hi : i < xs.length) (hj : j < ys.length) => cmerge_any xs[i].1.1 ys[j].1.1 xs[i].1.2.1 ys[j].1.2.1 xs[i].1.2.2 ys[j].1.2.2 k W (Rd.later (ha.all _ (List.getElem_mem hi)) hB) (Rd.later (hb.all _ (List.getElem_mem hj)) hB) (by have := (hla _ (List.getElem_mem hi)).2; omega) (by have := (hlb _ (List.getElem_mem hj)).2; omega))
  have HDE := Lib.hid (fun (W : World) (hB : Below w.heap.size w W) (X : Option Addr) (cx : Nat) (l : List Int) (h1 : Rd W 1 X l.length cx (ints l)) (h2 : NodesIn N l) (h3 : l.length ≤ 6) => cdepth_any D X cd cx N d l W (hd.later hB) h1 h2 (by omega))
  have HA := Lib.hid ha
  have HB := Lib.hid hb
  have HLA := Lib.hid hla
  have HLB := Lib.hid hlb
  have HDB := Lib.hid (fun l => Cut.deep_bound (d := d) (l := l) (M := 1000000) (by omega) hd.small)
  obtain ⟨n, hn⟩ : ∃ n, xs.length = n := ⟨_, rfl⟩
  obtain ⟨m, hm⟩ : ∃ n, ys.length = n := ⟨_, rfl⟩
  have HN := Lib.hid hn
  have HM := Lib.hid hm
  rw [hn, hm] at hne
  have HNE := Lib.hid hne
  clear hne
  rw [hn] at hna ⊢
  rw [hm] at hnb ⊢
  have hGN : ∀ (i j : Nat) (hi : i < xs.length) (hj : j < ys.length), Cut.msTo (lvs xs) (lvs ys) k (i * m + j + 1) = match Cut.merge xs[i].1.2.2 ys[j].1.2.2 k with
    | none => Cut.msTo (lvs xs) (lvs ys) k (i * m + j)
    | some x => Cut.msTo (lvs xs) (lvs ys) k (i * m + j) ++ [x] := fun i j hi hj => by
    have h := Cut.msTo_next (k := k) (a := lvs xs) (b := lvs ys) (i := i) (j := j) (by rw [lvs_length]; exact hi) (by rw [lvs_length]; exact hj)
    simp only [lvs_length, hm, lvs_at hi, lvs_at hj] at h
    exact h
  have HGN := Lib.hid hGN
  have HALL := Lib.hid (fun (rs L : List RK) (hok : RkOk d N rs) (hrs : rlv rs = Cut.msTo (lvs xs) (lvs ys) k (n * m)) hmem hs => cpt_gate (d := d) (N := N) (k := k) (a := lvs xs) (b := lvs ys) (rs := rs) (L := L) hok (by rw [lvs_length, lvs_length, hn, hm]; exact hrs) hmem hs)
  clear hd ha hb hla hlb hn hm hGN
  go_enter Tryz.func47, Tryz.ntmps47
  go_wp2_with fail
  go_loopw [9, 19] (fun v9 v19 wx => ∃ (i : Nat) (AL : Option Addr) (cL : Nat) (rs : List RK), i ≤ n ∧ v19 = .int .i64 (i : Int) ∧ v9 = .slice AL rs.length cL ∧ rlv rs = Cut.msTo (lvs xs) (lvs ys) k (i * m) ∧ rs.length ≤ i * m ∧ wx.ownsRow w.heap.size 102 9 (.slice AL rs.length cL) rs.length (rkC rs) ∧ (∀ x ∈ rs, OwnL w.heap.size wx x.2) ∧ RkOk d N rs ∧ Below w.heap.size w wx) (fun _ v19 _ => n - (intOf v19).toNat)
  case atStart => exact ⟨0, none, 0, [], by omega, rfl, rfl, by rw [Nat.zero_mul]; rfl, by simp, World.ownsRow_nil _ _ _ _, fun l hl => (by cases hl), fun l hl => (by cases hl), Below.refl _ _⟩
  case round =>
    obtain ⟨i, AL, cL, rs, hi, rfl, rfl, hcon, hlen, hown, hSL, hok, hB⟩ := hrel
    have HCON := Lib.hid hcon
    have HO := Lib.hid hown
    have HS := Lib.hid hSL
    have HOK := Lib.hid hok
    have B1 := Lib.hid hB
    clear hcon hSL hown hok hB
    by_cases hin : i < n
    case neg =>
      obtain rfl : i = n := by omega
      have HALL2 := Lib.hid (fun L hmem hs => HALL.out rs L HOK.out HCON.out hmem hs)
      have hpos : 0 < rs.length := by
        rcases Nat.eq_zero_or_pos rs.length with h0 | h0
        · have hz : rs = [] := List.eq_nil_of_length_eq_zero h0
          exact absurd (by rw [← HCON.out, hz]; rfl) HNE.out
        · exact h0
      have hlen2 : rs.length ≤ 2500 := Nat.le_trans hlen (Nat.le_trans (Nat.mul_le_mul hna hnb) (by omega))
      go_wp2_with fail
      refine (sortR_any wr w.heap.size AL rs.length cL rs HO.out B1.out.size (by omega) hpos).mono ?_
      rintro e w2 ⟨rfl, L, hown2, hmem, hll, hs2, hchg2⟩
      have O2 := Lib.hid hown2
      have HME := Lib.hid hmem
      have HRES := Lib.hid (HALL2.out L hmem hs2)
      have B2 := Lib.hid (hchg2.below B1.out B1.out.size (fun q hq => own_base HO.out (by rw [own_blk]; exact hq.symm)))
      have S2 := Lib.hid (show ∀ x ∈ rs, OwnL w.heap.size w2 x.2 from fun x hx => (HS.out x hx).chg HO.out hchg2)
      clear hown2 hmem hs2 hchg2
      go_wp2_with fail
      have hco := compactF_any w2 w.heap.size AL rs.length cL L O2.out B2.out.size (by omega)
      unfold CptROut at hco
      refine hco.mono ?_
      rintro e w3 ⟨rfl, hown3, hchg3⟩
      have B3 := Lib.hid (hchg3.below B2.out B2.out.size (fun q hq => own_base O2.out (by rw [own_blk]; exact hq.symm)))
      have S3 := Lib.hid (show ∀ x ∈ rs, OwnL w.heap.size w3 x.2 from fun x hx => (S2.out x hx).chg O2.out hchg3)
      have R3 := Lib.hid hown3
      have hsub : ∀ x ∈ cpt kof L, x ∈ rs := fun x hx => by
        have h := cptTo_mem (f := kof) (L := L) L.length (Nat.le_refl _) x hx
        rw [List.take_length] at h
        exact (HME.out x).1 h
      have HSUB := Lib.hid hsub
      clear hown3 hchg3 hco hsub
      obtain ⟨R, hR⟩ : ∃ R, cpt kof L = R := ⟨_, rfl⟩
      rw [hR] at R3 HSUB HRES ⊢
      have hcc := (Rd.of_own R3.out).cap
      have hln : (min (R.length : Int) 8).toNat = (R.take 8).length := by rw [List.length_take]; omega
      have HLN := Lib.hid hln
      clear hln hR
      go_wp2_with fail
      go_ret
      refine ⟨AL, cL, R.take 8, ?_, B3.out, ?_, fun x hx => S3.out x (HSUB.out x (List.mem_of_mem_take hx)), fun x hx => HOK.out x (HSUB.out x (List.mem_of_mem_take hx)), ?_⟩
      · rw [← HLN.out]; rfl
      · have e8 : (rkC R).take ((R.take 8).length * 9) = rkC (R.take 8) := by
          have e : rkC R = rkC (R.take 8) ++ rkC (R.drop 8) := by rw [← rkC_append, List.take_append_drop]
          rw [e, List.take_append_of_le_length (by rw [rkC_length]; exact Nat.le_refl _), List.take_of_length_le (by rw [rkC_length]; exact Nat.le_refl _)]
        exact own_take R3.out (by rw [List.length_take]; exact Nat.min_le_right _ _) e8.symm (fun h0 => by have hz : R = [] := List.eq_nil_of_length_eq_zero h0; rw [hz]; exact ⟨rfl, rfl⟩)
      · unfold Cut.gate
        rw [← HRES.out]; simp [rlv, List.map_take]
    have hin' : (i : Int) < (n : Int) := by omega
    have hix : i < xs.length := by rw [HN.out]; exact hin
    obtain ⟨a, hA, hab, d0, d1, -⟩ := HA.out.at_ hix
    subst hA
    have f0 := (B1.out.cell (p := a.add (i * 2)) (by rw [add_block]; exact hab)).trans d0
    have f1 := (B1.out.cell (p := ⟨(a.add (i * 2)).block, (a.add (i * 2)).off + 1, none⟩) (by show (a.add (i * 2)).block < _; rw [add_block]; exact hab)).trans d1
    obtain ⟨x, hxx⟩ : ∃ x, xs[i] = x := ⟨_, rfl⟩
    have HX := Lib.hid hxx
    rw [hxx] at f0 f1
    simp only [slv] at f0
    clear d0 d1 hxx
    have X1 := Lib.hid (Blk.made wr 64 #[.slice x.1.1 x.1.2.2.length x.1.2.1, .int .u64 (x.2 : Int)])
    have B2 := Lib.hid (below_then B1.out (below_new wr (.cells #[.slice x.1.1 x.1.2.2.length x.1.2.1, .int .u64 (x.2 : Int)] 64)))
    have hcz := cutZero
    have O2 := Lib.hid (HO.out.alloc (.cells #[.slice x.1.1 x.1.2.2.length x.1.2.1, .int .u64 (x.2 : Int)] 64))
    have S2 := Lib.hid (show ∀ z ∈ rs, OwnL w.heap.size (wr.alloc (.cells #[.slice x.1.1 x.1.2.2.length x.1.2.1, .int .u64 (x.2 : Int)] 64)) z.2 from fun z hz => (HS.out z hz).later (below_new _ _))
    go_wp2_with fail
    clear f0 f1 HO HS B1
    generalize wr.alloc (.cells #[.slice x.1.1 x.1.2.2.length x.1.2.1, .int .u64 (x.2 : Int)] 64) = w2 at X1 B2 O2 S2 ⊢
    obtain ⟨bx, hbx⟩ : ∃ b, wr.heap.size = b := ⟨_, rfl⟩
    rw [hbx] at X1 ⊢
    clear hbx
    go_loopw [9, 25] (fun v9 v25 wx => ∃ (j : Nat) (AM : Option Addr) (cM : Nat) (ms : List RK), j ≤ m ∧ v25 = .int .i64 (j : Int) ∧ v9 = .slice AM ms.length cM ∧ rlv ms = Cut.msTo (lvs xs) (lvs ys) k (i * m + j) ∧ ms.length ≤ i * m + j ∧ wx.ownsRow w.heap.size 102 9 (.slice AM ms.length cM) ms.length (rkC ms) ∧ (∀ x ∈ ms, OwnL w.heap.size wx x.2) ∧ RkOk d N ms ∧ Blk wx bx 64 #[.slice x.1.1 x.1.2.2.length x.1.2.1, .int .u64 (x.2 : Int)] ∧ Below w.heap.size w wx) (fun _ v25 _ => m - (intOf v25).toNat)
    case atStart => exact ⟨0, AL, cL, rs, by omega, rfl, rfl, HCON.out, hlen, O2.out, S2.out, HOK.out, X1.out, B2.out⟩
    case round =>
      clear HCON X1 O2 S2 B2 hlen HOK
      obtain ⟨j, AM, cM, ms, hj, rfl, rfl, hcon, hlen, hown, hSL, hok, hX, hB⟩ := hrel
      have HCON := Lib.hid hcon
      have HO := Lib.hid hown
      have HS := Lib.hid hSL
      have HOK := Lib.hid hok
      have X1 := Lib.hid hX
      have B1 := Lib.hid hB
      have him : i * m ≤ 2500 := Nat.le_trans (Nat.mul_le_mul (by omega : i ≤ 50) hnb) (by omega)
      clear hcon hown hSL hok hX hB
      by_cases hjm : j < m
      case neg =>
        obtain rfl : j = m := by omega
        have HCO2 := Lib.hid (show rlv ms = Cut.msTo (lvs xs) (lvs ys) k ((i + 1) * j) by rw [Nat.add_mul, Nat.one_mul]; exact HCON.out)
        have hlen2 : ms.length ≤ (i + 1) * j := by rw [Nat.add_mul, Nat.one_mul]; exact hlen
        clear HCON
        go_wp2_with fail
        go_roundw
        case rel => exact ⟨i + 1, AM, cM, ms, by omega, by go_num, rfl, HCO2.out, hlen2, HO.out, HS.out, HOK.out, B1.out⟩
        case measure => simp [intOf]; omega
      have hjm' : (j : Int) < (m : Int) := by omega
      have hjy : j < ys.length := by rw [HM.out]; exact hjm
      obtain ⟨b, hBB, hbb, d0, d1, -⟩ := HB.out.at_ hjy
      subst hBB
      have f0 := (B1.out.cell (p := b.add (j * 2)) (by rw [add_block]; exact hbb)).trans d0
      have f1 := (B1.out.cell (p := ⟨(b.add (j * 2)).block, (b.add (j * 2)).off + 1, none⟩) (by show (b.add (j * 2)).block < _; rw [add_block]; exact hbb)).trans d1
      have hgn := HGN.out i j hix hjy
      have hmg := fun (W : World) (hB : Below w.heap.size w W) => HMG.out W hB i j hix hjy
      rw [HX.out] at hgn hmg
      have HG1 := Lib.hid hgn
      have HM1 := Lib.hid hmg
      have hl1 := HLA.out _ (List.getElem_mem hix)
      rw [HX.out] at hl1
      have HL1 := Lib.hid hl1
      have HL2 := Lib.hid (HLB.out _ (List.getElem_mem hjy))
      clear d0 d1 hgn hmg hl1
      generalize ys[j] = y at f0 f1 HG1 HM1 HL2
      simp only [slv] at f0
      have Y1 := Lib.hid (Blk.made wr 64 #[.slice y.1.1 y.1.2.2.length y.1.2.1, .int .u64 (y.2 : Int)])
      have X2 := Lib.hid (X1.out.alloc (.cells #[.slice y.1.1 y.1.2.2.length y.1.2.1, .int .u64 (y.2 : Int)] 64))
      have B2 := Lib.hid (below_then B1.out (below_new wr (.cells #[.slice y.1.1 y.1.2.2.length y.1.2.1, .int .u64 (y.2 : Int)] 64)))
      have O2 := Lib.hid (HO.out.alloc (.cells #[.slice y.1.1 y.1.2.2.length y.1.2.1, .int .u64 (y.2 : Int)] 64))
      have S2 := Lib.hid (show ∀ z ∈ ms, OwnL w.heap.size (wr.alloc (.cells #[.slice y.1.1 y.1.2.2.length y.1.2.1, .int .u64 (y.2 : Int)] 64)) z.2 from fun z hz => (HS.out z hz).later (below_new _ _))
      go_upto_region 8 with (fail)
      clear f0 f1 HO HS B1 X1
      generalize wr.alloc (.cells #[.slice y.1.1 y.1.2.2.length y.1.2.1, .int .u64 (y.2 : Int)] 64) = w3 at Y1 X2 B2 O2 S2 ⊢
      obtain ⟨bby, hby⟩ : ∃ b, wr.heap.size = b := ⟨_, rfl⟩
      rw [hby] at Y1 ⊢
      have g0 := X2.out.cell 0
      have g1 := Y1.out.cell 0
      clear hby
      go_wp2_with fail
      refine (HM1.out _ B2.out).mono ?_
      rintro e w4 ⟨A4, c4, rfl, hb4, ho4⟩
      have B4 := Lib.hid (below_then B2.out hb4)
      have O4 := Lib.hid (own_keep O2.out hb4)
      have S4 := Lib.hid (show ∀ z ∈ ms, OwnL w.heap.size w4 z.2 from fun z hz => (S2.out z hz).later hb4)
      have X4 := Lib.hid (X2.out.keep hb4)
      have L4 := Lib.hid (own_down ho4 (base' := w.heap.size) B2.out.size)
      clear hb4 ho4 g0 g1
      have hme := fun z (h : Cut.merge x.1.2.2 y.1.2.2 k = some z) => Cut.merge_mem h
      have HME := Lib.hid hme
      clear hme
      obtain ⟨o, ho⟩ : ∃ o, Cut.merge x.1.2.2 y.1.2.2 k = o := ⟨_, rfl⟩
      rw [ho] at HME HG1 L4 ⊢
      clear ho
      cases o with
      | none =>
        simp only [Option.getD_none, Option.isSome_none, List.length_nil]
        have HG2 := Lib.hid (show Cut.msTo (lvs xs) (lvs ys) k (i * m + j + 1) = Cut.msTo (lvs xs) (lvs ys) k (i * m + j) from HG1.out)
        go_wp2_with fail
        go_roundw
        case rel => exact ⟨j + 1, AM, cM, ms, by omega, by go_num, rfl, HCON.out.trans HG2.out.symm, by omega, O4.out, S4.out, HOK.out, X4.out, B4.out⟩
        case measure => simp [intOf]; omega
      | some z =>
        simp only [Option.getD_some, Option.isSome_some]
        obtain ⟨-, -, hz1, hz2, hz3⟩ := HME.out z rfl
        have hzl : z.length ≤ 6 := by omega
        have hzn : NodesIn N z := fun t ht => by rcases hz3 t ht with h | h; exact HL1.out.1 t h; exact HL2.out.1 t h
        have HZN := Lib.hid hzn
        have HG2 := Lib.hid (show Cut.msTo (lvs xs) (lvs ys) k (i * m + j + 1) = Cut.msTo (lvs xs) (lvs ys) k (i * m + j) ++ [z] from HG1.out)
        have L4' := Lib.hid (show w4.ownsRow w.heap.size 3 1 (.slice A4 z.length c4) z.length (ints z) from L4.out)
        have hdep := HDE.out w4 B4.out A4 c4 z (Rd.of_own L4'.out) hzn hzl
        have hdb := HDB.out z
        have HRO := Lib.hid (show Cut.rankOf d z = Cut.deep d z :: (z.length : Int) :: (List.range 6).map (fun i => z.getD i 0) from rfl)
        generalize Cut.deep d z = dz at hdep hdb HRO
        have HDP := Lib.hid hdep
        obtain ⟨hd1, hd2⟩ := hdb
        clear hdep hz1 hz2 hz3 hzn L4
        go_wp2_with fail
        refine HDP.out.mono ?_
        rintro e w5 ⟨rfl, hb5⟩
        have B5 := Lib.hid (below_then B4.out hb5)
        have O5 := Lib.hid (own_keep O4.out hb5)
        have S5 := Lib.hid (show ∀ z ∈ ms, OwnL w.heap.size w5 z.2 from fun z hz => (S4.out z hz).later hb5)
        have X5 := Lib.hid (X4.out.keep hb5)
        have L5 := Lib.hid (own_keep L4'.out hb5)
        clear hb5 S4 O4 X4 L4' B4 HDP
        go_upto_region 11 with (fail)
        have R6 := Lib.hid (show (w5.alloc (.cells #[.int .i64 dz, .int .i64 (z.length : Int), .int .i64 0, .int .i64 0, .int .i64 0, .int .i64 0, .int .i64 0, .int .i64 0] 100)).heap[w5.heap.size]? = some (.cells ([.int .i64 dz, .int .i64 (z.length : Int), .int .i64 0, .int .i64 0, .int .i64 0, .int .i64 0, .int .i64 0, .int .i64 0] : List Value).toArray 100 (0, 0)) from Blk.made w5 100 (([.int .i64 dz, .int .i64 (z.length : Int), .int .i64 0, .int .i64 0, .int .i64 0, .int .i64 0, .int .i64 0, .int .i64 0] : List Value)).toArray)
        have HZL := Lib.hid hzl
        have HL5 := Lib.hid (Rd.later (Rd.of_own L5.out) (below_new w5 (.cells #[.int .i64 dz, .int .i64 (z.length : Int), .int .i64 0, .int .i64 0, .int .i64 0, .int .i64 0, .int .i64 0, .int .i64 0] 100)))
        have B6 := Lib.hid (below_new w5 (.cells #[.int .i64 dz, .int .i64 (z.length : Int), .int .i64 0, .int .i64 0, .int .i64 0, .int .i64 0, .int .i64 0, .int .i64 0] 100))
        have HSP := Lib.hid (six_splice dz (z.length : Int) z hzl)
        rw [← HRO.out] at HSP
        obtain ⟨r0, r1, r2, r3, r4, r5, r6, r7, hr⟩ : ∃ r0 r1 r2 r3 r4 r5 r6 r7, Cut.rankOf d z = [r0, r1, r2, r3, r4, r5, r6, r7] := ⟨_, _, _, _, _, _, _, _, rfl⟩
        rw [hr] at HSP
        have HRR := Lib.hid hr
        clear hr HRO
        go_upto_region 12 with (with_reducible refine wpList_copy_splice rfl (.tmp 46) (.tmp 47) 24 24 rfl 3 Tryz.underlying24 size_int1 (some ⟨w5.heap.size, 2, none⟩) A4 6 6 z.length c4 rfl rfl w5.heap.size 2 [.int .i64 dz, .int .i64 (z.length : Int), .int .i64 0, .int .i64 0, .int .i64 0, .int .i64 0, .int .i64 0, .int .i64 0] 100 R6.out (ints z) ?c0 ?c1 ?c2 (fun v hv => ints_one hv) w5.heap.size w5 B6.out (Nat.le_refl _) ?_)
        case c0 => rw [ints_length]; exact (Nat.min_eq_left HZL.out).symm
        case c1 =>
          intro hpos
          obtain ⟨ad, hA4⟩ : ∃ ad, A4 = some ad := by
            cases A4 with
            | none => have h1 := HL5.out.nil rfl; have h2 := HL5.out.cap; rw [ints_length] at hpos; omega
            | some ad => exact ⟨ad, rfl⟩
          refine ⟨ad, hA4, fun j v hj => ?_⟩
          obtain ⟨a', e, -, hc⟩ := HL5.out.read j v hj
          rw [hA4] at e
          obtain rfl := Option.some.inj e
          exact hc
        case c2 => rw [ints_length]; have := HZL.out; simp; omega
        intro w7 hg7 hb7
        have B7 := Lib.hid (below_then B5.out hb7)
        have O7 := Lib.hid (own_keep O5.out hb7)
        have S7 := Lib.hid (show ∀ z ∈ ms, OwnL w.heap.size w7 z.2 from fun z hz => (S5.out z hz).later hb7)
        have X7 := Lib.hid (X5.out.keep hb7)
        have L7 := Lib.hid (own_keep L5.out hb7)
        have R7 := Lib.hid (show Blk w7 w5.heap.size 100 #[.int .i64 r0, .int .i64 r1, .int .i64 r2, .int .i64 r3, .int .i64 r4, .int .i64 r5, .int .i64 r6, .int .i64 r7] from by
          have h := hg7.out
          rw [HSP.out] at h
          exact h)
        clear hg7 hb7 R6 HL5 B6 HSP S5 O5 X5 L5
        have k0 := R7.out.cell 0
        have k1 := R7.out.cell 1
        have k2 := R7.out.cell 2
        have k3 := R7.out.cell 3
        have k4 := R7.out.cell 4
        have k5 := R7.out.cell 5
        have k6 := R7.out.cell 6
        have k7 := R7.out.cell 7
        have RD7 := Lib.hid (rd_newK w7 102 [.int .i64 r0, .int .i64 r1, .int .i64 r2, .int .i64 r3, .int .i64 r4, .int .i64 r5, .int .i64 r6, .int .i64 r7, .slice A4 z.length c4] 9 1 rfl)
        have HS7 := Lib.hid (B7.out.size)
        have hml : ms.length + 1 ≤ 100000 := by omega
        go_wp2_with (at_builtin; refine wpList_app_row rfl (.tmp 49) (.tmp 53) 97 102 rfl Tryz.underlying97 _ 9 88 ranked_info rfl (by decide) (by decide) w.heap.size AM ms.length cM (rkC ms) rfl (O7.out.alloc _) (some ⟨w7.heap.size, 0, none⟩) 1 1 [.int .i64 r0, .int .i64 r1, .int .i64 r2, .int .i64 r3, .int .i64 r4, .int .i64 r5, .int .i64 r6, .int .i64 r7, .slice A4 z.length c4] rfl RD7.out (cells9_one _ _ _ _ _ _ _ _ _ _ _) (by omega) (Nat.le_trans HS7.out (by simp)) ?_; intro A8 c8 w8 hown8 hg8)
        have henc : rkC (ms ++ [((Cut.rankOf d z, (A4, c4, z)) : RK)]) = rkC ms ++ [.int .i64 r0, .int .i64 r1, .int .i64 r2, .int .i64 r3, .int .i64 r4, .int .i64 r5, .int .i64 r6, .int .i64 r7, .slice A4 z.length c4] := by
          rw [rkC_append, HRR.out]; rfl
        have hl8 : (ms ++ [((Cut.rankOf d z, (A4, c4, z)) : RK)]).length = ms.length + 1 := by simp
        have O8 := Lib.hid (show w8.ownsRow w.heap.size 102 9 (.slice A8 (ms ++ [((Cut.rankOf d z, (A4, c4, z)) : RK)]).length c8) (ms ++ [((Cut.rankOf d z, (A4, c4, z)) : RK)]).length (rkC (ms ++ [((Cut.rankOf d z, (A4, c4, z)) : RK)])) by rw [henc, hl8]; exact hown8)
        have S8 := Lib.hid (show ∀ x ∈ ms ++ [((Cut.rankOf d z, (A4, c4, z)) : RK)], OwnL w.heap.size w8 x.2 from fun x hx => by
          rcases List.mem_append.1 hx with h | h
          · exact ((S7.out x h).later (below_new _ _)).grown (O7.out.alloc _) hg8
          · rw [List.mem_singleton] at h
            subst h
            exact OwnL.grown (l := (A4, c4, z)) (OwnL.later (l := (A4, c4, z)) L7.out (below_new _ _)) (O7.out.alloc _) hg8)
        have K8 := Lib.hid (show RkOk d N (ms ++ [((Cut.rankOf d z, (A4, c4, z)) : RK)]) from fun x hx => by
          rcases List.mem_append.1 hx with h | h
          · exact HOK.out x h
          · rw [List.mem_singleton] at h
            subst h
            exact ⟨rfl, HZN.out, HZL.out⟩)
        have C8 := Lib.hid (show rlv (ms ++ [((Cut.rankOf d z, (A4, c4, z)) : RK)]) = Cut.msTo (lvs xs) (lvs ys) k (i * m + (j + 1)) from by
          have e : i * m + (j + 1) = i * m + j + 1 := by omega
          rw [e, HG2.out, ← HCON.out]; simp [rlv])
        have X8 := Lib.hid ((X7.out.alloc _).grown hg8 (fun h => own_other (O7.out) X7.out (by decide) h.symm))
        have B8 := Lib.hid ((below_then B7.out (below_new w7 _)).grown hg8 (Nat.le_trans HS7.out (by simp)) (fun q hq => own_base O7.out hq))
        have hl9 := Lib.hid hl8
        clear hown8 hg8 henc hl8 k0 k1 k2 k3 k4 k5 k6 k7
        go_wp2_with fail
        go_roundw
        case rel => exact ⟨j + 1, A8, c8, _, by omega, by go_num, by rw [hl9.out], C8.out, by rw [hl9.out]; omega, O8.out, S8.out, K8.out, X8.out, B8.out⟩
        case measure => simp [intOf]; omega
end Go.Proofs.YtaajnmggbhnndaaGreatDoor
