/- Blocks as plain data, and how they lie in memory; walks: is a wire bad; is any (filigree/pack's closure, slices.IndexFunc and slices.ContainsFunc at ints); pack.may. -/
import Derived.Test.YtoloaecbfglaeaaCfg
import Derived.Test.YtoloaecbfglaeaaFabA
import Derived.Test.YtoloaecbfglaeaaEdA
import Derived.Laws.Entries
import Derived.Outline
import Derived.BigQuiet
import Derived.Deep.QuietTactic
namespace Go.Proofs.Ytoloaecbfglaeaa
open Go.RowKit
set_option linter.unusedVariables false
set_option linter.unusedSimpArgs false

/-- a block: its inputs (address, capacity, numbers), table, flop?, set? -/
structure BL where
  A : Option Addr
  c : Nat
  l : List Int
  t : Int
  ff : Bool
  it : Bool
def BL.cells (b : BL) : List Value := [.slice b.A b.l.length b.c, .int .i64 b.t, .bool b.ff, .bool b.it]
def blocks4 (l : List BL) : List Value := l.flatMap BL.cells
theorem blocks4_length (l : List BL) : (blocks4 l).length = l.length * 4 := by
  induction l with
  | nil => rfl
  | cons t l ih => simp only [blocks4, List.flatMap_cons, List.length_append, List.length_cons] at ih ⊢; simp [BL.cells] at ih ⊢; omega
theorem blocks4_append (l m : List BL) : blocks4 (l ++ m) = blocks4 l ++ blocks4 m := by simp [blocks4]
theorem blocks4_get : ∀ (l : List BL) (k : Nat) (hk : k < l.length),
    (blocks4 l)[k * 4]? = some (.slice l[k].A l[k].l.length l[k].c) ∧ (blocks4 l)[k * 4 + 1]? = some (.int .i64 l[k].t) ∧ (blocks4 l)[k * 4 + 2]? = some (.bool l[k].ff) ∧ (blocks4 l)[k * 4 + 3]? = some (.bool l[k].it)
  | [], k, h => by simp at h
  | t :: l, 0, _ => by simp [blocks4, BL.cells]
  | t :: l, k + 1, h => by
    obtain ⟨h1, h2, h3, h4⟩ := blocks4_get l k (by simpa using h)
    have e : blocks4 (t :: l) = t.cells ++ blocks4 l := rfl
    rw [e, show (k + 1) * 4 = k * 4 + 4 by omega]
    have g : ∀ j, (t.cells ++ blocks4 l)[k * 4 + 4 + j]? = (blocks4 l)[k * 4 + j]? := fun j => by
      rw [List.getElem?_append_right (by simp [BL.cells]; omega)]
      congr 1
      simp [BL.cells]
      omega
    exact ⟨(g 0).trans h1, (g 1).trans h2, (g 2).trans h3, (g 3).trans h4⟩
theorem Rd.block {w : World} {A : Option Addr} {n c : Nat} {l : List BL} (h : Rd w 4 A n c (blocks4 l)) {k : Nat} (hk : k < l.length) :
    ∃ a, A = some a ∧ a.block < w.heap.size ∧ w.cell? (a.add (k * 4)) = some (.slice l[k].A l[k].l.length l[k].c) ∧ w.cell? ⟨(a.add (k * 4)).block, (a.add (k * 4)).off + 1, none⟩ = some (.int .i64 l[k].t) ∧
      w.cell? ⟨(a.add (k * 4)).block, (a.add (k * 4)).off + 2, none⟩ = some (.bool l[k].ff) ∧ w.cell? ⟨(a.add (k * 4)).block, (a.add (k * 4)).off + 3, none⟩ = some (.bool l[k].it) := by
  obtain ⟨g1, g2, g3, g4⟩ := blocks4_get l k hk
  obtain ⟨a, e, hb, h1⟩ := h.read _ _ g1
  obtain ⟨a2, e2, -, h2⟩ := h.read _ _ g2
  obtain ⟨a3, e3, -, h3⟩ := h.read _ _ g3
  obtain ⟨a4, e4, -, h4⟩ := h.read _ _ g4
  rw [e] at e2 e3 e4
  injection e2 with e2
  injection e3 with e3
  injection e4 with e4
  subst e2 e3 e4
  exact ⟨a, e, hb, h1, by rw [add_field a (k * 4) 1 (by omega)]; exact h2, by rw [add_field a (k * 4) 2 (by omega)]; exact h3, by rw [add_field a (k * 4) 3 (by omega)]; exact h4⟩

/-- blocks: inputs, blocks, outputs -/
structure PK where
  I : Int
  AB : Option Addr
  cB : Nat
  bs : List BL
  AO : Option Addr
  cO : Nat
  outs : List Int
abbrev PK.cells (P : PK) : Array Value := #[.int .i64 P.I, .slice P.AB P.bs.length P.cB, .slice P.AO P.outs.length P.cO]
structure PK.In (P : PK) (w : World) : Prop where
  blocks : Rd w 4 P.AB P.bs.length P.cB (blocks4 P.bs)
  each : ∀ b ∈ P.bs, Rd w 1 b.A b.l.length b.c (ints b.l)
  outs : Rd w 1 P.AO P.outs.length P.cO (ints P.outs)
theorem PK.In.later {P : PK} {w w' : World} (h : P.In w) (hb : Below w.heap.size w w') : P.In w' := ⟨h.blocks.later hb, fun b hm => (h.each b hm).later hb, h.outs.later hb⟩
/-- numbers are numbers; nothing is greater than memory -/
structure PK.fit (P : PK) : Prop where
  i : -9223372036854775808 ≤ P.I ∧ P.I ≤ 9223372036854775807
  n : P.bs.length ≤ 100000000
  t : ∀ b ∈ P.bs, -9223372036854775808 ≤ b.t ∧ b.t ≤ 9223372036854775807
  l : ∀ b ∈ P.bs, b.l.length ≤ 100000000
  o : P.outs.length ≤ 100000000
/-- how many wires there are -/
def PK.N (P : PK) : Int := P.I + (P.bs.length : Int)
def badB (N x : Int) : Bool := decide (x < 0) || decide (N ≤ x)
def BL.ok (N : Int) (b : BL) : Prop := b.l.length ≤ 4 ∧ b.l.any (badB N) = false ∧ (b.it = true → b.ff = true) ∧ 0 ≤ b.t ∧ b.t < 2 ^ 2 ^ b.l.length
instance (N : Int) (b : BL) : Decidable (b.ok N) := by unfold BL.ok; infer_instance
def PK.may (P : PK) : Prop := 0 ≤ P.I ∧ P.I ≤ 1024 ∧ P.bs.length ≤ 1024 ∧ (∀ b ∈ P.bs, b.ok P.N) ∧ P.outs.any (badB P.N) = false
instance (P : PK) : Decidable P.may := by unfold PK.may; infer_instance
theorem bad_no {N x : Int} (h : badB N x = false) : 0 ≤ x ∧ x < N := by
  simp only [badB, Bool.or_eq_false_iff, decide_eq_false_iff_not] at h; omega
theorem any_bad_no {N : Int} {l : List Int} (h : l.any (badB N) = false) : ∀ x ∈ l, 0 ≤ x ∧ x < N := fun x hx => bad_no (by
  rw [List.any_eq_false] at h; simpa using h x hx)

set_option maxRecDepth 100000 in
theorem bad_any (P : PK) (x : Int) (B : Nat) (w : World) (hi : 0 ≤ P.I ∧ P.I ≤ 1024) (hn : P.bs.length ≤ 1024) (h0 : w.cell? ⟨B, 0, none⟩ = some (.int .i64 P.I)) (h1 : w.cell? ⟨B, 1, none⟩ = some (.slice P.AB P.bs.length P.cB)) :
    Calls Try.prog 116 #[.int .i64 x, .pointer (some ⟨B, 0, none⟩)] w fun e w' => e = .returned (.bool (badB P.N x)) ∧ w = w' := by
  obtain ⟨o, ho⟩ : ∃ o, badB P.N x = o := ⟨_, rfl⟩
  have HO := Lib.hid ho
  rw [ho]
  clear ho
  obtain ⟨hi1, hi2⟩ := hi
  by_cases c1 : x < 0
  · go_enter Try.func116, Try.ntmps116
    go_wp2_with fail
    go_ret
    exact ⟨by rw [← HO.out]; simp [badB, c1], rfl⟩
  · by_cases c2 : P.I + (P.bs.length : Int) ≤ x
    all_goals
      go_enter Try.func116, Try.ntmps116
      go_wp2_with fail
      go_ret
      refine ⟨?_, rfl⟩
      have e : badB P.N x = decide (P.I + (P.bs.length : Int) ≤ x) := by unfold badB PK.N; rw [decide_eq_false (show ¬ x < 0 by omega)]; rfl
      rw [← HO.out, e]
      first | (rw [decide_eq_true c2]; rfl) | (rw [decide_eq_false (by omega)]; rfl)

def IndexB (N : Int) (l : List Int) (w : World) (e : Ending) (w' : World) : Prop := ∃ i : Int, e = .returned (.int .i64 i) ∧ (0 ≤ i ↔ l.any (badB N) = true) ∧ w = w'
set_option maxRecDepth 100000 in
set_option maxHeartbeats 1000000 in
theorem index_bad (P : PK) (B : Nat) (w : World) (A : Option Addr) (n c : Nat) (l : List Int) (hr : Rd w 1 A n c (ints l)) (hn : n ≤ 100000000) (hi : 0 ≤ P.I ∧ P.I ≤ 1024) (hnb : P.bs.length ≤ 1024)
    (h0 : w.cell? ⟨B, 0, none⟩ = some (.int .i64 P.I)) (h1 : w.cell? ⟨B, 1, none⟩ = some (.slice P.AB P.bs.length P.cB)) :
    Calls Try.prog 130 #[.slice A n c, .func (.func 116) #[] #[.pointer (some ⟨B, 0, none⟩)]] w (IndexB P.N l w) := by
  have hl : n = l.length := by have := hr.len; rw [ints_length] at this; omega
  have HL := Lib.hid hl
  have HR := Lib.hid hr
  have H0 := Lib.hid h0
  have H1 := Lib.hid h1
  clear hl hr h0 h1
  go_enter Try.func130, Try.ntmps130
  go_wp2_with fail
  go_loop [8] (fun i => ∃ k : Nat, k ≤ n ∧ i = .int .i64 (k : Int) ∧ (l.take k).any (badB P.N) = false) (fun i => n - (intOf i).toNat)
  case atStart => exact ⟨0, by omega, rfl, by simp⟩
  case round =>
    obtain ⟨k, hk, rfl, hno⟩ := hrel
    have HN := Lib.hid hno
    clear hno
    by_cases hlt : k < n
    · obtain ⟨a, rfl, hab, c0⟩ := HR.out.int hlt
      have hk' : k < l.length := by rw [← HL.out]; exact hlt
      have hg : l.getD k 0 = l[k] := by rw [List.getD_eq_getElem?_getD, List.getElem?_eq_getElem hk']; rfl
      rw [hg] at c0
      have htk : (l.take (k + 1)).any (badB P.N) = ((l.take k).any (badB P.N) || badB P.N l[k]) := by
        rw [List.take_succ_eq_append_getElem hk', List.any_append]; simp
      have hmem : badB P.N l[k] = true → l.any (badB P.N) = true := fun hx => List.any_eq_true.2 ⟨l[k], List.getElem_mem hk', hx⟩
      have HT := Lib.hid htk
      have HM := Lib.hid hmem
      clear htk hmem hg
      generalize l[k] = t at c0 HT HM
      go_wp2_with fail
      refine (bad_any P t B _ hi hnb H0.out H1.out).mono ?_
      rintro e w1 ⟨rfl, rfl⟩
      cases ho : badB P.N t with
      | true =>
        go_wp2_with fail
        go_ret
        exact ⟨(k : Int), rfl, ⟨fun _ => HM.out ho, fun _ => by omega⟩, rfl⟩
      | false =>
        go_wp2_with fail
        go_round
        case rel => exact ⟨k + 1, by omega, by go_num, by rw [HT.out, HN.out, ho]; rfl⟩
        case measure => simp [intOf]; omega
    · obtain rfl : k = n := by omega
      go_wp2_with fail
      go_ret
      refine ⟨-1, rfl, ⟨fun h => absurd h (by omega), fun h => ?_⟩, rfl⟩
      have := HN.out
      rw [List.take_of_length_le (by rw [← HL.out]; exact Nat.le_refl _)] at this
      rw [this] at h
      cases h

set_option maxRecDepth 100000 in
theorem contains_bad (P : PK) (B : Nat) (w : World) (A : Option Addr) (n c : Nat) (l : List Int) (hr : Rd w 1 A n c (ints l)) (hn : n ≤ 100000000) (hi : 0 ≤ P.I ∧ P.I ≤ 1024) (hnb : P.bs.length ≤ 1024)
    (h0 : w.cell? ⟨B, 0, none⟩ = some (.int .i64 P.I)) (h1 : w.cell? ⟨B, 1, none⟩ = some (.slice P.AB P.bs.length P.cB)) :
    Calls Try.prog 117 #[.slice A n c, .func (.func 116) #[] #[.pointer (some ⟨B, 0, none⟩)]] w fun e w' => e = .returned (.bool (l.any (badB P.N))) ∧ w = w' := by
  have HR := Lib.hid hr
  have H0 := Lib.hid h0
  have H1 := Lib.hid h1
  clear hr h0 h1
  go_enter Try.func117, Try.ntmps117
  go_wp2_with fail
  refine (index_bad P B _ _ _ _ _ HR.out hn hi hnb H0.out H1.out).mono ?_
  rintro e w1 ⟨i, rfl, hx, rfl⟩
  have HI := Lib.hid hx
  clear hx
  by_cases h0 : 0 ≤ i
  · go_wp2_with fail
    go_ret
    exact ⟨by rw [HI.out.1 h0]; rfl, rfl⟩
  · have hd : decide (0 ≤ i) = false := decide_eq_false h0
    go_wp2_with fail
    go_ret
    have : l.any (badB P.N) = false := by cases ha : l.any (badB P.N) with
      | false => rfl
      | true => exact absurd (HI.out.2 ha) (by omega)
    exact ⟨by rw [this]; rfl, rfl⟩
end Go.Proofs.Ytoloaecbfglaeaa
