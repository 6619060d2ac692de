/- Walks: is a tile odd; is any? (bitfile.Check's closure, slices.IndexFunc and slices.ContainsFunc at tiles) -/
import Derived.Test.YtakccepilbmmlaaCfg
namespace Go.Proofs.Ytakccepilbmmlaa
open Go.RowKit
set_option linter.unusedVariables false
set_option linter.unusedSimpArgs false

set_option maxRecDepth 100000 in
theorem odd_any (t : Int) (ff init : Bool) (w : World) :
    Calls Try.prog 61 #[.agg #[.int .i64 t, .bool ff, .bool init]] w fun e w' => e = .returned (.bool (oddB (t, ff, init))) ∧ Below w.heap.size w w' := by
  obtain ⟨o, ho⟩ : ∃ o, oddB (t, ff, init) = o := ⟨_, rfl⟩
  have HO := Lib.hid ho
  rw [ho]
  clear ho
  by_cases h1 : t < 0
  · go_enter Try.func61, Try.ntmps61
    go_wp2_with fail
    go_ret
    exact ⟨by rw [← HO.out]; simp [oddB, h1], below_new w _⟩
  · by_cases h2 : 65535 < t
    · go_enter Try.func61, Try.ntmps61
      go_wp2_with fail
      go_ret
      exact ⟨by rw [← HO.out]; simp [oddB, h2], below_new w _⟩
    · cases init <;> cases ff
      all_goals
        go_enter Try.func61, Try.ntmps61
        go_wp2_with fail
        go_ret
        exact ⟨by rw [← HO.out]; simp [oddB, h1, h2], below_new w _⟩

/-- the first odd tile from k on -/
def oddAt (l : List TL) : Int := match l.findIdx? oddB with | some i => (i : Int) | none => -1

set_option maxRecDepth 100000 in
set_option maxHeartbeats 1000000 in
theorem index_odd (w : World) (A : Option Addr) (n c : Nat) (l : List TL) (h : Rd w 3 A n c (tiles3 l)) (hn : n ≤ 100000000) :
    Calls Try.prog 100 #[.slice A n c, .func (.func 61) #[] #[]] w fun e w' => ∃ i : Int, e = .returned (.int .i64 i) ∧ (0 ≤ i ↔ l.any oddB = true) ∧ Below w.heap.size w w' := by
  have hl : n = l.length := by have := h.len; rw [tiles3_length] at this; omega
  have HL := Lib.hid hl
  have HR := Lib.hid h
  clear hl h
  go_enter Try.func100, Try.ntmps100
  go_wp2_with fail
  go_loopw [8] (fun i wx => ∃ k : Nat, k ≤ n ∧ i = .int .i64 (k : Int) ∧ Below w.heap.size w wx ∧ (l.take k).any oddB = false) (fun i _ => n - (intOf i).toNat)
  case atStart => exact ⟨0, by omega, rfl, Below.refl _ _, by simp⟩
  case round =>
    obtain ⟨k, hk, rfl, hb, hno⟩ := hrel
    have HB := Lib.hid hb
    have HN := Lib.hid hno
    clear hb hno
    by_cases hlt : k < n
    · obtain ⟨a, rfl, hab, c0, c1, c2⟩ := (HR.out.later HB.out).tile hlt
      have hk' : k < l.length := by rw [← HL.out]; exact hlt
      have htk : (l.take (k + 1)).any oddB = ((l.take k).any oddB || oddB l[k]!) := by
        rw [List.take_succ_eq_append_getElem hk', List.any_append, getElem!_pos l k hk']; simp
      have hmem : oddB l[k]! = true → l.any oddB = true := fun hx => List.any_eq_true.2 ⟨l[k]!, by rw [getElem!_pos l k hk']; exact List.getElem_mem hk', hx⟩
      have HT := Lib.hid htk
      have HM := Lib.hid hmem
      clear htk hmem
      generalize l[k]! = t at c0 c1 c2 HT HM
      obtain ⟨t1, t2, t3⟩ := t
      simp only at c0 c1 c2
      go_wp2_with fail
      refine (odd_any _ _ _ _).mono ?_
      rintro e w1 ⟨rfl, hb1⟩
      have HB1 := Lib.hid (below_then HB.out hb1)
      clear hb1
      cases ho : oddB (t1, t2, t3) with
      | true =>
        go_wp2_with fail
        go_ret
        exact ⟨(k : Int), rfl, ⟨fun _ => HM.out ho, fun _ => by omega⟩, HB1.out⟩
      | false =>
        go_wp2_with fail
        go_roundw
        case rel => exact ⟨k + 1, by omega, by go_num, HB1.out, by rw [HT.out, HN.out, ho]; rfl⟩
        case measure => simp [intOf]; omega
    · obtain rfl : k = n := by omega
      go_wp2_with fail
      go_ret
      refine ⟨-1, rfl, ⟨fun h => absurd h (by omega), fun h => ?_⟩, HB.out⟩
      have := HN.out
      rw [List.take_of_length_le (by rw [← HL.out]; exact Nat.le_refl _)] at this
      rw [this] at h
      cases h

set_option maxRecDepth 100000 in
theorem contains_odd (w : World) (A : Option Addr) (n c : Nat) (l : List TL) (h : Rd w 3 A n c (tiles3 l)) (hn : n ≤ 100000000) :
    Calls Try.prog 64 #[.slice A n c, .func (.func 61) #[] #[]] w fun e w' => e = .returned (.bool (l.any oddB)) ∧ Below w.heap.size w w' := by
  have HR := Lib.hid h
  clear h
  go_enter Try.func64, Try.ntmps64
  go_wp2_with fail
  refine (index_odd _ _ _ _ _ HR.out hn).mono ?_
  rintro e w1 ⟨i, rfl, hi, hb1⟩
  have HI := Lib.hid hi
  clear hi
  by_cases h0 : 0 ≤ i
  · go_wp2_with fail
    go_ret
    exact ⟨by rw [HI.out.1 h0]; rfl, hb1⟩
  · have hd : decide (0 ≤ i) = false := decide_eq_false h0
    go_wp2_with fail
    go_ret
    have : l.any oddB = false := by cases ha : l.any oddB with
      | false => rfl
      | true => exact absurd (HI.out.2 ha) (by omega)
    exact ⟨by rw [this]; rfl, hb1⟩
end Go.Proofs.Ytakccepilbmmlaa
