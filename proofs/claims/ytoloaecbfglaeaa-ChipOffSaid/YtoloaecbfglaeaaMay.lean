/- Walk of filigree/pack.may: may blocks be, but for rings? -/
import Derived.Test.YtoloaecbfglaeaaPk
namespace Go.Proofs.Ytoloaecbfglaeaa
open Go.RowKit
set_option linter.unusedVariables false
set_option linter.unusedSimpArgs false

def MAY (P : PK) (w : World) (R : Ending → World → Prop) : Prop :=
  Calls Try.prog 98 #[.agg #[.int .i64 P.I, .slice P.AB P.bs.length P.cB, .slice P.AO P.outs.length P.cO]] w R
/-- blocks in a box, and memory since -/
structure MW (w0 wx : World) (g : Nat) (P : PK) : Prop where
  below : Below w0.heap.size w0 wx
  box : Box3 wx g (.int .i64 P.I) (.slice P.AB P.bs.length P.cB) (.slice P.AO P.outs.length P.cO)
theorem MW.keep {w0 wx wy : World} {g : Nat} {P : PK} (h : MW w0 wx g P) (hb : Below wx.heap.size wx wy) : MW w0 wy g P := ⟨below_then h.below hb, h.box.below hb⟩
theorem MW.new (w : World) (P : PK) : MW w (w.alloc (.cells #[.int .i64 P.I, .slice P.AB P.bs.length P.cB, .slice P.AO P.outs.length P.cO] 49)) w.heap.size P := ⟨below_new _ _, Box3.new w _ _ _ _⟩
theorem MW.cells {w0 wx : World} {g : Nat} {P : PK} (h : MW w0 wx g P) : wx.cell? ⟨g, 0, none⟩ = some (.int .i64 P.I) ∧ wx.cell? ⟨g, 1, none⟩ = some (.slice P.AB P.bs.length P.cB) ∧ wx.cell? ⟨g, 2, none⟩ = some (.slice P.AO P.outs.length P.cO) := ⟨h.box.c0, h.box.c1, h.box.c2⟩
def MayOut (P : PK) (w : World) (e : Ending) (w' : World) : Prop := e = .returned (.bool (decide P.may)) ∧ Below w.heap.size w w'
theorem MayOut.no {P : PK} {w w' : World} (h : ¬ P.may) (hb : Below w.heap.size w w') : MayOut P w (.returned (.bool false)) w' := ⟨by rw [decide_eq_false h], hb⟩
theorem MayOut.yes {P : PK} {w w' : World} (h : P.may) (hb : Below w.heap.size w w') : MayOut P w (.returned (.bool true)) w' := ⟨by rw [decide_eq_true h], hb⟩
theorem len4 {α : Type} {l : List α} (h : l.length ≤ 4) : l.length = 0 ∨ l.length = 1 ∨ l.length = 2 ∨ l.length = 3 ∨ l.length = 4 := by omega

set_option maxRecDepth 100000 in
set_option maxHeartbeats 1000000 in
theorem may_head (P : PK) (w : World) (h : P.I < 0 ∨ (0 ≤ P.I ∧ 1024 < P.I) ∨ ((0 ≤ P.I ∧ P.I ≤ 1024) ∧ 1024 < (P.bs.length : Int))) : MAY P w (MayOut P w) := by
  have hno : ¬ P.may := fun hm => by obtain ⟨h1, h2, h3, -⟩ := hm; omega
  have HNO := Lib.hid hno
  have T0 := Lib.hid (MW.new w P)
  clear hno
  unfold MAY
  rcases h with h | ⟨h, h2⟩ | ⟨⟨h, h2⟩, h3⟩
  all_goals
    go_enter Try.func98, Try.ntmps98
    go_wp2_with fail
    go_ret
    exact MayOut.no HNO.out T0.out.below

set_option maxRecDepth 100000 in
set_option maxHeartbeats 4000000 in
theorem may_none (P : PK) (w : World) (hin : P.In w) (hf : P.fit) (hI : 0 ≤ P.I ∧ P.I ≤ 1024) (hnb : P.bs.length ≤ 1024) (hAB : P.AB = none) : MAY P w (MayOut P w) := by
  have h2 : ¬ 1024 < (P.bs.length : Int) := by omega
  have hI1 : 0 ≤ P.I := hI.1
  have hI2 : P.I ≤ 1024 := hI.2
  have HI := Lib.hid hI
  have HIN := Lib.hid hin
  have HF := Lib.hid hf
  have T0 := Lib.hid (MW.new w P)
  clear hI hin hf
  unfold MAY
  obtain ⟨I, AB, cB, bs, AO, cO, outs⟩ := P
  simp only at hAB hnb h2 hI1 hI2
  subst hAB
  go_enter Try.func98, Try.ntmps98
  go_wp2_with fail
  go_loopw [24] (fun i wx => ∃ k : Nat, k ≤ bs.length ∧ i = .int .i64 (k : Int) ∧ MW w wx w.heap.size ⟨I, none, cB, bs, AO, cO, outs⟩ ∧ ∀ b ∈ bs.take k, b.ok (PK.N ⟨I, none, cB, bs, AO, cO, outs⟩)) (fun i _ => bs.length - (intOf i).toNat)
  case atStart => exact ⟨0, by omega, rfl, T0.out, by simp⟩
  case round =>
    obtain ⟨k, hk, rfl, hT, hall⟩ := hrel
    have T1 := Lib.hid hT
    have HA := Lib.hid hall
    clear hT hall T0
    by_cases hlt : k < bs.length
    case neg =>
      obtain rfl : k = bs.length := by omega
      obtain ⟨k0, k1, k2⟩ := T1.out.cells
      simp only at k0 k1 k2
      have K0 := Lib.hid k0
      have K1 := Lib.hid k1
      have HO := Lib.hid (HIN.out.outs.later T1.out.below)
      go_wp2_with fail
      refine (contains_bad ⟨I, none, cB, bs, AO, cO, outs⟩ w.heap.size _ _ _ _ outs HO.out (HF.out.o) HI.out hnb K0.out K1.out).mono ?_
      generalize hN : PK.N ⟨I, none, cB, bs, AO, cO, outs⟩ = N
      rintro e w1 ⟨rfl, rfl⟩
      have HN := Lib.hid hN
      clear hN
      cases ho : outs.any (badB N) with
      | true =>
        go_wp2_with fail
        go_ret
        exact MayOut.no (fun hm => by have := hm.2.2.2.2; rw [HN.out, ho] at this; cases this) T1.out.below
      | false =>
        go_wp2_with fail
        go_ret
        exact MayOut.yes ⟨HI.out.1, HI.out.2, hnb, fun b hb => HA.out b (by rw [List.take_of_length_le (Nat.le_refl _)]; exact hb), by rw [HN.out]; exact ho⟩ T1.out.below
    exfalso
    obtain ⟨a, hA, -⟩ := HIN.out.blocks.block hlt
    cases hA

set_option maxRecDepth 100000 in
set_option maxHeartbeats 4000000 in
theorem may_some (P : PK) (w : World) (a : Addr) (hin : P.In w) (hf : P.fit) (hI : 0 ≤ P.I ∧ P.I ≤ 1024) (hnb : P.bs.length ≤ 1024) (hAB : P.AB = some a) : MAY P w (MayOut P w) := by
  have h2 : ¬ 1024 < (P.bs.length : Int) := by omega
  have hI1 : 0 ≤ P.I := hI.1
  have hI2 : P.I ≤ 1024 := hI.2
  have HI := Lib.hid hI
  have HIN := Lib.hid hin
  have HF := Lib.hid hf
  have T0 := Lib.hid (MW.new w P)
  clear hI hin hf
  unfold MAY
  obtain ⟨I, AB, cB, bs, AO, cO, outs⟩ := P
  simp only at hAB hnb h2 hI1 hI2
  subst hAB
  go_enter Try.func98, Try.ntmps98
  go_wp2_with fail
  go_loopw [24] (fun i wx => ∃ k : Nat, k ≤ bs.length ∧ i = .int .i64 (k : Int) ∧ MW w wx w.heap.size ⟨I, (some a), cB, bs, AO, cO, outs⟩ ∧ ∀ b ∈ bs.take k, b.ok (PK.N ⟨I, (some a), cB, bs, AO, cO, outs⟩)) (fun i _ => bs.length - (intOf i).toNat)
  case atStart => exact ⟨0, by omega, rfl, T0.out, by simp⟩
  case round =>
    obtain ⟨k, hk, rfl, hT, hall⟩ := hrel
    have T1 := Lib.hid hT
    have HA := Lib.hid hall
    clear hT hall T0
    by_cases hlt : k < bs.length
    case neg =>
      obtain rfl : k = bs.length := by omega
      obtain ⟨k0, k1, k2⟩ := T1.out.cells
      simp only at k0 k1 k2
      have K0 := Lib.hid k0
      have K1 := Lib.hid k1
      have HO := Lib.hid (HIN.out.outs.later T1.out.below)
      go_wp2_with fail
      refine (contains_bad ⟨I, (some a), cB, bs, AO, cO, outs⟩ w.heap.size _ _ _ _ outs HO.out (HF.out.o) HI.out hnb K0.out K1.out).mono ?_
      generalize hN : PK.N ⟨I, (some a), cB, bs, AO, cO, outs⟩ = N
      rintro e w1 ⟨rfl, rfl⟩
      have HN := Lib.hid hN
      clear hN
      cases ho : outs.any (badB N) with
      | true =>
        go_wp2_with fail
        go_ret
        exact MayOut.no (fun hm => by have := hm.2.2.2.2; rw [HN.out, ho] at this; cases this) T1.out.below
      | false =>
        go_wp2_with fail
        go_ret
        exact MayOut.yes ⟨HI.out.1, HI.out.2, hnb, fun b hb => HA.out b (by rw [List.take_of_length_le (Nat.le_refl _)]; exact hb), by rw [HN.out]; exact ho⟩ T1.out.below
    obtain ⟨a', hA, hab, c0, c1, c2, c3⟩ := (HIN.out.blocks.later T1.out.below).block hlt
    obtain rfl := Option.some.inj hA
    have hmem : bs[k] ∈ bs := List.getElem_mem hlt
    have hR := Lib.hid ((HIN.out.each _ hmem).later T1.out.below)
    have hno : ¬ (bs[k]).ok (PK.N ⟨I, some a, cB, bs, AO, cO, outs⟩) → ¬ PK.may ⟨I, some a, cB, bs, AO, cO, outs⟩ := fun hb hm => hb (hm.2.2.2.1 _ hmem)
    have hnext : (bs[k]).ok (PK.N ⟨I, some a, cB, bs, AO, cO, outs⟩) → ∀ b ∈ bs.take (k + 1), b.ok (PK.N ⟨I, some a, cB, bs, AO, cO, outs⟩) := fun hb b hm => by
      rw [List.take_succ_eq_append_getElem hlt] at hm
      rcases List.mem_append.1 hm with h | h
      · exact HA.out b h
      · rw [List.mem_singleton.1 h]; exact hb
    have hl8 := HF.out.l _ hmem
    have ht8 := HF.out.t _ hmem
    have HNO := Lib.hid hno
    have HNX := Lib.hid hnext
    clear hno hnext hmem hA
    obtain ⟨k0, k1, k2⟩ := T1.out.cells
    simp only at k0 k1 k2
    have K0 := Lib.hid k0
    have K1 := Lib.hid k1
    simp only at c0 c1 c2 c3 hR
    generalize bs[k] = b at c0 c1 c2 c3 hR HNO HNX hl8 ht8
    obtain ⟨bA, bc, bl, bt, bff, bit⟩ := b
    simp only at c0 c1 c2 c3 hR hl8 ht8
    obtain ⟨ht8, ht9⟩ := ht8
    have hbB := below_new wr (.cells #[.slice bA bl.length bc, .int .i64 bt, .bool bff, .bool bit] 56)
    have T2 := Lib.hid (T1.out.keep hbB)
    have R2 := Lib.hid (hR.out.later hbB)
    obtain ⟨m0, m1, m2⟩ := T2.out.cells
    have M0 := Lib.hid m0
    have M1 := Lib.hid m1
    clear m0 m1 m2 hbB
    by_cases q1 : 4 < (bl.length : Int)
    · have hb := Lib.hid (HNO.out (fun h => by have := h.1; simp only at this; omega))
      go_wp2_with fail
      go_ret
      exact MayOut.no hb.out T2.out.below
    have hl4 : bl.length ≤ 4 := by omega
    by_cases q2 : bl.any (badB (PK.N ⟨I, some a, cB, bs, AO, cO, outs⟩)) = true
    · have hb := Lib.hid (HNO.out (fun h => by have := h.2.1; simp only at this; rw [q2] at this; cases this))
      have Q2 := Lib.hid q2
      clear q2
      go_wp2_with fail
      refine (contains_bad ⟨I, some a, cB, bs, AO, cO, outs⟩ w.heap.size _ _ _ _ bl R2.out (by omega) HI.out hnb M0.out M1.out).mono ?_
      rw [Q2.out]
      rintro e w1 ⟨rfl, rfl⟩
      go_wp2_with fail
      go_ret
      exact MayOut.no hb.out T2.out.below
    have q2' : bl.any (badB (PK.N ⟨I, some a, cB, bs, AO, cO, outs⟩)) = false := by simpa using q2
    have Q2 := Lib.hid q2'
    clear q2 q2'
    by_cases q3 : bit = true ∧ bff = false
    · obtain ⟨rfl, rfl⟩ := q3
      have hb := Lib.hid (HNO.out (fun h => by have := h.2.2.1 rfl; cases this))
      go_wp2_with fail
      refine (contains_bad ⟨I, some a, cB, bs, AO, cO, outs⟩ w.heap.size _ _ _ _ bl R2.out (by omega) HI.out hnb M0.out M1.out).mono ?_
      rw [Q2.out]
      rintro e w1 ⟨rfl, rfl⟩
      go_wp2_with fail
      go_ret
      exact MayOut.no hb.out T2.out.below
    have Q3 := Lib.hid (show bit = true → bff = true from fun h => by cases hx : bff with
      | true => rfl
      | false => exact absurd ⟨h, hx⟩ q3)
    have q3' : (bit && !bff) = false := by cases bit <;> cases bff <;> simp at q3 ⊢
    clear q3
    by_cases q4 : bt < 0
    · have hb := Lib.hid (HNO.out (fun h => by have := h.2.2.2.1; simp only at this; omega))
      have q4' : decide (bt < 0) = true := decide_eq_true q4
      cases bit <;> cases bff <;> try (cases q3'; done)
      all_goals
        go_wp2_with fail
        refine (contains_bad ⟨I, some a, cB, bs, AO, cO, outs⟩ w.heap.size _ _ _ _ bl R2.out (by omega) HI.out hnb M0.out M1.out).mono ?_
        rw [Q2.out]
        rintro e w1 ⟨rfl, rfl⟩
        go_wp2_with fail
        go_ret
        exact MayOut.no hb.out T2.out.below
    have q4' : decide (bt < 0) = false := decide_eq_false q4
    have ht0 : 0 ≤ bt := by omega
    rcases len4 hl4 with h | h | h | h | h
    · have T3 := Lib.hid (MW.keep T1.out (below_new wr (.cells #[.slice bA bl.length bc, .int .i64 bt, .bool bff, .bool bit] 56)))
      have R2 := Lib.hid (hR.out.later (below_new wr (.cells #[.slice bA bl.length bc, .int .i64 bt, .bool bff, .bool bit] 56)))
      have hD : (2 : Int) ^ 2 ^ bl.length = 2 := by rw [h]; rfl
      have HD := Lib.hid hD
      have hl0 : bl.length ≤ 100000000 := by omega
      rw [h] at c0 T3 R2
      clear hD M0 M1 h
      by_cases q5 : bt < 2
      · have q5' : (bt / 2 != 0) = false := by simp; omega
        have hb := Lib.hid (HNX.out ⟨hl4, Q2.out, Q3.out, ht0, by simp only; rw [HD.out]; exact q5⟩)
        clear q5
        cases bit <;> cases bff <;> try (cases q3'; done)
        all_goals
          have M0 := Lib.hid T3.out.cells.1
          have M1 := Lib.hid T3.out.cells.2.1
          go_wp2_with fail
          refine (contains_bad ⟨I, some a, cB, bs, AO, cO, outs⟩ w.heap.size _ _ _ _ bl R2.out (by omega) HI.out hnb M0.out M1.out).mono ?_
          rw [Q2.out]
          rintro e w1 ⟨rfl, rfl⟩
          go_wp2_with fail
          go_quiet (fail)
          go_wp2_with fail
          go_roundw
          case rel => exact ⟨k + 1, by omega, by go_num, T3.out.keep (below_drewN (Below.refl _ _) _), hb.out⟩
          case measure => simp [intOf]; omega
      · have q5' : (bt / 2 != 0) = true := by simp; omega
        have hb := Lib.hid (HNO.out (fun h => by have := h.2.2.2.2; simp only at this; rw [HD.out] at this; omega))
        clear q5
        cases bit <;> cases bff <;> try (cases q3'; done)
        all_goals
          have M0 := Lib.hid T3.out.cells.1
          have M1 := Lib.hid T3.out.cells.2.1
          go_wp2_with fail
          refine (contains_bad ⟨I, some a, cB, bs, AO, cO, outs⟩ w.heap.size _ _ _ _ bl R2.out (by omega) HI.out hnb M0.out M1.out).mono ?_
          rw [Q2.out]
          rintro e w1 ⟨rfl, rfl⟩
          go_wp2_with fail
          go_quiet (fail)
          go_wp2_with fail
          go_ret
          exact MayOut.no hb.out (T3.out.keep (below_drewN (Below.refl _ _) _)).below
    · have T3 := Lib.hid (MW.keep T1.out (below_new wr (.cells #[.slice bA bl.length bc, .int .i64 bt, .bool bff, .bool bit] 56)))
      have R2 := Lib.hid (hR.out.later (below_new wr (.cells #[.slice bA bl.length bc, .int .i64 bt, .bool bff, .bool bit] 56)))
      have hD : (2 : Int) ^ 2 ^ bl.length = 4 := by rw [h]; rfl
      have HD := Lib.hid hD
      have hl0 : bl.length ≤ 100000000 := by omega
      rw [h] at c0 T3 R2
      clear hD M0 M1 h
      by_cases q5 : bt < 4
      · have q5' : (bt / 4 != 0) = false := by simp; omega
        have hb := Lib.hid (HNX.out ⟨hl4, Q2.out, Q3.out, ht0, by simp only; rw [HD.out]; exact q5⟩)
        clear q5
        cases bit <;> cases bff <;> try (cases q3'; done)
        all_goals
          have M0 := Lib.hid T3.out.cells.1
          have M1 := Lib.hid T3.out.cells.2.1
          go_wp2_with fail
          refine (contains_bad ⟨I, some a, cB, bs, AO, cO, outs⟩ w.heap.size _ _ _ _ bl R2.out (by omega) HI.out hnb M0.out M1.out).mono ?_
          rw [Q2.out]
          rintro e w1 ⟨rfl, rfl⟩
          go_wp2_with fail
          go_quiet (fail)
          go_wp2_with fail
          go_roundw
          case rel => exact ⟨k + 1, by omega, by go_num, T3.out.keep (below_drewN (Below.refl _ _) _), hb.out⟩
          case measure => simp [intOf]; omega
      · have q5' : (bt / 4 != 0) = true := by simp; omega
        have hb := Lib.hid (HNO.out (fun h => by have := h.2.2.2.2; simp only at this; rw [HD.out] at this; omega))
        clear q5
        cases bit <;> cases bff <;> try (cases q3'; done)
        all_goals
          have M0 := Lib.hid T3.out.cells.1
          have M1 := Lib.hid T3.out.cells.2.1
          go_wp2_with fail
          refine (contains_bad ⟨I, some a, cB, bs, AO, cO, outs⟩ w.heap.size _ _ _ _ bl R2.out (by omega) HI.out hnb M0.out M1.out).mono ?_
          rw [Q2.out]
          rintro e w1 ⟨rfl, rfl⟩
          go_wp2_with fail
          go_quiet (fail)
          go_wp2_with fail
          go_ret
          exact MayOut.no hb.out (T3.out.keep (below_drewN (Below.refl _ _) _)).below
    · have T3 := Lib.hid (MW.keep T1.out (below_new wr (.cells #[.slice bA bl.length bc, .int .i64 bt, .bool bff, .bool bit] 56)))
      have R2 := Lib.hid (hR.out.later (below_new wr (.cells #[.slice bA bl.length bc, .int .i64 bt, .bool bff, .bool bit] 56)))
      have hD : (2 : Int) ^ 2 ^ bl.length = 16 := by rw [h]; rfl
      have HD := Lib.hid hD
      have hl0 : bl.length ≤ 100000000 := by omega
      rw [h] at c0 T3 R2
      clear hD M0 M1 h
      by_cases q5 : bt < 16
      · have q5' : (bt / 16 != 0) = false := by simp; omega
        have hb := Lib.hid (HNX.out ⟨hl4, Q2.out, Q3.out, ht0, by simp only; rw [HD.out]; exact q5⟩)
        clear q5
        cases bit <;> cases bff <;> try (cases q3'; done)
        all_goals
          have M0 := Lib.hid T3.out.cells.1
          have M1 := Lib.hid T3.out.cells.2.1
          go_wp2_with fail
          refine (contains_bad ⟨I, some a, cB, bs, AO, cO, outs⟩ w.heap.size _ _ _ _ bl R2.out (by omega) HI.out hnb M0.out M1.out).mono ?_
          rw [Q2.out]
          rintro e w1 ⟨rfl, rfl⟩
          go_wp2_with fail
          go_quiet (fail)
          go_wp2_with fail
          go_roundw
          case rel => exact ⟨k + 1, by omega, by go_num, T3.out.keep (below_drewN (Below.refl _ _) _), hb.out⟩
          case measure => simp [intOf]; omega
      · have q5' : (bt / 16 != 0) = true := by simp; omega
        have hb := Lib.hid (HNO.out (fun h => by have := h.2.2.2.2; simp only at this; rw [HD.out] at this; omega))
        clear q5
        cases bit <;> cases bff <;> try (cases q3'; done)
        all_goals
          have M0 := Lib.hid T3.out.cells.1
          have M1 := Lib.hid T3.out.cells.2.1
          go_wp2_with fail
          refine (contains_bad ⟨I, some a, cB, bs, AO, cO, outs⟩ w.heap.size _ _ _ _ bl R2.out (by omega) HI.out hnb M0.out M1.out).mono ?_
          rw [Q2.out]
          rintro e w1 ⟨rfl, rfl⟩
          go_wp2_with fail
          go_quiet (fail)
          go_wp2_with fail
          go_ret
          exact MayOut.no hb.out (T3.out.keep (below_drewN (Below.refl _ _) _)).below
    · have T3 := Lib.hid (MW.keep T1.out (below_new wr (.cells #[.slice bA bl.length bc, .int .i64 bt, .bool bff, .bool bit] 56)))
      have R2 := Lib.hid (hR.out.later (below_new wr (.cells #[.slice bA bl.length bc, .int .i64 bt, .bool bff, .bool bit] 56)))
      have hD : (2 : Int) ^ 2 ^ bl.length = 256 := by rw [h]; rfl
      have HD := Lib.hid hD
      have hl0 : bl.length ≤ 100000000 := by omega
      rw [h] at c0 T3 R2
      clear hD M0 M1 h
      by_cases q5 : bt < 256
      · have q5' : (bt / 256 != 0) = false := by simp; omega
        have hb := Lib.hid (HNX.out ⟨hl4, Q2.out, Q3.out, ht0, by simp only; rw [HD.out]; exact q5⟩)
        clear q5
        cases bit <;> cases bff <;> try (cases q3'; done)
        all_goals
          have M0 := Lib.hid T3.out.cells.1
          have M1 := Lib.hid T3.out.cells.2.1
          go_wp2_with fail
          refine (contains_bad ⟨I, some a, cB, bs, AO, cO, outs⟩ w.heap.size _ _ _ _ bl R2.out (by omega) HI.out hnb M0.out M1.out).mono ?_
          rw [Q2.out]
          rintro e w1 ⟨rfl, rfl⟩
          go_wp2_with fail
          go_quiet (fail)
          go_wp2_with fail
          go_roundw
          case rel => exact ⟨k + 1, by omega, by go_num, T3.out.keep (below_drewN (Below.refl _ _) _), hb.out⟩
          case measure => simp [intOf]; omega
      · have q5' : (bt / 256 != 0) = true := by simp; omega
        have hb := Lib.hid (HNO.out (fun h => by have := h.2.2.2.2; simp only at this; rw [HD.out] at this; omega))
        clear q5
        cases bit <;> cases bff <;> try (cases q3'; done)
        all_goals
          have M0 := Lib.hid T3.out.cells.1
          have M1 := Lib.hid T3.out.cells.2.1
          go_wp2_with fail
          refine (contains_bad ⟨I, some a, cB, bs, AO, cO, outs⟩ w.heap.size _ _ _ _ bl R2.out (by omega) HI.out hnb M0.out M1.out).mono ?_
          rw [Q2.out]
          rintro e w1 ⟨rfl, rfl⟩
          go_wp2_with fail
          go_quiet (fail)
          go_wp2_with fail
          go_ret
          exact MayOut.no hb.out (T3.out.keep (below_drewN (Below.refl _ _) _)).below
    · have T3 := Lib.hid (MW.keep T1.out (below_new wr (.cells #[.slice bA bl.length bc, .int .i64 bt, .bool bff, .bool bit] 56)))
      have R2 := Lib.hid (hR.out.later (below_new wr (.cells #[.slice bA bl.length bc, .int .i64 bt, .bool bff, .bool bit] 56)))
      have hD : (2 : Int) ^ 2 ^ bl.length = 65536 := by rw [h]; rfl
      have HD := Lib.hid hD
      have hl0 : bl.length ≤ 100000000 := by omega
      rw [h] at c0 T3 R2
      clear hD M0 M1 h
      by_cases q5 : bt < 65536
      · have q5' : (bt / 65536 != 0) = false := by simp; omega
        have hb := Lib.hid (HNX.out ⟨hl4, Q2.out, Q3.out, ht0, by simp only; rw [HD.out]; exact q5⟩)
        clear q5
        cases bit <;> cases bff <;> try (cases q3'; done)
        all_goals
          have M0 := Lib.hid T3.out.cells.1
          have M1 := Lib.hid T3.out.cells.2.1
          go_wp2_with fail
          refine (contains_bad ⟨I, some a, cB, bs, AO, cO, outs⟩ w.heap.size _ _ _ _ bl R2.out (by omega) HI.out hnb M0.out M1.out).mono ?_
          rw [Q2.out]
          rintro e w1 ⟨rfl, rfl⟩
          go_wp2_with fail
          go_quiet (fail)
          go_wp2_with fail
          go_roundw
          case rel => exact ⟨k + 1, by omega, by go_num, T3.out.keep (below_drewN (Below.refl _ _) _), hb.out⟩
          case measure => simp [intOf]; omega
      · have q5' : (bt / 65536 != 0) = true := by simp; omega
        have hb := Lib.hid (HNO.out (fun h => by have := h.2.2.2.2; simp only at this; rw [HD.out] at this; omega))
        clear q5
        cases bit <;> cases bff <;> try (cases q3'; done)
        all_goals
          have M0 := Lib.hid T3.out.cells.1
          have M1 := Lib.hid T3.out.cells.2.1
          go_wp2_with fail
          refine (contains_bad ⟨I, some a, cB, bs, AO, cO, outs⟩ w.heap.size _ _ _ _ bl R2.out (by omega) HI.out hnb M0.out M1.out).mono ?_
          rw [Q2.out]
          rintro e w1 ⟨rfl, rfl⟩
          go_wp2_with fail
          go_quiet (fail)
          go_wp2_with fail
          go_ret
          exact MayOut.no hb.out (T3.out.keep (below_drewN (Below.refl _ _) _)).below

theorem may_any (P : PK) (w : World) (hin : P.In w) (hf : P.fit) : MAY P w (MayOut P w) := by
  by_cases h0 : P.I < 0
  · exact may_head P w (.inl h0)
  by_cases h1 : 1024 < P.I
  · exact may_head P w (.inr (.inl ⟨by omega, h1⟩))
  by_cases h2 : 1024 < (P.bs.length : Int)
  · exact may_head P w (.inr (.inr ⟨⟨by omega, by omega⟩, h2⟩))
  cases hA : P.AB with
  | none => exact may_none P w hin hf (by omega) (by omega) hA
  | some a => exact may_some P w a hin hf (by omega) (by omega) hA
end Go.Proofs.Ytoloaecbfglaeaa
