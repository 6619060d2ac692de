/- Walk of filigree/pack.Check: may blocks be? -/
import Derived.Test.YtoloaecbfglaeaaOrd
namespace Go.Proofs.Ytoloaecbfglaeaa
open Go.RowKit Topo
set_option linter.unusedVariables false
set_option linter.unusedSimpArgs false

/-- what is told of blocks -/
def ChkR (P : PK) (x : Int) : Prop := (x = 0 ∧ P.may ∧ ∃ m, All (depE P.E) P.S m) ∨ (x = 1 ∧ ¬ P.may) ∨ (x = 321 ∧ P.may ∧ ∀ m, ¬ All (depE P.E) P.S m)
theorem ChkR.one {P : PK} {x y : Int} (h : ChkR P x) (k : ChkR P y) : x = y := by
  rcases h with ⟨rfl, h1, m, h2⟩ | ⟨rfl, h1⟩ | ⟨rfl, h1, h2⟩ <;> rcases k with ⟨rfl, k1, n, k2⟩ | ⟨rfl, k1⟩ | ⟨rfl, k1, k2⟩
  all_goals first | rfl | exact absurd ‹PK.may P› ‹¬ PK.may P› | exact absurd k2 (h2 _) | exact absurd h2 (k2 _)
/-- a pack without its places -/
def BL.plain (b : BL) : List Int × Int × Bool × Bool := (b.l, b.t, b.ff, b.it)
def PK.plain (P : PK) : Int × List (List Int × Int × Bool × Bool) × List Int := (P.I, P.bs.map BL.plain, P.outs)
theorem plain_get {l m : List BL} (h : l.map BL.plain = m.map BL.plain) (k : Nat) : (l[k]?).map BL.plain = (m[k]?).map BL.plain := by rw [← List.getElem?_map, ← List.getElem?_map, h]
theorem plain_ff {l m : List BL} (h : l.map BL.plain = m.map BL.plain) (k : Nat) : ffAt l k = ffAt m k := by
  have := plain_get h k
  unfold ffAt
  cases hl : l[k]? <;> cases hm : m[k]? <;> rw [hl, hm] at this <;> simp [BL.plain] at this ⊢
  exact this.2.2.1
theorem plain_in {l m : List BL} (h : l.map BL.plain = m.map BL.plain) (k : Nat) : inL l k = inL m k := by
  have := plain_get h k
  unfold inL
  cases hl : l[k]? <;> cases hm : m[k]? <;> rw [hl, hm] at this <;> simp [BL.plain] at this ⊢
  exact this.1
theorem plain_ed {I : Int} {l m : List BL} (h : l.map BL.plain = m.map BL.plain) : ∀ k, edTo I l k = edTo I m k
  | 0 => rfl
  | k + 1 => by
    have e : ∀ i x, edOf I l i x = edOf I m i x := fun i x => by unfold edOf; rw [plain_ff h]
    show edTo I l k ++ _ = edTo I m k ++ _
    rw [plain_ed h k, plain_ff h, plain_in h]
    unfold edB
    rw [show edOf I l k = edOf I m k from funext (e k)]
theorem plain_may {P Q : PK} (h : P.plain = Q.plain) : P.may → Q.may := by
  intro hm
  obtain ⟨h1, h2, h3, h4, h5⟩ := hm
  simp only [PK.plain, Prod.mk.injEq] at h
  obtain ⟨e1, e2, e3⟩ := h
  have el : P.bs.length = Q.bs.length := by have := congrArg List.length e2; simpa using this
  have eN : P.N = Q.N := by unfold PK.N; rw [e1, el]
  refine ⟨by rw [← e1]; exact h1, by rw [← e1]; exact h2, by rw [← el]; exact h3, fun b hb => ?_, by rw [← eN, ← e3]; exact h5⟩
  obtain ⟨a, ha, hab⟩ := List.mem_map.1 (show BL.plain b ∈ P.bs.map BL.plain by rw [e2]; exact List.mem_map.2 ⟨b, hb, rfl⟩)
  have hk := h4 a ha
  simp only [BL.plain, Prod.mk.injEq] at hab
  obtain ⟨a1, a2, a3, a4⟩ := hab
  unfold BL.ok at hk ⊢
  rw [← eN, ← a1, ← a2, ← a3, ← a4]
  exact hk
theorem ChkR.plain {P Q : PK} (h : P.plain = Q.plain) {x : Int} (k : ChkR P x) : ChkR Q x := by
  have e := h
  simp only [PK.plain, Prod.mk.injEq] at e
  obtain ⟨e1, e2, e3⟩ := e
  have el : P.bs.length = Q.bs.length := by have := congrArg List.length e2; simpa using this
  have eE : P.E = Q.E := by unfold PK.E; rw [e1, el, plain_ed e2]
  have eS : P.S = Q.S := by funext k; unfold PK.S; rw [plain_ff e2]
  rcases k with ⟨rfl, h1, m, h2⟩ | ⟨rfl, h1⟩ | ⟨rfl, h1, h2⟩
  · exact .inl ⟨rfl, plain_may h h1, m, by rw [← eE, ← eS]; exact h2⟩
  · exact .inr (.inl ⟨rfl, fun hq => h1 (plain_may h.symm hq)⟩)
  · exact .inr (.inr ⟨rfl, plain_may h h1, by rw [← eE, ← eS]; exact h2⟩)

def PchkOut (P : PK) (w : World) (e : Ending) (w' : World) : Prop := ∃ x, e = .returned (.int .i64 x) ∧ ChkR P x ∧ Below w.heap.size w w'
set_option maxRecDepth 100000 in
set_option maxHeartbeats 1000000 in
theorem pchk_any (P : PK) (w : World) (hin : P.In w) (hf : P.fit) : Calls Try.prog 67 #[.agg #[.int .i64 P.I, .slice P.AB P.bs.length P.cB, .slice P.AO P.outs.length P.cO]] w (PchkOut P w) := by
  have T0 := Lib.hid (MW.new w P)
  have HI := Lib.hid (hin.later (below_new w (.cells #[.int .i64 P.I, .slice P.AB P.bs.length P.cB, .slice P.AO P.outs.length P.cO] 49)))
  have HF := Lib.hid hf
  clear hin hf
  by_cases hm : P.may
  · have ho := order_yes P _ HI.out HF.out hm
    unfold ORD at ho
    have HO := Lib.hid ho
    have HM := Lib.hid hm
    clear ho hm
    go_enter Try.func67, Try.ntmps67
    go_wp2_with fail
    refine HO.out.mono ?_
    rintro e w1 (⟨A, c, O, rfl, hA, hb, -⟩ | ⟨rfl, hA, hb⟩)
    · have T1 := Lib.hid (T0.out.keep hb)
      have HA := Lib.hid hA
      clear hb hA
      go_wp2_with fail
      go_ret
      exact ⟨0, rfl, .inl ⟨rfl, HM.out, O, HA.out⟩, T1.out.below⟩
    · have T1 := Lib.hid (T0.out.keep hb)
      have HA := Lib.hid hA
      clear hb hA
      go_wp2_with fail
      go_ret
      exact ⟨321, rfl, .inr (.inr ⟨rfl, HM.out, HA.out⟩), T1.out.below⟩
  · have ho := order_no P _ HI.out HF.out hm
    unfold ORD at ho
    have HO := Lib.hid ho
    have HM := Lib.hid hm
    clear ho hm
    go_enter Try.func67, Try.ntmps67
    go_wp2_with fail
    refine HO.out.mono ?_
    rintro e w1 ⟨rfl, hb⟩
    have T1 := Lib.hid (T0.out.keep hb)
    clear hb
    go_wp2_with fail
    go_ret
    exact ⟨1, rfl, .inr (.inl ⟨rfl, HM.out⟩), T1.out.below⟩
end Go.Proofs.Ytoloaecbfglaeaa
