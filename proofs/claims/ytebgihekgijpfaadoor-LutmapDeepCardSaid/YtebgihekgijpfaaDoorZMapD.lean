/- The net that gates are made, plainly: it is as deep as the gates' cuts. -/
import Derived.Test.YtebgihekgijpfaaDoorZMapB
import Derived.Test.YtebgihekgijpfaaDoorZLLev
namespace Go.Proofs.YtebgihekgijpfaaDoor
open Go.RowKit
set_option linter.unusedVariables false
set_option linter.unusedSimpArgs false
theorem deepTo_ge (d l : List Int) : ∀ k i, i < k → d.getD (l.getD i 0).toNat 0 ≤ Cut.deepTo d l k
  | 0, i, h => absurd h (Nat.not_lt_zero _)
  | k + 1, i, h => by
    rcases Nat.lt_succ_iff_lt_or_eq.1 h with h1 | rfl
    · have := deepTo_ge d l k i h1; rw [Cut.deepTo]; omega
    · rw [Cut.deepTo]; omega
theorem deepTo_nn (d l : List Int) : ∀ k, 0 ≤ Cut.deepTo d l k
  | 0 => Int.le_refl _
  | k + 1 => by have := deepTo_nn d l k; rw [Cut.deepTo]; omega
theorem deepTo_le (d l : List Int) (b : Int) (hb : 0 ≤ b) : ∀ k, (∀ i, i < k → d.getD (l.getD i 0).toNat 0 ≤ b) → Cut.deepTo d l k ≤ b
  | 0, _ => hb
  | k + 1, h => by have := deepTo_le d l b hb k (fun i hi => h i (by omega)); have := h k (by omega); rw [Cut.deepTo]; omega
theorem deep_lv (d l : List Int) : Cut.deep d l = 1 + lvMax d l := by
  have e : Cut.deepTo d l l.length = lvMax d l := by
    refine Int.le_antisymm (deepTo_le d l _ (lvMax_nn d l) _ fun i hi => lvMax_ge d l _ ?_) ?_
    · rw [List.getD_eq_getElem?_getD, List.getElem?_eq_getElem hi]; exact List.getElem_mem hi
    · rcases lvMax_mem d l with h | ⟨x, hx, e⟩
      · rw [h]; exact deepTo_nn d l _
      · obtain ⟨i, hi, rfl⟩ := List.mem_iff_getElem.1 hx
        have := deepTo_ge d l l.length i hi
        rw [List.getD_eq_getElem?_getD (l := l), List.getElem?_eq_getElem hi] at this
        rw [e]; exact this
  unfold Cut.deep
  rw [e]; omega
theorem nlTo_pre (ls : List PC) (f : Nat) {j : Nat} : ∀ {i : Nat}, j ≤ i → ∀ x, x < f + j → (nlTo ls f i).getD x 0 = (nlTo ls f j).getD x 0
  | 0, h, x, hx => by obtain rfl : j = 0 := by omega
                      rfl
  | i + 1, h, x, hx => by
    rcases Nat.lt_or_ge j (i + 1) with h1 | h1
    · rw [← nlTo_pre ls f (show j ≤ i by omega) x hx]
      exact getD_left _ _ _ (by rw [nlTo_len]; omega)
    · obtain rfl : j = i + 1 := by omega
      rfl
theorem lvMax_congr {d e : List Int} : ∀ {l : List Int}, (∀ z ∈ l, d.getD z.toNat 0 = e.getD z.toNat 0) → lvMax d l = lvMax e l
  | [], _ => rfl
  | z :: l, h => by
    have ih := lvMax_congr (l := l) (fun y hy => h y (List.mem_cons_of_mem _ hy))
    simp only [lvMax, h z (List.mem_cons_self ..), ih]
theorem set_auxI {α : Type} (l : List α) (x d : α) : (l ++ [x]).getD l.length d = x := by
  rw [List.getD_eq_getElem?_getD, List.getElem?_append_right (Nat.le_refl _), Nat.sub_self]; rfl
/-- the depth of a literal -/
def litDeep (d : List Int) (a : Nat) : Int := if a % 2 = 1 then max (d.getD (a / 2) 0) 1 else d.getD (a / 2) 0
theorem NT.IsMap.deeps {N : NT} {G : AG} {k : Int} (h : N.IsMap G k) (hm : G.ok ∧ 2 ≤ k ∧ k ≤ 6) (hf : G.fit) : ∀ a, (G.mp k).good a → N.levV.getD ((G.mp k).at_ a) 0 = litDeep (G.bothTo k (G.cn - 1)).2 a := by
  have hc : N.chk 6 = 0 := NT.chk_may.2 (h.may hm hf).six
  have hV : N.levV = nlTo N.luts G.fst N.ls.length := by
    unfold NT.levV
    rw [if_pos hc, h.len.1, h.i]
    rfl
  have hMF : (G.mp k).F = G.fst := rfl
  have hll := h.len.2.2
  have hFc : G.fst ≤ G.cn := Nat.le_add_right _ _
  have hdp : ∀ x, x < G.cn → (G.bothTo k (G.cn - 1)).2.getD x 0 = G.depAt k x := fun x hx => G.depAt_eq k (by omega)
  refine (AG.mp_ok hm).deep _ _ (fun x hx => ⟨?_, ?_⟩) (fun i hil => ?_) (fun x hx hx2 => ?_)
  · rw [hV, nlTo_pre N.luts G.fst (Nat.zero_le _) x (by omega), nlTo, List.getD_eq_getElem?_getD, List.getElem?_eq_getElem (by rw [List.length_replicate]; omega), List.getElem_replicate]
    rfl
  · rw [hdp x (by omega)]; exact AG.dep_low (by omega)
  · have hin : i < N.ls.length := by rw [hll]; exact hil
    have hiL : i < N.luts.length := by rw [N.luts_len]; exact hin
    obtain ⟨hl, e⟩ := h.lut_at hin
    have hlat : N.luts[i] = (G.mp k).lut (G.mp k).lits[i] := by rw [N.luts_at hin]; exact e
    obtain ⟨-, h2, h3⟩ := (AG.mp_ok hm).lits_at hl
    have hins := (AG.mp_ok hm).lut_in h2
    rw [h3] at hins
    rw [hV, hMF, nlTo_pre N.luts G.fst (show i + 1 ≤ N.ls.length by omega) _ (by omega), nlTo_next N.luts G.fst hiL, hlat]
    have hat := set_auxI (nlTo N.luts G.fst i) (1 + lvMax (nlTo N.luts G.fst i) ((G.mp k).lut (G.mp k).lits[i]).1) 0
    rw [nlTo_len] at hat
    rw [hat]
    congr 1
    refine lvMax_congr fun y hy => ?_
    have := hins y hy
    exact (nlTo_pre N.luts G.fst (show i ≤ N.ls.length by omega) _ (by omega)).symm
  · have hc0 := AG.c0_ok hm hx hx2
    have hrd := AG.row_deep hm hx2 hx (d := (G.bothTo k (G.cn - 1)).2) (fun z hz => hdp z (by have : x < G.cn := hx2; omega))
    rw [hdp x hx2]
    refine ⟨hrd.2.1, ?_⟩
    have h0 := (hrd.2.2 0 (by omega)).2 rfl
    have e0 : (G.rowAt k x).getD 0 ([], 0) = G.c0 k x := by
      unfold AG.c0
      cases G.rowAt k x <;> rfl
    rw [e0] at h0
    rw [← h0, deep_lv]
    have hcast : (((G.mp k).C x).map fun z : Nat => (z : Int)) = (G.c0 k x).1 := by
      show (((G.c0 k x).1.map Int.toNat).map fun z : Nat => (z : Int)) = _
      rw [List.map_map]
      conv => rhs; rw [← List.map_id (G.c0 k x).1]
      refine List.map_congr_left fun z hz => ?_
      have := hc0.lv z hz
      simp only [Function.comp, id]
      omega
    rw [hcast]
/-- cuts.Depths, of gates so few -/
def DepAns (G : AG) (k : Int) (w : World) (r : Ending) (w' : World) : Prop :=
  (G.errM k = 0 → ∃ AD cD, r = .returned (.tuple #[.slice AD G.cn cD, .int .i64 0]) ∧ Below w.heap.size w w' ∧ Rd w' 1 AD G.cn cD (ints (G.bothTo k (G.cn - 1)).2)) ∧
  (G.errM k ≠ 0 → r = .returned (.tuple #[.slice none 0 0, .int .i64 (G.errM k)]) ∧ Below w.heap.size w w')
theorem cdep25_any (G : AG) (k : Int) (w : World) (hin : G.In w) (hf : fewG25 G) (hw : G.wf) (hcols : COLS w) :
    Calls Tryd.prog 15 #[.agg #[.int .i64 G.I, .slice G.AF G.fl.length G.cF, .slice G.AA G.an.length G.cA, .slice G.AO G.ou.length G.cO], .int .i64 k] w (DepAns G k w) := by
  by_cases hi : 65536 < G.I
  · have e : G.errM k = 2 := if_pos hi
    refine (cdepths_big G k w hi).mono fun r w' h => ⟨fun h0 => by omega, fun _ => by rw [e]; exact h⟩
  · have hfit := fewG25_fit hf (by omega)
    by_cases hm : G.may k
    · have e : G.errM k = 0 := by unfold AG.errM; rw [if_neg hi, if_pos hm]
      refine (cdepths_any G k w hin hfit hw hcols).mono fun r w' h => ⟨fun _ => ?_, fun h0 => absurd e h0⟩
      obtain ⟨AO, cO, rs, AD, cD, h1, h2, h3, -⟩ := h.1 hm
      have hl := (G.bothTo_len k (G.cn - 1)).2
      have hp := G.fst_pos
      have hFc : G.fst ≤ G.cn := Nat.le_add_right _ _
      rw [show G.cn - 1 + 1 = G.cn by omega] at hl
      have hd := Rd.of_own h3.dep
      rw [hl] at h1 hd
      exact ⟨AD, cD, h1, h2, hd⟩
    · have e : G.errM k = 1 := by unfold AG.errM; rw [if_neg hi, if_neg hm]
      exact (cdepths_any G k w hin hfit hw hcols).mono fun r w' h => ⟨fun h0 => by omega, fun _ => by rw [e]; exact h.2 hm⟩
end Go.Proofs.YtebgihekgijpfaaDoor
