/- A net with one table turned round, plainly. -/
import Derived.Test.YtaajnmggbhnndaaGreatDoorZMapG
import Derived.Test.YtaajnmggbhnndaaGreatDoorZLRun
namespace Go.Proofs.YtaajnmggbhnndaaGreatDoor
open Go.RowKit
set_option linter.unusedVariables false
set_option linter.unusedSimpArgs false
theorem rows_andNot {n T : Nat} (hn : n ≤ 6) (hT : T < 2 ^ 2 ^ n) : Cut.rows n &&& (18446744073709551615 - T) = Cut.rows n ^^^ T := by
  have h1 : 2 ^ n ≤ 64 := by
    have : 2 ^ n ≤ 2 ^ 6 := Nat.pow_le_pow_right (by decide) hn
    omega
  have h2 : 2 ^ 2 ^ n ≤ 2 ^ 64 := Nat.pow_le_pow_right (by decide) h1
  have h3 : (18446744073709551615 : Nat) - T = 2 ^ 64 - (T + 1) := by
    have : (2 : Nat) ^ 64 = 18446744073709551616 := by decide
    omega
  apply Nat.eq_of_testBit_eq
  intro i
  rw [Nat.testBit_and, Nat.testBit_xor, rows_bitP, h3, Nat.testBit_two_pow_sub_succ (by omega)]
  by_cases hi : i < 2 ^ n
  · rw [decide_eq_true hi, decide_eq_true (show i < 64 by omega)]
    cases T.testBit i <;> rfl
  · rw [decide_eq_false hi, Nat.testBit_lt_two_pow (Nat.lt_of_lt_of_le hT (Nat.pow_le_pow_right (by decide) (by omega)))]
    rfl
theorem turn_bit {bs : List Bool} {T n : Nat} (hn : bs.length = n) : bitB (Cut.rows n ^^^ T) bs = !bitB T bs := by
  subst hn
  rw [bitB_bit, bitB_bit, Nat.testBit_xor, rows_bitP, decide_eq_true (rowB_lt bs)]
  cases T.testBit (rowB bs) <;> rfl
theorem nvTo_same (ls ms : List PC) (ins st : List Bool) : ∀ i, (∀ j, j < i → ls.getD j ([], 0) = ms.getD j ([], 0)) → nvTo ls ins st i = nvTo ms ins st i
  | 0, _ => rfl
  | i + 1, h => by
    have ih := nvTo_same ls ms ins st i (fun j hj => h j (by omega))
    rw [nvTo, nvTo, ih, h i (by omega)]
theorem cutC_set : ∀ (ls : List CT) (a T : Nat) (h : a < ls.length), (cutC ls).set (a * 2 + 1) (.int .u64 (T : Int)) = cutC (ls.set a (ls[a].1, T))
  | c :: ls, 0, T, _ => rfl
  | c :: ls, a + 1, T, h => by
    have ih := cutC_set ls a T (by simpa using h)
    show (slv c.1 :: .int .u64 (c.2 : Int) :: cutC ls).set ((a + 1) * 2 + 1) _ = slv c.1 :: .int .u64 (c.2 : Int) :: cutC (ls.set a ((ls[a]'(by simpa using h)).1, T))
    rw [show (a + 1) * 2 + 1 = (a * 2 + 1) + 1 + 1 by omega, List.set_cons_succ, List.set_cons_succ, ih]
/-- the net with one table turned round -/
def NT.turn (N : NT) (a : Nat) (l : SL) (T : Nat) (A : Option Addr) (c : Nat) : NT := { N with AL := A, cL := c, ls := N.ls.set a (l, T) }
variable {N : NT} {a T c : Nat} {l : SL} {A : Option Addr}
theorem NT.turn_len : (N.turn a l T A c).ls.length = N.ls.length := List.length_set
theorem NT.turn_luts : (N.turn a l T A c).luts = N.luts.set a (l.2.2, T) := by
  show pcs (N.ls.set a (l, T)) = (pcs N.ls).set a (l.2.2, T)
  unfold pcs
  rw [List.map_set]
theorem getD_set_ne {α : Type} {ls : List α} {x d : α} {i j : Nat} (h : i ≠ j) : (ls.set i x).getD j d = ls.getD j d := by
  rw [List.getD_eq_getElem?_getD, List.getD_eq_getElem?_getD, List.getElem?_set_ne h]
theorem NT.turn_may (h : N.may 6) (ha : a < N.ls.length) (hl : l = N.ls[a].1) (hT : T < 2 ^ 2 ^ l.2.2.length) : (N.turn a l T A c).may 6 := by
  have hfst : (N.turn a l T A c).fst = N.fst := rfl
  have htot : (N.turn a l T A c).tot = N.tot := by unfold NT.tot; rw [hfst, NT.turn_len]
  refine ⟨h.kk, h.i, fun i hi => ?_, fun x hx => by rw [htot]; exact h.ok.2.1 x hx, fun x hx => by rw [htot]; exact h.ok.2.2 x hx⟩
  have hi' : i < N.ls.length := by rw [NT.turn_len] at hi; exact hi
  have h0 := h.ok.1 i hi'
  rw [hfst]
  have e : (N.turn a l T A c).ls[i] = if a = i then (l, T) else N.ls[i] := List.getElem_set ..
  rw [e]
  split
  · rename_i e
    subst e
    rw [← hl] at h0
    have h1 := lutB_len h0
    simp only [lutB, Bool.and_eq_true, decide_eq_true_eq, List.all_eq_true, nodeB]
    exact ⟨⟨h1.1, hT⟩, fun y hy => h1.2.2 y hy⟩
  · exact h0
theorem NT.turn_fit (h : N.fit) (ha : a < N.ls.length) (hl : l = N.ls[a].1) : (N.turn a l T A c).fit := by
  refine ⟨h.hs, by rw [NT.turn_len]; exact h.ls, h.ou, fun x hx => ?_, h.i⟩
  rcases List.mem_or_eq_of_mem_set hx with hx | hx
  · exact h.li x hx
  · subst hx; subst hl; show N.ls[a].1.2.2.length ≤ 1000; exact h.li _ (List.getElem_mem ha)
theorem NT.turn_wf (h : N.wf) (ha : a < N.ls.length) (hl : l = N.ls[a].1) (hT : T < 18446744073709551616) : (N.turn a l T A c).wf := by
  refine ⟨h.i, h.hs, fun x hx => ?_, h.ou⟩
  rcases List.mem_or_eq_of_mem_set hx with hx | hx
  · exact h.ls x hx
  · subst hx; subst hl; exact ⟨(h.ls _ (List.getElem_mem ha)).1, hT⟩
/-- the values of the nodes ahead of it are the same, its own is turned round -/
theorem NT.turn_vals {ins st : List Bool} {F : Nat} (hF : F = 1 + ins.length + st.length) (ha : a < N.ls.length) (hl : l = N.ls[a].1) (hT : T = Cut.rows l.2.2.length ^^^ N.ls[a].2) :
    (∀ x, x < F + a → (nvTo (N.turn a l T A c).luts ins st N.ls.length).getD x false = (nvTo N.luts ins st N.ls.length).getD x false) ∧ (nvTo (N.turn a l T A c).luts ins st N.ls.length).getD (F + a) false = !(nvTo N.luts ins st N.ls.length).getD (F + a) false := by
  have hs : nvTo (N.turn a l T A c).luts ins st a = nvTo N.luts ins st a := nvTo_same _ _ _ _ a (fun j hj => by rw [NT.turn_luts, getD_set_ne (by omega)])
  have haL : a < N.luts.length := by rw [N.luts_len]; exact ha
  have haL2 : a < (N.turn a l T A c).luts.length := by rw [NT.luts_len, NT.turn_len]; exact ha
  refine ⟨fun x hx => ?_, ?_⟩
  · rw [nvTo_pre _ ins st (show a ≤ N.ls.length by omega) x (by omega), nvTo_pre N.luts ins st (show a ≤ N.ls.length by omega) x (by omega), hs]
  · rw [nvTo_pre _ ins st (show a + 1 ≤ N.ls.length by omega) _ (by omega), nvTo_pre N.luts ins st (show a + 1 ≤ N.ls.length by omega) _ (by omega), nvTo_next _ ins st haL2, nvTo_next _ ins st haL, hs]
    have hlen : F + a = (nvTo N.luts ins st a).length := by rw [nvTo_len]; omega
    have hat : ∀ (L : List Bool) (x : Bool), F + a = L.length → (L ++ [x]).getD (F + a) false = x := fun L x e => by
      rw [e, List.getD_eq_getElem?_getD, List.getElem?_append_right (Nat.le_refl _), Nat.sub_self]; rfl
    rw [hat _ _ hlen, hat _ _ hlen]
    have e1 : (N.turn a l T A c).luts[a] = (l.2.2, T) := by
      have : ∀ (L : List PC) (hL : (N.turn a l T A c).luts = L) (h2 : a < L.length), (N.turn a l T A c).luts[a] = L[a] := fun L hL h2 => by subst hL; rfl
      rw [this _ NT.turn_luts (by rw [List.length_set]; exact haL), List.getElem_set_self]
    have e2 : N.luts[a] = (l.2.2, N.ls[a].2) := by rw [N.luts_at ha, hl]
    rw [e1, e2, hT]
    exact turn_bit (by unfold pickB; rw [List.length_map])
end Go.Proofs.YtaajnmggbhnndaaGreatDoor
