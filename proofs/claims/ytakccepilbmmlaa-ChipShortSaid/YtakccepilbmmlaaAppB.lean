/- append of a whole list of bools onto a row of the call's own: a law for walks. -/
import Derived.Test.YtakccepilbmmlaaMem
import Derived.Test.YtakccepilbmmlaaEdA
import Derived.Test.YtakccepilbmmlaaBchk
import Derived.Laws.AppendOwnNone
namespace Go.Proofs.Ytakccepilbmmlaa
open Go.RowKit
set_option linter.unusedVariables false
set_option linter.unusedSimpArgs false

section
variable {ops : Array Oper} {rest : List Oper} {o : Oper} {a : Act} {Q : Exit → Act → World → Prop}
theorem wpList_app_bools (hgd : o.guard = none) (s x : Operand) (ho : o.op = .call { callee := .builtin .append, args := #[s, x], argTypes := #[25, 25] })
    {W : World} (base : Nat) (A : Option Addr) (k c : Nat) (L : List Bool) (hs : a.eval s = .slice A k c) (O : W.ownsRow base 4 1 (.slice A k c) k (bools L)) (A2 : Option Addr) (n d : Nat) (M : List Bool) (hx : a.eval x = .slice A2 n d) (hr : Rd W 1 A2 n d (bools M))
    (hk : k + n ≤ 100000000) (hb : base ≤ W.heap.size)
    (h : ∀ A' c' w', w'.ownsRow base 4 1 (.slice A' (k + n) c') (k + n) (bools (L ++ M)) → W.grownBy w' (Value.slice A k c).ownBlock → wpList Try.prog ops Q rest (a.put o.dst (.slice A' (k + n) c')) w') :
    wpList Try.prog ops Q (o :: rest) a W := by
  obtain ⟨i0, hi0, hz0, hz1, hz2⟩ := info_parts bool_zero
  cases A2 with
  | none =>
    have hd : d = 0 := hr.nil rfl
    have hn : n = 0 := by have := hr.cap; omega
    subst hd hn
    have hM : M = [] := List.eq_nil_of_length_eq_zero (by have := hr.len; rw [bools_length] at this; omega)
    subst hM
    refine wpList_append_own_none hgd s x 25 ho base 4 i0 1 Try.underlying25 hi0 (.slice A k c) k (bools L) hs O hx ?_
    exact h A c W (by simpa using O) (World.grownBy.refl W _)
  | some ad =>
    refine wpList_append_own _ hgd s x 25 ho base 4 i0 (.bool false) 1 1 Try.underlying25 hi0 hz0 hz1 hz2 rfl (by decide) (.slice A k c) k (bools L) hs O ad n d (bools M) hx (by have := hr.len; exact this) ?_ ?_ ?_ ?_ ?_ ?_
    · intro j u hj
      obtain ⟨a', e, -, hc⟩ := hr.read j u hj
      obtain rfl := Option.some.inj e
      exact hc
    · intro u hu
      obtain ⟨z, -, rfl⟩ := List.mem_map.1 hu
      rfl
    · unfold maxLen; omega
    · omega
    · exact hb
    · intro v' w' hown hg _
      obtain ⟨A', c', rfl⟩ := own_slice hown
      refine h A' c' w' ?_ hg
      have e : bools (L ++ M) = bools L ++ bools M := by simp [bools]
      rw [e]
      exact hown
end
end Go.Proofs.Ytakccepilbmmlaa
