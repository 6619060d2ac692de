/- Small laws for the laws on switches: 'track' by its contract, the pairs of a list, what a draw keeps. -/
import Derived.Test.YtakccepilbmmlaaBox
import Derived.Test.YtakccepilbmmlaaFabS
import Derived.Test.YtakccepilbmmlaaSmall
import Derived.Test.YtakccepilbmmlaaTrack
namespace Go.Proofs.Ytakccepilbmmlaa
open Go.RowKit
set_option linter.unusedVariables false
set_option linter.unusedSimpArgs false


theorem box_drewN {w : World} {b : Nat} {x y z : Value} (h : Box3 w b x y z) (n : Nat) : Box3 (w.drewN n) b x y z := ⟨h.lt, h.c0, h.c1, h.c2⟩
theorem own_drewN {w : World} {base : Nat} {e : TypeId} {size : Nat} {v : Value} {n : Nat} {xs : List Value} (h : w.ownsRow base e size v n xs) (k : Nat) : (w.drewN k).ownsRow base e size v n xs := h

/-- where the pairs of a list lie -/
theorem own_pair {w : World} {base n : Nat} {A : Option Addr} {c : Nat} {l : List (Int × Int)} (h : w.ownsRow base 39 2 (.slice A n c) n (pc l)) (hn : 0 < n) :
    ∃ g, A = some ⟨g, 0, none⟩ ∧ ∀ k, k < n → w.cell? ⟨g, k * 2, none⟩ = some (.int .i64 (l[k]!).1) ∧ w.cell? ⟨g, k * 2 + 1, none⟩ = some (.int .i64 (l[k]!).2) := by
  obtain ⟨g, cap, hv, _, _⟩ := h.form hn
  have hA : A = some ⟨g, 0, none⟩ := by injection hv
  subst hA
  have hl : l.length = n := by have := h.1; rw [pc_length] at this; omega
  refine ⟨g, rfl, fun k hk => ⟨?_, ?_⟩⟩
  · have := h.cells (g := g) rfl (k * 2) (.int .i64 (l[k]!).1) (by
      rw [pc_get l (k * 2) (by omega), show k * 2 / 2 = k from by omega, show k * 2 % 2 = 0 from by omega]; rfl)
    rw [Addr.add_lit] at this
    simpa using this
  · have := h.cells (g := g) rfl (k * 2 + 1) (.int .i64 (l[k]!).2) (by
      rw [pc_get l (k * 2 + 1) (by omega), show (k * 2 + 1) / 2 = k from by omega, show (k * 2 + 1) % 2 = 1 from by omega]; rfl)
    rw [Addr.add_lit] at this
    simpa using this
end Go.Proofs.Ytakccepilbmmlaa
