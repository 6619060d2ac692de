/- Walk of filigree/bitfile.Get: any bytes as a configuration, or why they are none. -/
import Derived.Test.YtoloaecbfglaeaaGreatGet
import Derived.Test.YtoloaecbfglaeaaGreatGetE
namespace Go.Proofs.YtoloaecbfglaeaaGreat
open Go.RowKit Go.Shelf
set_option linter.unusedVariables false
theorem bget_any (A : Option Addr) (n c : Nat) (l : List Nat) (w : World) (hr : Rd w 1 A n c (bys l)) (hl : ∀ x ∈ l, x < 256) (hn : n ≤ 5000) (hc : c ≤ maxLen) : BGET A n c w (GetOut l w) := by
  have hln : l.length = n := by have := hr.len; rw [bys_length] at this; omega
  by_cases h15 : n < 15
  · exact bget_short A n c l w hln h15
  · cases A with
    | none => exfalso; have h1 := hr.nil rfl; have h2 := hr.cap; omega
    | some a =>
      have h15' : 15 ≤ n := by omega
      by_cases hm : l.take 4 = magicB
      · by_cases hA : okA (gW l) (gH l) (gT l)
        · by_cases hsz : n = sizeB l (gN l) + 4
          · by_cases hsum : l.drop (sizeB l (gN l)) = four (sumB (l.take (sizeB l (gN l))))
            · exact bget_long a n c l w hr hl hn hc h15' hm hA hsz hsum
            · exact bget_sum a n c l w hr hl hn hc h15' hm hA hsz hsum
          · exact bget_size a n c l w hr hl hn hc h15' hm hA (by rw [hln]; exact hsz)
        · exact bget_arch a n c l w hr hl hn hc h15' hm hA
      · exact bget_magic a n c l w hr hl hn h15' hm
end Go.Proofs.YtoloaecbfglaeaaGreat
