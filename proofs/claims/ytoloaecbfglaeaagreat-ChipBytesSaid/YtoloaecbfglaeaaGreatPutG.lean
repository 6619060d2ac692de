/- One byte behind a row of bytes, and where the row lies then; put and two, said by what they leave as it was. -/
import Derived.Test.YtoloaecbfglaeaaGreatChunk
import Derived.Maps.AppendAt
namespace Go.Proofs.YtoloaecbfglaeaaGreat
open Go.RowKit Go.Shelf
set_option linter.unusedVariables false
set_option linter.unusedSimpArgs false

theorem grown_then {w wr w2 : World} {row b : Option Nat} (h : w.grownBy wr row) (hv : b = row ∨ ∀ g, b = some g → w.heap.size ≤ g) (h2 : wr.grownBy w2 b) : w.grownBy w2 row := by
  refine ⟨h2.os.trans h.os, h2.tape.trans h.tape, h2.output.trans h.output, Nat.le_trans h.size h2.size, fun k hk hne => ?_⟩
  refine (h2.block k (Nat.lt_of_lt_of_le hk h.size) ?_).trans (h.block k hk hne)
  rcases hv with rfl | hv
  · exact hne
  · exact fun e => by have := hv k e.symm; omega
theorem fresh_then {w wr : World} {row b b' : Option Nat} (hs : w.heap.size ≤ wr.heap.size) (hv : b = row ∨ ∀ g, b = some g → w.heap.size ≤ g) (h : b' = b ∨ b' = some wr.heap.size) : b' = row ∨ ∀ g, b' = some g → w.heap.size ≤ g := by
  rcases h with rfl | rfl
  · exact hv
  · exact .inr fun g e => by obtain rfl := Option.some.inj e; exact hs
section
variable {ops : Array Oper} {rest : List Oper} {o : Oper} {a : Act} {Q : Exit → Act → World → Prop}
/-- one byte behind a row of bytes, and where the row lies then -/
theorem wpList_app_byte_at (hgd : o.guard = none) (s x : Operand) (ho : o.op = .call { callee := .builtin .append, args := #[s, x], argTypes := #[48, 48] })
    {W : World} (base : Nat) (A : Option Addr) (k c : Nat) (L : List Nat) (hs : a.eval s = .slice A k c) (O : W.ownsRow base 5 1 (.slice A k c) k (bys L)) (z : Nat) (v : Int) (hv : v = (z : Int)) (hx : a.eval x = .slice (some ⟨W.heap.size, 0, none⟩) 1 1)
    (hk : k ≤ 100000000) (hb : base ≤ W.heap.size)
    (h : ∀ A' c' w', w'.ownsRow base 5 1 (.slice A' (k + 1) c') (k + 1) (bys (L ++ [z])) → W.grownBy w' (Value.slice A k c).ownBlock → ((Value.slice A' (k + 1) c').ownBlock = (Value.slice A k c).ownBlock ∨ (Value.slice A' (k + 1) c').ownBlock = some (W.heap.size + 1)) → wpList Tryz.prog ops Q rest (a.put o.dst (.slice A' (k + 1) c')) w') :
    wpList Tryz.prog ops Q (o :: rest) a (W.alloc (.cells #[.int .u8 v] 5)) := by
  obtain ⟨i0, hi0, hz0, hz1, hz2⟩ := info_parts byte_info
  have hr := rd_bys1 W 5 z v hv
  refine wpList_append_own_at _ hgd s x 48 ho base 5 i0 (.int .u8 0) 1 1 Tryz.underlying48 hi0 hz0 hz1 hz2 rfl (by decide) (.slice A k c) k (bys L) hs (O.alloc _) ⟨W.heap.size, 0, none⟩ 1 1 (bys [z]) hx rfl ?_ ?_ ?_ ?_ ?_ ?_
  · intro j u hj
    obtain ⟨a', e, -, hc⟩ := hr.read j u hj
    obtain rfl := Option.some.inj e
    exact hc
  · intro u hu
    obtain ⟨z, -, rfl⟩ := List.mem_map.1 hu
    rfl
  · unfold maxLen; omega
  · omega
  · simp; omega
  · intro v' w' hown hg _ hat
    obtain ⟨A', c', rfl⟩ := own_slice hown
    refine h A' c' w' ?_ ((World.grownBy_alloc W _ _).trans hg) (by simpa using hat)
    rw [bys_append]
    exact hown
end
set_option maxRecDepth 100000 in
set_option maxHeartbeats 1000000 in
theorem bput_grown (w : World) (base : Nat) (A : Option Addr) (k c : Nat) (L : List Nat) (ho : w.ownsRow base 5 1 (.slice A k c) k (bys L)) (hb : base ≤ w.heap.size) (n m : Nat) (hn : n < 4294967296) (hm : m ≤ 4) (hk : k ≤ 10000000) :
    Calls Tryz.prog 42 #[.slice A k c, .int .u32 (n : Int), .int .i64 (m : Int)] w fun e w' => ∃ A' c', e = .returned (.slice A' (k + m) c') ∧ w.grownBy w' (Value.slice A k c).ownBlock ∧ w'.ownsRow base 5 1 (.slice A' (k + m) c') (k + m) (bys (L ++ bigTo n m m)) := by
  have HO := Lib.hid ho
  clear ho
  obtain ⟨R, hR⟩ : ∃ R : Ending → World → Prop, (fun e w' => ∃ A' c', e = .returned (.slice A' (k + m) c') ∧ w.grownBy w' (Value.slice A k c).ownBlock ∧ w'.ownsRow base 5 1 (.slice A' (k + m) c') (k + m) (bys (L ++ bigTo n m m))) = R := ⟨_, rfl⟩
  rw [hR]
  have HR := Lib.hid hR
  clear hR
  obtain ⟨row, hrow⟩ : ∃ row, (Value.slice A k c).ownBlock = row := ⟨_, rfl⟩
  have HROW := Lib.hid hrow
  clear hrow
  go_enter Tryz.func42, Tryz.ntmps42
  go_wp2_with fail
  go_loopw [0, 7] (fun v i wx => ∃ (j : Nat) (A' : Option Addr) (c' : Nat), j ≤ m ∧ i = .int .i64 ((m : Int) - 1 - (j : Int)) ∧ v = .slice A' (k + j) c' ∧ w.grownBy wx row ∧ (v.ownBlock = row ∨ ∀ g, v.ownBlock = some g → w.heap.size ≤ g) ∧ wx.ownsRow base 5 1 (.slice A' (k + j) c') (k + j) (bys (L ++ bigTo n m j))) (fun _ i _ => (intOf i + 1).toNat)
  case atStart => exact ⟨0, A, c, by omega, by simp, rfl, World.grownBy.refl _ _, .inl HROW.out, by simpa [bigTo] using HO.out⟩
  case round =>
    obtain ⟨j, A1, c1, hj, rfl, rfl, hbb, hfr, hown⟩ := hrel
    have HB := Lib.hid hbb
    have HF := Lib.hid hfr
    have H1 := Lib.hid hown
    have hsz : base ≤ wr.heap.size := by have := hbb.size; omega
    clear hbb hown hfr
    by_cases hlt : j < m
    · obtain ⟨q, hq⟩ : ∃ q : Nat, m - 1 - j = q := ⟨_, rfl⟩
      have hqi : (m : Int) - 1 - (j : Int) = (q : Int) := by omega
      rw [hqi]
      have hnx := bigTo_next n m j
      rw [hq] at hnx
      have HNX := Lib.hid hnx
      have hq4 : q ≤ 3 := by omega
      clear hnx
      have hv : (n : Int) / 2 ^ (8 * q) % 256 = ((n / 2 ^ (8 * q) % 256 : Nat) : Int) := by
        rw [Int.natCast_emod, Int.natCast_ediv, Int.natCast_pow]; rfl
      have HV := Lib.hid hv
      clear hv
      go_wp2_with (at_builtin; refine wpList_app_byte_at rfl (.tmp 14) (.tmp 20) rfl base A1 (k + j) c1 (L ++ bigTo n m j) rfl H1.out (n / 2 ^ (8 * q) % 256) _ HV.out rfl (by omega) hsz ?_)
      intro A2 c2 w2 hown2 hg2 hat2
      have B2 := Lib.hid (grown_then HB.out HF.out hg2)
      have F2 := Lib.hid (fresh_then (w := w) (wr := wr.alloc (.cells #[] 0)) (by have := HB.out.size; simp; omega) HF.out (by simpa using hat2))
      have O2 := Lib.hid hown2
      clear hown2 hg2 hat2
      go_wp2_with fail
      go_roundw
      case rel => exact ⟨j + 1, A2, c2, by omega, by go_num, rfl, B2.out, F2.out, by rw [HNX.out, ← Nat.add_assoc]; exact O2.out⟩
      case measure => simp [intOf]
    · obtain rfl : j = m := by omega
      have hneg : decide ((0 : Int) ≤ (j : Int) - 1 - (j : Int)) = false := decide_eq_false (by omega)
      go_wp2_with fail
      rw [← HR.out]
      exact ⟨A1, c1, rfl, by rw [HROW.out]; exact HB.out, H1.out⟩

set_option maxHeartbeats 1000000 in
theorem btwo_grown (w : World) (base : Nat) (A : Option Addr) (k c : Nat) (L : List Nat) (ho : w.ownsRow base 5 1 (.slice A k c) k (bys L)) (hb : base ≤ w.heap.size) (n : Int) (hn : 0 ≤ n ∧ n ≤ 65535) (hk : k ≤ 10000000) :
    Calls Tryz.prog 44 #[.slice A k c, .int .i64 n] w fun e w' => ∃ A' c', e = .returned (.slice A' (k + 2) c') ∧ w.grownBy w' (Value.slice A k c).ownBlock ∧ w'.ownsRow base 5 1 (.slice A' (k + 2) c') (k + 2) (bys (L ++ two n.toNat)) := by
  obtain ⟨m, rfl⟩ : ∃ m : Nat, n = (m : Int) := ⟨n.toNat, by omega⟩
  have hp := bput_grown w base A k c L ho hb m 2 (by omega) (by omega) hk
  rw [bigTo_two] at hp
  have HP := Lib.hid hp
  clear hp ho
  go_enter Tryz.func44, Tryz.ntmps44
  go_wp2_with fail
  refine HP.out.mono ?_
  rintro e w1 ⟨A1, c1, rfl, hb1, ho1⟩
  go_wp2_with fail
  go_ret
  exact ⟨A1, c1, rfl, hb1, ho1⟩
end Go.Proofs.YtoloaecbfglaeaaGreat
