/- What the laws of chapter 31 share: bytes that came in, opened; configurations kept in boxes; contracts as pairs. -/
import Derived.Test.YtoloaecbfglaeaaLive31
import Derived.Test.YtoloaecbfglaeaaOpen
import Derived.Test.YtoloaecbfglaeaaLWhat
namespace Go.Proofs.Ytoloaecbfglaeaa
open Go.ChangeShapes Go.WideShapes Go.ChangeAt Go.RowKit Go.Joins Go.Deep
set_option linter.unusedVariables false
set_option linter.unusedSimpArgs false

section
variable {H : Type} {enc : TypeId × Value → H}
set_option maxRecDepth 100000 in
theorem open_bytesB {w : World} {base b0 : Nat} {held : Bool} {r : Reach} {v : Value} {d : DataW H} {p : List MemPlace}
    (hv : Value.okWide Try.prog w r b0 34 v) (h : DataW.Trod enc Try.prog w base (fun _ => true) held 34 v d p) :
    ∃ A c l, v = .slice A (l : List Nat).length c ∧ Rd w 1 A l.length c (bys l) ∧ (∀ x ∈ l, x < 256) ∧ c ≤ maxLen := by
  have he : Try.prog.cellsOf 5 = 1 := by kernel_rfl
  obtain ⟨a1, len, cap, rfl⟩ := okWide_slice Try.underlying34 hv
  obtain ⟨fuel, hf⟩ := h
  rcases open_ints Try.underlying34 Try.underlying5 he hf with ⟨hcs, -⟩ | ⟨a, len', cap', zs, hcs, hb, hl, hm, hz, -, hcell, hwf⟩
  · simp [Value.cells] at hcs
    obtain ⟨rfl, rfl, rfl⟩ := hcs
    exact ⟨none, 0, [], rfl, by simpa [bys] using Rd.empty, (fun n hn => by cases hn), Nat.zero_le _⟩
  · simp [Value.cells] at hcs
    obtain ⟨rfl, rfl, rfl⟩ := hcs
    simp only [if_true] at hz
    have hlen : ((zs.take len).map Int.toNat).length = len := by simp; omega
    refine ⟨some a, cap, (zs.take len).map Int.toNat, by rw [hlen], ⟨by rw [bys_length, hlen]; omega, by omega, (fun h => by cases h), ?_⟩, fun n hn => ?_, hm⟩
    · intro j u hj
      have hjl : j < len := by have := (List.getElem?_eq_some_iff.1 hj).1; rw [bys_length, hlen] at this; exact this
      have hc := hcell j (by omega)
      refine ⟨a, rfl, ?_, ?_⟩
      · have := block_lt_of_cell hc; rwa [add_block] at this
      · rw [hc, ← hj]
        have hr := range_u8 hwf j
        rw [List.getElem?_eq_getElem (show j < zs.length by omega)] at hr
        simp only [Option.getD_some] at hr
        simp [bys, List.getD_eq_getElem?_getD, List.getElem?_take, hjl, List.getElem?_eq_getElem (show j < zs.length by omega)]
        omega
    · obtain ⟨z, hz1, rfl⟩ := List.mem_map.1 hn
      have := bounds_u8 (hwf z (List.mem_of_mem_take hz1))
      omega
end
theorem byte_of {n : Int} (h : (Lit.int .u8 n).wf = true) : ∃ b : Nat, n = (b : Int) ∧ b < 256 := by
  have := bounds_u8 h
  exact ⟨n.toNat, by omega, by omega⟩
theorem and16_i64 (a : Int) : ∃ m : Nat, m < 65536 ∧ bits .and .i64 a 65535 = (m : Int) := by
  have e : bits .and .i64 a 65535 = IntKind.i64.wrap ((BitVec.ofInt 64 a &&& BitVec.ofInt 64 65535).toNat : Int) := rfl
  have h2 : (BitVec.ofInt 64 65535).toNat = 65535 := rfl
  have h3 : (BitVec.ofInt 64 a &&& BitVec.ofInt 64 65535).toNat ≤ 65535 := by
    rw [BitVec.toNat_and, h2]
    exact Nat.and_le_right
  exact ⟨(BitVec.ofInt 64 a &&& BitVec.ofInt 64 65535).toNat, by omega, by rw [e, IntWalk.i64_in _ (by omega)]⟩
/-- a configuration, and memory since -/
structure OneB (w0 wx : World) (g : Nat) (C : Cfg) : Prop where
  below : Below w0.heap.size w0 wx
  c : Box7 wx g C
theorem OneB.keep {w0 wx wy : World} {g : Nat} {C : Cfg} (h : OneB w0 wx g C) (hb : Below wx.heap.size wx wy) : OneB w0 wy g C := ⟨below_then h.below hb, h.c.below hb⟩
theorem OneB.new (w : World) (C : Cfg) : OneB w (w.alloc (.cells #[.int .i64 C.W, .int .i64 C.H, .int .i64 C.T, .slice C.AT C.tiles.length C.cT, .slice C.AO C.on.length C.cO, .slice C.AI C.ins.length C.cI, .slice C.AU C.outs.length C.cU] 28)) w.heap.size C := ⟨below_new _ _, Box7.new w C _⟩
theorem OneB.cells {w0 wx : World} {g : Nat} {C : Cfg} (h : OneB w0 wx g C) : wx.cell? ⟨g, 0, none⟩ = some (.int .i64 C.W) ∧ wx.cell? ⟨g, 1, none⟩ = some (.int .i64 C.H) ∧ wx.cell? ⟨g, 2, none⟩ = some (.int .i64 C.T) ∧ wx.cell? ⟨g, 3, none⟩ = some (.slice C.AT C.tiles.length C.cT) ∧ wx.cell? ⟨g, 4, none⟩ = some (.slice C.AO C.on.length C.cO) ∧ wx.cell? ⟨g, 5, none⟩ = some (.slice C.AI C.ins.length C.cI) ∧ wx.cell? ⟨g, 6, none⟩ = some (.slice C.AU C.outs.length C.cU) :=
  ⟨h.c.c0, h.c.c1, h.c.c2, h.c.c3, h.c.c4, h.c.c5, h.c.c6⟩
/-- what Put tells -/
def pB (C : Cfg) : List Nat := if C.ok then C.bytes else []
def pE (C : Cfg) : Int := if C.ok then 0 else 1
def BytesPair (L : List Nat) (x : Int) (w : World) (e : Ending) (w' : World) : Prop :=
  ∃ A c, e = .returned (.tuple #[.slice A L.length c, .int .i64 x]) ∧ Below w.heap.size w w' ∧ Rd w' 1 A L.length c (bys L) ∧ c ≤ maxLen
theorem bput_pair (C : Cfg) (w : World) (hin : C.In w) (hf : C.few) : BPUT C w (BytesPair (pB C) (pE C) w) := by
  unfold pB pE
  by_cases h : C.ok
  · rw [if_pos h, if_pos h]
    refine Calls.mono (bput_yes C w hin hf h) fun e w' hd => ?_
    obtain ⟨A, c, rfl, hb, ho⟩ := hd
    exact ⟨A, c, rfl, hb, Rd.of_own ho, own_cap ho⟩
  · rw [if_neg h, if_neg h]
    refine Calls.mono (bput_no C w hin hf h) fun e w' hd => ?_
    obtain ⟨rfl, hb⟩ := hd
    exact ⟨none, 0, rfl, hb, by simpa [bys] using Rd.empty, Nat.zero_le _⟩
theorem rput_pair (C : Cfg) (w : World) (hin : C.In w) (hf : C.few) : RPUT C w (BytesPair (pB C) (pE C) w) := by
  unfold pB pE
  by_cases h : C.ok
  · rw [if_pos h, if_pos h]
    refine Calls.mono (rput_yes C w hin hf h) fun e w' hd => ?_
    obtain ⟨A, c, rfl, hb, ho⟩ := hd
    exact ⟨A, c, rfl, hb, Rd.of_own ho, own_cap ho⟩
  · rw [if_neg h, if_neg h]
    refine Calls.mono (rput_no C w hin hf h) fun e w' hd => ?_
    obtain ⟨rfl, hb⟩ := hd
    exact ⟨none, 0, rfl, hb, by simpa [bys] using Rd.empty, Nat.zero_le _⟩
theorem bytes_small {C : Cfg} (h : few31 C) : C.bytes.length ≤ 4000 := by
  show (putB C.W C.H C.T C.tiles C.on C.ins C.outs).length ≤ 4000
  rw [putB_len]
  unfold few31 at h
  omega
theorem pB_small {C : Cfg} (h : few31 C) : (pB C).length ≤ 4000 := by
  unfold pB
  by_cases hk : C.ok
  · rw [if_pos hk]; exact bytes_small h
  · rw [if_neg hk]; exact Nat.zero_le _
theorem pB_lt (C : Cfg) : ∀ x ∈ pB C, x < 256 := by
  unfold pB
  by_cases hk : C.ok
  · rw [if_pos hk]; exact bytes_lt hk
  · rw [if_neg hk]; intro x hx; cases hx
theorem rget_pair (A : Option Addr) (n c : Nat) (l : List Nat) (w : World) (hr : Rd w 1 A n c (bys l)) (hl : ∀ x ∈ l, x < 256) (hn : n ≤ 5000) (hc : c ≤ maxLen) :
    Calls Try.prog 20 #[.slice A n c] w (CfgPair l (getE l) w) := Calls.mono (rget_any A n c l w hr hl hn hc) fun e w' h => get_pair h
end Go.Proofs.Ytoloaecbfglaeaa
