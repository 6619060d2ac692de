/- Walks of filigreeref31: a number's bytes, flags, the bytes of switches, the head, the tail, Put. -/
import Derived.Test.YtoloaecbfglaeaaGreatByt
import Derived.Test.YtoloaecbfglaeaaGreatRchkB
namespace Go.Proofs.YtoloaecbfglaeaaGreat
open Go.RowKit
set_option linter.unusedVariables false
set_option linter.unusedSimpArgs false

theorem own_down {w : World} {base base' : Nat} {e : TypeId} {size n : Nat} {v : Value} {xs : List Value} (h : w.ownsRow base e size v n xs) (hb : base' ≤ base) : w.ownsRow base' e size v n xs := by
  refine ⟨h.1, ?_⟩
  rcases h.2 with h2 | ⟨g, cap, cur, hv, hg, hh⟩
  · exact .inl h2
  · exact .inr ⟨g, cap, cur, hv, Nat.le_trans hb hg, hh⟩
def RowNew (L : List Nat) (w : World) (e : Ending) (w' : World) : Prop :=
  ∃ A c, e = .returned (.slice A L.length c) ∧ Below w.heap.size w w' ∧ w'.ownsRow w.heap.size 5 1 (.slice A L.length c) L.length (bys L)
theorem own_new (w : World) (base : Nat) (t : TypeId) (cs : List Value) (n : Nat) (hn : cs.length = n) (hm : n ≤ maxLen) (hb : base ≤ w.heap.size) : (w.alloc (.cells cs.toArray t)).ownsRow base t 1 (.slice (some ⟨w.heap.size, 0, none⟩) n n) n cs := by
  subst hn
  refine ⟨by simp, .inr ⟨w.heap.size, cs.length, cs.toArray, rfl, hb, ?_, Nat.le_refl _, hm, by simp, by simp⟩⟩
  have := Blk.made w t cs.toArray
  unfold Blk at this
  exact this
theorem and255_i64 (m : Nat) (h : m < 4294967296) : bits .and .i64 (m : Int) 255 % 256 = ((m % 256 : Nat) : Int) := by
  have e : bits .and .i64 (m : Int) 255 = IntKind.i64.wrap ((BitVec.ofInt 64 (m : Int) &&& BitVec.ofInt 64 255).toNat : Int) := rfl
  have h1 : (BitVec.ofInt 64 (m : Int)).toNat = m := by rw [BitVec.ofInt_natCast, BitVec.toNat_ofNat]; omega
  have h2 : (BitVec.ofInt 64 255).toNat = 2 ^ 8 - 1 := rfl
  rw [e, BitVec.toNat_and, h1, h2, Nat.and_two_pow_sub_one_eq_mod, IntWalk.i64_in _ (by omega)]
  omega
theorem and255_u32 (m : Nat) (h : m < 4294967296) : bits .and .u32 (m : Int) 255 % 256 = ((m % 256 : Nat) : Int) := by
  rw [show (255 : Int) = ((255 : Nat) : Int) from rfl, u32_and_nat m 255 h (by omega), show (255 : Nat) = 2 ^ 8 - 1 from rfl, Nat.and_two_pow_sub_one_eq_mod]
  omega

theorem byteB_snoc : ∀ (l : List Bool) (b : Bool), byteB (l ++ [b]) = byteB l + (if b then 2 ^ l.length else 0)
  | [], b => by simp [byteB]
  | a :: l, b => by
    have ih := byteB_snoc l b
    simp only [List.cons_append, byteB, ih, List.length_cons, Nat.pow_succ]
    split <;> split <;> omega
/-- the first k bits of the byte at q -/
def bitsTo (l : List Bool) (q k : Nat) : Nat := byteB ((l.drop (8 * q)).take k)
theorem bitsTo_next {l : List Bool} {q k : Nat} (h : 8 * q + k < l.length) : bitsTo l q (k + 1) = bitsTo l q k + (if l.getD (8 * q + k) false then 2 ^ k else 0) := by
  unfold bitsTo
  have h1 : k < (l.drop (8 * q)).length := by rw [List.length_drop]; omega
  rw [List.take_succ_eq_append_getElem h1, byteB_snoc, List.length_take, Nat.min_eq_left (by omega), List.getElem_drop, List.getD_eq_getElem?_getD, List.getElem?_eq_getElem h]
  rfl
theorem bitsTo_lt (l : List Bool) (q k : Nat) : bitsTo l q k < 2 ^ k := by
  unfold bitsTo
  have h1 := byteB_lt ((l.drop (8 * q)).take k)
  have h2 : ((l.drop (8 * q)).take k).length ≤ k := by rw [List.length_take]; omega
  exact Nat.lt_of_lt_of_le h1 (Nat.pow_le_pow_right (by omega) h2)
theorem bitsTo_full {l : List Bool} {q k : Nat} (h : k = 8 ∨ 8 * q + k = l.length ∧ k ≤ 8) : bitsTo l q k = byteB ((l.drop (8 * q)).take 8) := by
  unfold bitsTo
  rcases h with rfl | ⟨h1, h2⟩
  · rfl
  · rw [List.take_of_length_le (l := l.drop (8 * q)) (by rw [List.length_drop]; omega), List.take_of_length_le (l := l.drop (8 * q)) (by rw [List.length_drop]; omega)]
def packTo (l : List Bool) (q : Nat) : List Nat := (List.range q).map fun i => byteB ((l.drop (8 * i)).take 8)
theorem packTo_next (l : List Bool) (q : Nat) : packTo l (q + 1) = packTo l q ++ [byteB ((l.drop (8 * q)).take 8)] := by simp [packTo, List.range_succ]

theorem shl_add (s k : Nat) (h : 2 ^ k ≤ 2 ^ 8) (hs : s < 2 ^ k) : wrap64 ((s : Int) + wrap64 (2 ^ k)) = ((s + (if true = true then 2 ^ k else 0) : Nat) : Int) := by
  have e : ((2 : Int) ^ k) = ((2 ^ k : Nat) : Int) := by rw [Int.natCast_pow]; rfl
  rw [e]
  generalize 2 ^ k = p at h hs
  have h1 : wrap64 (p : Int) = (p : Int) := by unfold wrap64; omega
  rw [h1, if_pos rfl]
  unfold wrap64
  omega

/-- the seven first bytes -/
def seven (C : Cfg) : List Nat := [70, 71, 66, 49, C.W.toNat, C.H.toNat, C.T.toNat]
theorem seven_cells {C : Cfg} (h : okA C.W C.H C.T) : [Value.int .u8 70, .int .u8 71, .int .u8 66, .int .u8 49, .int .u8 C.W, .int .u8 C.H, .int .u8 C.T] = bys (seven C) := by
  unfold okA at h
  have e1 : (C.W.toNat : Int) = C.W := by omega
  have e2 : (C.H.toNat : Int) = C.H := by omega
  have e3 : (C.T.toNat : Int) = C.T := by omega
  simp only [bys, seven, List.map_cons, List.map_nil, e1, e2, e3]
  rfl
theorem own_seven {C : Cfg} (h : okA C.W C.H C.T) (w : World) (base : Nat) (hb : base ≤ w.heap.size) :
    (w.alloc (.cells #[.int .u8 70, .int .u8 71, .int .u8 66, .int .u8 49, .int .u8 C.W, .int .u8 C.H, .int .u8 C.T] 5)).ownsRow base 5 1 (.slice (some ⟨w.heap.size, 0, none⟩) 7 7) 7 (bys (seven C)) := by
  have := own_new w base 5 (bys (seven C)) 7 rfl (by decide) hb
  rw [← seven_cells h] at this ⊢
  exact this

/-- the bytes of the first k tiles, of the first k pads -/
def tilesTo (l : List TL) (k : Nat) : List Nat := (l.take k).flatMap tileB
theorem tilesTo_next {l : List TL} {k : Nat} (h : k < l.length) : tilesTo l (k + 1) = tilesTo l k ++ two (l[k]!).1.toNat ++ [flag (l[k]!)] := by
  unfold tilesTo
  rw [List.take_succ_eq_append_getElem h, List.flatMap_append, getElem!_pos l k h, List.append_assoc]
  simp [tileB]
theorem tilesTo_len {l : List TL} {k : Nat} (h : k ≤ l.length) : (tilesTo l k).length = 3 * k := by
  unfold tilesTo
  rw [flat_len tileB_len, List.length_take]; omega
def padsTo (l : List Int) (k : Nat) : List Nat := (l.take k).flatMap padB
theorem padsTo_next {l : List Int} {k : Nat} (h : k < l.length) : padsTo l (k + 1) = padsTo l k ++ two (l.getD k 0).toNat := by
  unfold padsTo
  rw [List.take_succ_eq_append_getElem h, List.flatMap_append, List.getD_eq_getElem?_getD, List.getElem?_eq_getElem h]
  simp [padB]
theorem padsTo_len {l : List Int} {k : Nat} (h : k ≤ l.length) : (padsTo l k).length = 2 * k := by
  unfold padsTo
  rw [flat_len padB_len, List.length_take]; omega

/-- a configuration's bytes, its body -/
def Cfg.body (C : Cfg) : List Nat := bodyB C.W C.H C.T C.tiles C.on C.ins C.outs
def Cfg.bytes (C : Cfg) : List Nat := putB C.W C.H C.T C.tiles C.on C.ins C.outs
def BytesOut (C : Cfg) (w : World) (e : Ending) (w' : World) : Prop :=
  ∃ A c, e = .returned (.tuple #[.slice A C.bytes.length c, .int .i64 0]) ∧ Below w.heap.size w w' ∧ w'.ownsRow w.heap.size 5 1 (.slice A C.bytes.length c) C.bytes.length (bys C.bytes)
/-- what may be is small -/
theorem ok_tile {C : Cfg} (h : C.ok) {k : Nat} (hk : k < C.tiles.length) : 0 ≤ (C.tiles[k]!).1 ∧ (C.tiles[k]!).1 ≤ 65535 := by
  have ho := h.2.2.2.2
  rw [List.any_eq_false] at ho
  have := ho C.tiles[k] (List.getElem_mem hk)
  rw [getElem!_pos C.tiles k hk]
  unfold oddB at this
  simp only [Bool.or_eq_true, decide_eq_true_eq, not_or] at this
  omega
theorem ok_pad {C : Cfg} (h : C.ok) {k : Nat} (hk : k < (C.ins ++ C.outs).length) : 0 ≤ (C.ins ++ C.outs).getD k 0 ∧ (C.ins ++ C.outs).getD k 0 ≤ 65535 := by
  have hh := h.1
  unfold okA at hh
  have h1 := h.2.1.1 (C.ins ++ C.outs)[k] (List.getElem_mem hk)
  rw [List.getD_eq_getElem?_getD, List.getElem?_eq_getElem hk]
  simp only [Option.getD_some]
  omega

end Go.Proofs.YtoloaecbfglaeaaGreat
