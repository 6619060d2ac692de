/- A table of four inputs without those that are nothing: the bits that the chip picks are those that are left when the inputs go one by one. · Walk of filigree/chip.block: the block of a tile whose inputs are driven so. · Walk of filigree/chip.block: the block of a tile whose inputs are driven so. -/
import Derived.Test.YtoloaecbfglaeaaGreatBase
import Derived.Test.YtoloaecbfglaeaaGreatPchk
import Derived.Laws.Rows
import Derived.Laws.BitsAll

namespace Go.Proofs.YtoloaecbfglaeaaGreat.Topo
set_option linter.unusedVariables false
set_option linter.unusedSimpArgs false
/-- so many bits of a table, one after the other -/
def pk (l : List Nat) (t : Nat) : Nat → Nat
  | 0 => 0
  | j + 1 => pk l t j + t / 2 ^ l.getD j 0 % 2 * 2 ^ j
theorem pk_lt (l : List Nat) (t : Nat) : ∀ j, pk l t j < 2 ^ j
  | 0 => by simp [pk]
  | j + 1 => by
    have := pk_lt l t j
    have h2 : t / 2 ^ l.getD j 0 % 2 * 2 ^ j ≤ 1 * 2 ^ j := Nat.mul_le_mul_right _ (by omega)
    simp only [pk, Nat.pow_succ]; omega
theorem pk_bit (l : List Nat) (t : Nat) : ∀ j i, i < j → pk l t j / 2 ^ i % 2 = t / 2 ^ l.getD i 0 % 2
  | 0, i, h => by omega
  | j + 1, i, h => by
    simp only [pk]
    have hlt := pk_lt l t j
    by_cases e : i = j
    · subst e
      rw [Nat.add_mul_div_right _ _ (Nat.two_pow_pos i), Nat.div_eq_of_lt hlt, Nat.zero_add, Nat.mod_mod]
    · have hij : i < j := by omega
      have ih := pk_bit l t j i hij
      have h2 : (2 : Nat) ^ j = 2 ^ (j - i - 1) * 2 * 2 ^ i := by rw [← Nat.pow_succ, ← Nat.pow_add]; congr 1; omega
      rw [h2, ← Nat.mul_assoc, Nat.add_mul_div_right _ _ (Nat.two_pow_pos i), ← Nat.mul_assoc, Nat.add_mul_mod_self_right]
      exact ih
theorem pk_pk (l m : List Nat) (t n : Nat) : ∀ j, (∀ i, i < j → m.getD i 0 < n) → j ≤ m.length → pk m (pk l t n) j = pk (m.map fun i => l.getD i 0) t j
  | 0, _, _ => rfl
  | j + 1, h, hj => by
    simp only [pk]
    rw [pk_pk l m t n j (fun i hi => h i (by omega)) (by omega), pk_bit l t n _ (h j (by omega))]
    congr 3
    simp [List.getD_eq_getElem?_getD, List.getElem?_eq_getElem (show j < m.length by omega)]
/-- the rows in which one input is 0 -/
def sel (n k : Nat) : List Nat := (List.range (2 ^ n)).filter fun i => i / 2 ^ k % 2 == 0
/-- a table without the inputs that are 0 -/
def wo : Nat → List Int → Nat → List Int × Nat
  | 0, l, t => (l, t)
  | f + 1, l, t => match l.findIdx? (fun x => decide (x = 0)) with
    | none => (l, t)
    | some k => wo f (l.eraseIdx k) (pk (sel l.length k) t (sel l.length k).length)
/-- which inputs are something -/
def keptL (d : List Int) : List Nat := (List.range 4).filter fun k => decide (0 ≤ d.getD k 0)
/-- where the bits of a row of those are, of all -/
def spr (kept : List Nat) (i : Nat) : Nat → Nat
  | 0 => 0
  | j + 1 => spr kept i j + i / 2 ^ j % 2 * 2 ^ kept.getD j 0
def spread (kept : List Nat) : List Nat := (List.range (2 ^ kept.length)).map fun i => spr kept i kept.length
def blockT (d : List Int) (t : Nat) : Nat := pk (spread (keptL d)) t (2 ^ (keptL d).length)
theorem sel41 : sel 4 0 = [0,2,4,6,8,10,12,14] ∧ sel 4 1 = [0,1,4,5,8,9,12,13] ∧ sel 4 2 = [0,1,2,3,8,9,10,11] ∧ sel 4 3 = [0,1,2,3,4,5,6,7] := by decide
theorem sel31 : sel 3 0 = [0,2,4,6] ∧ sel 3 1 = [0,1,4,5] ∧ sel 3 2 = [0,1,2,3] := by decide
theorem sel21 : sel 2 0 = [0,2] ∧ sel 2 1 = [0,1] := by decide
theorem sel11 : sel 1 0 = [0] := by decide
theorem pk_all {t : Nat} (h : t < 65536) : pk (spread [0,1,2,3]) t 16 = t := by
  have e : spread [0,1,2,3] = [0,1,2,3,4,5,6,7,8,9,10,11,12,13,14,15] := by decide
  rw [e]
  simp only [pk, List.getD_cons_zero, List.getD_cons_succ]
  omega
theorem wo_block (a b c d : Int) (t : Nat) (ha : -1 ≤ a) (hb : -1 ≤ b) (hc : -1 ≤ c) (hd : -1 ≤ d) (ht : t < 65536) :
    wo 4 [a + 1, b + 1, c + 1, d + 1] t = (([a, b, c, d].filter fun x => decide (0 ≤ x)).map (· + 1), blockT [a, b, c, d] t) := by
  have e : ∀ x : Int, -1 ≤ x → (decide (x + 1 = 0) = false ∧ decide (0 ≤ x) = true) ∨ (decide (x + 1 = 0) = true ∧ decide (0 ≤ x) = false) := fun x hx => by
    by_cases h : x = -1
    · subst h; exact .inr ⟨rfl, rfl⟩
    · exact .inl ⟨by simp; omega, by simp; omega⟩
  rcases e a ha with ⟨a2, a3⟩ | ⟨a2, a3⟩ <;> rcases e b hb with ⟨b2, b3⟩ | ⟨b2, b3⟩ <;> rcases e c hc with ⟨c2, c3⟩ | ⟨c2, c3⟩ <;> rcases e d hd with ⟨d2, d3⟩ | ⟨d2, d3⟩
  all_goals simp only [wo, List.findIdx?_cons, List.findIdx?_nil, a2, b2, c2, d2, a3, b3, c3, d3, Bool.false_eq_true, if_false, if_true, Option.map_none, Option.map_some, List.eraseIdx_cons_zero, List.eraseIdx_cons_succ, List.filter_cons, List.filter_nil, List.map_cons, List.map_nil, List.length_cons, List.length_nil, Nat.zero_add, Nat.reduceAdd, sel41.1, sel41.2.1, sel41.2.2.1, sel41.2.2.2, sel31.1, sel31.2.1, sel31.2.2, sel21.1, sel21.2, sel11]
  all_goals refine Prod.ext rfl ?_
  all_goals simp only [blockT, keptL, show List.range 4 = [0,1,2,3] from rfl, List.filter_cons, List.filter_nil, List.getD_cons_zero, List.getD_cons_succ, a3, b3, c3, d3, show decide ((0 : Int) ≤ -1) = false from by decide, Bool.false_eq_true, if_false, if_true, List.length_cons, List.length_nil, Nat.zero_add, Nat.reduceAdd, Nat.reducePow]
  all_goals first
    | exact (pk_all ht).symm
    | (iterate 3 (try rw [pk_pk _ _ _ _ _ (by decide) (by decide)]))
  all_goals first | (congr 1; done) | (congr 1; decide)
end Go.Proofs.YtoloaecbfglaeaaGreat.Topo

namespace Go.Proofs.YtoloaecbfglaeaaGreat
open Go.RowKit Topo
set_option linter.unusedVariables false
set_option linter.unusedSimpArgs false

theorem i64_and_nat (a b : Nat) (ha : a < 9223372036854775808) (hb : b < 9223372036854775808) : bits .and .i64 (a : Int) (b : Int) = ((a &&& b : Nat) : Int) := by
  have e : bits .and .i64 (a : Int) (b : Int) = IntKind.i64.wrap ((BitVec.ofInt 64 (a : Int) &&& BitVec.ofInt 64 (b : Int)).toNat : Int) := rfl
  have e1 : (BitVec.ofInt 64 (a : Int)).toNat = a := by simp; omega
  have e2 : (BitVec.ofInt 64 (b : Int)).toNat = b := by simp; omega
  have h : a &&& b ≤ a := Nat.and_le_left
  rw [e, BitVec.toNat_and, e1, e2, IntWalk.i64_in _ (by omega)]
theorem i64_or_nat (a b : Nat) (ha : a < 4611686018427387904) (hb : b < 4611686018427387904) : bits .or .i64 (a : Int) (b : Int) = ((a ||| b : Nat) : Int) := by
  have e : bits .or .i64 (a : Int) (b : Int) = IntKind.i64.wrap ((BitVec.ofInt 64 (a : Int) ||| BitVec.ofInt 64 (b : Int)).toNat : Int) := rfl
  have e1 : (BitVec.ofInt 64 (a : Int)).toNat = a := by simp; omega
  have e2 : (BitVec.ofInt 64 (b : Int)).toNat = b := by simp; omega
  have h : a ||| b < 2 ^ 62 := Nat.or_lt_two_pow (by omega) (by omega)
  rw [e, BitVec.toNat_or, e1, e2, IntWalk.i64_in _ (by omega)]
/-- is a bit set, as Go asks it -/
theorem bit_on (i j : Nat) (hi : i < 4611686018427387904) (hj : j < 62) : bits .and .i64 (i : Int) ((2 ^ j : Nat) : Int) = ((i / 2 ^ j % 2 * 2 ^ j : Nat) : Int) := by
  have h2 : 2 ^ j ≤ 2 ^ 61 := Nat.pow_le_pow_right (by omega) (by omega)
  rw [i64_and_nat i (2 ^ j) (by omega) (by omega)]
  congr 1
  have hb : i.testBit j = decide (i / 2 ^ j % 2 = 1) := by rw [Nat.testBit_eq_decide_div_mod_eq]
  apply Nat.eq_of_testBit_eq
  intro m
  rw [Nat.testBit_and, Nat.testBit_two_pow]
  by_cases h : i / 2 ^ j % 2 = 1
  · rw [h, Nat.one_mul, Nat.testBit_two_pow]
    by_cases e : j = m
    · subst e; rw [hb, h]; simp
    · simp [e]
  · have h0 : i / 2 ^ j % 2 = 0 := by omega
    rw [h0, Nat.zero_mul, Nat.zero_testBit]
    by_cases e : j = m
    · subst e; rw [hb]; simp [h]
    · simp [e]
theorem bit_set (n k : Nat) (hn : n < 2 ^ k) (hk : k < 61) : bits .or .i64 (n : Int) ((2 ^ k : Nat) : Int) = ((n + 2 ^ k : Nat) : Int) := by
  have h2 : 2 ^ k ≤ 2 ^ 60 := Nat.pow_le_pow_right (by omega) (by omega)
  rw [i64_or_nat n (2 ^ k) (by omega) (by omega)]
  rw [Nat.or_two_pow_eq_add_of_lt hn]
theorem pow_nat {k p : Nat} (h : 2 ^ k = p) : ((2 : Int) ^ k) = (p : Int) := by rw [← h, Int.natCast_pow]; rfl
theorem shl_nat (k : Nat) (hk : k < 62) : wrap64 ((2 : Int) ^ k) = ((2 ^ k : Nat) : Int) := by
  have h2 : 2 ^ k ≤ 2 ^ 61 := Nat.pow_le_pow_right (by omega) (by omega)
  have e : ((2 : Int) ^ k) = ((2 ^ k : Nat) : Int) := by rw [Int.natCast_pow]; rfl
  rw [e]
  generalize 2 ^ k = p at h2
  unfold wrap64; omega

theorem Row.grown {w w' : World} {base nm nm' c c' : Nat} {f : Nat → Nat} {A A' : Option Addr} {l l' : List Nat} (h : Row w base f nm A c l) (o : Row w base f nm' A' c' l') (hne : nm' ≠ nm) (hg : w.grownBy w' (Value.slice A l.length c).ownBlock) : Row w' base (named f w.heap.size nm) nm' A' c' l' := by
  rw [own_blk] at hg
  exact o.chg (Chg.of_grown hg) (fun g _ hn e => by have := h.name g e.symm; omega) (fun g hg => named_old f hg)
theorem Row.next {w w' : World} {base nm c : Nat} {f : Nat → Nat} {A : Option Addr} {l : List Nat} (h : Row w base f nm A c l) {qB : Option Addr} {qd : Nat} {x : Nat} (hr : w'.ownsRow base 3 1 (.slice qB (l.length + 1) qd) (l.length + 1) (ints (natI l) ++ [.int .i64 (x : Int)]))
    (hs : (Value.slice qB (l.length + 1) qd).ownBlock = (Value.slice A l.length c).ownBlock ∨ (Value.slice qB (l.length + 1) qd).ownBlock = some w.heap.size) : Row w' base (named f w.heap.size nm) nm qB qd (l ++ [x]) := by
  rw [own_blk, own_blk] at hs
  have e2 : ints (natI (l ++ [x])) = ints (natI l) ++ [.int .i64 (x : Int)] := by simp [ints, natI]
  exact ⟨by rw [e2]; simpa using hr, named_new h.name (fun g hg => (h.lt hg).2) (hs.imp id fun h g hg => by rw [h] at hg; injection hg with hg; omega)⟩
theorem Row.blk {w w' : World} {base nm c g : Nat} {f : Nat → Nat} {A : Option Addr} {l : List Nat} {t : TypeId} {cs : Array Value} (h : Row w base f nm A c l) (hb : Blk w g t cs) (ht : 3 ≠ t) (hg : w.grownBy w' (Value.slice A l.length c).ownBlock) : Blk w' g t cs :=
  hb.grown hg (fun e => own_other h.own hb ht e.symm)
/-- the first k of four inputs that are something -/
def kpL (D : List Int) (k : Nat) : List Nat := (List.range k).filter fun i => decide (0 ≤ D.getD i 0)
def ipL (D : List Int) (k : Nat) : List Nat := (kpL D k).map fun i => (D.getD i 0).toNat
theorem kpL_next (D : List Int) (k : Nat) : kpL D (k + 1) = if 0 ≤ D.getD k 0 then kpL D k ++ [k] else kpL D k := by
  unfold kpL
  rw [List.range_succ, List.filter_append]
  by_cases h : 0 ≤ D.getD k 0
  · rw [if_pos h]; simp only [List.filter_cons, List.filter_nil, decide_eq_true h, if_true]
  · rw [if_neg h]; simp only [List.filter_cons, List.filter_nil, decide_eq_false h, Bool.false_eq_true, if_false, List.append_nil]
theorem ipL_next (D : List Int) (k : Nat) : ipL D (k + 1) = if 0 ≤ D.getD k 0 then ipL D k ++ [(D.getD k 0).toNat] else ipL D k := by
  unfold ipL
  rw [kpL_next]
  split <;> simp
theorem kpL_len (D : List Int) (k : Nat) : (kpL D k).length ≤ k := by
  unfold kpL
  exact Nat.le_trans (List.length_filter_le _ _) (by simp)
theorem ipL_len (D : List Int) (k : Nat) : (ipL D k).length = (kpL D k).length := by simp [ipL]
/-- what block holds within its first loop -/
structure KW (w0 wx : World) (t : Int) (ff it : Bool) (f : Nat → Nat) (AK : Option Addr) (cK : Nat) (kp : List Nat) (AI : Option Addr) (cI : Nat) (ip : List Nat) (T : Int) : Prop where
  below : Below w0.heap.size w0 wx
  tile : Blk wx w0.heap.size 61 #[.int .i64 t, .bool ff, .bool it]
  res : Blk wx (w0.heap.size + 1 + 1) 67 #[.slice none 0 0, .int .i64 0, .bool false, .bool false]
  b : Blk wx (w0.heap.size + 1 + 1 + 1) 67 #[.slice AI ip.length cI, .int .i64 T, .bool ff, .bool it]
  kept : Row wx (w0.heap.size + 1 + 1 + 1 + 1) f 0 AK cK kp
  ins : Row wx (w0.heap.size + 1 + 1 + 1 + 1) f 1 AI cI ip
section
variable {w0 wx wy : World} {t T : Int} {ff it : Bool} {f : Nat → Nat} {AK AI : Option Addr} {cK cI : Nat} {kp ip : List Nat}
theorem KW.keep (h : KW w0 wx t ff it f AK cK kp AI cI ip T) (hb : Below wx.heap.size wx wy) : KW w0 wy t ff it f AK cK kp AI cI ip T :=
  ⟨below_then h.below hb, h.tile.keep hb, h.res.keep hb, h.b.keep hb, h.kept.keep hb, h.ins.keep hb⟩
theorem KW.start (w : World) (t : Int) (ff it : Bool) (cs : Array Value) (ty : TypeId) : KW w ((((w.alloc (.cells #[.int .i64 t, .bool ff, .bool it] 61)).alloc (.cells cs ty)).alloc (.cells #[.slice none 0 0, .int .i64 0, .bool false, .bool false] 67)).alloc (.cells #[.slice none 0 0, .int .i64 0, .bool ff, .bool it] 67)) t ff it (fun _ => 0) none 0 [] none 0 [] 0 := by
  have z1 : (w.alloc (.cells #[.int .i64 t, .bool ff, .bool it] 61)).heap.size = w.heap.size + 1 := by simp
  have z2 : ((w.alloc (.cells #[.int .i64 t, .bool ff, .bool it] 61)).alloc (.cells cs ty)).heap.size = w.heap.size + 1 + 1 := by simp
  have z3 : (((w.alloc (.cells #[.int .i64 t, .bool ff, .bool it] 61)).alloc (.cells cs ty)).alloc (.cells #[.slice none 0 0, .int .i64 0, .bool false, .bool false] 67)).heap.size = w.heap.size + 1 + 1 + 1 := by simp
  refine ⟨below_then (below_then (below_then (below_new _ _) (below_new _ _)) (below_new _ _)) (below_new _ _), (((Blk.made w _ _).alloc _).alloc _).alloc _, ?_, ?_, ⟨World.ownsRow_nil _ _ _ _, fun g h => by cases h⟩, ⟨World.ownsRow_nil _ _ _ _, fun g h => by cases h⟩⟩
  · rw [← z2]; exact (Blk.made _ _ _).alloc _
  · rw [← z3]; exact Blk.made _ _ _
theorem KW.nextK (h : KW w0 wx t ff it f AK cK kp AI cI ip T) {qB : Option Addr} {qd x : Nat} (hr : wy.ownsRow (w0.heap.size + 1 + 1 + 1 + 1) 3 1 (.slice qB (kp.length + 1) qd) (kp.length + 1) (ints (natI kp) ++ [.int .i64 (x : Int)])) (hg : wx.grownBy wy (Value.slice AK kp.length cK).ownBlock)
    (hs : (Value.slice qB (kp.length + 1) qd).ownBlock = (Value.slice AK kp.length cK).ownBlock ∨ (Value.slice qB (kp.length + 1) qd).ownBlock = some wx.heap.size) : KW w0 wy t ff it (named f wx.heap.size 0) qB qd (kp ++ [x]) AI cI ip T :=
  ⟨h.below.grown hg (by have := h.b.lt; omega) (fun k hk => by have := (h.kept.own.lt k hk).1; omega), h.kept.blk h.tile (by decide) hg, h.kept.blk h.res (by decide) hg, h.kept.blk h.b (by decide) hg, h.kept.next hr hs, h.kept.grown h.ins (by decide) hg⟩
theorem Row.apart {w : World} {base nm c g : Nat} {f : Nat → Nat} {A : Option Addr} {l : List Nat} {t : TypeId} {cs : Array Value} (h : Row w base f nm A c l) (hb : Blk w g t cs) (ht : 3 ≠ t) (i : Nat) (v : Value) : Row (w.setCell ⟨g, i, none⟩ v) base f nm A c l :=
  ⟨ownsRow_setCell_other h.own (a := ⟨g, i, none⟩) (own_other h.own hb ht) v, h.name⟩
theorem KW.nextI (h : KW w0 wx t ff it f AK cK kp AI cI ip T) {qB : Option Addr} {qd x : Nat} (hr : wy.ownsRow (w0.heap.size + 1 + 1 + 1 + 1) 3 1 (.slice qB (ip.length + 1) qd) (ip.length + 1) (ints (natI ip) ++ [.int .i64 (x : Int)])) (hg : wx.grownBy wy (Value.slice AI ip.length cI).ownBlock)
    (hs : (Value.slice qB (ip.length + 1) qd).ownBlock = (Value.slice AI ip.length cI).ownBlock ∨ (Value.slice qB (ip.length + 1) qd).ownBlock = some wx.heap.size) : KW w0 (wy.setCell ⟨w0.heap.size + 1 + 1 + 1, 0, none⟩ (.slice qB (ip.length + 1) qd)) t ff it (named f wx.heap.size 1) AK cK kp qB qd (ip ++ [x]) T := by
  have hb := h.ins.blk h.b (by decide) hg
  have ht := h.ins.blk h.tile (by decide) hg
  have hre := h.ins.blk h.res (by decide) hg
  have hbl := h.below.grown hg (by have := h.b.lt; omega) (fun k hk => by have := (h.ins.own.lt k hk).1; omega)
  refine ⟨hbl.setCell (p := ⟨w0.heap.size + 1 + 1 + 1, 0, none⟩) (show w0.heap.size ≤ w0.heap.size + 1 + 1 + 1 by omega) _, ht.apart (show w0.heap.size ≠ w0.heap.size + 1 + 1 + 1 by omega) _, hre.apart (show w0.heap.size + 1 + 1 ≠ w0.heap.size + 1 + 1 + 1 by omega) _, ?_, (h.ins.grown h.kept (by decide) hg).apart hb (by decide) _ _, (h.ins.next hr hs).apart hb (by decide) _ _⟩
  have := hb.put 0 (.slice qB (ip.length + 1) qd)
  simpa using this
theorem KW.setT (h : KW w0 wx t ff it f AK cK kp AI cI ip T) (T' : Int) : KW w0 (wx.setCell ⟨w0.heap.size + 1 + 1 + 1, 1, none⟩ (.int .i64 T')) t ff it f AK cK kp AI cI ip T' := by
  refine ⟨h.below.setCell (p := ⟨w0.heap.size + 1 + 1 + 1, 1, none⟩) (show w0.heap.size ≤ w0.heap.size + 1 + 1 + 1 by omega) _, h.tile.apart (show w0.heap.size ≠ w0.heap.size + 1 + 1 + 1 by omega) _, h.res.apart (show w0.heap.size + 1 + 1 ≠ w0.heap.size + 1 + 1 + 1 by omega) _, ?_, h.kept.apart h.b (by decide) _ _, h.ins.apart h.b (by decide) _ _⟩
  have := h.b.put 1 (.int .i64 T')
  simpa using this
theorem KW.drew (h : KW w0 wx t ff it f AK cK kp AI cI ip T) (n : Nat) : KW w0 (wx.drewN n) t ff it f AK cK kp AI cI ip T := h.keep (below_drewN (Below.refl _ _) n)
theorem KW.lt (h : KW w0 wx t ff it f AK cK kp AI cI ip T) : w0.heap.size + 1 + 1 + 1 < wx.heap.size := h.b.lt
end

theorem spr_lt {K : List Nat} (hs : K.Pairwise (· < ·)) (i : Nat) : ∀ j, j ≤ K.length → ∀ b, (∀ q, q < j → K.getD q 0 < b) → spr K i j < 2 ^ b
  | 0, _, b, _ => by simp only [spr]; exact Nat.two_pow_pos b
  | j + 1, hj, b, hb => by
    have hjl : j < K.length := hj
    have e : K.getD j 0 = K[j] := by rw [List.getD_eq_getElem?_getD, List.getElem?_eq_getElem hjl]; rfl
    have ih := spr_lt hs i j (by omega) (K.getD j 0) (fun q hq => by
      have hql : q < K.length := by omega
      rw [e, List.getD_eq_getElem?_getD, List.getElem?_eq_getElem hql]
      exact List.pairwise_iff_getElem.1 hs q j hql hjl hq)
    have hjb := hb j (by omega)
    have h1 : i / 2 ^ j % 2 * 2 ^ K.getD j 0 ≤ 1 * 2 ^ K.getD j 0 := Nat.mul_le_mul_right _ (by omega)
    have h2 : 2 ^ (K.getD j 0 + 1) ≤ 2 ^ b := Nat.pow_le_pow_right (by omega) hjb
    rw [Nat.pow_succ] at h2
    simp only [spr]
    omega
theorem kp_sorted (D : List Int) (k : Nat) : (kpL D k).Pairwise (· < ·) := List.Pairwise.filter _ List.pairwise_lt_range
theorem kp_mem {D : List Int} {k x : Nat} (h : x ∈ kpL D k) : x < k := List.mem_range.1 (List.mem_filter.1 h).1
theorem kp_get {D : List Int} {k j : Nat} (h : j < (kpL D k).length) : (kpL D k).getD j 0 < k := by
  rw [List.getD_eq_getElem?_getD, List.getElem?_eq_getElem h]
  exact kp_mem (List.getElem_mem h)
theorem kp_spr (D : List Int) (i : Nat) : spr (kpL D 4) i (kpL D 4).length < 16 := spr_lt (kp_sorted D 4) i _ (Nat.le_refl _) 4 fun q hq => kp_get hq
theorem kp_spr_at (D : List Int) (i : Nat) {j : Nat} (hj : j < (kpL D 4).length) : spr (kpL D 4) i j < 2 ^ ((kpL D 4).getD j 0) := spr_lt (kp_sorted D 4) i j (Nat.le_of_lt hj) _ fun q hq => by
  have hql : q < (kpL D 4).length := by omega
  rw [List.getD_eq_getElem?_getD, List.getElem?_eq_getElem hql, List.getD_eq_getElem?_getD, List.getElem?_eq_getElem hj]
  exact List.pairwise_iff_getElem.1 (kp_sorted D 4) q j hql hj hq
theorem spread_get (K : List Nat) {i : Nat} (h : i < 2 ^ K.length) : (spread K).getD i 0 = spr K i K.length := by
  unfold spread
  rw [List.getD_eq_getElem?_getD, List.getElem?_map, List.getElem?_range h]
  rfl
theorem pk_step (K : List Nat) (t : Nat) {i : Nat} (h : i < 2 ^ K.length) : pk (spread K) t (i + 1) = pk (spread K) t i + t / 2 ^ spr K i K.length % 2 * 2 ^ i := by
  show pk (spread K) t i + t / 2 ^ (spread K).getD i 0 % 2 * 2 ^ i = _
  rw [spread_get K h]
theorem set4 {w : World} {g : Nat} {t : TypeId} {a b c d : Value} (h : Blk w g t #[a, b, c, d]) (x y z u : Value) : Blk ((((w.setCell ⟨g, 0, none⟩ x).setCell ⟨g, 1, none⟩ y).setCell ⟨g, 2, none⟩ z).setCell ⟨g, 3, none⟩ u) g t #[x, y, z, u] := by
  have := (((h.put 0 x).put 1 y).put 2 z).put 3 u
  simpa using this
theorem own_base_le {w : World} {base base' : Nat} {e : TypeId} {size n : Nat} {v : Value} {xs : List Value} (h : w.ownsRow base e size v n xs) (hb : base' ≤ base) : w.ownsRow base' e size v n xs := ⟨h.1, by
  rcases h.2 with h' | ⟨g, cap, cur, a1, a2, a3⟩
  · exact .inl h'
  · exact .inr ⟨g, cap, cur, a1, by omega, a3⟩⟩
end Go.Proofs.YtoloaecbfglaeaaGreat

namespace Go.Proofs.YtoloaecbfglaeaaGreat
open Go.RowKit Topo
set_option linter.unusedVariables false
set_option linter.unusedSimpArgs false

def BlockOut (t : Nat) (ff it : Bool) (D : List Int) (w : World) (e : Ending) (w' : World) : Prop :=
  ∃ A c, e = .returned (.agg #[.slice A (ipL D 4).length c, .int .i64 (blockT D t : Int), .bool ff, .bool it]) ∧ Below w.heap.size w w' ∧ w'.ownsRow w.heap.size 3 1 (.slice A (ipL D 4).length c) (ipL D 4).length (ints (natI (ipL D 4)))
set_option maxRecDepth 100000 in
set_option maxHeartbeats 8000000 in
theorem block_any (t : Nat) (ff it : Bool) (d0 d1 d2 d3 : Int) (w : World) (ht : t < 65536) (h0 : -1 ≤ d0 ∧ d0 ≤ 1000000) (h1 : -1 ≤ d1 ∧ d1 ≤ 1000000) (h2 : -1 ≤ d2 ∧ d2 ≤ 1000000) (h3 : -1 ≤ d3 ∧ d3 ≤ 1000000) :
    Calls Tryz.prog 28 #[.agg #[.int .i64 (t : Int), .bool ff, .bool it], .agg #[.int .i64 d0, .int .i64 d1, .int .i64 d2, .int .i64 d3]] w (BlockOut t ff it [d0, d1, d2, d3] w) := by
  have hD : ∀ k, k < 4 → -1 ≤ [d0, d1, d2, d3].getD k 0 ∧ [d0, d1, d2, d3].getD k 0 ≤ 1000000 := fun k hk => by
    rcases lt4 hk with rfl | rfl | rfl | rfl <;> assumption
  have hix : ∀ (k : Nat) (w : World), k < 4 → (Instr.index 64 (.agg #[.int .i64 d0, .int .i64 d1, .int .i64 d2, .int .i64 d3]) (.int .i64 (k : Int))).run Tryz.prog w = .ok (.int .i64 ([d0, d1, d2, d3].getD k 0)) w := fun k w hk => by
    rcases lt4 hk with rfl | rfl | rfl | rfl <;> kernel_rfl
  obtain ⟨i0, hi0, hz0, hz1, hz2⟩ := info_parts int_info
  obtain ⟨D, hDD⟩ : ∃ D, [d0, d1, d2, d3] = D := ⟨_, rfl⟩
  rw [hDD] at hD hix ⊢
  have HD := Lib.hid hD
  have HIX := Lib.hid hix
  have HI0 := Lib.hid hi0
  have HZ0 := Lib.hid hz0
  have HZ1 := Lib.hid hz1
  have HZ2 := Lib.hid hz2
  have HT := Lib.hid ht
  clear hDD hD hix hi0 hz0 hz1 hz2 h0 h1 h2 h3
  go_enter Tryz.func28, Tryz.ntmps28
  go_wp2_with fail
  go_loopw [6, 19] (fun v6 v19 wx => ∃ (k : Nat) (f : Nat → Nat) (AK : Option Addr) (cK : Nat) (AI : Option Addr) (cI : Nat), k ≤ 4 ∧ v19 = .int .i64 (k : Int) ∧ v6 = .slice AK (kpL D k).length cK ∧ KW w wx t ff it f AK cK (kpL D k) AI cI (ipL D k) 0) (fun _ v19 _ => 4 - (intOf v19).toNat)
  case atStart => exact ⟨0, _, none, 0, none, 0, by omega, rfl, rfl, KW.start w t ff it _ _⟩
  case round =>
    obtain ⟨k, f, AK, cK, AI, cI, hk, rfl, rfl, hW⟩ := hrel
    have W1 := Lib.hid hW
    clear hW
    by_cases hlt : k < 4
    case neg =>
      obtain rfl : k = 4 := by omega
      rw [show (((4 : Nat) : Int)) = 4 from rfl]
      have hkl := kpL_len D 4
      have hil := ipL_len D 4
      have hso := fun i => kp_spr D i
      have hsa := fun i j hj => kp_spr_at D i (j := j) hj
      have hga := fun j hj => kp_get (D := D) (k := 4) (j := j) hj
      have hbt : blockT D t = pk (spread (kpL D 4)) t (2 ^ (kpL D 4).length) := rfl
      have HBT := Lib.hid hbt
      have HIL := Lib.hid hil
      clear hbt hil
      generalize kpL D 4 = K at W1 hkl hso hsa hga HBT HIL
      have HSO := Lib.hid hso
      have HSA := Lib.hid hsa
      have HGA := Lib.hid hga
      have HPK := Lib.hid (fun i h => pk_step K t (i := i) h)
      have HPL := Lib.hid (fun i => pk_lt (spread K) t i)
      clear hso hsa hga
      obtain ⟨m, hm⟩ : ∃ m, K.length = m := ⟨_, rfl⟩
      rw [hm] at hkl HSO HSA HGA HPK HBT HIL ⊢
      have HM := Lib.hid hm
      obtain ⟨p, hp⟩ : ∃ p, 2 ^ m = p := ⟨_, rfl⟩
      have hp16 : p ≤ 16 := by rw [← hp]; exact Nat.pow_le_pow_right (n := 2) (by omega) hkl
      rw [hp] at HBT HPK
      have hsh := pow_nat hp
      have HP := Lib.hid hp
      clear hm hp
      go_wp2_with fail
      go_loopw [39] (fun v39 wx => ∃ (i : Nat), i ≤ p ∧ v39 = .int .i64 (i : Int) ∧ KW w wx t ff it f AK cK K AI cI (ipL D 4) (pk (spread K) t i : Int)) (fun v39 _ => p - (intOf v39).toNat)
      case atStart => exact ⟨0, by omega, rfl, W1.out⟩
      case round =>
        obtain ⟨i, hi, rfl, hW⟩ := hrel
        have W2 := Lib.hid hW
        clear hW W1
        by_cases hip : i < p
        case neg =>
          obtain rfl : i = p := by omega
          have k0 := W2.out.b.cell 0
          have k1 := W2.out.b.cell 1
          have k2 := W2.out.b.cell 2
          have k3 := W2.out.b.cell 3
          have r0 := W2.out.res.cell 0
          have r1 := W2.out.res.cell 1
          have r2 := W2.out.res.cell 2
          have r3 := W2.out.res.cell 3
          have f0 := W2.out.res.free 0
          have f1 := W2.out.res.free 1
          have f2 := W2.out.res.free 2
          have f3 := W2.out.res.free 3
          have hz2 := W2.out.lt
          rw [← HBT.out] at W2 k1
          obtain ⟨T, hT⟩ : ∃ T, blockT D t = T := ⟨_, rfl⟩
          rw [hT] at W2 k1
          have HTT := Lib.hid hT
          have hci : (Tryz.prog.info? 67).map (·.size) = some 4 := by kernel_rfl
          have HCI := Lib.hid hci
          clear hsh hT hci
          go_wp2_with fail
          have i1 := W2.out.ins.apart W2.out.res (by decide) 0 (.slice AI (ipL D 4).length cI)
          have R1 := W2.out.res.put 0 (.slice AI (ipL D 4).length cI)
          have i2 := i1.apart R1 (by decide) 1 (.int .i64 (T : Int))
          have R2 := R1.put 1 (.int .i64 (T : Int))
          have i3 := i2.apart R2 (by decide) 2 (.bool ff)
          have R3 := R2.put 2 (.bool ff)
          have i4 := i3.apart R3 (by decide) 3 (.bool it)
          have hb4 : ∀ {W : World} (hB : Below w.heap.size w W) (j : Nat) (v : Value), Below w.heap.size w (W.setCell ⟨w.heap.size + 1 + 1, j, none⟩ v) := fun hB j v => hB.setCell (p := ⟨w.heap.size + 1 + 1, j, none⟩) (show w.heap.size ≤ w.heap.size + 1 + 1 by omega) v
          refine bodyPost_ret (v := .agg #[.slice AI (ipL D 4).length cI, .int .i64 (T : Int), .bool ff, .bool it]) ?_ rfl ⟨AI, cI, by rw [HTT.out], hb4 (hb4 (hb4 (hb4 W2.out.below 0 _) 1 _) 2 _) 3 _, own_base_le i4.own (by omega)⟩
          exact results_cell_row rfl _ _ (w.heap.size + 1 + 1) 67 _ (0, 0) _ rfl (set4 W2.out.res _ _ _ _) Tryz.underlying67 rfl HCI.out
        obtain ⟨wo, hwo⟩ : ∃ wo : World, wo = wr := ⟨_, rfl⟩
        rw [← hwo] at W2 ⊢
        clear hwo
        go_wp2_with fail
        go_loop [10, 44] (fun v10 v44 => ∃ (j : Nat), j ≤ m ∧ v44 = .int .i64 (j : Int) ∧ v10 = .int .i64 (spr K i j : Int)) (fun _ v44 => m - (intOf v44).toNat)
        case atStart => exact ⟨0, by omega, rfl, rfl⟩
        case round =>
          obtain ⟨j, hj, rfl, rfl⟩ := hrel
          by_cases hjm : j < m
          case neg =>
            obtain rfl : j = m := by omega
            have hn16 := HSO.out i
            have hpk := HPK.out i (by rw [← HP.out] at hip; rw [HP.out] at hip; exact hip)
            have hpl := HPL.out i
            obtain ⟨nv, hnv⟩ : ∃ nv, spr K i j = nv := ⟨_, rfl⟩
            rw [hnv] at hn16 hpk ⊢
            have hb := bit_on t nv (by omega) (by omega)
            have ho := bit_set (pk (spread K) t i) i hpl (by omega)
            obtain ⟨pn, hpn⟩ : ∃ pn, 2 ^ nv = pn := ⟨_, rfl⟩
            obtain ⟨q, hq⟩ : ∃ q, 2 ^ i = q := ⟨_, rfl⟩
            have hp1 : 1 ≤ pn := by rw [← hpn]; exact Nat.two_pow_pos nv
            have hp2 : pn ≤ 65536 := by rw [← hpn]; exact Nat.pow_le_pow_right (n := 2) (j := 16) (by omega) (by omega)
            have hq2 : q ≤ 65536 := by rw [← hq]; exact Nat.pow_le_pow_right (n := 2) (j := 16) (by omega) (by omega)
            have hsj := pow_nat hpn
            have hsq := pow_nat hq
            have hT : pk (spread K) t i < 65536 := by rw [hq] at hpl; omega
            rw [hpn] at hb hpk
            rw [hq] at ho hpk
            have HPK2 := Lib.hid hpk
            have hb01 : t / pn % 2 = 0 ∨ t / pn % 2 = 1 := by omega
            have hne : ((pn : Int) != 0) = true := by rw [bne_iff_ne]; omega
            have k2 := W2.out.tile.cell 0
            have k5 := W2.out.b.cell 1
            have k6 := W2.out.b.free 1
            have hz2 := W2.out.lt
            generalize pk (spread K) t i = T at ho HPK2 hT k5 W2
            clear hnv hpk hpl hpn hq hsh
            rcases hb01 with h01 | h01
            · rw [h01, Nat.zero_mul] at hb
              have hsn := HPK2.out
              rw [h01, Nat.zero_mul, Nat.add_zero] at hsn
              have HSN2 := Lib.hid hsn
              clear hsn h01
              go_wp2_with fail
              go_quiet (fail)
              go_wp2_with fail
              go_roundw
              case rel => exact ⟨i + 1, by omega, by go_num, by rw [HSN2.out]; exact W2.out.drew _⟩
              case measure => simp [intOf]; omega
            · rw [h01, Nat.one_mul] at hb
              have hsn := HPK2.out
              rw [h01, Nat.one_mul] at hsn
              have HSN2 := Lib.hid hsn
              clear hsn h01
              go_wp2_with fail
              go_quiet (fail)
              go_wp2_with fail
              go_region
              go_wp2_with fail
              go_roundw
              case rel => exact ⟨i + 1, by omega, by go_num, by rw [HSN2.out, show ((T + q : Nat) : Int) = (T : Int) + (q : Int) by omega]; exact (W2.out.drew _).setT _⟩
              case measure => simp [intOf]; omega
          have hml := HM.out
          obtain ⟨ak, hAK, -, cx⟩ := (Rd.of_own W2.out.kept.own).int (k := j) (by omega)
          subst hAK
          rw [natI_getD] at cx
          have hg := HGA.out j hjm
          have hs1 := HSA.out i j hjm
          have hsn : spr K i (j + 1) = spr K i j + i / 2 ^ j % 2 * 2 ^ K.getD j 0 := rfl
          obtain ⟨kk, hkk⟩ : ∃ kk, K.getD j 0 = kk := ⟨_, rfl⟩
          rw [hkk] at cx hg hs1 hsn
          have hb := bit_on i j (by omega) (by omega)
          have ho := bit_set (spr K i j) kk hs1 (by omega)
          obtain ⟨pj, hpj⟩ : ∃ pj, 2 ^ j = pj := ⟨_, rfl⟩
          obtain ⟨q, hq⟩ : ∃ q, 2 ^ kk = q := ⟨_, rfl⟩
          have hp1 : 1 ≤ pj := by rw [← hpj]; exact Nat.two_pow_pos j
          have hp2 : pj ≤ 16 := by rw [← hpj]; exact Nat.pow_le_pow_right (n := 2) (j := 4) (by omega) (by omega)
          have hq2 : q ≤ 16 := by rw [← hq]; exact Nat.pow_le_pow_right (n := 2) (j := 4) (by omega) (by omega)
          have hsj := pow_nat hpj
          have hsq := pow_nat hq
          have hs16 : spr K i j < 16 := by rw [hq] at hs1; omega
          rw [hpj] at hb hsn
          rw [hq] at ho hsn
          have HSN := Lib.hid hsn
          have hb01 : i / pj % 2 = 0 ∨ i / pj % 2 = 1 := by omega
          have hi16 : i ≤ 16 := by omega
          have hne : ((pj : Int) != 0) = true := by rw [bne_iff_ne]; omega
          generalize spr K i j = sv at ho HSN hs16
          clear hkk hs1 hsn hpj hq hml
          rcases hb01 with h01 | h01
          · rw [h01, Nat.zero_mul] at hb
            have hsn := HSN.out
            rw [h01, Nat.zero_mul, Nat.add_zero] at hsn
            have HSN2 := Lib.hid hsn
            clear hsn h01
            go_wp2_with fail
            go_round
            case rel => exact ⟨j + 1, by omega, by go_num, by rw [HSN2.out]; go_num⟩
            case measure => simp [intOf]; omega
          · rw [h01, Nat.one_mul] at hb
            have hsn := HSN.out
            rw [h01, Nat.one_mul] at hsn
            have HSN2 := Lib.hid hsn
            clear hsn h01
            go_wp2_with fail
            go_round
            case rel => exact ⟨j + 1, by omega, by go_num, by rw [HSN2.out]; go_num⟩
            case measure => simp [intOf]; omega
    have hix := fun w => HIX.out k w hlt
    obtain ⟨hd1, hd2⟩ := HD.out k hlt
    have KN := Lib.hid (kpL_next D k)
    have IN := Lib.hid (ipL_next D k)
    obtain ⟨x, hx⟩ : ∃ x, D.getD k 0 = x := ⟨_, rfl⟩
    rw [hx] at hix hd1 hd2 KN IN
    have hkl := kpL_len D k
    have hil := ipL_len D k
    have HIL := Lib.hid hil
    obtain ⟨n, hn⟩ : ∃ n, (kpL D k).length = n := ⟨_, rfl⟩
    clear hx hil
    by_cases hx : 0 ≤ x
    case neg =>
      have KN' := KN.out
      have IN' := IN.out
      rw [if_neg hx] at KN' IN'
      have KN2 := Lib.hid KN'
      have IN2 := Lib.hid IN'
      clear KN' IN' hn
      go_wp2_with fail
      go_roundw
      case rel => exact ⟨k + 1, f, AK, cK, AI, cI, by omega, by go_num, by rw [KN2.out], by rw [KN2.out, IN2.out]; exact W1.out⟩
      case measure => simp [intOf]; omega
    obtain ⟨X, rfl⟩ := Int.eq_ofNat_of_zero_le hx
    have KN' := KN.out
    have IN' := IN.out
    rw [if_pos hx] at KN' IN'
    rw [Int.toNat_natCast] at IN'
    have KN2 := Lib.hid KN'
    have IN2 := Lib.hid IN'
    have hz := W1.out.lt
    have W2 := Lib.hid (W1.out.keep (below_new wr (.cells #[.int .i64 (k : Int)] 3)))
    clear KN' IN' hn KN IN
    go_wp2_with (at_builtin; refine wpList_append_own_at _ rfl (.tmp 25) (.tmp 27) 26 rfl (w.heap.size + 1 + 1 + 1 + 1) 3 i0 (.int .i64 0) 1 8 Tryz.underlying26 HI0.out HZ0.out HZ1.out HZ2.out rfl (by decide) (.slice AK (kpL D k).length cK) ((kpL D k).length) (ints (natI (kpL D k))) rfl W2.out.kept.own ⟨wr.heap.size, 0, none⟩ 1 1 [.int .i64 (k : Int)] rfl rfl ?c1 ?c2 ?c3 ?c4 ?c5 ?_)
    (try (case c1 => exact new_cells _ _ _))
    case c2 => first | rfl | (intro u hu; simp at hu; rcases hu with rfl; rfl)
    case c3 => unfold maxLen; omega
    case c4 => omega
    case c5 => first | omega | (simp; omega)
    intro v' w3 hown3 hg3 hnil3 hat3
    obtain ⟨qB, qd, rfl⟩ := own_slice hown3
    have W3 := Lib.hid (W2.out.nextK hown3 hg3 (by rw [World.size_alloc]; exact hat3))
    have b3 := W3.out.b.cell 0
    have hz3 := W3.out.lt
    have hil : (ipL D k).length ≤ 4 := by rw [HIL.out]; omega
    have W4 := Lib.hid (W3.out.keep (below_new w3 (.cells #[.int .i64 (X : Int)] 3)))
    clear hown3 hg3 hnil3 hat3 W2 W1
    go_wp2_with (at_builtin; refine wpList_append_own_at _ rfl (.tmp 30) (.tmp 32) 26 rfl (w.heap.size + 1 + 1 + 1 + 1) 3 i0 (.int .i64 0) 1 8 Tryz.underlying26 HI0.out HZ0.out HZ1.out HZ2.out rfl (by decide) (.slice AI (ipL D k).length cI) ((ipL D k).length) (ints (natI (ipL D k))) rfl W4.out.ins.own ⟨w3.heap.size, 0, none⟩ 1 1 [.int .i64 (X : Int)] rfl rfl ?c1 ?c2 ?c3 ?c4 ?c5 ?_)
    (try (case c1 => exact new_cells _ _ _))
    case c2 => first | rfl | (intro u hu; simp at hu; rcases hu with rfl; rfl)
    case c3 => unfold maxLen; omega
    case c4 => omega
    case c5 => first | omega | (simp; omega)
    intro v' w5 hown5 hg5 hnil5 hat5
    obtain ⟨qC, qe, rfl⟩ := own_slice hown5
    have W5 := Lib.hid (W4.out.nextI hown5 hg5 (by rw [World.size_alloc]; exact hat5))
    have hb5 := W4.out.ins.blk W4.out.b (by decide) hg5
    have b5 := hb5.cell 0
    have f5 := hb5.free 0
    clear hown5 hg5 hnil5 hat5 W4 W3 hb5
    go_wp2_with fail
    go_roundw
    case rel => exact ⟨k + 1, _, qB, qd, qC, qe, by omega, by go_num, by rw [KN2.out]; simp, by rw [KN2.out, IN2.out]; exact W5.out⟩
    case measure => simp [intOf]; omega
end Go.Proofs.YtoloaecbfglaeaaGreat
