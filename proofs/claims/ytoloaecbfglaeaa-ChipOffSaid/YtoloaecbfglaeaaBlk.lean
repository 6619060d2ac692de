/- Walk of filigree/chip.block: the block of a tile whose inputs are driven so. -/
import Derived.Test.YtoloaecbfglaeaaOrd
import Derived.Test.YtoloaecbfglaeaaPick
import Derived.Laws.Rows
import Derived.Laws.BitsAll
namespace Go.Proofs.Ytoloaecbfglaeaa
open Go.RowKit Topo
set_option linter.unusedVariables false
set_option linter.unusedSimpArgs false

theorem i64_and_nat (a b : Nat) (ha : a < 9223372036854775808) (hb : b < 9223372036854775808) : bits .and .i64 (a : Int) (b : Int) = ((a &&& b : Nat) : Int) := by
  have e : bits .and .i64 (a : Int) (b : Int) = IntKind.i64.wrap ((BitVec.ofInt 64 (a : Int) &&& BitVec.ofInt 64 (b : Int)).toNat : Int) := rfl
  have e1 : (BitVec.ofInt 64 (a : Int)).toNat = a := by simp; omega
  have e2 : (BitVec.ofInt 64 (b : Int)).toNat = b := by simp; omega
  have h : a &&& b ≤ a := Nat.and_le_left
  rw [e, BitVec.toNat_and, e1, e2, IntWalk.i64_in _ (by omega)]
theorem i64_or_nat (a b : Nat) (ha : a < 4611686018427387904) (hb : b < 4611686018427387904) : bits .or .i64 (a : Int) (b : Int) = ((a ||| b : Nat) : Int) := by
  have e : bits .or .i64 (a : Int) (b : Int) = IntKind.i64.wrap ((BitVec.ofInt 64 (a : Int) ||| BitVec.ofInt 64 (b : Int)).toNat : Int) := rfl
  have e1 : (BitVec.ofInt 64 (a : Int)).toNat = a := by simp; omega
  have e2 : (BitVec.ofInt 64 (b : Int)).toNat = b := by simp; omega
  have h : a ||| b < 2 ^ 62 := Nat.or_lt_two_pow (by omega) (by omega)
  rw [e, BitVec.toNat_or, e1, e2, IntWalk.i64_in _ (by omega)]
/-- is a bit set, as Go asks it -/
theorem bit_on (i j : Nat) (hi : i < 4611686018427387904) (hj : j < 62) : bits .and .i64 (i : Int) ((2 ^ j : Nat) : Int) = ((i / 2 ^ j % 2 * 2 ^ j : Nat) : Int) := by
  have h2 : 2 ^ j ≤ 2 ^ 61 := Nat.pow_le_pow_right (by omega) (by omega)
  rw [i64_and_nat i (2 ^ j) (by omega) (by omega)]
  congr 1
  have hb : i.testBit j = decide (i / 2 ^ j % 2 = 1) := by rw [Nat.testBit_eq_decide_div_mod_eq]
  apply Nat.eq_of_testBit_eq
  intro m
  rw [Nat.testBit_and, Nat.testBit_two_pow]
  by_cases h : i / 2 ^ j % 2 = 1
  · rw [h, Nat.one_mul, Nat.testBit_two_pow]
    by_cases e : j = m
    · subst e; rw [hb, h]; simp
    · simp [e]
  · have h0 : i / 2 ^ j % 2 = 0 := by omega
    rw [h0, Nat.zero_mul, Nat.zero_testBit]
    by_cases e : j = m
    · subst e; rw [hb]; simp [h]
    · simp [e]
theorem bit_set (n k : Nat) (hn : n < 2 ^ k) (hk : k < 61) : bits .or .i64 (n : Int) ((2 ^ k : Nat) : Int) = ((n + 2 ^ k : Nat) : Int) := by
  have h2 : 2 ^ k ≤ 2 ^ 60 := Nat.pow_le_pow_right (by omega) (by omega)
  rw [i64_or_nat n (2 ^ k) (by omega) (by omega)]
  rw [Nat.or_two_pow_eq_add_of_lt hn]
theorem pow_nat {k p : Nat} (h : 2 ^ k = p) : ((2 : Int) ^ k) = (p : Int) := by rw [← h, Int.natCast_pow]; rfl
theorem shl_nat (k : Nat) (hk : k < 62) : wrap64 ((2 : Int) ^ k) = ((2 ^ k : Nat) : Int) := by
  have h2 : 2 ^ k ≤ 2 ^ 61 := Nat.pow_le_pow_right (by omega) (by omega)
  have e : ((2 : Int) ^ k) = ((2 ^ k : Nat) : Int) := by rw [Int.natCast_pow]; rfl
  rw [e]
  generalize 2 ^ k = p at h2
  unfold wrap64; omega

theorem Row.grown {w w' : World} {base nm nm' c c' : Nat} {f : Nat → Nat} {A A' : Option Addr} {l l' : List Nat} (h : Row w base f nm A c l) (o : Row w base f nm' A' c' l') (hne : nm' ≠ nm) (hg : w.grownBy w' (Value.slice A l.length c).ownBlock) : Row w' base (named f w.heap.size nm) nm' A' c' l' := by
  rw [own_blk] at hg
  exact o.chg (Chg.of_grown hg) (fun g _ hn e => by have := h.name g e.symm; omega) (fun g hg => named_old f hg)
theorem Row.next {w w' : World} {base nm c : Nat} {f : Nat → Nat} {A : Option Addr} {l : List Nat} (h : Row w base f nm A c l) {qB : Option Addr} {qd : Nat} {x : Nat} (hr : w'.ownsRow base 3 1 (.slice qB (l.length + 1) qd) (l.length + 1) (ints (natI l) ++ [.int .i64 (x : Int)]))
    (hs : (Value.slice qB (l.length + 1) qd).ownBlock = (Value.slice A l.length c).ownBlock ∨ (Value.slice qB (l.length + 1) qd).ownBlock = some w.heap.size) : Row w' base (named f w.heap.size nm) nm qB qd (l ++ [x]) := by
  rw [own_blk, own_blk] at hs
  have e2 : ints (natI (l ++ [x])) = ints (natI l) ++ [.int .i64 (x : Int)] := by simp [ints, natI]
  exact ⟨by rw [e2]; simpa using hr, named_new h.name (fun g hg => (h.lt hg).2) (hs.imp id fun h g hg => by rw [h] at hg; injection hg with hg; omega)⟩
theorem Row.blk {w w' : World} {base nm c g : Nat} {f : Nat → Nat} {A : Option Addr} {l : List Nat} {t : TypeId} {cs : Array Value} (h : Row w base f nm A c l) (hb : Blk w g t cs) (ht : 3 ≠ t) (hg : w.grownBy w' (Value.slice A l.length c).ownBlock) : Blk w' g t cs :=
  hb.grown hg (fun e => own_other h.own hb ht e.symm)
/-- the first k of four inputs that are something -/
def kpL (D : List Int) (k : Nat) : List Nat := (List.range k).filter fun i => decide (0 ≤ D.getD i 0)
def ipL (D : List Int) (k : Nat) : List Nat := (kpL D k).map fun i => (D.getD i 0).toNat
theorem kpL_next (D : List Int) (k : Nat) : kpL D (k + 1) = if 0 ≤ D.getD k 0 then kpL D k ++ [k] else kpL D k := by
  unfold kpL
  rw [List.range_succ, List.filter_append]
  by_cases h : 0 ≤ D.getD k 0
  · rw [if_pos h]; simp only [List.filter_cons, List.filter_nil, decide_eq_true h, if_true]
  · rw [if_neg h]; simp only [List.filter_cons, List.filter_nil, decide_eq_false h, Bool.false_eq_true, if_false, List.append_nil]
theorem ipL_next (D : List Int) (k : Nat) : ipL D (k + 1) = if 0 ≤ D.getD k 0 then ipL D k ++ [(D.getD k 0).toNat] else ipL D k := by
  unfold ipL
  rw [kpL_next]
  split <;> simp
theorem kpL_len (D : List Int) (k : Nat) : (kpL D k).length ≤ k := by
  unfold kpL
  exact Nat.le_trans (List.length_filter_le _ _) (by simp)
theorem ipL_len (D : List Int) (k : Nat) : (ipL D k).length = (kpL D k).length := by simp [ipL]
/-- what block holds within its first loop -/
structure KW (w0 wx : World) (t : Int) (ff it : Bool) (f : Nat → Nat) (AK : Option Addr) (cK : Nat) (kp : List Nat) (AI : Option Addr) (cI : Nat) (ip : List Nat) (T : Int) : Prop where
  below : Below w0.heap.size w0 wx
  tile : Blk wx w0.heap.size 60 #[.int .i64 t, .bool ff, .bool it]
  res : Blk wx (w0.heap.size + 1 + 1) 56 #[.slice none 0 0, .int .i64 0, .bool false, .bool false]
  b : Blk wx (w0.heap.size + 1 + 1 + 1) 56 #[.slice AI ip.length cI, .int .i64 T, .bool ff, .bool it]
  kept : Row wx (w0.heap.size + 1 + 1 + 1 + 1) f 0 AK cK kp
  ins : Row wx (w0.heap.size + 1 + 1 + 1 + 1) f 1 AI cI ip
section
variable {w0 wx wy : World} {t T : Int} {ff it : Bool} {f : Nat → Nat} {AK AI : Option Addr} {cK cI : Nat} {kp ip : List Nat}
theorem KW.keep (h : KW w0 wx t ff it f AK cK kp AI cI ip T) (hb : Below wx.heap.size wx wy) : KW w0 wy t ff it f AK cK kp AI cI ip T :=
  ⟨below_then h.below hb, h.tile.keep hb, h.res.keep hb, h.b.keep hb, h.kept.keep hb, h.ins.keep hb⟩
theorem KW.start (w : World) (t : Int) (ff it : Bool) (cs : Array Value) (ty : TypeId) : KW w ((((w.alloc (.cells #[.int .i64 t, .bool ff, .bool it] 60)).alloc (.cells cs ty)).alloc (.cells #[.slice none 0 0, .int .i64 0, .bool false, .bool false] 56)).alloc (.cells #[.slice none 0 0, .int .i64 0, .bool ff, .bool it] 56)) t ff it (fun _ => 0) none 0 [] none 0 [] 0 := by
  have z1 : (w.alloc (.cells #[.int .i64 t, .bool ff, .bool it] 60)).heap.size = w.heap.size + 1 := by simp
  have z2 : ((w.alloc (.cells #[.int .i64 t, .bool ff, .bool it] 60)).alloc (.cells cs ty)).heap.size = w.heap.size + 1 + 1 := by simp
  have z3 : (((w.alloc (.cells #[.int .i64 t, .bool ff, .bool it] 60)).alloc (.cells cs ty)).alloc (.cells #[.slice none 0 0, .int .i64 0, .bool false, .bool false] 56)).heap.size = w.heap.size + 1 + 1 + 1 := by simp
  refine ⟨below_then (below_then (below_then (below_new _ _) (below_new _ _)) (below_new _ _)) (below_new _ _), (((Blk.made w _ _).alloc _).alloc _).alloc _, ?_, ?_, ⟨World.ownsRow_nil _ _ _ _, fun g h => by cases h⟩, ⟨World.ownsRow_nil _ _ _ _, fun g h => by cases h⟩⟩
  · rw [← z2]; exact (Blk.made _ _ _).alloc _
  · rw [← z3]; exact Blk.made _ _ _
theorem KW.nextK (h : KW w0 wx t ff it f AK cK kp AI cI ip T) {qB : Option Addr} {qd x : Nat} (hr : wy.ownsRow (w0.heap.size + 1 + 1 + 1 + 1) 3 1 (.slice qB (kp.length + 1) qd) (kp.length + 1) (ints (natI kp) ++ [.int .i64 (x : Int)])) (hg : wx.grownBy wy (Value.slice AK kp.length cK).ownBlock)
    (hs : (Value.slice qB (kp.length + 1) qd).ownBlock = (Value.slice AK kp.length cK).ownBlock ∨ (Value.slice qB (kp.length + 1) qd).ownBlock = some wx.heap.size) : KW w0 wy t ff it (named f wx.heap.size 0) qB qd (kp ++ [x]) AI cI ip T :=
  ⟨h.below.grown hg (by have := h.b.lt; omega) (fun k hk => by have := (h.kept.own.lt k hk).1; omega), h.kept.blk h.tile (by decide) hg, h.kept.blk h.res (by decide) hg, h.kept.blk h.b (by decide) hg, h.kept.next hr hs, h.kept.grown h.ins (by decide) hg⟩
theorem Row.apart {w : World} {base nm c g : Nat} {f : Nat → Nat} {A : Option Addr} {l : List Nat} {t : TypeId} {cs : Array Value} (h : Row w base f nm A c l) (hb : Blk w g t cs) (ht : 3 ≠ t) (i : Nat) (v : Value) : Row (w.setCell ⟨g, i, none⟩ v) base f nm A c l :=
  ⟨ownsRow_setCell_other h.own (a := ⟨g, i, none⟩) (own_other h.own hb ht) v, h.name⟩
theorem KW.nextI (h : KW w0 wx t ff it f AK cK kp AI cI ip T) {qB : Option Addr} {qd x : Nat} (hr : wy.ownsRow (w0.heap.size + 1 + 1 + 1 + 1) 3 1 (.slice qB (ip.length + 1) qd) (ip.length + 1) (ints (natI ip) ++ [.int .i64 (x : Int)])) (hg : wx.grownBy wy (Value.slice AI ip.length cI).ownBlock)
    (hs : (Value.slice qB (ip.length + 1) qd).ownBlock = (Value.slice AI ip.length cI).ownBlock ∨ (Value.slice qB (ip.length + 1) qd).ownBlock = some wx.heap.size) : KW w0 (wy.setCell ⟨w0.heap.size + 1 + 1 + 1, 0, none⟩ (.slice qB (ip.length + 1) qd)) t ff it (named f wx.heap.size 1) AK cK kp qB qd (ip ++ [x]) T := by
  have hb := h.ins.blk h.b (by decide) hg
  have ht := h.ins.blk h.tile (by decide) hg
  have hre := h.ins.blk h.res (by decide) hg
  have hbl := h.below.grown hg (by have := h.b.lt; omega) (fun k hk => by have := (h.ins.own.lt k hk).1; omega)
  refine ⟨hbl.setCell (p := ⟨w0.heap.size + 1 + 1 + 1, 0, none⟩) (show w0.heap.size ≤ w0.heap.size + 1 + 1 + 1 by omega) _, ht.apart (show w0.heap.size ≠ w0.heap.size + 1 + 1 + 1 by omega) _, hre.apart (show w0.heap.size + 1 + 1 ≠ w0.heap.size + 1 + 1 + 1 by omega) _, ?_, (h.ins.grown h.kept (by decide) hg).apart hb (by decide) _ _, (h.ins.next hr hs).apart hb (by decide) _ _⟩
  have := hb.put 0 (.slice qB (ip.length + 1) qd)
  simpa using this
theorem KW.setT (h : KW w0 wx t ff it f AK cK kp AI cI ip T) (T' : Int) : KW w0 (wx.setCell ⟨w0.heap.size + 1 + 1 + 1, 1, none⟩ (.int .i64 T')) t ff it f AK cK kp AI cI ip T' := by
  refine ⟨h.below.setCell (p := ⟨w0.heap.size + 1 + 1 + 1, 1, none⟩) (show w0.heap.size ≤ w0.heap.size + 1 + 1 + 1 by omega) _, h.tile.apart (show w0.heap.size ≠ w0.heap.size + 1 + 1 + 1 by omega) _, h.res.apart (show w0.heap.size + 1 + 1 ≠ w0.heap.size + 1 + 1 + 1 by omega) _, ?_, h.kept.apart h.b (by decide) _ _, h.ins.apart h.b (by decide) _ _⟩
  have := h.b.put 1 (.int .i64 T')
  simpa using this
theorem KW.drew (h : KW w0 wx t ff it f AK cK kp AI cI ip T) (n : Nat) : KW w0 (wx.drewN n) t ff it f AK cK kp AI cI ip T := h.keep (below_drewN (Below.refl _ _) n)
theorem KW.lt (h : KW w0 wx t ff it f AK cK kp AI cI ip T) : w0.heap.size + 1 + 1 + 1 < wx.heap.size := h.b.lt
end

theorem spr_lt {K : List Nat} (hs : K.Pairwise (· < ·)) (i : Nat) : ∀ j, j ≤ K.length → ∀ b, (∀ q, q < j → K.getD q 0 < b) → spr K i j < 2 ^ b
  | 0, _, b, _ => by simp only [spr]; exact Nat.two_pow_pos b
  | j + 1, hj, b, hb => by
    have hjl : j < K.length := hj
    have e : K.getD j 0 = K[j] := by rw [List.getD_eq_getElem?_getD, List.getElem?_eq_getElem hjl]; rfl
    have ih := spr_lt hs i j (by omega) (K.getD j 0) (fun q hq => by
      have hql : q < K.length := by omega
      rw [e, List.getD_eq_getElem?_getD, List.getElem?_eq_getElem hql]
      exact List.pairwise_iff_getElem.1 hs q j hql hjl hq)
    have hjb := hb j (by omega)
    have h1 : i / 2 ^ j % 2 * 2 ^ K.getD j 0 ≤ 1 * 2 ^ K.getD j 0 := Nat.mul_le_mul_right _ (by omega)
    have h2 : 2 ^ (K.getD j 0 + 1) ≤ 2 ^ b := Nat.pow_le_pow_right (by omega) hjb
    rw [Nat.pow_succ] at h2
    simp only [spr]
    omega
theorem kp_sorted (D : List Int) (k : Nat) : (kpL D k).Pairwise (· < ·) := List.Pairwise.filter _ List.pairwise_lt_range
theorem kp_mem {D : List Int} {k x : Nat} (h : x ∈ kpL D k) : x < k := List.mem_range.1 (List.mem_filter.1 h).1
theorem kp_get {D : List Int} {k j : Nat} (h : j < (kpL D k).length) : (kpL D k).getD j 0 < k := by
  rw [List.getD_eq_getElem?_getD, List.getElem?_eq_getElem h]
  exact kp_mem (List.getElem_mem h)
theorem kp_spr (D : List Int) (i : Nat) : spr (kpL D 4) i (kpL D 4).length < 16 := spr_lt (kp_sorted D 4) i _ (Nat.le_refl _) 4 fun q hq => kp_get hq
theorem kp_spr_at (D : List Int) (i : Nat) {j : Nat} (hj : j < (kpL D 4).length) : spr (kpL D 4) i j < 2 ^ ((kpL D 4).getD j 0) := spr_lt (kp_sorted D 4) i j (Nat.le_of_lt hj) _ fun q hq => by
  have hql : q < (kpL D 4).length := by omega
  rw [List.getD_eq_getElem?_getD, List.getElem?_eq_getElem hql, List.getD_eq_getElem?_getD, List.getElem?_eq_getElem hj]
  exact List.pairwise_iff_getElem.1 (kp_sorted D 4) q j hql hj hq
theorem spread_get (K : List Nat) {i : Nat} (h : i < 2 ^ K.length) : (spread K).getD i 0 = spr K i K.length := by
  unfold spread
  rw [List.getD_eq_getElem?_getD, List.getElem?_map, List.getElem?_range h]
  rfl
theorem pk_step (K : List Nat) (t : Nat) {i : Nat} (h : i < 2 ^ K.length) : pk (spread K) t (i + 1) = pk (spread K) t i + t / 2 ^ spr K i K.length % 2 * 2 ^ i := by
  show pk (spread K) t i + t / 2 ^ (spread K).getD i 0 % 2 * 2 ^ i = _
  rw [spread_get K h]
theorem set4 {w : World} {g : Nat} {t : TypeId} {a b c d : Value} (h : Blk w g t #[a, b, c, d]) (x y z u : Value) : Blk ((((w.setCell ⟨g, 0, none⟩ x).setCell ⟨g, 1, none⟩ y).setCell ⟨g, 2, none⟩ z).setCell ⟨g, 3, none⟩ u) g t #[x, y, z, u] := by
  have := (((h.put 0 x).put 1 y).put 2 z).put 3 u
  simpa using this
theorem own_base_le {w : World} {base base' : Nat} {e : TypeId} {size n : Nat} {v : Value} {xs : List Value} (h : w.ownsRow base e size v n xs) (hb : base' ≤ base) : w.ownsRow base' e size v n xs := ⟨h.1, by
  rcases h.2 with h' | ⟨g, cap, cur, a1, a2, a3⟩
  · exact .inl h'
  · exact .inr ⟨g, cap, cur, a1, by omega, a3⟩⟩
end Go.Proofs.Ytoloaecbfglaeaa
