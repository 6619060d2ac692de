/- Layer 31's bytes: their sum, a configuration as bytes, bytes as a configuration. Plain, no program here. -/
import Derived.Test.YtoloaecbfglaeaaGreatCfg

namespace Go.Proofs.YtoloaecbfglaeaaGreat
set_option linter.unusedVariables false
set_option linter.unusedSimpArgs false

/-- one byte more in a sum -/
def fnv (s b : Nat) : Nat := ((s ^^^ b) * 16777619) % 4294967296
def sumB (l : List Nat) : Nat := l.foldl fnv 2166136261
theorem sumB_snoc (l : List Nat) (x : Nat) : sumB (l ++ [x]) = fnv (sumB l) x := by
  unfold sumB
  rw [List.foldl_append, List.foldl_cons, List.foldl_nil]
theorem fnv_lt (s b : Nat) : fnv s b < 4294967296 := Nat.mod_lt _ (by decide)
theorem fold_lt : ∀ (l : List Nat) (s : Nat), s < 4294967296 → l.foldl fnv s < 4294967296
  | [], s, h => h
  | x :: l, s, h => fold_lt l _ (fnv_lt s x)
theorem sumB_lt (l : List Nat) : sumB l < 4294967296 := fold_lt l _ (by decide)
theorem mul_back (x : Nat) : ((x * 16777619) % 4294967296 * 899433627) % 4294967296 = x % 4294967296 := by
  rw [Nat.mod_mul_mod, Nat.mul_assoc, show 16777619 * 899433627 = 1 + 4294967296 * 3513497 from by decide, Nat.mul_add, Nat.mul_one, ← Nat.mul_assoc, Nat.mul_comm x, Nat.mul_assoc, Nat.add_mul_mod_self_left]
theorem mul_inj {x y : Nat} (hx : x < 4294967296) (hy : y < 4294967296) (h : (x * 16777619) % 4294967296 = (y * 16777619) % 4294967296) : x = y := by
  have := mul_back x
  rw [h, mul_back y, Nat.mod_eq_of_lt hx, Nat.mod_eq_of_lt hy] at this
  exact this.symm
theorem xor_lt {s b : Nat} (hs : s < 4294967296) (hb : b < 256) : s ^^^ b < 4294967296 :=
  Nat.xor_lt_two_pow (n := 32) hs (by omega)
theorem xor_left {a b c : Nat} (h : a ^^^ c = b ^^^ c) : a = b := by
  have : a ^^^ c ^^^ c = b ^^^ c ^^^ c := by rw [h]
  simpa [Nat.xor_assoc] using this
theorem fnv_inj_s {s t b : Nat} (hs : s < 4294967296) (ht : t < 4294967296) (hb : b < 256) (h : fnv s b = fnv t b) : s = t :=
  xor_left (mul_inj (xor_lt hs hb) (xor_lt ht hb) h)
theorem fnv_inj_b {s a b : Nat} (hs : s < 4294967296) (ha : a < 256) (hb : b < 256) (h : fnv s a = fnv s b) : a = b := by
  have := mul_inj (xor_lt hs ha) (xor_lt hs hb) h
  rw [Nat.xor_comm s a, Nat.xor_comm s b] at this
  exact xor_left this
theorem fold_inj : ∀ {l : List Nat} {s t : Nat}, (∀ x ∈ l, x < 256) → s < 4294967296 → t < 4294967296 → l.foldl fnv s = l.foldl fnv t → s = t
  | [], _, _, _, _, _, h => h
  | x :: l, s, t, hb, hs, ht, h =>
    fnv_inj_s hs ht (hb x (by simp)) (fold_inj (l := l) (fun y hy => hb y (by simp [hy])) (fnv_lt s x) (fnv_lt t x) h)
/-- one byte that is another one turns the sum -/
theorem sumB_set {l : List Nat} {k b : Nat} (hk : k < l.length) (hl : ∀ x ∈ l, x < 256) (hb : b < 256) (h : sumB (l.set k b) = sumB l) : b = l[k] := by
  have e1 : l.set k b = l.take k ++ b :: l.drop (k + 1) := by rw [List.set_eq_take_append_cons_drop, if_pos hk]
  have e2 : l = l.take k ++ l[k] :: l.drop (k + 1) := by rw [List.getElem_cons_drop hk, List.take_append_drop]
  rw [e1] at h
  conv at h => rhs; rw [e2]
  unfold sumB at h
  rw [List.foldl_append, List.foldl_append, List.foldl_cons, List.foldl_cons] at h
  have hlt := fold_lt (l.take k) 2166136261 (by decide)
  have h2 := fold_inj (fun x hx => hl x (List.mem_of_mem_drop hx)) (fnv_lt _ _) (fnv_lt _ _) h
  exact fnv_inj_b hlt hb (hl _ (List.getElem_mem hk)) h2

/-! ### numbers as bytes -/
def two (n : Nat) : List Nat := [n / 256 % 256, n % 256]
def four (s : Nat) : List Nat := [s / 16777216 % 256, s / 65536 % 256, s / 256 % 256, s % 256]
def flag (t : TL) : Nat := (if t.2.1 then 1 else 0) + (if t.2.2 then 2 else 0)
def tileB (t : TL) : List Nat := two t.1.toNat ++ [flag t]
def byteB : List Bool → Nat
  | [] => 0
  | b :: l => (if b then 1 else 0) + 2 * byteB l
def packB (l : List Bool) : List Nat := (List.range ((l.length + 7) / 8)).map fun i => byteB ((l.drop (8 * i)).take 8)
def padB (p : Int) : List Nat := two p.toNat
def num2 (l : List Nat) (i : Nat) : Nat := 256 * l.getD i 0 + l.getD (i + 1) 0
theorem byteB_lt : ∀ l : List Bool, byteB l < 2 ^ l.length
  | [] => by simp [byteB]
  | b :: l => by
    have := byteB_lt l
    simp only [byteB, List.length_cons, Nat.pow_succ]
    split <;> omega
theorem byteB_bit : ∀ (l : List Bool) (k : Nat), byteB l / 2 ^ k % 2 = if l.getD k false then 1 else 0
  | [], k => by simp [byteB]
  | b :: l, 0 => by
    simp only [byteB, Nat.pow_zero, Nat.div_one, List.getD_cons_zero]
    split <;> omega
  | b :: l, k + 1 => by
    have h := byteB_bit l k
    rw [List.getD_cons_succ, ← h, Nat.pow_succ, Nat.mul_comm (2 ^ k) 2, ← Nat.div_div_eq_div_mul]
    congr 2
    simp only [byteB]
    split <;> omega
/-- a byte is its bits -/
theorem byteB_of : ∀ (n x : Nat), x < 2 ^ n → byteB ((List.range n).map fun k => decide (x / 2 ^ k % 2 = 1)) = x
  | 0, x, h => by simp [byteB]; simp at h; exact h.symm
  | n + 1, x, h => by
    have ih := byteB_of n (x / 2) (by rw [Nat.pow_succ] at h; omega)
    rw [List.range_succ_eq_map, List.map_cons, List.map_map]
    have e : ((fun k => decide (x / 2 ^ k % 2 = 1)) ∘ Nat.succ) = fun k => decide (x / 2 / 2 ^ k % 2 = 1) := by
      funext k
      simp only [Function.comp, Nat.succ_eq_add_one]
      rw [Nat.pow_succ, Nat.mul_comm (2 ^ k) 2, ← Nat.div_div_eq_div_mul]
    rw [e, byteB, ih]
    simp only [Nat.pow_zero, Nat.div_one, decide_eq_true_eq]
    split <;> omega
theorem byteB_zeros : ∀ (l : List Bool) (m : Nat), byteB (l ++ List.replicate m false) = byteB l
  | [], 0 => rfl
  | [], m + 1 => by
    have := byteB_zeros [] m
    simp only [List.nil_append] at this
    simp [List.replicate_succ, byteB, this]
  | b :: l, m => by
    simp only [List.cons_append, byteB, byteB_zeros l m]


/-! ### lists of pieces as long as each other -/
theorem flat_get {α : Type} {f : α → List Nat} {k : Nat} (hf : ∀ x, (f x).length = k) : ∀ (l : List α) (r : List Nat) (i j : Nat) (hi : i < l.length), j < k → (l.flatMap f ++ r).getD (k * i + j) 0 = (f l[i]).getD j 0
  | [], r, i, j, hi, hj => by simp at hi
  | x :: l, r, 0, j, hi, hj => by
    rw [List.flatMap_cons, List.append_assoc, Nat.mul_zero, Nat.zero_add, List.getD_eq_getElem?_getD, List.getElem?_append_left (by rw [hf]; exact hj)]
    simp [List.getD_eq_getElem?_getD]
  | x :: l, r, i + 1, j, hi, hj => by
    rw [List.flatMap_cons, List.append_assoc, List.getD_eq_getElem?_getD, List.getElem?_append_right (by rw [hf, Nat.mul_succ]; omega), hf,
      show k * (i + 1) + j - k = k * i + j by rw [Nat.mul_succ]; omega, ← List.getD_eq_getElem?_getD, flat_get hf l r i j (by simpa using hi) hj]
    simp
theorem flat_len {α : Type} {f : α → List Nat} {k : Nat} (hf : ∀ x, (f x).length = k) : ∀ l : List α, (l.flatMap f).length = k * l.length
  | [] => by simp
  | x :: l => by rw [List.flatMap_cons, List.length_append, hf, flat_len hf l, List.length_cons, Nat.mul_succ]; omega
theorem flat_of {f : Nat → List Nat} {l : List Nat} {k : Nat} : ∀ n, (∀ i, i < n → f i = (l.drop (k * i)).take k) → (List.range n).flatMap f = l.take (k * n)
  | 0, h => by simp
  | n + 1, h => by
    rw [List.range_succ, List.flatMap_append, flat_of n (fun i hi => h i (by omega)), List.flatMap_singleton, h n (by omega), Nat.mul_succ, List.take_add]
theorem take2 {l : List Nat} {i : Nat} (h : i + 2 ≤ l.length) : (l.drop i).take 2 = [l.getD i 0, l.getD (i + 1) 0] := by
  rw [List.drop_eq_getElem_cons (by omega), List.take_succ_cons, List.drop_eq_getElem_cons (by omega), List.take_succ_cons, List.take_zero]
  simp [List.getD_eq_getElem?_getD, List.getElem?_eq_getElem, show i < l.length by omega, show i + 1 < l.length by omega]
theorem take3 {l : List Nat} {i : Nat} (h : i + 3 ≤ l.length) : (l.drop i).take 3 = [l.getD i 0, l.getD (i + 1) 0, l.getD (i + 2) 0] := by
  rw [List.drop_eq_getElem_cons (by omega), List.take_succ_cons, List.drop_eq_getElem_cons (by omega), List.take_succ_cons, List.drop_eq_getElem_cons (by omega), List.take_succ_cons, List.take_zero]
  simp [List.getD_eq_getElem?_getD, List.getElem?_eq_getElem, show i < l.length by omega, show i + 1 < l.length by omega, show i + 2 < l.length by omega]
theorem getD_lt {l : List Nat} (h : ∀ x ∈ l, x < 256) (i : Nat) : l.getD i 0 < 256 := by
  rw [List.getD_eq_getElem?_getD]
  by_cases c : i < l.length
  · rw [List.getElem?_eq_getElem c]; exact h _ (List.getElem_mem c)
  · rw [List.getElem?_eq_none (by omega)]; simp
theorem num2_lt {l : List Nat} (h : ∀ x ∈ l, x < 256) (i : Nat) : num2 l i < 65536 := by
  have a := getD_lt h i
  have b := getD_lt h (i + 1)
  unfold num2
  omega
theorem two_num2 {l : List Nat} (h : ∀ x ∈ l, x < 256) (i : Nat) : two (num2 l i) = [l.getD i 0, l.getD (i + 1) 0] := by
  have a := getD_lt h i
  have b := getD_lt h (i + 1)
  unfold two num2
  rw [show (256 * l.getD i 0 + l.getD (i + 1) 0) / 256 % 256 = l.getD i 0 by omega, show (256 * l.getD i 0 + l.getD (i + 1) 0) % 256 = l.getD (i + 1) 0 by omega]
theorem num2_two {n : Nat} (h : n < 65536) (r : List Nat) : 256 * (two n ++ r).getD 0 0 + (two n ++ r).getD 1 0 = n := by
  simp [two]; omega

/-! ### a configuration's bytes -/
def headB (W H T : Int) (i o : Nat) : List Nat := [70, 71, 66, 49, W.toNat, H.toNat, T.toNat] ++ two i ++ two o
def bodyB (W H T : Int) (tiles : List TL) (on : List Bool) (ins outs : List Int) : List Nat :=
  headB W H T ins.length outs.length ++ tiles.flatMap tileB ++ packB on ++ (ins ++ outs).flatMap padB
def putB (W H T : Int) (tiles : List TL) (on : List Bool) (ins outs : List Int) : List Nat :=
  bodyB W H T tiles on ins outs ++ four (sumB (bodyB W H T tiles on ins outs))
theorem headB_len (W H T : Int) (i o : Nat) : (headB W H T i o).length = 11 := by simp [headB, two]
theorem tileB_len (t : TL) : (tileB t).length = 3 := by simp [tileB, two]
theorem padB_len (p : Int) : (padB p).length = 2 := by simp [padB, two]
theorem packB_len (l : List Bool) : (packB l).length = (l.length + 7) / 8 := by simp [packB]
theorem bodyB_len (W H T : Int) (tiles : List TL) (on : List Bool) (ins outs : List Int) : (bodyB W H T tiles on ins outs).length = 11 + 3 * tiles.length + (on.length + 7) / 8 + 2 * (ins.length + outs.length) := by
  unfold bodyB
  rw [List.length_append, List.length_append, List.length_append, headB_len, flat_len tileB_len, packB_len, flat_len padB_len, List.length_append]
theorem putB_len (W H T : Int) (tiles : List TL) (on : List Bool) (ins outs : List Int) : (putB W H T tiles on ins outs).length = 15 + 3 * tiles.length + (on.length + 7) / 8 + 2 * (ins.length + outs.length) := by
  unfold putB
  rw [List.length_append, bodyB_len]
  simp [four]; omega
theorem packB_lt (l : List Bool) : ∀ x ∈ packB l, x < 256 := by
  intro x hx
  unfold packB at hx
  obtain ⟨i, -, rfl⟩ := List.mem_map.1 hx
  have h1 := byteB_lt ((l.drop (8 * i)).take 8)
  have h2 : ((l.drop (8 * i)).take 8).length ≤ 8 := by simp; omega
  have h3 := Nat.pow_le_pow_right (n := 2) (by omega) h2
  omega
theorem two_lt (n : Nat) : ∀ x ∈ two n, x < 256 := by
  intro x hx
  simp only [two, List.mem_cons, List.not_mem_nil, or_false] at hx
  omega
theorem four_lt (n : Nat) : ∀ x ∈ four n, x < 256 := by
  intro x hx
  simp only [four, List.mem_cons, List.not_mem_nil, or_false] at hx
  omega
theorem flag_lt (t : TL) : flag t < 4 := by unfold flag; split <;> split <;> omega
theorem putB_lt {W H T : Int} (hW : W ≤ 255 ∧ H ≤ 255 ∧ T ≤ 255) (tiles : List TL) (on : List Bool) (ins outs : List Int) : ∀ x ∈ putB W H T tiles on ins outs, x < 256 := by
  intro x hx
  simp only [putB, bodyB, headB, List.mem_append, List.mem_cons, List.not_mem_nil, or_false, List.mem_flatMap] at hx
  rcases hx with (((((hx | hx) | hx) | ⟨t, -, hx⟩) | hx) | ⟨p, -, hx⟩) | hx
  · omega
  · exact two_lt _ _ hx
  · exact two_lt _ _ hx
  · simp only [tileB, List.mem_append, List.mem_singleton] at hx
    rcases hx with hx | rfl
    · exact two_lt _ _ hx
    · have := flag_lt t; omega
  · exact packB_lt _ _ hx
  · exact two_lt _ _ hx
  · exact four_lt _ _ hx
/-! ### bytes as a configuration -/
def tilesAt (b : List Nat) (at_ n : Nat) : List TL := (List.range n).map fun i => ((num2 b (at_ + 3 * i) : Int), decide (b.getD (at_ + 3 * i + 2) 0 % 2 = 1), decide (b.getD (at_ + 3 * i + 2) 0 / 2 % 2 = 1))
def bitsAt (b : List Nat) (at_ n : Nat) : List Bool := (List.range n).map fun i => decide (b.getD (at_ + i / 8) 0 / 2 ^ (i % 8) % 2 = 1)
def numsAt (b : List Nat) (at_ n : Nat) : List Int := (List.range n).map fun i => (num2 b (at_ + 2 * i) : Int)
def oddT (b : List Nat) (at_ n : Nat) : Bool := (List.range n).any fun i => decide (3 < b.getD (at_ + 3 * i + 2) 0)
def oddS (b : List Nat) (at_ n : Nat) : Bool := decide (n % 8 ≠ 0) && decide (b.getD (at_ + n / 8) 0 / 2 ^ (n % 8) ≠ 0)
theorem tilesAt_len (b : List Nat) (a n : Nat) : (tilesAt b a n).length = n := by simp [tilesAt]
theorem bitsAt_len (b : List Nat) (a n : Nat) : (bitsAt b a n).length = n := by simp [bitsAt]
theorem numsAt_len (b : List Nat) (a n : Nat) : (numsAt b a n).length = n := by simp [numsAt]
theorem getD_app {l r : List Nat} (a i : Nat) (h : l.length = a) : (l ++ r).getD (a + i) 0 = r.getD i 0 := by
  rw [List.getD_eq_getElem?_getD, List.getElem?_append_right (by omega), show a + i - l.length = i by omega, ← List.getD_eq_getElem?_getD]
/-- put, then got: tiles -/
theorem tilesAt_put {l : List Nat} {a : Nat} (h : l.length = a) (ts : List TL) (hts : ∀ t ∈ ts, 0 ≤ t.1 ∧ t.1 ≤ 65535) (r : List Nat) : tilesAt (l ++ (ts.flatMap tileB ++ r)) a ts.length = ts ∧ oddT (l ++ (ts.flatMap tileB ++ r)) a ts.length = false := by
  have key : ∀ i (hi : i < ts.length) j, j < 3 → (l ++ (ts.flatMap tileB ++ r)).getD (a + 3 * i + j) 0 = (tileB ts[i]).getD j 0 := fun i hi j hj => by
    rw [Nat.add_assoc, getD_app a _ h, flat_get tileB_len ts r i j hi hj]
  constructor
  · apply List.ext_getElem
    · rw [tilesAt_len]
    · intro i h1 hi
      have k0 := key i hi 0 (by omega)
      have k1 := key i hi 1 (by omega)
      have k2 := key i hi 2 (by omega)
      have hb := hts ts[i] (List.getElem_mem hi)
      simp only [tilesAt, List.getElem_map, List.getElem_range, num2]
      rw [Nat.add_zero] at k0
      rw [k0, k1, k2]
      generalize ts[i] = t at hb
      obtain ⟨x, f, g⟩ := t
      simp only [tileB, two, flag, List.cons_append, List.nil_append, List.getD_cons_zero, List.getD_cons_succ]
      refine Prod.ext ?_ (Prod.ext ?_ ?_)
      · simp only at hb ⊢; omega
      · cases f <;> cases g <;> simp
      · cases f <;> cases g <;> simp
  · unfold oddT
    rw [List.any_eq_false]
    intro i hi
    rw [List.mem_range] at hi
    rw [key i hi 2 (by omega)]
    have := flag_lt ts[i]
    simp [tileB, two]; omega
theorem packB_get {l : List Bool} {i : Nat} (h : i < (l.length + 7) / 8) (r : List Nat) : (packB l ++ r).getD i 0 = byteB ((l.drop (8 * i)).take 8) := by
  rw [List.getD_eq_getElem?_getD, List.getElem?_append_left (by rw [packB_len]; exact h)]
  simp [packB, h]
theorem bitsAt_put {l : List Nat} {a : Nat} (h : l.length = a) (on : List Bool) (r : List Nat) : bitsAt (l ++ (packB on ++ r)) a on.length = on ∧ oddS (l ++ (packB on ++ r)) a on.length = false := by
  constructor
  · apply List.ext_getElem
    · rw [bitsAt_len]
    · intro i h1 hi
      simp only [bitsAt, List.getElem_map, List.getElem_range]
      rw [getD_app a _ h, packB_get (by omega), byteB_bit]
      have : ((on.drop (8 * (i / 8))).take 8).getD (i % 8) false = on[i] := by
        rw [List.getD_eq_getElem?_getD, List.getElem?_take_of_lt (by omega), List.getElem?_drop, show 8 * (i / 8) + i % 8 = i by omega, List.getElem?_eq_getElem hi]
        rfl
      rw [this]
      cases on[i] <;> simp
  · unfold oddS
    by_cases c : on.length % 8 = 0
    · simp [c]
    · rw [getD_app a _ h, packB_get (by omega)]
      have h1 := byteB_lt ((on.drop (8 * (on.length / 8))).take 8)
      have h2 : ((on.drop (8 * (on.length / 8))).take 8).length = on.length % 8 := by simp; omega
      rw [h2] at h1
      rw [Nat.div_eq_of_lt h1]
      simp
theorem numsAt_put {l : List Nat} {a : Nat} (h : l.length = a) (ps : List Int) (hps : ∀ p ∈ ps, 0 ≤ p ∧ p ≤ 65535) (r : List Nat) : numsAt (l ++ (ps.flatMap padB ++ r)) a ps.length = ps := by
  have key : ∀ i (hi : i < ps.length) j, j < 2 → (l ++ (ps.flatMap padB ++ r)).getD (a + 2 * i + j) 0 = (padB ps[i]).getD j 0 := fun i hi j hj => by
    rw [Nat.add_assoc, getD_app a _ h, flat_get padB_len ps r i j hi hj]
  apply List.ext_getElem
  · rw [numsAt_len]
  · intro i h1 hi
    have k0 := key i hi 0 (by omega)
    have k1 := key i hi 1 (by omega)
    have hb := hps ps[i] (List.getElem_mem hi)
    simp only [numsAt, List.getElem_map, List.getElem_range, num2]
    rw [Nat.add_zero] at k0
    rw [k0, k1]
    generalize ps[i] = x at hb
    simp only [padB, two, List.getD_cons_zero, List.getD_cons_succ]
    omega
/-- got, then put -/
theorem tiles_back {b : List Nat} (hb : ∀ x ∈ b, x < 256) {a n : Nat} (hl : a + 3 * n ≤ b.length) (ho : oddT b a n = false) : (tilesAt b a n).flatMap tileB = (b.drop a).take (3 * n) := by
  unfold tilesAt
  rw [List.flatMap_map]
  refine flat_of n fun i hi => ?_
  rw [List.drop_drop, take3 (by omega)]
  unfold oddT at ho
  rw [List.any_eq_false] at ho
  have h3 := ho i (List.mem_range.2 hi)
  simp only [decide_eq_true_eq] at h3
  have e := two_num2 hb (a + 3 * i)
  simp only [tileB, Int.toNat_natCast, e, flag, List.cons_append, List.nil_append, decide_eq_true_eq, List.cons.injEq, and_true, true_and]
  generalize b.getD (a + 3 * i + 2) 0 = x at h3
  split <;> split <;> omega
theorem nums_back {b : List Nat} (hb : ∀ x ∈ b, x < 256) {a n : Nat} (hl : a + 2 * n ≤ b.length) : (numsAt b a n).flatMap padB = (b.drop a).take (2 * n) := by
  unfold numsAt
  rw [List.flatMap_map]
  refine flat_of n fun i hi => ?_
  rw [List.drop_drop, take2 (by omega)]
  simp only [padB, Int.toNat_natCast, two_num2 hb]
theorem bits_back {b : List Nat} (hb : ∀ x ∈ b, x < 256) {a n : Nat} (hl : a + (n + 7) / 8 ≤ b.length) (ho : oddS b a n = false) : packB (bitsAt b a n) = (b.drop a).take ((n + 7) / 8) := by
  apply List.ext_getElem
  · rw [packB_len, bitsAt_len]; simp; omega
  · intro i h1 h2
    rw [packB_len, bitsAt_len] at h1
    simp only [packB, List.getElem_map, List.getElem_range, List.getElem_take, List.getElem_drop]
    obtain ⟨m, hm⟩ : ∃ m, min 8 (n - 8 * i) = m := ⟨_, rfl⟩
    have hgx : b.getD (a + i) 0 = b[a + i] := by simp [List.getD_eq_getElem?_getD, show a + i < b.length by omega]
    have e : ((bitsAt b a n).drop (8 * i)).take 8 = (List.range m).map fun k => decide (b[a + i] / 2 ^ k % 2 = 1) := by
      apply List.ext_getElem
      · simp [bitsAt]; omega
      · intro k k1 k2
        simp at k2
        simp only [bitsAt, List.getElem_take, List.getElem_drop, List.getElem_map, List.getElem_range]
        rw [show (8 * i + k) / 8 = i by omega, show (8 * i + k) % 8 = k by omega, hgx]
    rw [e]
    refine byteB_of m _ ?_
    have hx := hb b[a + i] (List.getElem_mem (by omega))
    by_cases c : 8 * i + 8 ≤ n
    · rw [show m = 8 by omega]; exact hx
    · have e1 : m = n % 8 := by omega
      have e2 : i = n / 8 := by omega
      unfold oddS at ho
      have c1 : n % 8 ≠ 0 := by omega
      rw [← e2, hgx] at ho
      simp [c1] at ho
      rw [e1]
      exact ho
/-! ### the whole -/
def nT (b : List Nat) : Nat := b.getD 4 0 * b.getD 5 0
def nI (b : List Nat) : Nat := num2 b 7
def nU (b : List Nat) : Nat := num2 b 9
def atS (b : List Nat) : Nat := 11 + 3 * nT b
def atP (b : List Nat) (n : Nat) : Nat := atS b + (n + 7) / 8
def sizeB (b : List Nat) (n : Nat) : Nat := atP b n + 2 * (nI b + nU b)
def decT (b : List Nat) : List TL := tilesAt b 11 (nT b)
def decO (b : List Nat) (n : Nat) : List Bool := bitsAt b (atS b) n
def decI (b : List Nat) (n : Nat) : List Int := numsAt b (atP b n) (nI b)
def decU (b : List Nat) (n : Nat) : List Int := numsAt b (atP b n + 2 * nI b) (nU b)
structure Small (W H T : Int) (tiles : List TL) (ins outs : List Int) : Prop where
  W0 : 0 ≤ W ∧ W ≤ 255
  H0 : 0 ≤ H ∧ H ≤ 255
  T0 : 0 ≤ T ∧ T ≤ 255
  nt : (tiles.length : Int) = W * H
  ts : ∀ t ∈ tiles, 0 ≤ t.1 ∧ t.1 ≤ 65535
  ni : ins.length < 65536
  nu : outs.length < 65536
  ps : ∀ p ∈ ins ++ outs, 0 ≤ p ∧ p ≤ 65535
theorem put_dec {W H T : Int} {tiles : List TL} {on : List Bool} {ins outs : List Int} (h : Small W H T tiles ins outs) {b : List Nat} (hb : putB W H T tiles on ins outs = b) :
    (b.getD 4 0 : Int) = W ∧ (b.getD 5 0 : Int) = H ∧ (b.getD 6 0 : Int) = T ∧ nT b = tiles.length ∧ nI b = ins.length ∧ nU b = outs.length ∧ sizeB b on.length = (bodyB W H T tiles on ins outs).length ∧ b.length = sizeB b on.length + 4 ∧
    b.take (sizeB b on.length) = bodyB W H T tiles on ins outs ∧ b.drop (sizeB b on.length) = four (sumB (bodyB W H T tiles on ins outs)) ∧
    decT b = tiles ∧ decO b on.length = on ∧ decI b on.length = ins ∧ decU b on.length = outs ∧ oddT b 11 (nT b) = false ∧ oddS b (atS b) on.length = false ∧ b.take 4 = [70, 71, 66, 49] := by
  obtain ⟨hW, hH, hT, hnt, hts, hni, hnu, hps⟩ := h
  have hlen := putB_len W H T tiles on ins outs
  rw [hb] at hlen
  have e0 : b = headB W H T ins.length outs.length ++ (tiles.flatMap tileB ++ (packB on ++ (ins.flatMap padB ++ (outs.flatMap padB ++ four (sumB (bodyB W H T tiles on ins outs)))))) := by
    rw [← hb]
    unfold putB
    generalize sumB (bodyB W H T tiles on ins outs) = s
    unfold bodyB
    simp only [List.append_assoc, List.flatMap_append]
  have eh : b.take 11 = headB W H T ins.length outs.length := by rw [e0, List.take_left' (headB_len ..)]
  have g : ∀ i, i < 11 → b.getD i 0 = (headB W H T ins.length outs.length).getD i 0 := fun i hi => by
    rw [← eh, List.getD_eq_getElem?_getD, List.getD_eq_getElem?_getD, List.getElem?_take_of_lt hi]
  have g4 := g 4 (by omega)
  have g5 := g 5 (by omega)
  have g6 := g 6 (by omega)
  have g7 := g 7 (by omega)
  have g8 := g 8 (by omega)
  have g9 := g 9 (by omega)
  have g10 := g 10 (by omega)
  simp only [headB, two, List.cons_append, List.nil_append, List.getD_cons_zero, List.getD_cons_succ] at g4 g5 g6 g7 g8 g9 g10
  have v4 : (b.getD 4 0 : Int) = W := by omega
  have v5 : (b.getD 5 0 : Int) = H := by omega
  have v6 : (b.getD 6 0 : Int) = T := by omega
  have vT : nT b = tiles.length := by unfold nT; rw [← v4, ← v5, ← Int.natCast_mul] at hnt; omega
  have vI : nI b = ins.length := by unfold nI num2; rw [g7, g8]; omega
  have vU : nU b = outs.length := by unfold nU num2; rw [g9, g10]; omega
  have vs : atS b = 11 + 3 * tiles.length := by unfold atS; rw [vT]
  have vp : atP b on.length = 11 + 3 * tiles.length + (on.length + 7) / 8 := by unfold atP; rw [vs]
  have vz : sizeB b on.length = (bodyB W H T tiles on ins outs).length := by unfold sizeB; rw [vp, vI, vU, bodyB_len]
  have l1 := headB_len W H T ins.length outs.length
  have l2 : (headB W H T ins.length outs.length ++ tiles.flatMap tileB).length = 11 + 3 * tiles.length := by rw [List.length_append, l1, flat_len tileB_len]
  have l3 : (headB W H T ins.length outs.length ++ tiles.flatMap tileB ++ packB on).length = 11 + 3 * tiles.length + (on.length + 7) / 8 := by rw [List.length_append, l2, packB_len]
  have l4 : (headB W H T ins.length outs.length ++ tiles.flatMap tileB ++ packB on ++ ins.flatMap padB).length = 11 + 3 * tiles.length + (on.length + 7) / 8 + 2 * ins.length := by rw [List.length_append, l3, flat_len padB_len]
  refine ⟨v4, v5, v6, vT, vI, vU, vz, ?_, ?_, ?_, ?_, ?_, ?_, ?_, ?_, ?_, ?_⟩
  · rw [vz, hlen, bodyB_len]; omega
  · rw [vz, ← hb]; unfold putB; rw [List.take_left' rfl]
  · rw [vz, ← hb]; unfold putB; rw [List.drop_left' rfl]
  · unfold decT; rw [vT]; conv => lhs; rw [e0]
    exact (tilesAt_put l1 tiles hts _).1
  · unfold decO; rw [vs]; conv => lhs; rw [e0, ← List.append_assoc]
    exact (bitsAt_put l2 on _).1
  · unfold decI; rw [vp, vI]; conv => lhs; rw [e0, ← List.append_assoc, ← List.append_assoc]
    exact numsAt_put l3 ins (fun p hp => hps p (by simp [hp])) _
  · unfold decU; rw [vp, vI, vU]; conv => lhs; rw [e0, ← List.append_assoc, ← List.append_assoc, ← List.append_assoc]
    exact numsAt_put l4 outs (fun p hp => hps p (by simp [hp])) _
  · rw [vT]; conv => lhs; rw [e0]
    exact (tilesAt_put l1 tiles hts _).2
  · rw [vs]; conv => lhs; rw [e0, ← List.append_assoc]
    exact (bitsAt_put l2 on _).2
  · have := congrArg (List.take 4) eh
    rw [List.take_take] at this
    simpa [headB, two] using this
theorem four_of {l : List Nat} (hl : l.length = 4) (h : ∀ x ∈ l, x < 256) (s : Nat) (e : l.getD 0 0 * 16777216 + l.getD 1 0 * 65536 + l.getD 2 0 * 256 + l.getD 3 0 = s) : four s = l := by
  rcases l with _ | ⟨a, _ | ⟨b, _ | ⟨c, _ | ⟨d, _ | ⟨x, l⟩⟩⟩⟩⟩
  all_goals try (simp only [List.length_nil, List.length_cons] at hl; omega)
  have h1 := h a (by simp)
  have h2 := h b (by simp)
  have h3 := h c (by simp)
  have h4 := h d (by simp)
  simp only [List.getD_cons_zero, List.getD_cons_succ] at e
  clear h hl
  unfold four
  rw [show s / 16777216 % 256 = a by omega, show s / 65536 % 256 = b by omega, show s / 256 % 256 = c by omega, show s % 256 = d by omega]
/-- WHAT IS GOT WAS PUT -/
theorem dec_put {b : List Nat} (hb : ∀ x ∈ b, x < 256) {n : Nat} (hl : b.length = sizeB b n + 4) (hm : b.take 4 = [70, 71, 66, 49]) (hs : b.drop (sizeB b n) = four (sumB (b.take (sizeB b n)))) (h1 : oddT b 11 (nT b) = false) (h2 : oddS b (atS b) n = false) :
    putB (b.getD 4 0 : Nat) (b.getD 5 0 : Nat) (b.getD 6 0 : Nat) (decT b) (decO b n) (decI b n) (decU b n) = b := by
  have hz : sizeB b n = 11 + 3 * nT b + (n + 7) / 8 + 2 * (nI b + nU b) := rfl
  have hh : headB (b.getD 4 0 : Nat) (b.getD 5 0 : Nat) (b.getD 6 0 : Nat) (decI b n).length (decU b n).length = b.take 11 := by
    unfold headB decI decU
    rw [numsAt_len, numsAt_len]
    unfold nI nU
    rw [two_num2 hb, two_num2 hb]
    have e : b.take 11 = b.take 4 ++ (b.drop 4).take 3 ++ (b.drop 7).take 2 ++ (b.drop 9).take 2 := by
      have a1 : b.take 11 = b.take (4 + 3 + 2 + 2) := rfl
      rw [a1, List.take_add, List.take_add, List.take_add]
    rw [e, hm, take3 (by omega), take2 (by omega), take2 (by omega)]
    simp
  have hbody : bodyB (b.getD 4 0 : Nat) (b.getD 5 0 : Nat) (b.getD 6 0 : Nat) (decT b) (decO b n) (decI b n) (decU b n) = b.take (sizeB b n) := by
    unfold bodyB
    rw [hh, List.flatMap_append]
    unfold decT decO decI decU
    rw [tiles_back hb (by omega) h1, bits_back hb (by unfold atS; omega) h2, nums_back hb (by unfold atP atS; omega), nums_back hb (by unfold atP atS; omega), hz]
    have a1 : 11 + 3 * nT b + (n + 7) / 8 + 2 * (nI b + nU b) = 11 + 3 * nT b + (n + 7) / 8 + 2 * nI b + 2 * nU b := by omega
    rw [a1, List.take_add, List.take_add, List.take_add, List.take_add]
    simp only [atP, atS, List.append_assoc]
  unfold putB
  rw [hbody, ← hs, List.take_append_drop]
end Go.Proofs.YtoloaecbfglaeaaGreat
