/- One switch more: which nodes are joined then, and who drives them. Plain, no program here. · One switch more, of a configuration. Plain, no program here. · One switch turned on, in memory: what the world is then. · Labels that go down till nothing turns: the document's way to what is joined. Plain, no program here. -/
import Derived.Test.YtoloaecbfglaeaaGreatDrv
import Derived.Test.YtoloaecbfglaeaaGreatBchk

namespace Go.Proofs.YtoloaecbfglaeaaGreat
open Go.RowKit
set_option linter.unusedVariables false
set_option linter.unusedSimpArgs false

/-- joined by switches that are on, among the first k -/
inductive Lk (E : List (Int × Int)) (on : List Bool) (k : Nat) : Nat → Nat → Prop
  | refl (i : Nat) : Lk E on k i i
  | symm {i j : Nat} : Lk E on k i j → Lk E on k j i
  | trans {i j l : Nat} : Lk E on k i j → Lk E on k j l → Lk E on k i l
  | step {q : Nat} (hq : q < k) (ho : on.getD q false = true) : Lk E on k (E[q]!).1.toNat (E[q]!).2.toNat
theorem Lk.more {E : List (Int × Int)} {on on' : List Bool} {k k' : Nat} (hk : k ≤ k') (ho : ∀ q, q < k → on.getD q false = true → on'.getD q false = true) {i j : Nat} (h : Lk E on k i j) : Lk E on' k' i j := by
  induction h with
  | refl i => exact .refl i
  | symm _ ih => exact .symm ih
  | trans _ _ h1 h2 => exact .trans h1 h2
  | step hq hb => exact .step (by omega) (ho _ hq hb)
theorem joinR_eq {f : Nat → Nat} {x y i j : Nat} (h : joinR f x y i = joinR f x y j) : f i = f j ∨ ((f i = f x ∨ f i = f y) ∧ (f j = f x ∨ f j = f y)) := by
  unfold joinR at h
  split at h <;> split at h <;> omega
theorem joinAll_lk (E : List (Int × Int)) (on : List Bool) : ∀ (k i j : Nat), joinAll E on k i = joinAll E on k j → Lk E on k i j
  | 0, i, j, h => by simp only [joinAll] at h; subst h; exact .refl i
  | k + 1, i, j, h => by
    have up : ∀ {a b : Nat}, Lk E on k a b → Lk E on (k + 1) a b := fun h => h.more (by omega) (fun _ _ h => h)
    simp only [joinAll] at h
    split at h
    · rename_i ho
      have hxy : Lk E on (k + 1) (E[k]!).1.toNat (E[k]!).2.toNat := .step (by omega) ho
      rcases joinR_eq h with e | ⟨e1, e2⟩
      · exact up (joinAll_lk E on k i j e)
      · have a1 : Lk E on (k + 1) i (E[k]!).1.toNat := by
          rcases e1 with e | e
          · exact up (joinAll_lk E on k _ _ e)
          · exact .trans (up (joinAll_lk E on k _ _ e)) hxy.symm
        have a2 : Lk E on (k + 1) j (E[k]!).1.toNat := by
          rcases e2 with e | e
          · exact up (joinAll_lk E on k _ _ e)
          · exact .trans (up (joinAll_lk E on k _ _ e)) hxy.symm
        exact a1.trans a2.symm
    · exact up (joinAll_lk E on k i j h)
theorem lk_joinAll {E : List (Int × Int)} {on : List Bool} {k i j : Nat} (h : Lk E on k i j) : joinAll E on k i = joinAll E on k j := by
  induction h with
  | refl i => rfl
  | symm _ ih => exact ih.symm
  | trans _ _ h1 h2 => exact h1.trans h2
  | step hq ho => exact joinAll_on E on k _ hq ho
theorem ends_eq {f g : Nat → Nat} (hf : Ends f) (hg : Ends g) (h : ∀ i j, f i = f j ↔ g i = g j) (i : Nat) : f i = g i := by
  have h1 : g (f i) = g i := (h _ _).1 (hf.same i)
  have h2 : f (g i) = f i := (h _ _).2 (hg.same i)
  have h3 := hg.le (f i)
  have h4 := hf.le (g i)
  omega
/-- one switch more -/
theorem joinAll_more (E : List (Int × Int)) (on : List Bool) (k q : Nat) (hq : q < k) (hl : q < on.length) (i : Nat) :
    joinAll E (on.set q true) k i = joinR (joinAll E on k) (E[q]!).1.toNat (E[q]!).2.toNat i := by
  have hset : ∀ p, (on.set q true).getD p false = if q = p then true else on.getD p false := fun p => getD_setB on q p hl true
  refine ends_eq (joinAll_ends E _ k) ((joinAll_ends E on k).join _ _) (fun i j => ⟨fun h => ?_, fun h => ?_⟩) i
  · have hl := joinAll_lk E _ k i j h
    clear h
    induction hl with
    | refl i => rfl
    | symm _ ih => exact ih.symm
    | trans _ _ h1 h2 => exact h1.trans h2
    | @step p hp ho =>
      rw [hset] at ho
      by_cases e : q = p
      · subst e; exact joinR_same _ _ _
      · rw [if_neg e] at ho
        exact joinR_keeps (joinAll_on E on k p hp ho) _ _
  · have up : ∀ {a b : Nat}, joinAll E on k a = joinAll E on k b → Lk E (on.set q true) k a b := fun h =>
      (joinAll_lk E on k _ _ h).more (Nat.le_refl _) (fun p _ hp => by rw [hset]; split <;> first | rfl | exact hp)
    have hxy : Lk E (on.set q true) k (E[q]!).1.toNat (E[q]!).2.toNat := .step hq (by rw [hset, if_pos rfl])
    apply lk_joinAll
    rcases joinR_eq h with e | ⟨e1, e2⟩
    · exact up e
    · have a1 : Lk E (on.set q true) k i (E[q]!).1.toNat := by
        rcases e1 with e | e
        · exact up e
        · exact .trans (up e) hxy.symm
      have a2 : Lk E (on.set q true) k j (E[q]!).1.toNat := by
        rcases e2 with e | e
        · exact up e
        · exact .trans (up e) hxy.symm
      exact a1.trans a2.symm

/-! ### who drives -/
theorem whoseOf_some {l : List Nat} {n w : Nat} (hd : l.Nodup) (h : l[w]? = some n) : whoseOf l n = (w : Int) := by
  have hw := (List.getElem?_eq_some_iff.1 h).1
  have e := (List.getElem?_eq_some_iff.1 h).2
  have : l.findIdx? (· == n) = some w := by
    rw [List.findIdx?_eq_some_iff_getElem]
    refine ⟨hw, by simp [e], fun j hj => ?_⟩
    have hne : l[j] ≠ l[w] := List.pairwise_iff_getElem.1 hd j w (by omega) hw hj
    rw [e] at hne
    simpa using hne
  unfold whoseOf
  rw [this]
theorem whoseOf_none {l : List Nat} {n : Nat} (h : ¬ n ∈ l) : whoseOf l n = -1 := by
  have : l.findIdx? (· == n) = none := by
    rw [List.findIdx?_eq_none_iff]
    intro x hx
    simp only [beq_eq_false_iff_ne]
    rintro rfl
    exact h hx
  unfold whoseOf
  rw [this]
theorem whoseOf_cases (l : List Nat) (n : Nat) : (whoseOf l n = -1 ∧ ¬ n ∈ l) ∨ ∃ w : Nat, whoseOf l n = (w : Int) ∧ l[w]? = some n := by
  unfold whoseOf
  cases h : l.findIdx? (· == n) with
  | none =>
    refine .inl ⟨rfl, fun hm => ?_⟩
    rw [List.findIdx?_eq_none_iff] at h
    have := h n hm
    simp at this
  | some w =>
    rw [List.findIdx?_eq_some_iff_getElem] at h
    obtain ⟨hw, he, -⟩ := h
    exact .inr ⟨w, rfl, by rw [List.getElem?_eq_getElem hw]; simpa using he⟩
/-- two labels made one -/
def mg (p q : Nat) : Nat → Nat := fun n => if n = max p q then min p q else n
theorem mg_eq {p q m n : Nat} (h : mg p q m = mg p q n) : m = n ∨ ((m = p ∧ n = q) ∨ (m = q ∧ n = p)) := by
  unfold mg at h
  split at h <;> split at h <;> omega
theorem mg_left (p q : Nat) : mg p q p = min p q := by unfold mg; split <;> omega
theorem mg_right (p q : Nat) : mg p q q = min p q := by unfold mg; split <;> omega
theorem short_yes {l : List Nat} {p q : Nat} (ha : 0 ≤ whoseOf l p) (hb : 0 ≤ whoseOf l q) (hne : whoseOf l p ≠ whoseOf l q) : ¬ (l.map (mg p q)).Nodup := by
  rcases whoseOf_cases l p with ⟨e, -⟩ | ⟨a, ea, ha'⟩
  · omega
  · rcases whoseOf_cases l q with ⟨e, -⟩ | ⟨b, eb, hb'⟩
    · omega
    · intro hd
      have hab : a ≠ b := by rintro rfl; exact hne (ea.trans eb.symm)
      have h1 : (l.map (mg p q))[a]? = some (min p q) := by rw [List.getElem?_map, ha']; simp [mg_left]
      have h2 : (l.map (mg p q))[b]? = some (min p q) := by rw [List.getElem?_map, hb']; simp [mg_right]
      have w1 := whoseOf_some hd h1
      have w2 := whoseOf_some hd h2
      rw [w1] at w2
      omega
theorem short_no {l : List Nat} {p q : Nat} (hd : l.Nodup) (h : ¬ (0 ≤ whoseOf l p ∧ 0 ≤ whoseOf l q ∧ whoseOf l p ≠ whoseOf l q)) :
    (l.map (mg p q)).Nodup ∧ whoseOf (l.map (mg p q)) (min p q) = max (whoseOf l p) (whoseOf l q) := by
  have hnd : (l.map (mg p q)).Nodup := by
    rw [List.Nodup, List.pairwise_map, List.pairwise_iff_getElem]
    intro i j hi hj hij he
    rcases mg_eq he with e | ⟨e1, e2⟩ | ⟨e1, e2⟩
    · exact List.pairwise_iff_getElem.1 hd i j hi hj hij e
    · have w1 := whoseOf_some hd (w := i) (n := p) (by rw [List.getElem?_eq_getElem hi, e1])
      have w2 := whoseOf_some hd (w := j) (n := q) (by rw [List.getElem?_eq_getElem hj, e2])
      exact h ⟨by omega, by omega, by omega⟩
    · have w1 := whoseOf_some hd (w := i) (n := q) (by rw [List.getElem?_eq_getElem hi, e1])
      have w2 := whoseOf_some hd (w := j) (n := p) (by rw [List.getElem?_eq_getElem hj, e2])
      exact h ⟨by omega, by omega, by omega⟩
  refine ⟨hnd, ?_⟩
  rcases whoseOf_cases l p with ⟨ea, ha⟩ | ⟨a, ea, ha⟩
  · rcases whoseOf_cases l q with ⟨eb, hb⟩ | ⟨b, eb, hb⟩
    · rw [ea, eb, whoseOf_none]
      · rfl
      · intro hm
        obtain ⟨x, hx, he⟩ := List.mem_map.1 hm
        rw [← mg_left p q] at he
        rcases mg_eq he with e | ⟨e1, e2⟩ | ⟨e1, e2⟩
        · subst e; exact ha hx
        · subst e1; exact ha hx
        · subst e1; exact hb hx
    · rw [whoseOf_some hnd (w := b) (n := min p q) (by rw [List.getElem?_map, hb]; simp [mg_right]), ea, eb]
      omega
  · rcases whoseOf_cases l q with ⟨eb, hb⟩ | ⟨b, eb, hb⟩
    · rw [whoseOf_some hnd (w := a) (n := min p q) (by rw [List.getElem?_map, ha]; simp [mg_left]), ea, eb]
      omega
    · rw [whoseOf_some hnd (w := a) (n := min p q) (by rw [List.getElem?_map, ha]; simp [mg_left]), ea, eb]
      omega
end Go.Proofs.YtoloaecbfglaeaaGreat

namespace Go.Proofs.YtoloaecbfglaeaaGreat
open Go.RowKit
set_option linter.unusedVariables false
set_option linter.unusedSimpArgs false

/-- the configuration with one switch turned on, its list in new memory -/
def turned (C : Cfg) (A : Option Addr) (c q : Nat) : Cfg := { C with AO := A, cO := c, on := C.on.set q true }
theorem turned_ok {C : Cfg} (h : C.ok) (A : Option Addr) (c q : Nat) : (turned C A c q).ok :=
  ⟨h.1, h.2.1, h.2.2.1, by simpa [turned] using h.2.2.2.1, h.2.2.2.2⟩
theorem turned_few {C : Cfg} (h : C.few) (A : Option Addr) (c q : Nat) : (turned C A c q).few := by
  unfold Cfg.few at *
  simpa [turned] using h
theorem turned_joined {C : Cfg} (A : Option Addr) (c : Nat) {q : Nat} (hq : q < (edgesL C.W C.H C.T).length) (hl : q < C.on.length) (i : Nat) :
    joinedR (turned C A c q) i = mg (joinedR C ((edgesL C.W C.H C.T)[q]!).1.toNat) (joinedR C ((edgesL C.W C.H C.T)[q]!).2.toNat) (joinedR C i) :=
  joinAll_more (edgesL C.W C.H C.T) C.on _ q hq hl i
theorem jl_get (C : Cfg) {i : Nat} (h : i < (nodesI C.W C.H C.T).toNat) : (joinedL C).getD i 0 = joinedR C i := by
  simp [joinedL, List.getD_eq_getElem?_getD, List.getElem?_range h]
theorem dl_get (C : Cfg) {i : Nat} (h : i < (nodesI C.W C.H C.T).toNat) : (driversL C).getD i 0 = whoseOf (labs C) (joinedR C i) := by
  simp [driversL, joinedL, List.getD_eq_getElem?_getD, List.getElem?_range h]
theorem turned_labs {C : Cfg} (h : C.ok) (A : Option Addr) (c : Nat) {q : Nat} (hq : q < (edgesL C.W C.H C.T).length) (hl : q < C.on.length) :
    labs (turned C A c q) = (labs C).map (mg (joinedR C ((edgesL C.W C.H C.T)[q]!).1.toNat) (joinedR C ((edgesL C.W C.H C.T)[q]!).2.toNat)) := by
  unfold labs
  rw [List.map_map]
  apply List.map_congr_left
  intro n hn
  have hb := ends_in h (n := n) hn
  have e1 : n.toNat < (nodesI C.W C.H C.T).toNat := by omega
  simp only [Function.comp]
  rw [jl_get C e1, jl_get (turned C A c q) e1, turned_joined A c hq hl]
/-- THE LAW: what Drivers tells then -/
theorem turned_tells {C : Cfg} (h : C.ok) (A : Option Addr) (c : Nat) {q x y : Nat} (hl : q < C.on.length) (hx : ((edgesL C.W C.H C.T)[q]!).1 = (x : Int)) (hy : ((edgesL C.W C.H C.T)[q]!).2 = (y : Int)) (hnd : (labs C).Nodup) {a b : Int} (ha : (driversL C).getD x 0 = a) (hb : (driversL C).getD y 0 = b) (hxN : (x : Int) < nodesI C.W C.H C.T) (hyN : (y : Int) < nodesI C.W C.H C.T) :
    (0 ≤ a → 0 ≤ b → a ≠ b → ¬ (labs (turned C A c q)).Nodup) ∧
    (¬ (0 ≤ a ∧ 0 ≤ b ∧ a ≠ b) → (labs (turned C A c q)).Nodup ∧ (driversL (turned C A c q)).getD x 0 = max a b ∧ (driversL (turned C A c q)).getD y 0 = max a b) := by
  have hq : q < (edgesL C.W C.H C.T).length := by rw [← h.2.2.2.1]; exact hl
  have hlab := turned_labs h A c hq hl
  have hjx := turned_joined (C := C) A c hq hl x
  have hjy := turned_joined (C := C) A c hq hl y
  rw [hx, hy, Int.toNat_natCast, Int.toNat_natCast] at hlab hjx hjy
  rw [mg_left] at hjx
  rw [mg_right] at hjy
  have hxn : x < (nodesI C.W C.H C.T).toNat := by omega
  have hyn : y < (nodesI C.W C.H C.T).toNat := by omega
  rw [dl_get C hxn] at ha
  rw [dl_get C hyn] at hb
  subst ha hb
  refine ⟨fun h1 h2 h3 => ?_, fun hno => ?_⟩
  · rw [hlab]; exact short_yes h1 h2 h3
  · obtain ⟨n1, n2⟩ := short_no hnd hno
    rw [dl_get (turned C A c q) hxn, dl_get (turned C A c q) hyn, hjx, hjy, hlab]
    exact ⟨n1, n2, n2⟩
end Go.Proofs.YtoloaecbfglaeaaGreat

namespace Go.Proofs.YtoloaecbfglaeaaGreat
open Go.RowKit
set_option linter.unusedVariables false
set_option linter.unusedSimpArgs false

theorem own_apart {w : World} {base : Nat} {e : TypeId} {size n : Nat} {v : Value} {xs : List Value} (h : w.ownsRow base e size v n xs) {p : Addr} (hp : v.ownBlock ≠ some p.block) (u : Value) : (w.setCell p u).ownsRow base e size v n xs := by
  rcases h with ⟨h1, h2⟩
  refine ⟨h1, ?_⟩
  rcases h2 with h2 | ⟨g', cap, cur, hv, hg, hh, hr⟩
  · exact .inl h2
  · refine .inr ⟨g', cap, cur, hv, hg, ?_, hr⟩
    subst hv
    rw [Below.heap_setCell w p u g' (fun e => hp (by simp [Value.ownBlock, e]))]
    exact hh
/-- the cells of a configuration in a block of its own -/
abbrev cfgV (C : Cfg) : Array Value := #[.int .i64 C.W, .int .i64 C.H, .int .i64 C.T, .slice C.AT C.tiles.length C.cT, .slice C.AO C.on.length C.cO, .slice C.AI C.ins.length C.cI, .slice C.AU C.outs.length C.cU]
/-- the world behind 'on[at] = true; c.On = on' -/
def turnW (w6 : World) (B g6 q n c6 : Nat) : World := (w6.setCell ⟨g6, q, none⟩ (.bool true)).setCell ⟨B, 4, none⟩ (.slice (some ⟨g6, 0, none⟩) n c6)
section
variable {w w5 w6 : World} {C : Cfg} {g6 c6 q : Nat}
theorem turn_own (h5 : w.heap.size < w5.heap.size) (K5 : Blk w5 w.heap.size 28 (cfgV C)) (b6 : Below w5.heap.size w5 w6) (hg : w5.heap.size ≤ g6) (n : Nat)
    {base : Nat} {e : TypeId} {size k : Nat} {v : Value} {xs : List Value} (h : w5.ownsRow base e size v k xs) (he : e ≠ 28) : (turnW w6 w.heap.size g6 q n c6).ownsRow base e size v k xs := by
  unfold turnW
  refine own_apart (own_apart (own_keep h b6) (fun e' => ?_) _) (fun e' => ?_) _
  · rcases h.2 with ⟨hv, _⟩ | ⟨g', cap, cur, hv, hb, hh, _⟩
    · rw [hv] at e'; simp [Value.ownBlock] at e'
    · rw [hv] at e'; simp [Value.ownBlock] at e'; have := lt_of_block hh; omega
  · exact own_other h K5 he e'
theorem turn_below (Q5 : Below w.heap.size w w5) (h5 : w.heap.size < w5.heap.size) (b6 : Below w5.heap.size w5 w6) (hg : w5.heap.size ≤ g6) (n : Nat) : Below w.heap.size w (turnW w6 w.heap.size g6 q n c6) := by
  unfold turnW
  exact ((below_then Q5 b6).setCell (by simp; omega) _).setCell (by simp) _
theorem turn_box (h5 : w.heap.size < w5.heap.size) (K5 : Blk w5 w.heap.size 28 (cfgV C)) (b6 : Below w5.heap.size w5 w6) (hg : w5.heap.size ≤ g6) : Blk (turnW w6 w.heap.size g6 q C.on.length c6) w.heap.size 28 (cfgV (turned C (some ⟨g6, 0, none⟩) c6 q)) := by
  have h1 : Blk (w6.setCell ⟨g6, q, none⟩ (.bool true)) w.heap.size 28 (cfgV C) := (K5.keep b6).apart (by simp; omega) _
  have h2 := h1.put 4 (.slice (some ⟨g6, 0, none⟩) C.on.length c6)
  unfold turnW
  have e : (cfgV C).setIfInBounds 4 (.slice (some ⟨g6, 0, none⟩) C.on.length c6) = cfgV (turned C (some ⟨g6, 0, none⟩) c6 q) := by
    simp [cfgV, turned]
  rw [← e]
  exact h2
theorem turn_in (hin : C.In w) (Q5 : Below w.heap.size w w5) (h5 : w.heap.size < w5.heap.size) (b6 : Below w5.heap.size w5 w6) (hown : w6.ownsRow w5.heap.size 4 1 (.slice (some ⟨g6, 0, none⟩) C.on.length c6) C.on.length (bools C.on)) (hg : w5.heap.size ≤ g6) : (turned C (some ⟨g6, 0, none⟩) c6 q).In (turnW w6 w.heap.size g6 q C.on.length c6) := by
  have hb := turn_below (q := q) (c6 := c6) Q5 h5 b6 hg C.on.length
  refine ⟨hin.tiles.later hb, ?_, hin.ins.later hb, hin.outs.later hb⟩
  have h1 := (hown.stored q (.bool true)).1
  rw [bools_set] at h1
  have h2 := own_apart h1 (p := ⟨w.heap.size, 4, none⟩) (by simp [Value.ownBlock]; omega) (.slice (some ⟨g6, 0, none⟩) C.on.length c6)
  have h3 := Rd.of_own h2
  simpa [turned, turnW] using h3
end
end Go.Proofs.YtoloaecbfglaeaaGreat

namespace Go.Proofs.YtoloaecbfglaeaaGreat
open Go.RowKit
set_option linter.unusedVariables false
set_option linter.unusedSimpArgs false

/-- what the labels are good for at any time -/
structure Lab (E : List (Int × Int)) (on : List Bool) (N : Nat) (S : List Nat) : Prop where
  len : S.length = N
  le : ∀ i, i < N → S.getD i 0 ≤ i
  lk : ∀ i, i < N → Lk E on E.length i (S.getD i 0)
/-- within a round: so many switches are gone through -/
structure LabGo (E : List (Int × Int)) (on : List Bool) (N F : Nat) (S : List Nat) (c : Bool) (k : Nat) : Prop where
  lab : Lab E on N S
  le : S.sum ≤ F
  lt : c = true → S.sum < F
  even : c = false → ∀ j, j < k → on.getD j false = true → S.getD (E[j]!).1.toNat 0 = S.getD (E[j]!).2.toNat 0
theorem sum_set : ∀ (l : List Nat) (i v : Nat), i < l.length → (l.set i v).sum + l.getD i 0 = l.sum + v
  | [], i, v, h => by simp at h
  | a :: l, 0, v, h => by simp; omega
  | a :: l, i + 1, v, h => by
    have := sum_set l i v (by simpa using h)
    simp only [List.set_cons_succ, List.sum_cons, List.getD_cons_succ]
    omega
section
variable {E : List (Int × Int)} {on : List Bool} {N F : Nat} {S : List Nat} {c : Bool} {k : Nat}
theorem Lab.start (E : List (Int × Int)) (on : List Bool) (N : Nat) : Lab E on N (List.range N) := by
  have g : ∀ i, i < N → (List.range N).getD i 0 = i := fun i hi => by simp [List.getD_eq_getElem?_getD, List.getElem?_range hi]
  exact ⟨by simp, fun i hi => by rw [g i hi]; exact Nat.le_refl _, fun i hi => by rw [g i hi]; exact .refl i⟩
theorem LabGo.start (h : Lab E on N S) : LabGo E on N S.sum S false 0 := ⟨h, Nat.le_refl _, fun h => by simp at h, fun _ j hj => by omega⟩
theorem LabGo.skip (h : LabGo E on N F S c k) (he : on.getD k false = true → S.getD (E[k]!).1.toNat 0 = S.getD (E[k]!).2.toNat 0) : LabGo E on N F S c (k + 1) :=
  ⟨h.lab, h.le, h.lt, fun hc j hj => by
    by_cases e : j = k
    · subst e; exact he
    · exact h.even hc j (by omega)⟩
theorem LabGo.step (h : LabGo E on N F S c k) (hk : k < E.length) (ho : on.getD k false = true) {a b : Nat} (ha : (E[k]!).1 = (a : Int)) (hb : (E[k]!).2 = (b : Int)) (haN : a < N) (hbN : b < N) (hne : S.getD a 0 ≠ S.getD b 0) :
    LabGo E on N F ((S.set a (min (S.getD a 0) (S.getD b 0))).set b (min (S.getD a 0) (S.getD b 0))) true (k + 1) := by
  have hl := h.lab.len
  have hab : a ≠ b := by rintro rfl; exact hne rfl
  have hm : min (S.getD a 0) (S.getD b 0) ≤ S.getD a 0 ∧ min (S.getD a 0) (S.getD b 0) ≤ S.getD b 0 := ⟨Nat.min_le_left _ _, Nat.min_le_right _ _⟩
  have hm2 : min (S.getD a 0) (S.getD b 0) = S.getD a 0 ∨ min (S.getD a 0) (S.getD b 0) = S.getD b 0 := by omega
  have hlt : min (S.getD a 0) (S.getD b 0) < S.getD a 0 ∨ min (S.getD a 0) (S.getD b 0) < S.getD b 0 := by omega
  have hst : Lk E on E.length a b := by
    have := Lk.step (E := E) (on := on) hk ho
    rw [ha, hb] at this
    exact this
  have la := h.lab.lk a haN
  have lb := h.lab.lk b hbN
  have hla : Lk E on E.length a (min (S.getD a 0) (S.getD b 0)) := by
    rcases hm2 with e | e <;> rw [e]
    · exact la
    · exact hst.trans lb
  have hlb : Lk E on E.length b (min (S.getD a 0) (S.getD b 0)) := hst.symm.trans hla
  generalize min (S.getD a 0) (S.getD b 0) = m at hm hm2 hlt hla hlb
  have s1 := sum_set S a m (by omega)
  have s2 := sum_set (S.set a m) b m (by simp; omega)
  have g1 : (S.set a m).getD b 0 = S.getD b 0 := by rw [getD_setN S a b (by omega), if_neg hab]
  rw [g1] at s2
  have hs : ((S.set a m).set b m).sum < S.sum := by omega
  have g : ∀ i, ((S.set a m).set b m).getD i 0 = if b = i then m else if a = i then m else S.getD i 0 := fun i => by
    rw [getD_setN _ b i (by simp; omega), getD_setN _ a i (by omega)]
  refine ⟨⟨by simp [hl], fun i hi => ?_, fun i hi => ?_⟩, by have := h.le; omega, fun _ => by have := h.le; omega, fun h => by simp at h⟩
  · rw [g i]
    have h1 := h.lab.le i hi
    split
    · rename_i e; subst e; omega
    · split
      · rename_i e; subst e; omega
      · exact h1
  · rw [g i]
    split
    · rename_i e; subst e; exact hlb
    · split
      · rename_i e; subst e; exact hla
      · exact h.lab.lk i hi
/-- THE LAW: at the end each label is the least node that its node is joined to -/
theorem LabGo.all (h : LabGo E on N F S false k) (hk : k = E.length) (i : Nat) (hi : i < N) : S.getD i 0 = joinAll E on E.length i := by
  have hc : ∀ {i j : Nat}, Lk E on E.length i j → S.getD i 0 = S.getD j 0 := by
    intro i j hl
    induction hl with
    | refl i => rfl
    | symm _ ih => exact ih.symm
    | trans _ _ h1 h2 => exact h1.trans h2
    | step hq ho => exact h.even rfl _ (by omega) ho
  have he := joinAll_ends E on E.length
  have h1 : joinAll E on E.length i ≤ i := he.le i
  have l1 : Lk E on E.length i (joinAll E on E.length i) := joinAll_lk E on E.length _ _ (he.same i).symm
  have e1 := hc l1
  have e2 := h.lab.le (joinAll E on E.length i) (by omega)
  have l2 := lk_joinAll (h.lab.lk i hi)
  have e3 := he.le (S.getD i 0)
  omega
theorem LabGo.list (h : LabGo E on N F S false k) (hk : k = E.length) : S = (List.range N).map (joinAll E on E.length) := by
  have hl := h.lab.len
  apply List.ext_getElem?
  intro i
  by_cases hi : i < N
  · have := h.all hk i hi
    rw [List.getD_eq_getElem?_getD, List.getElem?_eq_getElem (by omega)] at this
    simp only [Option.getD_some] at this
    rw [List.getElem?_eq_getElem (by omega), List.getElem?_map, List.getElem?_range hi]
    simp [this]
  · rw [List.getElem?_eq_none (by omega), List.getElem?_eq_none (by simp; omega)]
end
end Go.Proofs.YtoloaecbfglaeaaGreat
