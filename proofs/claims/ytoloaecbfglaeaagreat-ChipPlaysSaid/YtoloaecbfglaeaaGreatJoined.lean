/- Sets of nodes, each leading to a lesser one of its set: plain, no program here. · Walks of filigree/chip's sets: least, join. · Walk of filigree/chip.Joined: which nodes are joined. -/
import Derived.Test.YtoloaecbfglaeaaGreatBase
import Derived.Test.YtoloaecbfglaeaaGreatEdE
import Derived.Deep.LoopGhost
import Derived.Test.YtoloaecbfglaeaaGreatBchk
import Derived.Test.YtoloaecbfglaeaaGreatFabS

namespace Go.Proofs.YtoloaecbfglaeaaGreat
set_option linter.unusedVariables false
set_option linter.unusedSimpArgs false

/-- each node leads to none greater -/
def Down (S : List Nat) : Prop := ∀ i, i < S.length → S.getD i 0 ≤ i
/-- where a node leads in the end -/
def rootF (S : List Nat) : Nat → Nat → Nat
  | 0, n => n
  | k + 1, n => if S.getD n 0 < n then rootF S k (S.getD n 0) else n
def root (S : List Nat) (n : Nat) : Nat := rootF S n n
theorem rootF_more (S : List Nat) : ∀ (k n : Nat), n ≤ k → rootF S k n = root S n := by
  intro k n
  unfold root
  induction n using Nat.strongRecOn generalizing k with
  | _ n ih =>
    intro hk
    cases n with
    | zero => cases k <;> simp [rootF]
    | succ n =>
      cases k with
      | zero => omega
      | succ k =>
        simp only [rootF]
        split
        · rename_i h
          rw [ih _ h k (by omega), ih _ h n (by omega)]
        · rfl
theorem root_step {S : List Nat} {n : Nat} (h : S.getD n 0 < n) : root S n = root S (S.getD n 0) := by
  cases n with
  | zero => omega
  | succ n =>
    conv => lhs; unfold root; simp only [rootF]
    rw [if_pos h, rootF_more S n _ (by omega)]
theorem root_stop {S : List Nat} {n : Nat} (h : ¬ S.getD n 0 < n) : root S n = n := by
  cases n with
  | zero => rfl
  | succ n => unfold root; simp only [rootF]; rw [if_neg h]
theorem root_to {S : List Nat} (hd : Down S) {n : Nat} (hn : n < S.length) : root S n = root S (S.getD n 0) := by
  by_cases h : S.getD n 0 < n
  · exact root_step h
  · have := hd n hn
    have e : S.getD n 0 = n := by omega
    rw [e]
theorem root_le (S : List Nat) (n : Nat) : root S n ≤ n := by
  induction n using Nat.strongRecOn with
  | _ n ih =>
    by_cases h : S.getD n 0 < n
    · rw [root_step h]; have := ih _ h; omega
    · rw [root_stop h]; exact Nat.le_refl _
theorem root_end {S : List Nat} (hd : Down S) (n : Nat) (hn : n < S.length) : S.getD (root S n) 0 = root S n := by
  induction n using Nat.strongRecOn with
  | _ n ih =>
    by_cases h : S.getD n 0 < n
    · rw [root_step h]; exact ih _ h (by omega)
    · rw [root_stop h]; have := hd n hn; omega
theorem root_of_end {S : List Nat} {n : Nat} (h : S.getD n 0 = n) : root S n = n := root_stop (by omega)
theorem getD_setN (l : List Nat) (i j : Nat) (h : i < l.length) (b : Nat) : (l.set i b).getD j 0 = if i = j then b else l.getD j 0 := by
  simp only [List.getD_eq_getElem?_getD, List.getElem?_set]
  by_cases e : i = j
  · subst e; simp [h]
  · simp [e]
theorem Down.set {S : List Nat} (hd : Down S) {n v : Nat} (hn : n < S.length) (hv : v ≤ n) : Down (S.set n v) := by
  intro i hi
  rw [getD_setN S n i hn]
  split
  · omega
  · exact hd i (by simpa using hi)
/-- a node that is led further down its own way: nothing turns -/
theorem root_set {S : List Nat} (hd : Down S) {n v : Nat} (hn : n < S.length) (hv : v < n) (he : root S v = root S n) (i : Nat) (hi : i < S.length) : root (S.set n v) i = root S i := by
  induction i using Nat.strongRecOn with
  | _ i ih =>
    by_cases e : n = i
    · subst e
      have g : (S.set n v).getD n 0 = v := by rw [getD_setN S n n hn, if_pos rfl]
      rw [root_step (by omega), g, ih v hv (by omega), he]
    · have g : (S.set n v).getD i 0 = S.getD i 0 := by rw [getD_setN S n i hn, if_neg e]
      by_cases h : S.getD i 0 < i
      · rw [root_step (by omega), g, ih _ h (by omega), ← root_step h]
      · rw [root_stop (by omega), root_stop h]
/-- two ends made one -/
theorem root_join {S : List Nat} (hd : Down S) {a b : Nat} (hab : a < b) (hb : b < S.length) (ha1 : S.getD a 0 = a) (hb1 : S.getD b 0 = b) (i : Nat) (hi : i < S.length) : root (S.set b a) i = if root S i = b then a else root S i := by
  induction i using Nat.strongRecOn with
  | _ i ih =>
    by_cases e : b = i
    · subst e
      have g : (S.set b a).getD b 0 = a := by rw [getD_setN S b b hb, if_pos rfl]
      have hra : root S a = a := root_of_end ha1
      rw [root_step (by omega), g, ih a hab (by omega), hra, root_of_end hb1, if_pos rfl, if_neg (by omega)]
    · have g : (S.set b a).getD i 0 = S.getD i 0 := by rw [getD_setN S b i hb, if_neg e]
      by_cases h : S.getD i 0 < i
      · rw [root_step (by omega), g, ih _ h (by omega), ← root_step h]
      · rw [root_stop (by omega), root_stop h, if_neg (fun h => e h.symm)]

/-- two sets made one, told of the ends alone -/
def joinR (f : Nat → Nat) (x y : Nat) : Nat → Nat := fun i => if f i = max (f x) (f y) then min (f x) (f y) else f i
/-- with the switches that are on, so many of them -/
def joinAll (E : List (Int × Int)) (on : List Bool) : Nat → (Nat → Nat)
  | 0 => fun i => i
  | k + 1 => if on.getD k false then joinR (joinAll E on k) (E[k]!).1.toNat (E[k]!).2.toNat else joinAll E on k
/-- the ends of a list of sets -/
structure Ends (f : Nat → Nat) : Prop where
  le : ∀ i, f i ≤ i
  same : ∀ i, f (f i) = f i
theorem Ends.start : Ends fun i => i := ⟨fun i => Nat.le_refl _, fun i => rfl⟩
theorem Ends.join {f : Nat → Nat} (h : Ends f) (x y : Nat) : Ends (joinR f x y) := by
  have key : ∀ i, joinR f x y i = f i ∨ (f i = max (f x) (f y) ∧ joinR f x y i = min (f x) (f y)) := fun i => by
    unfold joinR; split
    · exact .inr ⟨by assumption, rfl⟩
    · exact .inl rfl
  have hmin : f (min (f x) (f y)) = min (f x) (f y) := by
    rcases Nat.le_total (f x) (f y) with e | e
    · rw [Nat.min_eq_left e]; exact h.same x
    · rw [Nat.min_eq_right e]; exact h.same y
  constructor
  · intro i
    have := h.le i
    rcases key i with e | ⟨e1, e2⟩
    · omega
    · omega
  · intro i
    have hstay : joinR f x y (min (f x) (f y)) = min (f x) (f y) := by
      unfold joinR
      rw [hmin]
      split
      · rfl
      · rfl
    rcases key i with e | ⟨e1, e2⟩
    · rw [e]
      unfold joinR at e ⊢
      rw [h.same i]
      exact e
    · rw [e2]; exact hstay
theorem joinAll_ends (E : List (Int × Int)) (on : List Bool) : ∀ k, Ends (joinAll E on k)
  | 0 => Ends.start
  | k + 1 => by
    simp only [joinAll]
    split
    · exact (joinAll_ends E on k).join _ _
    · exact joinAll_ends E on k
theorem joinR_same (f : Nat → Nat) (x y : Nat) : joinR f x y x = joinR f x y y := by
  unfold joinR
  split <;> split <;> omega
theorem joinR_keeps {f : Nat → Nat} {i j : Nat} (h : f i = f j) (x y : Nat) : joinR f x y i = joinR f x y j := by
  unfold joinR; rw [h]
theorem joinAll_on (E : List (Int × Int)) (on : List Bool) : ∀ (k j : Nat), j < k → on.getD j false = true → joinAll E on k (E[j]!).1.toNat = joinAll E on k (E[j]!).2.toNat
  | 0, j, h, _ => by omega
  | k + 1, j, h, ho => by
    simp only [joinAll]
    by_cases e : j = k
    · subst e
      rw [if_pos ho]
      exact joinR_same _ _ _
    · have ih := joinAll_on E on k j (by omega) ho
      split
      · exact joinR_keeps ih _ _
      · exact ih
end Go.Proofs.YtoloaecbfglaeaaGreat

namespace Go.Proofs.YtoloaecbfglaeaaGreat
open Go.RowKit
set_option linter.unusedVariables false
set_option linter.unusedSimpArgs false

def nats (S : List Nat) : List Value := S.map fun (n : Nat) => Value.int .i64 (n : Int)
theorem nats_length (S : List Nat) : (nats S).length = S.length := by simp [nats]
theorem nats_get (S : List Nat) {k : Nat} (h : k < S.length) : (nats S)[k]? = some (.int .i64 (S.getD k 0 : Int)) := by
  simp [nats, List.getD_eq_getElem?_getD, List.getElem?_eq_getElem h]
theorem nats_set (S : List Nat) (k n : Nat) : (nats S).set k (.int .i64 (n : Int)) = nats (S.set k n) := by simp [nats, List.map_set]

/-- THE SETS as they lie: all of block g -/
structure Sets (w : World) (g N : Nat) (S : List Nat) : Prop where
  row : w.ownsRow g 3 1 (.slice (some ⟨g, 0, none⟩) N N) N (nats S)
  down : Down S
section
variable {w w' : World} {g N : Nat} {S : List Nat}
theorem Sets.len (h : Sets w g N S) : S.length = N := by have := h.row.1; rw [nats_length] at this; omega
theorem Sets.cell (h : Sets w g N S) {k : Nat} (hk : k < N) : w.cell? ⟨g, k, none⟩ = some (.int .i64 (S.getD k 0 : Int)) :=
  (h.row.cellAt k (by omega)).trans (nats_get S (by rw [h.len]; exact hk))
theorem Sets.free (h : Sets w g N S) (k : Nat) : w.frozen? ⟨g, k, none⟩ = false := h.row.frozenAt k
theorem Sets.to_lt (h : Sets w g N S) {k : Nat} (hk : k < N) : S.getD k 0 < N := by have := h.down k (by rw [h.len]; exact hk); omega
theorem Sets.store (h : Sets w g N S) {k v : Nat} (hk : k < N) (hv : v ≤ k) : Sets (w.setCell ⟨g, k, none⟩ (.int .i64 (v : Int))) g N (S.set k v) ∧ w.grownBy (w.setCell ⟨g, k, none⟩ (.int .i64 (v : Int))) (some g) := by
  obtain ⟨h1, h2⟩ := h.row.stored k (.int .i64 (v : Int))
  rw [nats_set] at h1
  exact ⟨⟨h1, h.down.set (by rw [h.len]; exact hk) hv⟩, h2⟩
theorem Sets.glt (h : Sets w g N S) : g < w.heap.size := (h.row.lt g rfl).2
end
/-- the same ends -/
def Alike (S S' : List Nat) : Prop := ∀ i, i < S.length → root S' i = root S i
/-- a node that leads to its end at once goes on to do so -/
def Kept (S S' : List Nat) : Prop := ∀ j, j < S.length → S.getD j 0 = root S j → S'.getD j 0 = root S j
theorem grown_on {a b c : World} {r : Option Nat} (h : a.grownBy b r) (k : b.grownBy c r) : a.grownBy c r :=
  ⟨k.os.trans h.os, k.tape.trans h.tape, k.output.trans h.output, Nat.le_trans h.size k.size, fun i hi hn => (k.block i (Nat.lt_of_lt_of_le hi h.size) hn).trans (h.block i hi hn)⟩
theorem grown_self (a : World) (r : Option Nat) : a.grownBy a r := ⟨rfl, rfl, rfl, Nat.le_refl _, fun _ _ _ => rfl⟩

/-- what least leaves -/
def LeastOut (w : World) (g N : Nat) (S : List Nat) (n : Nat) (e : Ending) (w' : World) : Prop :=
  ∃ S', e = .returned (.int .i64 (root S n : Int)) ∧ Sets w' g N S' ∧ Alike S S' ∧ Kept S S' ∧ w.grownBy w' (some g)

set_option maxRecDepth 100000 in
set_option maxHeartbeats 1000000 in
theorem least_any (w : World) (g N : Nat) (S : List Nat) (n : Nat) (hS : Sets w g N S) (hn : n < N) (hN : N ≤ 100000000) :
    Calls Tryz.prog 59 #[.slice (some ⟨g, 0, none⟩) N N, .int .i64 (n : Int)] w (LeastOut w g N S n) := by
  have HS := Lib.hid hS
  clear hS
  obtain ⟨R, hR⟩ : ∃ R, LeastOut w g N S n = R := ⟨_, rfl⟩
  rw [hR]
  have HR := Lib.hid hR
  clear hR
  go_enter Tryz.func59, Tryz.ntmps59
  go_wp2_with fail
  go_loopg [1] n (fun k i wx => ∃ (m : Nat) (S' : List Nat), i = .int .i64 (m : Int) ∧ m ≤ k ∧ m < N ∧ Sets wx g N S' ∧ Alike S S' ∧ Kept S S' ∧ root S m = root S n ∧ w.grownBy wx (some g))
  case atStart => exact ⟨n, S, rfl, Nat.le_refl _, hn, HS.out, fun _ _ => rfl, fun _ _ h => h, rfl, grown_self _ _⟩
  case round =>
    obtain ⟨m, S', rfl, hm, hmN, hs, hal, hkp, hro, hg⟩ := hrel
    have c0 := hs.cell hmN
    have f0 := hs.free m
    have hle : S'.getD m 0 ≤ m := hs.down m (by rw [hs.len]; exact hmN)
    have HS' := Lib.hid hs
    have HA := Lib.hid hal
    have HK := Lib.hid hkp
    have HO := Lib.hid hro
    have HG := Lib.hid hg
    clear hs hal hkp hro hg
    by_cases hend : S'.getD m 0 = m
    · have hroot : root S n = m := by rw [← HO.out, ← HA.out m (by rw [HS.out.len]; exact hmN)]; exact root_of_end hend
      have HRT := Lib.hid hroot
      rw [hend] at c0
      clear hend hroot hle
      go_wp2_with fail
      rw [← HR.out]
      exact ⟨S', by rw [HRT.out]; rfl, HS'.out, HA.out, HK.out, HG.out⟩
    · have hlt : S'.getD m 0 < m := by omega
      have c1 := HS'.out.cell (k := S'.getD m 0) (by omega)
      have hle2 : S'.getD (S'.getD m 0) 0 ≤ S'.getD m 0 := HS'.out.down _ (by rw [HS'.out.len]; omega)
      have hrs : root S' (S'.getD (S'.getD m 0) 0) = root S' m := by
        rw [root_step hlt, ← root_to HS'.out.down (by rw [HS'.out.len]; omega)]
      have hst := HS'.out.store (k := m) (v := S'.getD (S'.getD m 0) 0) hmN (by omega)
      have hal2 : Alike S (S'.set m (S'.getD (S'.getD m 0) 0)) := fun i hi => by
        rw [root_set HS'.out.down (by rw [HS'.out.len]; exact hmN) (by omega) hrs i (by rw [HS'.out.len, ← HS.out.len]; exact hi)]
        exact HA.out i hi
      have hro2 : root S (S'.getD (S'.getD m 0) 0) = root S n := by
        rw [← HO.out, ← HA.out m (by rw [HS.out.len]; exact hmN), ← HA.out (S'.getD (S'.getD m 0) 0) (by rw [HS.out.len]; omega)]
        exact hrs
      have hkp2 : Kept S (S'.set m (S'.getD (S'.getD m 0) 0)) := fun j hj hr => by
        have h1 := HK.out j hj hr
        rw [getD_setN S' m j (by rw [HS'.out.len]; exact hmN)]
        by_cases e : m = j
        · subst e
          rw [if_pos rfl, h1]
          have h2 := root_end HS'.out.down m (by rw [HS'.out.len]; exact hmN)
          rw [HA.out m hj] at h2
          exact h2
        · rw [if_neg e]; exact h1
      have HST := Lib.hid hst
      have HK2 := Lib.hid hkp2
      have HA2 := Lib.hid hal2
      have HO2 := Lib.hid hro2
      clear hst hal2 hkp2 hro2 hrs
      generalize S'.getD (S'.getD m 0) 0 = v at c1 hle2 HST HA2 HK2 HO2
      generalize S'.getD m 0 = u at c0 c1 hend hlt hle2
      clear hend
      have hne : ((u : Int) == (m : Int)) = false := by simp; omega
      have hne2 : (u == m) = false := by simp; omega
      go_wp2_with fail
      go_roundg v
      case measure => omega
      case rel => exact ⟨v, _, rfl, Nat.le_refl _, by omega, HST.out.1, HA2.out, HK2.out, HO2.out, grown_on HG.out HST.out.2⟩

/-- what join leaves -/
def JoinOut (w : World) (g N : Nat) (S : List Nat) (x y : Nat) (e : Ending) (w' : World) : Prop :=
  ∃ S', e = .returned (.tuple #[]) ∧ Sets w' g N S' ∧ (∀ i, i < N → root S' i = if root S i = max (root S x) (root S y) then min (root S x) (root S y) else root S i) ∧ w.grownBy w' (some g)

set_option maxRecDepth 100000 in
set_option maxHeartbeats 1000000 in
theorem sjoin_any (w : World) (g N : Nat) (S : List Nat) (x y : Nat) (hS : Sets w g N S) (hx : x < N) (hy : y < N) (hN : N ≤ 100000000) :
    Calls Tryz.prog 58 #[.slice (some ⟨g, 0, none⟩) N N, .int .i64 (x : Int), .int .i64 (y : Int)] w (JoinOut w g N S x y) := by
  have HS := Lib.hid hS
  clear hS
  obtain ⟨R, hR⟩ : ∃ R, JoinOut w g N S x y = R := ⟨_, rfl⟩
  rw [hR]
  have HR := Lib.hid hR
  clear hR
  go_enter Tryz.func58, Tryz.ntmps58
  go_wp2_with fail
  refine (least_any _ _ _ _ _ HS.out hx hN).mono ?_
  rintro e w1 ⟨S1, rfl, hs1, ha1, -, hg1⟩
  have H1 := Lib.hid hs1
  have HA1 := Lib.hid ha1
  have HG1 := Lib.hid hg1
  clear hs1 ha1 hg1
  go_wp2_with fail
  refine (least_any _ _ _ _ _ H1.out hy hN).mono ?_
  rintro e w2 ⟨S2, rfl, hs2, ha2, -, hg2⟩
  have h12 : root S1 y = root S y := HA1.out y (by rw [HS.out.len]; exact hy)
  rw [h12]
  have H2 := Lib.hid hs2
  have HA2 := Lib.hid (show Alike S S2 from fun i hi => (ha2 i (by rw [H1.out.len, ← HS.out.len]; exact hi)).trans (HA1.out i hi))
  have HG2 := Lib.hid (grown_on HG1.out hg2)
  clear hs2 ha2 hg2 h12
  have la := root_le S x
  have lb := root_le S y
  have hea : S2.getD (root S x) 0 = root S x := by
    have := root_end H2.out.down x (by rw [H2.out.len]; exact hx)
    rw [HA2.out x (by rw [HS.out.len]; exact hx)] at this
    exact this
  have heb : S2.getD (root S y) 0 = root S y := by
    have := root_end H2.out.down y (by rw [H2.out.len]; exact hy)
    rw [HA2.out y (by rw [HS.out.len]; exact hy)] at this
    exact this
  have hroot : ∀ i, i < N → root S2 i = root S i := fun i hi => HA2.out i (by rw [HS.out.len]; exact hi)
  have HEA := Lib.hid hea
  have HEB := Lib.hid heb
  have HRT := Lib.hid hroot
  clear hea heb hroot
  have hfin : ∃ m M : Nat, m = min (root S x) (root S y) ∧ M = max (root S x) (root S y) ∧ m ≤ M ∧ M < N := ⟨_, _, rfl, rfl, by omega, by omega⟩
  obtain ⟨m, M, hm, hM, hmM, hMN⟩ := hfin
  have hst := H2.out.store (k := M) (v := m) hMN hmM
  have hrt : ∀ i, i < N → root (S2.set M m) i = if root S i = M then m else root S i := by
    intro i hi
    rw [← HRT.out i hi]
    by_cases e : m = M
    · have hself : S2.getD M 0 = M := by
        rcases Nat.le_total (root S x) (root S y) with h | h
        · have : M = root S y := by omega
          rw [this]; exact HEB.out
        · have : M = root S x := by omega
          rw [this]; exact HEA.out
      have hset : S2.set M m = S2 := by
        apply List.ext_getElem?
        intro j
        rw [List.getElem?_set]
        by_cases hj : M = j
        · subst hj
          rw [if_pos rfl, if_pos (by rw [H2.out.len]; exact hMN), e]
          rw [List.getD_eq_getElem?_getD, List.getElem?_eq_getElem (by rw [H2.out.len]; exact hMN)] at hself
          rw [List.getElem?_eq_getElem (by rw [H2.out.len]; exact hMN)]
          simpa using hself.symm
        · rw [if_neg hj]
      rw [hset]
      split
      · omega
      · rfl
    · have hends : S2.getD m 0 = m ∧ S2.getD M 0 = M := by
        rcases Nat.le_total (root S x) (root S y) with h | h
        · have h1 : m = root S x := by omega
          have h2 : M = root S y := by omega
          rw [h1, h2]; exact ⟨HEA.out, HEB.out⟩
        · have h1 : m = root S y := by omega
          have h2 : M = root S x := by omega
          rw [h1, h2]; exact ⟨HEB.out, HEA.out⟩
      exact root_join H2.out.down (by omega) (by rw [H2.out.len]; exact hMN) hends.1 hends.2 i (by rw [H2.out.len]; exact hi)
  have HST := Lib.hid hst
  have HRR := Lib.hid hrt
  have HM := Lib.hid hM
  have Hm := Lib.hid hm
  have f0 := H2.out.free M
  have c0 := H2.out.cell hMN
  have hmx : max ((root S x : Nat) : Int) ((root S y : Nat) : Int) = (M : Int) := by omega
  have hmn : min ((root S x : Nat) : Int) ((root S y : Nat) : Int) = (m : Int) := by omega
  clear hst hrt hM hm
  go_wp2_with fail
  have hend : JoinOut w g N S x y (.returned (.tuple #[])) (w2.setCell ⟨g, M, none⟩ (.int .i64 (m : Int))) :=
    ⟨S2.set M m, rfl, HST.out.1, fun i hi => by rw [HRR.out i hi, HM.out, Hm.out], grown_on HG2.out HST.out.2⟩
  rw [HR.out] at hend
  go_end0
  exact hend
end Go.Proofs.YtoloaecbfglaeaaGreat

namespace Go.Proofs.YtoloaecbfglaeaaGreat
open Go.RowKit
set_option linter.unusedVariables false
set_option linter.unusedSimpArgs false

/-- the least node that each node is joined to -/
def joinedR (C : Cfg) : Nat → Nat := joinAll (edgesL C.W C.H C.T) C.on (edgesL C.W C.H C.T).length
def joinedL (C : Cfg) : List Nat := (List.range (nodesI C.W C.H C.T).toNat).map (joinedR C)

/-- WHAT JOINED HOLDS within its loops -/
structure JW (w0 wx : World) (C : Cfg) (AA : Option Addr) (L : List (Int × Int)) (c base g N : Nat) (S : List Nat) : Prop where
  below : Below w0.heap.size w0 wx
  box : Box7 wx w0.heap.size C
  edges : wx.ownsRow base 95 2 (.slice AA L.length c) L.length (pc L)
  sets : Sets wx g N S
  hg : w0.heap.size < g
  hd : (Value.slice AA L.length c).ownBlock ≠ some g
section
variable {w0 wx wy : World} {C : Cfg} {AA : Option Addr} {L : List (Int × Int)} {c base g N : Nat} {S S' : List Nat}
theorem JW.keep (h : JW w0 wx C AA L c base g N S) (hb : Below wx.heap.size wx wy) : JW w0 wy C AA L c base g N S :=
  ⟨below_then h.below hb, h.box.below hb, own_keep h.edges hb, ⟨own_keep h.sets.row hb, h.sets.down⟩, h.hg, h.hd⟩
theorem own_kept {w w' : World} {base : Nat} {e : TypeId} {size n g : Nat} {v : Value} {xs : List Value} (h : w.ownsRow base e size v n xs) (hg : w.grownBy w' (some g)) (hd : v.ownBlock ≠ some g) : w'.ownsRow base e size v n xs :=
  h.kept hg (.inr hd)
theorem JW.turned (h : JW w0 wx C AA L c base g N S) (hs : Sets wy g N S') (hg : wx.grownBy wy (some g)) : JW w0 wy C AA L c base g N S' := by
  have hx := h.box
  have hgn := h.hg
  have hc : ∀ j : Nat, wy.cell? ⟨w0.heap.size, j, none⟩ = wx.cell? ⟨w0.heap.size, j, none⟩ := fun j =>
    World.cell?_of_block (w := wx) (hg.block w0.heap.size hx.lt (fun e => by injection e; omega))
  exact ⟨h.below.grown hg h.below.size (fun k hk => by injection hk; omega), ⟨Nat.lt_of_lt_of_le hx.lt hg.size, (hc 0).trans hx.c0, (hc 1).trans hx.c1, (hc 2).trans hx.c2, (hc 3).trans hx.c3, (hc 4).trans hx.c4, (hc 5).trans hx.c5, (hc 6).trans hx.c6⟩,
    own_kept h.edges hg h.hd, hs, h.hg, h.hd⟩
end
/-- each node leading to itself, the first k of them -/
def firstL (N k : Nat) : List Nat := (List.range N).map fun j => if j < k then j else 0
theorem firstL_zero (N : Nat) : firstL N 0 = List.replicate N 0 := by
  apply List.ext_getElem?
  intro j
  simp only [firstL, List.getElem?_map, List.getElem?_range, List.getElem?_replicate, Nat.not_lt_zero, if_false]
  by_cases h : j < N
  · simp [List.getElem?_range, h]
  · simp [h]
theorem firstL_getD (N k : Nat) {j : Nat} (h : j < N) : (firstL N k).getD j 0 = if j < k then j else 0 := by
  simp [firstL, List.getD_eq_getElem?_getD, List.getElem?_range, h]
theorem firstL_set (N k : Nat) (h : k < N) : (firstL N k).set k k = firstL N (k + 1) := by
  apply List.ext_getElem?
  intro j
  rw [List.getElem?_set]
  by_cases e : k = j
  · subst e
    rw [if_pos rfl, if_pos (by simp [firstL]; exact h)]
    simp [firstL, List.getElem?_range, h]
  · rw [if_neg e]
    simp only [firstL, List.getElem?_map]
    by_cases hj : j < N
    · simp only [List.getElem?_range hj, Option.map_some, Option.some.injEq]
      by_cases h1 : j < k
      · rw [if_pos h1, if_pos (by omega)]
      · rw [if_neg h1, if_neg (by omega)]
    · rw [List.getElem?_eq_none (by simp; omega)]
      rfl
def JND (C : Cfg) (w : World) (R : Ending → World → Prop) : Prop :=
  Calls Tryz.prog 23 #[.agg #[.int .i64 C.W, .int .i64 C.H, .int .i64 C.T, .slice C.AT C.tiles.length C.cT, .slice C.AO C.on.length C.cO, .slice C.AI C.ins.length C.cI, .slice C.AU C.outs.length C.cU]] w R
/-- what Joined leaves -/
def JoinedOut (C : Cfg) (w : World) (e : Ending) (w' : World) : Prop :=
  ∃ g N, e = .returned (.tuple #[.slice (some ⟨g, 0, none⟩) N N, .int .i64 0]) ∧ nodesI C.W C.H C.T = (N : Int) ∧ w.heap.size ≤ g ∧ Below w.heap.size w w' ∧ w'.ownsRow g 3 1 (.slice (some ⟨g, 0, none⟩) N N) N (nats (joinedL C))
/-- the ends, so far as they were told -/
def partEnds (N : Nat) (f : Nat → Nat) (S : List Nat) : Prop := ∀ i, i < N → root S i = f i

set_option maxRecDepth 100000 in
set_option maxHeartbeats 1000000 in
theorem joined_no (C : Cfg) (w : World) (hin : C.In w) (hf : C.few) (h : ¬ C.ok) : JND C w fun e w' => e = .returned (.tuple #[.slice none 0 0, .int .i64 1]) ∧ Below w.heap.size w w' := by
  unfold JND
  have hE : C.E = 1 := if_neg h
  have HE := Lib.hid hE
  have hin1 := hin.later (below_new w (.cells #[.int .i64 C.W, .int .i64 C.H, .int .i64 C.T, .slice C.AT C.tiles.length C.cT, .slice C.AO C.on.length C.cO, .slice C.AI C.ins.length C.cI, .slice C.AU C.outs.length C.cU] 28))
  have hb := bcheck_any C _ hin1 hf
  unfold BCH at hb
  rw [hE] at hb
  have HB := Lib.hid hb
  have Q0 := below_new w (.cells #[.int .i64 C.W, .int .i64 C.H, .int .i64 C.T, .slice C.AT C.tiles.length C.cT, .slice C.AO C.on.length C.cO, .slice C.AI C.ins.length C.cI, .slice C.AU C.outs.length C.cU] 28)
  clear hE hb hin1
  go_enter Tryz.func23, Tryz.ntmps23
  go_wp2_with fail
  refine (HB.out).mono ?_
  rintro e w1 ⟨rfl, hb1⟩
  have Q1 := below_then Q0 hb1
  clear hb1
  go_wp2_with fail
  go_ret2
  exact ⟨rfl, Q1⟩

set_option maxRecDepth 100000 in
set_option maxHeartbeats 4000000 in
theorem joined_yes (C : Cfg) (w : World) (hin : C.In w) (hf : C.few) (h : C.ok) : JND C w (JoinedOut C w) := by
  unfold JND
  have hE : C.E = 0 := if_pos h
  have hok := h.1
  have hin1 := hin.later (below_new w (.cells #[.int .i64 C.W, .int .i64 C.H, .int .i64 C.T, .slice C.AT C.tiles.length C.cT, .slice C.AO C.on.length C.cO, .slice C.AI C.ins.length C.cI, .slice C.AU C.outs.length C.cU] 28))
  have hb := bcheck_any C _ hin1 hf
  unfold BCH at hb
  rw [hE] at hb
  have HB := Lib.hid hb
  obtain ⟨L, hL⟩ : ∃ L, edgesL C.W C.H C.T = L := ⟨_, rfl⟩
  have HL := Lib.hid hL
  have hlen : L.length ≤ 6000000 := by have := rawL_len hok; rw [← hL]; unfold edgesL; rw [sortP_length]; exact this
  have hon : C.on.length = L.length := by rw [← hL]; exact h.2.2.2.1
  have hnb := nodes_bd hok
  obtain ⟨N, hN⟩ : ∃ N : Nat, nodesI C.W C.H C.T = (N : Int) := ⟨(nodesI C.W C.H C.T).toNat, by omega⟩
  have HN := Lib.hid hN
  have hN2 : N ≤ 87040 := by omega
  have HH := Lib.hid hok
  have HI := Lib.hid hin
  have HON := Lib.hid hon
  obtain ⟨R, hR⟩ : ∃ R, JoinedOut C w = R := ⟨_, rfl⟩
  rw [hR]
  have HR := Lib.hid hR
  clear hE hb hin1 hok h hnb hN hL hin hon hR
  have Q0 := below_new w (.cells #[.int .i64 C.W, .int .i64 C.H, .int .i64 C.T, .slice C.AT C.tiles.length C.cT, .slice C.AO C.on.length C.cO, .slice C.AI C.ins.length C.cI, .slice C.AU C.outs.length C.cU] 28)
  have B0 := Box7.new w C 28
  go_enter Tryz.func23, Tryz.ntmps23
  go_wp2_with fail
  refine (HB.out).mono ?_
  rintro e w1 ⟨rfl, hb1⟩
  have Q1 := below_then Q0 hb1
  have B1 := Box7.below B0 hb1
  clear hb1 HB
  obtain ⟨z1, k10, k11, k12, k13, k14, k15, k16⟩ := id B1
  go_wp2_with fail
  refine (edges_yes _ _ _ _ HH.out).mono ?_
  rintro e w2 ⟨v, rfl, hb2, hown⟩
  rw [HL.out] at hown
  obtain ⟨AA, c, hv⟩ := own_slice hown
  subst hv
  have O2 := Lib.hid hown
  have Q2 := below_then Q1 hb2
  have B2 := Box7.below B1 hb2
  clear hb2 hown B1 z1 k10 k11 k12 k13 k14 k15 k16
  obtain ⟨z2, k20, k21, k22, k23, k24, k25, k26⟩ := id B2
  go_wp2_with fail
  refine (nodes_yes _ _ _ _ HH.out).mono ?_
  rintro e w3 ⟨rfl, hb3⟩
  rw [HN.out]
  have O3 := Lib.hid (own_keep O2.out hb3)
  have Q3 := below_then Q2 hb3
  have B3 := Box7.below B2 hb3
  clear hb3 B2 z2 k20 k21 k22 k23 k24 k25 k26 O2
  obtain ⟨i0, hi0, hz0, hz1, hz2⟩ := info_parts int_info
  have HI0 := Lib.hid hi0
  have HZ0 := Lib.hid hz0
  have HZ1 := Lib.hid hz1
  have HZ2 := Lib.hid hz2
  clear hi0 hz0 hz1 hz2
  go_wp2_with ((with_reducible refine wpList_make_full _ rfl (.tmp 25) (.tmp 25) 94 rfl w3.heap.size 3 i0 (.int .i64 0) 1 Tryz.underlying94 HI0.out HZ0.out HZ1.out .i64 .i64 (N : Int) (N : Int) N rfl rfl rfl rfl ?c1 ?c2 (Nat.le_refl _) ?_))
  case c1 => rw [HZ2.out]; omega
  case c2 => unfold maxLen; omega
  intro w4 hm4 hg4
  have hb4 : Below w3.heap.size w3 w4 := (Below.refl _ _).grown hg4 (Nat.le_refl _) (fun _ h => by cases h)
  rw [show (madeCells #[Value.int .i64 0] N).toList = nats (List.replicate N 0) by rw [toList_madeCells_one]; simp [nats]] at hm4
  have S4 : Sets w4 w3.heap.size N (firstL N 0) := by
    rw [firstL_zero]
    exact ⟨hm4, fun i hi => by simp only [List.getD_eq_getElem?_getD, List.getElem?_replicate]; split <;> simp⟩
  have J4 : Hid (JW w w4 C AA L c w1.heap.size w3.heap.size N (firstL N 0)) := Lib.hid
    ⟨below_then Q3 hb4, B3.below hb4, own_keep O3.out hb4, S4, B3.lt, fun e => by have := (O3.out.lt _ e).2; omega⟩
  clear hm4 hg4 hb4 S4 Q3 B3 O3 Q0 B0 Q1 Q2
  go_wp2_with fail
  go_loopw [29] (fun i wx => ∃ k : Nat, k ≤ N ∧ i = .int .i64 (k : Int) ∧ JW w wx C AA L c w1.heap.size w3.heap.size N (firstL N k)) (fun i _ => N - (intOf i).toNat)
  case atStart => exact ⟨0, by omega, rfl, J4.out⟩
  case round =>
    clear J4
    obtain ⟨k, hk, rfl, hj⟩ := hrel
    have HJ := Lib.hid hj
    clear hj
    by_cases hlt : k < N
    · have c0 := HJ.out.sets.cell hlt
      have f0 := HJ.out.sets.free k
      have hst := HJ.out.sets.store hlt (Nat.le_refl k)
      rw [firstL_set N k hlt] at hst
      have J5 := Lib.hid (HJ.out.turned hst.1 hst.2)
      clear hst
      generalize (firstL N k).getD k 0 = u at c0
      go_wp2_with fail
      go_roundw
      case rel => exact ⟨k + 1, by omega, by go_num, J5.out⟩
      case measure => simp [intOf]; omega
    · obtain rfl : k = N := by omega
      have hpe : partEnds k (joinAll L C.on 0) (firstL k k) := fun i hi => by
        have : (firstL k k).getD i 0 = i := by rw [firstL_getD k k hi, if_pos hi]
        exact root_of_end this
      have HP := Lib.hid hpe
      clear hpe
      go_wp2_with fail
      go_loopw [39] (fun i wx => ∃ (q : Nat) (S : List Nat), q ≤ L.length ∧ i = .int .i64 (q : Int) ∧ JW w wx C AA L c w1.heap.size w3.heap.size k S ∧ partEnds k (joinAll L C.on q) S) (fun i _ => L.length - (intOf i).toNat)
      case atStart => exact ⟨0, _, by omega, rfl, HJ.out, HP.out⟩
      case round =>
        clear HJ HP
        obtain ⟨q, S, hq, rfl, hj, hp⟩ := hrel
        have HJ := Lib.hid hj
        have HP := Lib.hid hp
        clear hj hp
        by_cases hql : q < L.length
        · obtain ⟨g, rfl, hcl⟩ := own_pair HJ.out.edges (by omega)
          obtain ⟨z, k0, k1, k2, k3, k4, k5, k6⟩ := HJ.out.box
          obtain ⟨c0, c1⟩ := hcl q hql
          clear hcl
          obtain ⟨ao, hao, hab, hoc⟩ := (HI.out.on).bool (k := q) (by rw [HON.out]; exact hql)
          rw [hao] at k4
          have hql2 : q < C.on.length := by rw [HON.out]; exact hql
          have hmem : L[q]! ∈ edgesL C.W C.H C.T := by rw [HL.out, getElem!_pos L q hql]; exact List.getElem_mem hql
          obtain ⟨r1, r2⟩ := edges_nodes HH.out hmem
          have e1 : 0 ≤ (L[q]!).1 := r1.2.1
          have e2 : (L[q]!).1 < (k : Int) := by have := r1.2.2; rw [HN.out] at this; exact this
          have e3 : 0 ≤ (L[q]!).2 := r2.2.1
          have e4 : (L[q]!).2 < (k : Int) := by have := r2.2.2; rw [HN.out] at this; exact this
          have hja : joinAll L C.on (q + 1) = if C.on.getD q false then joinR (joinAll L C.on q) (L[q]!).1.toNat (L[q]!).2.toNat else joinAll L C.on q := rfl
          have HJA := Lib.hid hja
          have HAO := Lib.hid hao
          clear hja hmem r1 r2 hao
          generalize L[q]! = ab at c0 c1 e1 e2 e3 e4 HJA
          obtain ⟨a, b⟩ := ab
          simp only at c0 c1 e1 e2 e3 e4
          obtain ⟨m, rfl⟩ : ∃ m : Nat, a = (m : Int) := ⟨a.toNat, by omega⟩
          obtain ⟨n, rfl⟩ : ∃ n : Nat, b = (n : Int) := ⟨b.toNat, by omega⟩
          have hm : m < k := by omega
          have hn : n < k := by omega
          clear e1 e2 e3 e4
          have J1 := Lib.hid (HJ.out.keep (below_new wr (.cells #[.int .i64 (m : Int), .int .i64 (n : Int)] 95)))
          have hoc2 := (J1.out.below.cell (p := ao.add q) (by rw [add_block]; exact hab)).trans hoc
          clear hoc
          have hgl : w3.heap.size < wr.heap.size := HJ.out.sets.glt
          cases ho : C.on.getD q false with
          | false =>
            rw [ho] at hoc2
            have HO := Lib.hid ho
            clear ho
            go_wp2_with fail
            go_roundw
            case rel => exact ⟨q + 1, S, by omega, by go_num, J1.out, by have := HJA.out; rw [HO.out] at this; rw [this]; exact HP.out⟩
            case measure => simp [intOf]; omega
          | true =>
            rw [ho] at hoc2
            have HO := Lib.hid ho
            clear ho
            go_wp2_with fail
            refine (sjoin_any _ _ _ S _ _ J1.out.sets hm hn (by omega)).mono ?_
            rintro e w5 ⟨S', rfl, hs', hr', hg'⟩
            have J5 := Lib.hid (J1.out.turned hs' hg')
            have hpe : partEnds k (joinAll L C.on (q + 1)) S' := fun i hi => by
              have hx := HJA.out
              rw [HO.out] at hx
              rw [hr' i hi, hx, HP.out i hi, HP.out m hm, HP.out n hn]
              simp only [if_true, joinR, Int.toNat_natCast]
            have HP5 := Lib.hid hpe
            clear hs' hr' hg' hpe
            go_wp2_with fail
            go_roundw
            case rel => exact ⟨q + 1, S', by omega, by go_num, J5.out, HP5.out⟩
            case measure => simp [intOf]; omega
        · obtain rfl : q = L.length := by omega
          obtain ⟨f, hf⟩ : ∃ f, joinAll L C.on L.length = f := ⟨_, rfl⟩
          rw [hf] at HP
          have HF := Lib.hid hf
          clear hf
          go_wp2_with fail
          go_loopw [58] (fun i wx => ∃ (q : Nat) (S : List Nat), q ≤ k ∧ i = .int .i64 (q : Int) ∧ JW w wx C AA L c w1.heap.size w3.heap.size k S ∧ partEnds k f S ∧ ∀ j, j < q → S.getD j 0 = f j) (fun i _ => k - (intOf i).toNat)
          case atStart => exact ⟨0, S, by omega, rfl, HJ.out, HP.out, fun j h => by omega⟩
          case round =>
            clear HJ HP
            obtain ⟨q, S, hq, rfl, hj, hp, hd⟩ := hrel
            have HJ := Lib.hid hj
            have HP := Lib.hid hp
            have HD := Lib.hid hd
            clear hj hp hd
            by_cases hql : q < k
            · have hfq : f q ≤ q := by rw [← HP.out q hql]; exact root_le _ _
              go_wp2_with fail
              refine (least_any _ _ _ S q HJ.out.sets hql (by omega)).mono ?_
              rintro e w5 ⟨S', rfl, hs', ha', hk', hg'⟩
              rw [HP.out q hql]
              have J5 := Lib.hid (HJ.out.turned hs' hg')
              have hsl : S.length = k := HJ.out.sets.len
              have hp5 : partEnds k f S' := fun i hi => (ha' i (by omega)).trans (HP.out i hi)
              have hd5 : ∀ j, j < q → S'.getD j 0 = f j := fun j hj => by
                have h1 := HP.out j (by omega)
                rw [hk' j (by omega) (by rw [h1]; exact HD.out j hj), h1]
              have HP5 := Lib.hid hp5
              have HD5 := Lib.hid hd5
              clear hs' ha' hk' hg' hp5 hd5 hsl
              have c0 := J5.out.sets.cell hql
              have f0 := J5.out.sets.free q
              have hst := J5.out.sets.store hql hfq
              have J6 := Lib.hid (J5.out.turned hst.1 hst.2)
              have hp6 : partEnds k f (S'.set q (f q)) := fun i hi => by
                have hl : S'.length = k := J5.out.sets.len
                by_cases e : f q = q
                · have hr := HP5.out q hql
                  have hq2 := root_end J5.out.sets.down q (by rw [hl]; exact hql)
                  rw [hr, e] at hq2
                  have hset : S'.set q (f q) = S' := by
                    apply List.ext_getElem?
                    intro j
                    rw [List.getElem?_set]
                    by_cases hj : q = j
                    · subst hj
                      rw [if_pos rfl, if_pos (by rw [hl]; exact hql), e]
                      rw [List.getD_eq_getElem?_getD, List.getElem?_eq_getElem (by rw [hl]; exact hql)] at hq2
                      rw [List.getElem?_eq_getElem (by rw [hl]; exact hql)]
                      simpa using hq2.symm
                    · rw [if_neg hj]
                  rw [hset]
                  exact HP5.out i hi
                · have hr := HP5.out q hql
                  have he : root S' (f q) = root S' q := by
                    have h1 := root_end J5.out.sets.down q (by rw [hl]; exact hql)
                    rw [hr] at h1 ⊢
                    exact root_of_end h1
                  rw [root_set J5.out.sets.down (by rw [hl]; exact hql) (by omega) he i (by rw [hl]; exact hi)]
                  exact HP5.out i hi
              have hd6 : ∀ j, j < q + 1 → (S'.set q (f q)).getD j 0 = f j := fun j hj => by
                rw [getD_setN S' q j (by rw [J5.out.sets.len]; exact hql)]
                by_cases e : q = j
                · subst e; rw [if_pos rfl]
                · rw [if_neg e]; exact HD5.out j (by omega)
              have HP6 := Lib.hid hp6
              have HD6 := Lib.hid hd6
              clear hst hp6 hd6
              generalize S'.getD q 0 = u at c0
              go_wp2_with fail
              go_roundw
              case rel => exact ⟨q + 1, _, by omega, by go_num, J6.out, HP6.out, HD6.out⟩
              case measure => simp [intOf]; omega
            · obtain rfl : q = k := by omega
              have hS : S = joinedL C := by
                unfold joinedL joinedR
                rw [HL.out, HF.out, HN.out, Int.toNat_natCast]
                apply List.ext_getElem
                · rw [HJ.out.sets.len]; simp
                · intro j h1 h2
                  have h3 : j < q := by rw [HJ.out.sets.len] at h1; exact h1
                  have := HD.out j h3
                  rw [List.getD_eq_getElem?_getD, List.getElem?_eq_getElem h1] at this
                  simpa using this
              have HS := Lib.hid hS
              clear hS
              have hend : JoinedOut C w (.returned (.tuple #[.slice (some ⟨w3.heap.size, 0, none⟩) q q, .int .i64 0])) wr :=
                ⟨w3.heap.size, q, rfl, HN.out, Nat.le_of_lt HJ.out.hg, HJ.out.below, by rw [← HS.out]; exact HJ.out.sets.row⟩
              rw [HR.out] at hend
              have HEND := Lib.hid hend
              clear hend
              go_wp2_with fail
              exact HEND.out
end Go.Proofs.YtoloaecbfglaeaaGreat
