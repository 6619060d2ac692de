/- Walks of filigree/chip's sets: least, join. -/
import Derived.Test.YtakccepilbmmlaaUf
import Derived.Test.YtakccepilbmmlaaEdE
import Derived.Deep.LoopGhost
namespace Go.Proofs.Ytakccepilbmmlaa
open Go.RowKit
set_option linter.unusedVariables false
set_option linter.unusedSimpArgs false

def nats (S : List Nat) : List Value := S.map fun (n : Nat) => Value.int .i64 (n : Int)
theorem nats_length (S : List Nat) : (nats S).length = S.length := by simp [nats]
theorem nats_get (S : List Nat) {k : Nat} (h : k < S.length) : (nats S)[k]? = some (.int .i64 (S.getD k 0 : Int)) := by
  simp [nats, List.getD_eq_getElem?_getD, List.getElem?_eq_getElem h]
theorem nats_set (S : List Nat) (k n : Nat) : (nats S).set k (.int .i64 (n : Int)) = nats (S.set k n) := by simp [nats, List.map_set]

/-- THE SETS as they lie: all of block g -/
structure Sets (w : World) (g N : Nat) (S : List Nat) : Prop where
  row : w.ownsRow g 3 1 (.slice (some ⟨g, 0, none⟩) N N) N (nats S)
  down : Down S
section
variable {w w' : World} {g N : Nat} {S : List Nat}
theorem Sets.len (h : Sets w g N S) : S.length = N := by have := h.row.1; rw [nats_length] at this; omega
theorem Sets.cell (h : Sets w g N S) {k : Nat} (hk : k < N) : w.cell? ⟨g, k, none⟩ = some (.int .i64 (S.getD k 0 : Int)) :=
  (h.row.cellAt k (by omega)).trans (nats_get S (by rw [h.len]; exact hk))
theorem Sets.free (h : Sets w g N S) (k : Nat) : w.frozen? ⟨g, k, none⟩ = false := h.row.frozenAt k
theorem Sets.to_lt (h : Sets w g N S) {k : Nat} (hk : k < N) : S.getD k 0 < N := by have := h.down k (by rw [h.len]; exact hk); omega
theorem Sets.store (h : Sets w g N S) {k v : Nat} (hk : k < N) (hv : v ≤ k) : Sets (w.setCell ⟨g, k, none⟩ (.int .i64 (v : Int))) g N (S.set k v) ∧ w.grownBy (w.setCell ⟨g, k, none⟩ (.int .i64 (v : Int))) (some g) := by
  obtain ⟨h1, h2⟩ := h.row.stored k (.int .i64 (v : Int))
  rw [nats_set] at h1
  exact ⟨⟨h1, h.down.set (by rw [h.len]; exact hk) hv⟩, h2⟩
theorem Sets.glt (h : Sets w g N S) : g < w.heap.size := (h.row.lt g rfl).2
end
/-- the same ends -/
def Alike (S S' : List Nat) : Prop := ∀ i, i < S.length → root S' i = root S i
/-- a node that leads to its end at once goes on to do so -/
def Kept (S S' : List Nat) : Prop := ∀ j, j < S.length → S.getD j 0 = root S j → S'.getD j 0 = root S j
theorem grown_then {a b c : World} {r : Option Nat} (h : a.grownBy b r) (k : b.grownBy c r) : a.grownBy c r :=
  ⟨k.os.trans h.os, k.tape.trans h.tape, k.output.trans h.output, Nat.le_trans h.size k.size, fun i hi hn => (k.block i (Nat.lt_of_lt_of_le hi h.size) hn).trans (h.block i hi hn)⟩
theorem grown_self (a : World) (r : Option Nat) : a.grownBy a r := ⟨rfl, rfl, rfl, Nat.le_refl _, fun _ _ _ => rfl⟩

/-- what least leaves -/
def LeastOut (w : World) (g N : Nat) (S : List Nat) (n : Nat) (e : Ending) (w' : World) : Prop :=
  ∃ S', e = .returned (.int .i64 (root S n : Int)) ∧ Sets w' g N S' ∧ Alike S S' ∧ Kept S S' ∧ w.grownBy w' (some g)

set_option maxRecDepth 100000 in
set_option maxHeartbeats 1000000 in
theorem least_any (w : World) (g N : Nat) (S : List Nat) (n : Nat) (hS : Sets w g N S) (hn : n < N) (hN : N ≤ 100000000) :
    Calls Try.prog 44 #[.slice (some ⟨g, 0, none⟩) N N, .int .i64 (n : Int)] w (LeastOut w g N S n) := by
  have HS := Lib.hid hS
  clear hS
  obtain ⟨R, hR⟩ : ∃ R, LeastOut w g N S n = R := ⟨_, rfl⟩
  rw [hR]
  have HR := Lib.hid hR
  clear hR
  go_enter Try.func44, Try.ntmps44
  go_wp2_with fail
  go_loopg [1] n (fun k i wx => ∃ (m : Nat) (S' : List Nat), i = .int .i64 (m : Int) ∧ m ≤ k ∧ m < N ∧ Sets wx g N S' ∧ Alike S S' ∧ Kept S S' ∧ root S m = root S n ∧ w.grownBy wx (some g))
  case atStart => exact ⟨n, S, rfl, Nat.le_refl _, hn, HS.out, fun _ _ => rfl, fun _ _ h => h, rfl, grown_self _ _⟩
  case round =>
    obtain ⟨m, S', rfl, hm, hmN, hs, hal, hkp, hro, hg⟩ := hrel
    have c0 := hs.cell hmN
    have f0 := hs.free m
    have hle : S'.getD m 0 ≤ m := hs.down m (by rw [hs.len]; exact hmN)
    have HS' := Lib.hid hs
    have HA := Lib.hid hal
    have HK := Lib.hid hkp
    have HO := Lib.hid hro
    have HG := Lib.hid hg
    clear hs hal hkp hro hg
    by_cases hend : S'.getD m 0 = m
    · have hroot : root S n = m := by rw [← HO.out, ← HA.out m (by rw [HS.out.len]; exact hmN)]; exact root_of_end hend
      have HRT := Lib.hid hroot
      rw [hend] at c0
      clear hend hroot hle
      go_wp2_with fail
      rw [← HR.out]
      exact ⟨S', by rw [HRT.out]; rfl, HS'.out, HA.out, HK.out, HG.out⟩
    · have hlt : S'.getD m 0 < m := by omega
      have c1 := HS'.out.cell (k := S'.getD m 0) (by omega)
      have hle2 : S'.getD (S'.getD m 0) 0 ≤ S'.getD m 0 := HS'.out.down _ (by rw [HS'.out.len]; omega)
      have hrs : root S' (S'.getD (S'.getD m 0) 0) = root S' m := by
        rw [root_step hlt, ← root_to HS'.out.down (by rw [HS'.out.len]; omega)]
      have hst := HS'.out.store (k := m) (v := S'.getD (S'.getD m 0) 0) hmN (by omega)
      have hal2 : Alike S (S'.set m (S'.getD (S'.getD m 0) 0)) := fun i hi => by
        rw [root_set HS'.out.down (by rw [HS'.out.len]; exact hmN) (by omega) hrs i (by rw [HS'.out.len, ← HS.out.len]; exact hi)]
        exact HA.out i hi
      have hro2 : root S (S'.getD (S'.getD m 0) 0) = root S n := by
        rw [← HO.out, ← HA.out m (by rw [HS.out.len]; exact hmN), ← HA.out (S'.getD (S'.getD m 0) 0) (by rw [HS.out.len]; omega)]
        exact hrs
      have hkp2 : Kept S (S'.set m (S'.getD (S'.getD m 0) 0)) := fun j hj hr => by
        have h1 := HK.out j hj hr
        rw [getD_setN S' m j (by rw [HS'.out.len]; exact hmN)]
        by_cases e : m = j
        · subst e
          rw [if_pos rfl, h1]
          have h2 := root_end HS'.out.down m (by rw [HS'.out.len]; exact hmN)
          rw [HA.out m hj] at h2
          exact h2
        · rw [if_neg e]; exact h1
      have HST := Lib.hid hst
      have HK2 := Lib.hid hkp2
      have HA2 := Lib.hid hal2
      have HO2 := Lib.hid hro2
      clear hst hal2 hkp2 hro2 hrs
      generalize S'.getD (S'.getD m 0) 0 = v at c1 hle2 HST HA2 HK2 HO2
      generalize S'.getD m 0 = u at c0 c1 hend hlt hle2
      clear hend
      have hne : ((u : Int) == (m : Int)) = false := by simp; omega
      have hne2 : (u == m) = false := by simp; omega
      go_wp2_with fail
      go_roundg v
      case measure => omega
      case rel => exact ⟨v, _, rfl, Nat.le_refl _, by omega, HST.out.1, HA2.out, HK2.out, HO2.out, grown_then HG.out HST.out.2⟩

/-- what join leaves -/
def JoinOut (w : World) (g N : Nat) (S : List Nat) (x y : Nat) (e : Ending) (w' : World) : Prop :=
  ∃ S', e = .returned (.tuple #[]) ∧ Sets w' g N S' ∧ (∀ i, i < N → root S' i = if root S i = max (root S x) (root S y) then min (root S x) (root S y) else root S i) ∧ w.grownBy w' (some g)

set_option maxRecDepth 100000 in
set_option maxHeartbeats 1000000 in
theorem sjoin_any (w : World) (g N : Nat) (S : List Nat) (x y : Nat) (hS : Sets w g N S) (hx : x < N) (hy : y < N) (hN : N ≤ 100000000) :
    Calls Try.prog 43 #[.slice (some ⟨g, 0, none⟩) N N, .int .i64 (x : Int), .int .i64 (y : Int)] w (JoinOut w g N S x y) := by
  have HS := Lib.hid hS
  clear hS
  obtain ⟨R, hR⟩ : ∃ R, JoinOut w g N S x y = R := ⟨_, rfl⟩
  rw [hR]
  have HR := Lib.hid hR
  clear hR
  go_enter Try.func43, Try.ntmps43
  go_wp2_with fail
  refine (least_any _ _ _ _ _ HS.out hx hN).mono ?_
  rintro e w1 ⟨S1, rfl, hs1, ha1, -, hg1⟩
  have H1 := Lib.hid hs1
  have HA1 := Lib.hid ha1
  have HG1 := Lib.hid hg1
  clear hs1 ha1 hg1
  go_wp2_with fail
  refine (least_any _ _ _ _ _ H1.out hy hN).mono ?_
  rintro e w2 ⟨S2, rfl, hs2, ha2, -, hg2⟩
  have h12 : root S1 y = root S y := HA1.out y (by rw [HS.out.len]; exact hy)
  rw [h12]
  have H2 := Lib.hid hs2
  have HA2 := Lib.hid (show Alike S S2 from fun i hi => (ha2 i (by rw [H1.out.len, ← HS.out.len]; exact hi)).trans (HA1.out i hi))
  have HG2 := Lib.hid (grown_then HG1.out hg2)
  clear hs2 ha2 hg2 h12
  have la := root_le S x
  have lb := root_le S y
  have hea : S2.getD (root S x) 0 = root S x := by
    have := root_end H2.out.down x (by rw [H2.out.len]; exact hx)
    rw [HA2.out x (by rw [HS.out.len]; exact hx)] at this
    exact this
  have heb : S2.getD (root S y) 0 = root S y := by
    have := root_end H2.out.down y (by rw [H2.out.len]; exact hy)
    rw [HA2.out y (by rw [HS.out.len]; exact hy)] at this
    exact this
  have hroot : ∀ i, i < N → root S2 i = root S i := fun i hi => HA2.out i (by rw [HS.out.len]; exact hi)
  have HEA := Lib.hid hea
  have HEB := Lib.hid heb
  have HRT := Lib.hid hroot
  clear hea heb hroot
  have hfin : ∃ m M : Nat, m = min (root S x) (root S y) ∧ M = max (root S x) (root S y) ∧ m ≤ M ∧ M < N := ⟨_, _, rfl, rfl, by omega, by omega⟩
  obtain ⟨m, M, hm, hM, hmM, hMN⟩ := hfin
  have hst := H2.out.store (k := M) (v := m) hMN hmM
  have hrt : ∀ i, i < N → root (S2.set M m) i = if root S i = M then m else root S i := by
    intro i hi
    rw [← HRT.out i hi]
    by_cases e : m = M
    · have hself : S2.getD M 0 = M := by
        rcases Nat.le_total (root S x) (root S y) with h | h
        · have : M = root S y := by omega
          rw [this]; exact HEB.out
        · have : M = root S x := by omega
          rw [this]; exact HEA.out
      have hset : S2.set M m = S2 := by
        apply List.ext_getElem?
        intro j
        rw [List.getElem?_set]
        by_cases hj : M = j
        · subst hj
          rw [if_pos rfl, if_pos (by rw [H2.out.len]; exact hMN), e]
          rw [List.getD_eq_getElem?_getD, List.getElem?_eq_getElem (by rw [H2.out.len]; exact hMN)] at hself
          rw [List.getElem?_eq_getElem (by rw [H2.out.len]; exact hMN)]
          simpa using hself.symm
        · rw [if_neg hj]
      rw [hset]
      split
      · omega
      · rfl
    · have hends : S2.getD m 0 = m ∧ S2.getD M 0 = M := by
        rcases Nat.le_total (root S x) (root S y) with h | h
        · have h1 : m = root S x := by omega
          have h2 : M = root S y := by omega
          rw [h1, h2]; exact ⟨HEA.out, HEB.out⟩
        · have h1 : m = root S y := by omega
          have h2 : M = root S x := by omega
          rw [h1, h2]; exact ⟨HEB.out, HEA.out⟩
      exact root_join H2.out.down (by omega) (by rw [H2.out.len]; exact hMN) hends.1 hends.2 i (by rw [H2.out.len]; exact hi)
  have HST := Lib.hid hst
  have HRR := Lib.hid hrt
  have HM := Lib.hid hM
  have Hm := Lib.hid hm
  have f0 := H2.out.free M
  have c0 := H2.out.cell hMN
  have hmx : max ((root S x : Nat) : Int) ((root S y : Nat) : Int) = (M : Int) := by omega
  have hmn : min ((root S x : Nat) : Int) ((root S y : Nat) : Int) = (m : Int) := by omega
  clear hst hrt hM hm
  go_wp2_with fail
  have hend : JoinOut w g N S x y (.returned (.tuple #[])) (w2.setCell ⟨g, M, none⟩ (.int .i64 (m : Int))) :=
    ⟨S2.set M m, rfl, HST.out.1, fun i hi => by rw [HRR.out i hi, HM.out, Hm.out], grown_then HG2.out HST.out.2⟩
  rw [HR.out] at hend
  go_end0
  exact hend
end Go.Proofs.Ytakccepilbmmlaa
