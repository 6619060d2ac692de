/- Neighbours that are alike made one: plainly, and in memory. · slices.Compact at []int. · cuts.Merge. · Ranks of sets of leaves, plainly: their order; what the sets of a gate are. · cmp.Compare, slices.Compare, and the two closures of cuts.sets. -/
import Derived.Test.YtaajnmggbhnndaaGreatDoorZRGate
import Derived.Test.YtaajnmggbhnndaaGreatDoorZRTbl
import Derived.Sort.OwnSortedInts
import Derived.Test.YtaajnmggbhnndaaGreatDoorZShelf
import Derived.Shelf.SlSortCmp.WholeK
import Derived.BigQuiet
import Derived.Deep.QuietTactic
import Derived.Deep.RegionHeld3
import Derived.Deep.DrawnRows
namespace Go.Proofs.YtaajnmggbhnndaaGreatDoor
open Go.RowKit
set_option linter.unusedVariables false
set_option linter.unusedSimpArgs false

section
variable {α κ : Type} [Inhabited α] [DecidableEq κ]
/-- the first m, neighbours of like key made one -/
def cptTo (f : α → κ) (L : List α) : Nat → List α
  | 0 => []
  | m + 1 => if m = 0 ∨ f (L.getD m default) ≠ f (L.getD (m - 1) default) then cptTo f L m ++ [L.getD m default] else cptTo f L m
def cpt (f : α → κ) (L : List α) : List α := cptTo f L L.length
theorem cptTo_new {f : α → κ} {L : List α} {m : Nat} (h : m = 0 ∨ f (L.getD m default) ≠ f (L.getD (m - 1) default)) : cptTo f L (m + 1) = cptTo f L m ++ [L.getD m default] := by rw [cptTo, if_pos h]
theorem cptTo_old {f : α → κ} {L : List α} {m : Nat} (h0 : m ≠ 0) (h : f (L.getD m default) = f (L.getD (m - 1) default)) : cptTo f L (m + 1) = cptTo f L m := by rw [cptTo, if_neg (by rintro (h1 | h1); exact h0 h1; exact h1 h)]
theorem cptTo_len (f : α → κ) (L : List α) : ∀ m, (cptTo f L m).length ≤ m
  | 0 => Nat.le_refl _
  | m + 1 => by
    have ih := cptTo_len f L m
    unfold cptTo
    split
    · rw [List.length_append]; simp; omega
    · omega
/-- no two neighbours alike so far: it is what it was -/
theorem cptTo_all {f : α → κ} {L : List α} : ∀ m, m ≤ L.length → (∀ j, 0 < j → j < m → f (L.getD j default) ≠ f (L.getD (j - 1) default)) → cptTo f L m = L.take m
  | 0, _, _ => by simp [cptTo]
  | m + 1, hm, h => by
    have ih := cptTo_all m (by omega) (fun j h1 h2 => h j h1 (by omega))
    rw [cptTo_new, ih, List.take_succ_eq_append_getElem (show m < L.length by omega)]
    · congr 2
      rw [List.getD_eq_getElem?_getD, List.getElem?_eq_getElem (show m < L.length by omega)]; rfl
    · rcases Nat.eq_zero_or_pos m with e | e
      · exact .inl e
      · exact .inr (h m e (by omega))
theorem cptTo_mem {f : α → κ} {L : List α} : ∀ m, m ≤ L.length → ∀ x ∈ cptTo f L m, x ∈ L.take m
  | 0, _, x, h => by simp [cptTo] at h
  | m + 1, hm, x, h => by
    have ih := cptTo_mem (f := f) (L := L) m (by omega) x
    rw [List.take_succ_eq_append_getElem (show m < L.length by omega)]
    unfold cptTo at h
    split at h
    · rcases List.mem_append.1 h with h | h
      · exact List.mem_append_left _ (ih h)
      · refine List.mem_append_right _ ?_
        rw [List.getD_eq_getElem?_getD, List.getElem?_eq_getElem (show m < L.length by omega)] at h
        exact h
    · exact List.mem_append_left _ (ih h)
/-- no key is lost -/
theorem cptTo_key {f : α → κ} {L : List α} : ∀ m, m ≤ L.length → ∀ x ∈ L.take m, ∃ y ∈ cptTo f L m, f y = f x
  | 0, _, x, h => by simp at h
  | m + 1, hm, x, h => by
    have ih := cptTo_key (f := f) (L := L) m (by omega)
    have hL : L.getD m default = L[m] := by rw [List.getD_eq_getElem?_getD, List.getElem?_eq_getElem (show m < L.length by omega)]; rfl
    rw [List.take_succ_eq_append_getElem (show m < L.length by omega)] at h
    unfold cptTo
    split
    · rcases List.mem_append.1 h with h | h
      · obtain ⟨y, hy, e⟩ := ih x h
        exact ⟨y, List.mem_append_left _ hy, e⟩
      · rw [List.mem_singleton] at h
        exact ⟨L.getD m default, List.mem_append_right _ (by simp), by rw [h, hL]⟩
    · next hc =>
      rcases List.mem_append.1 h with h | h
      · exact ih x h
      · rw [List.mem_singleton] at h
        have h0 : m ≠ 0 := fun e => hc (.inl e)
        have h1 : f (L.getD m default) = f (L.getD (m - 1) default) := Decidable.not_not.1 fun e => hc (.inr e)
        have hm1 : L.getD (m - 1) default ∈ L.take m := by
          rw [List.getD_eq_getElem?_getD, List.getElem?_eq_getElem (show m - 1 < L.length by omega)]
          exact List.mem_take_iff_getElem.2 ⟨m - 1, by omega, rfl⟩
        obtain ⟨y, hy, e⟩ := ih _ hm1
        exact ⟨y, hy, by rw [e, ← h1, hL, h]⟩
/-- of a row in order it rises -/
theorem cptTo_rise {f : α → κ} {L : List α} (lt : κ → κ → Prop) (htr : ∀ a b c, lt a b → lt b c → lt a c) (hs : ∀ i j, i < j → j < L.length → lt (f (L.getD i default)) (f (L.getD j default)) ∨ f (L.getD i default) = f (L.getD j default)) :
    ∀ m, m ≤ L.length → (cptTo f L m).Pairwise fun x y => lt (f x) (f y)
  | 0, _ => by simp [cptTo]
  | m + 1, hm => by
    have ih := cptTo_rise lt htr hs m (by omega)
    by_cases hc : m = 0 ∨ f (L.getD m default) ≠ f (L.getD (m - 1) default)
    · rw [cptTo_new hc]
      refine List.pairwise_append.2 ⟨ih, by simp, fun x hx y hy => ?_⟩
      rw [List.mem_singleton] at hy
      subst hy
      have hx' := cptTo_mem m (by omega) x hx
      obtain ⟨j, hj, e⟩ := List.mem_take_iff_getElem.1 hx'
      have hj' : j < m := by omega
      have hxe : x = L.getD j default := by rw [List.getD_eq_getElem?_getD, List.getElem?_eq_getElem (show j < L.length by omega), ← e]; rfl
      have hne : f (L.getD m default) ≠ f (L.getD (m - 1) default) := by rcases hc with h | h; omega; exact h
      have hlt : lt (f (L.getD (m - 1) default)) (f (L.getD m default)) := by
        rcases hs (m - 1) m (by omega) (by omega) with h | h
        · exact h
        · exact absurd h.symm hne
      rw [hxe]
      rcases Nat.lt_or_ge j (m - 1) with h1 | h1
      · rcases hs j (m - 1) h1 (by omega) with h | h
        · exact htr _ _ _ h hlt
        · rw [h]; exact hlt
      · obtain rfl : j = m - 1 := by omega
        exact hlt
    · rw [cptTo, if_neg hc]; exact ih
end
/-! ## In memory -/
theorem Blk.setCells {w : World} {g : Nat} {t : TypeId} : ∀ (vs cs : List Value) (o : Nat), Blk w g t cs.toArray → o + vs.length ≤ cs.length → Blk (w.setCells g o vs) g t (cs.take o ++ vs ++ cs.drop (o + vs.length)).toArray
  | [], cs, o, h, _ => by
    have e : (cs.take o ++ [] ++ cs.drop (o + ([] : List Value).length)) = cs := by simp
    rw [e]; exact h
  | v :: vs, cs, o, h, hl => by
    simp only [List.length_cons] at hl
    have h1 := h.put o v
    have e : cs.toArray.setIfInBounds o v = (cs.set o v).toArray := by simp
    rw [e] at h1
    have ih := Blk.setCells vs (cs.set o v) (o + 1) h1 (by simp; omega)
    have e2 : (cs.set o v).take (o + 1) ++ vs ++ (cs.set o v).drop (o + 1 + vs.length) = cs.take o ++ (v :: vs) ++ cs.drop (o + (v :: vs).length) := by
      rw [List.drop_set_of_lt (by omega), List.take_set]
      have : (cs.take (o + 1)).set o v = cs.take o ++ [v] := by
        rw [List.take_succ_eq_append_getElem (show o < cs.length by omega), List.set_append_right _ _ (by simp; omega)]
        simp [Nat.min_eq_left (by omega : o ≤ cs.length)]
      rw [this]
      simp [Nat.add_assoc, Nat.add_comm 1]
    rw [e2] at ih
    exact ih
theorem Chg.wide {w w' : World} {X Y : Nat → Prop} (h : Chg w w' X) (hx : ∀ k, X k → Y k) : Chg w w' Y := ⟨h.os, h.tape, h.output, h.size, fun k hk hy => h.block k hk fun hX => hy (hx k hX)⟩
theorem Chg.setCells (g : Nat) : ∀ (vs : List Value) (o : Nat) (w : World), Chg w (w.setCells g o vs) fun k => k = g
  | [], o, w => ⟨rfl, rfl, rfl, Nat.le_refl _, fun _ _ _ => rfl⟩
  | v :: vs, o, w => by
    have h1 := Chg.set w g o v
    have h2 := Chg.setCells g vs (o + 1) (w.setCell ⟨g, o, none⟩ v)
    exact (h1.trans h2).wide (fun k h => by rcases h with h | h <;> exact h)
/-- a row that is being made less: P stands ahead, from m - 1 on all is as it was -/
def CptM (w : World) (g : Nat) (t : TypeId) (O : List Value) (sz : Nat) (P : List Value) (m : Nat) : Prop :=
  ∃ cur : List Value, Blk w g t cur.toArray ∧ cur.length = O.length ∧ cur.take P.length = P ∧ cur.drop ((m - 1) * sz) = O.drop ((m - 1) * sz)
theorem CptM.start {w : World} {g : Nat} {t : TypeId} {O : List Value} {sz : Nat} {P : List Value} {m : Nat} (h : Blk w g t O.toArray) (hp : O.take P.length = P) : CptM w g t O sz P m := ⟨O, h, rfl, hp, rfl⟩
theorem CptM.lt {w : World} {g : Nat} {t : TypeId} {O : List Value} {sz : Nat} {P : List Value} {m : Nat} (h : CptM w g t O sz P m) : g < w.heap.size := by obtain ⟨cur, hb, _⟩ := h; exact hb.lt
theorem CptM.keep {w w' : World} {g : Nat} {t : TypeId} {O : List Value} {sz : Nat} {P : List Value} {m : Nat} (h : CptM w g t O sz P m) (hb : Below w.heap.size w w') : CptM w' g t O sz P m := by
  obtain ⟨cur, h1, h2⟩ := h
  exact ⟨cur, h1.keep hb, h2⟩
theorem CptM.more {w : World} {g : Nat} {t : TypeId} {O : List Value} {sz : Nat} {P : List Value} {m m' : Nat} (h : CptM w g t O sz P m) (hm : m ≤ m') : CptM w g t O sz P m' := by
  obtain ⟨cur, h1, h2, h3, h4⟩ := h
  refine ⟨cur, h1, h2, h3, ?_⟩
  have e : (m' - 1) * sz = (m - 1) * sz + ((m' - 1) * sz - (m - 1) * sz) := by have := Nat.mul_le_mul_right sz (show m - 1 ≤ m' - 1 by omega); omega
  rw [e, ← List.drop_drop, h4, List.drop_drop]
/-- a cell that is as it was -/
theorem CptM.cell {w : World} {g : Nat} {t : TypeId} {O : List Value} {sz : Nat} {P : List Value} {m : Nat} (h : CptM w g t O sz P m) {i : Nat} (hi : (m - 1) * sz ≤ i) : w.cell? ⟨g, i, none⟩ = O[i]? := by
  obtain ⟨cur, h1, h2, h3, h4⟩ := h
  rw [h1.cell i]
  have e : i = (m - 1) * sz + (i - (m - 1) * sz) := by omega
  have h5 := congrArg (fun l : List Value => l[i - (m - 1) * sz]?) h4
  simp only [List.getElem?_drop] at h5
  rw [← e] at h5
  simpa using h5
/-- that something is there, and may be written -/
theorem CptM.there {w : World} {g : Nat} {t : TypeId} {O : List Value} {sz : Nat} {P : List Value} {m : Nat} (h : CptM w g t O sz P m) {i : Nat} (hi : i < O.length) : ∃ v, w.cell? ⟨g, i, none⟩ = some v ∧ w.frozen? ⟨g, i, none⟩ = false := by
  obtain ⟨cur, h1, h2, -, -⟩ := h
  have hi' : i < cur.length := by omega
  exact ⟨cur[i], by rw [h1.cell i]; simp [hi'], h1.free i⟩
theorem CptM.put {w : World} {g : Nat} {t : TypeId} {O : List Value} {sz : Nat} {P : List Value} {m : Nat} (h : CptM w g t O sz P m) (vs : List Value) (hv : vs.length = sz) (hp : P.length + sz ≤ m * sz) (hm : m * sz ≤ O.length) : CptM (w.setCells g P.length vs) g t O sz (P ++ vs) (m + 1) := by
  obtain ⟨cur, h1, h2, h3, h4⟩ := h
  refine ⟨_, Blk.setCells vs cur P.length h1 (by omega), ?_, ?_, ?_⟩
  · simp; omega
  · rw [h3, List.take_append_of_le_length (by simp), List.length_append, List.take_of_length_le (by simp)]
  · have hmm : (m - 1) * sz + sz = m * sz ∨ m * sz ≤ sz := by
      rcases Nat.eq_zero_or_pos m with e | e
      · subst e; exact .inr (by omega)
      · refine .inl ?_
        have : (m - 1 + 1) * sz = m * sz := by rw [show m - 1 + 1 = m by omega]
        rw [← this, Nat.add_mul]; omega
    have hle : (m - 1) * sz ≤ m * sz := Nat.mul_le_mul_right _ (by omega)
    have h5 : cur.drop (m * sz) = O.drop (m * sz) := by
      have e : m * sz = (m - 1) * sz + (m * sz - (m - 1) * sz) := by omega
      rw [e, ← List.drop_drop, h4, List.drop_drop]
    rw [Nat.add_sub_cancel, List.drop_append, List.drop_drop, List.length_append, List.length_take, Nat.min_eq_left (by omega), List.drop_eq_nil_of_le (by simp; omega), List.nil_append, hv, show P.length + sz + (m * sz - (P.length + sz)) = m * sz by omega]
    exact h5
end Go.Proofs.YtaajnmggbhnndaaGreatDoor

namespace Go.Proofs.YtaajnmggbhnndaaGreatDoor
open Go.RowKit
set_option linter.unusedVariables false
set_option linter.unusedSimpArgs false

def CptOut (base : Nat) (A : Option Addr) (c : Nat) (L : List Int) (w : World) (r : Ending) (w' : World) : Prop :=
  r = .returned (.slice A (cpt id L).length c) ∧ w'.ownsRow base 3 1 (.slice A (cpt id L).length c) (cpt id L).length (ints (cpt id L)) ∧ Below base w w'
theorem cpt_same {L : List Int} (h : ∀ j, 0 < j → j < L.length → L.getD j 0 ≠ L.getD (j - 1) 0) : cpt id L = L := by
  unfold cpt
  rw [cptTo_all (f := id) (L := L) L.length (Nat.le_refl _) (fun j h1 h2 => h j h1 h2), List.take_length]
theorem below_on {base : Nat} {a w w' : World} (h : Below base a w) (k : Below w.heap.size w w') (hs : base ≤ w.heap.size) : Below base a w' :=
  ⟨k.os.trans h.os, k.tape.trans h.tape, k.output.trans h.output, Nat.le_trans h.size k.size, fun i hi => (k.block i (by omega)).trans (h.block i hi)⟩
theorem below_low {base : Nat} {w w' : World} (hb : base ≤ w.heap.size) (h : Below w.heap.size w w') : Below base w w' := ⟨h.os, h.tape, h.output, h.size, fun k hk => h.block k (by omega)⟩
/-- what is left when the rest has been cleared -/
theorem CptM.own {w : World} {g : Nat} {t : TypeId} {O : List Value} {sz : Nat} {P : List Value} {m c k base : Nat} (h : CptM w g t O sz P m) (zs : List Value) (hk : P.length = k * sz) (hz : k * sz + zs.length ≤ O.length) (hO : O.length = c * sz) (hc : k ≤ c) (hcm : c ≤ maxLen) (hb : base ≤ g) : (w.setCells g (k * sz) zs).ownsRow base t sz (.slice (some ⟨g, 0, none⟩) k c) k P := by
  obtain ⟨cur, h1, h2, h3, h4⟩ := h
  have h5 := Blk.setCells zs cur (k * sz) h1 (by omega)
  refine ⟨hk, .inr ⟨g, c, _, rfl, hb, h5, hc, hcm, by simp; omega, ?_⟩⟩
  simp only [List.append_assoc]
  rw [← hk, h3, List.take_append_of_le_length (by omega), List.take_length]
theorem own_take {w : World} {base : Nat} {e : TypeId} {size n c m : Nat} {A : Option Addr} {xs ys : List Value} (h : w.ownsRow base e size (.slice A n c) n xs) (hm : m ≤ n) (hy : ys = xs.take (m * size)) (h0 : n = 0 → ys = [] ∧ m = 0) : w.ownsRow base e size (.slice A m c) m ys := by
  have hlx := h.1
  have hle := Nat.mul_le_mul_right size hm
  rcases h.2 with ⟨hv, hz⟩ | ⟨g, cap, cur, hv, hb, hh, h1, h2, h3, h4⟩
  · injection hv with e1 e2 e3
    subst e1 e2 e3
    obtain ⟨rfl, rfl⟩ := h0 rfl
    exact World.ownsRow_nil _ _ _ _
  · injection hv with e1 e2 e3
    subst e1 e3
    refine ⟨by rw [hy, List.length_take]; omega, .inr ⟨g, c, cur, rfl, hb, hh, by omega, h2, h3, ?_⟩⟩
    rw [hy, ← h4, List.take_take, Nat.min_eq_left (by omega)]
set_option maxRecDepth 100000 in
set_option maxHeartbeats 4000000 in
theorem compact_any (w : World) (base : Nat) (A : Option Addr) (n c : Nat) (L : List Int) (ho : w.ownsRow base 3 1 (.slice A n c) n (ints L)) (hb : base ≤ w.heap.size) (hn : n ≤ 1000000) :
    Calls Tryz.prog 76 #[.slice A n c] w (CptOut base A c L w) := by
  have hl : L.length = n := by have := ho.1; rw [ints_length] at this; omega
  have HO := Lib.hid ho
  have HL := Lib.hid hl
  have hsame : (∀ j, 0 < j → j < n → L.getD j 0 ≠ L.getD (j - 1) 0) → ∀ w', Below w.heap.size w w' → CptOut base A c L w (.returned (.slice A n c)) w' := fun h w' hw => by
    unfold CptOut
    rw [cpt_same (by rw [hl]; exact h), hl]
    exact ⟨rfl, own_keep ho hw, below_low hb hw⟩
  have HS := Lib.hid hsame
  have hrd := Rd.of_own ho
  have HR := Lib.hid hrd
  have hnc := hrd.cap
  by_cases h2 : n < 2
  · have h2' : (n : Int) < 2 := by omega
    clear ho hsame hrd hl
    go_enter Tryz.func76, Tryz.ntmps76
    go_wp2_with fail
    go_ret
    exact HS.out (fun j h1 h2 => by omega) _ (Below.refl _ _)
  obtain ⟨g, hA, hgb, hgl⟩ := own_some ho (by omega)
  subst hA
  obtain ⟨O, hO, hOt, hcs, hcm⟩ : ∃ O : List Value, Blk w g 3 O.toArray ∧ O.take n = ints L ∧ O.length = c ∧ c ≤ maxLen := by
    rcases ho.2 with ⟨hv, hz⟩ | ⟨g', cap, cur, hv, hg', hh, h1, h2, h3, h4⟩
    · omega
    · injection hv with e1 e2 e3
      injection e1 with e1
      injection e1 with e1
      subst e1 e3
      refine ⟨cur.toList, ?_, by simpa using h4, by simpa using h3, h2⟩
      simpa using (show Blk w g 3 cur from hh)
  have HOB := Lib.hid hO
  have HOT := Lib.hid hOt
  have hg63 : c ≤ 9223372036854775807 := by unfold maxLen at hcm; omega
  have HCM := Lib.hid hcm
  have h2' : ¬ (n : Int) < 2 := by omega
  have hOget : ∀ j, j < n → O[j]? = some (.int .i64 (L.getD j 0)) := fun j hj => by
    have h := congrArg (fun l : List Value => l[j]?) hOt
    simp only [List.getElem?_take_of_lt hj] at h
    rw [h, ints, List.getElem?_map, List.getElem?_eq_getElem (by omega), List.getD_eq_getElem?_getD, List.getElem?_eq_getElem (by omega)]
    rfl
  have HG := Lib.hid hOget
  clear ho hsame hrd hl hO hOt hcm hOget
  go_enter Tryz.func76, Tryz.ntmps76
  go_wp2_with fail
  go_loopw [3] (fun i wx => ∃ k : Nat, 1 ≤ k ∧ k ≤ n ∧ i = .int .i64 (k : Int) ∧ (∀ j, 0 < j → j < k → L.getD j 0 ≠ L.getD (j - 1) 0) ∧ Below w.heap.size w wx) (fun i _ => n - (intOf i).toNat)
  case atStart => exact ⟨1, by omega, by omega, rfl, fun j h1 h2 => absurd h2 (by omega), Below.refl _ _⟩
  case round =>
    obtain ⟨k, hk1, hk, rfl, hdis, hB⟩ := hrel
    have B1 := Lib.hid hB
    have HD := Lib.hid hdis
    clear hB hdis
    by_cases hlt : k < n
    case neg =>
      obtain rfl : k = n := by omega
      go_wp2_with fail
      go_ret
      exact HS.out HD.out _ B1.out
    have hlt' : (k : Int) < (n : Int) := by omega
    obtain ⟨k0, hk0⟩ : ∃ q, k - 1 = q := ⟨_, rfl⟩
    have hk0' : (k : Int) - 1 = (k0 : Int) := by omega
    have hkw : IntKind.i64.wrap (k0 : Int) = (k0 : Int) := IntWalk.i64_in _ (by omega)
    have hk0n : (k0 : Int) < (n : Int) := by omega
    have d0 : wr.cell? ⟨g, k, none⟩ = some (.int .i64 (L.getD k 0)) := (B1.out.cell hgl).trans ((HOB.out.cell k).trans (by simpa using HG.out k hlt))
    have d1 : wr.cell? ⟨g, k0, none⟩ = some (.int .i64 (L.getD k0 0)) := (B1.out.cell hgl).trans ((HOB.out.cell k0).trans (by simpa using HG.out k0 (by omega)))
    have HEQ := Lib.hid (show L.getD k 0 = L.getD k0 0 → L.getD k 0 = L.getD (k - 1) 0 by rw [hk0]; exact id)
    have HNE := Lib.hid (show L.getD k 0 ≠ L.getD k0 0 → ∀ j, 0 < j → j < k + 1 → L.getD j 0 ≠ L.getD (j - 1) 0 from fun h j h1 h2 => by
      rcases Nat.lt_or_ge j k with h3 | h3
      · exact HD.out j h1 h3
      · obtain rfl : j = k := by omega
        rw [hk0]; exact h)
    by_cases hxy : L.getD k 0 = L.getD k0 0
    case neg =>
      have HNX := Lib.hid (HNE.out hxy)
      clear HNE HEQ
      generalize L.getD k 0 = x at d0 hxy
      generalize L.getD k0 0 = y at d1 hxy
      have hdx : (x == y) = false := by simp [hxy]
      go_wp2_with fail
      refine wp_region_still_in (by kernel_rfl) (by kernel_rfl) fun St9 ne9 V9 hV9 hS9 => ?_
      have qd0 := still_cell hV9 d0
      have qd1 := still_cell hV9 d1
      repeat (first | go_big_quiet_step (fail) | quiet_step (fail))
      refine wpQuiet_nil ?_
      intro _ hw9
      obtain ⟨s9, rfl⟩ := hw9
      have hb9 := hV9 s9
      clear qd0 qd1 hS9
      generalize V9 s9 = w9 at hb9 ⊢
      clear hV9 s9 V9 ne9 St9
      have B9 := Lib.hid (below_then B1.out hb9)
      clear hb9 d0 d1
      go_wp2_with fail
      go_roundw
      case rel => exact ⟨k + 1, by omega, by omega, by go_num, HNX.out, B9.out⟩
      case measure => simp [intOf]; omega
    have HQ := Lib.hid (HEQ.out hxy)
    rw [← hxy] at d1
    clear HNE HEQ hxy
    generalize L.getD k 0 = x at d0 d1
    go_wp2_with fail
    refine wp_region_still_in (by kernel_rfl) (by kernel_rfl) fun St9 ne9 V9 hV9 hS9 => ?_
    have qd0 := still_cell hV9 d0
    have qd1 := still_cell hV9 d1
    repeat (first | go_big_quiet_step (fail) | quiet_step (fail))
    refine wpQuiet_nil ?_
    intro _ hw9
    obtain ⟨s9, rfl⟩ := hw9
    have hb9 := hV9 s9
    clear qd0 qd1 hS9
    generalize V9 s9 = w9 at hb9 ⊢
    clear hV9 s9 V9 ne9 St9
    have B9 := Lib.hid (below_then B1.out hb9)
    clear hb9 d0 d1
    go_wp2_with fail
    have hpre : cptTo id L (k + 1) = L.take k := by
      have h0 : L.getD k default = L.getD (k - 1) default := HQ.out
      rw [cptTo_old (f := id) (by omega) h0, cptTo_all (f := id) k (by rw [HL.out]; omega) (fun j h1 h2 => HD.out j h1 h2)]
    have hst : CptM w9 g 3 O 1 (ints (cptTo id L (k + 1))) (k + 1) := by
      refine CptM.start (HOB.out.keep B9.out) ?_
      rw [hpre, ints_length, List.length_take, Nat.min_eq_left (by rw [HL.out]; omega)]
      have h := congrArg (List.take k) HOT.out
      rw [List.take_take, Nat.min_eq_left (by omega)] at h
      rw [h]; simp [ints, List.map_take]
    have hq0 : (cptTo id L (k + 1)).length = k := by rw [hpre, List.length_take, HL.out, Nat.min_eq_left (by omega)]
    have HST := Lib.hid hst
    have HQ0 := Lib.hid hq0
    clear hpre hst hq0 hk0 hk0' hkw hk0n
    go_loopw [3, 5] (fun v3 v5 wx => ∃ (q e : Nat), 1 ≤ e ∧ k + e ≤ n ∧ q + 1 ≤ k + e ∧ v3 = .int .i64 (q : Int) ∧ v5 = .int .i64 (e : Int) ∧ (cptTo id L (k + e)).length = q ∧ CptM wx g 3 O 1 (ints (cptTo id L (k + e))) (k + e) ∧ Below base w wx) (fun _ v5 _ => n - k - (intOf v5).toNat)
    case atStart => exact ⟨k, 1, by omega, by omega, by omega, rfl, rfl, HQ0.out, HST.out, below_low hb B9.out⟩
    case round =>
      obtain ⟨q, e, he1, hen, hqe, rfl, rfl, hql, hM, hBB⟩ := hrel
      have M3 := Lib.hid hM
      have B3 := Lib.hid hBB
      have HQL := Lib.hid hql
      clear hM hBB hql HST HQ0
      by_cases hend : k + e < n
      case neg =>
        have he2 : k + e = n := by omega
        have hlt3 : ¬ (e : Int) < ((n - k : Nat) : Int) := by omega
        have hsub : ((n - k : Nat) : Int) = (e : Int) := by omega
        have hfin : cpt id L = cptTo id L (k + e) := by unfold cpt; rw [HL.out, he2]
        have HF := Lib.hid hfin
        have hcl : ∀ ty, (Builtin.clear_ #[24] ty #[.slice (some ⟨g, q, none⟩) (n - q) (c - q)]).run Tryz.prog wr = .ok (.tuple #[]) (wr.setCells g q (List.replicate (n - q) (.int .i64 0))) := fun ty => by
          refine Lib.run_clear_slice wr 24 3 ty (.int .i64 0) Tryz.underlying24 (fun w => by kernel_rfl) rfl rfl g q (n - q) (c - q) (by omega) (fun j hj => ?_) (fun j hj => ?_)
          · obtain ⟨v, h1, -⟩ := M3.out.there (i := q + j) (by omega)
            rw [h1]; rfl
          · obtain ⟨v, -, h1⟩ := M3.out.there (i := q + j) (by omega)
            exact h1
        have HOWN := Lib.hid (M3.out.own (k := q) (c := c) (base := base) (List.replicate (n - q) (.int .i64 0)) (by rw [ints_length, HQL.out]; omega) (by simp; omega) (by omega) (by omega) HCM.out hgb)
        have hqn : (q : Int) ≤ (n : Int) := by omega
        have hqc : (q : Int) ≤ (c : Int) := by omega
        clear hfin
        go_wp2_with (simp only [hcl])
        go_ret
        unfold CptOut
        rw [HF.out, HQL.out]
        have h9 := HOWN.out
        rw [Nat.mul_one] at h9
        exact ⟨rfl, h9, (Chg.setCells g _ _ _).below B3.out (Nat.le_trans hb B3.out.size) (fun j hj => by rw [hj]; exact hgb)⟩
      have hlt3 : (e : Int) < ((n - k : Nat) : Int) := by omega
      obtain ⟨e0, he0⟩ : ∃ q, e - 1 = q := ⟨_, rfl⟩
      have he0' : (e : Int) - 1 = (e0 : Int) := by omega
      have hew : IntKind.i64.wrap (e0 : Int) = (e0 : Int) := IntWalk.i64_in _ (by omega)
      have he0n : (e0 : Int) < ((n - k : Nat) : Int) := by omega
      have d0 : wr.cell? ⟨g, k + e, none⟩ = some (.int .i64 (L.getD (k + e) 0)) := (M3.out.cell (i := k + e) (by omega)).trans (HG.out (k + e) hend)
      have d1 : wr.cell? ⟨g, k + e0, none⟩ = some (.int .i64 (L.getD (k + e0) 0)) := (M3.out.cell (i := k + e0) (by omega)).trans (HG.out (k + e0) (by omega))
      have hke0 : k + e - 1 = k + e0 := by omega
      by_cases hxy : L.getD (k + e) 0 = L.getD (k + e0) 0
      · have hsm : cptTo id L (k + (e + 1)) = cptTo id L (k + e) := cptTo_old (f := id) (m := k + e) (by omega) (by rw [hke0]; exact hxy)
        have HSM := Lib.hid hsm
        rw [← hxy] at d1
        clear hsm hxy
        generalize L.getD (k + e) 0 = x at d0 d1
        go_wp2_with fail
        refine wp_region_still_in (by kernel_rfl) (by kernel_rfl) fun St8 ne8 V8 hV8 hS8 => ?_
        have qd0 := still_cell hV8 d0
        have qd1 := still_cell hV8 d1
        repeat (first | go_big_quiet_step (fail) | quiet_step (fail))
        refine wpQuiet_nil ?_
        intro _ hw8
        obtain ⟨s8, rfl⟩ := hw8
        have hb8 := hV8 s8
        clear qd0 qd1 hS8
        generalize V8 s8 = w8 at hb8 ⊢
        clear hV8 s8 V8 ne8 St8
        have BB8 := Lib.hid ((below_on B3.out hb8 (Nat.le_trans hgb (Nat.le_of_lt M3.out.lt))))
        have M8 := Lib.hid ((M3.out.keep hb8).more (show k + e ≤ k + (e + 1) by omega))
        clear hb8 d0 d1
        go_wp2_with fail
        go_roundw
        case rel => exact ⟨q, e + 1, by omega, by omega, by omega, rfl, by go_num, by rw [HSM.out]; exact HQL.out, by rw [HSM.out]; exact M8.out, BB8.out⟩
        case measure => simp [intOf]; omega
      · have hsm : cptTo id L (k + (e + 1)) = cptTo id L (k + e) ++ [L.getD (k + e) 0] := cptTo_new (f := id) (m := k + e) (.inr (by rw [hke0]; exact hxy))
        have HSM := Lib.hid hsm
        generalize L.getD (k + e) 0 = x at d0 hxy HSM
        generalize L.getD (k + e0) 0 = y at d1 hxy
        have hdx : (x == y) = false := by simp [hxy]
        have hdx2 : (x != y) = true := by simp [hxy]
        clear hsm
        go_wp2_with fail
        refine wp_region_still_in (by kernel_rfl) (by kernel_rfl) fun St8 ne8 V8 hV8 hS8 => ?_
        have qd0 := still_cell hV8 d0
        have qd1 := still_cell hV8 d1
        repeat (first | go_big_quiet_step (fail) | quiet_step (fail))
        refine wpQuiet_nil ?_
        intro _ hw8
        obtain ⟨s8, rfl⟩ := hw8
        have hb8 := hV8 s8
        clear qd0 qd1 hS8
        generalize V8 s8 = w8 at hb8 ⊢
        clear hV8 s8 V8 ne8 St8
        have d8 := (hb8.cell (p := ⟨g, k + e, none⟩) M3.out.lt).trans d0
        have BB8 := Lib.hid ((below_on B3.out hb8 (Nat.le_trans hgb (Nat.le_of_lt M3.out.lt))))
        have M8 := Lib.hid (M3.out.keep hb8)
        obtain ⟨v0, f0, f1⟩ := M8.out.there (i := q) (by omega)
        have M9 := M8.out.put [.int .i64 x] rfl (by rw [ints_length, HQL.out]; omega) (by omega)
        have e9 : ints (cptTo id L (k + e)) ++ [.int .i64 x] = ints (cptTo id L (k + (e + 1))) := by rw [HSM.out, ints_append]; rfl
        rw [ints_length, HQL.out, e9] at M9
        have M9' := Lib.hid (show CptM (w8.setCell ⟨g, q, none⟩ (.int .i64 x)) g 3 O 1 (ints (cptTo id L (k + (e + 1)))) (k + (e + 1)) from M9)
        have B9' := Lib.hid (BB8.out.setCell (p := ⟨g, q, none⟩) hgb (.int .i64 x))
        have hqn : (q : Int) < (n : Int) := by omega
        clear hb8 d0 d1 M9 e9
        go_wp2_with fail
        go_roundw
        case rel => exact ⟨q + 1, e + 1, by omega, by omega, by omega, by go_num, by go_num, by rw [HSM.out, List.length_append, HQL.out]; rfl, M9'.out, B9'.out⟩
        case measure => simp [intOf]; omega
end Go.Proofs.YtaajnmggbhnndaaGreatDoor

namespace Go.Proofs.YtaajnmggbhnndaaGreatDoor
open Go.RowKit Go.Sort
set_option linter.unusedVariables false
set_option linter.unusedSimpArgs false

/-- a list of ints in order -/
def srt (L : List Int) : List Int := L.mergeSort fun x y => decide (x ≤ y)
theorem srt_len (L : List Int) : (srt L).length = L.length := List.length_mergeSort L
theorem srt_mem (L : List Int) (x : Int) : x ∈ srt L ↔ x ∈ L := by unfold srt; exact List.mem_mergeSort
theorem srt_pair (L : List Int) : (srt L).Pairwise (· ≤ ·) := by
  have h := List.pairwise_mergeSort (le := fun (x y : Int) => decide (x ≤ y)) (fun a b c h1 h2 => by simp at *; omega) (fun a b => by simp; omega) L
  exact h.imp (fun h => by simpa using h)
theorem pair_at {l : List Int} {r : Int → Int → Prop} (h : l.Pairwise r) {i j : Nat} (hij : i < j) (hj : j < l.length) : r (l.getD i 0) (l.getD j 0) := by
  have := List.pairwise_iff_getElem.1 h i j (by omega) hj hij
  rw [List.getD_eq_getElem?_getD, List.getD_eq_getElem?_getD, List.getElem?_eq_getElem (show i < l.length by omega), List.getElem?_eq_getElem hj]
  exact this
theorem cpt_srt_rises (L : List Int) : Cut.Rises (cpt id (srt L)) := by
  unfold cpt Cut.Rises
  refine (cptTo_rise (f := (id : Int → Int)) (L := srt L) (· < ·) (fun a b c h1 h2 => Int.lt_trans h1 h2) (fun i j hij hj => ?_) (srt L).length (Nat.le_refl _))
  have := pair_at (srt_pair L) hij hj
  simp only [id]
  rcases Int.lt_or_eq_of_le this with h | h
  · exact .inl h
  · exact .inr h
theorem cpt_mem_int (L : List Int) (x : Int) : x ∈ cpt id L ↔ x ∈ L := by
  constructor
  · intro h
    have := cptTo_mem (f := (id : Int → Int)) (L := L) L.length (Nat.le_refl _) x h
    rwa [List.take_length] at this
  · intro h
    obtain ⟨y, hy, e⟩ := cptTo_key (f := (id : Int → Int)) (L := L) L.length (Nat.le_refl _) x (by rwa [List.take_length])
    rwa [← show y = x from e]
/-- what Sort and Compact make of both lists -/
theorem cpt_srt {a b : List Int} (ha : Cut.Rises a) (hb : Cut.Rises b) : cpt id (srt (a ++ b)) = Cut.mrg a b :=
  Cut.rises_uniq (cpt_srt_rises _) (Cut.mrg_rises a b ha hb) (fun x => by rw [cpt_mem_int, srt_mem, Cut.mem_mrg, List.mem_append])
theorem sort_any (w : World) (base : Nat) (A : Option Addr) (n c : Nat) (L : List Int) (ho : w.ownsRow base 3 1 (.slice A n c) n (ints L)) (hb : base ≤ w.heap.size) (hn : n ≤ 100000000) :
    Calls Tryz.prog 75 #[.slice A n c] w fun e w' => e = .returned (.tuple #[]) ∧ w'.ownsRow base 3 1 (.slice A n c) n (ints (srt L)) ∧ Below base w w' := by
  have hl : L.length = n := by have := ho.1; rw [ints_length] at this; omega
  rcases Nat.eq_zero_or_pos n with h0 | h0
  · subst h0
    obtain rfl : L = [] := List.eq_nil_of_length_eq_zero hl
    have h := AnyM.slices_Sort_int_none Tryz.sortInt A c w
    change Calls Tryz.prog 75 _ _ _ at h
    refine h.mono ?_
    rintro e w' ⟨rfl, rfl⟩
    exact ⟨rfl, by simpa [srt] using ho, Below.refl _ _⟩
  · rcases ho.2 with ⟨hv, hz⟩ | ⟨g, cap, cur, hv, hg, hh, hc, hm, hs, ht⟩
    · omega
    · injection hv with h1 h2 h3
      subst h1 h3
      have hlt := lt_of_block hh
      have hH : Holds (Value.int .i64) w g 0 L.toArray := holds_of_blockI hh (by rw [hl]; simpa [ints] using ht)
      have h := AnyM.slices_Sort_int Tryz.sortInt g 0 c L w hH hlt (by omega)
      change Calls Tryz.prog 75 _ _ _ at h
      rw [hl] at h
      refine h.mono ?_
      rintro e w' ⟨rfl, k, os, rfl⟩
      refine ⟨rfl, ?_, ?_⟩
      · have := ownsRow_sortedI (os := os) (n := k) (ts := srt L) (ss := L) (srt_len L) hg hh (by omega) hm hs
        rw [hl] at this
        exact this
      · exact (Below.refl _ _).grown (grownBy_sortedI _) hb (fun j hj => by cases hj; exact hg)
set_option maxRecDepth 100000 in
set_option maxHeartbeats 4000000 in
theorem cmerge_any (A B : Option Addr) (c d : Nat) (a b : List Int) (k : Int) (w : World) (ha : Rd w 1 A a.length c (ints a)) (hb : Rd w 1 B b.length d (ints b)) (hna : a.length ≤ 400000) (hnb : b.length ≤ 400000) :
    Calls Tryz.prog 56 #[.slice A a.length c, .slice B b.length d, .int .i64 k] w (MrgOut (Cut.merge a b k) w) := by
  have HRA := Lib.hid (fun (W : World) (hB : Below w.heap.size w W) => crises_any A c a W (ha.later hB) (by omega))
  have HRB := Lib.hid (fun (W : World) (hB : Below w.heap.size w W) => crises_any B d b W (hb.later hB) (by omega))
  have HA := Lib.hid ha
  have HB := Lib.hid hb
  obtain ⟨n, hn⟩ : ∃ n, a.length = n := ⟨_, rfl⟩
  obtain ⟨m, hm⟩ : ∃ n, b.length = n := ⟨_, rfl⟩
  have HN := Lib.hid hn
  have HM := Lib.hid hm
  rw [hn] at HA HRA hna ⊢
  rw [hm] at HB HRB hnb ⊢
  clear ha hb hn hm
  obtain ⟨o, ho⟩ : ∃ o, Cut.merge a b k = o := ⟨_, rfl⟩
  have HOO := Lib.hid ho
  rw [ho]
  clear ho
  by_cases hk0 : k < 0
  · have hoo := Lib.hid (show o = none by rw [← HOO.out]; exact merge_none (fun h => by omega))
    go_enter Tryz.func56, Tryz.ntmps56
    go_wp2_with fail
    go_ret2
    rw [hoo.out]
    exact .none (Below.refl _ _)
  by_cases hk6 : 6 < k
  · have hoo := Lib.hid (show o = none by rw [← HOO.out]; exact merge_none (fun h => by omega))
    go_enter Tryz.func56, Tryz.ntmps56
    go_wp2_with fail
    go_ret2
    rw [hoo.out]
    exact .none (Below.refl _ _)
  by_cases h1 : Cut.Rises a
  case neg =>
    have hoo := Lib.hid (show o = none by rw [← HOO.out]; exact merge_none (fun h => h1 h.1))
    have e1 : decide (Cut.Rises a) = false := decide_eq_false h1
    rw [e1] at HRA
    clear h1 e1
    go_enter Tryz.func56, Tryz.ntmps56
    go_wp2_with fail
    refine (HRA.out _ (Below.refl _ _)).mono ?_
    rintro e w1 ⟨rfl, hb1⟩
    have B1 := Lib.hid hb1
    clear hb1
    go_wp2_with fail
    go_ret2
    rw [hoo.out]
    exact .none B1.out
  have e1 : decide (Cut.Rises a) = true := decide_eq_true h1
  rw [e1] at HRA
  by_cases h2 : Cut.Rises b
  case neg =>
    have hoo := Lib.hid (show o = none by rw [← HOO.out]; exact merge_none (fun h => h2 h.2.1))
    have e2 : decide (Cut.Rises b) = false := decide_eq_false h2
    rw [e2] at HRB
    clear h1 e1 h2 e2
    go_enter Tryz.func56, Tryz.ntmps56
    go_wp2_with fail
    refine (HRA.out _ (Below.refl _ _)).mono ?_
    rintro e w1 ⟨rfl, hb1⟩
    have B1 := Lib.hid hb1
    clear hb1
    go_wp2_with fail
    refine (HRB.out _ B1.out).mono ?_
    rintro e w2 ⟨rfl, hb2⟩
    have B2 := Lib.hid (below_then B1.out hb2)
    clear hb2
    go_wp2_with fail
    go_ret2
    rw [hoo.out]
    exact .none B2.out
  have e2 : decide (Cut.Rises b) = true := decide_eq_true h2
  rw [e2] at HRB
  have HML := Lib.hid (Cut.mrg_len a b)
  have HC := Lib.hid (cpt_srt h1 h2)
  have H12 := Lib.hid (And.intro h1 h2)
  clear h1 e1 h2 e2
  by_cases hkn : k < (n : Int)
  · have hoo := Lib.hid (show o = none by rw [← HOO.out]; exact merge_none (fun h => by have := h.2.2.2.2; have := HML.out.1; rw [HN.out] at this; omega))
    go_enter Tryz.func56, Tryz.ntmps56
    go_wp2_with fail
    refine (HRA.out _ (Below.refl _ _)).mono ?_
    rintro e w1 ⟨rfl, hb1⟩
    have B1 := Lib.hid hb1
    clear hb1
    go_wp2_with fail
    refine (HRB.out _ B1.out).mono ?_
    rintro e w2 ⟨rfl, hb2⟩
    have B2 := Lib.hid (below_then B1.out hb2)
    clear hb2
    go_wp2_with fail
    go_ret2
    rw [hoo.out]
    exact .none B2.out
  by_cases hkm : k < (m : Int)
  · have hoo := Lib.hid (show o = none by rw [← HOO.out]; exact merge_none (fun h => by have := h.2.2.2.2; have := HML.out.2.1; rw [HM.out] at this; omega))
    go_enter Tryz.func56, Tryz.ntmps56
    go_wp2_with fail
    refine (HRA.out _ (Below.refl _ _)).mono ?_
    rintro e w1 ⟨rfl, hb1⟩
    have B1 := Lib.hid hb1
    clear hb1
    go_wp2_with fail
    refine (HRB.out _ B1.out).mono ?_
    rintro e w2 ⟨rfl, hb2⟩
    have B2 := Lib.hid (below_then B1.out hb2)
    clear hb2
    go_wp2_with fail
    go_ret2
    rw [hoo.out]
    exact .none B2.out
  have hnm : n ≤ 6 ∧ m ≤ 6 := by omega
  obtain ⟨hn6, hm6⟩ := hnm
  -- both lists in a row
  have hcat : cat [((A, c, a) : SL), (B, d, b)] = a ++ b := by simp [cat]
  have HCC := Lib.hid (fun (W : World) (hB : Below w.heap.size w W) => by
    have h := concat_any (W.alloc (.cells #[slv (A, c, a), slv (B, d, b)] 24)) (some ⟨W.heap.size, 0, none⟩) 2 2 [((A, c, a) : SL), (B, d, b)] rfl (rd_new W 24 [slv (A, c, a), slv (B, d, b)]) (fun l hl => by
      rcases List.mem_cons.1 hl with e | hl
      · subst e; exact (by rw [HN.out]; exact HA.out : Rd w 1 A a.length c (ints a)).later (below_then hB (below_new _ _))
      · rw [List.mem_singleton] at hl
        subst hl; exact (by rw [HM.out]; exact HB.out : Rd w 1 B b.length d (ints b)).later (below_then hB (below_new _ _))) (by omega) (by rw [hcat, List.length_append, HN.out, HM.out]; omega)
    rw [hcat] at h
    exact h)
  have hab : (a ++ b).length = n + m := by rw [List.length_append, HN.out, HM.out]
  rw [hab] at HCC
  simp only [slv, HN.out, HM.out] at HCC
  clear hcat
  go_enter Tryz.func56, Tryz.ntmps56
  go_wp2_with fail
  refine (HRA.out _ (Below.refl _ _)).mono ?_
  rintro e w1 ⟨rfl, hb1⟩
  have B1 := Lib.hid hb1
  clear hb1
  go_wp2_with fail
  refine (HRB.out _ B1.out).mono ?_
  rintro e w2 ⟨rfl, hb2⟩
  have B2 := Lib.hid (below_then B1.out hb2)
  clear hb2 B1 HRA HRB
  go_wp2_with fail
  refine (HCC.out _ B2.out).mono ?_
  rintro e w3 ⟨A3, c3, rfl, hb3, hown3⟩
  have B3 := Lib.hid (below_then (below_then B2.out (below_new _ _)) hb3)
  have O3 := Lib.hid (own_down hown3 (base' := w.heap.size) (Nat.le_trans B2.out.size (by simp)))
  clear hb3 hown3 HCC
  go_wp2_with fail
  refine (sort_any w3 w.heap.size A3 (n + m) c3 (a ++ b) O3.out B3.out.size (by omega)).mono ?_
  rintro e w4 ⟨rfl, hown4, hb4⟩
  have O4 := Lib.hid hown4
  have B4 := Lib.hid ((show Below w.heap.size w w4 from ⟨hb4.os.trans B3.out.os, hb4.tape.trans B3.out.tape, hb4.output.trans B3.out.output, Nat.le_trans B3.out.size hb4.size, fun i hi => (hb4.block i hi).trans (B3.out.block i hi)⟩))
  clear hown4 hb4 O3 B3
  go_wp2_with fail
  have hco := compact_any w4 w.heap.size A3 (n + m) c3 (srt (a ++ b)) O4.out B4.out.size (by omega)
  unfold CptOut at hco
  rw [HC.out] at hco
  refine hco.mono ?_
  rintro e w5 ⟨rfl, hown5, hb5⟩
  have O5 := Lib.hid hown5
  have B5 := Lib.hid ((show Below w.heap.size w w5 from ⟨hb5.os.trans B4.out.os, hb5.tape.trans B4.out.tape, hb5.output.trans B4.out.output, Nat.le_trans B4.out.size hb5.size, fun i hi => (hb5.block i hi).trans (B4.out.block i hi)⟩))
  clear hown5 hb5 O4 B4 hco
  by_cases hlen : k < ((Cut.mrg a b).length : Int)
  · have hoo := Lib.hid (show o = none by rw [← HOO.out]; exact merge_none (fun h => by have := h.2.2.2.2; omega))
    go_wp2_with fail
    go_ret2
    rw [hoo.out]
    exact .none B5.out
  · have hoo := Lib.hid (show o = some (Cut.mrg a b) by rw [← HOO.out]; exact merge_some ⟨H12.out.1, H12.out.2, by omega, by omega, by omega⟩)
    go_wp2_with fail
    go_ret2
    rw [hoo.out]
    exact .some B5.out O5.out
end Go.Proofs.YtaajnmggbhnndaaGreatDoor

namespace Go.Proofs.YtaajnmggbhnndaaGreatDoor.Cut
set_option linter.unusedVariables false
set_option linter.unusedSimpArgs false
def cmpI (a b : Int) : Int := if a < b then -1 else if a > b then 1 else 0
def cmpL : List Int → List Int → Int
  | [], [] => 0
  | [], _ :: _ => -1
  | _ :: _, [] => 1
  | x :: a, y :: b => if cmpI x y ≠ 0 then cmpI x y else cmpL a b
theorem cmpI_eq (x y : Int) : cmpI x y = 0 ↔ x = y := by unfold cmpI; split <;> (try split) <;> omega
theorem cmpI_lt (x y : Int) : cmpI x y < 0 ↔ x < y := by unfold cmpI; split <;> (try split) <;> omega
theorem cmpI_gt (x y : Int) : 0 < cmpI x y ↔ y < x := by unfold cmpI; split <;> (try split) <;> omega
theorem cmpI_swap (x y : Int) : cmpI y x = -cmpI x y := by unfold cmpI; split <;> split <;> (try split) <;> (try split) <;> omega
theorem cmpL_swap : ∀ a b : List Int, cmpL b a = -cmpL a b
  | [], [] => rfl
  | [], _ :: _ => rfl
  | _ :: _, [] => rfl
  | x :: a, y :: b => by
    have h := cmpI_swap x y
    have ih := cmpL_swap a b
    simp only [cmpL]
    split <;> split <;> omega
theorem cmpL_eq : ∀ a b : List Int, cmpL a b = 0 ↔ a = b
  | [], [] => by simp [cmpL]
  | [], _ :: _ => by simp [cmpL]
  | _ :: _, [] => by simp [cmpL]
  | x :: a, y :: b => by
    have h := cmpI_eq x y
    have ih := cmpL_eq a b
    simp only [cmpL, List.cons.injEq]
    split
    · next hc => exact ⟨fun e => absurd e hc, fun e => absurd (h.2 e.1) hc⟩
    · next hc =>
      have hc' : cmpI x y = 0 := Decidable.not_not.1 hc
      rw [ih]
      exact ⟨fun e => ⟨h.1 hc', e⟩, fun e => e.2⟩
theorem cmpL_trans : ∀ a b c : List Int, cmpL a b ≤ 0 → cmpL b c ≤ 0 → cmpL a c ≤ 0 ∧ (cmpL a b < 0 ∨ cmpL b c < 0 → cmpL a c < 0)
  | [], [], [], _, _ => by simp [cmpL]
  | [], [], _ :: _, _, _ => by simp [cmpL]
  | [], _ :: _, [], _, h => by simp [cmpL] at h
  | [], _ :: _, _ :: _, _, _ => by simp [cmpL]
  | _ :: _, [], _, h, _ => by simp [cmpL] at h
  | _ :: _, _ :: _, [], _, h => by simp [cmpL] at h
  | x :: a, y :: b, z :: c, h1, h2 => by
    have ih := cmpL_trans a b c
    have e1 := cmpI_eq x y; have e2 := cmpI_eq y z; have e3 := cmpI_eq x z
    have l1 := cmpI_lt x y; have l2 := cmpI_lt y z; have l3 := cmpI_lt x z
    simp only [cmpL] at h1 h2 ⊢
    by_cases c1 : cmpI x y ≠ 0 <;> by_cases c2 : cmpI y z ≠ 0 <;> by_cases c3 : cmpI x z ≠ 0 <;> simp only [c1, c2, c3, if_true, if_false, ne_eq, not_true, not_false_eq_true] at h1 h2 ⊢ <;> first | omega | exact ih h1 h2
/-- the rank of a set -/
def rankOf (d l : List Int) : List Int := deep d l :: (l.length : Int) :: (List.range 6).map (fun i => l.getD i 0)
theorem six_lex : ∀ (n : Nat) (a b : List Int), a.length = b.length → a.length ≤ n → (cmpL ((List.range n).map (fun i => a.getD i 0)) ((List.range n).map (fun i => b.getD i 0)) < 0 ↔ lexB a b = true)
  | 0, [], [], _, _ => by simp [cmpL, lexB]
  | n + 1, [], [], _, _ => by
    have : cmpL ((List.range (n + 1)).map (fun i => ([] : List Int).getD i 0)) ((List.range (n + 1)).map (fun i => ([] : List Int).getD i 0)) = 0 := (cmpL_eq _ _).2 rfl
    rw [this]; simp [lexB]
  | n + 1, x :: a, y :: b, h1, h2 => by
    have ih := six_lex n a b (by simpa using h1) (by simpa using h2)
    have e : ∀ (x : Int) (a : List Int), (List.range (n + 1)).map (fun i => (x :: a).getD i 0) = x :: (List.range n).map (fun i => a.getD i 0) := fun x a => by
      rw [List.range_succ_eq_map]; simp
    rw [e, e, cmpL, lexB]
    have c1 := cmpI_eq x y
    have c2 := cmpI_lt x y
    by_cases hxy : x = y
    · rw [if_neg (by rw [c1.2 hxy]; simp), if_neg (by simp [hxy]), ih]
    · rw [if_pos (fun h => hxy (c1.1 h)), if_pos hxy, c2]; simp
  | 0, _ :: _, _, _, h => by simp at h
  | _, [], _ :: _, h, _ => by simp at h
  | _, _ :: _, [], h, _ => by simp at h
theorem ahead_rank (d : List Int) {a b : List Int} (ha : a.length ≤ 6) (hb : b.length ≤ 6) : aheadB d a b = decide (cmpL (rankOf d a) (rankOf d b) < 0) := by
  unfold aheadB rankOf
  rw [cmpL, cmpL]
  have c1 := cmpI_eq (deep d a) (deep d b)
  have c2 := cmpI_lt (deep d a) (deep d b)
  have c3 := cmpI_eq (a.length : Int) (b.length : Int)
  have c4 := cmpI_lt (a.length : Int) (b.length : Int)
  by_cases h1 : deep d a = deep d b
  · rw [c1.2 h1]
    simp only [h1, ne_eq, not_true_eq_false, if_false]
    by_cases h2 : a.length = b.length
    · rw [c3.2 (by omega)]
      simp only [h2, ne_eq, not_true_eq_false, if_false]
      have := six_lex 6 a b h2 ha
      rw [Bool.eq_iff_iff, decide_eq_true_eq, this]
    · rw [if_pos h2, if_pos (fun h => h2 (by have := c3.1 h; omega))]
      rw [Bool.eq_iff_iff, decide_eq_true_eq, decide_eq_true_eq, c4]; omega
  · rw [if_pos h1, if_pos (fun h => h1 (c1.1 h))]
    rw [Bool.eq_iff_iff, decide_eq_true_eq, decide_eq_true_eq, c2]
theorem six_inj : ∀ (n : Nat) (a b : List Int), a.length = b.length → a.length ≤ n → (List.range n).map (fun i => a.getD i 0) = (List.range n).map (fun i => b.getD i 0) → a = b := by
  intro n a b h1 h2 h
  apply List.ext_getElem h1
  intro i hi hj
  have h3 := congrArg (fun l : List Int => l[i]?) h
  simp only [List.getElem?_map, List.getElem?_range (by omega : i < n), Option.map_some] at h3
  rw [List.getD_eq_getElem?_getD, List.getD_eq_getElem?_getD, List.getElem?_eq_getElem hi, List.getElem?_eq_getElem hj] at h3
  simpa using h3
theorem rank_inj (d : List Int) {a b : List Int} (ha : a.length ≤ 6) (hb : b.length ≤ 6) (h : rankOf d a = rankOf d b) : a = b := by
  unfold rankOf at h
  injection h with h1 h
  injection h with h2 h3
  exact six_inj 6 a b (by omega) ha h3
/-- two lists in strict order, of the same members -/
theorem sorted_uniq {α : Type} (r : α → α → Prop) (hirr : ∀ x, ¬ r x x) (htr : ∀ x y z, r x y → r y z → r x z) : ∀ {l m : List α}, l.Pairwise r → m.Pairwise r → (∀ x, x ∈ l ↔ x ∈ m) → l = m
  | [], [], _, _, _ => rfl
  | [], y :: m, _, _, h => by have := (h y).2 (by simp); cases this
  | x :: l, [], _, _, h => by have := (h x).1 (by simp); cases this
  | x :: l, y :: m, hl, hm, h => by
    have hl' := List.pairwise_cons.1 hl
    have hm' := List.pairwise_cons.1 hm
    have hxy : x = y := by
      rcases List.mem_cons.1 ((h x).1 (by simp)) with e | h1
      · exact e
      · rcases List.mem_cons.1 ((h y).2 (by simp)) with e | h2
        · exact e.symm
        · exact absurd (htr _ _ _ (hm'.1 x h1) (hl'.1 y h2)) (hirr _)
    subst hxy
    rw [sorted_uniq r hirr htr hl'.2 hm'.2 (fun z => ?_)]
    constructor
    · intro hz
      rcases List.mem_cons.1 ((h z).1 (List.mem_cons_of_mem _ hz)) with e | e
      · subst e; exact absurd (hl'.1 _ hz) (hirr _)
      · exact e
    · intro hz
      rcases List.mem_cons.1 ((h z).2 (List.mem_cons_of_mem _ hz)) with e | e
      · subst e; exact absurd (hm'.1 _ hz) (hirr _)
      · exact e
/-- the order of sets -/
def Lt (d a b : List Int) : Prop := cmpL (rankOf d a) (rankOf d b) < 0
theorem Lt.irrefl (d a : List Int) : ¬ Lt d a a := by unfold Lt; rw [(cmpL_eq _ _).2 rfl]; omega
theorem Lt.trans {d a b c : List Int} (h1 : Lt d a b) (h2 : Lt d b c) : Lt d a c := (cmpL_trans _ _ _ (Int.le_of_lt h1) (Int.le_of_lt h2)).2 (.inl h1)
theorem Lt.total (d : List Int) {a b : List Int} (ha : a.length ≤ 6) (hb : b.length ≤ 6) (h : ¬ Lt d a b) : a = b ∨ Lt d b a := by
  unfold Lt at *
  have hs := cmpL_swap (rankOf d a) (rankOf d b)
  by_cases h0 : cmpL (rankOf d a) (rankOf d b) = 0
  · exact .inl (rank_inj d ha hb ((cmpL_eq _ _).1 h0))
  · exact .inr (by omega)
theorem takeWhile_place {α : Type} (p : α → Bool) (L : List α) : (∀ (j : Nat) (h : j < L.length), j < (L.takeWhile p).length → p L[j] = true) ∧ (∀ h : (L.takeWhile p).length < L.length, p L[(L.takeWhile p).length] = false) := by
  induction L with
  | nil => exact ⟨fun j h => by simp at h, fun h => by simp at h⟩
  | cons x L ih =>
    by_cases hx : p x = true
    · have e : ((x :: L).takeWhile p).length = (L.takeWhile p).length + 1 := by rw [List.takeWhile_cons, if_pos hx]; rfl
      refine ⟨fun j h hj => ?_, fun h => ?_⟩
      · rw [e] at hj
        cases j with
        | zero => exact hx
        | succ j => exact ih.1 j (by simpa using h) (by omega)
      · simp only [e] at h ⊢
        exact ih.2 (by simpa using h)
    · have e : ((x :: L).takeWhile p).length = 0 := by rw [List.takeWhile_cons, if_neg hx]; rfl
      refine ⟨fun j h hj => by omega, fun h => ?_⟩
      simp only [e]
      simpa using hx
/-- one set more keeps the order -/
theorem put_sorted (d : List Int) {L : List (List Int)} {x : List Int} (hs : L.Pairwise (Lt d)) (h6 : ∀ l ∈ L, l.length ≤ 6) (hx : x.length ≤ 6) : (put d L x).Pairwise (Lt d) ∧ ∀ y, y ∈ put d L x ↔ y ∈ L ∨ y = x := by
  obtain ⟨h1, h2⟩ := takeWhile_place (fun y => aheadB d y x) L
  obtain ⟨k, hk⟩ : ∃ k, placeOf d L x = k := ⟨_, rfl⟩
  have hk' : (L.takeWhile fun y => aheadB d y x).length = k := hk
  rw [hk'] at h1 h2
  have hb : ∀ (j : Nat) (h : j < L.length), j < k → Lt d L[j] x := fun j h hj => by
    have := h1 j h hj
    rw [ahead_rank d (h6 _ (List.getElem_mem h)) hx] at this
    simpa [Lt] using this
  unfold put
  rw [hk]
  by_cases he : L[k]? = some x
  · rw [if_pos he]
    refine ⟨hs, fun y => ⟨fun h => .inl h, fun h => ?_⟩⟩
    rcases h with h | h
    · exact h
    · rw [h]; exact List.mem_of_getElem? he
  · rw [if_neg he]
    have ha : ∀ (j : Nat) (h : j < L.length), k ≤ j → Lt d x L[j] := fun j h hj => by
      have hkl : k < L.length := by omega
      have hn : ¬ Lt d L[k] x := fun hl => by
        have := h2 hkl
        rw [ahead_rank d (h6 _ (List.getElem_mem hkl)) hx] at this
        simp [Lt] at hl
        simp at this; omega
      have hkx : Lt d x L[k] := by
        rcases Lt.total d (h6 _ (List.getElem_mem hkl)) hx hn with e | e
        · exact absurd (by rw [List.getElem?_eq_getElem hkl, e]) he
        · exact e
      rcases Nat.lt_or_ge k j with h3 | h3
      · exact hkx.trans (List.pairwise_iff_getElem.1 hs k j hkl h h3)
      · obtain rfl : j = k := by omega
        exact hkx
    refine ⟨?_, fun y => ?_⟩
    · rw [List.append_assoc]
      refine List.pairwise_append.2 ⟨hs.sublist (List.take_sublist _ _), ?_, fun y hy z hz => ?_⟩
      · refine List.pairwise_cons.2 ⟨fun z hz => ?_, hs.sublist (List.drop_sublist _ _)⟩
        obtain ⟨j, hj, rfl⟩ := List.mem_drop_iff_getElem.1 hz
        exact ha (k + j) (by omega) (by omega)
      · obtain ⟨i, hi, rfl⟩ := List.mem_take_iff_getElem.1 hy
        rcases List.mem_cons.1 hz with e | hz
        · subst e; exact hb i (by omega) (by omega)
        · obtain ⟨j, hj, rfl⟩ := List.mem_drop_iff_getElem.1 hz
          exact List.pairwise_iff_getElem.1 hs i (k + j) (by omega) (by omega) (by omega)
    · simp only [List.mem_append, List.mem_singleton]
      constructor
      · rintro ((h | h) | h)
        · exact .inl (List.mem_of_mem_take h)
        · exact .inr h
        · exact .inl (List.mem_of_mem_drop h)
      · rintro (h | h)
        · have := List.take_append_drop k L
          rw [← this] at h
          rcases List.mem_append.1 h with h | h
          · exact .inl (.inl h)
          · exact .inr h
        · exact .inl (.inr h)
/-- what is made of pairs -/
theorem fold_sorted (d : List Int) (k : Int) : ∀ (ps : List (List Int × List Int)) (L : List (List Int)), L.Pairwise (Lt d) → (∀ l ∈ L, l.length ≤ 6) →
    (ps.foldl (putM d k) L).Pairwise (Lt d) ∧ ∀ y, y ∈ ps.foldl (putM d k) L ↔ y ∈ L ∨ ∃ p ∈ ps, merge p.1 p.2 k = some y
  | [], L, h1, h2 => ⟨h1, fun y => by simp⟩
  | p :: ps, L, h1, h2 => by
    rw [List.foldl_cons]
    cases hm : merge p.1 p.2 k with
    | none =>
      have e : putM d k L p = L := by unfold putM; rw [hm]
      rw [e]
      have ih := fold_sorted d k ps L h1 h2
      refine ⟨ih.1, fun y => ?_⟩
      rw [ih.2 y]
      simp [hm]
    | some x =>
      have e : putM d k L p = put d L x := by unfold putM; rw [hm]
      rw [e]
      have hx := merge_mem hm
      have hx6 : x.length ≤ 6 := by omega
      have hp := put_sorted d h1 h2 hx6
      have ih := fold_sorted d k ps (put d L x) hp.1 (fun l hl => by rcases (hp.2 l).1 hl with h | h; exact h2 l h; rw [h]; exact hx6)
      refine ⟨ih.1, fun y => ?_⟩
      rw [ih.2 y, hp.2 y]
      simp only [List.mem_cons, exists_eq_or_imp, hm, Option.some.injEq]
      constructor
      · rintro ((h | h) | h)
        · exact .inl h
        · exact .inr (.inl h.symm)
        · exact .inr (.inr h)
      · rintro (h | h | h)
        · exact .inl (.inl h)
        · exact .inl (.inr h.symm)
        · exact .inr h
end Go.Proofs.YtaajnmggbhnndaaGreatDoor.Cut

namespace Go.Proofs.YtaajnmggbhnndaaGreatDoor
open Go.RowKit Go.Shelf Go.Lib Go.Sort
set_option linter.unusedVariables false
set_option linter.unusedSimpArgs false

theorem isNaN_any (a : Int) (w : World) : Calls Tryz.prog 102 #[.int .i64 a] w fun e w' => e = .returned (.bool false) ∧ w = w' := by
  go_enter Tryz.func102, Tryz.ntmps102
  go_wp2
  go_ret
  exact ⟨by simp, rfl⟩
theorem compare_any (a b : Int) (w : World) : Calls Tryz.prog 79 #[.int .i64 a, .int .i64 b] w fun e w' => e = .returned (.int .i64 (Cut.cmpI a b)) ∧ w = w' := by
  by_cases h1 : a < b
  · have e : Cut.cmpI a b = -1 := if_pos h1
    rw [e]; clear e
    go_enter Tryz.func79, Tryz.ntmps79
    go_wp2_with (go_at_call 102; refine (isNaN_any _ _).mono ?_; rintro e w1 ⟨rfl, rfl⟩)
    go_ret
    exact ⟨rfl, rfl⟩
  · by_cases h2 : b < a
    · have e : Cut.cmpI a b = 1 := by unfold Cut.cmpI; rw [if_neg h1, if_pos h2]
      rw [e]; clear e
      go_enter Tryz.func79, Tryz.ntmps79
      go_wp2_with (go_at_call 102; refine (isNaN_any _ _).mono ?_; rintro e w1 ⟨rfl, rfl⟩)
      go_ret
      exact ⟨rfl, rfl⟩
    · have e : Cut.cmpI a b = 0 := by unfold Cut.cmpI; rw [if_neg h1, if_neg (by omega)]
      rw [e]; clear e
      go_enter Tryz.func79, Tryz.ntmps79
      go_wp2_with (go_at_call 102; refine (isNaN_any _ _).mono ?_; rintro e w1 ⟨rfl, rfl⟩)
      go_ret
      exact ⟨rfl, rfl⟩
theorem cmpL_step {l m : List Int} {k : Nat} (h1 : k < l.length) (h2 : k < m.length) : Cut.cmpL (l.drop k) (m.drop k) = if Cut.cmpI (l.getD k 0) (m.getD k 0) ≠ 0 then Cut.cmpI (l.getD k 0) (m.getD k 0) else Cut.cmpL (l.drop (k + 1)) (m.drop (k + 1)) := by
  rw [Cut.drop_at h1, Cut.drop_at h2, Cut.cmpL]
set_option maxRecDepth 100000 in
set_option maxHeartbeats 2000000 in
theorem compares_any (A B : Option Addr) (c d : Nat) (l m : List Int) (w : World) (ha : Rd w 1 A l.length c (ints l)) (hb : Rd w 1 B m.length d (ints m)) (hl : l.length ≤ 1000000) (hm : m.length ≤ 1000000) :
    Calls Tryz.prog 60 #[.slice A l.length c, .slice B m.length d] w fun e w' => e = .returned (.int .i64 (Cut.cmpL l m)) ∧ w = w' := by
  obtain ⟨r, hr⟩ : ∃ r, Cut.cmpL l m = r := ⟨_, rfl⟩
  have HR := Lib.hid hr
  rw [hr]
  obtain ⟨n, hn⟩ : ∃ n, l.length = n := ⟨_, rfl⟩
  obtain ⟨q, hq⟩ : ∃ n, m.length = n := ⟨_, rfl⟩
  have HN := Lib.hid hn
  have HQ := Lib.hid hq
  have HA := Lib.hid ha
  have HB := Lib.hid hb
  rw [hn] at HA hl ⊢
  rw [hq] at HB hm ⊢
  clear ha hb hn hq hr
  go_enter Tryz.func60, Tryz.ntmps60
  go_wp2_with fail
  go_loop [11] (fun i => ∃ k : Nat, k ≤ n ∧ k ≤ q ∧ i = .int .i64 (k : Int) ∧ Cut.cmpL (l.drop k) (m.drop k) = r) (fun i => n - (intOf i).toNat)
  case atStart => exact ⟨0, by omega, by omega, rfl, by simpa using HR.out⟩
  case round =>
    obtain ⟨k, hk, hkq, rfl, hc⟩ := hrel
    by_cases h1 : k < n
    case neg =>
      obtain rfl : k = n := by omega
      have e1 : l.drop k = [] := List.drop_eq_nil_of_le (by rw [HN.out]; exact Nat.le_refl _)
      rw [e1] at hc
      by_cases h2 : k < q
      · have hr1 : r = -1 := by
          rw [← hc, Cut.drop_at (by rw [HQ.out]; exact h2)]; rfl
        have HR1 := Lib.hid hr1
        have h2' : (k : Int) < (q : Int) := by omega
        clear hc hr1
        go_wp2_with fail
        go_ret
        exact ⟨by rw [HR1.out]; rfl, rfl⟩
      · have hr1 : r = 0 := by
          rw [← hc, List.drop_eq_nil_of_le (by rw [HQ.out]; omega)]; rfl
        have HR1 := Lib.hid hr1
        have h2' : ¬ (k : Int) < (q : Int) := by omega
        clear hc hr1
        go_wp2_with fail
        go_ret
        exact ⟨by rw [HR1.out]; rfl, rfl⟩
    have h1' : (k : Int) < (n : Int) := by omega
    obtain ⟨pa, hA, hab, d0⟩ := HA.out.int (k := k) h1
    subst hA
    by_cases h2 : k < q
    case neg =>
      have hr1 : r = 1 := by
        rw [← hc, show m.drop k = [] from List.drop_eq_nil_of_le (by rw [HQ.out]; omega), Cut.drop_at (show k < l.length by rw [HN.out]; exact h1)]; rfl
      have HR1 := Lib.hid hr1
      have h2' : (q : Int) ≤ (k : Int) := by omega
      clear hc hr1
      go_wp2_with fail
      go_ret
      exact ⟨by rw [HR1.out]; rfl, rfl⟩
    have h2' : ¬ (q : Int) ≤ (k : Int) := by omega
    have h2'' : (k : Int) < (q : Int) := by omega
    obtain ⟨pb, hB, hbb, e0⟩ := HB.out.int (k := k) h2
    subst hB
    rw [cmpL_step (by rw [HN.out]; exact h1) (by rw [HQ.out]; exact h2)] at hc
    generalize l.getD k 0 = u at d0 hc
    generalize m.getD k 0 = v at e0 hc
    have HCC := Lib.hid (fun (W : World) => compare_any u v W)
    generalize Cut.cmpI u v = z at hc HCC
    by_cases hz : z = 0
    · subst hz
      rw [if_neg (by simp)] at hc
      have HC := Lib.hid hc
      clear hc
      go_wp2_with (go_at_call 79; refine (HCC.out _).mono ?_; rintro e w1 ⟨rfl, rfl⟩)
      go_round
      case rel => exact ⟨k + 1, by omega, by omega, by go_num, HC.out⟩
      case measure => simp [intOf]; omega
    · rw [if_pos hz] at hc
      have HC := Lib.hid hc
      have hz' : (z != 0) = true := by simp [hz]
      clear hc
      go_wp2_with (go_at_call 79; refine (HCC.out _).mono ?_; rintro e w1 ⟨rfl, rfl⟩)
      go_ret
      exact ⟨by rw [← HC.out]; rfl, rfl⟩
theorem grow_two (w : World) (a b : Obj) : ((w.alloc a).alloc b).drew = grow (w.drewN 1) #[a, b] := by
  unfold grow World.alloc World.drewN World.drew
  simp
  rfl
theorem rd_first {w : World} {g : Nat} {t : TypeId} {cs : List Value} {n : Nat} (h : Blk w g t cs.toArray) (hn : n ≤ cs.length) : Rd w 1 (some ⟨g, 0, none⟩) n n (cs.take n) := by
  refine ⟨by simp; omega, Nat.le_refl _, (fun e => nomatch e), fun j u hj => ⟨⟨g, 0, none⟩, rfl, h.lt, ?_⟩⟩
  have hjn : j < n := by
    rcases Nat.lt_or_ge j n with h1 | h1
    · exact h1
    · rw [List.getElem?_eq_none (by simp; omega)] at hj; cases hj
  rw [List.getElem?_take_of_lt hjn] at hj
  have := h.cell j
  rw [Addr.add_lit]
  simpa using this.trans (by simpa using hj)
set_option maxRecDepth 100000 in
set_option maxHeartbeats 2000000 in
theorem sets1_any (a0 a1 a2 a3 a4 a5 a6 a7 b0 b1 b2 b3 b4 b5 b6 b7 : Int) (x y : Value) (w : World) :
    Calls Tryz.prog 59 #[.agg #[.int .i64 a0, .int .i64 a1, .int .i64 a2, .int .i64 a3, .int .i64 a4, .int .i64 a5, .int .i64 a6, .int .i64 a7, x], .agg #[.int .i64 b0, .int .i64 b1, .int .i64 b2, .int .i64 b3, .int .i64 b4, .int .i64 b5, .int .i64 b6, .int .i64 b7, y]] w fun e w' => e = .returned (.int .i64 (Cut.cmpL [a0, a1, a2, a3, a4, a5, a6, a7] [b0, b1, b2, b3, b4, b5, b6, b7])) ∧ w' = grow (w.drewN 1) #[.cells #[.int .i64 a0, .int .i64 a1, .int .i64 a2, .int .i64 a3, .int .i64 a4, .int .i64 a5, .int .i64 a6, .int .i64 a7, x] 102, .cells #[.int .i64 b0, .int .i64 b1, .int .i64 b2, .int .i64 b3, .int .i64 b4, .int .i64 b5, .int .i64 b6, .int .i64 b7, y] 102] := by
  have X1 : Blk ((w.alloc (.cells #[.int .i64 a0, .int .i64 a1, .int .i64 a2, .int .i64 a3, .int .i64 a4, .int .i64 a5, .int .i64 a6, .int .i64 a7, x] 102)).alloc (.cells #[.int .i64 b0, .int .i64 b1, .int .i64 b2, .int .i64 b3, .int .i64 b4, .int .i64 b5, .int .i64 b6, .int .i64 b7, y] 102)).drew w.heap.size 102 #[.int .i64 a0, .int .i64 a1, .int .i64 a2, .int .i64 a3, .int .i64 a4, .int .i64 a5, .int .i64 a6, .int .i64 a7, x] := ((Blk.made w _ _).alloc _)
  have Y1 : Blk ((w.alloc (.cells #[.int .i64 a0, .int .i64 a1, .int .i64 a2, .int .i64 a3, .int .i64 a4, .int .i64 a5, .int .i64 a6, .int .i64 a7, x] 102)).alloc (.cells #[.int .i64 b0, .int .i64 b1, .int .i64 b2, .int .i64 b3, .int .i64 b4, .int .i64 b5, .int .i64 b6, .int .i64 b7, y] 102)).drew (w.heap.size + 1) 102 #[.int .i64 b0, .int .i64 b1, .int .i64 b2, .int .i64 b3, .int .i64 b4, .int .i64 b5, .int .i64 b6, .int .i64 b7, y] := by
    have h := Blk.made (w.alloc (.cells #[.int .i64 a0, .int .i64 a1, .int .i64 a2, .int .i64 a3, .int .i64 a4, .int .i64 a5, .int .i64 a6, .int .i64 a7, x] 102)) 102 #[.int .i64 b0, .int .i64 b1, .int .i64 b2, .int .i64 b3, .int .i64 b4, .int .i64 b5, .int .i64 b6, .int .i64 b7, y]
    rw [World.size_alloc] at h
    exact h
  have R1 := rd_first (cs := [.int .i64 a0, .int .i64 a1, .int .i64 a2, .int .i64 a3, .int .i64 a4, .int .i64 a5, .int .i64 a6, .int .i64 a7, x]) X1 (n := 8) (by simp)
  have R2 := rd_first (cs := [.int .i64 b0, .int .i64 b1, .int .i64 b2, .int .i64 b3, .int .i64 b4, .int .i64 b5, .int .i64 b6, .int .i64 b7, y]) Y1 (n := 8) (by simp)
  have HC := Lib.hid (compares_any _ _ 8 8 [a0, a1, a2, a3, a4, a5, a6, a7] [b0, b1, b2, b3, b4, b5, b6, b7] _ R1 R2 (by simp) (by simp))
  have hw : ((w.alloc (.cells #[.int .i64 a0, .int .i64 a1, .int .i64 a2, .int .i64 a3, .int .i64 a4, .int .i64 a5, .int .i64 a6, .int .i64 a7, x] 102)).alloc (.cells #[.int .i64 b0, .int .i64 b1, .int .i64 b2, .int .i64 b3, .int .i64 b4, .int .i64 b5, .int .i64 b6, .int .i64 b7, y] 102)).drew = grow (w.drewN 1) #[.cells #[.int .i64 a0, .int .i64 a1, .int .i64 a2, .int .i64 a3, .int .i64 a4, .int .i64 a5, .int .i64 a6, .int .i64 a7, x] 102, .cells #[.int .i64 b0, .int .i64 b1, .int .i64 b2, .int .i64 b3, .int .i64 b4, .int .i64 b5, .int .i64 b6, .int .i64 b7, y] 102] := by
    exact grow_two _ _ _
  have HW := Lib.hid hw
  obtain ⟨r, hr⟩ : ∃ r, Cut.cmpL [a0, a1, a2, a3, a4, a5, a6, a7] [b0, b1, b2, b3, b4, b5, b6, b7] = r := ⟨_, rfl⟩
  rw [hr] at HC ⊢
  clear R1 R2 X1 Y1 hr hw
  go_enter Tryz.func59, Tryz.ntmps59
  go_wp2_with fail
  go_region_with (go_at_call 60; refine HC.out.mono ?_; rintro e w9 ⟨rfl, rfl⟩)
  go_wp2_with fail
  go_ret
  exact ⟨rfl, HW.out⟩
theorem rank_eq (a0 a1 a2 a3 a4 a5 a6 a7 b0 b1 b2 b3 b4 b5 b6 b7 : Int) (w : World) : (Op.equalIn 10000 100 (.agg #[.int .i64 a0, .int .i64 a1, .int .i64 a2, .int .i64 a3, .int .i64 a4, .int .i64 a5, .int .i64 a6, .int .i64 a7]) (.agg #[.int .i64 b0, .int .i64 b1, .int .i64 b2, .int .i64 b3, .int .i64 b4, .int .i64 b5, .int .i64 b6, .int .i64 b7])).run Tryz.prog w = .ok (decide ([a0, a1, a2, a3, a4, a5, a6, a7] = [b0, b1, b2, b3, b4, b5, b6, b7])) w := by
  have iu := Tryz.underlying3
  have ia := Tryz.isAgg3
  have iz := Tryz.sizeOf3
  rw [show (10000 : Nat) = 9999 + 1 from rfl, Op.equalIn]
  simp only [Sem.run_bind, run_underlying Tryz.underlying100, Result.andThen_ok]
  simp only [Std.Legacy.Range.forIn_eq_forIn_range', Std.Legacy.Range.size, Nat.sub_zero, Nat.add_sub_cancel, Nat.div_one, List.range'_succ, List.range'_zero, List.forIn_cons, List.forIn_nil]
  go_simp
  by_cases h0 : a0 = b0
  case neg => simp [h0]
  by_cases h1 : a1 = b1
  case neg => simp [h0, h1]
  by_cases h2 : a2 = b2
  case neg => simp [h0, h1, h2]
  by_cases h3 : a3 = b3
  case neg => simp [h0, h1, h2, h3]
  by_cases h4 : a4 = b4
  case neg => simp [h0, h1, h2, h3, h4]
  by_cases h5 : a5 = b5
  case neg => simp [h0, h1, h2, h3, h4, h5]
  by_cases h6 : a6 = b6
  case neg => simp [h0, h1, h2, h3, h4, h5, h6]
  by_cases h7 : a7 = b7
  case neg => simp [h0, h1, h2, h3, h4, h5, h6, h7]
  simp [h0, h1, h2, h3, h4, h5, h6, h7]
set_option maxRecDepth 100000 in
set_option maxHeartbeats 2000000 in
theorem sets2_any (a0 a1 a2 a3 a4 a5 a6 a7 b0 b1 b2 b3 b4 b5 b6 b7 : Int) (x y : Value) (w : World) :
    Calls Tryz.prog 62 #[.agg #[.int .i64 a0, .int .i64 a1, .int .i64 a2, .int .i64 a3, .int .i64 a4, .int .i64 a5, .int .i64 a6, .int .i64 a7, x], .agg #[.int .i64 b0, .int .i64 b1, .int .i64 b2, .int .i64 b3, .int .i64 b4, .int .i64 b5, .int .i64 b6, .int .i64 b7, y]] w fun e w' => e = .returned (.bool (decide ([a0, a1, a2, a3, a4, a5, a6, a7] = [b0, b1, b2, b3, b4, b5, b6, b7]))) ∧ Below w.heap.size w w' := by
  have HE := fun W => rank_eq a0 a1 a2 a3 a4 a5 a6 a7 b0 b1 b2 b3 b4 b5 b6 b7 W
  obtain ⟨r, hr⟩ : ∃ r, decide ([a0, a1, a2, a3, a4, a5, a6, a7] = [b0, b1, b2, b3, b4, b5, b6, b7]) = r := ⟨_, rfl⟩
  rw [hr] at HE ⊢
  have B1 := Lib.hid (below_then (below_new w (.cells #[.int .i64 a0, .int .i64 a1, .int .i64 a2, .int .i64 a3, .int .i64 a4, .int .i64 a5, .int .i64 a6, .int .i64 a7, x] 102)) (below_new _ (.cells #[.int .i64 b0, .int .i64 b1, .int .i64 b2, .int .i64 b3, .int .i64 b4, .int .i64 b5, .int .i64 b6, .int .i64 b7, y] 102)))
  go_enter Tryz.func62, Tryz.ntmps62
  go_wp2_with fail
  go_ret
  exact ⟨rfl, B1.out⟩
end Go.Proofs.YtaajnmggbhnndaaGreatDoor
