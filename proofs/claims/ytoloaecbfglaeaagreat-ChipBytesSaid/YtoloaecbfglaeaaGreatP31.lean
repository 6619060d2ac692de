/- Laws of chapter 31, plainly: what is put is got; what is got was put; one byte that is another one is seen; sums. -/
import Derived.Test.YtoloaecbfglaeaaGreatGetP
namespace Go.Proofs.YtoloaecbfglaeaaGreat
open Go.RowKit
set_option linter.unusedVariables false
set_option linter.unusedSimpArgs false

theorem getE_cases (l : List Nat) : getE l = 0 ∨ getE l = 310 ∨ getE l = 311 := by
  unfold getE
  repeat' (first | (split; · simp) | simp)
theorem Cfg.ok.small {C : Cfg} (h : C.ok) (h1 : C.ins.length < 65536) (h2 : C.outs.length < 65536) : Small C.W C.H C.T C.tiles C.ins C.outs := by
  obtain ⟨hA, hp, hn, -, ht⟩ := id h
  have hA' := hA
  unfold okA at hA'
  refine ⟨by omega, by omega, by omega, hn, fun t hm => ?_, h1, h2, fun p hm => ?_⟩
  · obtain ⟨k, hk, rfl⟩ := List.mem_iff_getElem.1 hm
    have := ok_tile h hk
    rwa [getElem!_pos C.tiles k hk] at this
  · obtain ⟨k, hk, rfl⟩ := List.mem_iff_getElem.1 hm
    have := ok_pad h hk
    rwa [List.getD_eq_getElem?_getD, List.getElem?_eq_getElem hk] at this
theorem bytes_lt {C : Cfg} (h : C.ok) : ∀ x ∈ C.bytes, x < 256 := by
  have hA := h.1
  unfold okA at hA
  exact putB_lt (by omega) _ _ _ _
/-- all that is told of a configuration's bytes -/
theorem bytes_dec {C : Cfg} (h : C.ok) (h1 : C.ins.length < 65536) (h2 : C.outs.length < 65536) :
    gW C.bytes = C.W ∧ gH C.bytes = C.H ∧ gT C.bytes = C.T ∧ gN C.bytes = C.on.length ∧ C.bytes.length = sizeB C.bytes (gN C.bytes) + 4 ∧ C.bytes.take 4 = magicB ∧
    C.bytes.drop (sizeB C.bytes (gN C.bytes)) = four (sumB (C.bytes.take (sizeB C.bytes (gN C.bytes)))) ∧ decT C.bytes = C.tiles ∧ decO C.bytes (gN C.bytes) = C.on ∧ decI C.bytes (gN C.bytes) = C.ins ∧ decU C.bytes (gN C.bytes) = C.outs ∧
    oddT C.bytes 11 (nT C.bytes) = false ∧ oddS C.bytes (atS C.bytes) (gN C.bytes) = false ∧ 15 ≤ C.bytes.length := by
  obtain ⟨a1, a2, a3, a4, a5, a6, a7, a8, a9, a10, a11, a12, a13, a14, a15, a16, a17⟩ := put_dec (on := C.on) (h.small h1 h2) (b := C.bytes) rfl
  have e1 : gW C.bytes = C.W := a1
  have e2 : gH C.bytes = C.H := a2
  have e3 : gT C.bytes = C.T := a3
  have e4 : gN C.bytes = C.on.length := by unfold gN; rw [e1, e2, e3]; exact h.2.2.2.1.symm
  rw [e4]
  have hl : 15 ≤ C.bytes.length := by
    show 15 ≤ (putB C.W C.H C.T C.tiles C.on C.ins C.outs).length
    rw [putB_len]; omega
  exact ⟨e1, e2, e3, rfl, a8, a17, by rw [a9]; exact a10, a11, a12, a13, a14, a15, a16, hl⟩
theorem get_put {C : Cfg} (h : C.ok) (h1 : C.ins.length < 65536) (h2 : C.outs.length < 65536) : getE C.bytes = 0 ∧ ∀ D : Cfg, Told C.bytes D → sameP C D := by
  obtain ⟨e1, e2, e3, e4, hl, hm, hs, d1, d2, d3, d4, o1, o2, h15⟩ := bytes_dec h h1 h2
  have hT : Told C.bytes C := ⟨e1.symm, e2.symm, e3.symm, d1.symm, d2.symm, d3.symm, d4.symm⟩
  constructor
  · unfold getE
    rw [if_neg (by exact fun x => x.elim (fun x => by omega) (fun x => x hm)), if_neg (fun x => x (by rw [e1, e2, e3]; exact h.1)), if_neg (fun x => x hl), if_neg (fun x => x hs), if_neg (by rw [o1, o2]; simp), if_neg (fun x => x (hT.ok.1 h))]
  · intro D hD
    exact ⟨⟨by rw [hD.W, e1], by rw [hD.H, e2], by rw [hD.T, e3]⟩, by rw [hD.tiles, d1], by rw [hD.on, d2], by rw [hD.ins, d3], by rw [hD.outs, d4]⟩
/-- the head tells all but the sum -/
theorem head_same {l m : List Nat} (h : ∀ i, i < 11 → m.getD i 0 = l.getD i 0) : gW m = gW l ∧ gH m = gH l ∧ gT m = gT l ∧ gN m = gN l ∧ sizeB m (gN m) = sizeB l (gN l) ∧ nT m = nT l ∧ (11 ≤ l.length → 11 ≤ m.length → m.take 4 = l.take 4) := by
  have e1 : gW m = gW l := by unfold gW; rw [h 4 (by omega)]
  have e2 : gH m = gH l := by unfold gH; rw [h 5 (by omega)]
  have e3 : gT m = gT l := by unfold gT; rw [h 6 (by omega)]
  have e4 : gN m = gN l := by unfold gN; rw [e1, e2, e3]
  have e5 : nT m = nT l := by unfold nT; rw [h 4 (by omega), h 5 (by omega)]
  have e6 : nI m = nI l := by unfold nI num2; rw [h 7 (by omega), h 8 (by omega)]
  have e7 : nU m = nU l := by unfold nU num2; rw [h 9 (by omega), h 10 (by omega)]
  refine ⟨e1, e2, e3, e4, by unfold sizeB atP atS; rw [e4, e5, e6, e7], e5, fun hl hm => ?_⟩
  apply List.ext_getElem?
  intro i
  rcases Nat.lt_or_ge i 4 with hi | hi
  · rw [List.getElem?_take_of_lt hi, List.getElem?_take_of_lt hi]
    have := h i (by omega)
    rw [List.getD_eq_getElem?_getD, List.getD_eq_getElem?_getD, List.getElem?_eq_getElem (by omega), List.getElem?_eq_getElem (by omega)] at this
    rw [List.getElem?_eq_getElem (by omega), List.getElem?_eq_getElem (by omega)]
    simpa using this
  · rw [List.getElem?_eq_none (by simp; omega), List.getElem?_eq_none (by simp; omega)]
theorem get_len {C : Cfg} (h : C.ok) (h1 : C.ins.length < 65536) (h2 : C.outs.length < 65536) {m : List Nat} (hd : ∀ i, i < 11 → m.getD i 0 = C.bytes.getD i 0) (hl : m.length ≠ C.bytes.length) : getE m = 310 := by
  obtain ⟨e1, e2, e3, e4, hl', hm, hs, d1, d2, d3, d4, o1, o2, h15⟩ := bytes_dec h h1 h2
  obtain ⟨g1, g2, g3, g4, g5, g6, g7⟩ := head_same hd
  by_cases hx : m.length < 15
  · unfold getE; rw [if_pos (.inl hx)]
  · unfold getE
    rw [if_neg (by exact fun x => x.elim (fun x => hx x) (fun x => x (by rw [g7 (by omega) (by omega)]; exact hm))), if_neg (fun x => x (by rw [g1, g2, g3, e1, e2, e3]; exact h.1)), if_pos (by rw [g5]; omega)]
theorem get_cut {C : Cfg} (h : C.ok) (h1 : C.ins.length < 65536) (h2 : C.outs.length < 65536) {k : Nat} (hk : k < C.bytes.length) : getE (C.bytes.take k) = 310 := by
  by_cases hx : k < 15
  · unfold getE; rw [if_pos (.inl (by rw [List.length_take]; omega))]
  · refine get_len h h1 h2 (fun i hi => ?_) (by rw [List.length_take]; omega)
    rw [List.getD_eq_getElem?_getD, List.getD_eq_getElem?_getD, List.getElem?_take_of_lt (by omega)]
theorem get_more {C : Cfg} (h : C.ok) (h1 : C.ins.length < 65536) (h2 : C.outs.length < 65536) (x : Nat) : getE (C.bytes ++ [x]) = 310 := by
  have h15 := (bytes_dec h h1 h2).2.2.2.2.2.2.2.2.2.2.2.2.2
  refine get_len h h1 h2 (fun i hi => ?_) (by simp)
  rw [List.getD_eq_getElem?_getD, List.getD_eq_getElem?_getD, List.getElem?_append_left (by omega)]
theorem getE_zero {l : List Nat} (h : getE l = 0) : ¬ l.length < 15 ∧ l.take 4 = magicB ∧ okA (gW l) (gH l) (gT l) ∧ l.length = sizeB l (gN l) + 4 ∧ l.drop (sizeB l (gN l)) = four (sumB (l.take (sizeB l (gN l)))) ∧ oddT l 11 (nT l) = false ∧ oddS l (atS l) (gN l) = false ∧ okG l := by
  unfold getE at h
  by_cases b1 : l.length < 15 ∨ l.take 4 ≠ magicB
  · rw [if_pos b1] at h; cases h
  rw [if_neg b1] at h
  by_cases b2 : ¬ okA (gW l) (gH l) (gT l)
  · rw [if_pos b2] at h; cases h
  rw [if_neg b2] at h
  by_cases b3 : l.length ≠ sizeB l (gN l) + 4
  · rw [if_pos b3] at h; cases h
  rw [if_neg b3] at h
  by_cases b4 : l.drop (sizeB l (gN l)) ≠ four (sumB (l.take (sizeB l (gN l))))
  · rw [if_pos b4] at h; cases h
  rw [if_neg b4] at h
  by_cases b5 : oddT l 11 (nT l) = true ∨ oddS l (atS l) (gN l) = true
  · rw [if_pos b5] at h; cases h
  rw [if_neg b5] at h
  by_cases b6 : ¬ okG l
  · rw [if_pos b6] at h; cases h
  exact ⟨fun x => b1 (.inl x), Classical.not_not.1 fun x => b1 (.inr x), Classical.not_not.1 b2, Classical.not_not.1 b3, Classical.not_not.1 b4, by simpa using fun x => b5 (.inl x), by simpa using fun x => b5 (.inr x), Classical.not_not.1 b6⟩
/-- WHAT IS GOT WAS PUT -/
theorem get_only {l : List Nat} (hl : ∀ x ∈ l, x < 256) (h : getE l = 0) {C : Cfg} (hT : Told l C) : C.ok ∧ C.bytes = l := by
  obtain ⟨h15, hm, hA, hz, hs, o1, o2, hG⟩ := getE_zero h
  refine ⟨hT.ok.2 hG, ?_⟩
  have := dec_put hl hz hm hs o1 o2
  show putB C.W C.H C.T C.tiles C.on C.ins C.outs = l
  rw [hT.W, hT.H, hT.T, hT.tiles, hT.on, hT.ins, hT.outs]
  exact this
theorem getD_set {l : List Nat} {k b i : Nat} (hk : k < l.length) : (l.set k b).getD i 0 = if i = k then b else l.getD i 0 := by
  rw [List.getD_eq_getElem?_getD, List.getD_eq_getElem?_getD, List.getElem?_set]
  by_cases h : k = i
  · subst h; rw [if_pos rfl, if_pos rfl, if_pos hk]; rfl
  · rw [if_neg h, if_neg (fun e => h e.symm)]
/-- two lists of bytes that differ at one place do not both bear their sum -/
theorem sum_seen {l : List Nat} {s k b : Nat} (hl : ∀ x ∈ l, x < 256) (hb : b < 256) (hk : k < l.length) (hne : b ≠ l.getD k 0) (hz : l.length = s + 4) (h1 : l.drop s = four (sumB (l.take s))) (h2 : (l.set k b).drop s = four (sumB ((l.set k b).take s))) : False := by
  rcases Nat.lt_or_ge k s with hks | hks
  · rw [List.drop_set_of_lt hks, h1, List.take_set] at h2
    have e : sumB ((l.take s).set k b) = sumB (l.take s) := by
      have a := sumB_lt (l.take s)
      have c := sumB_lt ((l.take s).set k b)
      unfold four at h2
      simp only [List.cons.injEq] at h2
      omega
    have := sumB_set (by rw [List.length_take]; omega) (fun x hx => hl x (List.mem_of_mem_take hx)) hb e
    rw [List.getElem_take] at this
    apply hne
    rw [this, List.getD_eq_getElem?_getD, List.getElem?_eq_getElem hk]
    rfl
  · have e : (l.set k b).take s = l.take s := List.take_set_of_le hks
    rw [e, ← h1] at h2
    have := congrArg (fun m : List Nat => m.getD (k - s) 0) h2
    simp only [List.getD_eq_getElem?_getD, List.getElem?_drop, show s + (k - s) = k by omega] at this
    rw [← List.getD_eq_getElem?_getD, ← List.getD_eq_getElem?_getD, getD_set hk, if_pos rfl] at this
    exact hne this
/-- ONE BYTE THAT IS ANOTHER ONE IS SEEN -/
theorem get_seen {C : Cfg} (h : C.ok) (h1 : C.ins.length < 65536) (h2 : C.outs.length < 65536) {k b : Nat} (hb : b < 256) (hk : k < C.bytes.length) (hne : b ≠ C.bytes.getD k 0) : getE (C.bytes.set k b) = 311 ∨ k < 11 ∧ getE (C.bytes.set k b) = 310 := by
  obtain ⟨e1, e2, e3, e4, hl', hm, hs, d1, d2, d3, d4, o1, o2, h15⟩ := bytes_dec h h1 h2
  have hlt := bytes_lt h
  by_cases h11 : k < 11
  · rcases getE_cases (C.bytes.set k b) with e | e | e
    · exfalso
      obtain ⟨f15, fm, fA, fz, fs, -, -, -⟩ := getE_zero e
      rw [List.length_set] at fz
      have es : sizeB (C.bytes.set k b) (gN (C.bytes.set k b)) = sizeB C.bytes (gN C.bytes) := by omega
      rw [es] at fs
      exact sum_seen hlt hb hk hne hl' hs fs
    · exact .inr ⟨h11, e⟩
    · exact .inl e
  · left
    have hd : ∀ i, i < 11 → (C.bytes.set k b).getD i 0 = C.bytes.getD i 0 := fun i hi => by rw [getD_set hk, if_neg (by omega)]
    obtain ⟨g1, g2, g3, g4, g5, g6, g7⟩ := head_same hd
    unfold getE
    rw [if_neg (by rw [List.length_set]; exact fun x => x.elim (fun x => by omega) (fun x => x (by rw [g7 (by omega) (by rw [List.length_set]; omega)]; exact hm))), if_neg (fun x => x (by rw [g1, g2, g3, e1, e2, e3]; exact h.1)), if_neg (fun x => x (by rw [List.length_set, g5]; exact hl')), if_pos]
    rw [g5]
    exact fun x => sum_seen hlt hb hk hne hl' hs x
/-! ### sums -/
theorem sum_eq {l : List Nat} {x y : Nat} (hx : x < 256) (hy : y < 256) : sumB (l ++ [x]) = sumB (l ++ [y]) ↔ x = y := by
  constructor
  · intro h
    rw [sumB_snoc, sumB_snoc] at h
    exact fnv_inj_b (sumB_lt l) hx hy h
  · rintro rfl; rfl
theorem sum_xor {l : List Nat} {k y : Nat} (hl : ∀ x ∈ l, x < 256) (hk : k < l.length) (hy : y < 256) : sumB l = sumB (l.set k (l.getD k 0 ^^^ y)) ↔ y = 0 := by
  have hg := getD_lt hl k
  constructor
  · intro h
    have := sumB_set hk hl (Nat.xor_lt_two_pow (n := 8) hg hy) h.symm
    have e : l.getD k 0 = l[k] := by rw [List.getD_eq_getElem?_getD, List.getElem?_eq_getElem hk]; rfl
    rw [← e] at this
    have h2 : l.getD k 0 ^^^ (l.getD k 0 ^^^ y) = l.getD k 0 ^^^ l.getD k 0 := by rw [this]
    rwa [← Nat.xor_assoc, Nat.xor_self, Nat.zero_xor] at h2
  · rintro rfl
    rw [Nat.xor_zero, show l.set k (l.getD k 0) = l from by
      have e : l.getD k 0 = l[k] := by rw [List.getD_eq_getElem?_getD, List.getElem?_eq_getElem hk]; rfl
      rw [e]; exact List.set_getElem_self hk]
theorem xor_ne {x y : Nat} (h : y ≠ 0) : x ^^^ y ≠ x := by
  intro e
  have h2 : x ^^^ (x ^^^ y) = x ^^^ x := by rw [e]
  rw [← Nat.xor_assoc, Nat.xor_self, Nat.zero_xor] at h2
  exact h h2
end Go.Proofs.YtoloaecbfglaeaaGreat
