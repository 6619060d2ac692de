/- Whom a node has a switch to: what the laws read off the list of switches. Plain, no program here. -/
import Derived.Test.YtfclfhgnfjmofaaFabS

namespace Go.Proofs.Ytfclfhgnfjmofaa
set_option linter.unusedVariables false
set_option linter.unusedSimpArgs false

/-- what a switch tells of n's neighbours -/
def nbr (n : Int) (p : Int × Int) : List Int := if p.1 = n then [p.2] else if p.2 = n then [p.1] else []
def nbrs (n : Int) (l : List (Int × Int)) : List Int := l.flatMap (nbr n)
theorem nbrs_take {n : Int} {l : List (Int × Int)} {k : Nat} (hk : k < l.length) : nbrs n (l.take (k + 1)) = nbrs n (l.take k) ++ nbr n l[k] := by
  unfold nbrs
  rw [List.take_succ_eq_append_getElem hk, List.flatMap_append]
  simp
theorem nbr_len (n : Int) (p : Int × Int) : (nbr n p).length ≤ 1 := by unfold nbr; split <;> (try split) <;> simp
theorem nbrs_len (n : Int) : ∀ l : List (Int × Int), (nbrs n l).length ≤ l.length
  | [] => by simp [nbrs]
  | p :: l => by
    have h1 := nbr_len n p
    have h2 := nbrs_len n l
    unfold nbrs at *
    rw [List.flatMap_cons, List.length_append, List.length_cons]
    omega
theorem mem_nbr {n m : Int} {p : Int × Int} : m ∈ nbr n p ↔ p = (n, m) ∨ p = (m, n) := by
  obtain ⟨a, b⟩ := p
  unfold nbr
  simp only [Prod.mk.injEq]
  by_cases e : a = n
  · rw [if_pos e]; simp only [List.mem_singleton]; omega
  · rw [if_neg e]
    by_cases f : b = n
    · rw [if_pos f]; simp only [List.mem_singleton]; omega
    · rw [if_neg f]; simp; omega
theorem mem_nbrs {n m : Int} {l : List (Int × Int)} : m ∈ nbrs n l ↔ (n, m) ∈ l ∨ (m, n) ∈ l := by
  unfold nbrs
  rw [List.mem_flatMap]
  constructor
  · rintro ⟨p, h1, h2⟩
    rcases mem_nbr.1 h2 with rfl | rfl
    · exact .inl h1
    · exact .inr h1
  · rintro (h | h)
    · exact ⟨_, h, mem_nbr.2 (.inl rfl)⟩
    · exact ⟨_, h, mem_nbr.2 (.inr rfl)⟩
theorem nbrs_sorted {n : Int} {l : List (Int × Int)} (hp : l.Pairwise before) (hl : ∀ p ∈ l, p.1 < p.2) : (nbrs n l).Pairwise (· < ·) := by
  unfold nbrs
  rw [List.pairwise_flatMap]
  constructor
  · intro p _
    unfold nbr
    split <;> (try split) <;> simp
  · refine hp.imp_of_mem fun {p q} h1 h2 hb x hx y hy => ?_
    have l1 := hl p h1
    have l2 := hl q h2
    unfold before at hb
    rcases mem_nbr.1 hx with rfl | rfl <;> rcases mem_nbr.1 hy with rfl | rfl <;> simp only at * <;> omega
def nearL (W H T n : Int) : List Int := nbrs n (edgesL W H T)
theorem nearL_sorted {W H T : Int} (h : okA W H T) (n : Int) : (nearL W H T n).Pairwise (· < ·) :=
  nbrs_sorted (edgesL_lt h) fun p hp => (edges_kinds h hp).1
theorem mem_nearL {W H T n m : Int} : m ∈ nearL W H T n ↔ (n, m) ∈ edgesL W H T ∨ (m, n) ∈ edgesL W H T := mem_nbrs
theorem sorted_le {l : List Int} (h : l.Pairwise (· < ·)) : l.mergeSort (fun x y => decide (x ≤ y)) = l :=
  List.mergeSort_of_pairwise (h.imp fun {a b} h => by simp; omega)
/-- the document's list is the same -/
theorem nearTo_nearL {W H T : Int} (h : okA W H T) {N : Nat} (hN : nodesI W H T = (N : Int)) {i : Nat} (hi : i < N) : nearTo W H T N i = nearL W H T (i : Int) := by
  refine sorted_ext (R := (· < ·)) (fun a => by omega) (fun a b => by omega) (nearTo_sorted W H T N i) (nearL_sorted h _) fun m => ?_
  rw [near_iff h hN hi, mem_nearL, edgesL_mem, edgesL_mem]

/-- how often a switch is in the list -/
theorem nearL_sym {W H T n m : Int} : m ∈ nearL W H T n ↔ n ∈ nearL W H T m := by rw [mem_nearL, mem_nearL]; exact Or.comm
def mnI (m n : Int) : Int := if m ≤ n then m else n
def mxI (m n : Int) : Int := if m ≤ n then n else m
theorem nearL_pair {W H T : Int} (h : okA W H T) {n m : Int} : n ∈ nearL W H T m ↔ (mnI m n, mxI m n) ∈ edgesL W H T := by
  rw [mem_nearL]
  unfold mnI mxI
  constructor
  · rintro (hp | hp)
    · have := (edges_kinds h hp).1
      simp only at this
      rw [if_pos (by omega), if_pos (by omega)]; exact hp
    · have := (edges_kinds h hp).1
      simp only at this
      rw [if_neg (by omega), if_neg (by omega)]; exact hp
  · intro hp
    by_cases c : m ≤ n
    · rw [if_pos c, if_pos c] at hp; exact .inl hp
    · rw [if_neg c, if_neg c] at hp; exact .inr hp

/-- a pad is near all tracks of one place, in order -/
theorem trk_sorted {W H T : Int} (h : okA W H T) {c : Nat} (hc : c = 3 ∨ c = 4) {x y : Int} (hp : okP W H c x y) : (trk W H T c x y T.toNat).Pairwise (· < ·) := by
  unfold trk
  rw [List.pairwise_map]
  refine List.pairwise_lt_range.imp_of_mem fun {a b} ha hb hab => ?_
  rw [List.mem_range] at ha hb
  have hT := h.2.2
  have key : ∀ t : Nat, t < T.toNat → nodeN W H T c x y (t : Int) = nodeAt W H T c x y (t : Int) := fun t ht => by
    exact (track_at h hc hp (t := (t : Int)) ⟨by omega, by omega⟩).2.2.2.2.2
  rw [key a ha, key b hb]
  have hgd : gd T c = T := by rcases hc with rfl | rfl <;> rfl
  unfold nodeAt
  omega
theorem br_ok {W H T p : Int} (h : okA W H T) (hp : 0 ≤ p ∧ p < 2 * W + 2 * H) : (brC W H p = 3 ∨ brC W H p = 4) ∧ okP W H (brC W H p) (brX W H p) (brY W H p) := by
  have hh := h
  unfold okA at hh
  unfold brC brX brY okP
  by_cases c : p < 2 * W
  · rw [if_pos c, if_pos c]
    refine ⟨.inl rfl, ?_⟩
    simp only [gw, gh]
    by_cases d : p < W
    · simp only [if_pos d]; omega
    · simp only [if_neg d, if_pos c]; omega
  · rw [if_neg c]
    refine ⟨.inr rfl, ?_⟩
    simp only [gw, gh]
    have d : ¬ p < W := by omega
    by_cases f : p < 2 * W + H
    · simp only [if_neg d, if_neg c, if_pos f]; omega
    · simp only [if_neg d, if_neg c, if_neg f]; omega
theorem pad_at {W H T p : Int} (h : okA W H T) (hp : 0 ≤ p ∧ p < 2 * W + 2 * H) :
    isN W H T (nodeN W H T 2 p 0 0) ∧ gk W H T (nodeN W H T 2 p 0 0) = 2 ∧ wx W H T (nodeN W H T 2 p 0 0) = p ∧ nodeE W H T 2 p 0 0 = 0 := by
  have hg : inG W H T 2 p 0 0 := by unfold inG; simp only [gw, gh, gd]; omega
  have e : nodeN W H T 2 p 0 0 = nodeAt W H T 2 p 0 0 := by unfold nodeN; rw [if_pos ⟨h, hg⟩]
  rw [e]
  obtain ⟨a1, a2, a3, -, -⟩ := nodeAt_what h (by omega) hg
  exact ⟨a1, a2, a3, by unfold nodeE; rw [if_pos ⟨h, hg⟩]⟩
theorem pad_near {W H T p : Int} (h : okA W H T) (hp : 0 ≤ p ∧ p < 2 * W + 2 * H) :
    nearL W H T (nodeN W H T 2 p 0 0) = trk W H T (brC W H p) (brX W H p) (brY W H p) T.toNat := by
  obtain ⟨hN, hg, hx, -⟩ := pad_at h hp
  obtain ⟨hc, ho⟩ := br_ok h hp
  refine sorted_ext (R := (· < ·)) (fun a => by omega) (fun a b => by omega) (nearL_sorted h _) (trk_sorted h hc ho) fun m => ?_
  have hs : swL W H T (nodeN W H T 2 p 0 0) = trk W H T (brC W H p) (brX W H p) (brY W H p) T.toNat := by
    unfold swL
    rw [hg, hx, if_neg (by omega), if_neg (by omega), if_pos rfl]
  rw [← hs, mem_nearL, edgesL_mem, edgesL_mem]
  have hlow := swL_low hN (m := m) (by omega)
  constructor
  · rintro (hm | hm)
    · exact (rawL_sw h hm).2.2
    · have := (edges_kinds h (edgesL_mem.2 hm)).2.1
      unfold trackB at this
      simp at this
      omega
  · intro hm
    have h1 := swL_mem hN hm
    have hgt := trk_in h hc ho (by rw [← hs]; exact hm)
    obtain ⟨t, ht, rfl⟩ := mem_trk.1 (by rw [hs] at hm; exact hm)
    have hT := h.2.2
    obtain ⟨b1, b2, -⟩ := track_at h hc ho (t := (t : Int)) ⟨by omega, by omega⟩
    have hlt := gk_lt_of h hN b1 (by rw [b2, hg]; omega)
    have h2 := h1.2 (by omega)
    rw [(lo_hi_lt hlt).1, (lo_hi_lt hlt).2] at h2
    exact .inl h2
end Go.Proofs.Ytfclfhgnfjmofaa
