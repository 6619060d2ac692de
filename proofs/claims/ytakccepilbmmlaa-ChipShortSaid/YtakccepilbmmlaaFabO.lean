/- Each switch of a fabric once; what it joins. Plain, no program here. -/
import Derived.Test.YtakccepilbmmlaaFabM
namespace Go.Proofs.Ytakccepilbmmlaa
set_option linter.unusedVariables false
set_option linter.unusedSimpArgs false

theorem co_inj {W H T : Int} (h : okA W H T) {x y t : Int} (ht : 0 ≤ t ∧ t < T) {i j : Nat} (hi : i < 4) (hj : j < 4) (oi : coOk W H x y i) (oj : coOk W H x y j) (e : co W H T x y t i = co W H T x y t j) : i = j := by
  rcases Nat.lt_trichotomy i j with l | l | l
  · have := co_lt h ht l hj oi oj; omega
  · exact l
  · have := co_lt h ht l hi oj oi; omega
theorem hereTo_nodup {W H T : Int} (h : okA W H T) {x y t : Int} (ht : 0 ≤ t ∧ t < T) : ∀ {k : Nat}, k ≤ 4 → (hereTo W H T x y t k).Nodup
  | 0, _ => by simp [hereTo]
  | k + 1, hk => by
    simp only [hereTo]
    rw [List.nodup_append]
    refine ⟨hereTo_nodup h ht (k := k) (by omega), by split <;> simp, ?_⟩
    intro a ha b hb hab
    subst hab
    obtain ⟨i, h1, h2, h3⟩ := (mem_hereTo h ht).1 ha
    split at hb
    · rename_i he
      have hb' : a = co W H T x y t k := by simpa [co] using hb
      have := co_inj h ht (by omega) (by omega) h2 ((co_E h ht k).1 he) (h3.symm.trans hb')
      omega
    · cases hb
theorem cornerTo_nodup {W H T : Int} (h : okA W H T) {x y t : Int} (ht : 0 ≤ t ∧ t < T) : ∀ {k : Nat}, k ≤ 4 → (cornerTo W H T x y t k).Nodup
  | 0, _ => by simp [cornerTo]
  | k + 1, hk => by
    simp only [cornerTo]
    rw [List.nodup_append]
    refine ⟨cornerTo_nodup h ht (k := k) (by omega), ?_, ?_⟩
    · split
      · rename_i he
        have ok := (co_E h ht k).1 he
        refine List.Pairwise.map _ (fun a b hab => ?_) (List.Pairwise.and_mem.1 (hereTo_nodup h ht (k := k) (by omega)))
        obtain ⟨ha, hb, hne⟩ := hab
        obtain ⟨i, h1, oi, rfl⟩ := (mem_hereTo h ht).1 ha
        obtain ⟨j, h2, oj, rfl⟩ := (mem_hereTo h ht).1 hb
        have l1 := co_lt h ht h1 (by omega) oi ok
        have l2 := co_lt h ht h2 (by omega) oj ok
        unfold co at l1 l2 hne ⊢
        intro e
        have e1 := congrArg Prod.fst e
        simp only [lo] at e1
        rw [if_neg (by omega), if_neg (by omega)] at e1
        exact hne e1
      · simp
    · intro a ha b hb hab
      subst hab
      obtain ⟨i, j, h1, h2, oi, oj, rfl⟩ := (mem_cornerTo h ht (k := k) (by omega)).1 ha
      split at hb
      · rename_i he
        have ok := (co_E h ht k).1 he
        obtain ⟨m, hm, e⟩ := List.mem_map.1 hb
        obtain ⟨i', h1', oi', rfl⟩ := (mem_hereTo h ht).1 hm
        have l1 := co_lt h ht h1' (by omega) oi' ok
        have e2 := congrArg Prod.snd e
        have l2 : co W H T x y t j < co W H T x y t k := co_lt h ht h2 (by omega) oj ok
        unfold co at l1 l2 e2
        simp only [hi] at e2
        rw [if_pos (by omega)] at e2
        omega
      · cases hb

/-- at which corner two tracks meet -/
def meetX (W H T : Int) (p : Int × Int) : Int := if gk W H T p.2 = 3 then max (wx W H T p.1) (wx W H T p.2) else wx W H T p.2
def meetY (W H T : Int) (p : Int × Int) : Int := if gk W H T p.1 = 3 then wy W H T p.1 else max (wy W H T p.1) (wy W H T p.2)
/-- a switch between two tracks -/
def Both (W H T : Int) (p : Int × Int) : Prop := p.1 < p.2 ∧ isN W H T p.1 ∧ isN W H T p.2 ∧ (gk W H T p.1 = 3 ∨ gk W H T p.1 = 4) ∧ (gk W H T p.2 = 3 ∨ gk W H T p.2 = 4) ∧ wt W H T p.1 = wt W H T p.2
theorem corner_both {W H T : Int} (h : okA W H T) {x y t : Int} (ht : 0 ≤ t ∧ t < T) {p : Int × Int} (hp : p ∈ cornerTo W H T x y t 4) : Both W H T p ∧ meetX W H T p = x ∧ meetY W H T p = y ∧ wt W H T p.1 = t := by
  obtain ⟨i, j, h1, h2, oi, oj, rfl⟩ := (mem_cornerTo h ht (by omega)).1 hp
  obtain ⟨a1, a2, a3, a4, a5, -⟩ := co_at h ht oi
  obtain ⟨b1, b2, b3, b4, b5, -⟩ := co_at h ht oj
  refine ⟨⟨co_lt h ht h1 h2 oi oj, a1, b1, by rw [a2]; exact coC_34 i, by rw [b2]; exact coC_34 j, a5.trans b5.symm⟩, ?_, ?_, a5⟩
  · simp only [meetX, a2, b2, a3, b3]
    rcases lt4 h2 with rfl | rfl | rfl | rfl
    · omega
    · obtain rfl : i = 0 := by omega
      simp only [coC, coX, if_true]; omega
    · simp [coC, coX]
    · simp [coC, coX]
  · simp only [meetY, a2, b2, a4, b4]
    rcases lt4 h2 with rfl | rfl | rfl | rfl
    · omega
    · obtain rfl : i = 0 := by omega
      simp [coC, coY]
    · rcases (show i = 0 ∨ i = 1 by omega) with rfl | rfl <;> simp [coC, coY]
    · rcases (show i = 0 ∨ i = 1 ∨ i = 2 by omega) with rfl | rfl | rfl <;> simp [coC, coY] <;> omega
theorem tTo_mem {W H T : Int} (h : okA W H T) {x y : Int} : ∀ {k : Nat}, (k : Int) ≤ T → ∀ p ∈ tTo W H T x y k, Both W H T p ∧ meetX W H T p = x ∧ meetY W H T p = y ∧ wt W H T p.1 < k
  | 0, _, p, hp => by simp [tTo] at hp
  | k + 1, hk, p, hp => by
    simp only [tTo, List.mem_append] at hp
    rcases hp with hp | hp
    · have := tTo_mem h (k := k) (by omega) p hp
      exact ⟨this.1, this.2.1, this.2.2.1, by omega⟩
    · have := corner_both h ⟨by omega, by omega⟩ hp
      exact ⟨this.1, this.2.1, this.2.2.1, by omega⟩
theorem tTo_nodup {W H T : Int} (h : okA W H T) {x y : Int} : ∀ {k : Nat}, (k : Int) ≤ T → (tTo W H T x y k).Nodup
  | 0, _ => by simp [tTo]
  | k + 1, hk => by
    simp only [tTo]
    rw [List.nodup_append]
    refine ⟨tTo_nodup h (k := k) (by omega), cornerTo_nodup h ⟨by omega, by omega⟩ (by omega), ?_⟩
    intro a ha b hb hab
    subst hab
    have l1 := tTo_mem h (k := k) (by omega) a ha
    have l2 := corner_both h ⟨by omega, by omega⟩ hb
    omega
theorem yTo_mem {W H T : Int} (h : okA W H T) {x : Int} : ∀ {k : Nat}, ∀ p ∈ yTo W H T x k, Both W H T p ∧ meetX W H T p = x ∧ meetY W H T p < k
  | 0, p, hp => by simp [yTo] at hp
  | k + 1, p, hp => by
    have hh := h
    unfold okA at hh
    simp only [yTo, List.mem_append] at hp
    rcases hp with hp | hp
    · have := yTo_mem h (k := k) p hp
      exact ⟨this.1, this.2.1, by omega⟩
    · have := tTo_mem h (by omega) p hp
      exact ⟨this.1, this.2.1, by omega⟩
theorem yTo_nodup {W H T : Int} (h : okA W H T) {x : Int} : ∀ {k : Nat}, (yTo W H T x k).Nodup
  | 0 => by simp [yTo]
  | k + 1 => by
    have hh := h
    unfold okA at hh
    simp only [yTo]
    rw [List.nodup_append]
    refine ⟨yTo_nodup h, tTo_nodup h (by omega), ?_⟩
    intro a ha b hb hab
    subst hab
    have l1 := yTo_mem h a ha
    have l2 := tTo_mem h (by omega) a hb
    omega
theorem xTo_mem {W H T : Int} (h : okA W H T) : ∀ {k : Nat}, ∀ p ∈ xTo W H T k, Both W H T p ∧ meetX W H T p < k
  | 0, p, hp => by simp [xTo] at hp
  | k + 1, p, hp => by
    simp only [xTo, List.mem_append] at hp
    rcases hp with hp | hp
    · have := xTo_mem h (k := k) p hp
      exact ⟨this.1, by omega⟩
    · have := yTo_mem h p hp
      exact ⟨this.1, by omega⟩
theorem xTo_nodup {W H T : Int} (h : okA W H T) : ∀ {k : Nat}, (xTo W H T k).Nodup
  | 0 => by simp [xTo]
  | k + 1 => by
    simp only [xTo]
    rw [List.nodup_append]
    refine ⟨xTo_nodup h, yTo_nodup h, ?_⟩
    intro a ha b hb hab
    subst hab
    have l1 := xTo_mem h a ha
    have l2 := yTo_mem h a hb
    omega
theorem rawL_mem {W H T : Int} (h : okA W H T) {p : Int × Int} (hp : p ∈ rawL W H T) : Side W H T p ∨ Both W H T p := by
  have hnb := nodes_bd h
  unfold rawL at hp
  rcases List.mem_append.1 hp with hp | hp
  · exact .inl (loop1_side h (by omega) p hp).1
  · exact .inr (xTo_mem h p hp).1
theorem rawL_nodup {W H T : Int} (h : okA W H T) : (rawL W H T).Nodup := by
  have hnb := nodes_bd h
  unfold rawL
  rw [List.nodup_append]
  refine ⟨loop1_nodup h (by omega), xTo_nodup h, ?_⟩
  intro a ha b hb hab
  subst hab
  have l1 := (loop1_side h (by omega) a ha).1
  have l2 := (xTo_mem h a hb).1
  have := l1.2.1
  rcases l2.2.2.2.1 with e | e <;> omega
end Go.Proofs.Ytakccepilbmmlaa
