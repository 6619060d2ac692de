/- Which switches a fabric has: members, and each once. Plain, no program here. -/
import Derived.Test.YtakccepilbmmlaaFabN
namespace Go.Proofs.Ytakccepilbmmlaa
set_option linter.unusedVariables false
set_option linter.unusedSimpArgs false

/-- a track that is there -/
theorem track_at {W H T : Int} (h : okA W H T) {c : Nat} (hc : c = 3 ∨ c = 4) {x y t : Int} (hp : okP W H c x y) (ht : 0 ≤ t ∧ t < T) :
    isN W H T (nodeN W H T c x y t) ∧ gk W H T (nodeN W H T c x y t) = c ∧ wx W H T (nodeN W H T c x y t) = x ∧ wy W H T (nodeN W H T c x y t) = y ∧ wt W H T (nodeN W H T c x y t) = t ∧ nodeN W H T c x y t = nodeAt W H T c x y t := by
  have hgd : gd T c = T := by rcases hc with rfl | rfl <;> rfl
  have hg : inG W H T c x y t := ⟨hp.1, hp.2, ht.1, by rw [hgd]; exact ht.2⟩
  have e : nodeN W H T c x y t = nodeAt W H T c x y t := by unfold nodeN; rw [if_pos ⟨h, hg⟩]
  rw [e]
  obtain ⟨a1, a2, a3, a4, a5⟩ := nodeAt_what h (by omega) hg
  exact ⟨a1, a2, a3, a4, a5, rfl⟩
theorem gk_lt_of {W H T : Int} (h : okA W H T) {m n : Int} (hm : isN W H T m) (hn : isN W H T n) (hg : gk W H T m < gk W H T n) : m < n := by
  obtain ⟨a1, a2, a3⟩ := gk_in hm.2.1 hm.2.2
  obtain ⟨b1, b2, b3⟩ := gk_in hn.2.1 hn.2.2
  have hmo := gat_mono h
  have e0 : gat W H T 0 = 0 := rfl
  rcases lt5 a3 with e | e | e | e | e <;> rcases lt5 b3 with f | f | f | f | f <;> rw [e] at a1 a2 hg <;> rw [f] at b1 b2 hg <;> simp only [Nat.reduceAdd] at a1 a2 b1 b2 <;> omega

theorem mem_meetTo {W H T n : Int} {c : Nat} {x y : Int} {p : Int × Int} : ∀ {k : Nat}, p ∈ meetTo W H T n c x y k ↔ ∃ t : Nat, t < k ∧ nodeE W H T c x y (t : Int) = 0 ∧ p = (lo n (nodeN W H T c x y (t : Int)), hi n (nodeN W H T c x y (t : Int)))
  | 0 => by simp [meetTo]
  | k + 1 => by
    simp only [meetTo, List.mem_append, mem_meetTo (k := k)]
    constructor
    · rintro (⟨t, h1, h2, h3⟩ | hp)
      · exact ⟨t, by omega, h2, h3⟩
      · split at hp
        · rename_i he
          exact ⟨k, by omega, he, by simpa using hp⟩
        · cases hp
    · rintro ⟨t, h1, h2, h3⟩
      by_cases e : t = k
      · subst e
        exact .inr (by rw [if_pos h2]; simpa using h3)
      · exact .inl ⟨t, by omega, h2, h3⟩

/-- a switch between a node that is no track and a track of a place -/
def Leads (W H T : Int) (n : Int) (c : Nat) (x y : Int) (k : Nat) (p : Int × Int) : Prop :=
  p.1 = n ∧ n < p.2 ∧ isN W H T p.2 ∧ gk W H T p.2 = c ∧ wx W H T p.2 = x ∧ wy W H T p.2 = y ∧ 0 ≤ wt W H T p.2 ∧ wt W H T p.2 < k
theorem meetTo_leads {W H T n : Int} (h : okA W H T) (hN : isN W H T n) (hg3 : gk W H T n < 3) {c : Nat} (hc : c = 3 ∨ c = 4) {x y : Int} (hp : okP W H c x y) {k : Nat} (hk : (k : Int) ≤ T) {p : Int × Int} (hm : p ∈ meetTo W H T n c x y k) : Leads W H T n c x y k p := by
  obtain ⟨t, h1, h2, rfl⟩ := mem_meetTo.1 hm
  obtain ⟨a1, a2, a3, a4, a5, -⟩ := track_at h hc hp (t := (t : Int)) ⟨by omega, by omega⟩
  have hlt := gk_lt_of h hN a1 (by rw [a2]; omega)
  have e1 : lo n (nodeN W H T c x y (t : Int)) = n := by unfold lo; rw [if_neg (by omega)]
  have e2 : hi n (nodeN W H T c x y (t : Int)) = nodeN W H T c x y (t : Int) := by unfold hi; rw [if_pos (by omega)]
  rw [e1, e2]
  exact ⟨rfl, hlt, a1, a2, a3, a4, by rw [a5]; omega, by rw [a5]; omega⟩
theorem meetTo_nodup {W H T n : Int} (h : okA W H T) (hN : isN W H T n) (hg3 : gk W H T n < 3) {c : Nat} (hc : c = 3 ∨ c = 4) {x y : Int} (hp : okP W H c x y) : ∀ {k : Nat}, (k : Int) ≤ T → (meetTo W H T n c x y k).Nodup
  | 0, _ => by simp [meetTo]
  | k + 1, hk => by
    simp only [meetTo]
    rw [List.nodup_append]
    refine ⟨meetTo_nodup h hN hg3 hc hp (k := k) (by omega), by split <;> simp, ?_⟩
    intro a ha b hb hab
    subst hab
    have l1 := meetTo_leads h hN hg3 hc hp (by omega) ha
    split at hb
    · rename_i he
      have hb' : a = (lo n (nodeN W H T c x y (k : Int)), hi n (nodeN W H T c x y (k : Int))) := by simpa using hb
      obtain ⟨a1, a2, a3, a4, a5, -⟩ := track_at h hc hp (t := (k : Int)) ⟨by omega, by omega⟩
      have hlt := gk_lt_of h hN a1 (by rw [a2]; omega)
      have e2 : hi n (nodeN W H T c x y (k : Int)) = nodeN W H T c x y (k : Int) := by unfold hi; rw [if_pos (by omega)]
      have := l1.2.2.2.2.2.2.2
      rw [hb', e2] at this
      simp only [a5] at this
      omega
    · cases hb
theorem ar_apart {x y : Int} {i j : Nat} (hi : i < j) (hj : j < 4) : ¬ (arC i = arC j ∧ arX x i = arX x j ∧ arY y i = arY y j) := by
  rcases lt4 hj with rfl | rfl | rfl | rfl
  · omega
  · obtain rfl : i = 0 := by omega
    simp [arC]
  · rcases (show i = 0 ∨ i = 1 by omega) with rfl | rfl <;> simp [arC, arX, arY]; omega
  · rcases (show i = 0 ∨ i = 1 ∨ i = 2 by omega) with rfl | rfl | rfl <;> simp [arC, arX, arY]; omega
theorem mem_arTo {W H T n x y : Int} {p : Int × Int} : ∀ {k : Nat}, p ∈ arTo W H T n x y k ↔ ∃ j : Nat, j < k ∧ p ∈ meetTo W H T n (arC j) (arX x j) (arY y j) T.toNat
  | 0 => by simp [arTo]
  | k + 1 => by
    simp only [arTo, List.mem_append, mem_arTo (k := k)]
    constructor
    · rintro (⟨j, h1, h2⟩ | hp)
      · exact ⟨j, by omega, h2⟩
      · exact ⟨k, by omega, hp⟩
    · rintro ⟨j, h1, h2⟩
      by_cases e : j = k
      · subst e; exact .inr h2
      · exact .inl ⟨j, by omega, h2⟩
theorem arTo_nodup {W H T n x y : Int} (h : okA W H T) (hN : isN W H T n) (hg3 : gk W H T n < 3) (hx : 0 ≤ x ∧ x < W) (hy : 0 ≤ y ∧ y < H) : ∀ {k : Nat}, k ≤ 4 → (arTo W H T n x y k).Nodup
  | 0, _ => by simp [arTo]
  | k + 1, hk => by
    have hh := h
    unfold okA at hh
    simp only [arTo]
    rw [List.nodup_append]
    refine ⟨arTo_nodup h hN hg3 hx hy (k := k) (by omega), meetTo_nodup h hN hg3 (arC_34 k) (around_ok hx hy k) (by omega), ?_⟩
    intro a ha b hb hab
    subst hab
    obtain ⟨j, hj, hm⟩ := mem_arTo.1 ha
    have l1 := meetTo_leads h hN hg3 (arC_34 j) (around_ok hx hy j) (by omega) hm
    have l2 := meetTo_leads h hN hg3 (arC_34 k) (around_ok hx hy k) (by omega) hb
    exact ar_apart hj (by omega) ⟨l1.2.2.2.1.symm.trans l2.2.2.2.1, l1.2.2.2.2.1.symm.trans l2.2.2.2.2.1, l1.2.2.2.2.2.1.symm.trans l2.2.2.2.2.2.1⟩
/-- a switch of a node that is no track -/
def Side (W H T : Int) (p : Int × Int) : Prop := isN W H T p.1 ∧ gk W H T p.1 < 3 ∧ p.1 < p.2 ∧ isN W H T p.2 ∧ (gk W H T p.2 = 3 ∨ gk W H T p.2 = 4)
theorem nodeL_side {W H T n : Int} (hN : isN W H T n) {p : Int × Int} (hm : p ∈ nodeL W H T n) : Side W H T p ∧ p.1 = n := by
  have h := hN.1
  have hh := h
  unfold okA at hh
  obtain ⟨v1, v2, v3, v4, -⟩ := wh_yes hN
  obtain ⟨hk, hin, -⟩ := what_nodeAt hN
  obtain ⟨⟨b1, b2⟩, ⟨b3, b4⟩, b5, b6⟩ := hin
  have fin : ∀ {c : Nat} {x y : Int}, gk W H T n < 3 → (c = 3 ∨ c = 4) → okP W H c x y → p ∈ meetTo W H T n c x y T.toNat → Side W H T p ∧ p.1 = n := by
    intro c x y hg hc hp hm
    have l := meetTo_leads h hN hg hc hp (by omega) hm
    refine ⟨⟨by rw [l.1]; exact hN, by rw [l.1]; exact hg, by rw [l.1]; exact l.2.1, l.2.2.1, by rw [l.2.2.2.1]; exact hc⟩, l.1⟩
  unfold nodeL at hm
  rw [v1, v2, v3, v4] at hm
  rcases lt5 hk with e | e | e | e | e <;> rw [e] at b2 b4 b6 hm <;> simp only [gw, gh, gd] at b2 b4 b6
  · rw [if_pos (by rfl)] at hm
    obtain ⟨j, hj, hm⟩ := mem_arTo.1 hm
    exact fin (by omega) (arC_34 j) (around_ok ⟨b1, b2⟩ ⟨b3, b4⟩ j) hm
  · rw [if_neg (by omega), if_pos (by rfl)] at hm
    exact fin (by omega) (arC_34 _) (around_ok ⟨b1, b2⟩ ⟨b3, b4⟩ _) hm
  · rw [if_neg (by omega), if_neg (by omega), if_pos (by rfl)] at hm
    exact fin (by omega) (brC_34 _ _ _) (border_ok (by omega) (by omega) ⟨b1, b2⟩) hm
  · rw [if_neg (by omega), if_neg (by omega), if_neg (by omega)] at hm; cases hm
  · rw [if_neg (by omega), if_neg (by omega), if_neg (by omega)] at hm; cases hm
theorem nodeL_nodup {W H T n : Int} (hN : isN W H T n) : (nodeL W H T n).Nodup := by
  have h := hN.1
  have hh := h
  unfold okA at hh
  obtain ⟨v1, v2, v3, v4, -⟩ := wh_yes hN
  obtain ⟨hk, hin, -⟩ := what_nodeAt hN
  obtain ⟨⟨b1, b2⟩, ⟨b3, b4⟩, b5, b6⟩ := hin
  unfold nodeL
  rw [v1, v2, v3, v4]
  rcases lt5 hk with e | e | e | e | e <;> rw [e] at b2 b4 b6 <;> simp only [gw, gh, gd] at b2 b4 b6 <;> rw [e]
  · rw [if_pos (by rfl)]
    exact arTo_nodup h hN (by omega) ⟨b1, b2⟩ ⟨b3, b4⟩ (by omega)
  · rw [if_neg (by omega), if_pos (by rfl)]
    exact meetTo_nodup h hN (by omega) (arC_34 _) (around_ok ⟨b1, b2⟩ ⟨b3, b4⟩ _) (by omega)
  · rw [if_neg (by omega), if_neg (by omega), if_pos (by rfl)]
    exact meetTo_nodup h hN (by omega) (brC_34 _ _ _) (border_ok (by omega) (by omega) ⟨b1, b2⟩) (by omega)
  · rw [if_neg (by omega), if_neg (by omega), if_neg (by omega)]; simp
  · rw [if_neg (by omega), if_neg (by omega), if_neg (by omega)]; simp
theorem loop1_side {W H T : Int} (h : okA W H T) : ∀ {k : Nat}, (k : Int) ≤ nodesI W H T → ∀ p ∈ loop1 W H T k, Side W H T p ∧ p.1 < k
  | 0, _, p, hp => by simp [loop1] at hp
  | k + 1, hk, p, hp => by
    simp only [loop1, List.mem_append] at hp
    rcases hp with hp | hp
    · have := loop1_side h (k := k) (by omega) p hp
      exact ⟨this.1, by omega⟩
    · have := nodeL_side (n := (k : Int)) ⟨h, by omega, by omega⟩ hp
      exact ⟨this.1, by omega⟩
theorem loop1_nodup {W H T : Int} (h : okA W H T) : ∀ {k : Nat}, (k : Int) ≤ nodesI W H T → (loop1 W H T k).Nodup
  | 0, _ => by simp [loop1]
  | k + 1, hk => by
    simp only [loop1]
    rw [List.nodup_append]
    refine ⟨loop1_nodup h (k := k) (by omega), nodeL_nodup ⟨h, by omega, by omega⟩, ?_⟩
    intro a ha b hb hab
    subst hab
    have l1 := loop1_side h (k := k) (by omega) a ha
    have l2 := nodeL_side (n := (k : Int)) ⟨h, by omega, by omega⟩ hb
    omega

/-! ### corners -/
theorem coC_34 (k : Nat) : coC k = 3 ∨ coC k = 4 := by
  rcases k with _ | _ | k <;> simp [coC]
/-- the track of a corner's place -/
def co (W H T x y t : Int) (i : Nat) : Int := nodeN W H T (coC i) (coX x i) (coY y i) t
def coOk (W H x y : Int) (i : Nat) : Prop := okP W H (coC i) (coX x i) (coY y i)
theorem co_at {W H T : Int} (h : okA W H T) {x y t : Int} (ht : 0 ≤ t ∧ t < T) {i : Nat} (hi : coOk W H x y i) :
    isN W H T (co W H T x y t i) ∧ gk W H T (co W H T x y t i) = coC i ∧ wx W H T (co W H T x y t i) = coX x i ∧ wy W H T (co W H T x y t i) = coY y i ∧ wt W H T (co W H T x y t i) = t ∧ co W H T x y t i = nodeAt W H T (coC i) (coX x i) (coY y i) t :=
  track_at h (coC_34 i) hi ht
theorem co_E {W H T : Int} (h : okA W H T) {x y t : Int} (ht : 0 ≤ t ∧ t < T) (i : Nat) : nodeE W H T (coC i) (coX x i) (coY y i) t = 0 ↔ coOk W H x y i := track_E h (coC_34 i) ht
/-- they go up -/
theorem co_lt {W H T : Int} (h : okA W H T) {x y t : Int} (ht : 0 ≤ t ∧ t < T) {i j : Nat} (hij : i < j) (hj : j < 4) (oi : coOk W H x y i) (oj : coOk W H x y j) : co W H T x y t i < co W H T x y t j := by
  have hh := h
  unfold okA at hh
  obtain ⟨a1, a2, a3, a4, a5, a6⟩ := co_at h ht oi
  obtain ⟨b1, b2, b3, b4, b5, b6⟩ := co_at h ht oj
  rcases lt4 hj with rfl | rfl | rfl | rfl
  · omega
  · obtain rfl : i = 0 := by omega
    rw [a6, b6]
    simp only [nodeAt, coC, coX, coY, gw, gd]
    rw [Int.add_mul, Int.add_mul, Int.sub_mul]
    omega
  · rcases (show i = 0 ∨ i = 1 by omega) with rfl | rfl
    · exact gk_lt_of h a1 b1 (by rw [a2, b2]; decide)
    · exact gk_lt_of h a1 b1 (by rw [a2, b2]; decide)
  · rcases (show i = 0 ∨ i = 1 ∨ i = 2 by omega) with rfl | rfl | rfl
    · exact gk_lt_of h a1 b1 (by rw [a2, b2]; decide)
    · exact gk_lt_of h a1 b1 (by rw [a2, b2]; decide)
    · rw [a6, b6]
      simp only [nodeAt, coC, coX, coY, gw, gd]
      have : (y - 1) * (W + 1) = y * (W + 1) - (W + 1) := by rw [Int.sub_mul, Int.one_mul]
      rw [this]
      have e : (y * (W + 1) + x) * T - (y * (W + 1) - (W + 1) + x) * T = (W + 1) * T := by rw [← Int.sub_mul]; congr 1; omega
      have : 0 < (W + 1) * T := Int.mul_pos (by omega) (by omega)
      omega
theorem mem_hereTo {W H T : Int} (h : okA W H T) {x y t : Int} (ht : 0 ≤ t ∧ t < T) {m : Int} : ∀ {k : Nat}, m ∈ hereTo W H T x y t k ↔ ∃ i : Nat, i < k ∧ coOk W H x y i ∧ m = co W H T x y t i
  | 0 => by simp [hereTo]
  | k + 1 => by
    simp only [hereTo, List.mem_append, mem_hereTo h ht (k := k)]
    constructor
    · rintro (⟨i, h1, h2, h3⟩ | hp)
      · exact ⟨i, by omega, h2, h3⟩
      · split at hp
        · rename_i he
          exact ⟨k, by omega, (co_E h ht k).1 he, by simpa [co] using hp⟩
        · cases hp
    · rintro ⟨i, h1, h2, h3⟩
      by_cases e : i = k
      · subst e
        exact .inr (by rw [if_pos ((co_E h ht i).2 h2)]; simpa [co] using h3)
      · exact .inl ⟨i, by omega, h2, h3⟩
theorem mem_cornerTo {W H T : Int} (h : okA W H T) {x y t : Int} (ht : 0 ≤ t ∧ t < T) {p : Int × Int} : ∀ {k : Nat}, k ≤ 4 → (p ∈ cornerTo W H T x y t k ↔ ∃ i j : Nat, i < j ∧ j < k ∧ coOk W H x y i ∧ coOk W H x y j ∧ p = (co W H T x y t i, co W H T x y t j))
  | 0, _ => by simp [cornerTo]
  | k + 1, hk => by
    simp only [cornerTo, List.mem_append, mem_cornerTo h ht (k := k) (by omega)]
    constructor
    · rintro (⟨i, j, h1, h2, h3⟩ | hp)
      · exact ⟨i, j, h1, by omega, h3⟩
      · split at hp
        · rename_i he
          obtain ⟨m, hm, rfl⟩ := List.mem_map.1 hp
          obtain ⟨i, hik, oi, rfl⟩ := (mem_hereTo h ht).1 hm
          have ok := (co_E h ht k).1 he
          have hlt := co_lt h ht hik (by omega) oi ok
          refine ⟨i, k, hik, by omega, oi, ok, ?_⟩
          unfold lo hi
          unfold co at hlt ⊢
          rw [if_neg (by omega), if_pos (by omega)]
        · cases hp
    · rintro ⟨i, j, h1, h2, oi, oj, rfl⟩
      by_cases e : j = k
      · subst e
        refine .inr ?_
        rw [if_pos ((co_E h ht j).2 oj)]
        refine List.mem_map.2 ⟨co W H T x y t i, (mem_hereTo h ht).2 ⟨i, h1, oi, rfl⟩, ?_⟩
        have hlt := co_lt h ht h1 (by omega) oi oj
        unfold lo hi
        unfold co at hlt ⊢
        rw [if_neg (by omega), if_pos (by omega)]
      · exact .inl ⟨i, j, h1, by omega, oi, oj, rfl⟩
end Go.Proofs.Ytakccepilbmmlaa
