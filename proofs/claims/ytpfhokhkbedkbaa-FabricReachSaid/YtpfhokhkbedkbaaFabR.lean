/- From each track all tracks of the same t are reached. Plain, no program here. -/
import Derived.Test.YtpfhokhkbedkbaaFabO
import Derived.Test.YtpfhokhkbedkbaaTrack
namespace Go.Proofs.Ytpfhokhkbedkbaa
set_option linter.unusedVariables false
set_option linter.unusedSimpArgs false

/-! ### all tracks of one t hang together -/
theorem mem_rawL_corner {W H T : Int} (h : okA W H T) {x y t : Nat} (hx : (x : Int) ≤ W) (hy : (y : Int) ≤ H) (ht : (t : Int) < T) {p : Int × Int} (hp : p ∈ cornerTo W H T x y t 4) : p ∈ rawL W H T := by
  have m1 : ∀ k : Nat, t < k → p ∈ tTo W H T x y k := by
    intro k
    induction k with
    | zero => intro h; omega
    | succ k ih =>
      intro hk
      simp only [tTo, List.mem_append]
      by_cases e : t = k
      · subst e; exact .inr hp
      · exact .inl (ih (by omega))
  have m2 : ∀ k : Nat, y < k → p ∈ yTo W H T x k := by
    intro k
    induction k with
    | zero => intro h; omega
    | succ k ih =>
      intro hk
      simp only [yTo, List.mem_append]
      by_cases e : y = k
      · subst e; exact .inr (m1 _ (by omega))
      · exact .inl (ih (by omega))
  have m3 : ∀ k : Nat, x < k → p ∈ xTo W H T k := by
    intro k
    induction k with
    | zero => intro h; omega
    | succ k ih =>
      intro hk
      simp only [xTo, List.mem_append]
      by_cases e : x = k
      · subst e; exact .inr (m2 _ (by omega))
      · exact .inl (ih (by omega))
  unfold rawL
  exact List.mem_append.2 (.inr (m3 _ (by omega)))

/-- a colouring of the nodes that each switch between tracks keeps -/
def Shut (W H T : Int) (f : Int → Bool) : Prop := ∀ p ∈ rawL W H T, trackB W H T p.1 = true → trackB W H T p.2 = true → f p.1 = f p.2

theorem co_track {W H T : Int} (h : okA W H T) {x y t : Int} (ht : 0 ≤ t ∧ t < T) {i : Nat} (hi : coOk W H x y i) : trackB W H T (co W H T x y t i) = true := by
  obtain ⟨a1, a2, -⟩ := co_at h ht hi
  unfold trackB
  rcases coC_34 i with e | e <;> simp [a1, a2, e]

theorem shut_corner {W H T : Int} (h : okA W H T) {f : Int → Bool} (hs : Shut W H T f) {x y t : Nat} (hx : (x : Int) ≤ W) (hy : (y : Int) ≤ H) (ht : (t : Int) < T) {i j : Nat} (hi : i < 4) (hj : j < 4) (oi : coOk W H x y i) (oj : coOk W H x y j) :
    f (co W H T x y t i) = f (co W H T x y t j) := by
  have hlt : ∀ {i j : Nat}, i < j → j < 4 → coOk W H x y i → coOk W H x y j → f (co W H T x y t i) = f (co W H T x y t j) := by
    intro i j hij hj oi oj
    have hm := mem_rawL_corner h hx hy ht ((mem_cornerTo h (t := (t : Int)) ⟨by omega, ht⟩ (k := 4) (by omega)).2 ⟨i, j, hij, hj, oi, oj, rfl⟩)
    exact hs _ hm (co_track h ⟨by omega, ht⟩ oi) (co_track h ⟨by omega, ht⟩ oj)
  rcases Nat.lt_trichotomy i j with e | e | e
  · exact hlt e hj oi oj
  · rw [e]
  · exact (hlt e hi oj oi).symm

/-- the track that lies, that stands -/
def horN (W H T x y t : Int) : Int := nodeN W H T 3 x y t
def verN (W H T x y t : Int) : Int := nodeN W H T 4 x y t
theorem co0 (W H T x y t : Int) : co W H T x y t 0 = horN W H T (x - 1) y t := rfl
theorem co1 (W H T x y t : Int) : co W H T x y t 1 = horN W H T x y t := rfl
theorem co2 (W H T x y t : Int) : co W H T x y t 2 = verN W H T x (y - 1) t := rfl
theorem co3 (W H T x y t : Int) : co W H T x y t 3 = verN W H T x y t := rfl
theorem ok0 {W H x y : Int} : coOk W H x y 0 ↔ (0 ≤ x - 1 ∧ x - 1 < W) ∧ (0 ≤ y ∧ y < H + 1) := Iff.rfl
theorem ok1 {W H x y : Int} : coOk W H x y 1 ↔ (0 ≤ x ∧ x < W) ∧ (0 ≤ y ∧ y < H + 1) := Iff.rfl
theorem ok2 {W H x y : Int} : coOk W H x y 2 ↔ (0 ≤ x ∧ x < W + 1) ∧ (0 ≤ y - 1 ∧ y - 1 < H) := Iff.rfl
theorem ok3 {W H x y : Int} : coOk W H x y 3 ↔ (0 ≤ x ∧ x < W + 1) ∧ (0 ≤ y ∧ y < H) := Iff.rfl

theorem shut_all {W H T : Int} (h : okA W H T) {f : Int → Bool} (hs : Shut W H T f) {t : Nat} (ht : (t : Int) < T) :
    (∀ x y : Nat, (x : Int) < W → (y : Int) ≤ H → f (horN W H T x y t) = f (horN W H T 0 0 t)) ∧ (∀ x y : Nat, (x : Int) ≤ W → (y : Int) < H → f (verN W H T x y t) = f (horN W H T 0 0 t)) := by
  have hh := h
  unfold okA at hh
  -- the lowest row
  have r1 : ∀ x : Nat, (x : Int) < W → f (horN W H T x 0 t) = f (horN W H T 0 0 t) := by
    intro x
    induction x with
    | zero => intro _; rfl
    | succ x ih =>
      intro hx
      have := shut_corner h hs (x := x + 1) (y := 0) (t := t) (by omega) (by simp; omega) ht (i := 0) (j := 1) (by omega) (by omega) (ok0.2 ⟨by omega, by simp; omega⟩) (ok1.2 ⟨by omega, by simp; omega⟩)
      rw [co0, co1] at this
      have e : ((x + 1 : Nat) : Int) - 1 = (x : Int) := by omega
      rw [e] at this
      exact this.symm.trans (ih (by omega))
  -- the columns
  have r2 : ∀ x : Nat, (x : Int) ≤ W → f (verN W H T x 0 t) = f (horN W H T 0 0 t) := by
    intro x hx
    by_cases e : (x : Int) < W
    · have := shut_corner h hs (x := x) (y := 0) (t := t) hx (by simp; omega) ht (i := 1) (j := 3) (by omega) (by omega) (ok1.2 ⟨by omega, by simp; omega⟩) (ok3.2 ⟨by omega, by simp; omega⟩)
      rw [co1, co3] at this
      exact this.symm.trans (r1 x e)
    · have := shut_corner h hs (x := x) (y := 0) (t := t) hx (by simp; omega) ht (i := 0) (j := 3) (by omega) (by omega) (ok0.2 ⟨by omega, by simp; omega⟩) (ok3.2 ⟨by omega, by simp; omega⟩)
      rw [co0, co3] at this
      have e1 : (x : Int) - 1 = ((x - 1 : Nat) : Int) := by omega
      rw [e1] at this
      exact this.symm.trans (r1 (x - 1) (by omega))
  have r3 : ∀ x y : Nat, (x : Int) ≤ W → (y : Int) < H → f (verN W H T x y t) = f (horN W H T 0 0 t) := by
    intro x y hx
    induction y with
    | zero => intro _; exact r2 x hx
    | succ y ih =>
      intro hy
      have := shut_corner h hs (x := x) (y := y + 1) (t := t) hx (by omega) ht (i := 2) (j := 3) (by omega) (by omega) (ok2.2 ⟨by omega, by omega⟩) (ok3.2 ⟨by omega, by omega⟩)
      rw [co2, co3] at this
      have e : ((y + 1 : Nat) : Int) - 1 = (y : Int) := by omega
      rw [e] at this
      exact this.symm.trans (ih (by omega))
  refine ⟨?_, r3⟩
  intro x y hx hy
  rcases Nat.eq_zero_or_pos y with e | e
  · subst e; exact r1 x hx
  · have := shut_corner h hs (x := x) (y := y) (t := t) (by omega) hy ht (i := 1) (j := 2) (by omega) (by omega) (ok1.2 ⟨by omega, by omega⟩) (ok2.2 ⟨by omega, by omega⟩)
    rw [co1, co2] at this
    have e1 : (y : Int) - 1 = ((y - 1 : Nat) : Int) := by omega
    rw [e1] at this
    exact this.trans (r3 x (y - 1) (by omega) (by omega))

/-- of two tracks of one t a colouring that switches keep tells the same -/
theorem shut_same {W H T : Int} (h : okA W H T) {f : Int → Bool} (hs : Shut W H T f) {m n : Int} (hm : trackB W H T m = true) (hn : trackB W H T n = true) (ht : whT W H T m = whT W H T n) : f m = f n := by
  have key : ∀ {k : Int}, trackB W H T k = true → ∃ t : Nat, (t : Int) < T ∧ whT W H T k = (t : Int) ∧ f k = f (horN W H T 0 0 t) := by
    intro k hk
    unfold trackB at hk
    simp only [decide_eq_true_eq] at hk
    obtain ⟨hN, hg⟩ := hk
    obtain ⟨v1, v2, v3, v4, -⟩ := wh_yes hN
    obtain ⟨hk, ⟨⟨a1, a2⟩, ⟨a3, a4⟩, a5, a6⟩, e⟩ := what_nodeAt hN
    obtain ⟨t, htt⟩ : ∃ t : Nat, wt W H T k = (t : Int) := ⟨(wt W H T k).toNat, by omega⟩
    obtain ⟨x, hxx⟩ : ∃ x : Nat, wx W H T k = (x : Int) := ⟨(wx W H T k).toNat, by omega⟩
    obtain ⟨y, hyy⟩ : ∃ y : Nat, wy W H T k = (y : Int) := ⟨(wy W H T k).toNat, by omega⟩
    rw [htt] at a5 a6 e
    rw [hxx] at a1 a2 e
    rw [hyy] at a3 a4 e
    refine ⟨t, ?_, by rw [v4, htt], ?_⟩
    · rcases hg with g | g <;> rw [g] at a6 <;> simpa [gd] using a6
    · rcases hg with g | g
      · rw [g] at a2 a4 a6 e
        simp only [gw, gh, gd] at a2 a4 a6
        have e2 : horN W H T x y t = k := by
          unfold horN nodeN
          rw [if_pos ⟨h, ⟨a1, a2⟩, ⟨a3, by simpa [gh] using a4⟩, a5, by simpa [gd] using a6⟩]
          exact e
        rw [← e2]
        exact (shut_all h hs (by simpa [gd] using a6)).1 x y a2 (by omega)
      · rw [g] at a2 a4 a6 e
        simp only [gw, gh, gd] at a2 a4 a6
        have e2 : verN W H T x y t = k := by
          unfold verN nodeN
          rw [if_pos ⟨h, ⟨a1, by simpa [gw] using a2⟩, ⟨a3, by simpa [gh] using a4⟩, a5, by simpa [gd] using a6⟩]
          exact e
        rw [← e2]
        exact (shut_all h hs (by simpa [gd] using a6)).2 x y (by omega) a4
  obtain ⟨t1, l1, e1, f1⟩ := key hm
  obtain ⟨t2, l2, e2, f2⟩ := key hn
  have : t1 = t2 := by have : (t1 : Int) = t2 := by rw [← e1, ← e2, ht]
                       omega
  subst this
  rw [f1, f2]
end Go.Proofs.Ytpfhokhkbedkbaa
