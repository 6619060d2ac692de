/- Slices of slices; appends of whole rows; what one change leaves alone. -/
import Derived.Test.YtkhlllbceceikaaDoorCat
namespace Go.Proofs.YtkhlllbceceikaaDoor
open Go.RowKit
set_option linter.unusedVariables false
set_option linter.unusedSimpArgs false

section
variable {ops : Array Oper} {rest : List Oper} {o : Oper} {a : Act} {Q : Exit → Act → World → Prop}
/-- a whole row behind a row of one's own, whatever the element -/
theorem wpList_app_row (hgd : o.guard = none) (s x : Operand) (ts te : TypeId) (ho : o.op = .call { callee := .builtin .append, args := #[s, x], argTypes := #[ts, ts] })
    (hts : Tryd.prog.underlying ts = some (.slice te)) (z : Value) (sz bytes : Nat) (hinfo : (Tryd.prog.info? te).map (fun i => (i.zero, i.size, i.bytes)) = some (some z, sz, bytes)) (hzs : z.cells.size = sz) (hsz : 0 < sz) (hby : bytes ≤ 100000)
    {W : World} (base : Nat) (A : Option Addr) (k c : Nat) (L : List Value) (hs : a.eval s = .slice A k c) (O : W.ownsRow base te sz (.slice A k c) k L)
    (A2 : Option Addr) (n d : Nat) (M : List Value) (hx : a.eval x = .slice A2 n d) (hr : Rd W sz A2 n d M) (h1 : ∀ u ∈ M, u.oneCell' = true) (hk : k + n ≤ 100000000) (hb : base ≤ W.heap.size)
    (h : ∀ A' c' w', w'.ownsRow base te sz (.slice A' (k + n) c') (k + n) (L ++ M) → W.grownBy w' (Value.slice A k c).ownBlock → wpList Tryd.prog ops Q rest (a.put o.dst (.slice A' (k + n) c')) w') :
    wpList Tryd.prog ops Q (o :: rest) a W := by
  obtain ⟨i0, hi0, hz0, hz1, hz2⟩ := info_parts hinfo
  cases A2 with
  | none =>
    have hd : d = 0 := hr.nil rfl
    have hn : n = 0 := by have := hr.cap; omega
    subst hd hn
    have hM : M = [] := List.eq_nil_of_length_eq_zero (by have := hr.len; omega)
    subst hM
    refine wpList_append_own_none hgd s x ts ho base te i0 sz hts hi0 (.slice A k c) k L hs O hx ?_
    exact h A c W (by simpa using O) (World.grownBy.refl W _)
  | some ad =>
    refine wpList_append_own _ hgd s x ts ho base te i0 z sz bytes hts hi0 hz0 hz1 hz2 hzs hsz (.slice A k c) k L hs O ad n d M hx hr.len ?_ h1 ?_ ?_ hb ?_
    · intro j u hj
      obtain ⟨a', e, -, hc⟩ := hr.read j u hj
      obtain rfl := Option.some.inj e
      exact hc
    · unfold maxLen; omega
    · have := Nat.mul_le_mul hk hby; omega
    · intro v' w' hown hg _
      obtain ⟨A', c', rfl⟩ := own_slice hown
      exact h A' c' w' hown hg
end
theorem Rd.chg {w w' : World} {X : Nat → Prop} {size n c : Nat} {A : Option Addr} {xs : List Value} (h : Rd w size A n c xs) (hc : Chg w w' X) (hx : ∀ g, blkOf A = some g → ¬ X g) : Rd w' size A n c xs := by
  refine ⟨h.len, h.cap, h.nil, fun j u hj => ?_⟩
  obtain ⟨a, rfl, hb, hr⟩ := h.read j u hj
  refine ⟨a, rfl, Nat.lt_of_lt_of_le hb hc.size, ?_⟩
  rw [← hr]
  have hh := hc.block a.block hb (hx _ rfl)
  rw [← add_block a j] at hh
  simp only [World.cell?, hh]
/-- the cells of a part of a row -/
theorem Rd.sub {w : World} {size n c : Nat} {A : Option Addr} {xs : List Value} (h : Rd w size A n c xs) {i m : Nat} (hi : i + m ≤ n) (hm : 0 < m ∨ True) : Rd w size (A.map fun a => a.add (i * size)) m (c - i) ((xs.drop (i * size)).take (m * size)) := by
  refine ⟨?_, by have := h.cap; omega, ?_, fun j u hj => ?_⟩
  · have := h.len
    have h2 : (i + m) * size ≤ n * size := Nat.mul_le_mul_right _ hi
    rw [Nat.add_mul] at h2
    simp only [List.length_take, List.length_drop, this]
    omega
  · intro e
    cases A with
    | none => have := h.nil rfl; omega
    | some a => cases e
  · have hj1 : j < m * size := by
      rcases Nat.lt_or_ge j (m * size) with hlt | hge
      · exact hlt
      · rw [List.getElem?_eq_none (by rw [List.length_take]; omega)] at hj; cases hj
    rw [List.getElem?_take_of_lt hj1, List.getElem?_drop] at hj
    obtain ⟨a, rfl, hb, hr⟩ := h.read _ u hj
    refine ⟨_, rfl, by rw [add_block]; exact hb, ?_⟩
    rw [← hr]
    congr 1
    unfold Addr.add
    by_cases h0 : i * size = 0 <;> by_cases h1 : j = 0 <;> simp [h0, h1, Nat.add_assoc]
/-- a slice of ints lies in memory -/
def SLIn (w : World) (l : SL) : Prop := Rd w 1 l.1 l.2.2.length l.2.1 (ints l.2.2)
theorem SLIn.later {w w' : World} {l : SL} (h : SLIn w l) (hb : Below w.heap.size w w') : SLIn w' l := Rd.later h hb
/-- slices of ints, in a row -/
structure SLs (w : World) (A : Option Addr) (c : Nat) (ls : List SL) : Prop where
  row : Rd w 1 A ls.length c (ls.map slv)
  all : ∀ l ∈ ls, SLIn w l
theorem SLs.later {w w' : World} {A : Option Addr} {c : Nat} {ls : List SL} (h : SLs w A c ls) (hb : Below w.heap.size w w') : SLs w' A c ls := ⟨h.row.later hb, fun l hl => (h.all l hl).later hb⟩
/-- what the slices read as -/
def con (ls : List SL) : List (List Int) := ls.map fun l => l.2.2
theorem con_length (ls : List SL) : (con ls).length = ls.length := by simp [con]
theorem SLs.at_ {w : World} {A : Option Addr} {c : Nat} {ls : List SL} (h : SLs w A c ls) {k : Nat} (hk : k < ls.length) :
    ∃ a, A = some a ∧ a.block < w.heap.size ∧ w.cell? (a.add k) = some (slv ls[k]) ∧ SLIn w ls[k] := by
  obtain ⟨a, hA, hb, hr⟩ := h.row.at1 hk
  refine ⟨a, hA, hb, ?_, h.all _ (List.getElem_mem hk)⟩
  rw [hr, List.getD_eq_getElem?_getD, List.getElem?_map, List.getElem?_eq_getElem hk]
  rfl
theorem slv_one (ls : List SL) : ∀ u ∈ ls.map slv, u.oneCell' = true := by
  intro u hu
  obtain ⟨x, -, rfl⟩ := List.mem_map.1 hu
  rfl
end Go.Proofs.YtkhlllbceceikaaDoor
