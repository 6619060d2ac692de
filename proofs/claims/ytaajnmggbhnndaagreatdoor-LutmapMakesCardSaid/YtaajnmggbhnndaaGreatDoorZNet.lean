/- All cuts of gates, plainly. · All cuts of gates in memory, while they are made. · Which row some bits are, plainly. · Nets, as plain data, and where they lie; whether one may be. -/
import Derived.Test.YtaajnmggbhnndaaGreatDoorZCSets
import Derived.Test.YtaajnmggbhnndaaGreatDoorZCTab
import Derived.Maps.AppendAt
import Derived.Test.YtaajnmggbhnndaaGreatDoorZMem
namespace Go.Proofs.YtaajnmggbhnndaaGreatDoor
open Go.RowKit
set_option linter.unusedVariables false
set_option linter.unusedSimpArgs false
/-- a cut, plainly: leaves, table -/
abbrev PC : Type := List Int × Nat
/-- the row of node x, and its depth, of what is ahead -/
noncomputable def AG.cutRow (G : AG) (k : Int) (out : List (List PC)) (d : List Int) (x : Nat) : List PC × Int :=
  if x < G.fst then ([([(x : Int)], 2)], 0) else
    let p := G.ands.getD (x - G.fst) (0, 0)
    let s := Cut.gate d ((out.getD (p.1 / 2) []).map (·.1)) ((out.getD (p.2 / 2) []).map (·.1)) k
    (s.map (fun l => (l, optV (G.good l (x : Int)))) ++ [([(x : Int)], 2)], Cut.deep d (s.headD []))
/-- cuts and depths of the nodes up to x -/
noncomputable def AG.bothTo (G : AG) (k : Int) : Nat → List (List PC) × List Int
  | 0 => ([[([], 0)]], [0])
  | x + 1 => ((G.bothTo k x).1 ++ [(G.cutRow k (G.bothTo k x).1 (G.bothTo k x).2 (x + 1)).1], (G.bothTo k x).2 ++ [(G.cutRow k (G.bothTo k x).1 (G.bothTo k x).2 (x + 1)).2])
theorem AG.bothTo_len (G : AG) (k : Int) : ∀ x, (G.bothTo k x).1.length = x + 1 ∧ (G.bothTo k x).2.length = x + 1
  | 0 => ⟨rfl, rfl⟩
  | x + 1 => by have := G.bothTo_len k x; simp [AG.bothTo, this.1, this.2]
/-- what holds of a row -/
structure RowOk (k : Int) (x : Nat) (r : List PC) : Prop where
  lv : ∀ c ∈ r, NodesIn (x + 1) c.1 ∧ Cut.Rises c.1 ∧ c.1.length ≤ 6 ∧ (c.1.length : Int) ≤ max k 1 ∧ ∀ z ∈ c.1, 1 ≤ z
  len : 1 ≤ r.length ∧ r.length ≤ 9
  last : 0 < x → r[r.length - 1]? = some ([(x : Int)], 2)
  zero : x = 0 → r = [([], 0)]
  tab : ∀ c ∈ r, c.2 < 18446744073709551616
/-- what holds of all that is told -/
structure BothOk (k : Int) (x : Nat) (st : List (List PC) × List Int) : Prop where
  len : st.1.length = x + 1 ∧ st.2.length = x + 1
  row : ∀ j, j ≤ x → RowOk k j (st.1.getD j [])
  dep : ∀ j, j ≤ x → 0 ≤ st.2.getD j 0 ∧ st.2.getD j 0 ≤ (j : Int)
theorem NodesIn.mono {N M : Nat} {l : List Int} (h : NodesIn N l) (hm : N ≤ M) : NodesIn M l := fun x hx => ⟨(h x hx).1, by have := (h x hx).2; omega⟩
theorem BothOk.lvIn {k : Int} {x j : Nat} {st : List (List PC) × List Int} (h : BothOk k x st) (hj : j ≤ x) : ∀ l ∈ (st.1.getD j []).map (·.1), NodesIn (x + 1) l ∧ l.length ≤ 6 := fun l hl => by
  obtain ⟨c, hc, rfl⟩ := List.mem_map.1 hl
  have := (h.row j hj).lv c hc
  exact ⟨this.1.mono (by omega), this.2.2.1⟩
/-- two cuts of no or one leaf can be made one -/
theorem merge_ones {k : Int} (hk : 2 ≤ k ∧ k ≤ 6) (a b : List Int) (ha : a.length ≤ 1) (hb : b.length ≤ 1) : ∃ z, Cut.merge a b k = some z := by
  have hr : ∀ l : List Int, l.length ≤ 1 → Cut.Rises l := fun l hl => by
    match l, hl with
    | [], _ => exact List.Pairwise.nil
    | [x], _ => exact List.pairwise_singleton _ _
  have := Cut.mrg_len a b
  exact ⟨_, merge_some ⟨hr a ha, hr b hb, by omega, by omega, by omega⟩⟩
theorem RowOk.one {k : Int} {x : Nat} {r : List PC} (h : RowOk k x r) : ∃ c ∈ r, c.1.length ≤ 1 := by
  rcases Nat.eq_zero_or_pos x with h0 | h0
  · have h1 := h.zero h0; exact ⟨([], 0), by rw [h1]; simp, by simp⟩
  · exact ⟨_, List.mem_of_getElem? (h.last h0), by simp⟩
/-- the gate of two nodes has a set -/
theorem gate_some {k : Int} (hk : 2 ≤ k ∧ k ≤ 6) {x a b : Nat} {st : List (List PC) × List Int} (h : BothOk k x st) (ha : a ≤ x) (hb : b ≤ x) :
    ∃ y, ∃ p ∈ Cut.pairs ((st.1.getD a []).map (·.1)) ((st.1.getD b []).map (·.1)), Cut.merge p.1 p.2 k = some y := by
  obtain ⟨c, hc, hc1⟩ := (h.row a ha).one
  obtain ⟨e, he, he1⟩ := (h.row b hb).one
  obtain ⟨z, hz⟩ := merge_ones hk c.1 e.1 hc1 he1
  refine ⟨z, (c.1, e.1), ?_, hz⟩
  unfold Cut.pairs
  exact List.mem_flatMap.2 ⟨c.1, List.mem_map.2 ⟨c, hc, rfl⟩, List.mem_map.2 ⟨e.1, List.mem_map.2 ⟨e, he, rfl⟩, rfl⟩⟩
theorem mem_gate {d : List Int} {a b : List (List Int)} {k : Int} {l : List Int} (h : l ∈ Cut.gate d a b k) : ∃ p ∈ Cut.pairs a b, Cut.merge p.1 p.2 k = some l := by
  have := (Cut.fold_sorted d k (Cut.pairs a b) [] (by simp) (by simp)).2 l
  rcases this.1 (List.mem_of_mem_take h) with h1 | h1
  · cases h1
  · exact h1
theorem pairs_mem {a b : List (List Int)} {p : List Int × List Int} (h : p ∈ Cut.pairs a b) : p.1 ∈ a ∧ p.2 ∈ b := by
  obtain ⟨x, hx, h⟩ := List.mem_flatMap.1 h
  obtain ⟨y, hy, rfl⟩ := List.mem_map.1 h
  exact ⟨hx, hy⟩
theorem gate_ne {k : Int} (hk : 2 ≤ k ∧ k ≤ 6) {x a b : Nat} {st : List (List PC) × List Int} (h : BothOk k x st) (ha : a ≤ x) (hb : b ≤ x) (d : List Int) : Cut.gate d ((st.1.getD a []).map (·.1)) ((st.1.getD b []).map (·.1)) k ≠ [] := by
  obtain ⟨y, p, hp, hm⟩ := gate_some hk h ha hb
  have h1 := (Cut.fold_sorted d k (Cut.pairs ((st.1.getD a []).map (·.1)) ((st.1.getD b []).map (·.1))) [] (by simp) (by simp)).2 y
  have h2 : y ∈ Cut.gateAll d ((st.1.getD a []).map (·.1)) ((st.1.getD b []).map (·.1)) k := h1.2 (.inr ⟨p, hp, hm⟩)
  intro he
  unfold Cut.gate at he
  rw [List.take_eq_nil_iff] at he
  rcases he with he | he
  · omega
  · rw [he] at h2; cases h2
theorem optV_good_lt (G : AG) (l : List Int) (n : Int) (hl : l.length ≤ 6) : optV (G.good l n) < 18446744073709551616 := by
  by_cases h : G.ok ∧ 0 ≤ n ∧ n ≤ G.cnt ∧ leavesB G.cnt l = true
  · rw [AG.good_yes h]
    cases ht : G.table l n.toNat with
    | none => decide
    | some v => exact AG.table_lt hl ht
  · rw [AG.good_no h]; decide
theorem deep_le {d l : List Int} {M : Int} (h0 : 0 ≤ M) (h : ∀ z ∈ l, d.getD z.toNat 0 ≤ M) : 1 ≤ Cut.deep d l ∧ Cut.deep d l ≤ M + 1 := by
  have ht : ∀ k, k ≤ l.length → 0 ≤ Cut.deepTo d l k ∧ Cut.deepTo d l k ≤ M := fun k => by
    induction k with
    | zero => intro _; exact ⟨Int.le_refl _, h0⟩
    | succ k ih =>
      intro hk
      have := ih (by omega)
      have h2 := h _ (getD_mem (l := l) (k := k) (by omega))
      simp only [Cut.deepTo]; omega
  have := ht l.length (Nat.le_refl _)
  unfold Cut.deep; omega
/-- the next row is as it should be -/
theorem BothOk.next {G : AG} {k : Int} (hk : 2 ≤ k ∧ k ≤ 6) (hok : G.ok) {x : Nat} (hx : x + 1 < G.cn) {st : List (List PC) × List Int} (h : BothOk k x st) :
    RowOk k (x + 1) (G.cutRow k st.1 st.2 (x + 1)).1 ∧ 0 ≤ (G.cutRow k st.1 st.2 (x + 1)).2 ∧ (G.cutRow k st.1 st.2 (x + 1)).2 ≤ ((x + 1 : Nat) : Int) := by
  have hself : ∀ c : PC, c = ([((x + 1 : Nat) : Int)], 2) → NodesIn (x + 1 + 1) c.1 ∧ Cut.Rises c.1 ∧ c.1.length ≤ 6 ∧ (c.1.length : Int) ≤ max k 1 ∧ ∀ z ∈ c.1, 1 ≤ z := fun c hc => by
    subst hc
    refine ⟨fun z hz => ?_, List.pairwise_singleton _ _, by simp, by simp; omega, fun z hz => ?_⟩
    · rw [List.mem_singleton] at hz; subst hz; omega
    · rw [List.mem_singleton] at hz; subst hz; omega
  unfold AG.cutRow
  by_cases hlow : x + 1 < G.fst
  · rw [if_pos hlow]
    refine ⟨⟨fun c hc => hself c (by simpa using hc), by simp, fun _ => by simp, fun h => by omega, fun c hc => by rw [List.mem_singleton] at hc; subst hc; show 2 < 18446744073709551616; decide⟩, Int.le_refl _, by simp; omega⟩
  · rw [if_neg hlow]
    obtain ⟨i, hi⟩ : ∃ i, x + 1 - G.fst = i := ⟨_, rfl⟩
    have hia : i < G.an.length := by have : G.cn = G.fst + G.an.length := rfl; omega
    obtain ⟨a, b, hg, hgs, ha, hb, -, -⟩ := hok.gate hia
    have hp : G.ands.getD (x + 1 - G.fst) (0, 0) = (a, b) := by rw [hi, List.getD_eq_getElem?_getD, hgs]; rfl
    have ha2 : a / 2 ≤ x := by omega
    have hb2 : b / 2 ≤ x := by omega
    simp only [hp]
    obtain ⟨s, hs⟩ : ∃ s, Cut.gate st.2 ((st.1.getD (a / 2) []).map (·.1)) ((st.1.getD (b / 2) []).map (·.1)) k = s := ⟨_, rfl⟩
    have hne := gate_ne hk h ha2 hb2 st.2
    rw [hs] at hne ⊢
    have hmem : ∀ l ∈ s, NodesIn (x + 1) l ∧ Cut.Rises l ∧ (l.length : Int) ≤ k ∧ ∀ z ∈ l, 1 ≤ z := fun l hl => by
      rw [← hs] at hl
      obtain ⟨p, hp, hm⟩ := mem_gate hl
      obtain ⟨h1, h2⟩ := pairs_mem hp
      obtain ⟨c, hc, e1⟩ := List.mem_map.1 h1
      obtain ⟨e, he, e2⟩ := List.mem_map.1 h2
      obtain ⟨-, m2, m3, m4, m5⟩ := Cut.merge_mem hm
      have r1 := (h.row _ ha2).lv c hc
      have r2 := (h.row _ hb2).lv e he
      refine ⟨fun z hz => ?_, m2, m3, fun z hz => ?_⟩
      · rcases m5 z hz with h3 | h3
        · rw [← e1] at h3; exact (r1.1.mono (by omega)) z h3
        · rw [← e2] at h3; exact (r2.1.mono (by omega)) z h3
      · rcases m5 z hz with h3 | h3
        · rw [← e1] at h3; exact r1.2.2.2.2 z h3
        · rw [← e2] at h3; exact r2.2.2.2.2 z h3
    have hsl : s.length ≤ 8 := by rw [← hs]; unfold Cut.gate; rw [List.length_take]; omega
    refine ⟨⟨fun c hc => ?_, by simp; omega, fun _ => by simp, fun h => by omega, fun c hc => ?_⟩, ?_⟩
    · rcases List.mem_append.1 hc with hc | hc
      · obtain ⟨l, hl, rfl⟩ := List.mem_map.1 hc
        have hm := hmem l hl
        exact ⟨hm.1.mono (by omega), hm.2.1, by have := hm.2.2.1; show l.length ≤ 6; omega, by have := hm.2.2.1; show (l.length : Int) ≤ max k 1; omega, hm.2.2.2⟩
      · exact hself c (by simpa using hc)
    · rcases List.mem_append.1 hc with hc | hc
      · obtain ⟨l, hl, rfl⟩ := List.mem_map.1 hc
        have := hmem l hl
        exact optV_good_lt G l _ (by omega)
      · rw [List.mem_singleton] at hc; subst hc; show 2 < 18446744073709551616; decide
    · obtain ⟨l0, hl0⟩ : ∃ l, s.headD [] = l := ⟨_, rfl⟩
      rw [hl0]
      have hin : l0 ∈ s := by
        cases s with
        | nil => exact absurd rfl hne
        | cons y s => simp at hl0; subst hl0; simp
      have := deep_le (d := st.2) (l := l0) (M := (x : Int)) (by omega) (fun z hz => by
        have h1 := (hmem l0 hin).1 z hz
        have h2 := (h.dep z.toNat (by omega)).2
        omega)
      omega
theorem getD_left {α : Type} (l m : List α) (d : α) {j : Nat} (h : j < l.length) : (l ++ m).getD j d = l.getD j d := by
  rw [List.getD_eq_getElem?_getD, List.getD_eq_getElem?_getD, List.getElem?_append_left h]
theorem AG.bothTo_ok {G : AG} {k : Int} (hk : 2 ≤ k ∧ k ≤ 6) (hok : G.ok) : ∀ x, x < G.cn → BothOk k x (G.bothTo k x)
  | 0, _ => ⟨⟨rfl, rfl⟩, fun j hj => by
      obtain rfl : j = 0 := by omega
      exact ⟨fun c hc => by simp [AG.bothTo] at hc; subst hc; exact ⟨fun z hz => by simp at hz, List.Pairwise.nil, by simp, by simp; omega, fun z hz => by simp at hz⟩, by simp [AG.bothTo], fun h => by omega, fun _ => rfl, fun c hc => by simp [AG.bothTo] at hc; subst hc; decide⟩, fun j hj => by
      obtain rfl : j = 0 := by omega
      exact ⟨Int.le_refl _, Int.le_refl _⟩⟩
  | x + 1, hx => by
    have ih := G.bothTo_ok hk hok x (by omega)
    obtain ⟨h1, h2, h3⟩ := ih.next hk hok hx
    refine ⟨G.bothTo_len k (x + 1), fun j hj => ?_, fun j hj => ?_⟩
    · simp only [AG.bothTo]
      rcases Nat.lt_or_ge j (x + 1) with hlt | hge
      · rw [getD_left _ _ _ (by rw [ih.len.1]; exact hlt)]
        exact ih.row j (by omega)
      · obtain rfl : j = x + 1 := by omega
        rw [List.getD_eq_getElem?_getD, List.getElem?_append_right (by rw [ih.len.1]; exact Nat.le_refl _), ih.len.1, Nat.sub_self]
        exact h1
    · simp only [AG.bothTo]
      rcases Nat.lt_or_ge j (x + 1) with hlt | hge
      · rw [getD_left _ _ _ (by rw [ih.len.2]; exact hlt)]
        exact ih.dep j (by omega)
      · obtain rfl : j = x + 1 := by omega
        rw [List.getD_eq_getElem?_getD, List.getElem?_append_right (by rw [ih.len.2]; exact Nat.le_refl _), ih.len.2, Nat.sub_self]
        exact ⟨h2, h3⟩
end Go.Proofs.YtaajnmggbhnndaaGreatDoor

namespace Go.Proofs.YtaajnmggbhnndaaGreatDoor
open Go.RowKit
set_option linter.unusedVariables false
set_option linter.unusedSimpArgs false
/-- the append of one element's cells behind a row of one's own: as an equation -/
theorem app_run (ts te ty : TypeId) (hts : Tryz.prog.underlying ts = some (.slice te)) (z : Value) (sz bytes : Nat) (hinfo : (Tryz.prog.info? te).map (fun i => (i.zero, i.size, i.bytes)) = some (some z, sz, bytes)) (hzs : z.cells.size = sz) (hsz : 0 < sz) (hby : bytes ≤ 100000)
    {W : World} (base : Nat) (A : Option Addr) (k c : Nat) (L : List Value) (O : W.ownsRow base te sz (.slice A k c) k L)
    (ad : Addr) (d : Nat) (M : List Value) (hr : Rd W sz (some ad) 1 d M) (h1 : ∀ u ∈ M, u.oneCell' = true) (hk : k + 1 ≤ 100000000) (hb : base ≤ W.heap.size) :
    ∃ A' c' w', (Builtin.append_ #[ts, ts] ty #[.slice A k c, .slice (some ad) 1 d]).run Tryz.prog W = .ok (.slice A' (k + 1) c') w' ∧ w'.ownsRow base te sz (.slice A' (k + 1) c') (k + 1) (L ++ M) ∧ W.grownBy w' (blkOf A) ∧ (blkOf A' = blkOf A ∨ blkOf A' = some W.heap.size) := by
  obtain ⟨i0, hi0, hz0, hz1, hz2⟩ := info_parts hinfo
  obtain ⟨v', w', hrun, h2, h3, -, h5⟩ := run_append_own_at (P := Tryz.prog) W base ts ty te i0 z sz bytes hts hi0 hz0 hz1 hz2 hzs hsz (.slice A k c) k L O ad 1 d M hr.len (fun j u hj => by
    obtain ⟨a', e, -, hc⟩ := hr.read j u hj
    obtain rfl := Option.some.inj e
    exact hc) h1 (by unfold maxLen; omega) (by have := Nat.mul_le_mul hk hby; omega) hb
  obtain ⟨A', c', rfl⟩ := own_slice h2
  rw [own_blk] at h3 h5
  rw [own_blk] at h5
  exact ⟨A', c', w', hrun, h2, h3, h5⟩
section
variable {ops : Array Oper} {rest : List Oper} {o : Oper} {a : Act} {Q : Exit → Act → World → Prop}
theorem wpList_app_at (hgd : o.guard = none) (s x : Operand) (ts te : TypeId) (ho : o.op = .call { callee := .builtin .append, args := #[s, x], argTypes := #[ts, ts] })
    (hts : Tryz.prog.underlying ts = some (.slice te)) (z : Value) (sz bytes : Nat) (hinfo : (Tryz.prog.info? te).map (fun i => (i.zero, i.size, i.bytes)) = some (some z, sz, bytes)) (hzs : z.cells.size = sz) (hsz : 0 < sz) (hby : bytes ≤ 100000)
    {W : World} (base : Nat) (A : Option Addr) (k c : Nat) (L : List Value) (hs : a.eval s = .slice A k c) (O : W.ownsRow base te sz (.slice A k c) k L)
    (ad : Addr) (d : Nat) (M : List Value) (hx : a.eval x = .slice (some ad) 1 d) (hr : Rd W sz (some ad) 1 d M) (h1 : ∀ u ∈ M, u.oneCell' = true) (hk : k + 1 ≤ 100000000) (hb : base ≤ W.heap.size)
    (h : ∀ A' c' w', w'.ownsRow base te sz (.slice A' (k + 1) c') (k + 1) (L ++ M) → W.grownBy w' (blkOf A) → (blkOf A' = blkOf A ∨ blkOf A' = some W.heap.size) → wpList Tryz.prog ops Q rest (a.put o.dst (.slice A' (k + 1) c')) w') :
    wpList Tryz.prog ops Q (o :: rest) a W := by
  refine wpList_plain hgd fun K hK => ?_
  obtain ⟨A', c', w', hr', h2, h3, h4⟩ := app_run ts te o.type hts z sz bytes hinfo hzs hsz hby base A k c L O ad d M hr h1 hk hb
  unfold Oper.wp execOp
  simp only [ho, resolve, invoke, builtin, Sem.run_bind, Sem.run_pure, Result.andThen_ok, List.map_toArray, List.map_cons, List.map_nil, hs, hx, hr']
  exact hK _ _ (h A' c' w' h2 h3 h4)
end
theorem cut_info : (Tryz.prog.info? 64).map (fun i => (i.zero, i.size, i.bytes)) = some (some (.agg #[.slice none 0 0, .int .u64 0]), 2, 32) := by kernel_rfl
theorem cuts_info : (Tryz.prog.info? 65).map (fun i => (i.zero, i.size, i.bytes)) = some (some (.slice none 0 0), 1, 24) := by kernel_rfl
/-- a row of cuts: where it lies -/
abbrev CR : Type := Option Addr × Nat × List CT
def crv (r : CR) : Value := .slice r.1 r.2.2.length r.2.1
def pcs (cs : List CT) : List PC := cs.map fun c => (c.1.2.2, c.2)
def plainR (rs : List CR) : List (List PC) := rs.map fun r => pcs r.2.2
theorem plainR_len (rs : List CR) : (plainR rs).length = rs.length := by simp [plainR]
theorem plainR_at {rs : List CR} {j : Nat} (h : j < rs.length) : (plainR rs).getD j [] = pcs rs[j].2.2 := by
  rw [List.getD_eq_getElem?_getD, plainR, List.getElem?_map, List.getElem?_eq_getElem h]; rfl
theorem plainR_snoc (rs : List CR) (r : CR) : plainR (rs ++ [r]) = plainR rs ++ [pcs r.2.2] := by simp [plainR]
theorem pcs_lvs (cs : List CT) : (pcs cs).map (·.1) = lvs cs := by simp [pcs, lvs]
theorem crv_one (rs : List CR) : ∀ u ∈ rs.map crv, u.oneCell' = true := by
  intro u hu
  obtain ⟨x, -, rfl⟩ := List.mem_map.1 hu
  rfl
/-- the leaf does not lie in such a block -/
def Off (A : Option Addr) (l : SL) : Prop := ∀ g, blkOf l.1 = some g → blkOf A ≠ some g
structure OwnR (base : Nat) (w : World) (r : CR) : Prop where
  row : w.ownsRow base 64 2 (crv r) r.2.2.length (cutC r.2.2)
  all : ∀ c ∈ r.2.2, OwnL base w c.1
theorem OwnR.in_ {base : Nat} {w : World} {r : CR} (h : OwnR base w r) : CutsIn w r.1 r.2.1 r.2.2 := ⟨Rd.of_own h.row, fun c hc => Rd.of_own (h.all c hc)⟩
theorem OwnR.later {base : Nat} {w w' : World} {r : CR} (h : OwnR base w r) (hb : Below w.heap.size w w') : OwnR base w' r := ⟨own_keep h.row hb, fun c hc => (h.all c hc).later hb⟩
/-- what is of another kind stays -/
theorem own_grown {w w' : World} {b b' s s' n n' : Nat} {e e' : TypeId} {v : Value} {A : Option Addr} {k c : Nat} {xs xs' : List Value} (h : w.ownsRow b e s v n xs) (ho : w.ownsRow b' e' s' (.slice A k c) n' xs') (hne : e' ≠ e) (hg : w.grownBy w' (blkOf A)) : w'.ownsRow b e s v n xs := by
  refine h.kept hg ?_
  cases hl : v.ownBlock with
  | none => exact .inl rfl
  | some gl => exact .inr (fun e1 => own_types ho h hne (by rw [own_blk]; exact e1.symm) hl)
theorem OwnL.off {base : Nat} {w w' : World} {l : SL} (h : OwnL base w l) {A : Option Addr} (ho : Off A l) (hg : w.grownBy w' (blkOf A)) : OwnL base w' l := by
  refine World.ownsRow.kept h hg ?_
  cases hl : (slv l).ownBlock with
  | none => exact .inl rfl
  | some gl => exact .inr (fun e1 => by
      rw [show (slv l).ownBlock = blkOf l.1 from own_blk _ _ _] at hl
      exact ho gl hl e1.symm)
theorem OwnL.lt {base : Nat} {w : World} {l : SL} (h : OwnL base w l) {g : Nat} (hg : blkOf l.1 = some g) : g < w.heap.size := by
  obtain ⟨cs, hb⟩ := own_int h (g := g) (by rw [show (slv l).ownBlock = blkOf l.1 from own_blk _ _ _]; exact hg)
  exact hb.lt
/-- all that is told so far -/
structure AllM (base : Nat) (w : World) (AO : Option Addr) (cO : Nat) (rs : List CR) (AD : Option Addr) (cD : Nat) (d : List Int) : Prop where
  out : w.ownsRow base 65 1 (.slice AO rs.length cO) rs.length (rs.map crv)
  row : ∀ r ∈ rs, OwnR base w r ∧ ∀ c ∈ r.2.2, Off AD c.1
  dep : w.ownsRow base 3 1 (.slice AD d.length cD) d.length (ints d)
theorem AllM.cell {base : Nat} {w : World} {AO : Option Addr} {cO : Nat} {rs : List CR} {AD : Option Addr} {cD : Nat} {d : List Int} (h : AllM base w AO cO rs AD cD d) (hp : 0 < rs.length) : ∃ g, AO = some ⟨g, 0, none⟩ ∧ ∀ j (hj : j < rs.length), w.cell? ⟨g, j, none⟩ = some (crv rs[j]) := by
  obtain ⟨g, cap, hv, _, _⟩ := h.out.form hp
  have hA : AO = some ⟨g, 0, none⟩ := by injection hv
  subst hA
  refine ⟨g, rfl, fun j hj => ?_⟩
  have := h.out.cells (g := g) rfl j (crv rs[j]) (by rw [List.getElem?_map, List.getElem?_eq_getElem hj]; rfl)
  rw [Addr.add_lit] at this
  simpa using this
theorem AllM.keep {base : Nat} {w w' : World} {AO : Option Addr} {cO : Nat} {rs : List CR} {AD : Option Addr} {cD : Nat} {d : List Int} (h : AllM base w AO cO rs AD cD d) (hb : Below w.heap.size w w') : AllM base w' AO cO rs AD cD d :=
  ⟨own_keep h.out hb, fun r hr => ⟨(h.row r hr).1.later hb, (h.row r hr).2⟩, own_keep h.dep hb⟩
theorem AllM.putOut {base : Nat} {w w' : World} {AO AO' : Option Addr} {cO cO' : Nat} {rs : List CR} {AD : Option Addr} {cD : Nat} {d : List Int} (h : AllM base w AO cO rs AD cD d) {r : CR} (hr : OwnR base w r) (hf : ∀ c ∈ r.2.2, Off AD c.1)
    (ho : w'.ownsRow base 65 1 (.slice AO' (rs.length + 1) cO') (rs.length + 1) (rs.map crv ++ [crv r])) (hg : w.grownBy w' (blkOf AO)) : AllM base w' AO' cO' (rs ++ [r]) AD cD d := by
  refine ⟨by simpa using ho, fun x hx => ?_, own_grown h.dep h.out (by decide) hg⟩
  have hk : ∀ x : CR, OwnR base w x → OwnR base w' x := fun x hx => ⟨own_grown hx.row h.out (by decide) hg, fun c hc => own_grown (hx.all c hc) h.out (by decide) hg⟩
  rcases List.mem_append.1 hx with h1 | h1
  · exact ⟨hk x (h.row x h1).1, (h.row x h1).2⟩
  · rw [List.mem_singleton] at h1; subst h1; exact ⟨hk _ hr, hf⟩
theorem AllM.putDep {base : Nat} {w w' : World} {AO : Option Addr} {cO : Nat} {rs : List CR} {AD AD' : Option Addr} {cD cD' : Nat} {d : List Int} (h : AllM base w AO cO rs AD cD d) {y : Int}
    (ho : w'.ownsRow base 3 1 (.slice AD' (d.length + 1) cD') (d.length + 1) (ints d ++ [.int .i64 y])) (hg : w.grownBy w' (blkOf AD)) (hat : blkOf AD' = blkOf AD ∨ blkOf AD' = some w.heap.size) : AllM base w' AO cO rs AD' cD' (d ++ [y]) := by
  refine ⟨own_grown h.out h.dep (by decide) hg, fun x hx => ⟨⟨own_grown (h.row x hx).1.row h.dep (by decide) hg, fun c hc => ((h.row x hx).1.all c hc).off ((h.row x hx).2 c hc) hg⟩, fun c hc g hgl he => ?_⟩, ?_⟩
  · rcases hat with e | e
    · exact (h.row x hx).2 c hc g hgl (e.symm.trans he)
    · rw [e] at he
      have := ((h.row x hx).1.all c hc).lt hgl
      cases he
      omega
  · rw [ints_append]
    simpa [ints] using ho
/-- a new leaf is off what was there -/
theorem off_new {w : World} {base n c : Nat} {AD : Option Addr} {d : List Int} (h : w.ownsRow base 3 1 (.slice AD n c) n (ints d)) {g : Nat} (hg : w.heap.size ≤ g) (k : Nat) (l : List Int) : Off AD (some ⟨g, 0, none⟩, k, l) := by
  intro g' hg' he
  have e : g = g' := Option.some.inj hg'
  obtain ⟨cs, hb⟩ := own_int h (g := g') (by rw [own_blk]; exact he)
  have := hb.lt
  omega
theorem blk_made1 (w : World) (o : Obj) (t : TypeId) (cs : Array Value) : Blk ((w.alloc o).alloc (.cells cs t)) (w.heap.size + 1) t cs := by
  have h := Blk.made (w.alloc o) t cs
  rw [World.size_alloc] at h
  exact h
theorem blk_made2 (w : World) (o p : Obj) (t : TypeId) (cs : Array Value) : Blk (((w.alloc o).alloc p).alloc (.cells cs t)) (w.heap.size + 2) t cs := by
  have h := blk_made1 (w.alloc o) p t cs
  rw [World.size_alloc] at h
  exact h
theorem blk_made3 (w : World) (o p q : Obj) (t : TypeId) (cs : Array Value) : Blk ((((w.alloc o).alloc p).alloc q).alloc (.cells cs t)) (w.heap.size + 3) t cs := by
  have h := blk_made2 (w.alloc o) p q t cs
  rw [World.size_alloc] at h
  exact h
theorem cut_one2 (A : Option Addr) (n : Int) : ∀ u ∈ [Value.slice A 1 1, .int .u64 n], u.oneCell' = true := by
  intro u hu
  simp at hu
  rcases hu with rfl | rfl <;> rfl
theorem cut_oneN (A : Option Addr) (n c : Nat) (v : Int) : ∀ u ∈ [Value.slice A n c, .int .u64 v], u.oneCell' = true := by
  intro u hu
  simp at hu
  rcases hu with rfl | rfl <;> rfl
theorem head_con (ls : List SL) (h : 0 < ls.length) : (con ls).headD [] = ls[0].2.2 := by
  cases ls with
  | nil => simp at h
  | cons y t => rfl
theorem off_own {w w' : World} {base n c : Nat} {AD : Option Addr} {d : List Int} (h : w.ownsRow base 3 1 (.slice AD n c) n (ints d)) {l : SL} (hl : OwnL w.heap.size w' l) : Off AD l := by
  intro g hg he
  obtain ⟨cs, hb⟩ := own_int h (g := g) (by rw [own_blk]; exact he)
  have h1 := hb.lt
  have h2 := own_base hl (k := g) (by rw [show (slv l).ownBlock = blkOf l.1 from own_blk _ _ _]; exact hg)
  omega
theorem OwnR.down {base base' : Nat} {w : World} {r : CR} (h : OwnR base w r) (hb : base' ≤ base) : OwnR base' w r := ⟨own_down h.row hb, fun c hc => own_down (h.all c hc) hb⟩
theorem rd_of_blk {w : World} {g : Nat} {t : TypeId} {cs : List Value} (h : Blk w g t cs.toArray) (sz n : Nat) (hn : cs.length = n * sz) : Rd w sz (some ⟨g, 0, none⟩) n n cs := by
  refine ⟨hn, Nat.le_refl _, fun e => (by cases e), fun j u hj => ⟨⟨g, 0, none⟩, rfl, h.lt, ?_⟩⟩
  have := h.cell j
  rw [Addr.add_lit]
  simpa using this.trans (by simpa using hj)
theorem own_of_blkN {w : World} {g base : Nat} {t : TypeId} {cs : List Value} (h : Blk w g t cs.toArray) (sz n : Nat) (hn : cs.length = n * sz) (hb : base ≤ g) (hm : n ≤ 100000000) : w.ownsRow base t sz (.slice (some ⟨g, 0, none⟩) n n) n cs :=
  ⟨hn, .inr ⟨g, n, cs.toArray, rfl, hb, h, Nat.le_refl _, by unfold maxLen; omega, by simpa using hn, by simp [← hn]⟩⟩
end Go.Proofs.YtaajnmggbhnndaaGreatDoor

namespace Go.Proofs.YtaajnmggbhnndaaGreatDoor
open Go.RowKit
set_option linter.unusedVariables false
set_option linter.unusedSimpArgs false
/-- which row leaves' values are, as far as k -/
def rowTo (v : List Bool) (l : List Int) : Nat → Nat
  | 0 => 0
  | k + 1 => if v.getD (l.getD k 0).toNat false then rowTo v l k + 2 ^ k else rowTo v l k
theorem rowTo_lt (v : List Bool) (l : List Int) : ∀ k, rowTo v l k < 2 ^ k
  | 0 => by simp [rowTo]
  | k + 1 => by
    have ih := rowTo_lt v l k
    rw [Nat.pow_succ]
    unfold rowTo
    split <;> omega
theorem rowTo_bit (v : List Bool) (l : List Int) : ∀ k i, i < k → decide (rowTo v l k / 2 ^ i % 2 = 1) = v.getD (l.getD i 0).toNat false
  | 0, i, h => absurd h (by omega)
  | k + 1, i, h => by
    have hlt := rowTo_lt v l k
    rcases Nat.lt_or_ge i k with hi | hi
    · have ih := rowTo_bit v l k i hi
      have hp : 0 < 2 ^ i := Nat.pow_pos (by omega)
      obtain ⟨j, rfl⟩ : ∃ j, k = i + 1 + j := ⟨k - i - 1, by omega⟩
      rw [← ih]
      have e1 : rowTo v l (i + 1 + j + 1) = if v.getD (l.getD (i + 1 + j) 0).toNat false then rowTo v l (i + 1 + j) + 2 ^ (i + 1 + j) else rowTo v l (i + 1 + j) := rfl
      rw [e1]
      split
      · have e : (2 : Nat) ^ (i + 1 + j) = 2 ^ i * (2 * 2 ^ j) := by rw [Nat.pow_add, Nat.pow_add]; simp [Nat.mul_assoc, Nat.mul_comm, Nat.mul_left_comm]
        rw [e, Nat.add_mul_div_left _ _ hp, Nat.add_mul_mod_self_left]
      · rfl
    · obtain rfl : i = k := by omega
      unfold rowTo
      have hp : 0 < 2 ^ i := Nat.pow_pos (by omega)
      cases hv : v.getD (l.getD i 0).toNat false with
      | true =>
        rw [if_pos rfl, show (rowTo v l i + 2 ^ i) / 2 ^ i = 1 by rw [Nat.add_div_right _ hp, Nat.div_eq_of_lt hlt]]
        rfl
      | false =>
        rw [if_neg (by simp), Nat.div_eq_of_lt hlt]
        rfl
/-- the row of bits, from the first one -/
def rowB : List Bool → Nat
  | [] => 0
  | b :: bs => b.toNat + 2 * rowB bs
theorem rowB_lt : ∀ bs : List Bool, rowB bs < 2 ^ bs.length
  | [] => by simp [rowB]
  | b :: bs => by
    have ih := rowB_lt bs
    have hb : b.toNat ≤ 1 := by cases b <;> simp
    rw [List.length_cons, Nat.pow_succ]
    unfold rowB
    omega
theorem rowB_snoc : ∀ (bs : List Bool) (b : Bool), rowB (bs ++ [b]) = rowB bs + (if b then 2 ^ bs.length else 0)
  | [], b => by cases b <;> simp [rowB]
  | x :: bs, b => by
    rw [List.cons_append, rowB, rowB_snoc bs b, rowB, List.length_cons, Nat.pow_succ]
    split <;> omega
/-- what is picked of a row -/
def pickB (v : List Bool) (l : List Int) : List Bool := l.map fun z => v.getD z.toNat false
theorem rowTo_row (v : List Bool) (l : List Int) : ∀ k, k ≤ l.length → rowTo v l k = rowB (pickB v (l.take k))
  | 0, _ => rfl
  | k + 1, h => by
    have ih := rowTo_row v l k (by omega)
    have hk : k < l.length := by omega
    rw [List.take_succ_eq_append_getElem hk]
    unfold pickB
    rw [List.map_append, List.map_singleton, rowB_snoc, List.length_map, List.length_take, Nat.min_eq_left (by omega)]
    have e : l.getD k 0 = l[k] := by rw [List.getD_eq_getElem?_getD, List.getElem?_eq_getElem hk]; rfl
    unfold rowTo
    rw [e, ih]
    unfold pickB
    split <;> rfl
theorem rowTo_all (v : List Bool) (l : List Int) : rowTo v l l.length = rowB (pickB v l) := by
  rw [rowTo_row v l _ (Nat.le_refl _), List.take_length]
end Go.Proofs.YtaajnmggbhnndaaGreatDoor

namespace Go.Proofs.YtaajnmggbhnndaaGreatDoor
open Go.RowKit
set_option linter.unusedVariables false
set_option linter.unusedSimpArgs false
/-- a net: inputs, flops, tables, outs -/
structure NT where
  I : Int
  AH : Option Addr
  cH : Nat
  hs : List (Int × Bool)
  AL : Option Addr
  cL : Nat
  ls : List CT
  AO : Option Addr
  cO : Nat
  ou : List Int
structure NT.In (N : NT) (w : World) : Prop where
  hs : Rd w 2 N.AH N.hs.length N.cH (fc N.hs)
  ls : CutsIn w N.AL N.cL N.ls
  ou : Rd w 1 N.AO N.ou.length N.cO (ints N.ou)
theorem NT.In.later {N : NT} {w w' : World} (h : N.In w) (hb : Below w.heap.size w w') : N.In w' := ⟨h.hs.later hb, h.ls.later hb, h.ou.later hb⟩
abbrev inI (x : Int) : Prop := -9223372036854775808 ≤ x ∧ x ≤ 9223372036854775807
/-- its numbers fit -/
structure NT.wf (N : NT) : Prop where
  i : inI N.I
  hs : ∀ h ∈ N.hs, inI h.1
  ls : ∀ c ∈ N.ls, (∀ x ∈ c.1.2.2, inI x) ∧ c.2 < 18446744073709551616
  ou : ∀ x ∈ N.ou, inI x
/-- it is small enough, but for how many inputs it tells -/
structure NT.fit (N : NT) : Prop where
  hs : N.hs.length ≤ 1000
  ls : N.ls.length ≤ 1000
  ou : N.ou.length ≤ 1000
  li : ∀ c ∈ N.ls, c.1.2.2.length ≤ 1000
  i : N.I ≤ 1000 ∨ 65536 < N.I
/-- the first table's node; how many nodes there are -/
def NT.fst (N : NT) : Int := 1 + N.I + (N.hs.length : Int)
def NT.tot (N : NT) : Int := N.fst + (N.ls.length : Int)
def nodeB (n x : Int) : Bool := decide (0 ≤ x) && decide (x < n)
/-- may a table be, ahead of which there are so many nodes -/
def lutB (k n : Int) (c : PC) : Bool := decide ((c.1.length : Int) ≤ k) && decide (c.2 < 2 ^ 2 ^ c.1.length) && c.1.all (nodeB n)
def NT.luts (N : NT) : List PC := pcs N.ls
theorem NT.luts_len (N : NT) : N.luts.length = N.ls.length := by unfold NT.luts pcs; rw [List.length_map]
theorem NT.luts_at (N : NT) {i : Nat} (h : i < N.ls.length) : N.luts[i]'(by rw [N.luts_len]; exact h) = (N.ls[i].1.2.2, N.ls[i].2) := by
  unfold NT.luts pcs; rw [List.getElem_map]
/-- its parts are as they should be -/
def NT.okk (N : NT) (k : Int) : Prop := (∀ i (h : i < N.ls.length), lutB k (N.fst + (i : Int)) (N.ls[i].1.2.2, N.ls[i].2) = true) ∧ (∀ h ∈ N.hs, nodeB N.tot h.1 = true) ∧ ∀ x ∈ N.ou, nodeB N.tot x = true
instance (N : NT) (k : Int) : Decidable (N.okk k) := by unfold NT.okk; infer_instance
def NT.chk (N : NT) (k : Int) : Int := if k < 2 ∨ 6 < k ∨ N.I < 0 then 1 else if 65536 < N.I then 2 else if N.okk k then 0 else 1
/-- may the net be -/
structure NT.may (N : NT) (k : Int) : Prop where
  kk : 2 ≤ k ∧ k ≤ 6
  i : 0 ≤ N.I ∧ N.I ≤ 65536
  ok : N.okk k
theorem NT.chk_may {N : NT} {k : Int} : N.chk k = 0 ↔ N.may k := by
  unfold NT.chk
  constructor
  · intro h
    split at h
    · omega
    · split at h
      · omega
      · split at h
        · rename_i h1 h2 h3; exact ⟨by omega, by omega, h3⟩
        · omega
  · intro h
    rw [if_neg (by have := h.kk; have := h.i; omega), if_neg (by have := h.i; omega), if_pos h.ok]
theorem NT.may.small {N : NT} {k : Int} (h : N.may k) (hf : N.fit) : 0 ≤ N.I ∧ N.I ≤ 1000 := by
  have := h.i; rcases hf.i with h1 | h1
  · omega
  · omega
/-- by tables of so many inputs at most -/
theorem lutB_len {k n : Int} {c : PC} (h : lutB k n c = true) : (c.1.length : Int) ≤ k ∧ c.2 < 2 ^ 2 ^ c.1.length ∧ ∀ x ∈ c.1, 0 ≤ x ∧ x < n := by
  simp only [lutB, Bool.and_eq_true, decide_eq_true_eq, List.all_eq_true, nodeB] at h
  exact ⟨h.1.1, h.1.2, fun x hx => h.2 x hx⟩
theorem lutB_mono {k m n : Int} {c : PC} (hkm : k ≤ m) (h : lutB k n c = true) : lutB m n c = true := by
  have h1 := lutB_len h
  simp only [lutB, Bool.and_eq_true, decide_eq_true_eq, List.all_eq_true, nodeB]
  exact ⟨⟨by omega, h1.2.1⟩, fun x hx => h1.2.2 x hx⟩
theorem NT.may.six {N : NT} {k : Int} (h : N.may k) : N.may 6 := ⟨by omega, h.i, ⟨fun i hi => lutB_mono h.kk.2 (h.ok.1 i hi), h.ok.2⟩⟩
/-- what a table tells of nodes' values -/
def bitB (t : Nat) (bs : List Bool) : Bool := decide (t / 2 ^ rowB bs % 2 = 1)
/-- the nodes' values ahead of table i -/
def nvTo (ls : List PC) (ins st : List Bool) : Nat → List Bool
  | 0 => [false] ++ ins ++ st
  | i + 1 => nvTo ls ins st i ++ [bitB (ls.getD i ([], 0)).2 (pickB (nvTo ls ins st i) (ls.getD i ([], 0)).1)]
theorem nvTo_len (ls : List PC) (ins st : List Bool) : ∀ i, (nvTo ls ins st i).length = 1 + ins.length + st.length + i
  | 0 => by simp [nvTo]; omega
  | i + 1 => by simp [nvTo, nvTo_len ls ins st i]; omega
theorem nvTo_pre (ls : List PC) (ins st : List Bool) {j : Nat} : ∀ {i : Nat}, j ≤ i → ∀ x, x < 1 + ins.length + st.length + j → (nvTo ls ins st i).getD x false = (nvTo ls ins st j).getD x false
  | 0, h, x, hx => by obtain rfl : j = 0 := by omega
                      rfl
  | i + 1, h, x, hx => by
    rcases Nat.lt_or_ge j (i + 1) with h1 | h1
    · rw [← nvTo_pre ls ins st (show j ≤ i by omega) x hx]
      exact getD_left _ _ _ (by rw [nvTo_len]; omega)
    · obtain rfl : j = i + 1 := by omega
      rfl
/-- the nodes' levels ahead of table i -/
def lvMax (d : List Int) : List Int → Int
  | [] => 0
  | x :: l => max (d.getD x.toNat 0) (lvMax d l)
def nlTo (ls : List PC) (f : Nat) : Nat → List Int
  | 0 => List.replicate f 0
  | i + 1 => nlTo ls f i ++ [1 + lvMax (nlTo ls f i) (ls.getD i ([], 0)).1]
theorem nlTo_len (ls : List PC) (f : Nat) : ∀ i, (nlTo ls f i).length = f + i
  | 0 => by simp [nlTo]
  | i + 1 => by simp [nlTo, nlTo_len ls f i]; omega
end Go.Proofs.YtaajnmggbhnndaaGreatDoor
