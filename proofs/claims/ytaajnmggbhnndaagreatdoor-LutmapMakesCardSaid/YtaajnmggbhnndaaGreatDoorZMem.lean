/- Small laws for walks, over any program. · A struct of three cells in a block of its own, kept over calls that leave elder memory alone. · What a slice that came in reads as, over any program. · Memory, rows, bits: lemmas that many texts use. -/
import Derived.Test.YtaajnmggbhnndaaGreatDoorRows
import Derived.WalkKit
import Derived.WalkSpells
import Derived.WalkLawsBesides
import Derived.Lib.Hide
import Derived.Deep.MidRow
import Derived.Laws.OwnMore
import Derived.Deep.AppendLies
import Derived.OneCell
import Derived.Laws.Rows
import Derived.Laws.AppendOwnNone
import Derived.Laws.BitsAll
import Derived.Laws.CopyOwn
import Derived.BigQuiet
import Derived.BigRegion
import Derived.Deep.QuietTactic
import Derived.Deep.RegionHeld3
import Derived.Deep.RegionWith
import Derived.Deep.Slices
import Derived.IntWalk
import Derived.LoopIn
import Derived.LoopNIn
import Derived.Maps.AppendAt
import Derived.OwnWalkIn
import Derived.RegionIn
namespace Go.Proofs.YtaajnmggbhnndaaGreatDoor
open Go.RowKit
set_option linter.unusedVariables false
set_option linter.unusedSimpArgs false

/-- what a world keeps of an elder one, as rules for the walk -/
theorem bcell {W w1 : World} (hb : Below W.heap.size W w1) : (∀ b o, b < W.heap.size → w1.cell? ⟨b, o, none⟩ = W.cell? ⟨b, o, none⟩) ∧ (∀ b o, b < W.heap.size → w1.frozen? ⟨b, o, none⟩ = W.frozen? ⟨b, o, none⟩) :=
  ⟨fun b o h => hb.cell (p := ⟨b, o, none⟩) h, fun b o h => hb.frozen (p := ⟨b, o, none⟩) h⟩

theorem world_alloc_setCell (w : World) (cs : Array Value) (t : TypeId) (i : Nat) (v : Value) :
    (w.alloc (.cells cs t)).setCell ⟨w.heap.size, i, none⟩ v = w.alloc (.cells (cs.setIfInBounds i v) t) :=
  World.setCell_alloc_at cs t w.heap.size i v rfl

theorem setCells_new (w : World) (t : TypeId) : ∀ (cs zs pre : List Value), cs.length = zs.length →
    (w.alloc (.cells (pre ++ zs).toArray t)).setCells w.heap.size pre.length cs = w.alloc (.cells (pre ++ cs).toArray t)
  | [], zs, pre, h => by
    have : zs = [] := List.eq_nil_of_length_eq_zero h.symm
    subst this
    rfl
  | c :: cs, [], pre, h => by simp at h
  | c :: cs, z :: zs, pre, h => by
    rw [World.setCells, world_alloc_setCell]
    have e : ((pre ++ z :: zs).toArray.setIfInBounds pre.length c) = ((pre ++ [c]) ++ zs).toArray := by
      apply Array.ext'
      simp
    rw [e]
    have := setCells_new w t cs zs (pre ++ [c]) (by simpa using h)
    simpa using this

theorem results_tmp4 {fn : Func} {t u v x : Tmp} (h : fn.results = #[.tmp t, .tmp u, .tmp v, .tmp x]) (tmps : Array Value) (P : Program) (w : World) :
    (results fn tmps).run P w = .ok (.tuple #[tmps.getD t undef, tmps.getD u undef, tmps.getD v undef, tmps.getD x undef]) w := by simp [results, h]
theorem results_tmp5 {fn : Func} {t u v x y : Tmp} (h : fn.results = #[.tmp t, .tmp u, .tmp v, .tmp x, .tmp y]) (tmps : Array Value) (P : Program) (w : World) :
    (results fn tmps).run P w = .ok (.tuple #[tmps.getD t undef, tmps.getD u undef, tmps.getD v undef, tmps.getD x undef, tmps.getD y undef]) w := by simp [results, h]
theorem below_drewN {B : Nat} {a w : World} (h : Below B a w) (n : Nat) : Below B a (w.drewN n) := ⟨h.os, h.tape, h.output, h.size, h.block⟩

section
variable {P : Program}
/-- a whole row is stored into the newest block -/
theorem wpList_store_new {ops : Array Oper} {rest : List Oper} {op : Oper} {a : Act} {w : World} {Q : Exit → Act → World → Prop} (hgd : op.guard = none) (ty : TypeId) (x y : Operand) (ho : op.op = .store ty x y)
    (W : World) (zs cells : List Value) (t : TypeId) (hW : W = w.alloc (.cells zs.toArray t)) (n : Nat) (hx : a.eval x = .pointer (some ⟨n, 0, none⟩)) (hn : n = w.heap.size) (hy : a.eval y = .agg cells.toArray)
    (hl : cells.length = zs.length) (hi : (P.info? ty).map (·.size) = some cells.length) (h1 : cells.all (·.oneCell') = true)
    (h : wpList P ops Q rest (a.put op.dst undef) (w.alloc (.cells cells.toArray t))) : wpList P ops Q (op :: rest) a W := by
  subst hW
  subst hn
  refine wpList_store_mid hgd ty x y ho w.heap.size 0 cells.toArray hx hy ?_ (by simpa using hi) (all_oneCell_toArray (List.all_eq_true.1 h1)) ?_
  · intro j hj
    have hj' : j < zs.length := by simpa [hl] using hj
    rw [World.cell?_alloc_at _ _ _ _ rfl, World.frozen?_alloc_at _ _ _ _ rfl]
    simp [hj']
  · have := setCells_new w t cells zs [] hl
    simp only [List.nil_append, List.length_nil] at this
    rw [this]
    exact h
/-- a composite literal whose cells are known -/
theorem wpList_build_to {ops : Array Oper} {rest : List Oper} {o : Oper} {a : Act} {w : World} {Q : Exit → Act → World → Prop} (hg : o.guard = none) (t : TypeId) (parts : Array (Nat × Operand)) (ho : o.op = .build t parts)
    (vals : List (Nat × Value)) (he : (parts.toList.map fun p => (p.1, a.eval p.2)) = vals) (cells : Array Value) (hf : P.built t vals = some cells)
    (h : wpList P ops Q rest (a.put o.dst (.agg cells)) w) : wpList P ops Q (o :: rest) a w := by
  have he' : (parts.map fun (i, x) => (i, a.eval x)).toList = vals := by rw [← he]; simp
  exact wpList_build hg t parts ho (by rw [he', hf]; rfl) (by rw [he', hf]; exact h)
end
end Go.Proofs.YtaajnmggbhnndaaGreatDoor

namespace Go.Proofs.YtaajnmggbhnndaaGreatDoor
open Go.RowKit
set_option linter.unusedVariables false

structure Box3 (w : World) (b : Nat) (x y z : Value) : Prop where
  lt : b < w.heap.size
  c0 : w.cell? ⟨b, 0, none⟩ = some x
  c1 : w.cell? ⟨b, 1, none⟩ = some y
  c2 : w.cell? ⟨b, 2, none⟩ = some z
theorem Box3.below {W w : World} {b : Nat} {x y z : Value} (h : Box3 W b x y z) (hb : Below W.heap.size W w) : Box3 w b x y z :=
  ⟨Nat.lt_of_lt_of_le h.lt hb.size, (hb.cell (p := ⟨b, 0, none⟩) h.lt).trans h.c0, (hb.cell (p := ⟨b, 1, none⟩) h.lt).trans h.c1, (hb.cell (p := ⟨b, 2, none⟩) h.lt).trans h.c2⟩
theorem Box3.new (w : World) (x y z : Value) (t : TypeId) : Box3 (w.alloc (.cells #[x, y, z] t)) w.heap.size x y z :=
  ⟨by simp, World.cell?_alloc_at _ _ _ _ rfl, World.cell?_alloc_at _ _ _ _ rfl, World.cell?_alloc_at _ _ _ _ rfl⟩
/-- a call behind what went before -/
theorem below_then {a w w' : World} (h : Below a.heap.size a w) (k : Below w.heap.size w w') : Below a.heap.size a w' := h.trans (k.mono h.size)
theorem below_new (w : World) (o : Obj) : Below w.heap.size w (w.alloc o) := (Below.refl _ _).alloc (Nat.le_refl _) _
theorem below_of_drew {B : Nat} {w w' : World} (h : Below B w.drew w') : Below B w w' := ⟨h.os, h.tape, h.output, h.size, h.block⟩
end Go.Proofs.YtaajnmggbhnndaaGreatDoor

namespace Go.Proofs.YtaajnmggbhnndaaGreatDoor
open Go.RowKit
set_option linter.unusedVariables false
set_option linter.unusedSimpArgs false

/-- the slice value '.slice A n c' reads as the cells xs, 'size' of them an element -/
structure Rd (w : World) (size : Nat) (A : Option Addr) (n c : Nat) (xs : List Value) : Prop where
  len : xs.length = n * size
  cap : n ≤ c
  nil : A = none → c = 0
  read : ∀ (j : Nat) (u : Value), xs[j]? = some u → ∃ a, A = some a ∧ a.block < w.heap.size ∧ w.cell? (a.add j) = some u

theorem add_block (a : Addr) (n : Nat) : (a.add n).block = a.block := by unfold Addr.add; split <;> rfl

section
variable {w w' : World} {size n c : Nat} {A : Option Addr} {xs : List Value}
/-- the same in a later world that has kept elder memory -/
theorem Rd.later (h : Rd w size A n c xs) (hb : Below w.heap.size w w') : Rd w' size A n c xs :=
  ⟨h.len, h.cap, h.nil, fun j u hj => by
    obtain ⟨a, e, hl, hc⟩ := h.read j u hj
    exact ⟨a, e, Nat.lt_of_lt_of_le hl hb.size, (hb.cell (p := a.add j) (by rw [add_block]; exact hl)).trans hc⟩⟩
theorem Rd.empty : Rd w size none 0 0 [] := ⟨by simp, Nat.le_refl _, fun _ => rfl, fun j u h => by simp at h⟩
/-- one cell an element: element k -/
theorem Rd.at1 (h : Rd w 1 A n c xs) {k : Nat} (hk : k < n) : ∃ a, A = some a ∧ a.block < w.heap.size ∧ w.cell? (a.add k) = some (xs.getD k undef) := by
  have hl : k < xs.length := by have := h.len; omega
  obtain ⟨a, e, hb, hc⟩ := h.read k xs[k] (List.getElem?_eq_getElem hl)
  exact ⟨a, e, hb, by rw [hc, List.getD_eq_getElem?_getD, List.getElem?_eq_getElem hl]; rfl⟩
theorem Rd.of_own {base : Nat} {e : TypeId} (h : w.ownsRow base e size (.slice A n c) n xs) : Rd w size A n c xs := by
  refine ⟨h.1, ?_, ?_, ?_⟩
  · rcases h.2 with ⟨hv, hn⟩ | ⟨g, cap, cur, hv, hg, hh, hc, -⟩
    · omega
    · injection hv with _ _ hcc; omega
  · intro hA
    subst hA
    rcases h.2 with ⟨hv, hn⟩ | ⟨g, cap, cur, hv, hg, hh, hc, -⟩
    · injection hv
    · injection hv with h1; cases h1
  · intro j u hj
    rcases h.2 with ⟨hv, hn⟩ | ⟨g, cap, cur, hv, hg, hh, hc, -⟩
    · have hl := h.1
      have : xs = [] := List.eq_nil_of_length_eq_zero (by rw [hl, hn]; simp)
      subst this
      simp at hj
    · injection hv with h1 h2 h3
      subst h1 h3
      exact ⟨_, rfl, lt_of_block hh, h.cells (g := g) rfl j u hj⟩
end

/-- the cells of ints, of bools -/
def ints (l : List Int) : List Value := l.map (Value.int .i64)
def bools (l : List Bool) : List Value := l.map Value.bool
theorem ints_length (l : List Int) : (ints l).length = l.length := by simp [ints]
theorem bools_length (l : List Bool) : (bools l).length = l.length := by simp [bools]
theorem ints_append (l m : List Int) : ints (l ++ m) = ints l ++ ints m := by simp [ints]
theorem ints_getD (l : List Int) {k : Nat} (h : k < l.length) : (ints l).getD k undef = .int .i64 (l.getD k 0) := by
  simp [ints, List.getD_eq_getElem?_getD, List.getElem?_eq_getElem h]
theorem bools_getD (l : List Bool) {k : Nat} (h : k < l.length) : (bools l).getD k undef = .bool (l.getD k false) := by
  simp [bools, List.getD_eq_getElem?_getD, List.getElem?_eq_getElem h]
theorem Rd.int {w : World} {A : Option Addr} {n c : Nat} {l : List Int} (h : Rd w 1 A n c (ints l)) {k : Nat} (hk : k < n) : ∃ a, A = some a ∧ a.block < w.heap.size ∧ w.cell? (a.add k) = some (.int .i64 (l.getD k 0)) := by
  obtain ⟨a, e, hb, hc⟩ := h.at1 hk
  exact ⟨a, e, hb, by rw [hc, ints_getD l (by have := h.len; rw [ints_length] at this; omega)]⟩
theorem Rd.bool {w : World} {A : Option Addr} {n c : Nat} {l : List Bool} (h : Rd w 1 A n c (bools l)) {k : Nat} (hk : k < n) : ∃ a, A = some a ∧ a.block < w.heap.size ∧ w.cell? (a.add k) = some (.bool (l.getD k false)) := by
  obtain ⟨a, e, hb, hc⟩ := h.at1 hk
  exact ⟨a, e, hb, by rw [hc, bools_getD l (by have := h.len; rw [bools_length] at this; omega)]⟩
end Go.Proofs.YtaajnmggbhnndaaGreatDoor

namespace Go.Proofs.YtaajnmggbhnndaaGreatDoor
open Go.RowKit
set_option linter.unusedVariables false
set_option linter.unusedSimpArgs false

/-- block g is just these cells of type t -/
def Blk (w : World) (g : Nat) (t : TypeId) (cs : Array Value) : Prop := w.heap[g]? = some (.cells cs t (0, 0))
section
variable {w w' : World} {g : Nat} {t : TypeId} {cs : Array Value}
theorem Blk.lt (h : Blk w g t cs) : g < w.heap.size := lt_of_block h
theorem Blk.cell (h : Blk w g t cs) (i : Nat) : w.cell? ⟨g, i, none⟩ = cs[i]? := cell_of_row w g i cs t (0, 0) h
theorem Blk.free (h : Blk w g t cs) (i : Nat) : w.frozen? ⟨g, i, none⟩ = false := frozen_of_row w g i cs t h
theorem Blk.made (w : World) (t : TypeId) (cs : Array Value) : Blk (w.alloc (.cells cs t)) w.heap.size t cs := heap_alloc_new w _
theorem Blk.alloc (h : Blk w g t cs) (o : Obj) : Blk (w.alloc o) g t cs := (Below.heap_alloc w o g h.lt).trans h
theorem Blk.put (h : Blk w g t cs) (i : Nat) (u : Value) : Blk (w.setCell ⟨g, i, none⟩ u) g t (cs.setIfInBounds i u) := by
  unfold Blk at h ⊢
  simp [World.setCell, Array.getElem?_modify, h]
theorem Blk.apart (h : Blk w g t cs) {p : Addr} (hp : g ≠ p.block) (u : Value) : Blk (w.setCell p u) g t cs := (Below.heap_setCell w p u g hp).trans h
theorem Blk.below {B : Nat} (h : Blk w g t cs) (hb : Below B w w') (hg : g < B) : Blk w' g t cs := (hb.block g hg).trans h
theorem Blk.keep (h : Blk w g t cs) (hb : Below w.heap.size w w') : Blk w' g t cs := h.below hb h.lt
theorem Blk.grown {row : Option Nat} (h : Blk w g t cs) (hb : w.grownBy w' row) (hg : some g ≠ row) : Blk w' g t cs := (hb.block g h.lt hg).trans h
theorem Blk.other {g' : Nat} {t' : TypeId} {cs' : Array Value} (h : Blk w g t cs) (h' : Blk w g' t' cs') (hne : t ≠ t') : g ≠ g' := by
  rintro rfl
  unfold Blk at h h'
  rw [h] at h'
  injection h' with h'
  injection h' with _ ht
  exact hne ht
theorem own_other {base : Nat} {e : TypeId} {size n : Nat} {v : Value} {xs : List Value} (h : w.ownsRow base e size v n xs) (hg : Blk w g t cs) (hne : e ≠ t) : v.ownBlock ≠ some g := by
  rcases h.2 with ⟨rfl, _⟩ | ⟨g', cap, cur, rfl, _, hh, _⟩
  · simp [Value.ownBlock]
  · intro he
    have hgg : g' = g := by simpa [Value.ownBlock] using he
    subst hgg
    exact Blk.other (t := e) hh hg hne rfl
theorem own_slice {base : Nat} {e : TypeId} {size n : Nat} {v : Value} {xs : List Value} (h : w.ownsRow base e size v n xs) : ∃ A c, v = .slice A n c := by
  rcases h.2 with ⟨rfl, rfl⟩ | ⟨g', cap, cur, rfl, _⟩
  · exact ⟨_, _, rfl⟩
  · exact ⟨_, _, rfl⟩
theorem own_base {base : Nat} {e : TypeId} {size n k : Nat} {v : Value} {xs : List Value} (h : w.ownsRow base e size v n xs) (hk : v.ownBlock = some k) : base ≤ k := by
  rcases h.2 with ⟨rfl, _⟩ | ⟨g', cap, cur, rfl, hg, _⟩
  · simp [Value.ownBlock] at hk
  · have hgg : g' = k := by simpa [Value.ownBlock] using hk
    omega
theorem own_keep {base : Nat} {e : TypeId} {size n : Nat} {v : Value} {xs : List Value} (h : w.ownsRow base e size v n xs) (hb : Below w.heap.size w w') : w'.ownsRow base e size v n xs := by
  rcases h with ⟨h1, h2⟩
  refine ⟨h1, ?_⟩
  rcases h2 with h2 | ⟨g', cap, cur, hv, hg, hh, hr⟩
  · exact .inl h2
  · exact .inr ⟨g', cap, cur, hv, hg, (hb.block g' (lt_of_block hh)).trans hh, hr⟩
end
/-- the cells of pairs -/
def pc (xs : List (Int × Int)) : List Value := xs.flatMap fun p => [.int .i64 p.1, .int .i64 p.2]
theorem pc_append (xs ys : List (Int × Int)) : pc (xs ++ ys) = pc xs ++ pc ys := by simp [pc]
theorem int_infoA : (Tryz.prog.info? 3).map (fun i => (i.zero, i.size, i.bytes)) = some (some (.int .i64 0), 1, 8) := by kernel_rfl
section
variable {ops : Array Oper} {rest : List Oper} {o : Oper} {a : Act} {Q : Exit → Act → World → Prop}
/-- one int behind a row of ints -/
theorem wpList_app_int (hgd : o.guard = none) (s x : Operand) (ho : o.op = .call { callee := .builtin .append, args := #[s, x], argTypes := #[24, 24] })
    {W : World} (base : Nat) (A : Option Addr) (k c : Nat) (L : List Int) (hs : a.eval s = .slice A k c) (O : W.ownsRow base 3 1 (.slice A k c) k (ints L)) (z : Int) (hx : a.eval x = .slice (some ⟨W.heap.size, 0, none⟩) 1 1)
    (hk : k ≤ 100000000) (hb : base ≤ W.heap.size)
    (h : ∀ A' c' w', w'.ownsRow base 3 1 (.slice A' (k + 1) c') (k + 1) (ints (L ++ [z])) → (W.alloc (.cells #[.int .i64 z] 3)).grownBy w' (Value.slice A k c).ownBlock → wpList Tryz.prog ops Q rest (a.put o.dst (.slice A' (k + 1) c')) w') :
    wpList Tryz.prog ops Q (o :: rest) a (W.alloc (.cells #[.int .i64 z] 3)) := by
  obtain ⟨i0, hi0, hz0, hz1, hz2⟩ := info_parts int_infoA
  refine wpList_append_own _ hgd s x 24 ho base 3 i0 (.int .i64 0) 1 8 Tryz.underlying24 hi0 hz0 hz1 hz2 rfl (by decide) (.slice A k c) k (ints L) hs (O.alloc _) ⟨W.heap.size, 0, none⟩ 1 1 [.int .i64 z] hx rfl ?_ ?_ ?_ ?_ ?_ ?_
  · intro j u hj
    rcases j with _ | j
    · simp at hj; subst hj; exact World.cell?_alloc_at _ _ _ _ rfl
    · simp at hj
  · intro u hu
    simp at hu
    subst hu
    rfl
  · unfold maxLen; omega
  · omega
  · simp; omega
  · intro v' w' hown hg _
    obtain ⟨A', c', rfl⟩ := own_slice hown
    refine h A' c' w' ?_ hg
    have e : ints (L ++ [z]) = ints L ++ [.int .i64 z] := by simp [ints]
    rw [e]
    exact hown
/-- a whole list of ints behind a row of ints -/
theorem wpList_app_ints (hgd : o.guard = none) (s x : Operand) (ho : o.op = .call { callee := .builtin .append, args := #[s, x], argTypes := #[24, 24] })
    {W : World} (base : Nat) (A : Option Addr) (k c : Nat) (L : List Int) (hs : a.eval s = .slice A k c) (O : W.ownsRow base 3 1 (.slice A k c) k (ints L)) (A2 : Option Addr) (n d : Nat) (M : List Int) (hx : a.eval x = .slice A2 n d) (hr : Rd W 1 A2 n d (ints M))
    (hk : k + n ≤ 100000000) (hb : base ≤ W.heap.size)
    (h : ∀ A' c' w', w'.ownsRow base 3 1 (.slice A' (k + n) c') (k + n) (ints (L ++ M)) → W.grownBy w' (Value.slice A k c).ownBlock → wpList Tryz.prog ops Q rest (a.put o.dst (.slice A' (k + n) c')) w') :
    wpList Tryz.prog ops Q (o :: rest) a W := by
  obtain ⟨i0, hi0, hz0, hz1, hz2⟩ := info_parts int_infoA
  cases A2 with
  | none =>
    have hd : d = 0 := hr.nil rfl
    have hn : n = 0 := by have := hr.cap; omega
    subst hd hn
    have hM : M = [] := List.eq_nil_of_length_eq_zero (by have := hr.len; rw [ints_length] at this; omega)
    subst hM
    refine wpList_append_own_none hgd s x 24 ho base 3 i0 1 Tryz.underlying24 hi0 (.slice A k c) k (ints L) hs O hx ?_
    exact h A c W (by simpa using O) (World.grownBy.refl W _)
  | some ad =>
    refine wpList_append_own _ hgd s x 24 ho base 3 i0 (.int .i64 0) 1 8 Tryz.underlying24 hi0 hz0 hz1 hz2 rfl (by decide) (.slice A k c) k (ints L) hs O ad n d (ints M) hx (by have := hr.len; exact this) ?_ ?_ ?_ ?_ ?_ ?_
    · intro j u hj
      obtain ⟨a', e, -, hc⟩ := hr.read j u hj
      obtain rfl := Option.some.inj e
      exact hc
    · intro u hu
      obtain ⟨z, -, rfl⟩ := List.mem_map.1 hu
      rfl
    · unfold maxLen; omega
    · omega
    · exact hb
    · intro v' w' hown hg _
      obtain ⟨A', c', rfl⟩ := own_slice hown
      refine h A' c' w' ?_ hg
      rw [ints_append]
      exact hown
end
theorem int_info : (Tryz.prog.info? 3).map (fun i => (i.zero, i.size, i.bytes)) = some (some (.int .i64 0), 1, 8) := by kernel_rfl
theorem own_cell {w : World} {base n q : Nat} {A : Option Addr} {c : Nat} {l : List Int} (h : w.ownsRow base 3 1 (.slice A n c) n (l.map (Value.int .i64))) (hq : q < n) : ∃ g, A = some ⟨g, 0, none⟩ ∧ w.cell? ⟨g, q, none⟩ = some (.int .i64 (l.getD q 0)) := by
  obtain ⟨g, cap, hv, _, _⟩ := h.form (by omega)
  have hA : A = some ⟨g, 0, none⟩ := by injection hv
  subst hA
  have hl : l.length = n := by have := h.1; simpa using this
  refine ⟨g, rfl, ?_⟩
  have := h.cells (g := g) rfl q (.int .i64 (l.getD q 0)) (by
    rw [List.getElem?_map, List.getElem?_eq_getElem (by omega)]
    simp [List.getD_eq_getElem?_getD, List.getElem?_eq_getElem (show q < l.length by omega)])
  rw [Addr.add_lit] at this
  simpa using this
theorem bool_zero : (Tryz.prog.info? 4).map (fun i => (i.zero, i.size, i.bytes)) = some (some (.bool false), 1, 1) := by kernel_rfl
theorem bools_set (M : List Bool) (k : Nat) (b : Bool) : (bools M).set k (.bool b) = bools (M.set k b) := by simp [bools, List.map_set]
theorem bools_replicate (N : Nat) (b : Bool) : List.replicate N (Value.bool b) = bools (List.replicate N b) := by simp [bools]
theorem getD_setB (l : List Bool) (i j : Nat) (h : i < l.length) (b : Bool) : (l.set i b).getD j false = if i = j then b else l.getD j false := by
  simp only [List.getD_eq_getElem?_getD, List.getElem?_set]
  by_cases e : i = j
  · subst e; simp [h]
  · simp [e]
section
variable {ops : Array Oper} {rest : List Oper} {o : Oper} {a : Act} {Q : Exit → Act → World → Prop}
theorem wpList_app_bools (hgd : o.guard = none) (s x : Operand) (ho : o.op = .call { callee := .builtin .append, args := #[s, x], argTypes := #[42, 42] })
    {W : World} (base : Nat) (A : Option Addr) (k c : Nat) (L : List Bool) (hs : a.eval s = .slice A k c) (O : W.ownsRow base 4 1 (.slice A k c) k (bools L)) (A2 : Option Addr) (n d : Nat) (M : List Bool) (hx : a.eval x = .slice A2 n d) (hr : Rd W 1 A2 n d (bools M))
    (hk : k + n ≤ 100000000) (hb : base ≤ W.heap.size)
    (h : ∀ A' c' w', w'.ownsRow base 4 1 (.slice A' (k + n) c') (k + n) (bools (L ++ M)) → W.grownBy w' (Value.slice A k c).ownBlock → wpList Tryz.prog ops Q rest (a.put o.dst (.slice A' (k + n) c')) w') :
    wpList Tryz.prog ops Q (o :: rest) a W := by
  obtain ⟨i0, hi0, hz0, hz1, hz2⟩ := info_parts bool_zero
  cases A2 with
  | none =>
    have hd : d = 0 := hr.nil rfl
    have hn : n = 0 := by have := hr.cap; omega
    subst hd hn
    have hM : M = [] := List.eq_nil_of_length_eq_zero (by have := hr.len; rw [bools_length] at this; omega)
    subst hM
    refine wpList_append_own_none hgd s x 42 ho base 4 i0 1 Tryz.underlying42 hi0 (.slice A k c) k (bools L) hs O hx ?_
    exact h A c W (by simpa using O) (World.grownBy.refl W _)
  | some ad =>
    refine wpList_append_own _ hgd s x 42 ho base 4 i0 (.bool false) 1 1 Tryz.underlying42 hi0 hz0 hz1 hz2 rfl (by decide) (.slice A k c) k (bools L) hs O ad n d (bools M) hx (by have := hr.len; exact this) ?_ ?_ ?_ ?_ ?_ ?_
    · intro j u hj
      obtain ⟨a', e, -, hc⟩ := hr.read j u hj
      obtain rfl := Option.some.inj e
      exact hc
    · intro u hu
      obtain ⟨z, -, rfl⟩ := List.mem_map.1 hu
      rfl
    · unfold maxLen; omega
    · omega
    · exact hb
    · intro v' w' hown hg _
      obtain ⟨A', c', rfl⟩ := own_slice hown
      refine h A' c' w' ?_ hg
      have e : bools (L ++ M) = bools L ++ bools M := by simp [bools]
      rw [e]
      exact hown
end
theorem own_kept {w w' : World} {base : Nat} {e : TypeId} {size n g : Nat} {v : Value} {xs : List Value} (h : w.ownsRow base e size v n xs) (hg : w.grownBy w' (some g)) (hd : v.ownBlock ≠ some g) : w'.ownsRow base e size v n xs :=
  h.kept hg (.inr hd)
theorem own_some {w : World} {base : Nat} {e : TypeId} {size n c : Nat} {A : Option Addr} {xs : List Value} (h : w.ownsRow base e size (.slice A n c) n xs) (hn : 0 < n) : ∃ g, A = some ⟨g, 0, none⟩ ∧ base ≤ g ∧ g < w.heap.size := by
  rcases h.2 with ⟨hv, h0⟩ | ⟨g, cap, cur, hv, hg, hh, -⟩
  · omega
  · injection hv with h1
    exact ⟨g, h1, hg, lt_of_block hh⟩
theorem rd_new (w : World) (t : TypeId) (cs : List Value) : Rd (w.alloc (.cells cs.toArray t)) 1 (some ⟨w.heap.size, 0, none⟩) cs.length cs.length cs := by
  refine ⟨by simp, Nat.le_refl _, fun h => (by cases h), fun j u hj => ⟨_, rfl, by simp, ?_⟩⟩
  have h0 : (Addr.add ⟨w.heap.size, 0, none⟩ j) = ⟨w.heap.size, j, none⟩ := by simp [Addr.add]; exact fun h => h.symm
  rw [h0]
  have := World.cell?_alloc_at (w := w) cs.toArray t w.heap.size j rfl
  rw [this]
  simpa using hj
theorem new_cells (w : World) (t : TypeId) (cs : List Value) : ∀ (j : Nat) (u : Value), cs[j]? = some u → (w.alloc (.cells cs.toArray t)).cell? ((⟨w.heap.size, 0, none⟩ : Addr).add j) = some u := fun j u hj => by
  obtain ⟨a', e, -, hc⟩ := (rd_new w t cs).read j u hj
  obtain rfl := Option.some.inj e
  exact hc
theorem rd_bool1 (w : World) (t : TypeId) (b : Bool) : Rd (w.alloc (.cells #[.bool b] t)) 1 (some ⟨w.heap.size, 0, none⟩) 1 1 (bools [b]) := rd_new w t [.bool b]
theorem own_down {w : World} {base base' : Nat} {e : TypeId} {size n : Nat} {v : Value} {xs : List Value} (h : w.ownsRow base e size v n xs) (hb : base' ≤ base) : w.ownsRow base' e size v n xs := by
  refine ⟨h.1, ?_⟩
  rcases h.2 with h2 | ⟨g, cap, cur, hv, hg, hh⟩
  · exact .inl h2
  · exact .inr ⟨g, cap, cur, hv, Nat.le_trans hb hg, hh⟩
theorem own_new (w : World) (base : Nat) (t : TypeId) (cs : List Value) (n : Nat) (hn : cs.length = n) (hm : n ≤ maxLen) (hb : base ≤ w.heap.size) : (w.alloc (.cells cs.toArray t)).ownsRow base t 1 (.slice (some ⟨w.heap.size, 0, none⟩) n n) n cs := by
  subst hn
  refine ⟨by simp, .inr ⟨w.heap.size, cs.length, cs.toArray, rfl, hb, ?_, Nat.le_refl _, hm, by simp, by simp⟩⟩
  have := Blk.made w t cs.toArray
  unfold Blk at this
  exact this
theorem i64_and_nat (a b : Nat) (ha : a < 9223372036854775808) (hb : b < 9223372036854775808) : bits .and .i64 (a : Int) (b : Int) = ((a &&& b : Nat) : Int) := by
  have e : bits .and .i64 (a : Int) (b : Int) = IntKind.i64.wrap ((BitVec.ofInt 64 (a : Int) &&& BitVec.ofInt 64 (b : Int)).toNat : Int) := rfl
  have e1 : (BitVec.ofInt 64 (a : Int)).toNat = a := by simp; omega
  have e2 : (BitVec.ofInt 64 (b : Int)).toNat = b := by simp; omega
  have h : a &&& b ≤ a := Nat.and_le_left
  rw [e, BitVec.toNat_and, e1, e2, IntWalk.i64_in _ (by omega)]
theorem i64_or_nat (a b : Nat) (ha : a < 4611686018427387904) (hb : b < 4611686018427387904) : bits .or .i64 (a : Int) (b : Int) = ((a ||| b : Nat) : Int) := by
  have e : bits .or .i64 (a : Int) (b : Int) = IntKind.i64.wrap ((BitVec.ofInt 64 (a : Int) ||| BitVec.ofInt 64 (b : Int)).toNat : Int) := rfl
  have e1 : (BitVec.ofInt 64 (a : Int)).toNat = a := by simp; omega
  have e2 : (BitVec.ofInt 64 (b : Int)).toNat = b := by simp; omega
  have h : a ||| b < 2 ^ 62 := Nat.or_lt_two_pow (by omega) (by omega)
  rw [e, BitVec.toNat_or, e1, e2, IntWalk.i64_in _ (by omega)]
/-- is a bit set, as Go asks it -/
theorem bit_on (i j : Nat) (hi : i < 4611686018427387904) (hj : j < 62) : bits .and .i64 (i : Int) ((2 ^ j : Nat) : Int) = ((i / 2 ^ j % 2 * 2 ^ j : Nat) : Int) := by
  have h2 : 2 ^ j ≤ 2 ^ 61 := Nat.pow_le_pow_right (by omega) (by omega)
  rw [i64_and_nat i (2 ^ j) (by omega) (by omega)]
  congr 1
  have hb : i.testBit j = decide (i / 2 ^ j % 2 = 1) := by rw [Nat.testBit_eq_decide_div_mod_eq]
  apply Nat.eq_of_testBit_eq
  intro m
  rw [Nat.testBit_and, Nat.testBit_two_pow]
  by_cases h : i / 2 ^ j % 2 = 1
  · rw [h, Nat.one_mul, Nat.testBit_two_pow]
    by_cases e : j = m
    · subst e; rw [hb, h]; simp
    · simp [e]
  · have h0 : i / 2 ^ j % 2 = 0 := by omega
    rw [h0, Nat.zero_mul, Nat.zero_testBit]
    by_cases e : j = m
    · subst e; rw [hb]; simp [h]
    · simp [e]
theorem bit_set (n k : Nat) (hn : n < 2 ^ k) (hk : k < 61) : bits .or .i64 (n : Int) ((2 ^ k : Nat) : Int) = ((n + 2 ^ k : Nat) : Int) := by
  have h2 : 2 ^ k ≤ 2 ^ 60 := Nat.pow_le_pow_right (by omega) (by omega)
  rw [i64_or_nat n (2 ^ k) (by omega) (by omega)]
  rw [Nat.or_two_pow_eq_add_of_lt hn]
theorem pow_nat {k p : Nat} (h : 2 ^ k = p) : ((2 : Int) ^ k) = (p : Int) := by rw [← h, Int.natCast_pow]; rfl
theorem own_base_le {w : World} {base base' : Nat} {e : TypeId} {size n : Nat} {v : Value} {xs : List Value} (h : w.ownsRow base e size v n xs) (hb : base' ≤ base) : w.ownsRow base' e size v n xs := ⟨h.1, by
  rcases h.2 with h' | ⟨g, cap, cur, a1, a2, a3⟩
  · exact .inl h'
  · exact .inr ⟨g, cap, cur, a1, by omega, a3⟩⟩
def natI (l : List Nat) : List Int := l.map fun (n : Nat) => (n : Int)
theorem natI_length (l : List Nat) : (natI l).length = l.length := by simp [natI]
theorem natI_getD (l : List Nat) (k : Nat) : (natI l).getD k 0 = (l.getD k 0 : Int) := by
  simp only [natI, List.getD_eq_getElem?_getD, List.getElem?_map]
  cases l[k]? <;> rfl
theorem natI_set (l : List Nat) (k v : Nat) : (natI l).set k (v : Int) = natI (l.set k v) := by simp [natI, List.map_set]
theorem natI_append (l m : List Nat) : natI (l ++ m) = natI l ++ natI m := by simp [natI]
def blkOf (A : Option Addr) : Option Nat := A.map (·.block)
theorem own_blk (A : Option Addr) (n c : Nat) : (Value.slice A n c).ownBlock = blkOf A := by cases A <;> rfl
/-- nothing but the blocks X is another one -/
structure Chg (w w' : World) (X : Nat → Prop) : Prop where
  os : w'.os = w.os
  tape : w'.tape = w.tape
  output : w'.output = w.output
  size : w.heap.size ≤ w'.heap.size
  block : ∀ k, k < w.heap.size → ¬ X k → w'.heap[k]? = w.heap[k]?
theorem Chg.of_grown {w w' : World} {row : Option Nat} (h : w.grownBy w' row) : Chg w w' fun k => some k = row :=
  ⟨h.os, h.tape, h.output, h.size, fun k hk hx => h.block k hk hx⟩
theorem Chg.set (w : World) (g i : Nat) (v : Value) : Chg w (w.setCell ⟨g, i, none⟩ v) fun k => k = g :=
  ⟨rfl, rfl, rfl, by simp, fun k _ hk => Below.heap_setCell w ⟨g, i, none⟩ v k hk⟩
theorem Chg.trans {a b c : World} {X Y : Nat → Prop} (h : Chg a b X) (k : Chg b c Y) : Chg a c fun i => X i ∨ Y i :=
  ⟨k.os.trans h.os, k.tape.trans h.tape, k.output.trans h.output, Nat.le_trans h.size k.size, fun i hi hx => (k.block i (Nat.lt_of_lt_of_le hi h.size) (fun e => hx (.inr e))).trans (h.block i hi (fun e => hx (.inl e)))⟩
theorem Chg.below {B : Nat} {a w w' : World} {X : Nat → Prop} (h : Chg w w' X) (hb : Below B a w) (hB : B ≤ w.heap.size) (hX : ∀ k, X k → B ≤ k) : Below B a w' :=
  ⟨h.os.trans hb.os, h.tape.trans hb.tape, h.output.trans hb.output, Nat.le_trans hb.size h.size, fun k hk => (h.block k (by omega) (fun hx => by have := hX k hx; omega)).trans (hb.block k hk)⟩
theorem Chg.blk {w w' : World} {X : Nat → Prop} (h : Chg w w' X) {g : Nat} {t : TypeId} {cs : Array Value} (hb : Blk w g t cs) (hx : ¬ X g) : Blk w' g t cs := (h.block g hb.lt hx).trans hb
theorem Chg.own {w w' : World} {X : Nat → Prop} (h : Chg w w' X) {base : Nat} {e : TypeId} {size n : Nat} {v : Value} {xs : List Value} (ho : w.ownsRow base e size v n xs) (hx : ∀ g, v.ownBlock = some g → ¬ X g) : w'.ownsRow base e size v n xs := by
  refine ⟨ho.1, ?_⟩
  rcases ho.2 with hn | ⟨g, cap, cur, rfl, hb, hg, rest⟩
  · exact .inl hn
  · refine .inr ⟨g, cap, cur, rfl, hb, ?_, rest⟩
    rw [h.block g (Array.getElem?_eq_some_iff.1 hg).1 (hx g rfl)]
    exact hg
section
variable {w w' : World} {base : Nat}
theorem own_int {xs : List Value} {n size : Nat} {v : Value} {e : TypeId} (h : w.ownsRow base e size v n xs) {g : Nat} (hg : v.ownBlock = some g) : ∃ cs, Blk w g e cs := by
  rcases h.2 with ⟨rfl, _⟩ | ⟨g', cap, cur, rfl, hb, hh, _⟩
  · simp [Value.ownBlock] at hg
  · simp [Value.ownBlock] at hg
    subst hg
    exact ⟨cur, hh⟩
end
theorem made_one (z : Value) (N : Nat) : (madeCells #[z] N).toList = List.replicate N z := by
  apply List.ext_getElem <;> simp [madeCells, Nat.mod_one]
theorem made_eq (z : Value) (N : Nat) : madeCells #[z] N = (List.replicate N z).toArray := by rw [← made_one]
theorem own_laid (w : World) (t : TypeId) (cs : List Value) (n base : Nat) (hl : cs.length = n) (hb : base ≤ w.heap.size) (hn : n ≤ 100000000) : (w.alloc (.cells cs.toArray t)).ownsRow base t 1 (.slice (some ⟨w.heap.size, 0, none⟩) n n) n cs := by
  subst hl
  refine ⟨by simp, .inr ⟨w.heap.size, cs.length, cs.toArray, rfl, hb, heap_alloc_new w _, Nat.le_refl _, by unfold maxLen; omega, by simp, by simp⟩⟩
theorem int_sub_nat {x i n : Int} (h : ¬ x < i) (h2 : x < i + n) : ∃ q : Nat, x - i = (q : Int) ∧ (q : Int) < n := ⟨(x - i).toNat, by omega, by omega⟩
theorem results_tmp3 {fn : Func} {t u v : Tmp} (h : fn.results = #[.tmp t, .tmp u, .tmp v]) (tmps : Array Value) (P : Program) (w : World) :
    (results fn tmps).run P w = .ok (.tuple #[tmps.getD t undef, tmps.getD u undef, tmps.getD v undef]) w := by simp [results, h]
theorem wp_app_run (w : World) {o : Oper} {a : Act} {K : Act → World → Prop} {Q : Exit → Act → World → Prop} (s x : Operand) (t tn : TypeId)
    (ho : o.op = .call { callee := .builtin .append, args := #[s, x], argTypes := #[t, tn] }) (v u : Value) (hs : a.eval s = v) (hx : a.eval x = u) {v' : Value} {w' : World}
    (hr : (Builtin.append_ #[t, tn] o.type #[v, u]).run Tryz.prog w = .ok v' w') (h : K (a.put o.dst v') w') : o.wp Tryz.prog a w K Q := by
  unfold Oper.wp execOp
  simp only [ho, resolve, invoke, builtin, Sem.run_bind, Sem.run_pure, Result.andThen_ok, List.map_toArray, List.map_cons, List.map_nil, hs, hx, hr]
  exact h
theorem step_app_run {ops : Array Oper} {w : World} {o : Oper} {a : Act} {K : Act → World → Prop} {Q : Exit → Act → World → Prop} {E : Prop} (hgd : o.guard = none) (s x : Operand) (t tn : TypeId)
    (ho : o.op = .call { callee := .builtin .append, args := #[s, x], argTypes := #[t, tn] }) (v u : Value) (hs : a.eval s = v) (hx : a.eval x = u) {v' : Value} {w' : World}
    (hr : (Builtin.append_ #[t, tn] o.type #[v, u]).run Tryz.prog w = .ok v' w') (h : K (a.put o.dst v') w') : if Region.wanted o (yielded ops a.tmps) = true then Oper.wp Tryz.prog o a w K Q else E := by
  have hw : Region.wanted o (yielded ops a.tmps) = true := by simp [Region.wanted, hgd]
  rw [if_pos hw]
  exact wp_app_run w s x t tn ho v u hs hx hr h
theorem take_map_next {α β : Type} (f : α → β) {l : List α} {k : Nat} (h : k < l.length) : (l.take (k + 1)).map f = (l.take k).map f ++ [f l[k]] := by
  rw [List.take_add_one, List.getElem?_eq_getElem h, List.map_append]; rfl
theorem take_map_len {α β : Type} (f : α → β) {l : List α} {k : Nat} (h : k ≤ l.length) : ((l.take k).map f).length = k := by simp; omega
theorem nat_getD_mem {l : List Nat} {k : Nat} (h : k < l.length) : l.getD k 0 ∈ l := by
  rw [List.getD_eq_getElem?_getD, List.getElem?_eq_getElem h]; exact List.getElem_mem h
theorem own_of_blk {w : World} {g : Nat} {t : TypeId} {cs : List Value} {n base : Nat} (h : Blk w g t cs.toArray) (hl : cs.length = n) (hb : base ≤ g) (hn : n ≤ maxLen) : w.ownsRow base t 1 (.slice (some ⟨g, 0, none⟩) n n) n cs := by
  subst hl
  exact ⟨by simp, .inr ⟨g, cs.length, cs.toArray, rfl, hb, h, Nat.le_refl _, hn, by simp, by simp⟩⟩
theorem blk_of_own {w : World} {g : Nat} {t : TypeId} {cs : List Value} {n base : Nat} (h : w.ownsRow base t 1 (.slice (some ⟨g, 0, none⟩) n n) n cs) : Blk w g t cs.toArray := by
  obtain ⟨h1, h2⟩ := h
  rcases h2 with ⟨h3, -⟩ | ⟨g', cap, cur, he, hb, hg, h4, h5, h6, h7⟩
  · cases h3
  · injection he with e1 e2 e3
    injection e1 with e1
    injection e1 with e1
    subst e1 e3
    have : cur.toList = cs := by rw [← h7, List.take_of_length_le (by simp; omega)]
    show w.heap[g]? = _
    rw [hg, ← this]
theorem and1_i64 (m : Nat) (h : m < 4294967296) : bits .and .i64 (m : Int) 1 = ((m % 2 : Nat) : Int) := by
  have := i64_and_nat m 1 (by omega) (by omega)
  rw [Nat.and_one_is_mod] at this
  exact this
theorem u64_and1 (m : Nat) (h : m < 4294967296) : bits .and .u64 (m : Int) 1 = ((m % 2 : Nat) : Int) := by
  have e : bits .and .u64 (m : Int) ((1 : Nat) : Int) = IntKind.u64.wrap ((BitVec.ofInt 64 (m : Int) &&& BitVec.ofInt 64 ((1 : Nat) : Int)).toNat : Int) := rfl
  have e1 : (BitVec.ofInt 64 (m : Int)).toNat = m := by simp; omega
  have e2 : (BitVec.ofInt 64 ((1 : Nat) : Int)).toNat = 1 := by simp
  show bits .and .u64 (m : Int) ((1 : Nat) : Int) = _
  rw [e, BitVec.toNat_and, e1, e2, Nat.and_one_is_mod]
  show (((m % 2 : Nat) : Int)) % 18446744073709551616 = _
  omega
theorem take_get {α : Type} {l : List α} {k j : Nat} {u : α} (h : (l.take k)[j]? = some u) : l[j]? = some u := by
  rw [List.getElem?_take] at h
  split at h
  · exact h
  · cases h
theorem ints_one {l : List Int} {u : Value} (h : u ∈ ints l) : u.oneCell' = true := by
  obtain ⟨x, -, rfl⟩ := List.mem_map.1 h
  rfl
theorem take_one {α : Type} [Inhabited α] {l : List α} {k : Nat} (h : k < l.length) (d : α) : l.take (k + 1) = l.take k ++ [l.getD k d] := by
  rw [List.take_add_one, List.getElem?_eq_getElem h, List.getD_eq_getElem?_getD, List.getElem?_eq_getElem h]; rfl
/-- a field behind an element's address, as the walk spells it -/
theorem add_field (a : Addr) (m j : Nat) (h : 0 < j) : (⟨(a.add m).block, (a.add m).off + j, none⟩ : Addr) = a.add (m + j) := by
  unfold Addr.add
  by_cases hm : m = 0
  · subst hm; rw [if_pos rfl, if_neg (by omega), Nat.zero_add]
  · rw [if_neg hm, if_neg (by omega)]; simp [Nat.add_assoc]
end Go.Proofs.YtaajnmggbhnndaaGreatDoor
