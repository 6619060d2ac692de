/- What filigree/pack.Order holds in memory: rows of numbers, each under a name. -/
import Derived.Test.YtoloaecbfglaeaaHeapB
import Derived.Test.YtoloaecbfglaeaaMay
import Derived.Test.YtoloaecbfglaeaaTopo
namespace Go.Proofs.Ytoloaecbfglaeaa
open Go.RowKit
set_option linter.unusedVariables false
set_option linter.unusedSimpArgs false

def natI (l : List Nat) : List Int := l.map fun (n : Nat) => (n : Int)
theorem natI_length (l : List Nat) : (natI l).length = l.length := by simp [natI]
theorem natI_getD (l : List Nat) (k : Nat) : (natI l).getD k 0 = (l.getD k 0 : Int) := by
  simp only [natI, List.getD_eq_getElem?_getD, List.getElem?_map]
  cases l[k]? <;> rfl
theorem natI_set (l : List Nat) (k v : Nat) : (natI l).set k (v : Int) = natI (l.set k v) := by simp [natI, List.map_set]
theorem natI_append (l m : List Nat) : natI (l ++ m) = natI l ++ natI m := by simp [natI]
theorem natI_back {m : List Int} {l : List Nat} (h : m.Perm (natI l)) : ∃ m', m = natI m' ∧ m'.Perm l := by
  refine ⟨m.map Int.toNat, ?_, ?_⟩
  · have hm : ∀ x ∈ m, ∃ n : Nat, x = (n : Int) := fun x hx => by
      obtain ⟨n, -, hn⟩ := List.mem_map.1 (h.mem_iff.1 hx); exact ⟨n, hn.symm⟩
    unfold natI
    rw [List.map_map]
    have e : m.map ((fun (n : Nat) => (n : Int)) ∘ Int.toNat) = m.map id := List.map_congr_left fun x hx => by
      obtain ⟨n, rfl⟩ := hm x hx
      rfl
    rw [e, List.map_id]
  · have := h.map Int.toNat
    unfold natI at this
    rw [List.map_map] at this
    have e : l.map (Int.toNat ∘ fun (n : Nat) => (n : Int)) = l := by
      rw [show (Int.toNat ∘ fun (n : Nat) => (n : Int)) = id from funext fun n => by simp]; simp
    rwa [e] at this
def blkOf (A : Option Addr) : Option Nat := A.map (·.block)
theorem own_blk (A : Option Addr) (n c : Nat) : (Value.slice A n c).ownBlock = blkOf A := by cases A <;> rfl

/-- nothing but the blocks X is another one -/
structure Chg (w w' : World) (X : Nat → Prop) : Prop where
  os : w'.os = w.os
  tape : w'.tape = w.tape
  output : w'.output = w.output
  size : w.heap.size ≤ w'.heap.size
  block : ∀ k, k < w.heap.size → ¬ X k → w'.heap[k]? = w.heap[k]?
theorem Chg.of_hk {w w' : World} {R : Nat} {row : Option Nat} (h : HK w w' R row) : Chg w w' fun k => k = R ∨ some k = row :=
  ⟨h.os, h.tape, h.output, h.size, fun k hk hx => h.block k hk (fun e => hx (.inl e)) (fun e => hx (.inr e))⟩
theorem Chg.of_grown {w w' : World} {row : Option Nat} (h : w.grownBy w' row) : Chg w w' fun k => some k = row :=
  ⟨h.os, h.tape, h.output, h.size, fun k hk hx => h.block k hk hx⟩
theorem Chg.set (w : World) (g i : Nat) (v : Value) : Chg w (w.setCell ⟨g, i, none⟩ v) fun k => k = g :=
  ⟨rfl, rfl, rfl, by simp, fun k _ hk => Below.heap_setCell w ⟨g, i, none⟩ v k hk⟩
theorem Chg.trans {a b c : World} {X Y : Nat → Prop} (h : Chg a b X) (k : Chg b c Y) : Chg a c fun i => X i ∨ Y i :=
  ⟨k.os.trans h.os, k.tape.trans h.tape, k.output.trans h.output, Nat.le_trans h.size k.size, fun i hi hx => (k.block i (Nat.lt_of_lt_of_le hi h.size) (fun e => hx (.inr e))).trans (h.block i hi (fun e => hx (.inl e)))⟩
theorem Chg.below {B : Nat} {a w w' : World} {X : Nat → Prop} (h : Chg w w' X) (hb : Below B a w) (hB : B ≤ w.heap.size) (hX : ∀ k, X k → B ≤ k) : Below B a w' :=
  ⟨h.os.trans hb.os, h.tape.trans hb.tape, h.output.trans hb.output, Nat.le_trans hb.size h.size, fun k hk => (h.block k (by omega) (fun hx => by have := hX k hx; omega)).trans (hb.block k hk)⟩
theorem Chg.blk {w w' : World} {X : Nat → Prop} (h : Chg w w' X) {g : Nat} {t : TypeId} {cs : Array Value} (hb : Blk w g t cs) (hx : ¬ X g) : Blk w' g t cs := (h.block g hb.lt hx).trans hb
theorem Chg.own {w w' : World} {X : Nat → Prop} (h : Chg w w' X) {base : Nat} {e : TypeId} {size n : Nat} {v : Value} {xs : List Value} (ho : w.ownsRow base e size v n xs) (hx : ∀ g, v.ownBlock = some g → ¬ X g) : w'.ownsRow base e size v n xs := by
  refine ⟨ho.1, ?_⟩
  rcases ho.2 with hn | ⟨g, cap, cur, rfl, hb, hg, rest⟩
  · exact .inl hn
  · refine .inr ⟨g, cap, cur, rfl, hb, ?_, rest⟩
    rw [h.block g (Array.getElem?_eq_some_iff.1 hg).1 (hx g rfl)]
    exact hg

/-- a row of numbers of the call's own, under a name -/
structure Row (w : World) (base : Nat) (f : Nat → Nat) (nm : Nat) (A : Option Addr) (c : Nat) (l : List Nat) : Prop where
  own : w.ownsRow base 3 1 (.slice A l.length c) l.length (ints (natI l))
  name : ∀ g, blkOf A = some g → f g = nm
def isInt (w : World) (g : Nat) : Prop := ∃ cs, Blk w g 3 cs
section
variable {w w' : World} {base nm nm' c : Nat} {f f' : Nat → Nat} {A : Option Addr} {l : List Nat}
theorem own_int {xs : List Value} {n size : Nat} {v : Value} {e : TypeId} (h : w.ownsRow base e size v n xs) {g : Nat} (hg : v.ownBlock = some g) : ∃ cs, Blk w g e cs := by
  rcases h.2 with ⟨rfl, _⟩ | ⟨g', cap, cur, rfl, hb, hh, _⟩
  · simp [Value.ownBlock] at hg
  · simp [Value.ownBlock] at hg
    subst hg
    exact ⟨cur, hh⟩
theorem Row.int (h : Row w base f nm A c l) {g : Nat} (hg : blkOf A = some g) : isInt w g := own_int h.own (by rw [own_blk]; exact hg)
theorem Row.lt (h : Row w base f nm A c l) {g : Nat} (hg : blkOf A = some g) : base ≤ g ∧ g < w.heap.size := h.own.lt g (by rw [own_blk]; exact hg)
theorem Row.chg (h : Row w base f nm A c l) {X : Nat → Prop} (hc : Chg w w' X) (hx : ∀ g, isInt w g → f g = nm → ¬ X g) (hf : ∀ g, g < w.heap.size → f' g = f g) : Row w' base f' nm A c l :=
  ⟨hc.own h.own fun g hg => hx g (own_int h.own hg) (h.name g (by rw [← own_blk A l.length c]; exact hg)), fun g hg => by rw [hf g (h.lt hg).2]; exact h.name g hg⟩
theorem Row.keep (h : Row w base f nm A c l) (hb : Below w.heap.size w w') : Row w' base f nm A c l := ⟨own_keep h.own hb, h.name⟩
end
/-- new blocks bear a name -/
def named (f : Nat → Nat) (s nm : Nat) : Nat → Nat := fun b => if s ≤ b then nm else f b
theorem named_old (f : Nat → Nat) {s nm g : Nat} (h : g < s) : named f s nm g = f g := by unfold named; rw [if_neg (by omega)]
theorem named_new {f : Nat → Nat} {s nm : Nat} {A B : Option Addr} (hn : ∀ g, blkOf A = some g → f g = nm) (ha : ∀ g, blkOf A = some g → g < s) (hq : blkOf B = blkOf A ∨ ∀ g, blkOf B = some g → s ≤ g) : ∀ g, blkOf B = some g → named f s nm g = nm := by
  intro g hg
  rcases hq with h | h
  · rw [h] at hg; rw [named_old f (ha g hg)]; exact hn g hg
  · unfold named; rw [if_pos (h g hg)]

/-- a row's address, capacity, numbers -/
abbrev SN : Type := Option Addr × Nat × List Nat
def rowV (b : SN) : Value := .slice b.1 b.2.2.length b.2.1
structure OW (w0 wx : World) (P : PK) (N R gw gb : Nat) (f : Nat → Nat) (Wt : List Nat) (Bs : List SN) (A : Option Addr) (c : Nat) (L : List Nat) (AO : Option Addr) (cO : Nat) (O : List Nat) : Prop where
  below : Below w0.heap.size w0 wx
  box : Blk wx w0.heap.size 49 #[.int .i64 P.I, .slice P.AB P.bs.length P.cB, .slice P.AO P.outs.length P.cO]
  wl : Wt.length = N
  bl : Bs.length = N
  wait : Row wx w0.heap.size f 0 (some ⟨gw, 0, none⟩) N Wt
  outer : wx.ownsRow w0.heap.size 26 1 (.slice (some ⟨gb, 0, none⟩) N N) N (Bs.map rowV)
  inner : ∀ k b, Bs[k]? = some b → Row wx w0.heap.size f (3 + k) b.1 b.2.1 b.2.2
  ready : HQ wx w0.heap.size R A c (natI L)
  rname : ∀ g, blkOf A = some g → f g = 1
  out : Row wx w0.heap.size f 2 AO cO O
  lt : w0.heap.size < R
section
variable {w0 wx wy : World} {P : PK} {N R gw gb : Nat} {f : Nat → Nat} {Wt : List Nat} {Bs : List SN} {A A' : Option Addr} {c c' : Nat} {L L' : List Nat} {AO AO' : Option Addr} {cO cO' : Nat} {O O' : List Nat}
theorem OW.size (h : OW w0 wx P N R gw gb f Wt Bs A c L AO cO O) : w0.heap.size < wx.heap.size := h.box.lt
theorem OW.obk (h : OW w0 wx P N R gw gb f Wt Bs A c L AO cO O) : ∃ cs, Blk wx gb 26 cs := own_int h.outer rfl
theorem OW.gbl (h : OW w0 wx P N R gw gb f Wt Bs A c L AO cO O) : w0.heap.size ≤ gb ∧ gb < wx.heap.size := h.outer.lt gb rfl
theorem OW.keep (h : OW w0 wx P N R gw gb f Wt Bs A c L AO cO O) (hb : Below wx.heap.size wx wy) : OW w0 wy P N R gw gb f Wt Bs A c L AO cO O :=
  ⟨below_then h.below hb, h.box.keep hb, h.wl, h.bl, h.wait.keep hb, own_keep h.outer hb, fun k b hk => (h.inner k b hk).keep hb, ⟨h.ready.box.keep hb, own_keep h.ready.row hb⟩, h.rname, h.out.keep hb, h.lt⟩
/-- the box stays -/
theorem OW.box_chg (h : OW w0 wx P N R gw gb f Wt Bs A c L AO cO O) {X : Nat → Prop} (hc : Chg wx wy X) (hX : ∀ k, X k → k = R ∨ k = gb ∨ isInt wx k) : Blk wy w0.heap.size 49 #[.int .i64 P.I, .slice P.AB P.bs.length P.cB, .slice P.AO P.outs.length P.cO] := by
  refine hc.blk h.box fun hx => ?_
  rcases hX _ hx with e | e | ⟨cs, e⟩
  · have := h.lt; omega
  · obtain ⟨cs, ho⟩ := h.obk
    rw [← e] at ho
    exact (h.box.other ho (by decide)) rfl
  · exact (h.box.other e (by decide)) rfl
theorem OW.ne_r (h : OW w0 wx P N R gw gb f Wt Bs A c L AO cO O) {g : Nat} (hg : isInt wx g) : g ≠ R := by
  obtain ⟨cs, e⟩ := hg
  exact e.other h.ready.box (by decide)
theorem OW.ne_o (h : OW w0 wx P N R gw gb f Wt Bs A c L AO cO O) {g : Nat} (hg : isInt wx g) : g ≠ gb := by
  obtain ⟨cs, e⟩ := hg
  obtain ⟨cs', e'⟩ := h.obk
  exact e.other e' (by decide)
theorem OW.gb_r (h : OW w0 wx P N R gw gb f Wt Bs A c L AO cO O) : gb ≠ R := by
  obtain ⟨cs', e'⟩ := h.obk
  exact e'.other h.ready.box (by decide)
theorem OW.row_r (h : OW w0 wx P N R gw gb f Wt Bs A c L AO cO O) {g : Nat} (hg : blkOf A = some g) : isInt wx g ∧ w0.heap.size ≤ g ∧ g < wx.heap.size :=
  ⟨own_int h.ready.row (by rw [own_blk]; exact hg), h.ready.row.lt g (by rw [own_blk]; exact hg)⟩
/-- a number of waits is another one -/
theorem OW.waitSet (h : OW w0 wx P N R gw gb f Wt Bs A c L AO cO O) {k : Nat} (v : Nat) : OW w0 (wx.setCell ⟨gw, k, none⟩ (.int .i64 (v : Int))) P N R gw gb f (Wt.set k v) Bs A c L AO cO O := by
  have hc := Chg.set wx gw k (.int .i64 (v : Int))
  have hi : isInt wx gw := h.wait.int rfl
  have hn : f gw = 0 := h.wait.name gw rfl
  have hl := h.wait.lt (g := gw) rfl
  have other : ∀ {nm : Nat} {A c l}, nm ≠ 0 → Row wx w0.heap.size f nm A c l → Row (wx.setCell ⟨gw, k, none⟩ (.int .i64 (v : Int))) w0.heap.size f nm A c l := fun hne hr => hr.chg hc (fun g _ hg e => by rw [e] at hg; omega) (fun _ _ => rfl)
  refine ⟨hc.below h.below (Nat.le_of_lt h.size) (fun k e => by rw [e]; exact hl.1), h.box_chg hc (fun k e => .inr (.inr (by rw [e]; exact hi))), by simpa using h.wl, h.bl, ?_, ?_, fun j b hj => other (by omega) (h.inner j b hj), ?_, h.rname, other (by omega) h.out, h.lt⟩
  · refine ⟨?_, h.wait.name⟩
    have hw := h.wait.own
    have hlen : (Wt.set k v).length = Wt.length := by simp
    rw [hlen, ← natI_set]
    have := (hw.stored k (.int .i64 (v : Int))).1
    have e : (ints (natI Wt)).set k (.int .i64 (v : Int)) = ints ((natI Wt).set k (v : Int)) := by simp [ints, List.map_set]
    rw [e] at this
    exact this
  · exact hc.own h.outer fun g hg e => by
      rw [own_blk] at hg
      injection hg with hg
      exact (h.ne_o hi) (e.symm.trans hg.symm)
  · exact ⟨hc.blk h.ready.box (fun e => h.ne_r hi e.symm), hc.own h.ready.row fun g hg e => by
      rw [own_blk] at hg
      have := h.rname g hg
      rw [e] at this
      omega⟩
/-- the least ones are others -/
theorem OW.turn (h : OW w0 wx P N R gw gb f Wt Bs A c L AO cO O) (hq : HQ wy w0.heap.size R A' c' (natI L')) (hk : HK wx wy R (blkOf A)) (hs : blkOf A' = blkOf A ∨ ∀ g, blkOf A' = some g → wx.heap.size ≤ g) :
    OW w0 wy P N R gw gb (named f wx.heap.size 1) Wt Bs A' c' L' AO cO O := by
  have hc := Chg.of_hk hk
  have hX : ∀ k, (k = R ∨ some k = blkOf A) → k = R ∨ (isInt wx k ∧ f k = 1) := fun k e => e.imp id fun e => ⟨(h.row_r e.symm).1, h.rname k e.symm⟩
  have old : ∀ g, g < wx.heap.size → named f wx.heap.size 1 g = f g := fun g hg => named_old f hg
  have other : ∀ {nm : Nat} {A c l}, nm ≠ 1 → Row wx w0.heap.size f nm A c l → Row wy w0.heap.size (named f wx.heap.size 1) nm A c l := fun hne hr => hr.chg hc (fun g hi hg e => by
    rcases hX g e with e | ⟨-, e⟩
    · exact h.ne_r hi e
    · omega) old
  refine ⟨hc.below h.below (Nat.le_of_lt h.size) (fun k e => ?_), h.box_chg hc (fun k e => (hX k e).imp id fun e => .inr e.1), h.wl, h.bl, other (by omega) h.wait, ?_, fun j b hj => other (by omega) (h.inner j b hj), hq, ?_, other (by omega) h.out, h.lt⟩
  · rcases e with e | e
    · rw [e]; exact Nat.le_of_lt h.lt
    · exact (h.row_r e.symm).2.1
  · exact hc.own h.outer fun g hg e => by
      injection hg with hg
      subst hg
      rcases hX _ e with e | ⟨e, -⟩
      · exact h.gb_r e
      · exact h.ne_o e rfl
  · exact named_new h.rname (fun g hg => (h.row_r hg).2.2) hs
/-- out goes on -/
theorem OW.outTurn (h : OW w0 wx P N R gw gb f Wt Bs A c L AO cO O) (hr : wy.ownsRow w0.heap.size 3 1 (.slice AO' O'.length cO') O'.length (ints (natI O'))) (hg : wx.grownBy wy (blkOf AO)) (hs : blkOf AO' = blkOf AO ∨ ∀ g, blkOf AO' = some g → wx.heap.size ≤ g) :
    OW w0 wy P N R gw gb (named f wx.heap.size 2) Wt Bs A c L AO' cO' O' := by
  have hc := Chg.of_grown hg
  have hX : ∀ k, some k = blkOf AO → isInt wx k ∧ f k = 2 := fun k e => ⟨h.out.int e.symm, h.out.name k e.symm⟩
  have old : ∀ g, g < wx.heap.size → named f wx.heap.size 2 g = f g := fun g hg => named_old f hg
  have other : ∀ {nm : Nat} {A c l}, nm ≠ 2 → Row wx w0.heap.size f nm A c l → Row wy w0.heap.size (named f wx.heap.size 2) nm A c l := fun hne hr => hr.chg hc (fun g hi hg e => by have := (hX g e).2; omega) old
  refine ⟨hc.below h.below (Nat.le_of_lt h.size) (fun k e => (h.out.lt e.symm).1), h.box_chg hc (fun k e => .inr (.inr (hX k e).1)), h.wl, h.bl, other (by omega) h.wait, ?_, fun j b hj => other (by omega) (h.inner j b hj), ?_, ?_, ⟨hr, named_new h.out.name (fun g hg => (h.out.lt hg).2) hs⟩, h.lt⟩
  · exact hc.own h.outer fun g hg e => by
      injection hg with hg
      subst hg
      exact h.ne_o (hX _ e).1 rfl
  · exact ⟨hc.blk h.ready.box (fun e => h.ne_r (hX _ e).1 rfl), hc.own h.ready.row fun g hg e => by
      rw [own_blk] at hg
      have h1 := h.rname g hg
      have h2 := (hX g e).2
      omega⟩
  · intro g hg
    rw [old g (h.row_r hg).2.2]
    exact h.rname g hg
/-- one of those behind goes on, and is put back -/
theorem OW.innerTurn (h : OW w0 wx P N R gw gb f Wt Bs A c L AO cO O) {k : Nat} {b b' : SN} (hb : Bs[k]? = some b) (hr : wy.ownsRow w0.heap.size 3 1 (rowV b') b'.2.2.length (ints (natI b'.2.2))) (hg : wx.grownBy wy (blkOf b.1)) (hs : blkOf b'.1 = blkOf b.1 ∨ ∀ g, blkOf b'.1 = some g → wx.heap.size ≤ g) :
    OW w0 (wy.setCell ⟨gb, k, none⟩ (rowV b')) P N R gw gb (named f wx.heap.size (3 + k)) Wt (Bs.set k b') A c L AO cO O := by
  have hc0 := Chg.of_grown hg
  have hc := hc0.trans (Chg.set wy gb k (rowV b'))
  have hrow := h.inner k b hb
  have hX0 : ∀ j, some j = blkOf b.1 → isInt wx j ∧ f j = 3 + k := fun j e => ⟨hrow.int e.symm, hrow.name j e.symm⟩
  have old : ∀ g, g < wx.heap.size → named f wx.heap.size (3 + k) g = f g := fun g hg => named_old f hg
  have other : ∀ {nm : Nat} {A c l}, nm ≠ 3 + k → Row wx w0.heap.size f nm A c l → Row (wy.setCell ⟨gb, k, none⟩ (rowV b')) w0.heap.size (named f wx.heap.size (3 + k)) nm A c l := fun hne hr => hr.chg hc (fun g hi hg e => by
    rcases e with e | e
    · have := (hX0 g e).2; omega
    · exact h.ne_o hi e) old
  have ho1 : wy.ownsRow w0.heap.size 26 1 (.slice (some ⟨gb, 0, none⟩) N N) N (Bs.map rowV) := hc0.own h.outer fun g hg e => by
    injection hg with hg
    subst hg
    exact h.ne_o (hX0 _ e).1 rfl
  obtain ⟨cs, hgb⟩ : ∃ cs, Blk wy gb 26 cs := own_int ho1 rfl
  refine ⟨hc.below h.below (Nat.le_of_lt h.size) (fun j e => ?_), h.box_chg hc (fun j e => ?_), h.wl, by simpa using h.bl, other (by omega) h.wait, ?_, fun j d hj => ?_, ?_, ?_, other (by omega) h.out, h.lt⟩
  · rcases e with e | e
    · exact (hrow.lt e.symm).1
    · rw [e]; exact h.gbl.1
  · rcases e with e | e
    · exact .inr (.inr (hX0 j e).1)
    · exact .inr (.inl e)
  · have := (ho1.stored k (rowV b')).1
    rw [← List.map_set] at this
    exact this
  · rw [List.getElem?_set] at hj
    by_cases e : k = j
    · subst e
      rw [if_pos rfl] at hj
      have hkl : k < Bs.length := (List.getElem?_eq_some_iff.1 hb).1
      rw [if_pos hkl] at hj
      obtain rfl := Option.some.inj hj
      refine ⟨?_, named_new hrow.name (fun g hg => (hrow.lt hg).2) hs⟩
      exact ownsRow_setCell_other hr (a := ⟨gb, k, none⟩) (own_other hr hgb (by decide)) _
    · rw [if_neg e] at hj
      exact other (by omega) (h.inner j d hj)
  · exact ⟨hc.blk h.ready.box (fun e => by
      rcases e with e | e
      · exact h.ne_r (hX0 _ e).1 rfl
      · exact h.gb_r e.symm), hc.own h.ready.row fun g hg e => by
      have hi := own_int h.ready.row hg
      rw [own_blk] at hg
      have h1 := h.rname g hg
      rcases e with e | e
      · have h2 := (hX0 g e).2
        omega
      · exact h.ne_o hi e⟩
  · intro g hg
    rw [old g (h.row_r hg).2.2]
    exact h.rname g hg
end
end Go.Proofs.Ytoloaecbfglaeaa
