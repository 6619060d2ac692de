/- A configuration of a fabric of one tile, with no switch on: what lies where it was made. · Walk of the laws' own 'bare': a configuration of a fabric of one tile, with no switch on. · Walk of the laws' own 'live' of chapter 32. -/
import Derived.Test.YtoloaecbfglaeaaGreatJoined
import Derived.Test.YtoloaecbfglaeaaGreatFabN
import Derived.Deep.RegionHeld3
import Derived.BigRegion
import Derived.Laws.Rows

namespace Go.Proofs.YtoloaecbfglaeaaGreat
open Go.RowKit
set_option linter.unusedVariables false
set_option linter.unusedSimpArgs false

/-- three cells of an elder block -/
abbrev Three (b : Nat) (w : World) : Prop := w.cell? ⟨b, 0, none⟩ = some (.int .i64 1) ∧ w.cell? ⟨b, 1, none⟩ = some (.int .i64 1) ∧ w.cell? ⟨b, 2, none⟩ = some (.int .i64 1)
theorem Three.alloc {b : Nat} {w : World} (h : Three b w) (hb : b < w.heap.size) (o : Obj) : Three b (w.alloc o) :=
  ⟨(World.cell?_alloc_lt w o _ hb).trans h.1, (World.cell?_alloc_lt w o _ hb).trans h.2.1, (World.cell?_alloc_lt w o _ hb).trans h.2.2⟩
theorem Three.drew {b : Nat} {w : World} (h : Three b w) : Three b w.drew := h
theorem Three.store {b : Nat} {w : World} (h : Three b w) (g i : Nat) (v : Value) (hne : b ≠ g) : Three b (w.setCell ⟨g, i, none⟩ v) :=
  have k : ∀ j : Nat, (⟨g, i, none⟩ : Addr) ≠ ⟨b, j, none⟩ := fun j e => hne (by injection e with e1; exact e1.symm)
  ⟨(World.cell?_setCell_other w _ _ v (k 0)).trans h.1, (World.cell?_setCell_other w _ _ v (k 1)).trans h.2.1, (World.cell?_setCell_other w _ _ v (k 2)).trans h.2.2⟩
theorem lt_alloc {b : Nat} {w : World} (h : b < w.heap.size) (o : Obj) : b < (w.alloc o).heap.size := by simp; omega
theorem lt_drew {b : Nat} {w : World} (h : b < w.heap.size) : b < w.drew.heap.size := h
/-- one tile, no switch on -/
def bareC (g1 g2 g3 : Nat) : Cfg := { W := 1, H := 1, T := 1, AT := some ⟨g1, 0, none⟩, cT := 1, tiles := [(0, false, false)], AO := some ⟨g2, 0, none⟩, cO := 16, on := List.replicate 16 false, AI := some ⟨g3, 0, none⟩, cI := 1, ins := [0], AU := none, cU := 0, outs := [] }
theorem ok111 : okA 1 1 1 := by unfold okA; omega
theorem edges111 : (edgesL 1 1 1).length = 16 := by
  have h := rawL_count ok111
  have e : (edgesL 1 1 1).length = (rawL 1 1 1).length := by unfold edgesL; rw [sortP_length]
  rw [e]
  have : ((rawL 1 1 1).length : Int) = 16 := by rw [h]; decide
  omega


theorem bare_in {W : World} {g1 g2 g3 : Nat} (h1 : Blk W g1 61 #[.int .i64 0, .bool false, .bool false]) (h2 : Blk W g2 4 #[.bool false, .bool false, .bool false, .bool false, .bool false, .bool false, .bool false, .bool false, .bool false, .bool false, .bool false, .bool false, .bool false, .bool false, .bool false, .bool false]) (h3 : Blk W g3 3 #[.int .i64 0]) : (bareC g1 g2 g3).In W := by
  have add0 : ∀ g j : Nat, (⟨g, 0, none⟩ : Addr).add j = ⟨g, j, none⟩ := fun g j => by rw [Addr.add_lit]; simp
  refine ⟨⟨rfl, Nat.le_refl _, (fun h => by cases h), ?_⟩, ⟨rfl, Nat.le_refl _, (fun h => by cases h), ?_⟩, ⟨rfl, Nat.le_refl _, (fun h => by cases h), ?_⟩, Rd.empty⟩
  · intro j u hj
    exact ⟨_, rfl, h1.lt, by rw [show tiles3 (bareC g1 g2 g3).tiles = [.int .i64 0, .bool false, .bool false] from rfl] at hj; rw [add0, h1.cell j, List.getElem?_toArray]; exact hj⟩
  · intro j u hj
    exact ⟨_, rfl, h2.lt, by rw [show bools (bareC g1 g2 g3).on = [.bool false, .bool false, .bool false, .bool false, .bool false, .bool false, .bool false, .bool false, .bool false, .bool false, .bool false, .bool false, .bool false, .bool false, .bool false, .bool false] from rfl] at hj; rw [add0, h2.cell j, List.getElem?_toArray]; exact hj⟩
  · intro j u hj
    exact ⟨_, rfl, h3.lt, by rw [show ints (bareC g1 g2 g3).ins = [.int .i64 0] from rfl] at hj; rw [add0, h3.cell j, List.getElem?_toArray]; exact hj⟩
theorem three_new {W0 : World} {n : Nat} (hn : W0.heap.size = n) (cX cY cZ : Array Value) (tX tY tZ : TypeId) :
    Blk (((W0.alloc (.cells cX tX)).alloc (.cells cY tY)).alloc (.cells cZ tZ)) n tX cX ∧ Blk (((W0.alloc (.cells cX tX)).alloc (.cells cY tY)).alloc (.cells cZ tZ)) (n + 1) tY cY ∧ Blk (((W0.alloc (.cells cX tX)).alloc (.cells cY tY)).alloc (.cells cZ tZ)) (n + 1 + 1) tZ cZ := by
  subst hn
  refine ⟨((Blk.made _ _ _).alloc _).alloc _, ?_, ?_⟩
  · have := (Blk.made (W0.alloc (.cells cX tX)) tY cY).alloc (.cells cZ tZ)
    simpa using this
  · have := Blk.made ((W0.alloc (.cells cX tX)).alloc (.cells cY tY)) tZ cZ
    simpa using this
theorem bare_end012 (w W0 : World) (n : Nat) (hn : W0.heap.size = n) (hB : Below w.heap.size w W0) :
    ∃ g1 g2 g3, Ending.returned (.tuple #[.agg #[.int .i64 1, .int .i64 1, .int .i64 1, .slice (some ⟨n, 0, none⟩) 1 1, .slice (some ⟨n + 1, 0, none⟩) 16 16, .slice (some ⟨n + 1 + 1, 0, none⟩) 1 1, .slice none 0 0], .bool true]) = .returned (.tuple #[.agg #[.int .i64 1, .int .i64 1, .int .i64 1, .slice (some ⟨g1, 0, none⟩) 1 1, .slice (some ⟨g2, 0, none⟩) 16 16, .slice (some ⟨g3, 0, none⟩) 1 1, .slice none 0 0], .bool true]) ∧ (bareC g1 g2 g3).In ((((W0.alloc (.cells #[.int .i64 0, .bool false, .bool false] 61)).alloc (.cells #[.bool false, .bool false, .bool false, .bool false, .bool false, .bool false, .bool false, .bool false, .bool false, .bool false, .bool false, .bool false, .bool false, .bool false, .bool false, .bool false] 4)).alloc (.cells #[.int .i64 0] 3)).drew) ∧ Below w.heap.size w ((((W0.alloc (.cells #[.int .i64 0, .bool false, .bool false] 61)).alloc (.cells #[.bool false, .bool false, .bool false, .bool false, .bool false, .bool false, .bool false, .bool false, .bool false, .bool false, .bool false, .bool false, .bool false, .bool false, .bool false, .bool false] 4)).alloc (.cells #[.int .i64 0] 3)).drew) := by
  obtain ⟨x0, x1, x2⟩ := three_new hn (#[.int .i64 0, .bool false, .bool false]) (#[.bool false, .bool false, .bool false, .bool false, .bool false, .bool false, .bool false, .bool false, .bool false, .bool false, .bool false, .bool false, .bool false, .bool false, .bool false, .bool false]) (#[.int .i64 0]) 61 4 3 
  have hs := hB.size
  exact ⟨n, n + 1, n + 1 + 1, rfl, bare_in (W := ((((W0.alloc (.cells #[.int .i64 0, .bool false, .bool false] 61)).alloc (.cells #[.bool false, .bool false, .bool false, .bool false, .bool false, .bool false, .bool false, .bool false, .bool false, .bool false, .bool false, .bool false, .bool false, .bool false, .bool false, .bool false] 4)).alloc (.cells #[.int .i64 0] 3)).drew)) x0 x1 x2, (((hB.alloc hs _).alloc (by simp; omega) _).alloc (by simp; omega) _).drew⟩
theorem bare_end021 (w W0 : World) (n : Nat) (hn : W0.heap.size = n) (hB : Below w.heap.size w W0) :
    ∃ g1 g2 g3, Ending.returned (.tuple #[.agg #[.int .i64 1, .int .i64 1, .int .i64 1, .slice (some ⟨n, 0, none⟩) 1 1, .slice (some ⟨n + 1 + 1, 0, none⟩) 16 16, .slice (some ⟨n + 1, 0, none⟩) 1 1, .slice none 0 0], .bool true]) = .returned (.tuple #[.agg #[.int .i64 1, .int .i64 1, .int .i64 1, .slice (some ⟨g1, 0, none⟩) 1 1, .slice (some ⟨g2, 0, none⟩) 16 16, .slice (some ⟨g3, 0, none⟩) 1 1, .slice none 0 0], .bool true]) ∧ (bareC g1 g2 g3).In ((((W0.alloc (.cells #[.int .i64 0, .bool false, .bool false] 61)).alloc (.cells #[.int .i64 0] 3)).alloc (.cells #[.bool false, .bool false, .bool false, .bool false, .bool false, .bool false, .bool false, .bool false, .bool false, .bool false, .bool false, .bool false, .bool false, .bool false, .bool false, .bool false] 4)).drew) ∧ Below w.heap.size w ((((W0.alloc (.cells #[.int .i64 0, .bool false, .bool false] 61)).alloc (.cells #[.int .i64 0] 3)).alloc (.cells #[.bool false, .bool false, .bool false, .bool false, .bool false, .bool false, .bool false, .bool false, .bool false, .bool false, .bool false, .bool false, .bool false, .bool false, .bool false, .bool false] 4)).drew) := by
  obtain ⟨x0, x1, x2⟩ := three_new hn (#[.int .i64 0, .bool false, .bool false]) (#[.int .i64 0]) (#[.bool false, .bool false, .bool false, .bool false, .bool false, .bool false, .bool false, .bool false, .bool false, .bool false, .bool false, .bool false, .bool false, .bool false, .bool false, .bool false]) 61 3 4 
  have hs := hB.size
  exact ⟨n, n + 1 + 1, n + 1, rfl, bare_in (W := ((((W0.alloc (.cells #[.int .i64 0, .bool false, .bool false] 61)).alloc (.cells #[.int .i64 0] 3)).alloc (.cells #[.bool false, .bool false, .bool false, .bool false, .bool false, .bool false, .bool false, .bool false, .bool false, .bool false, .bool false, .bool false, .bool false, .bool false, .bool false, .bool false] 4)).drew)) x0 x2 x1, (((hB.alloc hs _).alloc (by simp; omega) _).alloc (by simp; omega) _).drew⟩
theorem bare_end102 (w W0 : World) (n : Nat) (hn : W0.heap.size = n) (hB : Below w.heap.size w W0) :
    ∃ g1 g2 g3, Ending.returned (.tuple #[.agg #[.int .i64 1, .int .i64 1, .int .i64 1, .slice (some ⟨n + 1, 0, none⟩) 1 1, .slice (some ⟨n, 0, none⟩) 16 16, .slice (some ⟨n + 1 + 1, 0, none⟩) 1 1, .slice none 0 0], .bool true]) = .returned (.tuple #[.agg #[.int .i64 1, .int .i64 1, .int .i64 1, .slice (some ⟨g1, 0, none⟩) 1 1, .slice (some ⟨g2, 0, none⟩) 16 16, .slice (some ⟨g3, 0, none⟩) 1 1, .slice none 0 0], .bool true]) ∧ (bareC g1 g2 g3).In ((((W0.alloc (.cells #[.bool false, .bool false, .bool false, .bool false, .bool false, .bool false, .bool false, .bool false, .bool false, .bool false, .bool false, .bool false, .bool false, .bool false, .bool false, .bool false] 4)).alloc (.cells #[.int .i64 0, .bool false, .bool false] 61)).alloc (.cells #[.int .i64 0] 3)).drew) ∧ Below w.heap.size w ((((W0.alloc (.cells #[.bool false, .bool false, .bool false, .bool false, .bool false, .bool false, .bool false, .bool false, .bool false, .bool false, .bool false, .bool false, .bool false, .bool false, .bool false, .bool false] 4)).alloc (.cells #[.int .i64 0, .bool false, .bool false] 61)).alloc (.cells #[.int .i64 0] 3)).drew) := by
  obtain ⟨x0, x1, x2⟩ := three_new hn (#[.bool false, .bool false, .bool false, .bool false, .bool false, .bool false, .bool false, .bool false, .bool false, .bool false, .bool false, .bool false, .bool false, .bool false, .bool false, .bool false]) (#[.int .i64 0, .bool false, .bool false]) (#[.int .i64 0]) 4 61 3 
  have hs := hB.size
  exact ⟨n + 1, n, n + 1 + 1, rfl, bare_in (W := ((((W0.alloc (.cells #[.bool false, .bool false, .bool false, .bool false, .bool false, .bool false, .bool false, .bool false, .bool false, .bool false, .bool false, .bool false, .bool false, .bool false, .bool false, .bool false] 4)).alloc (.cells #[.int .i64 0, .bool false, .bool false] 61)).alloc (.cells #[.int .i64 0] 3)).drew)) x1 x0 x2, (((hB.alloc hs _).alloc (by simp; omega) _).alloc (by simp; omega) _).drew⟩
theorem bare_end120 (w W0 : World) (n : Nat) (hn : W0.heap.size = n) (hB : Below w.heap.size w W0) :
    ∃ g1 g2 g3, Ending.returned (.tuple #[.agg #[.int .i64 1, .int .i64 1, .int .i64 1, .slice (some ⟨n + 1 + 1, 0, none⟩) 1 1, .slice (some ⟨n, 0, none⟩) 16 16, .slice (some ⟨n + 1, 0, none⟩) 1 1, .slice none 0 0], .bool true]) = .returned (.tuple #[.agg #[.int .i64 1, .int .i64 1, .int .i64 1, .slice (some ⟨g1, 0, none⟩) 1 1, .slice (some ⟨g2, 0, none⟩) 16 16, .slice (some ⟨g3, 0, none⟩) 1 1, .slice none 0 0], .bool true]) ∧ (bareC g1 g2 g3).In ((((W0.alloc (.cells #[.bool false, .bool false, .bool false, .bool false, .bool false, .bool false, .bool false, .bool false, .bool false, .bool false, .bool false, .bool false, .bool false, .bool false, .bool false, .bool false] 4)).alloc (.cells #[.int .i64 0] 3)).alloc (.cells #[.int .i64 0, .bool false, .bool false] 61)).drew) ∧ Below w.heap.size w ((((W0.alloc (.cells #[.bool false, .bool false, .bool false, .bool false, .bool false, .bool false, .bool false, .bool false, .bool false, .bool false, .bool false, .bool false, .bool false, .bool false, .bool false, .bool false] 4)).alloc (.cells #[.int .i64 0] 3)).alloc (.cells #[.int .i64 0, .bool false, .bool false] 61)).drew) := by
  obtain ⟨x0, x1, x2⟩ := three_new hn (#[.bool false, .bool false, .bool false, .bool false, .bool false, .bool false, .bool false, .bool false, .bool false, .bool false, .bool false, .bool false, .bool false, .bool false, .bool false, .bool false]) (#[.int .i64 0]) (#[.int .i64 0, .bool false, .bool false]) 4 3 61 
  have hs := hB.size
  exact ⟨n + 1 + 1, n, n + 1, rfl, bare_in (W := ((((W0.alloc (.cells #[.bool false, .bool false, .bool false, .bool false, .bool false, .bool false, .bool false, .bool false, .bool false, .bool false, .bool false, .bool false, .bool false, .bool false, .bool false, .bool false] 4)).alloc (.cells #[.int .i64 0] 3)).alloc (.cells #[.int .i64 0, .bool false, .bool false] 61)).drew)) x2 x0 x1, (((hB.alloc hs _).alloc (by simp; omega) _).alloc (by simp; omega) _).drew⟩
theorem bare_end201 (w W0 : World) (n : Nat) (hn : W0.heap.size = n) (hB : Below w.heap.size w W0) :
    ∃ g1 g2 g3, Ending.returned (.tuple #[.agg #[.int .i64 1, .int .i64 1, .int .i64 1, .slice (some ⟨n + 1, 0, none⟩) 1 1, .slice (some ⟨n + 1 + 1, 0, none⟩) 16 16, .slice (some ⟨n, 0, none⟩) 1 1, .slice none 0 0], .bool true]) = .returned (.tuple #[.agg #[.int .i64 1, .int .i64 1, .int .i64 1, .slice (some ⟨g1, 0, none⟩) 1 1, .slice (some ⟨g2, 0, none⟩) 16 16, .slice (some ⟨g3, 0, none⟩) 1 1, .slice none 0 0], .bool true]) ∧ (bareC g1 g2 g3).In ((((W0.alloc (.cells #[.int .i64 0] 3)).alloc (.cells #[.int .i64 0, .bool false, .bool false] 61)).alloc (.cells #[.bool false, .bool false, .bool false, .bool false, .bool false, .bool false, .bool false, .bool false, .bool false, .bool false, .bool false, .bool false, .bool false, .bool false, .bool false, .bool false] 4)).drew) ∧ Below w.heap.size w ((((W0.alloc (.cells #[.int .i64 0] 3)).alloc (.cells #[.int .i64 0, .bool false, .bool false] 61)).alloc (.cells #[.bool false, .bool false, .bool false, .bool false, .bool false, .bool false, .bool false, .bool false, .bool false, .bool false, .bool false, .bool false, .bool false, .bool false, .bool false, .bool false] 4)).drew) := by
  obtain ⟨x0, x1, x2⟩ := three_new hn (#[.int .i64 0]) (#[.int .i64 0, .bool false, .bool false]) (#[.bool false, .bool false, .bool false, .bool false, .bool false, .bool false, .bool false, .bool false, .bool false, .bool false, .bool false, .bool false, .bool false, .bool false, .bool false, .bool false]) 3 61 4 
  have hs := hB.size
  exact ⟨n + 1, n + 1 + 1, n, rfl, bare_in (W := ((((W0.alloc (.cells #[.int .i64 0] 3)).alloc (.cells #[.int .i64 0, .bool false, .bool false] 61)).alloc (.cells #[.bool false, .bool false, .bool false, .bool false, .bool false, .bool false, .bool false, .bool false, .bool false, .bool false, .bool false, .bool false, .bool false, .bool false, .bool false, .bool false] 4)).drew)) x1 x2 x0, (((hB.alloc hs _).alloc (by simp; omega) _).alloc (by simp; omega) _).drew⟩
theorem bare_end210 (w W0 : World) (n : Nat) (hn : W0.heap.size = n) (hB : Below w.heap.size w W0) :
    ∃ g1 g2 g3, Ending.returned (.tuple #[.agg #[.int .i64 1, .int .i64 1, .int .i64 1, .slice (some ⟨n + 1 + 1, 0, none⟩) 1 1, .slice (some ⟨n + 1, 0, none⟩) 16 16, .slice (some ⟨n, 0, none⟩) 1 1, .slice none 0 0], .bool true]) = .returned (.tuple #[.agg #[.int .i64 1, .int .i64 1, .int .i64 1, .slice (some ⟨g1, 0, none⟩) 1 1, .slice (some ⟨g2, 0, none⟩) 16 16, .slice (some ⟨g3, 0, none⟩) 1 1, .slice none 0 0], .bool true]) ∧ (bareC g1 g2 g3).In ((((W0.alloc (.cells #[.int .i64 0] 3)).alloc (.cells #[.bool false, .bool false, .bool false, .bool false, .bool false, .bool false, .bool false, .bool false, .bool false, .bool false, .bool false, .bool false, .bool false, .bool false, .bool false, .bool false] 4)).alloc (.cells #[.int .i64 0, .bool false, .bool false] 61)).drew) ∧ Below w.heap.size w ((((W0.alloc (.cells #[.int .i64 0] 3)).alloc (.cells #[.bool false, .bool false, .bool false, .bool false, .bool false, .bool false, .bool false, .bool false, .bool false, .bool false, .bool false, .bool false, .bool false, .bool false, .bool false, .bool false] 4)).alloc (.cells #[.int .i64 0, .bool false, .bool false] 61)).drew) := by
  obtain ⟨x0, x1, x2⟩ := three_new hn (#[.int .i64 0]) (#[.bool false, .bool false, .bool false, .bool false, .bool false, .bool false, .bool false, .bool false, .bool false, .bool false, .bool false, .bool false, .bool false, .bool false, .bool false, .bool false]) (#[.int .i64 0, .bool false, .bool false]) 3 4 61 
  have hs := hB.size
  exact ⟨n + 1 + 1, n + 1, n, rfl, bare_in (W := ((((W0.alloc (.cells #[.int .i64 0] 3)).alloc (.cells #[.bool false, .bool false, .bool false, .bool false, .bool false, .bool false, .bool false, .bool false, .bool false, .bool false, .bool false, .bool false, .bool false, .bool false, .bool false, .bool false] 4)).alloc (.cells #[.int .i64 0, .bool false, .bool false] 61)).drew)) x2 x1 x0, (((hB.alloc hs _).alloc (by simp; omega) _).alloc (by simp; omega) _).drew⟩


section
variable {P : Program}
theorem results_cell_tmp {fn : Func} {p q : Tmp} {ty : TypeId} (h : fn.results = #[.cell p ty, .tmp q]) (tmps : Array Value) (w : World) (g : Nat) (t : TypeId) (cs : Array Value) (d : TypeDesc)
    (hp : tmps.getD p undef = .pointer (some ⟨g, 0, none⟩)) (hg : Blk w g t cs)
    (hu : P.underlying ty = some d) (hd : (match d with | .struct _ | .array _ _ => true | _ => false) = true) (hi : (P.info? ty).map (·.size) = some cs.size) :
    (results fn tmps).run P w = .ok (.tuple #[.agg cs, tmps.getD q undef]) w := by
  have hp' : tmps[p]?.getD undef = .pointer (some ⟨g, 0, none⟩) := by simpa using hp
  simp [results, h, hp', asAddr, run_loadVar_row w g t ty cs (0, 0) d hg hu hd hi]
end

def BAREPOST (w : World) (e : Ending) (w' : World) : Prop := ∃ g1 g2 g3, e = .returned (.tuple #[.agg #[.int .i64 1, .int .i64 1, .int .i64 1, .slice (some ⟨g1, 0, none⟩) 1 1, .slice (some ⟨g2, 0, none⟩) 16 16, .slice (some ⟨g3, 0, none⟩) 1 1, .slice none 0 0], .bool true]) ∧ (bareC g1 g2 g3).In w' ∧ Below w.heap.size w w'
theorem bare_go012 (w w1 : World) (hB : Below w.heap.size w w1) (HB : Blk w1 w.heap.size 28 #[.int .i64 0, .int .i64 0, .int .i64 0, .slice none 0 0, .slice none 0 0, .slice none 0 0, .slice none 0 0]) (tmps : Array Value) (hp : tmps.getD 0 undef = .pointer (some ⟨w.heap.size, 0, none⟩)) (hq : tmps.getD 1 undef = .bool true) :
    bodyPost Tryz.prog Tryz.f22 (BAREPOST w) .ret { tmps := tmps, defers := [] } (((((((((((w1.setCell ⟨w.heap.size, 0, none⟩ (.int .i64 1)).setCell ⟨w.heap.size, 1, none⟩ (.int .i64 1)).setCell ⟨w.heap.size, 2, none⟩ (.int .i64 1)).setCell ⟨w.heap.size, 3, none⟩ (.slice (some ⟨w1.heap.size, 0, none⟩) 1 1)).setCell ⟨w.heap.size, 4, none⟩ (.slice (some ⟨w1.heap.size + 1, 0, none⟩) 16 16)).setCell ⟨w.heap.size, 5, none⟩ (.slice (some ⟨w1.heap.size + 1 + 1, 0, none⟩) 1 1)).setCell ⟨w.heap.size, 6, none⟩ (.slice none 0 0)).alloc (.cells #[.int .i64 0, .bool false, .bool false] 61)).alloc (.cells #[.bool false, .bool false, .bool false, .bool false, .bool false, .bool false, .bool false, .bool false, .bool false, .bool false, .bool false, .bool false, .bool false, .bool false, .bool false, .bool false] 4)).alloc (.cells #[.int .i64 0] 3)).drew) := by
  have hn : (((((((w1.setCell ⟨w.heap.size, 0, none⟩ (.int .i64 1)).setCell ⟨w.heap.size, 1, none⟩ (.int .i64 1)).setCell ⟨w.heap.size, 2, none⟩ (.int .i64 1)).setCell ⟨w.heap.size, 3, none⟩ (.slice (some ⟨w1.heap.size, 0, none⟩) 1 1)).setCell ⟨w.heap.size, 4, none⟩ (.slice (some ⟨w1.heap.size + 1, 0, none⟩) 16 16)).setCell ⟨w.heap.size, 5, none⟩ (.slice (some ⟨w1.heap.size + 1 + 1, 0, none⟩) 1 1)).setCell ⟨w.heap.size, 6, none⟩ (.slice none 0 0)).heap.size = w1.heap.size := by simp
  have h7 : Blk (((((((w1.setCell ⟨w.heap.size, 0, none⟩ (.int .i64 1)).setCell ⟨w.heap.size, 1, none⟩ (.int .i64 1)).setCell ⟨w.heap.size, 2, none⟩ (.int .i64 1)).setCell ⟨w.heap.size, 3, none⟩ (.slice (some ⟨w1.heap.size, 0, none⟩) 1 1)).setCell ⟨w.heap.size, 4, none⟩ (.slice (some ⟨w1.heap.size + 1, 0, none⟩) 16 16)).setCell ⟨w.heap.size, 5, none⟩ (.slice (some ⟨w1.heap.size + 1 + 1, 0, none⟩) 1 1)).setCell ⟨w.heap.size, 6, none⟩ (.slice none 0 0)) w.heap.size 28 #[.int .i64 1, .int .i64 1, .int .i64 1, .slice (some ⟨w1.heap.size, 0, none⟩) 1 1, .slice (some ⟨w1.heap.size + 1, 0, none⟩) 16 16, .slice (some ⟨w1.heap.size + 1 + 1, 0, none⟩) 1 1, .slice none 0 0] := (((((((HB.put 0 _).put 1 _).put 2 _).put 3 _).put 4 _).put 5 _).put 6 _)
  have hb7 : Below w.heap.size w (((((((w1.setCell ⟨w.heap.size, 0, none⟩ (.int .i64 1)).setCell ⟨w.heap.size, 1, none⟩ (.int .i64 1)).setCell ⟨w.heap.size, 2, none⟩ (.int .i64 1)).setCell ⟨w.heap.size, 3, none⟩ (.slice (some ⟨w1.heap.size, 0, none⟩) 1 1)).setCell ⟨w.heap.size, 4, none⟩ (.slice (some ⟨w1.heap.size + 1, 0, none⟩) 16 16)).setCell ⟨w.heap.size, 5, none⟩ (.slice (some ⟨w1.heap.size + 1 + 1, 0, none⟩) 1 1)).setCell ⟨w.heap.size, 6, none⟩ (.slice none 0 0)) := (((((((hB.setCell (p := ⟨w.heap.size, 0, none⟩) (Nat.le_refl _) _).setCell (p := ⟨w.heap.size, 1, none⟩) (Nat.le_refl _) _).setCell (p := ⟨w.heap.size, 2, none⟩) (Nat.le_refl _) _).setCell (p := ⟨w.heap.size, 3, none⟩) (Nat.le_refl _) _).setCell (p := ⟨w.heap.size, 4, none⟩) (Nat.le_refl _) _).setCell (p := ⟨w.heap.size, 5, none⟩) (Nat.le_refl _) _).setCell (p := ⟨w.heap.size, 6, none⟩) (Nat.le_refl _) _)
  generalize (((((((w1.setCell ⟨w.heap.size, 0, none⟩ (.int .i64 1)).setCell ⟨w.heap.size, 1, none⟩ (.int .i64 1)).setCell ⟨w.heap.size, 2, none⟩ (.int .i64 1)).setCell ⟨w.heap.size, 3, none⟩ (.slice (some ⟨w1.heap.size, 0, none⟩) 1 1)).setCell ⟨w.heap.size, 4, none⟩ (.slice (some ⟨w1.heap.size + 1, 0, none⟩) 16 16)).setCell ⟨w.heap.size, 5, none⟩ (.slice (some ⟨w1.heap.size + 1 + 1, 0, none⟩) 1 1)).setCell ⟨w.heap.size, 6, none⟩ (.slice none 0 0)) = W0 at hn h7 hb7
  have hr := results_cell_tmp (P := Tryz.prog) Tryz.results22 tmps ((((W0.alloc (.cells #[.int .i64 0, .bool false, .bool false] 61)).alloc (.cells #[.bool false, .bool false, .bool false, .bool false, .bool false, .bool false, .bool false, .bool false, .bool false, .bool false, .bool false, .bool false, .bool false, .bool false, .bool false, .bool false] 4)).alloc (.cells #[.int .i64 0] 3)).drew) w.heap.size 28 _ _ hp (((h7.alloc _).alloc _).alloc _) Tryz.underlying28 rfl (by kernel_rfl)
  rw [hq] at hr
  exact bodyPost_ret hr rfl (bare_end012 w W0 w1.heap.size hn hb7)
theorem bare_go021 (w w1 : World) (hB : Below w.heap.size w w1) (HB : Blk w1 w.heap.size 28 #[.int .i64 0, .int .i64 0, .int .i64 0, .slice none 0 0, .slice none 0 0, .slice none 0 0, .slice none 0 0]) (tmps : Array Value) (hp : tmps.getD 0 undef = .pointer (some ⟨w.heap.size, 0, none⟩)) (hq : tmps.getD 1 undef = .bool true) :
    bodyPost Tryz.prog Tryz.f22 (BAREPOST w) .ret { tmps := tmps, defers := [] } (((((((((((w1.setCell ⟨w.heap.size, 0, none⟩ (.int .i64 1)).setCell ⟨w.heap.size, 1, none⟩ (.int .i64 1)).setCell ⟨w.heap.size, 2, none⟩ (.int .i64 1)).setCell ⟨w.heap.size, 3, none⟩ (.slice (some ⟨w1.heap.size, 0, none⟩) 1 1)).setCell ⟨w.heap.size, 4, none⟩ (.slice (some ⟨w1.heap.size + 1 + 1, 0, none⟩) 16 16)).setCell ⟨w.heap.size, 5, none⟩ (.slice (some ⟨w1.heap.size + 1, 0, none⟩) 1 1)).setCell ⟨w.heap.size, 6, none⟩ (.slice none 0 0)).alloc (.cells #[.int .i64 0, .bool false, .bool false] 61)).alloc (.cells #[.int .i64 0] 3)).alloc (.cells #[.bool false, .bool false, .bool false, .bool false, .bool false, .bool false, .bool false, .bool false, .bool false, .bool false, .bool false, .bool false, .bool false, .bool false, .bool false, .bool false] 4)).drew) := by
  have hn : (((((((w1.setCell ⟨w.heap.size, 0, none⟩ (.int .i64 1)).setCell ⟨w.heap.size, 1, none⟩ (.int .i64 1)).setCell ⟨w.heap.size, 2, none⟩ (.int .i64 1)).setCell ⟨w.heap.size, 3, none⟩ (.slice (some ⟨w1.heap.size, 0, none⟩) 1 1)).setCell ⟨w.heap.size, 4, none⟩ (.slice (some ⟨w1.heap.size + 1 + 1, 0, none⟩) 16 16)).setCell ⟨w.heap.size, 5, none⟩ (.slice (some ⟨w1.heap.size + 1, 0, none⟩) 1 1)).setCell ⟨w.heap.size, 6, none⟩ (.slice none 0 0)).heap.size = w1.heap.size := by simp
  have h7 : Blk (((((((w1.setCell ⟨w.heap.size, 0, none⟩ (.int .i64 1)).setCell ⟨w.heap.size, 1, none⟩ (.int .i64 1)).setCell ⟨w.heap.size, 2, none⟩ (.int .i64 1)).setCell ⟨w.heap.size, 3, none⟩ (.slice (some ⟨w1.heap.size, 0, none⟩) 1 1)).setCell ⟨w.heap.size, 4, none⟩ (.slice (some ⟨w1.heap.size + 1 + 1, 0, none⟩) 16 16)).setCell ⟨w.heap.size, 5, none⟩ (.slice (some ⟨w1.heap.size + 1, 0, none⟩) 1 1)).setCell ⟨w.heap.size, 6, none⟩ (.slice none 0 0)) w.heap.size 28 #[.int .i64 1, .int .i64 1, .int .i64 1, .slice (some ⟨w1.heap.size, 0, none⟩) 1 1, .slice (some ⟨w1.heap.size + 1 + 1, 0, none⟩) 16 16, .slice (some ⟨w1.heap.size + 1, 0, none⟩) 1 1, .slice none 0 0] := (((((((HB.put 0 _).put 1 _).put 2 _).put 3 _).put 4 _).put 5 _).put 6 _)
  have hb7 : Below w.heap.size w (((((((w1.setCell ⟨w.heap.size, 0, none⟩ (.int .i64 1)).setCell ⟨w.heap.size, 1, none⟩ (.int .i64 1)).setCell ⟨w.heap.size, 2, none⟩ (.int .i64 1)).setCell ⟨w.heap.size, 3, none⟩ (.slice (some ⟨w1.heap.size, 0, none⟩) 1 1)).setCell ⟨w.heap.size, 4, none⟩ (.slice (some ⟨w1.heap.size + 1 + 1, 0, none⟩) 16 16)).setCell ⟨w.heap.size, 5, none⟩ (.slice (some ⟨w1.heap.size + 1, 0, none⟩) 1 1)).setCell ⟨w.heap.size, 6, none⟩ (.slice none 0 0)) := (((((((hB.setCell (p := ⟨w.heap.size, 0, none⟩) (Nat.le_refl _) _).setCell (p := ⟨w.heap.size, 1, none⟩) (Nat.le_refl _) _).setCell (p := ⟨w.heap.size, 2, none⟩) (Nat.le_refl _) _).setCell (p := ⟨w.heap.size, 3, none⟩) (Nat.le_refl _) _).setCell (p := ⟨w.heap.size, 4, none⟩) (Nat.le_refl _) _).setCell (p := ⟨w.heap.size, 5, none⟩) (Nat.le_refl _) _).setCell (p := ⟨w.heap.size, 6, none⟩) (Nat.le_refl _) _)
  generalize (((((((w1.setCell ⟨w.heap.size, 0, none⟩ (.int .i64 1)).setCell ⟨w.heap.size, 1, none⟩ (.int .i64 1)).setCell ⟨w.heap.size, 2, none⟩ (.int .i64 1)).setCell ⟨w.heap.size, 3, none⟩ (.slice (some ⟨w1.heap.size, 0, none⟩) 1 1)).setCell ⟨w.heap.size, 4, none⟩ (.slice (some ⟨w1.heap.size + 1 + 1, 0, none⟩) 16 16)).setCell ⟨w.heap.size, 5, none⟩ (.slice (some ⟨w1.heap.size + 1, 0, none⟩) 1 1)).setCell ⟨w.heap.size, 6, none⟩ (.slice none 0 0)) = W0 at hn h7 hb7
  have hr := results_cell_tmp (P := Tryz.prog) Tryz.results22 tmps ((((W0.alloc (.cells #[.int .i64 0, .bool false, .bool false] 61)).alloc (.cells #[.int .i64 0] 3)).alloc (.cells #[.bool false, .bool false, .bool false, .bool false, .bool false, .bool false, .bool false, .bool false, .bool false, .bool false, .bool false, .bool false, .bool false, .bool false, .bool false, .bool false] 4)).drew) w.heap.size 28 _ _ hp (((h7.alloc _).alloc _).alloc _) Tryz.underlying28 rfl (by kernel_rfl)
  rw [hq] at hr
  exact bodyPost_ret hr rfl (bare_end021 w W0 w1.heap.size hn hb7)
theorem bare_go102 (w w1 : World) (hB : Below w.heap.size w w1) (HB : Blk w1 w.heap.size 28 #[.int .i64 0, .int .i64 0, .int .i64 0, .slice none 0 0, .slice none 0 0, .slice none 0 0, .slice none 0 0]) (tmps : Array Value) (hp : tmps.getD 0 undef = .pointer (some ⟨w.heap.size, 0, none⟩)) (hq : tmps.getD 1 undef = .bool true) :
    bodyPost Tryz.prog Tryz.f22 (BAREPOST w) .ret { tmps := tmps, defers := [] } (((((((((((w1.setCell ⟨w.heap.size, 0, none⟩ (.int .i64 1)).setCell ⟨w.heap.size, 1, none⟩ (.int .i64 1)).setCell ⟨w.heap.size, 2, none⟩ (.int .i64 1)).setCell ⟨w.heap.size, 3, none⟩ (.slice (some ⟨w1.heap.size + 1, 0, none⟩) 1 1)).setCell ⟨w.heap.size, 4, none⟩ (.slice (some ⟨w1.heap.size, 0, none⟩) 16 16)).setCell ⟨w.heap.size, 5, none⟩ (.slice (some ⟨w1.heap.size + 1 + 1, 0, none⟩) 1 1)).setCell ⟨w.heap.size, 6, none⟩ (.slice none 0 0)).alloc (.cells #[.bool false, .bool false, .bool false, .bool false, .bool false, .bool false, .bool false, .bool false, .bool false, .bool false, .bool false, .bool false, .bool false, .bool false, .bool false, .bool false] 4)).alloc (.cells #[.int .i64 0, .bool false, .bool false] 61)).alloc (.cells #[.int .i64 0] 3)).drew) := by
  have hn : (((((((w1.setCell ⟨w.heap.size, 0, none⟩ (.int .i64 1)).setCell ⟨w.heap.size, 1, none⟩ (.int .i64 1)).setCell ⟨w.heap.size, 2, none⟩ (.int .i64 1)).setCell ⟨w.heap.size, 3, none⟩ (.slice (some ⟨w1.heap.size + 1, 0, none⟩) 1 1)).setCell ⟨w.heap.size, 4, none⟩ (.slice (some ⟨w1.heap.size, 0, none⟩) 16 16)).setCell ⟨w.heap.size, 5, none⟩ (.slice (some ⟨w1.heap.size + 1 + 1, 0, none⟩) 1 1)).setCell ⟨w.heap.size, 6, none⟩ (.slice none 0 0)).heap.size = w1.heap.size := by simp
  have h7 : Blk (((((((w1.setCell ⟨w.heap.size, 0, none⟩ (.int .i64 1)).setCell ⟨w.heap.size, 1, none⟩ (.int .i64 1)).setCell ⟨w.heap.size, 2, none⟩ (.int .i64 1)).setCell ⟨w.heap.size, 3, none⟩ (.slice (some ⟨w1.heap.size + 1, 0, none⟩) 1 1)).setCell ⟨w.heap.size, 4, none⟩ (.slice (some ⟨w1.heap.size, 0, none⟩) 16 16)).setCell ⟨w.heap.size, 5, none⟩ (.slice (some ⟨w1.heap.size + 1 + 1, 0, none⟩) 1 1)).setCell ⟨w.heap.size, 6, none⟩ (.slice none 0 0)) w.heap.size 28 #[.int .i64 1, .int .i64 1, .int .i64 1, .slice (some ⟨w1.heap.size + 1, 0, none⟩) 1 1, .slice (some ⟨w1.heap.size, 0, none⟩) 16 16, .slice (some ⟨w1.heap.size + 1 + 1, 0, none⟩) 1 1, .slice none 0 0] := (((((((HB.put 0 _).put 1 _).put 2 _).put 3 _).put 4 _).put 5 _).put 6 _)
  have hb7 : Below w.heap.size w (((((((w1.setCell ⟨w.heap.size, 0, none⟩ (.int .i64 1)).setCell ⟨w.heap.size, 1, none⟩ (.int .i64 1)).setCell ⟨w.heap.size, 2, none⟩ (.int .i64 1)).setCell ⟨w.heap.size, 3, none⟩ (.slice (some ⟨w1.heap.size + 1, 0, none⟩) 1 1)).setCell ⟨w.heap.size, 4, none⟩ (.slice (some ⟨w1.heap.size, 0, none⟩) 16 16)).setCell ⟨w.heap.size, 5, none⟩ (.slice (some ⟨w1.heap.size + 1 + 1, 0, none⟩) 1 1)).setCell ⟨w.heap.size, 6, none⟩ (.slice none 0 0)) := (((((((hB.setCell (p := ⟨w.heap.size, 0, none⟩) (Nat.le_refl _) _).setCell (p := ⟨w.heap.size, 1, none⟩) (Nat.le_refl _) _).setCell (p := ⟨w.heap.size, 2, none⟩) (Nat.le_refl _) _).setCell (p := ⟨w.heap.size, 3, none⟩) (Nat.le_refl _) _).setCell (p := ⟨w.heap.size, 4, none⟩) (Nat.le_refl _) _).setCell (p := ⟨w.heap.size, 5, none⟩) (Nat.le_refl _) _).setCell (p := ⟨w.heap.size, 6, none⟩) (Nat.le_refl _) _)
  generalize (((((((w1.setCell ⟨w.heap.size, 0, none⟩ (.int .i64 1)).setCell ⟨w.heap.size, 1, none⟩ (.int .i64 1)).setCell ⟨w.heap.size, 2, none⟩ (.int .i64 1)).setCell ⟨w.heap.size, 3, none⟩ (.slice (some ⟨w1.heap.size + 1, 0, none⟩) 1 1)).setCell ⟨w.heap.size, 4, none⟩ (.slice (some ⟨w1.heap.size, 0, none⟩) 16 16)).setCell ⟨w.heap.size, 5, none⟩ (.slice (some ⟨w1.heap.size + 1 + 1, 0, none⟩) 1 1)).setCell ⟨w.heap.size, 6, none⟩ (.slice none 0 0)) = W0 at hn h7 hb7
  have hr := results_cell_tmp (P := Tryz.prog) Tryz.results22 tmps ((((W0.alloc (.cells #[.bool false, .bool false, .bool false, .bool false, .bool false, .bool false, .bool false, .bool false, .bool false, .bool false, .bool false, .bool false, .bool false, .bool false, .bool false, .bool false] 4)).alloc (.cells #[.int .i64 0, .bool false, .bool false] 61)).alloc (.cells #[.int .i64 0] 3)).drew) w.heap.size 28 _ _ hp (((h7.alloc _).alloc _).alloc _) Tryz.underlying28 rfl (by kernel_rfl)
  rw [hq] at hr
  exact bodyPost_ret hr rfl (bare_end102 w W0 w1.heap.size hn hb7)
theorem bare_go120 (w w1 : World) (hB : Below w.heap.size w w1) (HB : Blk w1 w.heap.size 28 #[.int .i64 0, .int .i64 0, .int .i64 0, .slice none 0 0, .slice none 0 0, .slice none 0 0, .slice none 0 0]) (tmps : Array Value) (hp : tmps.getD 0 undef = .pointer (some ⟨w.heap.size, 0, none⟩)) (hq : tmps.getD 1 undef = .bool true) :
    bodyPost Tryz.prog Tryz.f22 (BAREPOST w) .ret { tmps := tmps, defers := [] } (((((((((((w1.setCell ⟨w.heap.size, 0, none⟩ (.int .i64 1)).setCell ⟨w.heap.size, 1, none⟩ (.int .i64 1)).setCell ⟨w.heap.size, 2, none⟩ (.int .i64 1)).setCell ⟨w.heap.size, 3, none⟩ (.slice (some ⟨w1.heap.size + 1 + 1, 0, none⟩) 1 1)).setCell ⟨w.heap.size, 4, none⟩ (.slice (some ⟨w1.heap.size, 0, none⟩) 16 16)).setCell ⟨w.heap.size, 5, none⟩ (.slice (some ⟨w1.heap.size + 1, 0, none⟩) 1 1)).setCell ⟨w.heap.size, 6, none⟩ (.slice none 0 0)).alloc (.cells #[.bool false, .bool false, .bool false, .bool false, .bool false, .bool false, .bool false, .bool false, .bool false, .bool false, .bool false, .bool false, .bool false, .bool false, .bool false, .bool false] 4)).alloc (.cells #[.int .i64 0] 3)).alloc (.cells #[.int .i64 0, .bool false, .bool false] 61)).drew) := by
  have hn : (((((((w1.setCell ⟨w.heap.size, 0, none⟩ (.int .i64 1)).setCell ⟨w.heap.size, 1, none⟩ (.int .i64 1)).setCell ⟨w.heap.size, 2, none⟩ (.int .i64 1)).setCell ⟨w.heap.size, 3, none⟩ (.slice (some ⟨w1.heap.size + 1 + 1, 0, none⟩) 1 1)).setCell ⟨w.heap.size, 4, none⟩ (.slice (some ⟨w1.heap.size, 0, none⟩) 16 16)).setCell ⟨w.heap.size, 5, none⟩ (.slice (some ⟨w1.heap.size + 1, 0, none⟩) 1 1)).setCell ⟨w.heap.size, 6, none⟩ (.slice none 0 0)).heap.size = w1.heap.size := by simp
  have h7 : Blk (((((((w1.setCell ⟨w.heap.size, 0, none⟩ (.int .i64 1)).setCell ⟨w.heap.size, 1, none⟩ (.int .i64 1)).setCell ⟨w.heap.size, 2, none⟩ (.int .i64 1)).setCell ⟨w.heap.size, 3, none⟩ (.slice (some ⟨w1.heap.size + 1 + 1, 0, none⟩) 1 1)).setCell ⟨w.heap.size, 4, none⟩ (.slice (some ⟨w1.heap.size, 0, none⟩) 16 16)).setCell ⟨w.heap.size, 5, none⟩ (.slice (some ⟨w1.heap.size + 1, 0, none⟩) 1 1)).setCell ⟨w.heap.size, 6, none⟩ (.slice none 0 0)) w.heap.size 28 #[.int .i64 1, .int .i64 1, .int .i64 1, .slice (some ⟨w1.heap.size + 1 + 1, 0, none⟩) 1 1, .slice (some ⟨w1.heap.size, 0, none⟩) 16 16, .slice (some ⟨w1.heap.size + 1, 0, none⟩) 1 1, .slice none 0 0] := (((((((HB.put 0 _).put 1 _).put 2 _).put 3 _).put 4 _).put 5 _).put 6 _)
  have hb7 : Below w.heap.size w (((((((w1.setCell ⟨w.heap.size, 0, none⟩ (.int .i64 1)).setCell ⟨w.heap.size, 1, none⟩ (.int .i64 1)).setCell ⟨w.heap.size, 2, none⟩ (.int .i64 1)).setCell ⟨w.heap.size, 3, none⟩ (.slice (some ⟨w1.heap.size + 1 + 1, 0, none⟩) 1 1)).setCell ⟨w.heap.size, 4, none⟩ (.slice (some ⟨w1.heap.size, 0, none⟩) 16 16)).setCell ⟨w.heap.size, 5, none⟩ (.slice (some ⟨w1.heap.size + 1, 0, none⟩) 1 1)).setCell ⟨w.heap.size, 6, none⟩ (.slice none 0 0)) := (((((((hB.setCell (p := ⟨w.heap.size, 0, none⟩) (Nat.le_refl _) _).setCell (p := ⟨w.heap.size, 1, none⟩) (Nat.le_refl _) _).setCell (p := ⟨w.heap.size, 2, none⟩) (Nat.le_refl _) _).setCell (p := ⟨w.heap.size, 3, none⟩) (Nat.le_refl _) _).setCell (p := ⟨w.heap.size, 4, none⟩) (Nat.le_refl _) _).setCell (p := ⟨w.heap.size, 5, none⟩) (Nat.le_refl _) _).setCell (p := ⟨w.heap.size, 6, none⟩) (Nat.le_refl _) _)
  generalize (((((((w1.setCell ⟨w.heap.size, 0, none⟩ (.int .i64 1)).setCell ⟨w.heap.size, 1, none⟩ (.int .i64 1)).setCell ⟨w.heap.size, 2, none⟩ (.int .i64 1)).setCell ⟨w.heap.size, 3, none⟩ (.slice (some ⟨w1.heap.size + 1 + 1, 0, none⟩) 1 1)).setCell ⟨w.heap.size, 4, none⟩ (.slice (some ⟨w1.heap.size, 0, none⟩) 16 16)).setCell ⟨w.heap.size, 5, none⟩ (.slice (some ⟨w1.heap.size + 1, 0, none⟩) 1 1)).setCell ⟨w.heap.size, 6, none⟩ (.slice none 0 0)) = W0 at hn h7 hb7
  have hr := results_cell_tmp (P := Tryz.prog) Tryz.results22 tmps ((((W0.alloc (.cells #[.bool false, .bool false, .bool false, .bool false, .bool false, .bool false, .bool false, .bool false, .bool false, .bool false, .bool false, .bool false, .bool false, .bool false, .bool false, .bool false] 4)).alloc (.cells #[.int .i64 0] 3)).alloc (.cells #[.int .i64 0, .bool false, .bool false] 61)).drew) w.heap.size 28 _ _ hp (((h7.alloc _).alloc _).alloc _) Tryz.underlying28 rfl (by kernel_rfl)
  rw [hq] at hr
  exact bodyPost_ret hr rfl (bare_end120 w W0 w1.heap.size hn hb7)
theorem bare_go201 (w w1 : World) (hB : Below w.heap.size w w1) (HB : Blk w1 w.heap.size 28 #[.int .i64 0, .int .i64 0, .int .i64 0, .slice none 0 0, .slice none 0 0, .slice none 0 0, .slice none 0 0]) (tmps : Array Value) (hp : tmps.getD 0 undef = .pointer (some ⟨w.heap.size, 0, none⟩)) (hq : tmps.getD 1 undef = .bool true) :
    bodyPost Tryz.prog Tryz.f22 (BAREPOST w) .ret { tmps := tmps, defers := [] } (((((((((((w1.setCell ⟨w.heap.size, 0, none⟩ (.int .i64 1)).setCell ⟨w.heap.size, 1, none⟩ (.int .i64 1)).setCell ⟨w.heap.size, 2, none⟩ (.int .i64 1)).setCell ⟨w.heap.size, 3, none⟩ (.slice (some ⟨w1.heap.size + 1, 0, none⟩) 1 1)).setCell ⟨w.heap.size, 4, none⟩ (.slice (some ⟨w1.heap.size + 1 + 1, 0, none⟩) 16 16)).setCell ⟨w.heap.size, 5, none⟩ (.slice (some ⟨w1.heap.size, 0, none⟩) 1 1)).setCell ⟨w.heap.size, 6, none⟩ (.slice none 0 0)).alloc (.cells #[.int .i64 0] 3)).alloc (.cells #[.int .i64 0, .bool false, .bool false] 61)).alloc (.cells #[.bool false, .bool false, .bool false, .bool false, .bool false, .bool false, .bool false, .bool false, .bool false, .bool false, .bool false, .bool false, .bool false, .bool false, .bool false, .bool false] 4)).drew) := by
  have hn : (((((((w1.setCell ⟨w.heap.size, 0, none⟩ (.int .i64 1)).setCell ⟨w.heap.size, 1, none⟩ (.int .i64 1)).setCell ⟨w.heap.size, 2, none⟩ (.int .i64 1)).setCell ⟨w.heap.size, 3, none⟩ (.slice (some ⟨w1.heap.size + 1, 0, none⟩) 1 1)).setCell ⟨w.heap.size, 4, none⟩ (.slice (some ⟨w1.heap.size + 1 + 1, 0, none⟩) 16 16)).setCell ⟨w.heap.size, 5, none⟩ (.slice (some ⟨w1.heap.size, 0, none⟩) 1 1)).setCell ⟨w.heap.size, 6, none⟩ (.slice none 0 0)).heap.size = w1.heap.size := by simp
  have h7 : Blk (((((((w1.setCell ⟨w.heap.size, 0, none⟩ (.int .i64 1)).setCell ⟨w.heap.size, 1, none⟩ (.int .i64 1)).setCell ⟨w.heap.size, 2, none⟩ (.int .i64 1)).setCell ⟨w.heap.size, 3, none⟩ (.slice (some ⟨w1.heap.size + 1, 0, none⟩) 1 1)).setCell ⟨w.heap.size, 4, none⟩ (.slice (some ⟨w1.heap.size + 1 + 1, 0, none⟩) 16 16)).setCell ⟨w.heap.size, 5, none⟩ (.slice (some ⟨w1.heap.size, 0, none⟩) 1 1)).setCell ⟨w.heap.size, 6, none⟩ (.slice none 0 0)) w.heap.size 28 #[.int .i64 1, .int .i64 1, .int .i64 1, .slice (some ⟨w1.heap.size + 1, 0, none⟩) 1 1, .slice (some ⟨w1.heap.size + 1 + 1, 0, none⟩) 16 16, .slice (some ⟨w1.heap.size, 0, none⟩) 1 1, .slice none 0 0] := (((((((HB.put 0 _).put 1 _).put 2 _).put 3 _).put 4 _).put 5 _).put 6 _)
  have hb7 : Below w.heap.size w (((((((w1.setCell ⟨w.heap.size, 0, none⟩ (.int .i64 1)).setCell ⟨w.heap.size, 1, none⟩ (.int .i64 1)).setCell ⟨w.heap.size, 2, none⟩ (.int .i64 1)).setCell ⟨w.heap.size, 3, none⟩ (.slice (some ⟨w1.heap.size + 1, 0, none⟩) 1 1)).setCell ⟨w.heap.size, 4, none⟩ (.slice (some ⟨w1.heap.size + 1 + 1, 0, none⟩) 16 16)).setCell ⟨w.heap.size, 5, none⟩ (.slice (some ⟨w1.heap.size, 0, none⟩) 1 1)).setCell ⟨w.heap.size, 6, none⟩ (.slice none 0 0)) := (((((((hB.setCell (p := ⟨w.heap.size, 0, none⟩) (Nat.le_refl _) _).setCell (p := ⟨w.heap.size, 1, none⟩) (Nat.le_refl _) _).setCell (p := ⟨w.heap.size, 2, none⟩) (Nat.le_refl _) _).setCell (p := ⟨w.heap.size, 3, none⟩) (Nat.le_refl _) _).setCell (p := ⟨w.heap.size, 4, none⟩) (Nat.le_refl _) _).setCell (p := ⟨w.heap.size, 5, none⟩) (Nat.le_refl _) _).setCell (p := ⟨w.heap.size, 6, none⟩) (Nat.le_refl _) _)
  generalize (((((((w1.setCell ⟨w.heap.size, 0, none⟩ (.int .i64 1)).setCell ⟨w.heap.size, 1, none⟩ (.int .i64 1)).setCell ⟨w.heap.size, 2, none⟩ (.int .i64 1)).setCell ⟨w.heap.size, 3, none⟩ (.slice (some ⟨w1.heap.size + 1, 0, none⟩) 1 1)).setCell ⟨w.heap.size, 4, none⟩ (.slice (some ⟨w1.heap.size + 1 + 1, 0, none⟩) 16 16)).setCell ⟨w.heap.size, 5, none⟩ (.slice (some ⟨w1.heap.size, 0, none⟩) 1 1)).setCell ⟨w.heap.size, 6, none⟩ (.slice none 0 0)) = W0 at hn h7 hb7
  have hr := results_cell_tmp (P := Tryz.prog) Tryz.results22 tmps ((((W0.alloc (.cells #[.int .i64 0] 3)).alloc (.cells #[.int .i64 0, .bool false, .bool false] 61)).alloc (.cells #[.bool false, .bool false, .bool false, .bool false, .bool false, .bool false, .bool false, .bool false, .bool false, .bool false, .bool false, .bool false, .bool false, .bool false, .bool false, .bool false] 4)).drew) w.heap.size 28 _ _ hp (((h7.alloc _).alloc _).alloc _) Tryz.underlying28 rfl (by kernel_rfl)
  rw [hq] at hr
  exact bodyPost_ret hr rfl (bare_end201 w W0 w1.heap.size hn hb7)
theorem bare_go210 (w w1 : World) (hB : Below w.heap.size w w1) (HB : Blk w1 w.heap.size 28 #[.int .i64 0, .int .i64 0, .int .i64 0, .slice none 0 0, .slice none 0 0, .slice none 0 0, .slice none 0 0]) (tmps : Array Value) (hp : tmps.getD 0 undef = .pointer (some ⟨w.heap.size, 0, none⟩)) (hq : tmps.getD 1 undef = .bool true) :
    bodyPost Tryz.prog Tryz.f22 (BAREPOST w) .ret { tmps := tmps, defers := [] } (((((((((((w1.setCell ⟨w.heap.size, 0, none⟩ (.int .i64 1)).setCell ⟨w.heap.size, 1, none⟩ (.int .i64 1)).setCell ⟨w.heap.size, 2, none⟩ (.int .i64 1)).setCell ⟨w.heap.size, 3, none⟩ (.slice (some ⟨w1.heap.size + 1 + 1, 0, none⟩) 1 1)).setCell ⟨w.heap.size, 4, none⟩ (.slice (some ⟨w1.heap.size + 1, 0, none⟩) 16 16)).setCell ⟨w.heap.size, 5, none⟩ (.slice (some ⟨w1.heap.size, 0, none⟩) 1 1)).setCell ⟨w.heap.size, 6, none⟩ (.slice none 0 0)).alloc (.cells #[.int .i64 0] 3)).alloc (.cells #[.bool false, .bool false, .bool false, .bool false, .bool false, .bool false, .bool false, .bool false, .bool false, .bool false, .bool false, .bool false, .bool false, .bool false, .bool false, .bool false] 4)).alloc (.cells #[.int .i64 0, .bool false, .bool false] 61)).drew) := by
  have hn : (((((((w1.setCell ⟨w.heap.size, 0, none⟩ (.int .i64 1)).setCell ⟨w.heap.size, 1, none⟩ (.int .i64 1)).setCell ⟨w.heap.size, 2, none⟩ (.int .i64 1)).setCell ⟨w.heap.size, 3, none⟩ (.slice (some ⟨w1.heap.size + 1 + 1, 0, none⟩) 1 1)).setCell ⟨w.heap.size, 4, none⟩ (.slice (some ⟨w1.heap.size + 1, 0, none⟩) 16 16)).setCell ⟨w.heap.size, 5, none⟩ (.slice (some ⟨w1.heap.size, 0, none⟩) 1 1)).setCell ⟨w.heap.size, 6, none⟩ (.slice none 0 0)).heap.size = w1.heap.size := by simp
  have h7 : Blk (((((((w1.setCell ⟨w.heap.size, 0, none⟩ (.int .i64 1)).setCell ⟨w.heap.size, 1, none⟩ (.int .i64 1)).setCell ⟨w.heap.size, 2, none⟩ (.int .i64 1)).setCell ⟨w.heap.size, 3, none⟩ (.slice (some ⟨w1.heap.size + 1 + 1, 0, none⟩) 1 1)).setCell ⟨w.heap.size, 4, none⟩ (.slice (some ⟨w1.heap.size + 1, 0, none⟩) 16 16)).setCell ⟨w.heap.size, 5, none⟩ (.slice (some ⟨w1.heap.size, 0, none⟩) 1 1)).setCell ⟨w.heap.size, 6, none⟩ (.slice none 0 0)) w.heap.size 28 #[.int .i64 1, .int .i64 1, .int .i64 1, .slice (some ⟨w1.heap.size + 1 + 1, 0, none⟩) 1 1, .slice (some ⟨w1.heap.size + 1, 0, none⟩) 16 16, .slice (some ⟨w1.heap.size, 0, none⟩) 1 1, .slice none 0 0] := (((((((HB.put 0 _).put 1 _).put 2 _).put 3 _).put 4 _).put 5 _).put 6 _)
  have hb7 : Below w.heap.size w (((((((w1.setCell ⟨w.heap.size, 0, none⟩ (.int .i64 1)).setCell ⟨w.heap.size, 1, none⟩ (.int .i64 1)).setCell ⟨w.heap.size, 2, none⟩ (.int .i64 1)).setCell ⟨w.heap.size, 3, none⟩ (.slice (some ⟨w1.heap.size + 1 + 1, 0, none⟩) 1 1)).setCell ⟨w.heap.size, 4, none⟩ (.slice (some ⟨w1.heap.size + 1, 0, none⟩) 16 16)).setCell ⟨w.heap.size, 5, none⟩ (.slice (some ⟨w1.heap.size, 0, none⟩) 1 1)).setCell ⟨w.heap.size, 6, none⟩ (.slice none 0 0)) := (((((((hB.setCell (p := ⟨w.heap.size, 0, none⟩) (Nat.le_refl _) _).setCell (p := ⟨w.heap.size, 1, none⟩) (Nat.le_refl _) _).setCell (p := ⟨w.heap.size, 2, none⟩) (Nat.le_refl _) _).setCell (p := ⟨w.heap.size, 3, none⟩) (Nat.le_refl _) _).setCell (p := ⟨w.heap.size, 4, none⟩) (Nat.le_refl _) _).setCell (p := ⟨w.heap.size, 5, none⟩) (Nat.le_refl _) _).setCell (p := ⟨w.heap.size, 6, none⟩) (Nat.le_refl _) _)
  generalize (((((((w1.setCell ⟨w.heap.size, 0, none⟩ (.int .i64 1)).setCell ⟨w.heap.size, 1, none⟩ (.int .i64 1)).setCell ⟨w.heap.size, 2, none⟩ (.int .i64 1)).setCell ⟨w.heap.size, 3, none⟩ (.slice (some ⟨w1.heap.size + 1 + 1, 0, none⟩) 1 1)).setCell ⟨w.heap.size, 4, none⟩ (.slice (some ⟨w1.heap.size + 1, 0, none⟩) 16 16)).setCell ⟨w.heap.size, 5, none⟩ (.slice (some ⟨w1.heap.size, 0, none⟩) 1 1)).setCell ⟨w.heap.size, 6, none⟩ (.slice none 0 0)) = W0 at hn h7 hb7
  have hr := results_cell_tmp (P := Tryz.prog) Tryz.results22 tmps ((((W0.alloc (.cells #[.int .i64 0] 3)).alloc (.cells #[.bool false, .bool false, .bool false, .bool false, .bool false, .bool false, .bool false, .bool false, .bool false, .bool false, .bool false, .bool false, .bool false, .bool false, .bool false, .bool false] 4)).alloc (.cells #[.int .i64 0, .bool false, .bool false] 61)).drew) w.heap.size 28 _ _ hp (((h7.alloc _).alloc _).alloc _) Tryz.underlying28 rfl (by kernel_rfl)
  rw [hq] at hr
  exact bodyPost_ret hr rfl (bare_end210 w W0 w1.heap.size hn hb7)
end Go.Proofs.YtoloaecbfglaeaaGreat

namespace Go.Proofs.YtoloaecbfglaeaaGreat
open Go.RowKit
set_option linter.unusedVariables false
set_option linter.unusedSimpArgs false

set_option maxRecDepth 100000 in
set_option maxHeartbeats 40000000 in
theorem bare_any (w : World) :
    Calls Tryz.prog 22 #[] w (BAREPOST w) := by
  have hmk1 : ∀ w : World, (Instr.makeSlice 24 (.int .i64 1) (.int .i64 1)).run Tryz.prog w = .ok (.slice (some ⟨w.heap.size, 0, none⟩) 1 1) (w.alloc (.cells #[.int .i64 0, .bool false, .bool false] 61)) := fun _ => by kernel_rfl
  have hmk2 : ∀ w : World, (Instr.makeSlice 25 (.int .i64 16) (.int .i64 16)).run Tryz.prog w = .ok (.slice (some ⟨w.heap.size, 0, none⟩) 16 16) (w.alloc (.cells #[.bool false, .bool false, .bool false, .bool false, .bool false, .bool false, .bool false, .bool false, .bool false, .bool false, .bool false, .bool false, .bool false, .bool false, .bool false, .bool false] 4)) := fun _ => by kernel_rfl
  go_enter Tryz.func22, Tryz.ntmps22
  go_wp2_with fail
  refine (edges_yes _ _ _ _ ok111).mono ?_
  rintro e w1 ⟨v, rfl, hb1, hown⟩
  rw [edges111] at hown
  obtain ⟨AA, c, hv⟩ := own_slice hown
  subst hv
  clear hown
  have b0 : w1.cell? ⟨w.heap.size + 1, 0, none⟩ = some (.int .i64 1) := (hb1.cell (p := ⟨w.heap.size + 1, 0, none⟩) (by simp)).trans (by go_simp)
  have b1 : w1.cell? ⟨w.heap.size + 1, 1, none⟩ = some (.int .i64 1) := (hb1.cell (p := ⟨w.heap.size + 1, 1, none⟩) (by simp)).trans (by go_simp)
  have b2 : w1.cell? ⟨w.heap.size + 1, 2, none⟩ = some (.int .i64 1) := (hb1.cell (p := ⟨w.heap.size + 1, 2, none⟩) (by simp)).trans (by go_simp)
  have hB1 : Below w.heap.size w w1 := ((((Below.refl w.heap.size w).alloc (Nat.le_refl _) _).alloc (by simp) _).trans (hb1.mono (by simp; omega)))
  have HB : Blk w1 w.heap.size 28 #[.int .i64 0, .int .i64 0, .int .i64 0, .slice none 0 0, .slice none 0 0, .slice none 0 0, .slice none 0 0] := ((Blk.made w 28 _).alloc _).below hb1 (by simp; omega)
  have hs1 : w.heap.size + 1 < w1.heap.size := by have := hb1.size; simp at this; omega
  have HT : Three (w.heap.size + 1) w1 := ⟨b0, b1, b2⟩
  have hs0 : w.heap.size < w1.heap.size := by omega
  have hs0b : w.heap.size < w1.heap.size + 1 := by omega
  have hs0c : w.heap.size < w1.heap.size + 1 + 1 := by omega
  have hs0d : w.heap.size < w1.heap.size + 2 := by omega
  have r0 : w1.cell? ⟨w.heap.size, 0, none⟩ = some (.int .i64 0) := (hb1.cell (p := ⟨w.heap.size, 0, none⟩) (by first | (simp; done) | (simp; omega))).trans (by go_simp)
  have f0 : w1.frozen? ⟨w.heap.size, 0, none⟩ = false := (hb1.frozen (p := ⟨w.heap.size, 0, none⟩) (by first | (simp; done) | (simp; omega))).trans (by go_simp)
  have r1 : w1.cell? ⟨w.heap.size, 1, none⟩ = some (.int .i64 0) := (hb1.cell (p := ⟨w.heap.size, 1, none⟩) (by first | (simp; done) | (simp; omega))).trans (by go_simp)
  have f1 : w1.frozen? ⟨w.heap.size, 1, none⟩ = false := (hb1.frozen (p := ⟨w.heap.size, 1, none⟩) (by first | (simp; done) | (simp; omega))).trans (by go_simp)
  have r2 : w1.cell? ⟨w.heap.size, 2, none⟩ = some (.int .i64 0) := (hb1.cell (p := ⟨w.heap.size, 2, none⟩) (by first | (simp; done) | (simp; omega))).trans (by go_simp)
  have f2 : w1.frozen? ⟨w.heap.size, 2, none⟩ = false := (hb1.frozen (p := ⟨w.heap.size, 2, none⟩) (by first | (simp; done) | (simp; omega))).trans (by go_simp)
  have r3 : w1.cell? ⟨w.heap.size, 3, none⟩ = some (.slice none 0 0) := (hb1.cell (p := ⟨w.heap.size, 3, none⟩) (by first | (simp; done) | (simp; omega))).trans (by go_simp)
  have f3 : w1.frozen? ⟨w.heap.size, 3, none⟩ = false := (hb1.frozen (p := ⟨w.heap.size, 3, none⟩) (by first | (simp; done) | (simp; omega))).trans (by go_simp)
  have r4 : w1.cell? ⟨w.heap.size, 4, none⟩ = some (.slice none 0 0) := (hb1.cell (p := ⟨w.heap.size, 4, none⟩) (by first | (simp; done) | (simp; omega))).trans (by go_simp)
  have f4 : w1.frozen? ⟨w.heap.size, 4, none⟩ = false := (hb1.frozen (p := ⟨w.heap.size, 4, none⟩) (by first | (simp; done) | (simp; omega))).trans (by go_simp)
  have r5 : w1.cell? ⟨w.heap.size, 5, none⟩ = some (.slice none 0 0) := (hb1.cell (p := ⟨w.heap.size, 5, none⟩) (by first | (simp; done) | (simp; omega))).trans (by go_simp)
  have f5 : w1.frozen? ⟨w.heap.size, 5, none⟩ = false := (hb1.frozen (p := ⟨w.heap.size, 5, none⟩) (by first | (simp; done) | (simp; omega))).trans (by go_simp)
  have r6 : w1.cell? ⟨w.heap.size, 6, none⟩ = some (.slice none 0 0) := (hb1.cell (p := ⟨w.heap.size, 6, none⟩) (by first | (simp; done) | (simp; omega))).trans (by go_simp)
  have f6 : w1.frozen? ⟨w.heap.size, 6, none⟩ = false := (hb1.frozen (p := ⟨w.heap.size, 6, none⟩) (by first | (simp; done) | (simp; omega))).trans (by go_simp)
  go_wp2_with fail
  go_region_held3 (fun w' => w'.cell? ⟨w.heap.size + 1, 0, none⟩ = some (.int .i64 1) ∧ w'.cell? ⟨w.heap.size + 1, 1, none⟩ = some (.int .i64 1) ∧ w'.cell? ⟨w.heap.size + 1, 2, none⟩ = some (.int .i64 1)) ((repeat' (first | (with_reducible exact HT) | (with_reducible refine Three.store ?_ _ _ _ (by omega)) | (with_reducible refine Three.drew ?_) | (with_reducible refine Three.alloc ?_ (by first | omega | (simp only [World.alloc_size, World.drew_size]; omega) | (simp; omega)) _)))) (fail)
  all_goals go_wp2_with fail
  all_goals clear hmk1 hmk2 HT hs0b hs0c hs0d
  · exact bare_go012 w w1 hB1 HB _ rfl rfl
  · exact bare_go021 w w1 hB1 HB _ rfl rfl
  · exact bare_go102 w w1 hB1 HB _ rfl rfl
  · exact bare_go120 w w1 hB1 HB _ rfl rfl
  · exact bare_go201 w w1 hB1 HB _ rfl rfl
  · exact bare_go210 w w1 hB1 HB _ rfl rfl
end Go.Proofs.YtoloaecbfglaeaaGreat

namespace Go.Proofs.YtoloaecbfglaeaaGreat
open Go.RowKit
set_option linter.unusedVariables false
set_option linter.unusedSimpArgs false

theorem bare_ok (g1 g2 g3 : Nat) : (bareC g1 g2 g3).ok :=
  ⟨ok111, ⟨fun p hp => by simp [bareC] at hp; subst hp; simp [bareC], by simp [bareC]⟩, by simp [bareC], by simp only [bareC]; rw [edges111]; simp, by simp [bareC, oddB]⟩
theorem bare_few (g1 g2 g3 : Nat) : (bareC g1 g2 g3).few := by unfold Cfg.few; simp [bareC]
theorem joinAll_none (E : List (Int × Int)) (on : List Bool) (h : ∀ j, on.getD j false = false) : ∀ k, joinAll E on k = fun i => i
  | 0 => rfl
  | k + 1 => by simp only [joinAll]; rw [h k]; simpa using joinAll_none E on h k
theorem bare_joined (g1 g2 g3 : Nat) : joinedL (bareC g1 g2 g3) = List.range 13 := by
  have h : joinedR (bareC g1 g2 g3) = fun i => i := joinAll_none _ _ (fun j => by
    simp only [bareC, List.getD_eq_getElem?_getD, List.getElem?_replicate]; split <;> simp) _
  unfold joinedL
  rw [h]
  have : (nodesI (bareC g1 g2 g3).W (bareC g1 g2 g3).H (bareC g1 g2 g3).T).toNat = 13 := by simp only [bareC]; decide
  rw [this]
  simp
theorem joined_bare (g1 g2 g3 : Nat) (w : World) (hin : (bareC g1 g2 g3).In w) :
    Calls Tryz.prog 23 #[.agg #[.int .i64 1, .int .i64 1, .int .i64 1, .slice (some ⟨g1, 0, none⟩) 1 1, .slice (some ⟨g2, 0, none⟩) 16 16, .slice (some ⟨g3, 0, none⟩) 1 1, .slice none 0 0]] w fun e w' =>
      ∃ g, e = .returned (.tuple #[.slice (some ⟨g, 0, none⟩) 13 13, .int .i64 0]) ∧ Below w.heap.size w w' ∧ w'.ownsRow g 3 1 (.slice (some ⟨g, 0, none⟩) 13 13) 13 (nats (List.range 13)) := by
  refine Calls.mono (joined_yes (bareC g1 g2 g3) w hin (bare_few g1 g2 g3) (bare_ok g1 g2 g3)) ?_
  rintro e w' ⟨g, N, rfl, hN, hg, hb, hown⟩
  have hn : N = 13 := by
    have : nodesI (bareC g1 g2 g3).W (bareC g1 g2 g3).H (bareC g1 g2 g3).T = 13 := by simp only [bareC]; decide
    rw [this] at hN; omega
  subst hn
  rw [bare_joined] at hown
  exact ⟨g, rfl, hb, hown⟩

set_option maxRecDepth 100000 in
set_option maxHeartbeats 2000000 in
theorem live32_any (w : World) : Calls Tryz.prog 7 #[] w fun e w' => e = .returned (.bool true) ∧ Below w.heap.size w w' := by
  go_enter Tryz.func7, Tryz.ntmps7
  go_wp2_with fail
  refine (bare_any _).mono ?_
  rintro e w1 ⟨g1, g2, g3, rfl, hin, hb1⟩
  have HI := Lib.hid hin
  have HB1 := Lib.hid hb1
  clear hin hb1
  go_wp2_with fail
  refine (joined_bare g1 g2 g3 _ (HI.out.later (below_new w1 _))).mono ?_
  rintro e w2 ⟨g, rfl, hb2, hown⟩
  have HB2 := Lib.hid (below_then (below_then HB1.out (below_new w1 _)) hb2)
  have HO := Lib.hid hown
  clear hb2 hown
  go_wp2_with fail
  go_loop [29] (fun i => ∃ k : Nat, k ≤ 13 ∧ i = .int .i64 (k : Int)) (fun i => 13 - (intOf i).toNat)
  case atStart => exact ⟨0, by omega, rfl⟩
  case round =>
    obtain ⟨k, hk, rfl⟩ := hrel
    by_cases hlt : k < 13
    · have c0 : w2.cell? ⟨g, k, none⟩ = some (.int .i64 (k : Int)) := by
        rw [HO.out.cellAt k (by omega), nats_get _ (by simpa using hlt)]
        simp [List.getD_eq_getElem?_getD, List.getElem?_range hlt]
      go_wp2_with fail
      go_round
      case rel => exact ⟨k + 1, by omega, by go_num⟩
      case measure => simp [intOf]; omega
    · go_wp2_with fail
      go_ret
      exact ⟨rfl, HB2.out⟩
end Go.Proofs.YtoloaecbfglaeaaGreat
