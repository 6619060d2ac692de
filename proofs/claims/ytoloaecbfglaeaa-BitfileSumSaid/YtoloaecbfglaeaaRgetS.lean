/- What the document's Get holds while it reads. -/
import Derived.Test.YtoloaecbfglaeaaGetL
namespace Go.Proofs.Ytoloaecbfglaeaa
open Go.RowKit Go.Shelf
set_option linter.unusedVariables false
set_option linter.unusedSimpArgs false

def RGET (A : Option Addr) (n c : Nat) (w : World) (R : Ending → World → Prop) : Prop := Calls Try.prog 20 #[.slice A n c] w R
/-- the answer's box, nothing's box, the fabric's box -/
structure RB (w0 wx : World) (W H T : Int) : Prop where
  below : Below w0.heap.size w0 wx
  res : Blk wx w0.heap.size 28 zero7
  non : Blk wx (w0.heap.size + 1) 28 zero7
  arch : Blk wx (w0.heap.size + 2) 23 #[.int .i64 W, .int .i64 H, .int .i64 T]
/-- and the configuration's box, and its rows -/
structure RG (w0 wx : World) (gc : Nat) (W H T : Int) (C : Cfg) : Prop where
  gw : GW w0 wx gc C
  non : Blk wx (w0.heap.size + 1) 28 zero7
  arch : Blk wx (w0.heap.size + 2) 23 #[.int .i64 W, .int .i64 H, .int .i64 T]
  hgc : w0.heap.size + 2 < gc
section
variable {w0 wx wy w' : World} {gc : Nat} {W H T : Int} {C : Cfg}
theorem RB.keep (h : RB w0 wx W H T) (hb : Below wx.heap.size wx wy) : RB w0 wy W H T := ⟨below_then h.below hb, h.res.keep hb, h.non.keep hb, h.arch.keep hb⟩
theorem RG.keep (h : RG w0 wx gc W H T C) (hb : Below wx.heap.size wx wy) : RG w0 wy gc W H T C := ⟨h.gw.keep hb, h.non.keep hb, h.arch.keep hb, h.hgc⟩
theorem RG.drewN (h : RG w0 wx gc W H T C) (k : Nat) : RG w0 (wx.drewN k) gc W H T C := h.keep (below_drewN (Below.refl _ _) k)
theorem RB.cells (h : RB w0 wx W H T) : wx.cell? ⟨w0.heap.size + 2, 0, none⟩ = some (.int .i64 W) ∧ wx.cell? ⟨w0.heap.size + 2, 1, none⟩ = some (.int .i64 H) ∧ wx.cell? ⟨w0.heap.size + 2, 2, none⟩ = some (.int .i64 T) := ⟨h.arch.cell 0, h.arch.cell 1, h.arch.cell 2⟩
theorem RG.rb (h : RG w0 wx gc W H T C) : RB w0 wx W H T := ⟨h.gw.below, h.gw.res, h.non, h.arch⟩
theorem RG.start (h : RB w0 wx W H T) : RG w0 (wx.alloc (.cells #[.int .i64 W, .int .i64 H, .int .i64 T, .slice none 0 0, .slice none 0 0, .slice none 0 0, .slice none 0 0] 28)) wx.heap.size W H T (cfg0 W H T) := by
  have h2 := h.arch.lt
  exact ⟨⟨below_then h.below (below_new _ _), h.res.alloc _, Blk.made wx 28 (cfg0 W H T).cells, by omega, World.ownsRow_nil _ _ _ _, World.ownsRow_nil _ _ _ _, World.ownsRow_nil _ _ _ _, World.ownsRow_nil _ _ _ _, .inl rfl⟩, h.non.alloc _, h.arch.alloc _, by omega⟩
theorem RG.two (h : RG w0 wx gc W H T C) {row : Option Nat} (hg : wx.grownBy w' row) (hr : ∀ g, row = some g → gc < g) (i : Nat) (u : Value) :
    Blk (w'.setCell ⟨gc, i, none⟩ u) (w0.heap.size + 1) 28 zero7 ∧ Blk (w'.setCell ⟨gc, i, none⟩ u) (w0.heap.size + 2) 23 #[.int .i64 W, .int .i64 H, .int .i64 T] := by
  have := h.hgc
  exact ⟨(h.non.grown hg (fun e => by have := hr _ e.symm; omega)).apart (p := ⟨gc, i, none⟩) (by simp; omega) u, (h.arch.grown hg (fun e => by have := hr _ e.symm; omega)).apart (p := ⟨gc, i, none⟩) (by simp; omega) u⟩
theorem RG.setT (h : RG w0 wx gc W H T C) {A : Option Addr} {d n : Nat} {t : TL} (hg : wx.grownBy w' C.AT'.ownBlock) (hn : n = C.tiles.length + 1) (ho : w'.ownsRow (gc + 1) 60 3 (.slice A n d) n (tiles3 (C.tiles ++ [t]))) :
    RG w0 (w'.setCell ⟨gc, 3, none⟩ (.slice A n d)) gc W H T { C with AT := A, cT := d, tiles := C.tiles ++ [t] } := by
  obtain ⟨h1, h2⟩ := h.two hg (fun g e => own_base h.gw.rT e) 3 (.slice A n d)
  exact ⟨h.gw.setT hg hn ho, h1, h2, h.hgc⟩
theorem RG.setO (h : RG w0 wx gc W H T C) {A : Option Addr} {d n : Nat} {t : Bool} (hg : wx.grownBy w' C.AO'.ownBlock) (hn : n = C.on.length + 1) (ho : w'.ownsRow (gc + 1) 4 1 (.slice A n d) n (bools (C.on ++ [t]))) :
    RG w0 (w'.setCell ⟨gc, 4, none⟩ (.slice A n d)) gc W H T { C with AO := A, cO := d, on := C.on ++ [t] } := by
  obtain ⟨h1, h2⟩ := h.two hg (fun g e => own_base h.gw.rO e) 4 (.slice A n d)
  exact ⟨h.gw.setO hg hn ho, h1, h2, h.hgc⟩
theorem RG.setI (h : RG w0 wx gc W H T C) {A : Option Addr} {d n : Nat} {t : Int} (hU : C.AU'.ownBlock = none) (hg : wx.grownBy w' C.AI'.ownBlock) (hn : n = C.ins.length + 1) (ho : w'.ownsRow (gc + 1) 3 1 (.slice A n d) n (ints (C.ins ++ [t]))) :
    RG w0 (w'.setCell ⟨gc, 5, none⟩ (.slice A n d)) gc W H T { C with AI := A, cI := d, ins := C.ins ++ [t] } := by
  obtain ⟨h1, h2⟩ := h.two hg (fun g e => own_base h.gw.rI e) 5 (.slice A n d)
  exact ⟨h.gw.setI hU hg hn ho, h1, h2, h.hgc⟩
theorem RG.setU (h : RG w0 wx gc W H T C) {A : Option Addr} {d n : Nat} {t : Int} (hg : wx.grownBy w' C.AU'.ownBlock) (hat : (Value.slice A n d).ownBlock = C.AU'.ownBlock ∨ ∀ g, (Value.slice A n d).ownBlock = some g → wx.heap.size ≤ g) (hn : n = C.outs.length + 1) (ho : w'.ownsRow (gc + 1) 3 1 (.slice A n d) n (ints (C.outs ++ [t]))) :
    RG w0 (w'.setCell ⟨gc, 6, none⟩ (.slice A n d)) gc W H T { C with AU := A, cU := d, outs := C.outs ++ [t] } := by
  obtain ⟨h1, h2⟩ := h.two hg (fun g e => own_base h.gw.rU e) 6 (.slice A n d)
  exact ⟨h.gw.setU hg hat hn ho, h1, h2, h.hgc⟩
end
theorem strB_data {l : List Nat} : (strB l).toList = l.map UInt8.ofNat := by rw [Lib.toList_data]; rfl
theorem strB_lists {l m : List Nat} (hl : ∀ x ∈ l, x < 256) (hm : ∀ x ∈ m, x < 256) : ((strB l).toList == (strB m).toList) = decide (l = m) := by
  rw [Bool.eq_iff_iff]
  simp only [beq_iff_eq, decide_eq_true_eq]
  constructor
  · intro h
    refine strB_inj hl hm ?_
    rw [strB_data, strB_data] at h
    unfold strB
    rw [h]
  · rintro rfl; rfl
theorem strB_list {l : List Nat} (hl : ∀ x ∈ l, x < 256) : ((strB l).toList == [70, 71, 66, 49]) = decide (l = magicB) := by
  have h := strB_lists hl (m := magicB) (by decide)
  rwa [show (strB magicB).toList = [70, 71, 66, 49] by rw [strB_data]; rfl] at h
theorem oddT_mono (b : List Nat) (a : Nat) {k m : Nat} (hkm : k ≤ m) (h : oddT b a k = true) : oddT b a m = true := by
  unfold oddT at h ⊢
  simp only [List.any_eq_true, List.mem_range] at h ⊢
  obtain ⟨i, hi, hx⟩ := h
  exact ⟨i, by omega, hx⟩
end Go.Proofs.Ytoloaecbfglaeaa
