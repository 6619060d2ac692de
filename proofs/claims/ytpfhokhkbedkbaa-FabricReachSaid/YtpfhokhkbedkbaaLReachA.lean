/- The law FabricReach: from each track all tracks of the same t are reached, over tracks alone. For every fabric and all numbers; no condition. -/
import Derived.Test.YtpfhokhkbedkbaaFrame
import Derived.Test.YtpfhokhkbedkbaaLWhat
import Derived.Test.YtpfhokhkbedkbaaBox
import Derived.Test.YtpfhokhkbedkbaaFabV
import Derived.Test.YtpfhokhkbedkbaaSmall
import Derived.Test.YtpfhokhkbedkbaaLKindsA
import Derived.BigQuiet
import Derived.Deep.QuietTactic
import Derived.Deep.LoopGhost
import Derived.OwnWalk
namespace Go.Proofs.Ytpfhokhkbedkbaa
open Go.ChangeShapes Go.WideShapes Go.ChangeAt Go.RowKit Go.Joins
set_option linter.unusedVariables false
set_option linter.unusedSimpArgs false

/-- WHAT REACH HOLDS within its loops: the fabric, its switches, the marks -/
structure RW (w0 wx : World) (W H T : Int) (AA : Option Addr) (L : List (Int × Int)) (c base g N : Nat) (M : List Bool) : Prop where
  below : Below w0.heap.size w0 wx
  box : Box3 wx w0.heap.size (.int .i64 W) (.int .i64 H) (.int .i64 T)
  edges : wx.ownsRow base 43 2 (.slice AA L.length c) L.length (pc L)
  met : wx.ownsRow g 4 1 (.slice (some ⟨g, 0, none⟩) N N) N (bc M)
  hg : w0.heap.size < g
  hd : (Value.slice AA L.length c).ownBlock ≠ some g
theorem RW.keep {w0 wx wy : World} {W H T : Int} {AA : Option Addr} {L : List (Int × Int)} {c base g N : Nat} {M : List Bool} (h : RW w0 wx W H T AA L c base g N M) (hb : Below wx.heap.size wx wy) : RW w0 wy W H T AA L c base g N M :=
  ⟨below_then h.below hb, h.box.below hb, own_keep h.edges hb, own_keep h.met hb, h.hg, h.hd⟩
theorem RW.drewN {w0 wx : World} {W H T : Int} {AA : Option Addr} {L : List (Int × Int)} {c base g N : Nat} {M : List Bool} (h : RW w0 wx W H T AA L c base g N M) (k : Nat) : RW w0 (wx.drewN k) W H T AA L c base g N M :=
  ⟨below_drewN h.below k, box_drewN h.box k, own_drewN h.edges k, own_drewN h.met k, h.hg, h.hd⟩
theorem RW.store {w0 wx : World} {W H T : Int} {AA : Option Addr} {L : List (Int × Int)} {c base g N : Nat} {M : List Bool} (h : RW w0 wx W H T AA L c base g N M) (k : Nat) (b : Bool) : RW w0 (wx.setCell ⟨g, k, none⟩ (.bool b)) W H T AA L c base g N (M.set k b) := by
  have hb := h.below.setCell (p := ⟨g, k, none⟩) (Nat.le_of_lt h.hg) (.bool b)
  have hx := h.box
  have hne : ∀ j : Nat, (⟨w0.heap.size, j, none⟩ : Addr) ≠ ⟨g, k, none⟩ → (wx.setCell ⟨g, k, none⟩ (.bool b)).cell? ⟨w0.heap.size, j, none⟩ = wx.cell? ⟨w0.heap.size, j, none⟩ := fun j hj => World.cell?_setCell_other _ _ _ _ (Ne.symm hj)
  have hgn : w0.heap.size ≠ g := by have := h.hg; omega
  refine ⟨hb, ⟨by simpa using hx.lt, ?_, ?_, ?_⟩, ownsRow_setCell_other h.edges h.hd _, ?_, h.hg, h.hd⟩
  · exact (hne 0 (fun e => hgn (by injection e))).trans hx.c0
  · exact (hne 1 (fun e => hgn (by injection e))).trans hx.c1
  · exact (hne 2 (fun e => hgn (by injection e))).trans hx.c2
  · rw [← bc_set]; exact (h.met.stored k (.bool b)).1
theorem RW.cell {w0 wx : World} {W H T : Int} {AA : Option Addr} {L : List (Int × Int)} {c base g N : Nat} {M : List Bool} (h : RW w0 wx W H T AA L c base g N M) {k : Nat} (hk : k < N) : wx.cell? ⟨g, k, none⟩ = some (.bool (M.getD k false)) ∧ wx.frozen? ⟨g, k, none⟩ = false :=
  ⟨(h.met.cellAt k (by omega)).trans (bc_get _ (by have := h.met.1; rw [bc_length] at this; omega)), h.met.frozenAt k⟩
theorem RW.glt {w0 wx : World} {W H T : Int} {AA : Option Addr} {L : List (Int × Int)} {c base g N : Nat} {M : List Bool} (h : RW w0 wx W H T AA L c base g N M) : g < wx.heap.size := (h.met.lt g rfl).2

theorem bool_info : (Try.prog.info? 4).map (fun i => (i.zero, i.size, i.bytes)) = some (some (.bool false), 1, 1) := by kernel_rfl

set_option maxRecDepth 100000 in
set_option maxHeartbeats 4000000 in
theorem reach_large (W H T f : Int) (w : World) (hs : smallB W H T = false) :
    Calls Try.prog 7 #[.agg #[.int .i64 W, .int .i64 H, .int .i64 T], .int .i64 f] w fun e w' => e = .returned (.bool true) ∧ Below w.heap.size w w' := by
  have Q0 := below_new w (.cells #[.int .i64 W, .int .i64 H, .int .i64 T] 23)
  have B0 := Box3.new w (.int .i64 W) (.int .i64 H) (.int .i64 T) 23
  go_enter Try.func7, Try.ntmps7
  go_wp2_with fail
  refine (live_any _).mono ?_
  rintro e w1 ⟨rfl, hb1⟩
  have Q1 := below_then Q0 hb1
  have B1 := Box3.below B0 hb1
  clear hb1
  obtain ⟨z1, k10, k11, k12⟩ := id B1
  go_wp2_with fail
  refine (small_any _ _ _ _).mono ?_
  rintro e w2 ⟨rfl, hb2⟩
  have Q2 := below_then Q1 hb2
  have B2 := Box3.below B1 hb2
  clear hb2
  obtain ⟨z2, k20, k21, k22⟩ := id B2
  go_wp2_with fail
  go_ret
  exact ⟨rfl, Q2⟩

set_option maxRecDepth 100000 in
set_option maxHeartbeats 4000000 in
theorem reach_no (W H T f : Int) (w : World) (hs : smallB W H T = true) (h : ¬ okA W H T) :
    Calls Try.prog 7 #[.agg #[.int .i64 W, .int .i64 H, .int .i64 T], .int .i64 f] w fun e w' => e = .returned (.bool true) ∧ Below w.heap.size w w' := by
  have Q0 := below_new w (.cells #[.int .i64 W, .int .i64 H, .int .i64 T] 23)
  have B0 := Box3.new w (.int .i64 W) (.int .i64 H) (.int .i64 T) 23
  go_enter Try.func7, Try.ntmps7
  go_wp2_with fail
  refine (live_any _).mono ?_
  rintro e w1 ⟨rfl, hb1⟩
  have Q1 := below_then Q0 hb1
  have B1 := Box3.below B0 hb1
  clear hb1
  obtain ⟨z1, k10, k11, k12⟩ := id B1
  go_wp2_with fail
  refine (small_any _ _ _ _).mono ?_
  rintro e w2 ⟨rfl, hb2⟩
  have Q2 := below_then Q1 hb2
  have B2 := Box3.below B1 hb2
  clear hb2
  obtain ⟨z2, k20, k21, k22⟩ := id B2
  go_wp2_with fail
  refine (track_c _ _ _ _ _).mono ?_
  rintro e w3 ⟨rfl, hb3⟩
  have Q3 := below_then Q2 hb3
  have B3 := Box3.below B2 hb3
  clear hb3
  obtain ⟨z3, k30, k31, k32⟩ := id B3
  go_wp2_with fail
  refine (edges_no _ _ _ _ h).mono ?_
  rintro e w4 ⟨rfl, hb4⟩
  have Q4 := below_then Q3 hb4
  have B4 := Box3.below B3 hb4
  clear hb4
  obtain ⟨z4, k40, k41, k42⟩ := id B4
  go_wp2_with fail
  go_ret
  exact ⟨rfl, Q4⟩

set_option maxRecDepth 100000 in
set_option maxHeartbeats 4000000 in
theorem reach_off (W H T f : Int) (w : World) (hs : smallB W H T = true) (h : okA W H T) (hf : trackB W H T f = false) :
    Calls Try.prog 7 #[.agg #[.int .i64 W, .int .i64 H, .int .i64 T], .int .i64 f] w fun e w' => e = .returned (.bool true) ∧ Below w.heap.size w w' := by
  have Q0 := below_new w (.cells #[.int .i64 W, .int .i64 H, .int .i64 T] 23)
  have B0 := Box3.new w (.int .i64 W) (.int .i64 H) (.int .i64 T) 23
  go_enter Try.func7, Try.ntmps7
  go_wp2_with fail
  refine (live_any _).mono ?_
  rintro e w1 ⟨rfl, hb1⟩
  have Q1 := below_then Q0 hb1
  have B1 := Box3.below B0 hb1
  clear hb1
  obtain ⟨z1, k10, k11, k12⟩ := id B1
  go_wp2_with fail
  refine (small_any _ _ _ _).mono ?_
  rintro e w2 ⟨rfl, hb2⟩
  have Q2 := below_then Q1 hb2
  have B2 := Box3.below B1 hb2
  clear hb2
  obtain ⟨z2, k20, k21, k22⟩ := id B2
  go_wp2_with fail
  refine (track_c _ _ _ _ _).mono ?_
  rintro e w3 ⟨rfl, hb3⟩
  have Q3 := below_then Q2 hb3
  have B3 := Box3.below B2 hb3
  clear hb3
  obtain ⟨z3, k30, k31, k32⟩ := id B3
  go_wp2_with fail
  refine (edges_yes _ _ _ _ h).mono ?_
  rintro e w4 ⟨v, rfl, hb4, hown⟩
  have Q4 := below_then Q3 hb4
  clear hown
  go_wp2_with fail
  go_ret
  exact ⟨rfl, Q4⟩
end Go.Proofs.Ytpfhokhkbedkbaa
